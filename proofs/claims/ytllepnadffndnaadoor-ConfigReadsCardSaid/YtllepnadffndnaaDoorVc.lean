/- The conditions of code: what is to be shown, over known slots and known blocks. -/
import Derived.Test.YtllepnadffndnaaDoorEng
namespace Go.Proofs.YtllepnadffndnaaDoor
open Go.RowKit

/-! ### A table of types -/
inductive TD where
  | int (k : IntKind) | bool | str | ptr | iface
  | slice (e : TypeId) (es : Nat)
  | arr (n : Nat) (e : TypeId) (es : Nat)
  | struct (fs : List (Nat × TypeId)) (size : Nat)
  | other
abbrev Tab := List (Nat × TD)
def Tab.find : Tab → Nat → Option TD
  | [], _ => none
  | (j, d) :: T, i => bif Nat.beq j i then some d else Tab.find T i
def TD.agg : TD → Bool | .arr .. | .struct .. => true | _ => false
def TD.size : TD → Nat | .arr n _ es => n * es | .struct _ s => s | _ => 1

def sizeB (P : Program) (t : TypeId) (n : Nat) : Bool := match P.info? t with | some i => i.size == n | none => false
def sizePos (P : Program) (t : TypeId) : Bool := match P.info? t with | some i => decide (0 < i.size) | none => false
/-- The fields lie one behind the other. -/
def contig (P : Program) : List (Nat × TypeId) → Nat → Bool
  | [], _ => true
  | (o, t) :: fs, n => o == n && match P.info? t with | some i => contig P fs (n + i.size) | none => false
def TD.fitsB (P : Program) (t : TypeId) (d : TD) : Bool :=
  sizeB P t d.size && match d, P.underlying t with
  | .int k, some (.int k') => decide (k = k')
  | .bool, some .bool => true
  | .str, some .string => true
  | .ptr, some (.pointer _) => true
  | .iface, some (.interface _) => true
  | .slice e es, some (.slice e') => decide (e = e') && sizeB P e es
  | .arr n e es, some (.array n' e') => decide (n = n') && decide (e = e') && sizeB P e es
  | .struct fs _, some (.struct fields) => decide (fields.toList.map (fun f => (f.offset, f.type)) = fs) && fields.toList.all (fun f => sizePos P f.type) && contig P fs 0
  | .other, some d => (match d with | .struct _ | .array _ _ => false | _ => true)
  | _, _ => false
/-- Plain values, compared. -/
def veq : Value → Value → Bool
  | .int k a, .int j b => decide (k = j) && decide (a = b)
  | .bool a, .bool b => a == b
  | .string a, .string b => decide (a.data = b.data)
  | .pointer none, .pointer none => true
  | .slice none 0 0, .slice none 0 0 => true
  | .map none, .map none => true
  | .nilFunc, .nilFunc => true
  | .nilIface, .nilIface => true
  | _, _ => false
theorem veq_eq {a b : Value} (h : veq a b = true) : a = b := by
  unfold veq at h
  split at h <;> simp_all
  cases ‹ByteArray›; cases ‹ByteArray›; simp_all
/-- The zero cells of a type, laid in front of others. -/
def zeroAcc (T : Tab) : Nat → Nat → List SV → Option (List SV)
  | 0, _, _ => none
  | f + 1, t, acc => match Tab.find T t with
    | some (.int k) => some (.val (.int k 0) :: acc)
    | some .bool => some (.val (.bool false) :: acc)
    | some .str => some (.val (.string ⟨#[]⟩) :: acc)
    | some .ptr => some (.val (.pointer none) :: acc)
    | some (.slice ..) => some (.val (.slice none 0 0) :: acc)
    | some (.arr n e _) => n.rec (some acc) (fun _ r => match r with | some a => zeroAcc T f e a | none => none)
    | some (.struct fs _) => fs.foldr (fun x r => match r with | some a => zeroAcc T f x.2 a | none => none) (some acc)
    | _ => none
def veqAll : List SV → List Value → Bool
  | [], [] => true
  | a :: x, b :: y => veq a.den b && veqAll x y
  | _, _ => false
theorem veqAll_eq : ∀ {x : List SV} {y : List Value}, veqAll x y = true → x.map SV.den = y
  | [], [], _ => rfl
  | a :: x, b :: y, h => by
    simp only [veqAll, Bool.and_eq_true] at h
    simp [veq_eq h.1, veqAll_eq h.2]
  | [], _ :: _, h => by cases h
  | _ :: _, [], h => by cases h
def zeroB (P : Program) (T : Tab) (t : TypeId) : Bool :=
  match zeroAcc T 9 t [], (P.info? t).bind (·.zero) with
  | some z, some v => veqAll z v.cells.toList
  | none, _ => true
  | _, _ => false
def tabB (P : Program) (T : Tab) : Bool := T.all fun x => x.2.fitsB P x.1 && zeroB P T x.1

structure TabOK (P : Program) (T : Tab) : Prop where
  all : tabB P T = true
theorem Tab.find_mem : ∀ {T : Tab} {t : Nat} {d : TD}, Tab.find T t = some d → (t, d) ∈ T
  | (j, e) :: T, t, d, h => by
    have h' : (bif Nat.beq j t then some e else Tab.find T t) = some d := h
    by_cases hj : j = t
    · subst hj; simp at h'; subst h'; exact List.mem_cons_self
    · simp only [beq_ne hj, cond_false] at h'
      exact List.mem_cons_of_mem _ (Tab.find_mem h')
theorem TabOK.fits {P : Program} {T : Tab} (h : TabOK P T) {t : Nat} {d : TD} (ht : Tab.find T t = some d) : d.fitsB P t = true := by
  have := List.all_eq_true.1 h.all _ (Tab.find_mem ht)
  simp only [Bool.and_eq_true] at this
  exact this.1
theorem TabOK.zero {P : Program} {T : Tab} (h : TabOK P T) {t : Nat} {z : List SV} (hz : zeroAcc T 9 t [] = some z) (w : World) :
    ∃ v : Value, (zeroValue t).run P w = .ok v w ∧ v.cells.toList = z.map SV.den := by
  have hd : ∃ d, Tab.find T t = some d := by
    cases hf : Tab.find T t with
    | none => simp [zeroAcc, hf] at hz
    | some d => exact ⟨d, rfl⟩
  obtain ⟨d, hd⟩ := hd
  have := List.all_eq_true.1 h.all _ (Tab.find_mem hd)
  simp only [Bool.and_eq_true] at this
  have h2 := this.2
  unfold zeroB at h2
  rw [hz] at h2
  cases hi : P.info? t with
  | none => simp [hi] at h2
  | some i =>
    cases hv : i.zero with
    | none => simp [hi, hv] at h2
    | some v =>
      simp [hi, hv] at h2
      exact ⟨v, by simp [zeroValue, typeInfo, hi, hv], (veqAll_eq h2).symm⟩

theorem info_of_size {P : Program} {t : TypeId} {n : Nat} (h : sizeB P t n = true) : (P.info? t).map (·.size) = some n := by
  unfold sizeB at h
  split at h
  · rename_i i hi; simp at h; simp [hi, h]
  · cases h
theorem run_sizeOf_of {P : Program} {t : TypeId} {n : Nat} (h : sizeB P t n = true) (w : World) : (sizeOf t).run P w = .ok n w := by
  unfold sizeB at h
  split at h
  · rename_i i hi; simp at h; simp [sizeOf, typeInfo, hi, h]
  · cases h
theorem TD.fits_size {P : Program} {t : TypeId} {d : TD} (h : d.fitsB P t = true) : sizeB P t d.size = true := by
  unfold TD.fitsB at h; simp only [Bool.and_eq_true] at h; exact h.1
theorem TD.fits_agg {P : Program} {t : TypeId} {d : TD} (h : d.fitsB P t = true) (w : World) : (isAgg t).run P w = .ok d.agg w := by
  unfold TD.fitsB at h
  simp only [Bool.and_eq_true] at h
  have h2 := h.2
  split at h2 <;> first | (rename_i hu; simp [isAgg, run_underlying hu, TD.agg]; done) | (cases h2; done) | skip
  · rename_i hu
    split at h2
    · cases h2
    · cases h2
    · rename_i hs ha
      unfold isAgg
      rw [Sem.run_bind, run_underlying hu]
      rename_i d' _
      cases d' <;> simp_all [TD.agg]
theorem TD.fits_int {P : Program} {t : TypeId} {k : IntKind} (h : (TD.int k).fitsB P t = true) : P.underlying t = some (.int k) := by
  unfold TD.fitsB at h
  simp only [Bool.and_eq_true] at h
  obtain ⟨_, h⟩ := h
  cases hu : P.underlying t with
  | none => simp [hu] at h
  | some d => cases d <;> simp_all
theorem TD.fits_bool {P : Program} {t : TypeId} (h : TD.bool.fitsB P t = true) : P.underlying t = some .bool := by
  unfold TD.fitsB at h
  simp only [Bool.and_eq_true] at h
  obtain ⟨_, h⟩ := h
  cases hu : P.underlying t with
  | none => simp [hu] at h
  | some d => cases d <;> simp_all
theorem TD.fits_str {P : Program} {t : TypeId} (h : TD.str.fitsB P t = true) : P.underlying t = some .string := by
  unfold TD.fitsB at h
  simp only [Bool.and_eq_true] at h
  obtain ⟨_, h⟩ := h
  cases hu : P.underlying t with
  | none => simp [hu] at h
  | some d => cases d <;> simp_all
theorem TD.fits_slice {P : Program} {t e : TypeId} {es : Nat} (h : (TD.slice e es).fitsB P t = true) : P.underlying t = some (.slice e) ∧ sizeB P e es = true := by
  unfold TD.fitsB at h
  simp only [Bool.and_eq_true] at h
  obtain ⟨_, h⟩ := h
  cases hu : P.underlying t with
  | none => simp [hu] at h
  | some d =>
    cases d <;> simp [hu] at h ⊢
    obtain ⟨h1, h2⟩ := h
    first | (subst h1; exact ⟨rfl, h2⟩) | (obtain ⟨h1, h3⟩ := h1; subst h1; subst h3; exact ⟨⟨rfl, rfl⟩, h2⟩)
theorem TD.fits_arr {P : Program} {t e : TypeId} {n es : Nat} (h : (TD.arr n e es).fitsB P t = true) : P.underlying t = some (.array n e) ∧ sizeB P e es = true := by
  unfold TD.fitsB at h
  simp only [Bool.and_eq_true] at h
  obtain ⟨_, h⟩ := h
  cases hu : P.underlying t with
  | none => simp [hu] at h
  | some d =>
    cases d <;> simp [hu] at h ⊢
    obtain ⟨h1, h2⟩ := h
    first | (subst h1; exact ⟨rfl, h2⟩) | (obtain ⟨h1, h3⟩ := h1; subst h1; subst h3; exact ⟨⟨rfl, rfl⟩, h2⟩)
theorem TD.fits_struct {P : Program} {t : TypeId} {fs : List (Nat × TypeId)} {sz : Nat} (h : (TD.struct fs sz).fitsB P t = true) :
    ∃ fields : Array Field, P.underlying t = some (.struct fields) ∧ fields.toList.map (fun f => (f.offset, f.type)) = fs ∧ fields.toList.all (fun f => sizePos P f.type) = true ∧ contig P fs 0 = true := by
  unfold TD.fitsB at h
  simp only [Bool.and_eq_true] at h
  obtain ⟨_, h⟩ := h
  cases hu : P.underlying t with
  | none => simp [hu] at h
  | some d =>
    cases d <;> simp only [hu, Bool.false_eq_true, Bool.and_eq_true, decide_eq_true_eq] at h
    exact ⟨_, rfl, h.1.1, h.1.2, h.2⟩
theorem TD.fits_some {P : Program} {t : TypeId} {d : TD} (h : d.fitsB P t = true) : ∃ x, P.underlying t = some x := by
  unfold TD.fitsB at h
  simp only [Bool.and_eq_true] at h
  obtain ⟨_, h⟩ := h
  cases hu : P.underlying t with
  | none => simp [hu] at h
  | some x => exact ⟨x, rfl⟩
end Go.Proofs.YtllepnadffndnaaDoor
