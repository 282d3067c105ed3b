/- Parts of a proof, one behind the other: Base, Opens, Eng, Vc, Op, OpOk, M1, M2, M3, Code, Slice, Eq, M4, M5, M6, M7, M8, M9, M10, M11, M12. -/
import Derived.WalkKit
import Derived.ProofKit
import Derived.OpenShut
import Derived.OwnWalk
import Derived.Deep.QuietTactic
import Derived.BigQuiet
import Derived.Deep.LoopGhost
import Derived.Deep.MidRow
import Derived.Deep.WholeRow
import Derived.Deep.Slices
import Derived.Lib.Hide
import GoSem.ClaimJoined
import Derived.Orders
import Derived.OrdersHeld
import Derived.Shelf.Abstract
import Derived.ChangeKeysEq
import Derived.Laws.Cover4
import Derived.Lib.FrozenHead
import Derived.Laws.IdiomStrings
import Derived.Lib.AppendStr
import Derived.Lib.FrozenHead2
import Derived.MapKept
import Derived.Test.YtbiaaogbohfimaaGreatDoorRows
import Derived.Test.YtbiaaogbohfimaaGreatDoorProg
import Derived.Shelf.Small.Bits
import Derived.Shelf.Small.Strs
import Derived.Shelf.Strconv.Itoa0
import Derived.Shelf.LaysM
import Derived.Shelf.Strconv.Clone
import Derived.Shelf.Strconv.SyntaxError
import Derived.Shelf.Strconv.RangeError
import Derived.Shelf.Strings.Search1
import Derived.Shelf.Strings.Search2
import Derived.Shelf.Strings.Search3
import Derived.Shelf.Strings.Cut
import Derived.Shelf.Strings.Shaped
import Derived.Shelf.Bits.Mul64
import Derived.Shelf.Unicode.DecodeSlow
import Derived.Shelf.Unicode.DecodeAny
import Derived.LoopN
import Derived.Lib.AppendZeros
import Derived.Laws.Externs
import Derived.Lib.ReflectliteSwap
import Derived.Shelf.LaysC
import Derived.Shelf.Strconv.ToError
import Derived.Shelf.Strconv.ToErrorRange
import Derived.Lib.LaidTab
import Derived.Lib.ItoaNum
import Derived.Test.YtbiaaogbohfimaaGreatDoorCards
import Derived.Test.YtbiaaogbohfimaaGreatDoorTie
import Derived.Deep.DeepHandedRow
import Derived.Lib.LaidU8T
import Derived.Lib.TrailingZeros
import Derived.Lay
import Derived.Stop.LaidErr
import Derived.Stop.Joined
import Derived.Deep.RegionLaw
import Derived.Lib.Walk
import Derived.Shelf.RegionOpenPlain
import Derived.Lib.Builder
import Derived.Lib.UnsafeStr
import Derived.Lib.Strings
import Derived.Lib.Slices
import Derived.Laws.IdiomCopy
import Derived.Shelf.Strings.Builder1
import Derived.Shelf.Strings.Builder2
import Derived.Shelf.Strings.OnBuilder
import Derived.Shelf.Strconv.Itoa1
import Derived.Shelf.Strconv.Itoa2
import Derived.Lib.AppendIntMem
import Derived.BigCall
import Derived.BigGuard
import Derived.Lib.Join
set_option maxRecDepth 20000
set_option maxHeartbeats 16000000
set_option linter.unusedVariables false
set_option linter.unusedSimpArgs false
namespace Go.Proofs.YtbiaaogbohfimaaGreatDoor
open Go.RowKit
theorem bx : (∀ {p : Prop} [Decidable p], (decide p = true) = p) ∧ (∀ {p : Prop} [Decidable p], (decide p = false) ↔ ¬p) ∧ (∀ {α : Type} [BEq α] [LawfulBEq α] {a b : α}, (a == b) = true ↔ a = b) ∧ (∀ {α : Type} [BEq α] [LawfulBEq α] {a b : α}, (a != b) = true ↔ a ≠ b) ∧ (∀ {α : Type} (a b : α), (a ≠ b) = ¬(a = b)) ∧ ((!true) = false) ∧ ((!false) = true) ∧ (∀ {α : Type} [BEq α] [LawfulBEq α] {a b : α}, (a == b) = false ↔ a ≠ b) ∧ (∀ {α : Type} [BEq α] [LawfulBEq α] {a b : α}, (a != b) = false ↔ a = b) ∧ (∀ (b : Bool), (¬b = true) = (b = false)) ∧ (∀ (b : Bool), (¬b = false) = (b = true)) ∧ (∀ {a b : Bool}, (!a) = b ↔ a = !b) :=
 ⟨decide_eq_true_eq, decide_eq_false_iff_not, beq_iff_eq, bne_iff_ne, ne_eq, Bool.not_true, Bool.not_false, beq_eq_false_iff_ne, bne_eq_false_iff_eq, Bool.not_eq_true, Bool.not_eq_false, Bool.not_eq_eq_eq_not⟩
section
abbrev Fp := Nat → Prop
theorem rangeAt_keep {w w' : World} {b o : Nat} {cs : List Value} (h : w.rangeAt b o cs) (hw : b < w.heap.size → w'.heap[b]? = w.heap[b]?) : w'.rangeAt b o cs := fun j v hv => by
 have hc := h j v hv
 have hlt := World.block_lt_of_cell? w _ hc
 rw [World.cell?_of_block (w := w) (w' := w') (hw hlt)]
 exact hc
def Blk (w : World) (g : Nat) (t : TypeId) (cs : Array Value) : Prop := w.heap[g]? = some (.cells cs t (0, 0))
end
section
open Go.RowKit Go.ChangeShapes Go.Deep
theorem reach_le : reachBytes ≤ 140737488355328 := by decide
theorem weightsAll_mem {H : Type} {P : Program} {e : TypeId} {l : List (DataW H)} (h : (DataW.weightsAll P e l).all (· ≤ reachBytes) = true) {d : DataW H} (hd : d ∈ l) : (d.weights P e).all (· ≤ reachBytes) = true := by
 induction l with
 | nil => cases hd
 | cons x l ih =>
  simp only [DataW.weightsAll, List.all_append, Bool.and_eq_true] at h
  rcases List.mem_cons.1 hd with rfl | hd
  ·exact h.1
  ·exact ih h.2 hd
end
section
inductive SV where
 | val (v : Value)
 | ptr (i g off : Nat)
 | lit (b : Bool)
 deriving Inhabited
structure KB where
 g : Nat
 t : TypeId
 cs : List SV
abbrev Mem := List (Nat × KB)
abbrev Env := List (Nat × SV)
abbrev Hist := List (World × Fp)
def Mem.find : Mem → Nat → Option KB
 | [], _ => none
 | (j, kb) :: M, i => bif Nat.beq j i then some kb else Mem.find M i
def Env.get : Env → Nat → Option SV
 | [], _ => none
 | (j, v) :: E, i => bif Nat.beq j i then some v else Env.get E i
def SV.den : SV → Value
 | .val v => v
 | .ptr _ g off => .pointer (some ⟨g, off, none⟩)
 | .lit b => .bool b
structure Since (ex : Fp) (h w : World) : Prop where
 os : w.os = h.os
 tape : w.tape = h.tape
 output : w.output = h.output
 size : h.heap.size ≤ w.heap.size
 block : ∀ b, b < h.heap.size → ¬ ex b → w.heap[b]? = h.heap[b]?
structure A (M : Mem) (H : Hist) (w : World) : Prop where
 blk : ∀ i kb, M.find i = some kb → Blk w kb.g kb.t (kb.cs.map SV.den).toArray
 apart : ∀ i j ki kj, M.find i = some ki → M.find j = some kj → i ≠ j → ki.g ≠ kj.g
 since : ∀ p ∈ H, Since p.2 p.1 w
 fresh : ∀ p ∈ H, ∀ i kb, M.find i = some kb → p.2 kb.g ∨ p.1.heap.size ≤ kb.g
def ev (E : Env) : Operand → Option SV
 | .tmp t => E.get t
 | .const v => some (.val v)
 | .global g => some (.val (.pointer (some ⟨g, 0, none⟩)))
 | .func f => some (.val (.func (.func f) #[] #[]))
theorem beq_ne {d t : Nat} (h : ¬ d = t) : Nat.beq d t = false := by
 cases hb : Nat.beq d t with
 | false => rfl
 | true => exact absurd (Nat.eq_of_beq_eq_true hb) h
theorem Since.refl (ex : Fp) (w : World) : Since ex w w := ⟨rfl, rfl, rfl, Nat.le_refl _, fun _ _ _ => rfl⟩
theorem Since.of_below {w w' : World} (h : Below w.heap.size w w') : Since (fun _ => False) w w' := ⟨h.os, h.tape, h.output, h.size, fun b hb _ => h.block b hb⟩
theorem Since.below {h w : World} (k : Since (fun _ => False) h w) : Below h.heap.size h w := ⟨k.os, k.tape, k.output, k.size, fun b hb => k.block b hb (fun e => e)⟩
end
section
inductive TD where
 | int (k : IntKind) | bool | str | ptr | iface
 | slice (e : TypeId) (es : Nat)
 | arr (n : Nat) (e : TypeId) (es : Nat)
 | struct (fs : List (Nat × TypeId)) (size : Nat)
 | fn
 | other
abbrev Tab := List (Nat × TD)
def Tab.find : Tab → Nat → Option TD
 | [], _ => none
 | (j, d) :: T, i => bif Nat.beq j i then some d else Tab.find T i
def TD.agg : TD → Bool | .arr .. | .struct .. => true | _ => false
def TD.size : TD → Nat | .arr n _ es => n * es | .struct _ s => s | _ => 1
def sizeB (P : Program) (t : TypeId) (n : Nat) : Bool := match P.info? t with | some i => i.size == n | none => false
def sizePos (P : Program) (t : TypeId) : Bool := match P.info? t with | some i => decide (0 < i.size) | none => false
def contig (P : Program) : List (Nat × TypeId) → Nat → Bool
 | [], _ => true
 | (o, t) :: fs, n => o == n && match P.info? t with | some i => contig P fs (n + i.size) | none => false
def TD.fitsB (P : Program) (t : TypeId) (d : TD) : Bool :=
 sizeB P t d.size && match d, P.underlying t with
 | .int k, some (.int k') => decide (k = k')
 | .bool, some .bool => true
 | .str, some .string => true
 | .ptr, some (.pointer _) => true
 | .ptr, some .unsafePointer => true
 | .iface, some (.interface _) => true
 | .slice e es, some (.slice e') => decide (e = e') && sizeB P e es
 | .arr n e es, some (.array n' e') => decide (n = n') && decide (e = e') && sizeB P e es
 | .struct fs _, some (.struct fields) => decide (fields.toList.map (fun f => (f.offset, f.type)) = fs) && fields.toList.all (fun f => sizePos P f.type) && contig P fs 0
 | .fn, some (.func ..) => true
 | .other, some d => (match d with | .struct _ | .array _ _ => false | _ => true)
 | _, _ => false
def veq : Value → Value → Bool
 | .int k a, .int j b => decide (k = j) && decide (a = b)
 | .bool a, .bool b => a == b
 | .string a, .string b => decide (a.data = b.data)
 | .pointer none, .pointer none => true
 | .slice none 0 0, .slice none 0 0 => true
 | .map none, .map none => true
 | .nilFunc, .nilFunc => true
 | .nilIface, .nilIface => true
 | _, _ => false
theorem veq_eq {a b : Value} (h : veq a b = true) : a = b := by
 unfold veq at h
 split at h <;> simp_all
 cases ‹ByteArray›; cases ‹ByteArray›; simp_all
def zeroAcc (T : Tab) : Nat → Nat → List SV → Option (List SV)
 | 0, _, _ => none
 | f + 1, t, acc => match Tab.find T t with
  | some (.int k) => some (.val (.int k 0) :: acc)
  | some .bool => some (.val (.bool false) :: acc)
  | some .str => some (.val (.string ⟨#[]⟩) :: acc)
  | some .ptr => some (.val (.pointer none) :: acc)
  | some .iface => some (.val .nilIface :: acc)
  | some .fn => some (.val .nilFunc :: acc)
  | some (.slice ..) => some (.val (.slice none 0 0) :: acc)
  | some (.arr n e _) => n.rec (some acc) (fun _ r => match r with | some a => zeroAcc T f e a | none => none)
  | some (.struct fs _) => fs.foldr (fun x r => match r with | some a => zeroAcc T f x.2 a | none => none) (some acc)
  | _ => none
def veqAll : List SV → List Value → Bool
 | [], [] => true
 | a :: x, b :: y => veq a.den b && veqAll x y
 | _, _ => false
theorem veqAll_eq : ∀ {x : List SV} {y : List Value}, veqAll x y = true → x.map SV.den = y
 | [], [], _ => rfl
 | a :: x, b :: y, h => by
  simp only [veqAll, Bool.and_eq_true] at h
  simp [veq_eq h.1, veqAll_eq h.2]
 | [], _ :: _, h => by cases h
 | _ :: _, [], h => by cases h
def zeroB (P : Program) (T : Tab) (t : TypeId) : Bool :=
 match zeroAcc T 9 t [], (P.info? t).bind (·.zero) with
 | some z, some v => veqAll z v.cells.toList
 | none, _ => true
 | _, _ => false
def tabB (P : Program) (T : Tab) : Bool := T.all fun x => x.2.fitsB P x.1 && zeroB P T x.1
structure TabOK (P : Program) (T : Tab) : Prop where
 all : tabB P T = true
theorem Tab.find_mem : ∀ {T : Tab} {t : Nat} {d : TD}, Tab.find T t = some d → (t, d) ∈ T
 | (j, e) :: T, t, d, h => by
  have h' : (bif Nat.beq j t then some e else Tab.find T t) = some d := h
  by_cases hj : j = t
  ·subst hj; simp at h'; subst h'; exact List.mem_cons_self
  ·simp only [beq_ne hj, cond_false] at h'
   exact List.mem_cons_of_mem _ (Tab.find_mem h')
theorem TabOK.fits {P : Program} {T : Tab} (h : TabOK P T) {t : Nat} {d : TD} (ht : Tab.find T t = some d) : d.fitsB P t = true := by
 have := List.all_eq_true.1 h.all _ (Tab.find_mem ht)
 simp only [Bool.and_eq_true] at this
 exact this.1
theorem TabOK.zero {P : Program} {T : Tab} (h : TabOK P T) {t : Nat} {z : List SV} (hz : zeroAcc T 9 t [] = some z) (w : World) :
  ∃ v : Value, (zeroValue t).run P w = .ok v w ∧ v.cells.toList = z.map SV.den := by
 have hd : ∃ d, Tab.find T t = some d := by
  cases hf : Tab.find T t with
  | none => simp [zeroAcc, hf] at hz
  | some d => exact ⟨d, rfl⟩
 obtain ⟨d, hd⟩ := hd
 have := List.all_eq_true.1 h.all _ (Tab.find_mem hd)
 simp only [Bool.and_eq_true] at this
 have h2 := this.2
 unfold zeroB at h2
 rw [hz] at h2
 cases hi : P.info? t with
 | none => simp [hi] at h2
 | some i =>
  cases hv : i.zero with
  | none => simp [hi, hv] at h2
  | some v =>
   simp [hi, hv] at h2
   exact ⟨v, by simp [zeroValue, typeInfo, hi, hv], (veqAll_eq h2).symm⟩
theorem run_sizeOf_of {P : Program} {t : TypeId} {n : Nat} (h : sizeB P t n = true) (w : World) : (sizeOf t).run P w = .ok n w := by
 unfold sizeB at h
 split at h
 ·rename_i i hi; simp at h; simp [sizeOf, typeInfo, hi, h]
 ·cases h
theorem TD.fits_size {P : Program} {t : TypeId} {d : TD} (h : d.fitsB P t = true) : sizeB P t d.size = true := by
 unfold TD.fitsB at h; simp only [Bool.and_eq_true] at h; exact h.1
theorem TD.fits_agg {P : Program} {t : TypeId} {d : TD} (h : d.fitsB P t = true) (w : World) : (isAgg t).run P w = .ok d.agg w := by
 unfold TD.fitsB at h
 simp only [Bool.and_eq_true] at h
 have h2 := h.2
 split at h2 <;> first | (rename_i hu; simp [isAgg, run_underlying hu, TD.agg]; done) | (cases h2; done) | skip
 ·rename_i hu
  split at h2
  ·cases h2
  ·cases h2
  ·rename_i hs ha
   unfold isAgg
   rw [Sem.run_bind, run_underlying hu]
   rename_i d' _
   cases d' <;> simp_all [TD.agg]
theorem TD.fits_int {P : Program} {t : TypeId} {k : IntKind} (h : (TD.int k).fitsB P t = true) : P.underlying t = some (.int k) := by
 unfold TD.fitsB at h
 simp only [Bool.and_eq_true] at h
 obtain ⟨_, h⟩ := h
 cases hu : P.underlying t with
 | none => simp [hu] at h
 | some d => cases d <;> simp_all
theorem TD.fits_bool {P : Program} {t : TypeId} (h : TD.bool.fitsB P t = true) : P.underlying t = some .bool := by
 unfold TD.fitsB at h
 simp only [Bool.and_eq_true] at h
 obtain ⟨_, h⟩ := h
 cases hu : P.underlying t with
 | none => simp [hu] at h
 | some d => cases d <;> simp_all
theorem TD.fits_str {P : Program} {t : TypeId} (h : TD.str.fitsB P t = true) : P.underlying t = some .string := by
 unfold TD.fitsB at h
 simp only [Bool.and_eq_true] at h
 obtain ⟨_, h⟩ := h
 cases hu : P.underlying t with
 | none => simp [hu] at h
 | some d => cases d <;> simp_all
theorem TD.fits_slice {P : Program} {t e : TypeId} {es : Nat} (h : (TD.slice e es).fitsB P t = true) : P.underlying t = some (.slice e) ∧ sizeB P e es = true := by
 unfold TD.fitsB at h
 simp only [Bool.and_eq_true] at h
 obtain ⟨_, h⟩ := h
 cases hu : P.underlying t with
 | none => simp [hu] at h
 | some d =>
  cases d <;> simp [hu] at h ⊢
  obtain ⟨h1, h2⟩ := h
  first | (subst h1; exact ⟨rfl, h2⟩) | (obtain ⟨h1, h3⟩ := h1; subst h1; subst h3; exact ⟨⟨rfl, rfl⟩, h2⟩)
theorem TD.fits_arr {P : Program} {t e : TypeId} {n es : Nat} (h : (TD.arr n e es).fitsB P t = true) : P.underlying t = some (.array n e) ∧ sizeB P e es = true := by
 unfold TD.fitsB at h
 simp only [Bool.and_eq_true] at h
 obtain ⟨_, h⟩ := h
 cases hu : P.underlying t with
 | none => simp [hu] at h
 | some d =>
  cases d <;> simp [hu] at h ⊢
  obtain ⟨h1, h2⟩ := h
  first | (subst h1; exact ⟨rfl, h2⟩) | (obtain ⟨h1, h3⟩ := h1; subst h1; subst h3; exact ⟨⟨rfl, rfl⟩, h2⟩)
theorem TD.fits_struct {P : Program} {t : TypeId} {fs : List (Nat × TypeId)} {sz : Nat} (h : (TD.struct fs sz).fitsB P t = true) :
  ∃ fields : Array Field, P.underlying t = some (.struct fields) ∧ fields.toList.map (fun f => (f.offset, f.type)) = fs ∧ fields.toList.all (fun f => sizePos P f.type) = true ∧ contig P fs 0 = true := by
 unfold TD.fitsB at h
 simp only [Bool.and_eq_true] at h
 obtain ⟨_, h⟩ := h
 cases hu : P.underlying t with
 | none => simp [hu] at h
 | some d =>
  cases d <;> simp only [hu, Bool.false_eq_true, Bool.and_eq_true, decide_eq_true_eq] at h
  exact ⟨_, rfl, h.1.1, h.1.2, h.2⟩
theorem TD.fits_some {P : Program} {t : TypeId} {d : TD} (h : d.fitsB P t = true) : ∃ x, P.underlying t = some x := by
 unfold TD.fitsB at h
 simp only [Bool.and_eq_true] at h
 obtain ⟨_, h⟩ := h
 cases hu : P.underlying t with
 | none => simp [hu] at h
 | some x => exact ⟨x, rfl⟩
end
section
def nth {α : Type} : List α → Nat → Option α
 | [], _ => none
 | x :: _, 0 => some x
 | _ :: l, n + 1 => nth l n
theorem nth_eq {α : Type} : ∀ (l : List α) (n : Nat), nth l n = l[n]?
 | [], _ => by simp [nth]
 | x :: l, 0 => rfl
 | x :: l, n + 1 => by simp [nth, nth_eq l n]
def setN {α : Type} : List α → Nat → α → Option (List α)
 | [], _, _ => none
 | _ :: l, 0, v => some (v :: l)
 | x :: l, n + 1, v => match setN l n v with | some r => some (x :: r) | none => none
theorem setN_eq {α : Type} : ∀ {l : List α} {n : Nat} {v : α} {r : List α}, setN l n v = some r → n < l.length ∧ r = l.set n v
 | [], _, _, _, h => by simp [setN] at h
 | x :: l, 0, v, r, h => by simp [setN] at h; subst h; simp
 | x :: l, n + 1, v, r, h => by
  simp only [setN] at h
  split at h
  ·rename_i r' hr
   obtain ⟨h1, h2⟩ := setN_eq hr
   injection h with h
   subst h; subst h2
   simp; exact h1
  ·cases h
def cellsSV : SV → List SV
 | .val (.agg ⟨l⟩) => l.map SV.val
 | v => [v]
def updK : Mem → Nat → List SV → (Mem → Prop) → Prop
 | [], _, _, K => K []
 | (j, kb) :: M, i, cs, K => bif Nat.beq j i then K ((j, ⟨kb.g, kb.t, cs⟩) :: M) else updK M i cs fun r => K ((j, kb) :: r)
def denK : List SV → (List Value → Prop) → Prop
 | [], K => K []
 | .val v :: l, K => denK l fun r => K (v :: r)
 | .ptr _ g off :: l, K => denK l fun r => K (.pointer (some ⟨g, off, none⟩) :: r)
 | .lit b :: l, K => denK l fun r => K (.bool b :: r)
def tkS : Nat → List SV → List SV
 | 0, _ => []
 | _, [] => []
 | n + 1, x :: l => x :: tkS n l
def dpS : Nat → List SV → List SV
 | 0, l => l
 | _, [] => []
 | n + 1, _ :: l => dpS n l
def glueS (l : List SV) : List SV → List SV
 | [] => l
 | r => l ++ r
def spliceS (cs : List SV) (off : Nat) (l : List Value) (n : Nat) : List SV := tkS off cs ++ glueS (l.map SV.val) (dpS (off + n) cs)
def cutBy : List Nat → List Value → List (List Value)
 | [], _ => []
 | n :: ns, z => tk n z :: cutBy ns (dp n z)
where
 tk : Nat → List Value → List Value
  | 0, _ => []
  | _, [] => []
  | n + 1, x :: l => x :: tk n l
 dp : Nat → List Value → List Value
  | 0, l => l
  | _, [] => []
  | n + 1, _ :: l => dp n l
def flat : List (List Value) → List Value
 | [] => []
 | l :: ls => app l (flat ls)
where
 app : List Value → List Value → List Value
  | [], r => r
  | x :: l, r => x :: app l r
def cellsL : Value → List Value
 | .agg ⟨l⟩ => l
 | v => [v]
def sizesOf (T : Tab) : List (Nat × TypeId) → Option (List Nat)
 | [] => some []
 | (_, t) :: fs => match Tab.find T t with
  | some d => match sizesOf T fs with | some r => some (d.size :: r) | none => none
  | none => none
def cutsOf (T : Tab) (t : TypeId) : Option (List Nat) := match Tab.find T t with
 | some (.struct fs _) => sizesOf T fs
 | some (.arr n _ es) => some (List.replicate n es)
 | _ => none
def putSegs : List (List Value) → List (Nat × Value) → Option (List (List Value))
 | segs, [] => some segs
 | segs, (i, v) :: r => match setN segs i (cellsL v) with
  | some segs' => putSegs segs' r
  | none => none
def partsFit : List Nat → List (Nat × Value) → Prop
 | _, [] => True
 | ns, (i, v) :: r => nth ns i = some (cellsL v).length ∧ partsFit ns r
section
variable (P : Program) (T : Tab) (E : Env) (M : Mem) (H : Hist)
abbrev Cont := SV → Mem → Hist → Prop
def loadV (t : TypeId) (p : SV) (K : Cont) : Prop := match Tab.find T t with
 | none => False
 | some d => match p with
  | .ptr i g off => match M.find i with
   | none => False
   | some kb => match d.agg with
    | false => ∃ v, nth kb.cs off = some v ∧ kb.g = g ∧ K v M H
    | true => Nat.ble (off + d.size) kb.cs.length = true ∧ kb.g = g ∧ denK (tkS d.size (dpS off kb.cs)) fun l => K (.val (.agg ⟨l⟩)) M H
  | .val (.pointer (some a)) => ∃ v, (∀ w, A M H w → (loadVar t a).run P w = .ok v w) ∧ K (.val v) M H
  | _ => False
def storeV (t : TypeId) (p v : SV) (K : Cont) : Prop := match Tab.find T t with
 | none => False
 | some d => match p with
  | .ptr i g off => match M.find i with
   | none => False
   | some kb => match d.agg with
    | false => ∃ cs, setN kb.cs off v = some cs ∧ kb.g = g ∧ v.den.oneCell' = true ∧ updK M i cs fun M' => K (.val undef) M' H
    | true => match v with
     | .val (.agg ⟨l⟩) => l.length = d.size ∧ Nat.ble (off + d.size) kb.cs.length = true ∧ kb.g = g ∧ l.all (·.oneCell') = true ∧ updK M i (spliceS kb.cs off l d.size) fun M' => K (.val undef) M' H
     | _ => False
  | .val (.pointer (some ⟨b, off, none⟩)) => match d.agg with
   | false => ∃ i kb, M.find i = some kb ∧ kb.g = b ∧ ∃ cs, setN kb.cs off v = some cs ∧ v.den.oneCell' = true ∧ updK M i cs fun M' => K (.val undef) M' H
   | true => False
  | _ => False
def indexAddrV (t : TypeId) (x ix : SV) (K : Cont) : Prop := match Tab.find T t with
 | some (.slice _ es) => match x, ix with
  | .val (.slice A len _), .val (.int _ n) => ∃ b o k : Nat, A = some ⟨b, o, none⟩ ∧ n = (k : Int) ∧ k < len ∧ K (.val (.pointer (some ⟨b, o + k * es, none⟩))) M H
  | _, _ => False
 | some (.arr len _ es) => match x, ix with
  | .ptr i g off, .val (.int _ n) => ∃ k : Nat, n = (k : Int) ∧ k < len ∧ K (.ptr i g (off + k * es)) M H
  | .val (.pointer (some ⟨b, off, none⟩)), .val (.int _ n) => ∃ k : Nat, n = (k : Int) ∧ k < len ∧ K (.val (.pointer (some ⟨b, off + k * es, none⟩))) M H
  | _, _ => False
 | _ => False
def intBin (op : BinOp) (k : IntKind) (m n : Int) (K : Value → Prop) : Prop := match op with
 | .add => ∃ r, k.wrap (m + n) = r ∧ K (.int k r)
 | .sub => ∃ r, k.wrap (m - n) = r ∧ K (.int k r)
 | .mul => ∃ r, k.wrap (m * n) = r ∧ K (.int k r)
 | .quo => n ≠ 0 ∧ ∃ r, k.wrap (m.tdiv n) = r ∧ K (.int k r)
 | .rem => n ≠ 0 ∧ ∃ r, m.tmod n = r ∧ K (.int k r)
 | .eql => K (.bool (m == n))
 | .neq => K (.bool (m != n))
 | .lss => K (.bool (decide (m < n)))
 | .leq => K (.bool (decide (m ≤ n)))
 | .gtr => K (.bool (decide (n < m)))
 | .geq => K (.bool (decide (n ≤ m)))
 | .shl => 0 ≤ n ∧ ∃ r, k.wrap (m * 2 ^ (min n.toNat k.bits)) = r ∧ K (.int k r)
 | .shr => 0 ≤ n ∧ ∃ r, m.fdiv (2 ^ (min n.toNat k.bits)) = r ∧ K (.int k r)
 | .and => ∃ r, k.wrap (BitVec.ofInt k.bits m &&& BitVec.ofInt k.bits n).toNat = r ∧ K (.int k r)
 | .or => ∃ r, k.wrap (BitVec.ofInt k.bits m ||| BitVec.ofInt k.bits n).toNat = r ∧ K (.int k r)
 | .xor => ∃ r, k.wrap (BitVec.ofInt k.bits m ^^^ BitVec.ofInt k.bits n).toNat = r ∧ K (.int k r)
 | .andNot => ∃ r, k.wrap (BitVec.ofInt k.bits m &&& ~~~BitVec.ofInt k.bits n).toNat = r ∧ K (.int k r)
def strBin (op : BinOp) (s t : ByteArray) (K : Value → Prop) : Prop := match op with
 | .add => s.size + t.size ≤ 9223372036854775807 ∧ K (.string (s ++ t))
 | .eql => K (.bool (s.toList == t.toList))
 | .neq => K (.bool (!(s.toList == t.toList)))
 | .lss => K (.bool (Op.bytesLess s.toList t.toList))
 | .leq => K (.bool (Op.bytesLess s.toList t.toList || s.toList == t.toList))
 | .gtr => K (.bool (!(Op.bytesLess s.toList t.toList || s.toList == t.toList)))
 | .geq => K (.bool (!Op.bytesLess s.toList t.toList))
 | _ => False
def boolBin (op : BinOp) (s t : Bool) (K : Value → Prop) : Prop := match op with
 | .eql => K (.bool (s == t))
 | .neq => K (.bool (s != t))
 | _ => False
def kid : IntKind → Nat
 | .i8 => 0 | .i16 => 1 | .i32 => 2 | .i64 => 3 | .u8 => 4 | .u16 => 5 | .u32 => 6 | .u64 => 7
theorem kid_inj {k j : IntKind} (h : Nat.beq (kid k) (kid j) = true) : k = j := by
 cases k <;> cases j <;> first | rfl | cases h
def isShift : BinOp → Bool
 | .shl | .shr => true
 | _ => false
def nilCmp (t : TypeId) (yo : Operand) (x y : SV) : Option Bool := match y, Tab.find T t with
 | .val (.pointer none), some .ptr => match x with
  | .ptr _ _ _ => some false
  | .val (.pointer none) => some true
  | .val (.pointer (some _)) => some false
  | _ => none
 | .val .nilIface, some .iface => match yo with
  | .const _ => match x with
   | .val .nilIface => some true
   | .val (.iface _ _) => some false
   | _ => none
  | _ => none
 | .val (.slice none _ _), some (.slice _ _) => match x with
  | .val (.slice none _ _) => some true
  | .val (.slice (some _) _ _) => some false
  | _ => none
 | _, _ => none
def buildV (t : TypeId) (parts : List (Nat × Value)) (K : Cont) : Prop :=
 match zeroAcc T 9 t [], cutsOf T t with
 | some z, some ns => match Nat.beq z.length ns.sum, putSegs (cutBy ns (z.map SV.den)) parts with
  | true, some segs => partsFit ns parts ∧ K (.val (.agg (flat segs).toArray)) M H
  | _, _ => False
 | _, _ => False
def repS : Nat → List SV → List SV
 | 0, _ => []
 | n + 1, z => z ++ repS n z
end
end
section
theorem den_val (v : Value) : (SV.val v).den = v := rfl
section
variable {P : Program} {T : Tab} {E : Env} {M : Mem} {H : Hist} {K : Cont} {N : Nat} {a : Act} {w : World}
theorem intBin_out {op : BinOp} {k k' : IntKind} {m n : Int} {t : TypeId} {xo yo : Operand} {K' : Value → Prop} (hk : (isShift op || Nat.beq (kid k) (kid k')) = true) (h : intBin op k m n K') :
  ∃ v : Value, (∀ w, (do eqGuard op t xo yo (.int k m) (.int k' n); binOp op t (.int k m) (.int k' n) : Sem Value).run P w = .ok v w) ∧ K' v := by
 have hg : ∀ w, (eqGuard op t xo yo (.int k m) (.int k' n)).run P w = .ok () w := by
  intro w; cases op <;> rfl
 cases op <;> simp only [isShift, Bool.false_or, Bool.true_or] at hk <;> first | (have hk := kid_inj hk; subst hk) | skip
 all_goals simp only [intBin] at h
 case quo => obtain ⟨h0, r, rfl, h⟩ := h; exact ⟨_, fun w => by simp [hg, binOp, Op.intDiv, h0], h⟩
 case rem => obtain ⟨h0, r, rfl, h⟩ := h; exact ⟨_, fun w => by simp [hg, binOp, Op.intDiv, h0], h⟩
 case shl => obtain ⟨h0, r, rfl, h⟩ := h; exact ⟨_, fun w => by simp [hg, binOp, Op.shift, show ¬ n < 0 by omega], h⟩
 case shr => obtain ⟨h0, r, rfl, h⟩ := h; exact ⟨_, fun w => by simp [hg, binOp, Op.shift, show ¬ n < 0 by omega], h⟩
 all_goals first
  | (obtain ⟨r, rfl, h⟩ := h; exact ⟨_, fun w => by simp [hg, binOp, Op.intArith, Op.intBits], h⟩)
  | exact ⟨_, fun w => by simp [hg, binOp, Op.intCmp], h⟩
theorem strBin_out {op : BinOp} {x y : ByteArray} {t : TypeId} {xo yo : Operand} {K' : Value → Prop} (h : strBin op x y K') :
  ∃ v : Value, (∀ w, (do eqGuard op t xo yo (.string x) (.string y); binOp op t (.string x) (.string y) : Sem Value).run P w = .ok v w) ∧ K' v := by
 have hg : ∀ w, (eqGuard op t xo yo (.string x) (.string y)).run P w = .ok () w := by
  intro w; cases op <;> rfl
 cases op <;> simp only [strBin] at h
 case add =>
  obtain ⟨h0, h⟩ := h
  have hle : ¬ ((x.size + y.size : Nat) : Int) > IntKind.i64.max := by
   have : IntKind.i64.max = 9223372036854775807 := by decide
   omega
  exact ⟨_, fun w => by simp [hg, binOp, Op.stringOp] at hle ⊢; omega, h⟩
 all_goals first
  | exact ⟨_, fun w => by simp [hg, binOp, Op.stringOp], h⟩
  | exact h.elim
theorem boolBin_out {op : BinOp} {x y : Bool} {t : TypeId} {xo yo : Operand} {K' : Value → Prop} (ht : P.underlying t = some .bool) (h : boolBin op x y K') :
  ∃ v : Value, (∀ w, (do eqGuard op t xo yo (.bool x) (.bool y); binOp op t (.bool x) (.bool y) : Sem Value).run P w = .ok v w) ∧ K' v := by
 have hg : ∀ w, (eqGuard op t xo yo (.bool x) (.bool y)).run P w = .ok () w := by
  intro w; cases op <;> rfl
 cases op <;> simp only [boolBin] at h <;> first
  | exact ⟨_, fun w => by simp [hg, binOp, run_equal_bool w t x y ht, bne], h⟩
  | exact h.elim
theorem eq_of {t : TypeId} {xo yo : Operand} {u v : Value} {b : Bool} (h : ∀ d, (Op.equalIn (d + 1) t u v).run P w = .ok b w) (hg : ∀ op, (eqGuard op t xo yo u v).run P w = .ok () w)
  (h1 : binOp .eql t u v = (do pure (.bool (← Op.equal t u v)))) (h2 : binOp .neq t u v = (do pure (.bool (!(← Op.equal t u v))))) :
  (do eqGuard .eql t xo yo u v; binOp .eql t u v : Sem Value).run P w = .ok (.bool b) w ∧ (do eqGuard .neq t xo yo u v; binOp .neq t u v : Sem Value).run P w = .ok (.bool (!b)) w := by
 have he : (Op.equal t u v).run P w = .ok b w := h 9999
 constructor
 ·rw [Sem.run_bind, hg, Result.andThen_ok, h1, Sem.run_bind, he]; rfl
 ·rw [Sem.run_bind, hg, Result.andThen_ok, h2, Sem.run_bind, he]; rfl
theorem nilCmp_out (hT : TabOK P T) {t : TypeId} {xo yo : Operand} {x y : SV} {b : Bool} (h : nilCmp T t yo x y = some b) (w : World) :
  (do eqGuard .eql t xo yo x.den y.den; binOp .eql t x.den y.den : Sem Value).run P w = .ok (.bool b) w ∧ (do eqGuard .neq t xo yo x.den y.den; binOp .neq t x.den y.den : Sem Value).run P w = .ok (.bool (!b)) w := by
 unfold nilCmp at h
 split at h
 ·rename_i hd
  have hu : (∃ e, P.underlying t = some (.pointer e)) ∨ P.underlying t = some .unsafePointer := by
   have hf := hT.fits hd
   unfold TD.fitsB at hf
   simp only [Bool.and_eq_true] at hf
   obtain ⟨_, hf⟩ := hf
   cases hu : P.underlying t with
   | none => simp [hu] at hf
   | some d => cases d <;> simp_all
  rcases hu with ⟨e, hu⟩ | hu
  ·split at h <;> first | (cases h; done) | (injection h with h; subst h; exact eq_of (fun d => by simp [Op.equalIn, run_underlying hu, SV.den]) (fun op => by cases op <;> simp [eqGuard, SV.den]) rfl rfl)
  ·split at h <;> first | (cases h; done) | (injection h with h; subst h; exact eq_of (fun d => by simp [Op.equalIn, run_underlying hu, SV.den, samePointer]) (fun op => by cases op <;> simp [eqGuard, SV.den]) rfl rfl)
 ·rename_i hd
  have hu : ∃ e, P.underlying t = some (.interface e) := by
   have hf := hT.fits hd
   unfold TD.fitsB at hf
   simp only [Bool.and_eq_true] at hf
   obtain ⟨_, hf⟩ := hf
   cases hu : P.underlying t with
   | none => simp [hu] at hf
   | some d => cases d <;> simp_all
  obtain ⟨e, hu⟩ := hu
  split at h
  ·split at h <;> first | (cases h; done) | (injection h with h; subst h; exact eq_of (fun d => by simp [Op.equalIn, run_underlying hu, SV.den]) (fun op => by cases op <;> simp [eqGuard, SV.den]) rfl rfl)
  ·cases h
 ·rename_i hd
  have hu := (TD.fits_slice (hT.fits hd)).1
  split at h <;> first | (cases h; done) | (injection h with h; subst h; exact eq_of (fun d => by simp [Op.equalIn, run_underlying hu, SV.den]) (fun op => by cases op <;> simp [eqGuard, SV.den]) rfl rfl)
 ·cases h
theorem run_sliceBound {j : IntKind} {n y : Nat} {code : BoundsCode} (h : n ≤ y) (w : World) : (Instr.sliceBound (.int j (n : Int)) y code).run P w = .ok n w := by
 have h0 : (0 : Int) ≤ (n : Int) ∧ (n : Int) ≤ (y : Int) := ⟨by omega, by omega⟩
 simp only [Instr.sliceBound, asIntOf, Sem.run_bind, Sem.run_pure, Result.andThen_ok, h0, and_self, if_true, Int.toNat_natCast]
theorem run_sliceBounds {b : Bool} {len cap l h : Nat} {lo hi : Option Value} (hlo : lo = none ∧ l = 0 ∨ ∃ j, lo = some (.int j l)) (hhi : hi = none ∧ h = len ∨ ∃ j, hi = some (.int j h)) (h1 : l ≤ h) (h2 : h ≤ cap) (w : World) :
  (Instr.sliceBounds b len cap lo hi none).run P w = .ok (l, h, cap) w := by
 rcases hhi with ⟨rfl, rfl⟩ | ⟨j, rfl⟩ <;> rcases hlo with ⟨rfl, rfl⟩ | ⟨j', rfl⟩ <;>
  simp [Instr.sliceBounds, run_sliceBound h1, run_sliceBound h2]
theorem flat_app (l r : List Value) : flat.app l r = l ++ r := by
 induction l with
 | nil => rfl
 | cons x l ih => simp [flat.app, ih]
theorem flat_eq (ls : List (List Value)) : flat ls = ls.flatten := by
 induction ls with
 | nil => rfl
 | cons l ls ih => simp [flat, flat_app, ih]
theorem cutBy_tk (n : Nat) (l : List Value) : cutBy.tk n l = l.take n := by
 induction n generalizing l with
 | zero => cases l <;> rfl
 | succ n ih => cases l <;> simp [cutBy.tk, ih]
theorem cutBy_dp (n : Nat) (l : List Value) : cutBy.dp n l = l.drop n := by
 induction n generalizing l with
 | zero => cases l <;> rfl
 | succ n ih => cases l <;> simp [cutBy.dp, ih]
theorem cutBy_flat : ∀ (ns : List Nat) (z : List Value), z.length = ns.sum → (cutBy ns z).flatten = z ∧ (cutBy ns z).map List.length = ns
 | [], z, h => by simp at h; subst h; simp [cutBy]
 | n :: ns, z, h => by
  simp at h
  obtain ⟨h1, h2⟩ := cutBy_flat ns (z.drop n) (by simp; omega)
  simp only [cutBy, cutBy_tk, cutBy_dp, List.flatten_cons, h1, List.take_append_drop, List.map_cons, h2, List.length_take, true_and]
  congr 1
  omega
theorem splice_flat : ∀ (segs : List (List Value)) (i : Nat) (c : List Value) (s : List Value), segs[i]? = some s → c.length = s.length →
  (segs.set i c).flatten = segs.flatten.take ((segs.map List.length).take i).sum ++ c ++ segs.flatten.drop (((segs.map List.length).take i).sum + c.length)
 | [], i, c, s, h, _ => by simp at h
 | l :: ls, 0, c, s, h, hc => by
  simp at h; subst h
  simp [hc]
 | l :: ls, i + 1, c, s, h, hc => by
  simp at h
  have ih := splice_flat ls i c s h hc
  simp only [List.set_cons_succ, List.flatten_cons, ih, List.map_cons, List.take_succ_cons, List.sum_cons, List.take_append, List.drop_append]
  have e1 : l.take (l.length + ((ls.map List.length).take i).sum) = l := List.take_of_length_le (by omega)
  have e2 : l.drop (l.length + ((ls.map List.length).take i).sum + c.length) = [] := List.drop_of_length_le (by omega)
  rw [e1, e2]
  simp [show l.length + ((ls.map List.length).take i).sum - l.length = ((ls.map List.length).take i).sum by omega, show l.length + ((ls.map List.length).take i).sum + c.length - l.length = ((ls.map List.length).take i).sum + c.length by omega]
theorem fold_splice (off : Nat) : ∀ (vs : List Value) (j : Nat) (cs : Array Value), off + j + vs.length ≤ cs.size →
  (vs.zipIdx j).foldl (fun cs (c, j) => cs.setIfInBounds (off + j) c) cs = (cs.toList.take (off + j) ++ vs ++ cs.toList.drop (off + j + vs.length)).toArray
 | [], j, cs, _ => by simp
 | v :: vs, j, cs, h => by
  simp only [List.zipIdx_cons, List.foldl_cons]
  rw [fold_splice off vs (j + 1) _ (by simp at h ⊢; omega)]
  simp at h
  congr 1
  apply List.ext_getElem?
  intro k
  simp only [Array.toList_setIfInBounds, List.getElem?_append, List.length_take, List.length_set, Array.length_toList, List.getElem?_take, List.getElem?_set, List.getElem?_drop, List.length_append, List.length_cons]
  by_cases h1 : k < off + j
  ·simp [h1, show k < off + (j + 1) by omega, show min (off + (j + 1)) cs.size = off + (j + 1) by omega, show min (off + j) cs.size = off + j by omega, show ¬ off + j = k by omega, show k < off + (j + 1) + vs.length by omega, show k < off + j + (vs.length + 1) by omega]
  ·by_cases h2 : k = off + j
   ·subst h2
    simp [show min (off + (j + 1)) cs.size = off + (j + 1) by omega, show min (off + j) cs.size = off + j by omega, show off + j < off + (j + 1) by omega, show off + j < cs.size by omega, show off + j < off + (j + 1) + vs.length by omega]
   ·simp only [show min (off + (j + 1)) cs.size = off + (j + 1) by omega, show min (off + j) cs.size = off + j by omega, h1, if_false, show ¬ k < off + (j + 1) by omega]
    by_cases h3 : k < off + (j + 1) + vs.length
    ·simp [h3, show k < off + j + (vs.length + 1) by omega, show k - (off + j) = (k - (off + (j + 1))) + 1 by omega]
    ·simp [h3, show ¬ k < off + j + (vs.length + 1) by omega,
      show off + (j + 1) + vs.length + (k - (off + (j + 1) + vs.length)) = off + j + (vs.length + 1) + (k - (off + j + (vs.length + 1))) by omega]
     intro h'
     omega
theorem set_same {α : Type} {l : List α} {i : Nat} {x : α} (h : l[i]? = some x) : l.set i x = l := by
 apply List.ext_getElem?
 intro k
 rw [List.getElem?_set]
 by_cases e : i = k
 ·subst e
  obtain ⟨h1, h2⟩ := List.getElem?_eq_some_iff.1 h
  simp [h1, h2]
 ·simp [e]
theorem cellsL_eq (v : Value) : v.cells.toList = cellsL v := by
 cases v <;> rfl
theorem fill_segs {place : Nat → Option (Nat × Nat)} {ns : List Nat} (hp : ∀ i n, ns[i]? = some n → place i = some ((ns.take i).sum, n)) : ∀ (parts : List (Nat × Value)) (segs segs' : List (List Value)),
  segs.map List.length = ns → putSegs segs parts = some segs' → partsFit ns parts → Instr.fill place segs.flatten.toArray parts = some segs'.flatten.toArray
 | [], segs, segs', _, h, _ => by simp [putSegs] at h; subst h; simp [Instr.fill]
 | (i, v) :: parts, segs, segs', hns, h, hf => by
  simp only [putSegs] at h
  split at h
  ·rename_i s1 hs1
   obtain ⟨hlt, rfl⟩ := setN_eq hs1
   obtain ⟨hn, hf⟩ := hf
   rw [nth_eq] at hn
   have hpl := hp i _ hn
   have hseg : segs[i]? = some (segs[i]'hlt) := List.getElem?_eq_getElem hlt
   have hlen : (cellsL v).length = (segs[i]'hlt).length := by
    rw [← hns, List.getElem?_map, hseg] at hn
    simpa using hn.symm
   have hsz : v.cells.size = (cellsL v).length := by rw [← cellsL_eq, Array.length_toList]
   have hsp := splice_flat segs i (cellsL v) _ hseg hlen
   have hbound : (ns.take i).sum + (cellsL v).length ≤ segs.flatten.length := by
    rw [List.length_flatten, hns]
    have h1 : ns = ns.take i ++ ns.drop i := (List.take_append_drop i ns).symm
    have h2 : ns.drop i = (cellsL v).length :: ns.drop (i + 1) := by
     have hi := (List.getElem?_eq_some_iff.1 hn)
     obtain ⟨hi1, hi2⟩ := hi
     rw [List.drop_eq_getElem_cons hi1, hi2]
    have h3 : ns.sum = (ns.take i).sum + (ns.drop i).sum := by rw [← List.sum_append, List.take_append_drop]
    rw [h3, h2, List.sum_cons]
    omega
   have ih := fill_segs hp parts (segs.set i (cellsL v)) segs' (by rw [List.map_set, hns, set_same hn]) h hf
   simp only [Instr.fill, hpl, hsz, ne_eq, not_true_eq_false, decide_false, Bool.false_or, List.size_toArray]
   rw [if_neg (by rw [List.length_flatten] at hbound; simp [List.length_flatten]; omega)]
   have hfold := fold_splice (ns.take i).sum v.cells.toList 0 segs.flatten.toArray (by rw [Array.length_toList, hsz]; simpa using hbound)
   have hz : Array.foldl (fun cs (x : Value × Nat) => cs.setIfInBounds ((ns.take i).sum + x.2) x.1) segs.flatten.toArray v.cells.zipIdx = (segs.set i (cellsL v)).flatten.toArray := by
    rw [← Array.foldl_toList, Array.toList_zipIdx]
    refine Eq.trans hfold ?_
    rw [cellsL_eq, hsp, hns]
    simp
   rw [show (Array.foldl (fun cs x => match x with | (c, j) => cs.setIfInBounds ((ns.take i).sum + j) c) segs.flatten.toArray v.cells.zipIdx) = _ from hz]
   exact ih
  ·cases h
structure Seat (P : Program) (T : Tab) (ents : List FuncId) : Prop where
 tab : TabOK P T
 enters : ∀ f ∈ ents, ∀ args w, (callFunc f args).run P w = .ok (.enter f args) w
 mixed : P.follows .mixedOrders = true
theorem sizesOf_eq (hT : TabOK P T) : ∀ {fs : List (Nat × TypeId)} {ns : List Nat}, sizesOf T fs = some ns → fs.length = ns.length ∧ ∀ (i o t : Nat), fs[i]? = some (o, t) → ∃ n, ns[i]? = some n ∧ sizeB P t n = true
 | [], ns, h => by simp [sizesOf] at h; subst h; simp
 | (o, t) :: fs, ns, h => by
  simp only [sizesOf] at h
  split at h
  ·rename_i d hd
   split at h
   ·rename_i r hr
    obtain ⟨h1, h2⟩ := sizesOf_eq hT hr
    injection h with h; subst h
    refine ⟨by simp [h1], fun i o' t' hi => ?_⟩
    cases i with
    | zero => simp at hi; obtain ⟨rfl, rfl⟩ := hi; exact ⟨_, rfl, TD.fits_size (hT.fits hd)⟩
    | succ i => exact h2 i o' t' (by simpa using hi)
   ·cases h
  ·cases h
theorem contig_off {P : Program} : ∀ {fs : List (Nat × TypeId)} {ns : List Nat} {b : Nat}, contig P fs b = true → fs.length = ns.length → (∀ (i o t : Nat), fs[i]? = some (o, t) → ∃ n, ns[i]? = some n ∧ sizeB P t n = true) →
  ∀ (i o t : Nat), fs[i]? = some (o, t) → o = b + (ns.take i).sum
 | [], ns, b, _, _, _, i, o, t, hi => by simp at hi
 | (o0, t0) :: fs, [], b, _, hl, _, i, o, t, hi => by simp at hl
 | (o0, t0) :: fs, n0 :: ns, b, h, hl, hs, i, o, t, hi => by
  simp only [contig, Bool.and_eq_true, beq_iff_eq] at h
  obtain ⟨h1, h2⟩ := h
  cases hinfo : P.info? t0 with
  | none => simp [hinfo] at h2
  | some inf =>
   simp only [hinfo] at h2
   obtain ⟨n, hn, hsz⟩ := hs 0 o0 t0 rfl
   simp at hn; subst hn
   have hn0 : inf.size = n0 := by simpa [sizeB, hinfo] using hsz
   cases i with
   | zero => simp at hi; obtain ⟨rfl, rfl⟩ := hi; simp [h1]
   | succ i =>
    have := contig_off h2 (by simpa using hl) (fun i o t hi => by simpa using hs (i + 1) o t (by simpa using hi)) i o t (by simpa using hi)
    rw [this, hn0]; simp; omega
theorem mapM_sizes {P : Program} : ∀ {fs : List Field} {ns : List Nat}, fs.length = ns.length → (∀ (i : Nat) (f : Field), fs[i]? = some f → ∃ n, ns[i]? = some n ∧ sizeB P f.type n = true) →
  ∃ pl, fs.mapM (fun f => (P.info? f.type).map fun i => (f.offset, i.size)) = some pl ∧ pl = (fs.zip ns).map fun x => (x.1.offset, x.2)
 | [], [], _, _ => ⟨[], by simp, rfl⟩
 | [], _ :: _, h, _ => by simp at h
 | _ :: _, [], h, _ => by simp at h
 | f :: fs, n :: ns, h, hs => by
  obtain ⟨pl, h1, h2⟩ := mapM_sizes (by simpa using h) (fun i f hi => by simpa using hs (i + 1) f (by simpa using hi))
  obtain ⟨n', hn, hsz⟩ := hs 0 f rfl
  simp at hn; subst hn
  unfold sizeB at hsz
  split at hsz
  ·rename_i inf hinf
   have hsz' : inf.size = n := by simpa using hsz
   exact ⟨(f.offset, n) :: pl, by simp [hinf, h1, hsz'], by simp [h2]⟩
  ·cases hsz
theorem buildV_all (hT : TabOK P T) {t : TypeId} {parts : List (Nat × Value)} (h : buildV T M H t parts K) : ∃ v : SV, (∀ w, A M H w → (Instr.build t parts.toArray).run P w = .ok v.den w) ∧ K v M H := by
 unfold buildV at h
 split at h
 ·rename_i z ns hz hns
  split at h
  ·rename_i segs hlen hsegs
   have hlen := Nat.eq_of_beq_eq_true hlen
   obtain ⟨hfit, hK⟩ := h
   refine ⟨.val (.agg (flat segs).toArray), fun w _ => ?_, hK⟩
   obtain ⟨zv, hzv, hzc⟩ := hT.zero hz w
   have hzi : ∃ it, P.info? t = some it ∧ it.zero = some zv := by
    cases hi : P.info? t with
    | none => simp [zeroValue, typeInfo, hi, stuck] at hzv
    | some it =>
     cases hv : it.zero with
     | none => simp [zeroValue, typeInfo, hi, hv, unsupported] at hzv
     | some v => simp [zeroValue, typeInfo, hi, hv] at hzv; subst hzv; exact ⟨it, rfl, hv⟩
   obtain ⟨it, hit, hitz⟩ := hzi
   have hzcells : zv.cells = (z.map SV.den).toArray := by rw [← hzc]
   have core : ∀ (place : Nat → Option (Nat × Nat)), (∀ i n, ns[i]? = some n → place i = some ((ns.take i).sum, n)) →
     Instr.fill place (z.map SV.den).toArray parts = some (flat segs).toArray := by
    intro place hp
    obtain ⟨hc1, hc2⟩ := cutBy_flat ns (z.map SV.den) (by simpa using hlen)
    have := fill_segs hp parts _ segs hc2 hsegs hfit
    rw [hc1] at this
    rw [this, flat_eq]
   refine run_build w t parts.toArray _ ?_
   unfold cutsOf at hns
   split at hns
   ·rename_i fs sz hd
    obtain ⟨fields, hu, h3, _, h5⟩ := TD.fits_struct (hT.fits hd)
    obtain ⟨h6, h7⟩ := sizesOf_eq hT hns
    have hoff := contig_off h5 h6 h7
    have hfield : ∀ (i : Nat) (f : Field), fields.toList[i]? = some f → fs[i]? = some (f.offset, f.type) := by
     intro i f hi; rw [← h3, List.getElem?_map, hi]; rfl
    obtain ⟨pl, h8, h9⟩ := mapM_sizes (P := P) (fs := fields.toList) (ns := ns) (by rw [← h6, ← h3, List.length_map]) (fun i f hi => h7 i _ _ (hfield i f hi))
    simp only [Program.built, hit, hu, hitz, h8, hzcells]
    refine core _ fun i n hn => ?_
    have hi : i < fields.toList.length := by
     have := (List.getElem?_eq_some_iff.1 hn).1
     rw [← h6, ← h3, List.length_map] at this
     exact this
    have hf := List.getElem?_eq_getElem hi
    have ho := hoff i _ _ (hfield i _ hf)
    subst h9
    have hz2 : (fields.toList.zip ns)[i]? = some (fields.toList[i], n) := List.getElem?_zip_eq_some.2 ⟨hf, hn⟩
    simp only [List.getElem?_toArray, List.getElem?_map, hz2, Option.map_some]
    rw [ho]; simp
   ·rename_i n e es hd
    obtain ⟨hu, hs⟩ := TD.fits_arr (hT.fits hd)
    injection hns with hns
    subst hns
    unfold sizeB at hs
    split at hs
    ·rename_i ie hie
     have hse : ie.size = es := by simpa using hs
     simp only [Program.built, hit, hu, hitz, hie, hzcells]
     refine core _ fun i m hm => ?_
     rw [List.getElem?_replicate] at hm
     split at hm
     ·injection hm with hm
      subst hm
      rename_i hin
      rw [List.take_replicate, List.sum_replicate_nat, hse, Nat.min_eq_left (by omega)]
     ·cases hm
    ·cases hs
   ·cases hns
  ·exact h.elim
 ·exact h.elim
theorem repS_length (n : Nat) (z : List SV) : (repS n z).length = n * z.length := by
 induction n with
 | zero => simp [repS]
 | succ n ih => simp [repS, ih, Nat.succ_mul, Nat.add_comm]
theorem repS_get (z : List SV) (hz : 0 < z.length) : ∀ (n k : Nat), k < n * z.length → (repS n z)[k]? = z[k % z.length]?
 | 0, k, h => by omega
 | n + 1, k, h => by
  simp only [repS]
  by_cases hk : k < z.length
  ·rw [List.getElem?_append_left hk, Nat.mod_eq_of_lt hk]
  ·rw [List.getElem?_append_right (by omega), repS_get z hz n (k - z.length) (by rw [Nat.succ_mul] at h; omega)]
   congr 1
   exact (Nat.mod_eq_sub_mod (by omega)).symm
theorem repS_cells {n es : Nat} {z : List SV} {zc : Array Value} (hz : zc = (z.map SV.den).toArray) (hl : z.length = es) (h0 : 0 < es) :
  ((Array.range (n * es)).map (zc[· % zc.size]!)) = ((repS n z).map SV.den).toArray := by
 subst hz
 apply Array.ext
 ·simp [repS_length, hl]
 ·intro k h1 h2
  have hk : k < n * es := by simpa using h1
  have hlt : k % z.length < z.length := Nat.mod_lt _ (by omega)
  have hg := repS_get z (by omega) n k (by rw [hl]; exact hk)
  simp only [Array.getElem_map, Array.getElem_range, List.size_toArray, List.length_map, List.getElem_toArray]
  rw [List.getElem?_eq_getElem (by rw [repS_length, hl]; exact hk), List.getElem?_eq_getElem hlt] at hg
  injection hg with hg
  rw [List.getElem_map, hg, getElem!_pos _ _ (by simpa using hlt)]
  simp
theorem ld1 (hT : TabOK P T) {t : TypeId} {d : TD} (hd : Tab.find T t = some d) (ha : d.agg = false) {w w' : World} {b o p j : Nat} {cs : List Value} {v : Value} (hr : w.rangeAt b o cs) (hj : cs[j]? = some v) (hp : p = o + j) (hb : Below w.heap.size w w') :
  (loadVar t ⟨b, p, none⟩).run P w' = .ok v w' := by
 subst hp
 have hr' := rangeAt_keep (w' := w') hr (fun h => hb.block b h)
 have hc := hr' j v hj
 simp [loadVar, TD.fits_agg (hT.fits hd), ha, load, hc, Sem.run, Sem.run_bind]
theorem ldn (hT : TabOK P T) {t : TypeId} {d : TD} (hd : Tab.find T t = some d) (ha : d.agg = true) {w w' : World} {b o : Nat} {cs : List Value} (hl : cs.length = d.size) (hr : w.rangeAt b o cs) (hb : Below w.heap.size w w') :
  (loadVar t ⟨b, o, none⟩).run P w' = .ok (.agg ⟨cs⟩) w' := by
 have hr' := rangeAt_keep (w' := w') hr (fun h => hb.block b h)
 have hl2 : (loadCells ⟨b, o, none⟩ cs.length).run P w' = .ok cs.toArray w' :=
  run_loadCells_list (P := P) w' ⟨b, o, none⟩ _ (fun j v hv => by rw [Addr.add_mid]; exact hr' j v hv)
 rw [hl] at hl2
 simp only [loadVar, Sem.run_bind, Sem.run_pure, Result.andThen_ok, TD.fits_agg (hT.fits hd), ha, if_true, run_sizeOf_of (TD.fits_size (hT.fits hd)), hl2]
end
end
section
inductive MV where
 | int (k : IntKind) (n : Int)
 | bool (b : Bool)
 | str (s : List UInt8)
 | nilp
 | ptr (c es k fo : Nat) (path : List Nat)
 | gp (g off : Nat)
 | ep (v : MV) (fo : Nat) (path : List Nat)
 | sl (n : Nat) (l : List MV)
 | nils
 | ms (c es off n : Nat)
 | fn (f : FuncId) (caps : List MV)
 | nilf
 | nili
 | ifc (t : TypeId) (v : MV)
 | st (l : List MV)
 | arr (n es : Nat) (l : List MV)
 | tup (l : List MV)
 | mp (c : Nat)
 | mpv (ks vs : List MV)
 | undef
 deriving Inhabited
mutual
def MV.size : MV → Nat
 | .st l => MV.sizes l
 | .arr n es _ => n * es
 | .mpv .. => 0
 | _ => 1
def MV.sizes : List MV → Nat
 | [] => 0
 | m :: l => MV.size m + MV.sizes l
end
def MV.isAgg : MV → Bool
 | .st _ => true
 | .arr .. => true
 | _ => false
mutual
def MV.idFree : MV → Bool
 | .ptr .. => false
 | .ms .. => false
 | .fn _ l => MV.idFrees l
 | .ifc _ v => MV.idFree v
 | .st l => MV.idFrees l
 | .tup _ => false
 | .mp _ => false
 | .mpv .. => false
 | .undef => false
 | _ => true
def MV.idFrees : List MV → Bool
 | [] => true
 | m :: l => MV.idFree m && MV.idFrees l
end
def valM (m : MV) (cs : List Value) : Value := if m.isAgg then .agg ⟨cs⟩ else cs.headD undef
abbrev Adr := Nat → Option Nat
def noAdr : Adr := fun _ => none
abbrev Prot := Nat → Nat → Prop
inductive Rep (w : World) (P : Prot) : Adr → MV → List Value → Prop where
 | int {adr k n} : Rep w P adr (.int k n) [.int k n]
 | bool {adr b} : Rep w P adr (.bool b) [.bool b]
 | str {adr s} : Rep w P adr (.str s) [.string ⟨s.toArray⟩]
 | nilp {adr} : Rep w P adr .nilp [.pointer none]
 | ptr {adr c es k fo path} (g : Nat) (h : adr c = some g) : Rep w P adr (.ptr c es k fo path) [.pointer (some ⟨g, k * es + fo, none⟩)]
 | gp {adr g off} : Rep w P adr (.gp g off) [.pointer (some ⟨g, off, none⟩)]
 | ep {adr v fo path} (b o : Nat) (vs : List Value) (hc : ∀ (j : Nat) u, vs[j]? = some u → w.cell? ⟨b, o + j, none⟩ = some u ∧ P b (o + j)) (hr : Rep w P noAdr v vs) : Rep w P adr (.ep v fo path) [.pointer (some ⟨b, o + fo, none⟩)]
 | sl {adr n l} (A : Option Addr) (cap es : Nat) (parts : List (List Value)) (hl : l.length = n) (hp : parts.length = n) (hes : ∀ p ∈ parts, p.length = es) (hnn : A = none → n = 0 ∧ cap = 0) (hcap : n ≤ cap)
   (hc : n ≠ 0 → ∃ b o, A = some ⟨b, o, none⟩ ∧ ∀ (j : Nat) u, parts.flatten[j]? = some u → w.cell? ⟨b, o + j, none⟩ = some u ∧ P b (o + j))
   (hr : ∀ (j : Nat) m p, l[j]? = some m → parts[j]? = some p → Rep w P noAdr m p) : Rep w P adr (.sl n l) [.slice A n cap]
 | nils {adr} : Rep w P adr .nils [.slice none 0 0]
 | ms0 {adr c es} : Rep w P adr (.ms c es 0 0) [.slice none 0 0]
 | ms {adr c es off n} (g o cap : Nat) (h : adr c = some g) (ho : n ≠ 0 ∨ off = 0 → o = off * es) (hcap : n ≤ cap) (hcap2 : cap ≤ maxLen) (hsz : ∃ cur ty fz, w.heap[g]? = some (.cells cur ty fz) ∧ (off = 0 → cur.size = cap * es)) :
   Rep w P adr (.ms c es off n) [.slice (some ⟨g, o, none⟩) n cap]
 | fn {adr f caps} (parts : List (List Value)) (hp : parts.length = caps.length) (hr : ∀ (j : Nat) m p, caps[j]? = some m → parts[j]? = some p → Rep w P adr m p) : Rep w P adr (.fn f caps) [.func (.func f) #[] (List.zipWith valM caps parts).toArray]
 | nilf {adr} : Rep w P adr .nilf [.nilFunc]
 | mp {adr c} (g : Nat) (h : adr c = some g) : Rep w P adr (.mp c) [.map (some g)]
 | nili {adr} : Rep w P adr .nili [.nilIface]
 | ifc {adr t v} (cs : List Value) (hr : Rep w P adr v cs) : Rep w P adr (.ifc t v) [.iface t (valM v cs)]
 | st {adr l} (parts : List (List Value)) (hp : parts.length = l.length) (hr : ∀ (j : Nat) m p, l[j]? = some m → parts[j]? = some p → Rep w P adr m p) : Rep w P adr (.st l) parts.flatten
 | arr {adr n es l} (parts : List (List Value)) (hl : l.length = n) (hp : parts.length = n) (hes : ∀ p ∈ parts, p.length = es) (hr : ∀ (j : Nat) m p, l[j]? = some m → parts[j]? = some p → Rep w P noAdr m p) : Rep w P adr (.arr n es l) parts.flatten
inductive RepV (w : World) (P : Prot) (adr : Adr) : MV → Value → Prop where
 | val {m} (cs : List Value) (h : Rep w P adr m cs) : RepV w P adr m (valM m cs)
 | undef : RepV w P adr .undef undef
 | tup {l} (vs : List Value) (hl : vs.length = l.length) (h : ∀ (j : Nat) m u, l[j]? = some m → vs[j]? = some u → ∃ cs, Rep w P adr m cs ∧ u = valM m cs) : RepV w P adr (.tup l) (.tuple vs.toArray)
section
variable {w w' : World} {P P' : Prot} {adr adr' : Adr} {m : MV} {vs : List Value}
structure Keep (w w' : World) (P P' : Prot) (adr adr' : Adr) : Prop where
 prot : ∀ b o, P b o → P' b o
 cell : ∀ b o, P b o → w'.cell? ⟨b, o, none⟩ = w.cell? ⟨b, o, none⟩
 num : ∀ c g, adr c = some g → adr' c = some g
 size : ∀ c g cur ty fz, adr c = some g → w.heap[g]? = some (.cells cur ty fz) → ∃ cur' fz', w'.heap[g]? = some (.cells cur' ty fz') ∧ cur'.size = cur.size
theorem Keep.refl (w : World) (P : Prot) (adr : Adr) : Keep w w P P adr adr := ⟨fun _ _ h => h, fun _ _ _ => rfl, fun _ _ h => h, fun _ _ cur _ fz _ h => ⟨cur, fz, h, rfl⟩⟩
theorem Keep.free (h : Keep w w' P P' adr adr') : Keep w w' P P' noAdr noAdr := ⟨h.prot, h.cell, fun _ _ h => h, fun _ _ _ _ _ h => nomatch h⟩
theorem Keep.trans {w'' : World} {P'' : Prot} {adr'' : Adr} (h : Keep w w' P P' adr adr') (k : Keep w' w'' P' P'' adr' adr'') : Keep w w'' P P'' adr adr'' :=
 ⟨fun b o hp => k.prot b o (h.prot b o hp), fun b o hp => (k.cell b o (h.prot b o hp)).trans (h.cell b o hp), fun c g hc => k.num c g (h.num c g hc), fun c g cur ty fz hc hw => by
  obtain ⟨cur1, fz1, h1, h2⟩ := h.size c g cur ty fz hc hw
  obtain ⟨cur2, fz2, h3, h4⟩ := k.size c g cur1 ty fz1 (h.num c g hc) h1
  exact ⟨cur2, fz2, h3, h4.trans h2⟩⟩
theorem Rep.keep (h : Rep w P adr m vs) : ∀ {adr' : Adr}, Keep w w' P P' adr adr' → Rep w' P' adr' m vs := by
 induction h with
 | int => intro _ _; exact .int
 | bool => intro _ _; exact .bool
 | str => intro _ _; exact .str
 | nilp => intro _ _; exact .nilp
 | ptr g h => intro _ k; exact .ptr g (k.num _ _ h)
 | gp => intro _ _; exact .gp
 | ep b o vs hc hr ih => intro _ k; exact .ep b o vs (fun j u hj => ⟨(k.cell _ _ (hc j u hj).2).trans (hc j u hj).1, k.prot _ _ (hc j u hj).2⟩) (ih k.free)
 | sl A cap es parts hl hp hes hnn hcap hc hr ih =>
  intro _ k
  refine .sl A cap es parts hl hp hes hnn hcap (fun hn => ?_) (fun j m p h1 h2 => ih j m p h1 h2 k.free)
  obtain ⟨b, o, hA, hc⟩ := hc hn
  exact ⟨b, o, hA, fun j u hj => ⟨(k.cell _ _ (hc j u hj).2).trans (hc j u hj).1, k.prot _ _ (hc j u hj).2⟩⟩
 | nils => intro _ _; exact .nils
 | ms0 => intro _ _; exact .ms0
 | ms g o cap h ho hcap hcap2 hsz =>
  intro _ k
  obtain ⟨cur, ty, fz, hw, hs⟩ := hsz
  obtain ⟨cur', fz', hw', hs'⟩ := k.size _ _ _ _ _ h hw
  exact .ms g o cap (k.num _ _ h) ho hcap hcap2 ⟨cur', ty, fz', hw', fun h0 => by rw [hs', hs h0]⟩
 | fn parts hp hr ih => intro _ k; exact .fn parts hp fun j m p h1 h2 => ih j m p h1 h2 k
 | nilf => intro _ _; exact .nilf
 | mp g h => intro _ k; exact .mp g (k.num _ _ h)
 | nili => intro _ _; exact .nili
 | ifc cs hr ih => intro _ k; exact .ifc cs (ih k)
 | st parts hp hr ih => intro _ k; exact .st parts hp fun j m p h1 h2 => ih j m p h1 h2 k
 | arr parts hl hp hes hr ih => intro _ k; exact .arr parts hl hp hes fun j m p h1 h2 => ih j m p h1 h2 k.free
theorem RepV.keep {v : Value} (h : RepV w P adr m v) (k : Keep w w' P P' adr adr') : RepV w' P' adr' m v := by
 cases h with
 | val cs h => exact .val cs (h.keep k)
 | undef => exact .undef
 | tup vs hl h => exact .tup vs hl fun j m u h1 h2 => by obtain ⟨cs, h3, h4⟩ := h j m u h1 h2; exact ⟨cs, h3.keep k, h4⟩
theorem flatten_const {es : Nat} : ∀ {parts : List (List Value)}, (∀ p ∈ parts, p.length = es) → parts.flatten.length = parts.length * es
 | [], _ => by simp
 | p :: parts, h => by
  rw [List.flatten_cons, List.length_append, h p (by simp), flatten_const fun q hq => h q (by simp [hq]), List.length_cons, Nat.succ_mul]
  omega
theorem sizes_eq : ∀ {l : List MV} {parts : List (List Value)}, parts.length = l.length → (∀ (j : Nat) m p, l[j]? = some m → parts[j]? = some p → p.length = m.size) → parts.flatten.length = MV.sizes l
 | [], [], _, _ => rfl
 | m :: l, p :: parts, hl, h => by
  rw [List.flatten_cons, List.length_append, h 0 m p rfl rfl, sizes_eq (by simpa using hl) fun j m p h1 h2 => h (j + 1) m p h1 h2]
  rfl
 | [], _ :: _, h, _ => by simp at h
 | _ :: _, [], h, _ => by simp at h
theorem Rep.size (h : Rep w P adr m vs) : vs.length = m.size := by
 induction h with
 | st parts hp hr ih => exact sizes_eq hp ih
 | arr parts hl hp hes hr ih => rw [flatten_const hes, hp]; rfl
 | _ => rfl
theorem Rep.scalar (h : Rep w P adr m vs) (ha : m.isAgg = false) : ∃ v, vs = [v] := by
 cases h <;> first | exact ⟨_, rfl⟩ | cases ha
theorem valM_cells (h : Rep w P adr m vs) : (valM m vs).cells.toList = vs := by
 unfold valM
 cases ha : m.isAgg with
 | true => rfl
 | false =>
  cases h <;> first | rfl | cases ha
theorem idFrees_get : ∀ {l : List MV}, MV.idFrees l = true → ∀ (j : Nat) m, l[j]? = some m → m.idFree = true
 | [], _, j, m, h => by simp at h
 | x :: l, h, j, m, hj => by
  have h : (x.idFree && MV.idFrees l) = true := h
  rw [Bool.and_eq_true] at h
  cases j with
  | zero => simp at hj; subst hj; exact h.1
  | succ j => exact idFrees_get h.2 j m (by simpa using hj)
theorem Rep.free (h : Rep w P adr m vs) : m.idFree = true → Rep w P noAdr m vs := by
 induction h with
 | int => intro _; exact .int
 | bool => intro _; exact .bool
 | str => intro _; exact .str
 | nilp => intro _; exact .nilp
 | ptr g h => intro h; cases h
 | gp => intro _; exact .gp
 | ep b o vs hc hr ih => intro _; exact .ep b o vs hc hr
 | sl A cap es parts hl hp hes hnn hcap hc hr ih => intro _; exact .sl A cap es parts hl hp hes hnn hcap hc hr
 | nils => intro _; exact .nils
 | ms0 => intro h; cases h
 | ms => intro h; cases h
 | fn parts hp hr ih => intro hf; exact .fn parts hp fun j m p h1 h2 => ih j m p h1 h2 (idFrees_get hf j m h1)
 | nilf => intro _; exact .nilf
 | mp g h => intro h; cases h
 | nili => intro _; exact .nili
 | ifc cs hr ih => intro hf; exact .ifc cs (ih hf)
 | st parts hp hr ih => intro hf; exact .st parts hp fun j m p h1 h2 => ih j m p h1 h2 (idFrees_get hf j m h1)
 | arr parts hl hp hes hr ih => intro _; exact .arr parts hl hp hes hr
theorem Rep.ofNone (h : Rep w P noAdr m vs) : Rep w P adr m vs := h.keep ⟨fun _ _ h => h, fun _ _ _ => rfl, fun _ _ h => (nomatch h), fun _ _ _ _ _ h => nomatch h⟩
theorem Rep.one (h : Rep w P adr m vs) : ∀ v ∈ vs, v.oneCell' = true := by
 induction h with
 | st parts hp hr ih =>
  intro v hv
  obtain ⟨p, hp1, hv⟩ := List.mem_flatten.1 hv
  obtain ⟨j, hj, rfl⟩ := List.mem_iff_getElem.1 hp1
  exact ih j _ _ (List.getElem?_eq_getElem (by omega)) (List.getElem?_eq_getElem hj) v hv
 | arr parts hl hp hes hr ih =>
  intro v hv
  obtain ⟨p, hp1, hv⟩ := List.mem_flatten.1 hv
  obtain ⟨j, hj, rfl⟩ := List.mem_iff_getElem.1 hp1
  exact ih j _ _ (List.getElem?_eq_getElem (by omega)) (List.getElem?_eq_getElem hj) v hv
 | _ => intro v hv; simp at hv; subst hv; rfl
end
end
section
def nthM : List MV → Nat → Option MV
 | [], _ => none
 | x :: _, 0 => some x
 | _ :: l, n + 1 => nthM l n
theorem nthM_eq : ∀ (l : List MV) (n : Nat), nthM l n = l[n]?
 | [], _ => by simp [nthM]
 | x :: l, 0 => rfl
 | x :: l, n + 1 => by simp [nthM, nthM_eq l n]
def sizesTo : List MV → Nat → Nat
 | [], _ => 0
 | _, 0 => 0
 | m :: l, n + 1 => m.size + sizesTo l n
def getPO : MV → List Nat → Nat → Option MV
 | m, [], fo => bif Nat.beq fo 0 then some m else none
 | .st l, i :: p, fo => match nthM l i with
  | some m => bif Nat.ble (sizesTo l i) fo then getPO m p (fo - sizesTo l i) else none
  | none => none
 | .arr _ es l, i :: p, fo => match nthM l i with
  | some m => bif Nat.ble (i * es) fo then getPO m p (fo - i * es) else none
  | none => none
 | _, _ :: _, _ => none
def setL : List MV → Nat → MV → List MV
 | [], _, _ => []
 | _ :: l, 0, v => v :: l
 | x :: l, n + 1, v => x :: setL l n v
theorem setL_eq : ∀ (l : List MV) (n : Nat) (v : MV), setL l n v = l.set n v
 | [], _, _ => by simp [setL]
 | x :: l, 0, v => rfl
 | x :: l, n + 1, v => by simp [setL, setL_eq l n v]
def setPO : MV → List Nat → Nat → MV → Option MV
 | m, [], fo, v => bif Nat.beq fo 0 && Nat.beq v.size m.size then (match v.isAgg, m.isAgg with | true, true | false, false => some v | _, _ => none) else none
 | .st l, i :: p, fo, v => match nthM l i with
  | some m => bif Nat.ble (sizesTo l i) fo then (match setPO m p (fo - sizesTo l i) v with | some m' => some (.st (setL l i m')) | none => none) else none
  | none => none
 | .arr n es l, i :: p, fo, v => match nthM l i with
  | some m => bif Nat.ble (i * es) fo && v.idFree then (match setPO m p (fo - i * es) v with | some m' => some (.arr n es (setL l i m')) | none => none) else none
  | none => none
 | _, _ :: _, _, _ => none
section
variable {w w' : World} {P P' : Prot} {adr adr' : Adr} {m r v : MV} {vs cs : List Value}
theorem flatten_split : ∀ {parts : List (List Value)} {i : Nat} {p : List Value}, parts[i]? = some p → parts.flatten = (parts.take i).flatten ++ p ++ (parts.drop (i + 1)).flatten
 | q :: parts, 0, p, h => by simp at h; subst h; simp
 | q :: parts, i + 1, p, h => by
  have := flatten_split (parts := parts) (i := i) (p := p) (by simpa using h)
  simp only [List.flatten_cons, List.take_succ_cons, List.drop_succ_cons]
  rw [this]; simp
 | [], i, p, h => by simp at h
theorem flatten_set : ∀ {parts : List (List Value)} {i : Nat} {p q : List Value}, parts[i]? = some p → (parts.set i q).flatten = (parts.take i).flatten ++ q ++ (parts.drop (i + 1)).flatten
 | x :: parts, 0, p, q, h => by simp
 | x :: parts, i + 1, p, q, h => by
  have := flatten_set (parts := parts) (i := i) (p := p) (q := q) (by simpa using h)
  simp only [List.set_cons_succ, List.flatten_cons, List.take_succ_cons, List.drop_succ_cons]
  rw [this]; simp
 | [], i, p, q, h => by simp at h
theorem sizesTo_eq : ∀ {l : List MV} {parts : List (List Value)} {i : Nat}, parts.length = l.length → (∀ (j : Nat) m p, l[j]? = some m → parts[j]? = some p → p.length = m.size) → (parts.take i).flatten.length = sizesTo l i
 | [], [], i, _, _ => by cases i <;> rfl
 | m :: l, p :: parts, 0, _, _ => rfl
 | m :: l, p :: parts, i + 1, hl, h => by
  rw [List.take_succ_cons, List.flatten_cons, List.length_append, h 0 m p rfl rfl, sizesTo_eq (by simpa using hl) fun j m p h1 h2 => h (j + 1) m p h1 h2]
  rfl
 | [], _ :: _, _, h, _ => by simp at h
 | _ :: _, [], _, h, _ => by simp at h
theorem get_of_len {α β : Type} {l : List α} {parts : List β} (h : parts.length = l.length) {i : Nat} {m : α} (hm : l[i]? = some m) : ∃ p, parts[i]? = some p := by
 have := (List.getElem?_eq_some_iff.1 hm).1
 exact ⟨parts[i]'(by omega), List.getElem?_eq_getElem (by omega)⟩
theorem getPO_rep : ∀ {path : List Nat} {fo : Nat} {m : MV} {vs : List Value} {adr : Adr}, Rep w P adr m vs → getPO m path fo = some r → ∃ pre cs post, vs = pre ++ cs ++ post ∧ pre.length = fo ∧ Rep w P adr r cs
 | [], fo, m, vs, adr, h, hg => by
  have hg : (bif Nat.beq fo 0 then some m else none) = some r := by cases m <;> exact hg
  cases hb : Nat.beq fo 0 with
  | false => rw [hb] at hg; cases hg
  | true =>
   rw [hb] at hg
   have := Nat.eq_of_beq_eq_true hb
   injection hg with hg
   subst hg; subst this
   exact ⟨[], vs, [], by simp, rfl, h⟩
 | i :: p, fo, m, vs, adr, h, hg => by
  cases h with
  | st parts hp hr =>
   rename_i l
   simp only [getPO] at hg
   split at hg
   ·rename_i m' hm
    rw [nthM_eq] at hm
    cases hb : Nat.ble (sizesTo l i) fo with
    | false => rw [hb] at hg; cases hg
    | true =>
     rw [hb] at hg
     have hle := Nat.le_of_ble_eq_true hb
     obtain ⟨q, hq⟩ := get_of_len hp hm
     obtain ⟨pre, cs, post, h1, h2, h3⟩ := getPO_rep (hr i m' q hm hq) hg
     have hs := sizesTo_eq (i := i) hp fun j m p h1 h2 => (hr j m p h1 h2).size
     refine ⟨(parts.take i).flatten ++ pre, cs, post ++ (parts.drop (i + 1)).flatten, ?_, ?_, h3⟩
     ·rw [flatten_split hq, h1]; simp
     ·rw [List.length_append, hs, h2]; omega
   ·cases hg
  | arr parts hl hp hes hr =>
   rename_i n es l
   simp only [getPO] at hg
   split at hg
   ·rename_i m' hm
    rw [nthM_eq] at hm
    cases hb : Nat.ble (i * es) fo with
    | false => rw [hb] at hg; cases hg
    | true =>
     rw [hb] at hg
     have hle := Nat.le_of_ble_eq_true hb
     obtain ⟨q, hq⟩ := get_of_len (hp.trans hl.symm) hm
     obtain ⟨pre, cs, post, h1, h2, h3⟩ := getPO_rep (hr i m' q hm hq) hg
     have hi := (List.getElem?_eq_some_iff.1 hq).1
     have hs : (parts.take i).flatten.length = i * es := by
      rw [flatten_const (es := es) fun x hx => hes x (List.mem_of_mem_take hx), List.length_take, Nat.min_eq_left (by omega)]
     refine ⟨(parts.take i).flatten ++ pre, cs, post ++ (parts.drop (i + 1)).flatten, ?_, ?_, h3.ofNone⟩
     ·rw [flatten_split hq, h1]; simp
     ·rw [List.length_append, hs, h2]; omega
   ·cases hg
  | _ => simp [getPO] at hg
theorem getElem?_set' {α : Type} {l : List α} {i j : Nat} {x y : α} (h : (l.set i x)[j]? = some y) : (j = i ∧ y = x) ∨ (j ≠ i ∧ l[j]? = some y) := by
 rw [List.getElem?_set] at h
 split at h
 ·rename_i e
  split at h
  ·injection h with h; exact .inl ⟨e.symm, h.symm⟩
  ·cases h
 ·rename_i e; exact .inr ⟨fun h => e h.symm, h⟩
theorem setPO_rep : ∀ {path : List Nat} {fo : Nat} {m m' : MV} {vs : List Value} {adr : Adr}, Rep w P adr m vs → setPO m path fo v = some m' → Rep w P adr v cs →
  ∃ pre old post, vs = pre ++ old ++ post ∧ pre.length = fo ∧ old.length = cs.length ∧ Rep w P adr m' (pre ++ cs ++ post) ∧ m'.isAgg = m.isAgg ∧ (m.idFree = true → v.idFree = true → m'.idFree = true)
 | [], fo, m, m', vs, adr, h, hs, hv => by
  have hs2 : (bif Nat.beq fo 0 && Nat.beq v.size m.size then (match v.isAgg, m.isAgg with | true, true | false, false => some v | _, _ => none) else none) = some m' := by cases m <;> exact hs
  clear hs
  cases hb : (Nat.beq fo 0 && Nat.beq v.size m.size) with
  | false => rw [hb] at hs2; cases hs2
  | true =>
   rw [hb] at hs2
   rw [Bool.and_eq_true] at hb
   have h0 := Nat.eq_of_beq_eq_true hb.1
   have h1 := Nat.eq_of_beq_eq_true hb.2
   subst h0
   have hag : v = m' ∧ v.isAgg = m.isAgg := by
    have hs : (match v.isAgg, m.isAgg with | true, true | false, false => some v | _, _ => none) = some m' := hs2
    split at hs
    ·rename_i e1 e2; injection hs with hs; exact ⟨hs, e1.trans e2.symm⟩
    ·rename_i e1 e2; injection hs with hs; exact ⟨hs, e1.trans e2.symm⟩
    ·cases hs
   obtain ⟨rfl, hag⟩ := hag
   exact ⟨[], vs, [], by simp, rfl, by rw [h.size, hv.size, h1], by simpa using hv, hag, fun _ h => h⟩
 | i :: p, fo, m, m', vs, adr, h, hs, hv => by
  cases h with
  | st parts hp hr =>
   rename_i l
   simp only [setPO] at hs
   split at hs
   ·rename_i x hx
    rw [nthM_eq] at hx
    cases hb : Nat.ble (sizesTo l i) fo with
    | false => rw [hb] at hs; cases hs
    | true =>
     rw [hb] at hs
     have hle := Nat.le_of_ble_eq_true hb
     simp only [cond_true] at hs
     split at hs
     ·rename_i x' hx'
      injection hs with hs
      subst hs
      obtain ⟨q, hq⟩ := get_of_len hp hx
      obtain ⟨pre, old, post, h1, h2, h3, h4, h5, h6⟩ := setPO_rep (hr i x q hx hq) hx' hv
      have hs := sizesTo_eq (i := i) hp fun j m p h1 h2 => (hr j m p h1 h2).size
      refine ⟨(parts.take i).flatten ++ pre, old, post ++ (parts.drop (i + 1)).flatten, ?_, ?_, h3, ?_, rfl, ?_⟩
      ·rw [flatten_split hq, h1]; simp
      ·rw [List.length_append, hs, h2]; omega
      ·have e : (parts.take i).flatten ++ pre ++ cs ++ (post ++ (parts.drop (i + 1)).flatten) = (parts.set i (pre ++ cs ++ post)).flatten := by
        rw [flatten_set hq]; simp
       rw [e, setL_eq]
       refine .st _ (by simpa using hp) fun j y z hy hz => ?_
       rcases getElem?_set' hy with ⟨rfl, rfl⟩ | ⟨hne, hy⟩
       ·rcases getElem?_set' hz with ⟨_, rfl⟩ | ⟨hne, _⟩
        ·exact h4
        ·exact absurd rfl hne
       ·rcases getElem?_set' hz with ⟨rfl, _⟩ | ⟨_, hz⟩
        ·exact absurd rfl hne
        ·exact hr j y z hy hz
      ·intro hf hvf
       have key : ∀ {l : List MV} {i : Nat}, MV.idFrees l = true → x'.idFree = true → MV.idFrees (setL l i x') = true := by
        intro l
        induction l with
        | nil => intro i _ _; rfl
        | cons a l ih =>
         intro i h1 h2
         have h1 : (a.idFree && MV.idFrees l) = true := h1
         rw [Bool.and_eq_true] at h1
         cases i with
         | zero => show (x'.idFree && MV.idFrees l) = true; rw [h2, h1.2]; rfl
         | succ i => show (a.idFree && MV.idFrees (setL l i x')) = true; rw [h1.1, ih h1.2 h2]; rfl
       exact key hf (h6 (idFrees_get hf i x hx) hvf)
     ·cases hs
   ·cases hs
  | arr parts hl hp hes hr =>
   rename_i n es l
   simp only [setPO] at hs
   split at hs
   ·rename_i x hx
    rw [nthM_eq] at hx
    cases hb : (Nat.ble (i * es) fo && v.idFree) with
    | false => rw [hb] at hs; cases hs
    | true =>
     rw [hb] at hs
     rw [Bool.and_eq_true] at hb
     have hle := Nat.le_of_ble_eq_true hb.1
     simp only [cond_true] at hs
     split at hs
     ·rename_i x' hx'
      injection hs with hs
      subst hs
      obtain ⟨q, hq⟩ := get_of_len (hp.trans hl.symm) hx
      obtain ⟨pre, old, post, h1, h2, h3, h4, h5, h6⟩ := setPO_rep (hr i x q hx hq) hx' (hv.free hb.2)
      have hi := (List.getElem?_eq_some_iff.1 hq).1
      have hs : (parts.take i).flatten.length = i * es := by
       rw [flatten_const (es := es) fun x hx => hes x (List.mem_of_mem_take hx), List.length_take, Nat.min_eq_left (by omega)]
      have hql := hes q (List.mem_of_getElem? hq)
      refine ⟨(parts.take i).flatten ++ pre, old, post ++ (parts.drop (i + 1)).flatten, ?_, ?_, h3, ?_, rfl, fun _ _ => rfl⟩
      ·rw [flatten_split hq, h1]; simp
      ·rw [List.length_append, hs, h2]; omega
      ·have e : (parts.take i).flatten ++ pre ++ cs ++ (post ++ (parts.drop (i + 1)).flatten) = (parts.set i (pre ++ cs ++ post)).flatten := by
        rw [flatten_set hq]; simp
       rw [e, setL_eq]
       refine .arr _ (by simpa using hl) (by simpa using hp) (fun z hz => ?_) fun j y z hy hz => ?_
       ·rcases List.mem_or_eq_of_mem_set hz with hz | rfl
        ·exact hes z hz
        ·rw [h1] at hql
         simp only [List.length_append] at hql ⊢
         omega
       ·rcases getElem?_set' hy with ⟨rfl, rfl⟩ | ⟨hne, hy⟩
        ·rcases getElem?_set' hz with ⟨_, rfl⟩ | ⟨hne, _⟩
         ·exact h4
         ·exact absurd rfl hne
        ·rcases getElem?_set' hz with ⟨rfl, _⟩ | ⟨_, hz⟩
         ·exact absurd rfl hne
         ·exact hr j y z hy hz
     ·cases hs
   ·cases hs
  | _ => simp [setPO] at hs
end
end
section
structure MB where
 ty : TypeId
 es : Nat
 row : Bool
 pe : Nat
 l : List MV
abbrev FM := Nat → Option MB
def fput {α : Type} (m : Nat → Option α) (c : Nat) (b : α) : Nat → Option α := fun x => if x = c then some b else m x
def fdel {α : Type} (m : Nat → Option α) (c : Nat) : Nat → Option α := fun x => if x = c then none else m x
theorem fput_same {α : Type} (m : Nat → Option α) (c : Nat) (b : α) : fput m c b c = some b := by simp [fput]
theorem fput_ne {α : Type} (m : Nat → Option α) {c x : Nat} (b : α) (h : x ≠ c) : fput m c b x = m x := by simp [fput, h]
theorem fdel_some {α : Type} {m : Nat → Option α} {c x : Nat} {b : α} (h : fdel m c x = some b) : x ≠ c ∧ m x = some b := by
 unfold fdel at h
 split at h
 ·cases h
 ·exact ⟨by assumption, h⟩
def FzOk (fz : Nat × Nat) (p : Nat) : Prop := fz = (0, 0) ∨ 0 < p ∧ fz.2 ≤ p
theorem FzOk.le {fz : Nat × Nat} {p q : Nat} (h : FzOk fz p) (hq : p ≤ q) : FzOk fz q := h.imp id fun h => ⟨by omega, by omega⟩
theorem FzOk.zero {fz : Nat × Nat} (h : FzOk fz 0) : fz = (0, 0) := h.elim id fun h => absurd h.1 (Nat.lt_irrefl _)
theorem FzOk.two {fz : Nat × Nat} {p : Nat} (h : FzOk fz p) : fz.2 ≤ p := by rcases h with rfl | h; exact Nat.zero_le _; exact h.2
def HasC (w : World) (P : Prot) (adr : Adr) (b : MB) (g : Nat) : Prop := ∃ (cur : Array Value) (parts : List (List Value)) (fz : Nat × Nat), w.heap[g]? = some (.cells cur b.ty fz) ∧ FzOk fz (b.pe * b.es) ∧ parts.length = b.l.length ∧ (∀ p ∈ parts, p.length = b.es) ∧
  (∀ (j : Nat) x p, b.l[j]? = some x → parts[j]? = some p → Rep w P (if b.row then noAdr else adr) x p) ∧ parts.flatten <+: cur.toList
def EntR (w : World) (P : Prot) : List MV → List MV → List MapEntry → Prop
 | [], [], [] => True
 | k :: ks, v :: vs, e :: es => RepV w P noAdr k e.key ∧ RepV w P noAdr v e.val ∧ EntR w P ks vs es
 | _, _, _ => False
def ObjR (w : World) (P : Prot) (ks vs : List MV) (o : Obj) : Prop := (∃ (clk : Nat) (es : Array MapEntry), o = .map es clk ∧ EntR w P ks vs es.toList) ∨ ∃ (s : List UInt8) (pos : Nat), ks = [.str s] ∧ vs = [.nilp, .int .i64 pos] ∧ o = .stringIter ⟨s.toArray⟩ pos
def HasM (w : World) (P : Prot) (b : MB) (g : Nat) : Prop := b.row = false ∧ b.es = 0 ∧ ∃ (ks vs : List MV) (o : Obj), b.l = [.mpv ks vs] ∧ w.heap[g]? = some o ∧ ObjR w P ks vs o
theorem ObjR.cells {w : World} {P : Prot} {ks vs : List MV} {cur : Array Value} {t : TypeId} {x : Nat × Nat} (h : ObjR w P ks vs (.cells cur t x)) : False := by
 rcases h with ⟨_, _, h, _⟩ | ⟨_, _, _, _, h⟩ <;> cases h
structure HasB (w : World) (P : Prot) (adr : Adr) (b : MB) (g : Nat) : Prop where
 has' : HasC w P adr b g ∨ HasM w P b g
 pe : ∀ o, P g o → o < b.pe * b.es
 le : b.pe ≤ b.l.length
structure InvM (w : World) (P : Prot) (adr : Adr) (m : FM) : Prop where
 blk : ∀ c b, m c = some b → (b.row = true ∧ b.l = [] ∧ adr c = none ∧ b.pe = 0) ∨ ∃ g, adr c = some g ∧ HasB w P adr b g
 inj : ∀ c c' b b' g, m c = some b → m c' = some b' → adr c = some g → adr c' = some g → c = c'
 prot : ∀ b o, P b o → b < w.heap.size
section
variable {w w' : World} {P P' : Prot} {adr adr' : Adr} {m m' : FM} {b : MB} {g c : Nat}
theorem Keep.sub (k : Keep w w' P P' adr adr') (r : Bool) : Keep w w' P P' (if r then noAdr else adr) (if r then noAdr else adr') := by
 cases r
 ·exact k
 ·exact k.free
theorem HasB.lt (h : HasB w P adr b g) : g < w.heap.size := by
 rcases h.has' with ⟨cur, parts, fz, h1, _⟩ | ⟨_, _, _, _, _, _, h1, _⟩
 ·exact (Array.getElem?_eq_some_iff.1 h1).1
 ·exact (Array.getElem?_eq_some_iff.1 h1).1
theorem EntR.keep (k : Keep w w' P P' adr adr') : ∀ {ks vs : List MV} {es : List MapEntry}, EntR w P ks vs es → EntR w' P' ks vs es
 | [], [], [], _ => trivial
 | _ :: _, _ :: _, _ :: _, h => ⟨h.1.keep k.free, h.2.1.keep k.free, EntR.keep k h.2.2⟩
 | [], [], _ :: _, h => h.elim
 | [], _ :: _, _, h => h.elim
 | _ :: _, [], _, h => h.elim
 | _ :: _, _ :: _, [], h => h.elim
theorem ObjR.keep (k : Keep w w' P P' adr adr') {ks vs : List MV} {o : Obj} (h : ObjR w P ks vs o) : ObjR w' P' ks vs o := by
 rcases h with ⟨clk, es, h1, h2⟩ | h
 ·exact .inl ⟨clk, es, h1, h2.keep k⟩
 ·exact .inr h
theorem HasB.ofE (h : HasB w P adr b g) (he : b.es ≠ 0) : HasC w P adr b g := h.has'.elim id fun h => absurd h.2.1 he
theorem HasB.ofR (h : HasB w P adr b g) (hr : b.row = true) : HasC w P adr b g := h.has'.elim id fun h => by rw [h.1] at hr; cases hr
theorem HasB.ofL (h : HasB w P adr b g) (hl : ∀ ks vs, b.l ≠ [.mpv ks vs]) : HasC w P adr b g := h.has'.elim id fun h => by
 obtain ⟨_, _, ks, vs, _, e, _⟩ := h
 exact absurd e (hl ks vs)
theorem HasB.ofX (h : HasB w P adr b g) {k : Nat} {x : MV} (hx : b.l[k]? = some x) (hn : ∀ ks vs, x ≠ .mpv ks vs) : HasC w P adr b g := h.ofL fun ks vs e => by
 rw [e] at hx
 cases k with
 | zero => injection hx with hx; exact hn ks vs hx.symm
 | succ k => simp at hx
theorem HasB.keep (h : HasB w P adr b g) (k : Keep w w' P P' adr adr') (hg : w'.heap[g]? = w.heap[g]?) (hp : ∀ o, P' g o → P g o) : HasB w' P' adr' b g := by
 refine ⟨?_, fun o ho => h.pe o (hp o ho), h.le⟩
 rcases h.has' with ⟨cur, parts, fz, h1, h0, h2, h3, h4, h5⟩ | ⟨h1, h2, ks, vs, o, h3, h4, h5⟩
 ·exact .inl ⟨cur, parts, fz, hg.trans h1, h0, h2, h3, fun j x p hx hq => (h4 j x p hx hq).keep (k.sub b.row), h5⟩
 ·exact .inr ⟨h1, h2, ks, vs, o, h3, hg.trans h4, h5.keep k⟩
def protNew (w w' : World) (P : Prot) : Prot := fun b o => P b o ∨ (w.heap.size ≤ b ∧ b < w'.heap.size)
theorem cell_same {b o : Nat} (h : w'.heap[b]? = w.heap[b]?) : w'.cell? ⟨b, o, none⟩ = w.cell? ⟨b, o, none⟩ := World.cell?_of_block (a := ⟨b, o, none⟩) h
theorem Keep.below (hI : ∀ b o, P b o → b < w.heap.size) (hb : Below w.heap.size w w') : Keep w w' P (protNew w w' P) adr adr :=
 ⟨fun _ _ h => .inl h, fun b o h => cell_same (hb.block b (hI b o h)), fun _ _ h => h, fun _c g cur _ty fz _ hw => ⟨cur, fz, (hb.block g (Array.getElem?_eq_some_iff.1 hw).1).trans hw, rfl⟩⟩
theorem InvM.below (h : InvM w P adr m) (hb : Below w.heap.size w w') : InvM w' (protNew w w' P) adr m := by
 refine ⟨fun c b hc => ?_, h.inj, fun b o hp => ?_⟩
 ·rcases h.blk c b hc with h1 | ⟨g, h1, h2⟩
  ·exact .inl h1
  ·refine .inr ⟨g, h1, h2.keep (Keep.below h.prot hb) (hb.block g h2.lt) fun o ho => ?_⟩
   rcases ho with ho | ho
   ·exact ho
   ·exact absurd h2.lt (by omega)
 ·rcases hp with hp | hp
  ·exact Nat.lt_of_lt_of_le (h.prot b o hp) hb.size
  ·exact hp.2
theorem Below.alloc1 (w : World) (o : Obj) : Below w.heap.size w (w.alloc o) := (Below.refl _ _).alloc (Nat.le_refl _) _
theorem Keep.below' (hI : ∀ b o, P b o → b < w.heap.size) (hb : Below w.heap.size w w') : Keep w w' P P adr adr :=
 ⟨fun _ _ h => h, fun b o h => cell_same (hb.block b (hI b o h)), fun _ _ h => h, fun _c g cur _ty fz _ hw => ⟨cur, fz, (hb.block g (Array.getElem?_eq_some_iff.1 hw).1).trans hw, rfl⟩⟩
theorem Keep.adr1 (hc : adr c = none) (g : Nat) : Keep w w P P adr (fput adr c g) :=
 ⟨fun _ _ h => h, fun _ _ _ => rfl, fun x y h => by
  by_cases e : x = c
  ·subst e; rw [hc] at h; cases h
  ·rw [fput_ne _ _ e]; exact h, fun _ _ cur _ fz _ h => ⟨cur, fz, h, rfl⟩⟩
theorem InvM.newG (h : InvM w P adr m) (hc : adr c = none) (hm : m c = none) (hb : Below w.heap.size w w') (hB : Keep w w' P P adr (fput adr c w.heap.size) → HasC w' P (fput adr c w.heap.size) b w.heap.size ∨ HasM w' P b w.heap.size) (hle : b.pe ≤ b.l.length) :
  InvM w' P (fput adr c w.heap.size) (fput m c b) ∧ Keep w w' P P adr (fput adr c w.heap.size) := by
 have k : Keep w w' P P adr (fput adr c w.heap.size) := (Keep.below' h.prot hb).trans (Keep.adr1 hc _)
 have hnew : ∀ o, ¬ P w.heap.size o := fun o ho => absurd (h.prot _ _ ho) (Nat.lt_irrefl _)
 refine ⟨⟨fun x y hx => ?_, fun x y bx bY g hx hy hgx hgy => ?_, fun b o hp => Nat.lt_of_lt_of_le (h.prot b o hp) hb.size⟩, k⟩
 ·by_cases e : x = c
  ·subst e
   rw [fput_same] at hx
   injection hx with hx
   subst hx
   exact .inr ⟨_, fput_same _ _ _, hB k, fun o ho => absurd ho (hnew o), hle⟩
  ·rw [fput_ne _ _ e] at hx
   rcases h.blk x y hx with h1 | ⟨g, h1, h2⟩
   ·exact .inl ⟨h1.1, h1.2.1, by rw [fput_ne _ _ e]; exact h1.2.2.1, h1.2.2.2⟩
   ·exact .inr ⟨g, by rw [fput_ne _ _ e]; exact h1, h2.keep k (hb.block g h2.lt) fun o ho => ho⟩
 ·have old : ∀ {x : Nat} {bx : MB} {g : Nat}, x ≠ c → fput m c b x = some bx → fput adr c w.heap.size x = some g → m x = some bx ∧ adr x = some g ∧ g < w.heap.size := by
   intro x bx g e hx hg
   rw [fput_ne _ _ e] at hx hg
   rcases h.blk x bx hx with h1 | ⟨g', h1, h2⟩
   ·rw [h1.2.2.1] at hg; cases hg
   ·rw [h1] at hg; injection hg with hg; subst hg; exact ⟨hx, h1, h2.lt⟩
  by_cases ex : x = c
  ·by_cases ey : y = c
   ·exact ex.trans ey.symm
   ·subst ex
    rw [fput_same] at hgx
    injection hgx with hgx
    obtain ⟨_, _, h3⟩ := old ey hy hgy
    omega
  ·by_cases ey : y = c
   ·subst ey
    rw [fput_same] at hgy
    injection hgy with hgy
    obtain ⟨_, _, h3⟩ := old ex hx hgx
    omega
   ·obtain ⟨a1, a2, _⟩ := old ex hx hgx
    obtain ⟨b1, b2, _⟩ := old ey hy hgy
    exact h.inj x y bx bY g a1 b1 a2 b2
theorem InvM.new (h : InvM w P adr m) (hc : adr c = none) (hm : m c = none) (hb : Below w.heap.size w w') {cur : Array Value} {parts : List (List Value)} (hg : w'.heap[w.heap.size]? = some (.cells cur b.ty (0, 0))) (hpl : parts.length = b.l.length) (hpe : ∀ p ∈ parts, p.length = b.es)
  (hr : ∀ (j : Nat) x p, b.l[j]? = some x → parts[j]? = some p → Rep w P (if b.row then noAdr else adr) x p) (hcur : parts.flatten <+: cur.toList) (hle : b.pe ≤ b.l.length) :
  InvM w' P (fput adr c w.heap.size) (fput m c b) ∧ Keep w w' P P adr (fput adr c w.heap.size) :=
 h.newG hc hm hb (fun k => .inl ⟨cur, parts, _, hg, .inl rfl, hpl, hpe, fun j x p h1 h2 => (hr j x p h1 h2).keep (k.sub b.row), hcur⟩) hle
theorem InvM.sub (h : InvM w P adr m) (hs : ∀ c b, m' c = some b → m c = some b) : InvM w P adr m' := ⟨fun c b hc => h.blk c b (hs c b hc), fun c c' b b' g h1 h2 => h.inj c c' b b' g (hs _ _ h1) (hs _ _ h2), h.prot⟩
theorem prefix_get {α : Type} {l r : List α} (h : l <+: r) {j : Nat} {x : α} (hx : l[j]? = some x) : r[j]? = some x := by
 obtain ⟨t, rfl⟩ := h
 rw [List.getElem?_append_left (List.getElem?_eq_some_iff.1 hx).1]
 exact hx
theorem InvM.write (h : InvM w P adr m) {b' : MB} (hlen : b.l.length ≤ b'.l.length) (hm : m c = some b) (ha : adr c = some g) (hty : b'.ty = b.ty) (hes : b'.es = b.es) (hpe : b'.pe = b.pe) {cur cur' : Array Value} {fz : Nat × Nat} (hg : w.heap[g]? = some (.cells cur b.ty fz)) (hfz : FzOk fz (b.pe * b.es)) (hsz : cur'.size = cur.size)
  (hsame : ∀ o, P g o → cur'[o]? = cur[o]?) {parts : List (List Value)} (hpl : parts.length = b'.l.length) (hpes : ∀ p ∈ parts, p.length = b'.es)
  (hr : ∀ (j : Nat) x p, b'.l[j]? = some x → parts[j]? = some p → Rep w P (if b'.row then noAdr else adr) x p) (hcur : parts.flatten <+: cur'.toList) :
  InvM (w.setRow g cur') P adr (fput m c b') ∧ Keep w (w.setRow g cur') P P adr adr := by
 have hgw := setRow_heap w g cur cur' b.ty fz hg
 have k : Keep w (w.setRow g cur') P P adr adr := by
  refine ⟨fun _ _ h => h, fun x o hp => ?_, fun _ _ h => h, fun c' g' cu ty fz' hc hw => ?_⟩
  ·by_cases e : x = g
   ·subst e
    rw [cell_of_row _ x o cur' b.ty fz hgw, cell_of_row _ x o cur b.ty fz hg]
    exact hsame o hp
   ·exact cell_same (setRow_other _ _ _ _ e)
  ·by_cases e : g' = g
   ·subst e
    rw [hg] at hw
    injection hw with hw
    injection hw with h1 h2 h3
    subst h1; subst h2; subst h3
    exact ⟨cur', _, hgw, hsz⟩
   ·exact ⟨cu, _, (setRow_other _ _ _ _ e).trans hw, rfl⟩
 refine ⟨⟨fun x y hx => ?_, fun x y bx bY g' hx hy hgx hgy => ?_, fun b o hp => by simpa using h.prot b o hp⟩, k⟩
 ·by_cases e : x = c
  ·subst e
   rw [fput_same] at hx
   injection hx with hx
   subst hx
   refine .inr ⟨g, ha, .inl ⟨cur', parts, fz, by rw [hty]; exact hgw, by rw [hpe, hes]; exact hfz, hpl, hpes, fun j x p h1 h2 => (hr j x p h1 h2).keep (k.sub b'.row), hcur⟩, fun o ho => ?_, ?_⟩
   rw [hpe, hes]
   rcases h.blk x b hm with h1 | ⟨g', h1, h2⟩
   ·rw [ha] at h1; cases h1.2.2.1
   ·rw [ha] at h1; injection h1 with h1; subst h1; exact h2.pe o ho
   rw [hpe]
   rcases h.blk x b hm with h1 | ⟨g', h1, h2⟩
   ·rw [ha] at h1; cases h1.2.2.1
   ·exact Nat.le_trans h2.le hlen
  ·rw [fput_ne _ _ e] at hx
   rcases h.blk x y hx with h1 | ⟨g', h1, h2⟩
   ·exact .inl h1
   ·refine .inr ⟨g', h1, h2.keep k (setRow_other _ _ _ _ fun eg => e ?_) fun o ho => ho⟩
    subst eg
    exact h.inj x c y b g' hx hm h1 ha
 ·have old : ∀ {x : Nat} {bx : MB}, fput m c b' x = some bx → ∃ by_, m x = some by_ := by
   intro x bx hx
   by_cases e : x = c
   ·subst e; exact ⟨b, hm⟩
   ·rw [fput_ne _ _ e] at hx; exact ⟨bx, hx⟩
  obtain ⟨_, h1⟩ := old hx
  obtain ⟨_, h2⟩ := old hy
  exact h.inj x y _ _ g' h1 h2 hgx hgy
theorem InvM.writeM (h : InvM w P adr m) {ks vs ks' vs' : List MV} (hm : m c = some b) (hl : b.l = [.mpv ks vs]) (ha : adr c = some g) {o o' : Obj} (hg : w.heap[g]? = some o) (hgo : ObjR w P ks vs o) (hgw : w'.heap[g]? = some o') (hso : ∀ x, x ≠ g → w'.heap[x]? = w.heap[x]?) (hsz : w'.heap.size = w.heap.size) (hE : ObjR w P ks' vs' o') :
  InvM w' P adr (fput m c { b with l := [.mpv ks' vs'] }) ∧ Keep w w' P P adr adr := by
 have hB : HasM w P b g ∧ b.pe ≤ b.l.length ∧ ∀ o, P g o → o < b.pe * b.es := by
  rcases h.blk c b hm with h1 | ⟨g', h1, h2⟩
  ·rw [ha] at h1; cases h1.2.2.1
  ·rw [ha] at h1; injection h1 with h1; subst h1
   rcases h2.has' with ⟨cur, _, _, h3, _⟩ | h3
   ·rw [hg] at h3; injection h3 with h3; subst h3; exact hgo.cells.elim
   ·exact ⟨h3, h2.le, h2.pe⟩
 obtain ⟨hB, hle, hpe⟩ := hB
 have hno : ∀ o, ¬ P g o := fun o ho => by have := hpe o ho; rw [hB.2.1, Nat.mul_zero] at this; omega
 have k : Keep w w' P P adr adr := by
  refine ⟨fun _ _ h => h, fun x o hp => ?_, fun _ _ h => h, fun c' g' cu ty fz' hc hw => ?_⟩
  ·by_cases e : x = g
   ·subst e; exact absurd hp (hno o)
   ·exact cell_same (hso _ e)
  ·by_cases e : g' = g
   ·subst e; rw [hg] at hw; injection hw with hw; subst hw; exact hgo.cells.elim
   ·exact ⟨cu, _, (hso _ e).trans hw, rfl⟩
 refine ⟨⟨fun x y hx => ?_, fun x y bx bY g' hx hy hgx hgy => ?_, fun b o hp => by rw [hsz]; exact h.prot b o hp⟩, k⟩
 ·by_cases e : x = c
  ·subst e
   rw [fput_same] at hx
   injection hx with hx
   subst hx
   refine .inr ⟨g, ha, .inr ⟨hB.1, hB.2.1, ks', vs', o', rfl, hgw, hE.keep k⟩, fun o ho => absurd ho (hno o), ?_⟩
   rw [hl] at hle
   exact hle
  ·rw [fput_ne _ _ e] at hx
   rcases h.blk x y hx with h1 | ⟨g', h1, h2⟩
   ·exact .inl h1
   ·refine .inr ⟨g', h1, h2.keep k (hso _ fun eg => e ?_) fun o ho => ho⟩
    subst eg
    exact h.inj x c y b g' hx hm h1 ha
 ·have old : ∀ {x : Nat} {bx : MB}, fput m c { b with l := [.mpv ks' vs'] } x = some bx → ∃ by_, m x = some by_ := by
   intro x bx hx
   by_cases e : x = c
   ·subst e; exact ⟨b, hm⟩
   ·rw [fput_ne _ _ e] at hx; exact ⟨bx, hx⟩
  obtain ⟨_, h1⟩ := old hx
  obtain ⟨_, h2⟩ := old hy
  exact h.inj x y _ _ g' h1 h2 hgx hgy
theorem InvM.rename {d : Nat} (h : InvM w P adr (fput m c b)) (ha : adr c = some g) (hd : adr d = none) (hm : m d = none) : InvM w P (fput adr d g) (fput (fdel m c) d b) ∧ Keep w w P P adr (fput adr d g) := by
 have k : Keep w w P P adr (fput adr d g) := Keep.adr1 hd g
 have hcd : c ≠ d := by rintro rfl; rw [ha] at hd; cases hd
 have old : ∀ {x : Nat} {y : MB}, x ≠ d → fput (fdel m c) d b x = some y → x ≠ c ∧ fput m c b x = some y := by
  intro x y e hx
  rw [fput_ne _ _ e] at hx
  obtain ⟨h1, h2⟩ := fdel_some hx
  exact ⟨h1, by rw [fput_ne _ _ h1]; exact h2⟩
 refine ⟨⟨fun x y hx => ?_, fun x y bx bY g' hx hy hgx hgy => ?_, h.prot⟩, k⟩
 ·by_cases e : x = d
  ·subst e
   rw [fput_same] at hx
   injection hx with hx
   subst hx
   rcases h.blk c b (fput_same _ _ _) with h1 | ⟨g', h1, h2⟩
   ·rw [ha] at h1; cases h1.2.2.1
   ·rw [ha] at h1; injection h1 with h1; subst h1
    exact .inr ⟨g, fput_same _ _ _, h2.keep k rfl fun _ h => h⟩
  ·obtain ⟨h1, h2⟩ := old e hx
   rcases h.blk x y h2 with h3 | ⟨g', h3, h4⟩
   ·exact .inl ⟨h3.1, h3.2.1, by rw [fput_ne _ _ e]; exact h3.2.2.1, h3.2.2.2⟩
   ·exact .inr ⟨g', by rw [fput_ne _ _ e]; exact h3, h4.keep k rfl fun _ h => h⟩
 ·by_cases ex : x = d
  ·by_cases ey : y = d
   ·exact ex.trans ey.symm
   ·subst ex
    rw [fput_same] at hgx
    injection hgx with hgx
    obtain ⟨h1, h2⟩ := old ey hy
    rw [fput_ne _ _ ey, ← hgx] at hgy
    exact absurd (h.inj y c _ _ g h2 (fput_same _ _ _) hgy ha) h1
  ·by_cases ey : y = d
   ·subst ey
    rw [fput_same] at hgy
    injection hgy with hgy
    obtain ⟨h1, h2⟩ := old ex hx
    rw [fput_ne _ _ ex, ← hgy] at hgx
    exact absurd (h.inj x c _ _ g h2 (fput_same _ _ _) hgx ha) h1
   ·obtain ⟨_, h2⟩ := old ex hx
    obtain ⟨_, h4⟩ := old ey hy
    rw [fput_ne _ _ ex] at hgx
    rw [fput_ne _ _ ey] at hgy
    exact h.inj x y _ _ g' h2 h4 hgx hgy
theorem InvM.unborn (h : InvM w P adr m) (hc : adr c = none) (hr : b.row = true) (hl : b.l = []) (hpe : b.pe = 0) : InvM w P adr (fput m c b) := by
 refine ⟨fun x y hx => ?_, fun x y bx bY g hx hy hgx hgy => ?_, h.prot⟩
 ·by_cases e : x = c
  ·subst e
   rw [fput_same] at hx
   injection hx with hx
   subst hx
   exact .inl ⟨hr, hl, hc, hpe⟩
  ·rw [fput_ne _ _ e] at hx; exact h.blk x y hx
 ·have old : ∀ {x : Nat} {y : MB}, adr x = some g → fput m c b x = some y → m x = some y := by
   intro x y hg hx
   by_cases e : x = c
   ·subst e; rw [hc] at hg; cases hg
   ·rw [fput_ne _ _ e] at hx; exact hx
  exact h.inj x y _ _ g (old hgx hx) (old hgy hy) hgx hgy
end
end
section
def tup : List Value → Value
 | [v] => v
 | vs => .tuple vs.toArray
section
variable {P : Program} {T : Tab} {N : Nat} {ents : List FuncId}
def resOne (tmps : Array Value) : ResultVar → Sem Value
 | .tmp t => pure (tmps.getD t undef)
 | .cell p t => do loadVar t (← asAddr (tmps.getD p undef))
theorem loadAt_asAddr {ty : TypeId} {v u : Value} {w : World} (h : (Instr.loadAt ty v).run P w = .ok u w) : (do loadVar ty (← asAddr v) : Sem Value).run P w = .ok u w := by
 cases v with
 | pointer ao =>
  cases ao with
  | none => simp [Instr.loadAt, Instr.sureAddr, stuck] at h
  | some a => simpa [Instr.loadAt, Instr.sureAddr, asAddr] using h
 | _ => simp [Instr.loadAt, Instr.sureAddr, stuck] at h
theorem results_out {fn : Func} {rs : List ResultVar} (hrs : fn.results = rs.toArray) (h5 : rs.length ≤ 6) {tmps : Array Value} {w : World} {vs : List Value} (hl : vs.length = rs.length)
  (hi : ∀ (i : Nat) (r : ResultVar), rs[i]? = some r → ∃ v, vs[i]? = some v ∧ (resOne tmps r).run P w = .ok v w) :
  (results fn tmps).run P w = .ok (tup vs) w := by
 have hres : results fn tmps = (do
   let vs ← fn.results.mapM (resOne tmps)
   pure (if h : vs.size = 1 then vs[0] else .tuple vs)) := by
  unfold results
  congr 1
 rw [hres, hrs]
 match rs, vs, h5, hl, hi with
 | [], [], _, _, _ => simp [tup]
 | [r1], [v1], _, _, hi =>
  obtain ⟨u1, e1, r1⟩ := hi 0 _ rfl
  simp at e1; subst e1
  simp [r1, tup]
 | [r1, r2], [v1, v2], _, _, hi =>
  obtain ⟨u1, e1, q1⟩ := hi 0 _ rfl
  obtain ⟨u2, e2, q2⟩ := hi 1 _ rfl
  simp at e1 e2; subst e1; subst e2
  simp [q1, q2, tup]
 | [r1, r2, r3], [v1, v2, v3], _, _, hi =>
  obtain ⟨u1, e1, q1⟩ := hi 0 _ rfl
  obtain ⟨u2, e2, q2⟩ := hi 1 _ rfl
  obtain ⟨u3, e3, q3⟩ := hi 2 _ rfl
  simp at e1 e2 e3; subst e1; subst e2; subst e3
  simp [q1, q2, q3, tup]
 | [r1, r2, r3, r4], [v1, v2, v3, v4], _, _, hi =>
  obtain ⟨u1, e1, q1⟩ := hi 0 _ rfl
  obtain ⟨u2, e2, q2⟩ := hi 1 _ rfl
  obtain ⟨u3, e3, q3⟩ := hi 2 _ rfl
  obtain ⟨u4, e4, q4⟩ := hi 3 _ rfl
  simp at e1 e2 e3 e4; subst e1; subst e2; subst e3; subst e4
  simp [q1, q2, q3, q4, tup]
 | [r1, r2, r3, r4, r5], [v1, v2, v3, v4, v5], _, _, hi =>
  obtain ⟨u1, e1, q1⟩ := hi 0 _ rfl
  obtain ⟨u2, e2, q2⟩ := hi 1 _ rfl
  obtain ⟨u3, e3, q3⟩ := hi 2 _ rfl
  obtain ⟨u4, e4, q4⟩ := hi 3 _ rfl
  obtain ⟨u5, e5, q5⟩ := hi 4 _ rfl
  simp at e1 e2 e3 e4 e5; subst e1; subst e2; subst e3; subst e4; subst e5
  simp [q1, q2, q3, q4, q5, tup]
 | [r1, r2, r3, r4, r5, r6], [v1, v2, v3, v4, v5, v6], _, _, hi =>
  obtain ⟨u1, e1, q1⟩ := hi 0 _ rfl
  obtain ⟨u2, e2, q2⟩ := hi 1 _ rfl
  obtain ⟨u3, e3, q3⟩ := hi 2 _ rfl
  obtain ⟨u4, e4, q4⟩ := hi 3 _ rfl
  obtain ⟨u5, e5, q5⟩ := hi 4 _ rfl
  obtain ⟨u6, e6, q6⟩ := hi 5 _ rfl
  simp at e1 e2 e3 e4 e5 e6; subst e1; subst e2; subst e3; subst e4; subst e5; subst e6
  simp [q1, q2, q3, q4, q5, q6, tup]
end
end
section
theorem wrap_in (n : Int) (h1 : -9223372036854775808 ≤ n) (h2 : n < 9223372036854775808) : IntKind.i64.wrap n = n := by
 rw [IntKind.wrap_i64]; omega
theorem wrapu_in (n : Int) (h1 : 0 ≤ n) (h2 : n < 18446744073709551616) : IntKind.u64.wrap n = n := by
 simp only [IntKind.wrap, IntKind.bits, IntKind.signed]
 simp
 omega
theorem wrap8_in (n : Int) (h1 : 0 ≤ n) (h2 : n < 256) : IntKind.u8.wrap n = n := by
 simp only [IntKind.wrap, IntKind.bits, IntKind.signed]
 simp
 omega
end
section
def segsOk (T : Tab) : List (Nat × TypeId) → Nat → Nat → Bool
 | [], b, sz => Nat.beq b sz
 | (o, t) :: fs, b, sz => Nat.beq o b && match Tab.find T t with | some d => segsOk T fs (b + d.size) sz | none => false
def flatB (P : Program) (T : Tab) : Nat → TypeId → Bool
 | 0, _ => false
 | f + 1, t => match Tab.find T t with
  | some (.int _) => true
  | some .bool => true
  | some .str => true
  | some (.arr _ e es) => Nat.blt 0 es && flatB P T f e
  | some (.struct fs sz) => !P.stoodInHeld t && (P.fieldsOf t).toList.all (fun x => !(x.name == "_")) && segsOk T fs 0 sz && fs.all (fun x => flatB P T f x.2)
  | _ => false
def confT (T : Tab) : Nat → TypeId → List Value → Prop
 | 0, _, _ => False
 | f + 1, t, cs => match Tab.find T t with
  | some (.int k) => ∃ n, cs = [.int k n]
  | some .bool => ∃ b, cs = [.bool b]
  | some .str => ∃ s, cs = [.string s]
  | some (.arr n e es) => cs.length = n * es ∧ ∀ i, i < n → confT T f e ((cs.drop (i * es)).take es)
  | some (.struct fs sz) => cs.length = sz ∧ fs.foldr (fun x K => (match Tab.find T x.2 with | some d => confT T f x.2 ((cs.drop x.1).take d.size) | none => False) ∧ K) True
  | _ => False
def valOf (T : Tab) (t : TypeId) (cs : List Value) : Value := match Tab.find T t with
 | some d => match d.agg with | true => .agg ⟨cs⟩ | false => cs.headD undef
 | none => undef
section
variable {P : Program} {T : Tab}
theorem run_part (hT : TabOK P T) {t : TypeId} {d : TD} (hd : Tab.find T t = some d) {xs : List Value} {off : Nat} (hl : ((xs.drop off).take d.size).length = d.size) (hpos : d.agg = false → d.size = 1) (w : World) :
  (part t ⟨xs⟩ off).run P w = .ok (valOf T t ((xs.drop off).take d.size)) w := by
 have hsd := TD.fits_size (hT.fits hd)
 unfold valOf
 rw [hd]
 cases ha : d.agg with
 | true =>
  simp only [part, Sem.run_bind, TD.fits_agg (hT.fits hd), ha, Result.andThen_ok, if_true, run_sizeOf_of hsd, Sem.run_pure]
  simp [List.extract]
 | false =>
  rw [hpos ha] at hl ⊢
  simp only [part, Sem.run_bind, TD.fits_agg (hT.fits hd), ha, Result.andThen_ok, Bool.false_eq_true, if_false]
  have h1 : off < xs.length := by
   rw [List.length_take, List.length_drop] at hl
   omega
  have e : (List.take 1 (List.drop off xs)) = [xs[off]] := by rw [List.drop_eq_getElem_cons h1]; rfl
  rw [e]
  simp [h1]
theorem TD.size_one {d : TD} (h : d.agg = false) : d.size = 1 := by cases d <;> first | rfl | (simp [TD.agg] at h)
theorem conf_len {f : Nat} {t : TypeId} {d : TD} {cs : List Value} (hd : Tab.find T t = some d) (h : confT T f t cs) : cs.length = d.size := by
 cases f with
 | zero => exact h.elim
 | succ f =>
  unfold confT at h
  rw [hd] at h
  cases d with
  | int k => obtain ⟨n, rfl⟩ := h; rfl
  | bool => obtain ⟨n, rfl⟩ := h; rfl
  | str => obtain ⟨n, rfl⟩ := h; rfl
  | arr n e es => exact h.1
  | struct fs sz => exact h.1
  | ptr => exact h.elim
  | slice => exact h.elim
  | fn => exact h.elim
  | other => exact h.elim
  | iface => exact h.elim
theorem segs_eq {xs ys : List Value} {sz : Nat} (hx : xs.length = sz) (hy : ys.length = sz) : ∀ {fs : List (Nat × TypeId)} {b : Nat}, segsOk T fs b sz = true → xs.take b = ys.take b →
  (∀ x ∈ fs, ∀ d, Tab.find T x.2 = some d → (xs.drop x.1).take d.size = (ys.drop x.1).take d.size) → xs = ys
 | [], b, h, h1, _ => by
  have := Nat.eq_of_beq_eq_true h
  subst this
  rw [List.take_of_length_le (by omega), List.take_of_length_le (by omega)] at h1
  exact h1
 | (o, t) :: fs, b, h, h1, h2 => by
  simp only [segsOk, Bool.and_eq_true] at h
  obtain ⟨ho, h⟩ := h
  have := Nat.eq_of_beq_eq_true ho
  subst this
  split at h
  ·rename_i d hd
   refine segs_eq hx hy h ?_ (fun x hx => h2 x (List.mem_cons_of_mem _ hx))
   rw [List.take_add, List.take_add, h1, h2 _ List.mem_cons_self d hd]
  ·cases h
theorem rows_eq {xs ys : List Value} {n es : Nat} (hes : 0 < es) (hx : xs.length = n * es) (hy : ys.length = n * es) (h : ∀ i, i < n → (xs.drop (i * es)).take es = (ys.drop (i * es)).take es) : xs = ys := by
 refine List.ext_getElem? fun j => ?_
 by_cases hj : j < n * es
 ·have hi : j / es < n := (Nat.div_lt_iff_lt_mul hes).2 hj
  have h1 := congrArg (fun l => l[j % es]?) (h _ hi)
  simp only [List.getElem?_take, List.getElem?_drop, if_pos (Nat.mod_lt j hes)] at h1
  have e : j / es * es + j % es = j := by rw [Nat.mul_comm]; exact Nat.div_add_mod j es
  rw [e] at h1
  exact h1
 ·rw [List.getElem?_eq_none (by omega), List.getElem?_eq_none (by omega)]
def EqRun (P : Program) (T : Tab) (D : Nat) (t : TypeId) (xs ys : List Value) : Prop := ∃ b : Bool, (∀ w, (Op.equalIn D t (valOf T t xs) (valOf T t ys)).run P w = .ok b w) ∧ (b = true ↔ xs = ys)
theorem eq_items (hT : TabOK P T) {D : Nat} {e : TypeId} {d : TD} (hd : Tab.find T e = some d) {xs ys : List Value} :
  ∀ {is : List Nat}, (∀ i ∈ is, ((xs.drop (i * d.size)).take d.size).length = d.size ∧ ((ys.drop (i * d.size)).take d.size).length = d.size ∧ EqRun P T D e ((xs.drop (i * d.size)).take d.size) ((ys.drop (i * d.size)).take d.size)) →
   ∃ b : Bool, (∀ w, (Op.eqItems D e d.size ⟨xs⟩ ⟨ys⟩ is).run P w = .ok b w) ∧ (b = true ↔ ∀ i ∈ is, (xs.drop (i * d.size)).take d.size = (ys.drop (i * d.size)).take d.size)
 | [], _ => ⟨true, fun w => by simp [Op.eqItems], by simp⟩
 | i :: is, h => by
  obtain ⟨hx, hy, b, hr, hb⟩ := h i List.mem_cons_self
  obtain ⟨b', hr', hb'⟩ := eq_items hT hd (is := is) (fun j hj => h j (List.mem_cons_of_mem _ hj))
  cases b with
  | false =>
   refine ⟨false, fun w => ?_, ?_⟩
   ·simp only [Op.eqItems, Sem.run_bind, run_part hT hd hx TD.size_one, run_part hT hd hy TD.size_one, hr, Result.andThen_ok]
    simp
   ·simp only [List.mem_cons, forall_eq_or_imp, Bool.false_eq_true, false_iff, not_and]
    intro e
    exact absurd (hb.2 e) (by simp)
  | true =>
   refine ⟨b', fun w => ?_, ?_⟩
   ·simp only [Op.eqItems, Sem.run_bind, run_part hT hd hx TD.size_one, run_part hT hd hy TD.size_one, hr, Result.andThen_ok]
    simpa using hr' w
   ·simp only [List.mem_cons, forall_eq_or_imp]
    rw [hb']
    exact ⟨fun h => ⟨hb.1 rfl, h⟩, fun h => h.2⟩
theorem eq_fields (hT : TabOK P T) {D : Nat} {xs ys : List Value} :
  ∀ {fs : List Field}, (∀ f ∈ fs, (f.name == "_") = false ∧ ∃ d, Tab.find T f.type = some d ∧ ((xs.drop f.offset).take d.size).length = d.size ∧ ((ys.drop f.offset).take d.size).length = d.size ∧ EqRun P T D f.type ((xs.drop f.offset).take d.size) ((ys.drop f.offset).take d.size)) →
   ∃ b : Bool, (∀ w, (Op.eqFields D ⟨xs⟩ ⟨ys⟩ fs).run P w = .ok b w) ∧ (b = true ↔ ∀ f ∈ fs, ∀ d, Tab.find T f.type = some d → (xs.drop f.offset).take d.size = (ys.drop f.offset).take d.size)
 | [], _ => ⟨true, fun w => by simp [Op.eqFields], by simp⟩
 | f :: fs, h => by
  obtain ⟨hn, d, hd, hx, hy, b, hr, hb⟩ := h f List.mem_cons_self
  obtain ⟨b', hr', hb'⟩ := eq_fields hT (fs := fs) (fun j hj => h j (List.mem_cons_of_mem _ hj))
  have hn' : f.name ≠ "_" := by simpa using hn
  cases b with
  | false =>
   refine ⟨false, fun w => ?_, ?_⟩
   ·simp only [Op.eqFields, if_pos hn', Sem.run_bind, run_part hT hd hx TD.size_one, run_part hT hd hy TD.size_one, hr, Result.andThen_ok]
    simp
   ·simp only [List.mem_cons, forall_eq_or_imp, Bool.false_eq_true, false_iff, not_and]
    intro e
    exact absurd (hb.2 (e d hd)) (by simp)
  | true =>
   refine ⟨b', fun w => ?_, ?_⟩
   ·simp only [Op.eqFields, if_pos hn', Sem.run_bind, run_part hT hd hx TD.size_one, run_part hT hd hy TD.size_one, hr, Result.andThen_ok]
    simpa using hr' w
   ·simp only [List.mem_cons, forall_eq_or_imp]
    rw [hb']
    refine ⟨fun h => ⟨fun d' hd' => ?_, h⟩, fun h => h.2⟩
    rw [hd] at hd'
    injection hd' with hd'
    subst hd'
    exact hb.1 rfl
theorem foldr_mem {T : Tab} {f : Nat} {cs : List Value} : ∀ {fs : List (Nat × TypeId)}, fs.foldr (fun x K => (match Tab.find T x.2 with | some d => confT T f x.2 ((cs.drop x.1).take d.size) | none => False) ∧ K) True → ∀ x ∈ fs, ∃ d, Tab.find T x.2 = some d ∧ confT T f x.2 ((cs.drop x.1).take d.size)
 | [], _, x, hx => by cases hx
 | y :: fs, h, x, hx => by
  simp only [List.foldr_cons] at h
  rcases List.mem_cons.1 hx with rfl | hx
  ·have h1 := h.1
   split at h1
   ·rename_i d hd; exact ⟨d, hd, h1⟩
   ·exact h1.elim
  ·exact foldr_mem h.2 x hx
theorem size_of_find (hT : TabOK P T) {e : TypeId} {d : TD} {es : Nat} (hd : Tab.find T e = some d) (hs : sizeB P e es = true) : d.size = es := by
 have hsd := TD.fits_size (hT.fits hd)
 unfold sizeB at hs hsd
 split at hs
 ·rename_i i hi'; rw [hi'] at hsd; simp at hs hsd; omega
 ·cases hs
theorem eq_flat (hT : TabOK P T) : ∀ (f : Nat) {t : TypeId}, flatB P T f t = true → ∀ {D : Nat}, f ≤ D → ∀ {xs ys : List Value}, confT T f t xs → confT T f t ys → EqRun P T D t xs ys
 | 0, _, h, _, _, _, _, _, _ => by cases h
 | f + 1, t, h, D, hD, xs, ys, hx, hy => by
  obtain ⟨D, rfl⟩ : ∃ D', D = D' + 1 := ⟨D - 1, by omega⟩
  unfold flatB at h
  unfold EqRun
  have hx0 := hx
  have hy0 := hy
  unfold confT at hx hy
  unfold valOf
  split at h
  ·rename_i k hd
   rw [hd] at hx hy ⊢
   obtain ⟨a, rfl⟩ := hx
   obtain ⟨b, rfl⟩ := hy
   exact ⟨a == b, fun w => run_equalIn_int w D t k k a b (TD.fits_int (hT.fits hd)), by simp⟩
  ·rename_i hd
   rw [hd] at hx hy ⊢
   obtain ⟨a, rfl⟩ := hx
   obtain ⟨b, rfl⟩ := hy
   exact ⟨a == b, fun w => run_equalIn_bool' w D t a b (TD.fits_bool (hT.fits hd)), by simp⟩
  ·rename_i hd
   rw [hd] at hx hy ⊢
   obtain ⟨a, rfl⟩ := hx
   obtain ⟨b, rfl⟩ := hy
   refine ⟨a.toList == b.toList, fun w => run_equalIn_string w D t a b (TD.fits_str (hT.fits hd)), ?_⟩
   rw [ByteArray.toList_eq, ByteArray.toList_eq]
   obtain ⟨⟨x⟩⟩ := a
   obtain ⟨⟨y⟩⟩ := b
   simp
  ·rename_i n e es hd
   simp only [Bool.and_eq_true] at h
   obtain ⟨hpos, hf⟩ := h
   have hpos : 0 < es := by simpa [Nat.blt_eq] using hpos
   rw [hd] at hx hy ⊢
   obtain ⟨lx, cx⟩ := hx
   obtain ⟨ly, cy⟩ := hy
   obtain ⟨hu, hs⟩ := TD.fits_arr (hT.fits hd)
   obtain ⟨i, hi⟩ : ∃ i, P.info? e = some i := by
    unfold sizeB at hs
    split at hs
    ·rename_i i hi; exact ⟨i, hi⟩
    ·cases hs
   cases hde : Tab.find T e with
   | none =>
    cases f with
    | zero => cases hf
    | succ f => unfold flatB at hf; rw [hde] at hf; cases hf
   | some d =>
    have hes := size_of_find hT hde hs
    subst hes
    have hc : P.cellsOf e = d.size := by
     have := TD.fits_size (hT.fits hde)
     unfold sizeB at this
     rw [hi] at this
     simp at this
     simp [Program.cellsOf, hi, this]
    have hseg : ∀ (zs : List Value), zs.length = n * d.size → ∀ i, i < n → ((zs.drop (i * d.size)).take d.size).length = d.size := by
     intro zs hz i hi
     rw [List.length_take, List.length_drop, hz]
     have : (i + 1) * d.size ≤ n * d.size := Nat.mul_le_mul_right _ hi
     rw [Nat.succ_mul] at this
     omega
    obtain ⟨b, hr, hb⟩ := eq_items hT hde (D := D) (xs := xs) (ys := ys) (is := List.range n) (fun i hi => by
     have hi := List.mem_range.1 hi
     exact ⟨hseg xs lx i hi, hseg ys ly i hi, eq_flat hT f hf (by omega) (cx i hi) (cy i hi)⟩)
    refine ⟨b, fun w => ?_, ?_⟩
    ·have := run_equalIn_array (P := P) w D (t := t) (e := e) (n := n) (i := i) ⟨xs⟩ ⟨ys⟩ hu hi
     rw [hc] at this
     exact this.trans (hr w)
    ·rw [hb]
     constructor
     ·intro h
      exact rows_eq hpos lx ly fun i hi => h i (List.mem_range.2 hi)
     ·rintro rfl i _; rfl
  ·rename_i fs sz hd
   simp only [Bool.and_eq_true, Bool.not_eq_true'] at h
   obtain ⟨⟨⟨hst, hnm⟩, hsg⟩, hfl⟩ := h
   rw [hd] at hx hy ⊢
   obtain ⟨lx, cx⟩ := hx
   obtain ⟨ly, cy⟩ := hy
   obtain ⟨fields, hu, hfs, _, _⟩ := TD.fits_struct (hT.fits hd)
   have hfo : P.fieldsOf t = fields := by simp [Program.fieldsOf, hu]
   have hu' : P.underlying t = some (.struct (P.fieldsOf t)) := by rw [hfo]; exact hu
   have mem : ∀ g ∈ fields.toList, (g.offset, g.type) ∈ fs := by
    intro g hg
    rw [← hfs]
    exact List.mem_map.2 ⟨g, hg, rfl⟩
   obtain ⟨b, hr, hb⟩ := eq_fields hT (D := D) (xs := xs) (ys := ys) (fs := (P.fieldsOf t).toList) (fun g hg => by
    refine ⟨by simpa using List.all_eq_true.1 hnm g hg, ?_⟩
    rw [hfo] at hg
    have hm := mem g hg
    obtain ⟨d, hdg, hcx⟩ := foldr_mem cx _ hm
    obtain ⟨d', hdg', hcy⟩ := foldr_mem cy _ hm
    rw [hdg] at hdg'
    injection hdg' with e
    subst e
    exact ⟨d, hdg, conf_len hdg hcx, conf_len hdg hcy, eq_flat hT f (List.all_eq_true.1 hfl _ hm) (by omega) hcx hcy⟩)
   refine ⟨b, fun w => ?_, ?_⟩
   ·exact (run_equalIn_agg w D t ⟨xs⟩ ⟨ys⟩ hu' hst).trans (hr w)
   ·rw [hb]
    constructor
    ·intro h
     refine segs_eq lx ly hsg (by simp) fun x hx d hdx => ?_
     rw [← hfs] at hx
     obtain ⟨g, hg, rfl⟩ := List.mem_map.1 hx
     rw [← hfo] at hg
     exact h g hg d hdx
    ·rintro rfl f _ d _; rfl
  ·cases h
theorem run_eq_flat (hT : TabOK P T) {t : TypeId} {d : TD} (hd : Tab.find T t = some d) (ha : d.agg = true) (hf : flatB P T 9 t = true) (hg : P.eqGuardType P.depth t = false) (x y : Operand) {xs ys : List Value} (hx : confT T 9 t xs) (hy : confT T 9 t ys) :
  ∃ b : Bool, (∀ w, (do eqGuard .eql t x y (.agg ⟨xs⟩) (.agg ⟨ys⟩); binOp .eql t (.agg ⟨xs⟩) (.agg ⟨ys⟩) : Sem Value).run P w = .ok (.bool b) w) ∧
   (∀ w, (do eqGuard .neq t x y (.agg ⟨xs⟩) (.agg ⟨ys⟩); binOp .neq t (.agg ⟨xs⟩) (.agg ⟨ys⟩) : Sem Value).run P w = .ok (.bool (!b)) w) ∧ (b = true ↔ xs = ys) := by
 obtain ⟨b, hr, hb⟩ := eq_flat hT 9 hf (D := 10000) (by decide) hx hy
 unfold valOf at hr
 rw [hd] at hr
 simp only [ha] at hr
 refine ⟨b, fun w => ?_, fun w => ?_, hb⟩
 ·rw [Sem.run_bind, run_eqGuard_agg w .eql t x y _ _ hg, Result.andThen_ok, run_eql_struct, hr]; rfl
 ·rw [Sem.run_bind, run_eqGuard_agg w .neq t x y _ _ hg, Result.andThen_ok, run_neq_struct, hr]; rfl
end
end
section
structure Ask (A : Type) where
 runP : (A → Prop) → Prop
 get : Option A
 ok : ∀ (K : A → Prop) (a : A), get = some a → K a → runP K
def Ask.ret {A : Type} (a : A) : Ask A := ⟨fun K => K a, some a, fun _ _ h k => by injection h with h; subst h; exact k⟩
def Ask.bad {A : Type} : Ask A := ⟨fun _ => False, none, fun _ _ h => nomatch h⟩
def Ask.ask {A α : Type} (o : Option α) (k : α → Ask A) : Ask A := ⟨fun K => ∃ a, o = some a ∧ (k a).runP K, match o with | some a => (k a).get | none => none, fun K b h hb => by
 cases o with
 | none => cases h
 | some a => exact ⟨a, rfl, (k a).ok K b h hb⟩⟩
def Ask.prf {A : Type} (p : Prop) (d : Decidable p) (k : Ask A) : Ask A := ⟨fun K => p ∧ k.runP K, match d with | isTrue _ => k.get | isFalse _ => none, fun K b h hb => by
 cases d with
 | isFalse _ => cases h
 | isTrue hp => exact ⟨hp, k.ok K b h hb⟩⟩
def Ask.br {A : Type} (t : Bool) (x y : Ask A) : Ask A := ⟨fun K => (t = true → x.runP K) ∧ (t = false → y.runP K), match t with | true => x.get | false => y.get, fun K b h hb => by
 cases t with
 | true => exact ⟨fun _ => x.ok K b h hb, fun e => (nomatch e)⟩
 | false => exact ⟨fun e => (nomatch e), fun _ => y.ok K b h hb⟩⟩
def Ask.bind {A B : Type} (x : Ask A) (f : A → Ask B) : Ask B := ⟨fun K => x.runP fun a => (f a).runP K, match x.get with | some a => (f a).get | none => none, fun K b h hb => by
 cases hx : x.get with
 | none => rw [hx] at h; cases h
 | some a => rw [hx] at h; exact x.ok _ a hx ((f a).ok K b h hb)⟩
theorem Ask.bind_runP {A B : Type} {f : A → Ask B} {K : B → Prop} {x : Ask A} : (x.bind f).runP K ↔ x.runP fun a => (f a).runP K := Iff.rfl
abbrev VE := List (Nat × MV)
abbrev VM := List (Nat × MB)
def VE.get : VE → Nat → Option MV
 | [], _ => none
 | (j, v) :: E, i => bif Nat.beq j i then some v else VE.get E i
def VM.get : VM → Nat → Option MB
 | [], _ => none
 | (j, v) :: E, i => bif Nat.beq j i then some v else VM.get E i
def VM.del : VM → Nat → VM
 | [], _ => []
 | (j, v) :: M, i => bif Nat.beq j i then VM.del M i else (j, v) :: VM.del M i
def VM.upd : VM → Nat → List MV → VM
 | [], _, _ => []
 | (j, v) :: M, i, l => bif Nat.beq j i then (j, { v with l := l }) :: VM.upd M i l else (j, v) :: VM.upd M i l
def VM.bump1 : VM → Nat → Nat → VM
 | [], _, _ => []
 | (j, v) :: M, i, n => bif Nat.beq j i then (j, { v with pe := Nat.max v.pe n }) :: VM.bump1 M i n else (j, v) :: VM.bump1 M i n
def VM.bump : VM → List (Nat × Nat) → VM
 | M, [] => M
 | M, (c, n) :: l => VM.bump (VM.bump1 M c n) l
inductive Dl where
 | none
 | new (b : MB)
 | upd (c : Nat) (l : List MV)
 | mv (c : Nat) (b : MB)
 | bump (l : List (Nat × Nat))
def bumpF : FM → List (Nat × Nat) → FM
 | m, [] => m
 | m, (c, n) :: l => bumpF (match m c with | some b => fput m c { b with pe := Nat.max b.pe n } | none => m) l
def Dl.appF (cnt : Nat) : Dl → FM → FM
 | .none, m => m
 | .new b, m => fput m cnt b
 | .upd c l, m => match m c with | some b => fput m c { b with l := l } | Option.none => m
 | .mv c b, m => fput (fdel m c) cnt b
 | .bump l, m => bumpF m l
def Dl.app (cnt : Nat) : Dl → VM → VM
 | .none, M => M
 | .new b, M => (cnt, b) :: M
 | .upd c l, M => VM.upd M c l
 | .mv c b, M => (cnt, b) :: VM.del M c
 | .bump l, M => VM.bump M l
def constM : Value → Option MV
 | .int k n => some (.int k n)
 | .bool b => some (.bool b)
 | .string s => some (.str s.data.toList)
 | .pointer none => some .nilp
 | .slice none 0 0 => some .nils
 | .nilFunc => some .nilf
 | .nilIface => some .nili
 | .func (.func f) ⟨[]⟩ ⟨[]⟩ => some (.fn f [])
 | _ => none
def evM (E : Nat → Option MV) : Operand → Option MV
 | .tmp t => E t
 | .const v => constM v
 | .global g => some (.gp g 0)
 | .func f => some (.fn f [])
def rd {A : Type} (E : Nat → Option MV) (x : Operand) (k : MV → Ask A) : Ask A := match evM E x with | some m => k m | none => .bad
def rds {A : Type} (E : Nat → Option MV) : List Operand → (List MV → Ask A) → Ask A
 | [], k => k []
 | x :: l, k => rd E x fun m => rds E l fun r => k (m :: r)
def rdo {A : Type} (E : Nat → Option MV) : Option Operand → (Option MV → Ask A) → Ask A
 | none, k => k none
 | some x, k => rd E x fun m => k (some m)
def repM : Nat → MV → List MV
 | 0, _ => []
 | n + 1, z => z :: repM n z
def zeroM (T : Tab) : Nat → Nat → Option MV
 | 0, _ => none
 | f + 1, t => match Tab.find T t with
  | some (.int k) => some (.int k 0)
  | some .bool => some (.bool false)
  | some .str => some (.str [])
  | some .ptr => some .nilp
  | some .iface => some .nili
  | some .fn => some .nilf
  | some (.slice ..) => some .nils
  | some (.arr n e es) => match zeroM T f e with
   | some z => bif z.idFree && Nat.beq z.size es then some (.arr n es (repM n z)) else none
   | none => none
  | some (.struct fs _) => match fs.foldr (fun x r => match r, zeroM T f x.2 with | some r, some z => some (z :: r) | _, _ => none) (some []) with
   | some l => some (.st l)
   | none => none
  | _ => none
def bEq : Bool → Bool → Bool
 | true, true => true
 | false, false => true
 | _, _ => false
def MV.isVal : MV → Bool
 | .tup _ => false
 | .mpv .. => false
 | .undef => false
 | _ => true
def fits (d : TD) (v : MV) : Bool := (v.isVal && Nat.beq v.size d.size) && bEq v.isAgg d.agg
def val {A α : Type} (x : α) (k : α → Ask A) : Ask A := .ask (some x) k
def iBin (op : BinOp) (k : IntKind) (m n : Int) : Ask MV := match op with
 | .add => val (k.wrap (m + n)) fun r => .ret (.int k r)
 | .sub => val (k.wrap (m - n)) fun r => .ret (.int k r)
 | .mul => val (k.wrap (m * n)) fun r => .ret (.int k r)
 | .quo => .prf (n ≠ 0) inferInstance (val (k.wrap (m.tdiv n)) fun r => .ret (.int k r))
 | .rem => .prf (n ≠ 0) inferInstance (val (m.tmod n) fun r => .ret (.int k r))
 | .eql => .ret (.bool (m == n))
 | .neq => .ret (.bool (m != n))
 | .lss => .ret (.bool (decide (m < n)))
 | .leq => .ret (.bool (decide (m ≤ n)))
 | .gtr => .ret (.bool (decide (n < m)))
 | .geq => .ret (.bool (decide (n ≤ m)))
 | .shl => .prf (0 ≤ n) inferInstance (val (k.wrap (m * 2 ^ (min n.toNat k.bits))) fun r => .ret (.int k r))
 | .shr => .prf (0 ≤ n) inferInstance (val (m.fdiv (2 ^ (min n.toNat k.bits))) fun r => .ret (.int k r))
 | .and => val (k.wrap (BitVec.ofInt k.bits m &&& BitVec.ofInt k.bits n).toNat) fun r => .ret (.int k r)
 | .or => val (k.wrap (BitVec.ofInt k.bits m ||| BitVec.ofInt k.bits n).toNat) fun r => .ret (.int k r)
 | .xor => val (k.wrap (BitVec.ofInt k.bits m ^^^ BitVec.ofInt k.bits n).toNat) fun r => .ret (.int k r)
 | .andNot => val (k.wrap (BitVec.ofInt k.bits m &&& ~~~BitVec.ofInt k.bits n).toNat) fun r => .ret (.int k r)
def sBin (op : BinOp) (s t : List UInt8) : Ask MV := match op with
 | .add => .prf (s.length + t.length ≤ 9223372036854775807) inferInstance (val (s ++ t) fun r => .ret (.str r))
 | .eql => .ret (.bool (s == t))
 | .neq => .ret (.bool (!(s == t)))
 | .lss => .ret (.bool (Op.bytesLess s t))
 | .leq => .ret (.bool (Op.bytesLess s t || s == t))
 | .gtr => .ret (.bool (!(Op.bytesLess s t || s == t)))
 | .geq => .ret (.bool (!Op.bytesLess s t))
 | _ => .bad
def bBin (op : BinOp) (s t : Bool) : Ask MV := match op with
 | .eql => .ret (.bool (s == t))
 | .neq => .ret (.bool (s != t))
 | _ => .bad
mutual
def eqM : MV → MV → Option Bool
 | .int k a, .int j b => match decide (k = j) with | true => some (decide (a = b)) | false => none
 | .bool a, .bool b => some (a == b)
 | .str a, .str b => some (a == b)
 | .st l, .st r => eqMs l r
 | .arr n es l, .arr n' es' r => bif Nat.beq n n' && Nat.beq es es' then eqMs l r else none
 | _, _ => none
def eqMs : List MV → List MV → Option Bool
 | [], [] => some true
 | a :: l, b :: r => match eqM a b, eqMs l r with
  | some x, some y => some (x && y)
  | _, _ => none
 | _, _ => none
end
mutual
def confM (T : Tab) : Nat → Nat → MV → Bool
 | 0, _, _ => false
 | f + 1, t, m => match Tab.find T t, m with
  | some (.int k), .int j _ => Nat.beq (kid j) (kid k)
  | some .bool, .bool _ => true
  | some .str, .str _ => true
  | some (.arr n e es), .arr n' es' l => Nat.beq n n' && Nat.beq es es' && l.all (confM T f e)
  | some (.struct fs sz), .st l => confMs T f fs 0 l sz
  | _, _ => false
def confMs (T : Tab) : Nat → List (Nat × TypeId) → Nat → List MV → Nat → Bool
 | _, [], o, [], sz => Nat.beq o sz
 | f, (o', t) :: fs, o, m :: l, sz => Nat.beq o o' && (match Tab.find T t with | some d => Nat.beq m.size d.size && confM T f t m && confMs T f fs (o + d.size) l sz | none => false)
 | _, _, _, _, _ => false
end
def nilM : Nat → MV → Option Bool
 | 0, .nilp => some true
 | 0, .ptr .. => some false
 | 0, .gp .. => some false
 | 0, .ep .. => some false
 | 1, .nils => some true
 | 1, .sl (_ + 1) _ => some false
 | 2, .nili => some true
 | 2, .ifc .. => some false
 | _, _ => none
def idx (n : Nat) (j : Int) : Option Nat := if 0 ≤ j ∧ j < (n : Int) then some j.toNat else none
def idxL (l : List MV) (n : Nat) (j : Int) : Option MV := if 0 ≤ j ∧ j < (n : Int) then l[j.toNat]? else none
def idxS (s : List UInt8) (j : Int) : Option UInt8 := if 0 ≤ j then s[j.toNat]? else none
def bounds (n : Nat) (lo hi : Option MV) : Option (Nat × Nat) :=
 match (match hi with | none => some n | some (.int _ h) => if 0 ≤ h ∧ h ≤ (n : Int) then some h.toNat else none | _ => none) with
 | none => none
 | some h => match (match lo with | none => some 0 | some (.int _ l) => if 0 ≤ l ∧ l ≤ (h : Int) then some l.toNat else none | _ => none) with
  | none => none
  | some l => some (l, h)
def bytesM : List MV → Option (List UInt8)
 | [] => some []
 | .int .u8 n :: l => if 0 ≤ n ∧ n < 256 then (match bytesM l with | some r => some (UInt8.ofNat n.toNat :: r) | none => none) else none
 | _ :: _ => none
def headSize : List MV → Nat → Bool
 | [], _ => true
 | m :: _, es => Nat.beq m.size es
def cutL (l : List MV) (a b : Nat) : List MV := (l.drop a).take (b - a)
def u8s (s : List UInt8) : List MV := s.map fun b => .int .u8 b.toNat
section
variable (P : Program) (T : Tab) (E : Nat → Option MV) (M : FM) (cnt : Nat)
mutual
def frz : MV → Ask (MV × List (Nat × Nat))
 | .ms c es off n => match M c with
  | some b => match b.row && Nat.beq b.es es with
   | true => .prf (off + n ≤ b.l.length) inferInstance (val (cutL b.l off (off + n)) fun l => .ret (.sl n l, [(c, off + n)]))
   | false => .bad
  | none => .bad
 | .nils => .ret (.sl 0 [], [])
 | .st l => (frzs l).bind fun r => .ret (.st r.1, r.2)
 | .fn f l => (frzs l).bind fun r => .ret (.fn f r.1, r.2)
 | .ifc t v => (frz v).bind fun r => .ret (.ifc t r.1, r.2)
 | .ptr c es k fo path => match M c with
  | some b => bif Nat.beq b.es es then .ask (nthM b.l k) fun v => (bif v.idFree then .ret (.ep v fo path, [(c, k + 1)]) else .bad) else .bad
  | none => .bad
 | .tup _ => .bad
 | .undef => .bad
 | .mp _ => .bad
 | .mpv .. => .bad
 | m => .ret (m, [])
def frzs : List MV → Ask (List MV × List (Nat × Nat))
 | [] => .ret ([], [])
 | m :: l => (frz m).bind fun x => (frzs l).bind fun r => .ret (x.1 :: r.1, x.2 ++ r.2)
end
def pureA (m : MV) : Ask (MV × Dl) := .ret (m, .none)
def oLoad (t : TypeId) (p : MV) : Ask (MV × Dl) := match Tab.find T t with
 | none => .bad
 | some d => match p with
  | .ptr c es k fo path => match M c with
   | some b => bif Nat.beq b.es es then .ask (nthM b.l k) fun m => .ask (getPO m path fo) fun r => (bif fits d r then pureA r else .bad) else .bad
   | none => .bad
  | .ep v fo path => .ask (getPO v path fo) fun r => bif fits d r then pureA r else .bad
  | _ => .bad
def oStore (t : TypeId) (p v : MV) : Ask (MV × Dl) := match Tab.find T t with
 | none => .bad
 | some d => match p with
  | .ptr c es k fo path => match M c with
   | some b => bif Nat.beq b.es es && fits d v && (!b.row || v.idFree) then .prf (b.pe ≤ k) inferInstance (.ask (nthM b.l k) fun m => .ask (setPO m path fo v) fun m' => val (setL b.l k m') fun l => .ret (.undef, .upd c l)) else .bad
   | none => .bad
  | _ => .bad
def oFieldAddr (t : TypeId) (p : MV) (f : Nat) : Ask (MV × Dl) := match Tab.find T t with
 | some (.struct fs _) => match nth fs f with
  | some (o, _) => match p with
   | .ptr c es k fo path => pureA (.ptr c es k (fo + o) (path ++ [f]))
   | .ep v fo path => pureA (.ep v (fo + o) (path ++ [f]))
   | .gp g off => pureA (.gp g (off + o))
   | _ => .bad
  | none => .bad
 | _ => .bad
def oIndexAddr (t : TypeId) (x j : MV) : Ask (MV × Dl) := match Tab.find T t with
 | some (.slice _ es) => match x, j with
  | .sl n l, .int _ j => .ask (idxL l n j) fun m => bif Nat.beq m.size es then pureA (.ep m 0 []) else .bad
  | .ms c es' off n, .int _ j => bif Nat.beq es' es then .ask (idx n j) fun k => pureA (.ptr c es (off + k) 0 []) else .bad
  | _, _ => .bad
 | some (.arr n _ es) => match x, j with
  | .ptr c es' k fo path, .int _ j => .ask (idx n j) fun i => pureA (.ptr c es' k (fo + i * es) (path ++ [i]))
  | .ep v fo path, .int _ j => .ask (idx n j) fun i => pureA (.ep v (fo + i * es) (path ++ [i]))
  | .gp g off, .int _ j => .ask (idx n j) fun i => pureA (.gp g (off + i * es))
  | _, _ => .bad
 | _ => .bad
def oIndex (t : TypeId) (x j : MV) : Ask (MV × Dl) := match Tab.find T t, x, j with
 | some .str, .str s, .int _ j => .ask (idxS s j) fun c => pureA (.int .u8 c.toNat)
 | some (.arr n e es), .arr n' es' l, .int _ j => match Tab.find T e with
  | some d => bif Nat.beq n n' && Nat.beq es es' then .ask (idxL l n j) fun m => (bif fits d m then pureA m else .bad) else .bad
  | none => .bad
 | _, _, _ => .bad
def oField (t : TypeId) (x : MV) (f : Nat) : Ask (MV × Dl) := match Tab.find T t, x with
 | some (.struct fs _), .st l => match nth fs f, nthM l f with
  | some (o, ft), some m => match Tab.find T ft with
   | some d => bif fits d m && Nat.beq (sizesTo l f) o then pureA m else .bad
   | none => .bad
  | _, _ => .bad
 | _, _ => .bad
def oSlice (t : TypeId) (x : MV) (lo hi : Option MV) : Ask (MV × Dl) := match Tab.find T t, x with
 | some .str, .str s => .ask (bounds s.length lo hi) fun r => val ((s.drop r.1).take (r.2 - r.1)) fun u => pureA (.str u)
 | some (.slice _ es), .sl n l => .ask (bounds n lo hi) fun r => .prf (headSize l es = true) inferInstance (val (cutL l r.1 r.2) fun u => val (r.2 - r.1) fun k => pureA (.sl k u))
 | some (.slice _ es), .ms c es' off n => bif Nat.beq es es' then .ask (bounds n lo hi) fun r => (val (r.2 - r.1) fun k => pureA (.ms c es (off + r.1) k)) else .bad
 | some (.slice _ _), .nils => .ask (bounds 0 lo hi) fun _ => pureA .nils
 | _, _ => .bad
def oSliceA (t : TypeId) (x : MV) (lo hi : Option MV) : Ask (MV × Dl) := match Tab.find T t, x with
 | some (.arr n _ es), .ptr c _ k fo path => match M c with
  | some b => match b.l with
   | [.arr n' es' l] => bif Nat.beq k 0 && Nat.beq fo 0 && path.isEmpty && Nat.beq n n' && Nat.beq es es' then .ask (bounds n lo hi) fun r => val (cutL l r.1 r.2) fun u => val (r.2 - r.1) fun j => .ret (.sl j u, .bump [(c, 1)]) else .bad
   | _ => .bad
  | none => .bad
 | _, _ => oSlice T t x lo hi
def setParts (l : List MV) : List (Nat × MV) → Option (List MV)
 | [] => some l
 | (i, v) :: r => match nthM l i with
  | some m => bif Nat.beq v.size m.size && bEq v.isAgg m.isAgg then setParts (setL l i v) r else none
  | none => none
def sizesB : List MV → List Nat → Bool
 | [], [] => true
 | m :: l, n :: ns => Nat.beq m.size n && sizesB l ns
 | _, _ => false
def oBuild (t : TypeId) (parts : List (Nat × MV)) : Ask (MV × Dl) := match zeroM T 9 t, cutsOf T t with
 | some (.st l), some ns => bif sizesB l ns && parts.all (fun p => p.2.isVal) then (match setParts l parts with
  | some l' => pureA (.st l')
  | none => .bad) else .bad
 | some (.arr n es l), some ns => bif sizesB l ns && parts.all (fun p => p.2.isVal && p.2.idFree) then (match setParts l parts with
  | some l' => pureA (.arr n es l')
  | none => .bad) else .bad
 | _, _ => .bad
def oBuildSlice (t : TypeId) (n : Nat) (parts : List (Nat × MV)) : Ask (MV × Dl) := match Tab.find T t with
 | some (.slice e es) => match n with
  | 0 => match parts with
   | [] => .ret (.ms cnt es 0 0, .new ⟨e, es, true, 0, []⟩)
   | _ => .bad
  | n + 1 => match zeroM T 9 e with
   | some z => bif Nat.beq z.size es && Nat.blt 0 es && Nat.ble ((n + 1) * es) 16777216 && z.idFree && parts.all (fun p => p.2.isVal) then (match setParts (repM (n + 1) z) parts with
    | some l => .ret (.ms cnt es 0 (n + 1), .new ⟨e, es, parts.all (fun p => p.2.idFree), 0, l⟩)
    | none => .bad) else .bad
   | none => .bad
 | _ => .bad
def oBuildRow (t : TypeId) (c es' off k : Nat) : Ask (MV × Dl) := match Tab.find T t with
 | some (.slice e es) => match zeroM T 9 e with
  | some z => match M c with
   | some b => bif Nat.beq z.size es && Nat.beq es 1 && z.idFree && !z.isAgg && b.row && Nat.beq b.es es' then .prf (off + k ≤ b.l.length) inferInstance (val (cutL b.l off (off + k)) fun l => .ret (.ms cnt es 0 1, .mv c ⟨e, es, true, 0, [.sl k l]⟩)) else .bad
   | none => .bad
  | none => .bad
 | _ => .bad
def rowPart (n : Nat) (ps : List (Nat × MV)) : Option (Nat × Nat × Nat × Nat) := match n with
 | 1 => (match ps with
  | [(0, .ms c es off k)] => some (c, es, off, k)
  | _ => none)
 | _ => none
def eqT (t : TypeId) : Bool := flatB P T 9 t && !P.eqGuardType P.depth t
def oNil (b : Option Bool) (op : BinOp) : Ask (MV × Dl) := match b with
 | some b => match op with
  | .eql => pureA (.bool b)
  | .neq => pureA (.bool (!b))
  | _ => .bad
 | none => .bad
def oEq (op : BinOp) (t : TypeId) (x y : MV) : Ask (MV × Dl) := match Tab.find T t with
 | some d => bif d.agg && fits d x && fits d y then .prf (eqT P T t = true ∧ confM T 9 t x = true ∧ confM T 9 t y = true) inferInstance (.ask (eqM x y) fun b => oNil (some b) op) else .bad
 | none => .bad
def oBin (op : BinOp) (t : TypeId) (yo : Operand) (x y : MV) : Ask (MV × Dl) := match y with
 | .int k' n => match x with
  | .int k m => bif isShift op || Nat.beq (kid k) (kid k') then (iBin op k m n).bind pureA else .bad
  | _ => .bad
 | .str u => match x with
  | .str s => (sBin op s u).bind pureA
  | _ => .bad
 | .bool u => match x with
  | .bool s => match Tab.find T t with | some .bool => (bBin op s u).bind pureA | _ => .bad
  | _ => .bad
 | .nilp => match Tab.find T t with
  | some .ptr => oNil (nilM 0 x) op
  | _ => .bad
 | .nils => match Tab.find T t with
  | some (.slice ..) => oNil (nilM 1 x) op
  | _ => .bad
 | .nili => match Tab.find T t, yo with
  | some .iface, .const _ => oNil (nilM 2 x) op
  | _, _ => .bad
 | y => oEq P T op t x y
def oUn (op : UnOp) (x : MV) : Ask (MV × Dl) := match op, x with
 | .not, .bool b => pureA (.bool (!b))
 | .xor, .int k n => val (k.wrap (BitVec.ofInt k.bits (if k.signed then -1 else k.max) ^^^ BitVec.ofInt k.bits n).toNat) fun r => pureA (.int k r)
 | .neg, .int k n => val (k.wrap (0 - n)) fun r => pureA (.int k r)
 | _, _ => .bad
def rnsM : List MV → Option (List Int)
 | [] => some []
 | .int .i32 n :: l => match rnsM l with
  | some r => some (n :: r)
  | none => none
 | _ => none
def oConv (src dst : TypeId) (x : MV) : Ask (MV × Dl) := match Tab.find T src, Tab.find T dst, x with
 | some _, some (.int k), .int _ n => val (k.wrap n) fun r => pureA (.int k r)
 | some (.int _), some .str, .int _ n => val (Utf8.encode n).data.toList fun s => pureA (.str s)
 | some (.slice e _), some .str, .sl _n l => match Tab.find T e with
  | some (.int .u8) => .ask (bytesM l) fun s => pureA (.str s)
  | some (.int .i32) => .ask (rnsM l) fun ns => val (runesBytes ns).data.toList fun s => pureA (.str s)
  | _ => .bad
 | some (.slice e _), some .str, .nils => match Tab.find T e with
  | some (.int .u8) => pureA (.str [])
  | _ => .bad
 | some (.slice e _), some .str, .ms c es off n => match Tab.find T e, M c with
  | some (.int .u8), some b => bif Nat.beq es 1 && Nat.beq b.es 1 then .prf (off + n ≤ b.l.length) inferInstance (.ask (bytesM (cutL b.l off (off + n))) fun s => pureA (.str s)) else .bad
  | _, _ => .bad
 | some .str, some (.slice e _), .str s => match Tab.find T e with
  | some (.int .u8) => .prf (s.length ≤ 140737488355328) inferInstance (val (u8s s) fun l => val s.length fun n => pureA (.sl n l))
  | _ => .bad
 | _, _, _ => .bad
def oMakeSlice (t : TypeId) (n m : MV) : Ask (MV × Dl) := match Tab.find T t, n, m with
 | some (.slice e es), .int _ n, .int _ m => match zeroM T 9 e with
  | some z => bif Nat.beq z.size es && Nat.blt 0 es && z.idFree then .prf (n = m) inferInstance (.ask (idx 140737488355328 n) fun k => .ask ((P.info? e).map (·.bytes)) fun by_ => .prf (k * by_ ≤ 281474976710656) inferInstance (.ret (.ms cnt es 0 k, .new ⟨e, es, true, 0, repM k z⟩))) else .bad
  | none => .bad
 | _, _, _ => .bad
def srcM (es : Nat) (y : MV) (k : Bool → Nat → List MV → Ask (MV × Dl)) : Ask (MV × Dl) := match y with
 | .sl m l => .prf (headSize l es = true) inferInstance (k true m l)
 | .nils => k true 0 []
 | .str s => bif Nat.beq es 1 then val (u8s s) fun l => val s.length fun n => k true n l else .bad
 | .ms c es' off m => match M c with
  | some b => bif Nat.beq es es' && Nat.beq b.es es then .prf (off + m ≤ b.l.length) inferInstance (val (cutL b.l off (off + m)) fun l => k b.row m l) else .bad
  | none => .bad
 | _ => .bad
def isStrT (u : TypeId) : Bool := match Tab.find T u with
 | some .str => true
 | _ => false
def appT (t u : TypeId) : MV → Bool
 | .str _ => isStrT T u
 | _ => Nat.beq t u
def oAppend (ats : List TypeId) (x y : MV) : Ask (MV × Dl) := match ats with
 | [t, u] => bif appT T t u y then (match Tab.find T t with
  | some (.slice e es) => match zeroM T 9 e with
   | some z => bif Nat.beq z.size es && Nat.blt 0 es then .ask ((P.info? e).map (·.bytes)) fun by_ => srcM M es y fun fl m l => (match x with
    | .nils => .prf (m * by_ ≤ 140737488355328 ∧ m ≤ maxLen) inferInstance (bif fl || Nat.blt 0 m then .ret (.ms cnt es 0 m, .new ⟨e, es, fl, 0, l⟩) else .bad)
    | .ms c es' off n => match M c with
     | some b => bif Nat.beq off 0 && Nat.beq es es' && Nat.beq b.es es && (b.row && fl || Nat.blt 0 (n + m)) && Nat.beq b.ty e then .prf (b.l.length = n ∧ (n + m) * by_ ≤ 140737488355328 ∧ n + m ≤ maxLen) inferInstance (val (b.l ++ l) fun r => val (n + m) fun k => .ret (.ms cnt es 0 k, .mv c ⟨e, es, b.row && fl, b.pe, r⟩)) else .bad
     | none => .bad
    | _ => .bad) else .bad
   | none => .bad
  | _ => .bad) else .bad
 | _ => .bad
def oLen (t : Option TypeId) (x : MV) : Ask (MV × Dl) := match t.bind (Tab.find T), x with
 | some .str, .str s => val (s.length : Int) fun r => pureA (.int .i64 r)
 | some (.slice ..), .sl n _ => pureA (.int .i64 n)
 | some (.slice ..), .nils => pureA (.int .i64 0)
 | some (.slice ..), .ms _ _ _ n => pureA (.int .i64 n)
 | some (.arr n _ _), _ => pureA (.int .i64 n)
 | _, _ => .bad
def oPick (c a b : MV) : Ask (MV × Dl) := match c with
 | .bool t => .br t (pureA a) (pureA b)
 | _ => .bad
def oAlloc (t : TypeId) : Ask (MV × Dl) := match Tab.find T t, zeroM T 9 t with
 | some d, some z => bif fits d z then .ret (.ptr cnt d.size 0 0 [], .new ⟨t, d.size, false, 0, [z]⟩) else .bad
 | _, _ => .bad
def oBox (t : TypeId) (v : MV) : Ask (MV × Dl) := match Tab.find T t with
 | some d => bif fits d v then .ret (.ptr cnt d.size 0 0 [], .new ⟨t, d.size, false, 0, [v]⟩) else .bad
 | none => .bad
def oNilCheck (v : MV) : Ask (MV × Dl) := match v with
 | .ptr .. | .gp .. | .ep .. | .fn .. | .ifc .. => pureA v
 | _ => .bad
def oIface (t : TypeId) (v : MV) : Ask (MV × Dl) := match Tab.find T t with
 | some .iface => .bad
 | some .other => .bad
 | some d => bif fits d v then pureA (.ifc t v) else .bad
 | none => .bad
def oMkFunc (fn : Fn) (first : Array Operand) (ys : List MV) : Ask (MV × Dl) := match fn, first.toList with
 | .func f, [] => bif ys.all MV.isVal then pureA (.fn f ys) else .bad
 | _, _ => .bad
def oExtract (x : MV) (i : Nat) : Ask (MV × Dl) := match x with
 | .tup vs => match nthM vs i with | some m => pureA m | none => .bad
 | _ => .bad
def oClear (t : Option TypeId) (x : MV) : Ask (MV × Dl) := match t.bind (Tab.find T), x with
 | some (.slice e es), .ms c es' off n => match M c, zeroM T 9 e with
  | some b, some z => bif Nat.beq es es' && Nat.beq b.es es && Nat.beq z.size es && Nat.blt 0 es then .prf (off + n ≤ b.l.length ∧ b.pe ≤ off) inferInstance (val (b.l.take off ++ (repM n z ++ b.l.drop (off + n))) fun l => .ret (.tup [], .upd c l)) else .bad
  | _, _ => .bad
 | _, _ => .bad
def oBuiltin (b : Builtin) (ats : Array TypeId) (vs : List MV) : Ask (MV × Dl) := match b with
 | .len => match vs with | [x] => oLen T (ats[0]?) x | _ => .bad
 | .append => match vs with | [x, y] => oAppend P T M cnt ats.toList x y | _ => .bad
 | .clear => match vs with | [x] => oClear T M (ats[0]?) x | _ => .bad
 | .min => match vs with | [.int k x, .int _ y] => val (if y < x then y else x) fun r => pureA (.int k r) | _ => .bad
 | .max => match vs with | [.int k x, .int _ y] => val (if y > x then y else x) fun r => pureA (.int k r) | _ => .bad
 | _ => .bad
def findM (s : List UInt8) : List MV → Nat → Option (Option Nat)
 | [], _ => some none
 | .str x :: l, i => bif s == x then some (some i) else findM s l (i + 1)
 | _ :: _, _ => none
def isIntM : MV → Bool
 | .int .. => true
 | _ => false
def keyQ (t : TypeId) (k : MV) : Option (TypeId × TypeId) := match P.underlying t with
 | some (.map kt e) => (match k, P.underlying kt with
  | .str _, some .string => some (kt, e)
  | .arr n es l, some (.array n' x) => (match P.underlying x, Tab.find T kt with
   | some (.int _), some d => bif Nat.beq n n' && Nat.beq es 1 && Nat.beq l.length n && sizeB P x 1 && d.agg && eqT P T kt && confM T 9 kt (.arr n es l) && l.all isIntM then some (kt, e) else none
   | _, _ => none)
  | _, _ => none)
 | _ => none
def findA (kt : TypeId) (k : MV) : List MV → Nat → Option (Option Nat)
 | [], _ => some none
 | x :: l, i => match eqM k x with
  | some true => bif confM T 9 kt x then some (some i) else none
  | some false => bif confM T 9 kt x then findA kt k l (i + 1) else none
  | none => none
def findK (kt : TypeId) (k : MV) (ks : List MV) : Option (Option Nat) := match k with
 | .str s => findM s ks 0
 | k => findA T kt k ks 0
def isAggV : Option Value → Bool
 | some (.agg _) => true
 | _ => false
def zeroVal (t : TypeId) : Option MV := match zeroM T 9 t with
 | some z => bif bEq z.isAgg (isAggV ((P.info? t).bind (·.zero))) then some z else none
 | none => none
def oMakeMap (t : TypeId) : Ask (MV × Dl) := .ret (.mp cnt, .new ⟨t, 0, false, 0, [.mpv [] []]⟩)
def oMapUpd (t : TypeId) (m k x : MV) : Ask (MV × Dl) := match m with
 | .mp c => match M c with
  | some b => match b.l with
   | [.mpv ks vs] => bif x.isVal && x.idFree && k.isVal && k.idFree then .prf (vs.length = ks.length) inferInstance (.ask (keyQ P T t k) fun q => .ask (findK T q.1 k ks) fun r => (match r with
    | none => val [.mpv (ks ++ [k]) (vs ++ [x])] fun l => .ret (.undef, .upd c l)
    | some i => val [.mpv ks (setL vs i x)] fun l => .ret (.undef, .upd c l))) else .bad
   | _ => .bad
  | none => .bad
 | _ => .bad
def okPair (ok : Bool) (v : MV) (b : Bool) : MV := match ok with
 | true => .tup [v, .bool b]
 | false => v
def oLookup (t : TypeId) (m k : MV) (ok : Bool) : Ask (MV × Dl) := match m with
 | .mp c => match M c with
  | some b => match b.l with
   | [.mpv ks vs] => bif k.isVal && k.idFree then .prf (vs.length = ks.length) inferInstance (.ask (keyQ P T t k) fun q => .ask (findK T q.1 k ks) fun r => (match r with
    | none => .ask (zeroVal P T q.2) fun z => pureA (okPair ok z false)
    | some i => .ask (nthM vs i) fun v => bif v.isVal then pureA (okPair ok v true) else .bad)) else .bad
   | _ => .bad
  | none => .bad
 | _ => .bad
def natOf (n : Int) : Option Nat := if 0 ≤ n then some n.toNat else none
def nextS (s : List UInt8) (pos : Nat) : Option (Nat × Nat) := if pos < s.length then some (Utf8.decode ⟨s.toArray⟩ pos) else none
def oRange (t : TypeId) (x : MV) : Ask (MV × Dl) := match Tab.find T t, x with
 | some .str, .str s => .ret (.ptr cnt 0 0 0 [], .new ⟨t, 0, false, 0, [.mpv [.str s] [.nilp, .int .i64 (0 : Nat)]]⟩)
 | _, _ => .bad
def oNext (x : MV) (isS : Bool) : Ask (MV × Dl) := match x, isS with
 | .ptr c 0 0 0 [], true => match M c with
  | some b => match b.l with
   | [.mpv [.str s] [.nilp, .int .i64 p]] => .ask (natOf p) fun pos => val (nextS s pos) fun r => (match r with
    | none => .ret (.tup [.bool false], .upd c [.mpv [.str s] [.nilp, .int .i64 p]])
    | some (x, wd) => .ret (.tup [.bool true, .int .i64 pos, .int .i32 x], .upd c [.mpv [.str s] [.nilp, .int .i64 (pos + wd : Nat)]]))
   | _ => .bad
  | none => .bad
 | _, _ => .bad
def oAssert (t : TypeId) (ok : Bool) (v : MV) : Ask (MV × Dl) := match v, Tab.find T t with
 | .ifc _ _, some .iface => .bad
 | .ifc _ _, some .other => .bad
 | .ifc t' u, some _ => match Nat.beq t' t with
  | true => bif u.isVal then pureA (okPair ok u true) else .bad
  | false => bif ok then .ask (zeroVal P T t) fun z => pureA (.tup [z, .bool false]) else .bad
 | .nili, some .iface => .bad
 | .nili, some .other => .bad
 | .nili, some _ => bif ok then .ask (zeroVal P T t) fun z => pureA (.tup [z, .bool false]) else .bad
 | _, _ => .bad
def eOp (o : Oper) : Ask (MV × Dl) := match o.op with
 | .move x => rd E x pureA
 | .assign x => rd E x pureA
 | .pick c a b => rd E c fun c => rd E a fun a => rd E b fun b => oPick c a b
 | .alloc t => oAlloc T cnt t
 | .box t x => rd E x fun v => oBox T cnt t v
 | .build t parts => rds E (parts.toList.map (·.2)) fun vs => oBuild T t ((parts.toList.map (·.1)).zip vs)
 | .buildSlice t n parts => rds E (parts.toList.map (·.2)) fun vs => match rowPart n ((parts.toList.map (·.1)).zip vs) with
  | some x => oBuildRow T M cnt t x.1 x.2.1 x.2.2.1 x.2.2.2
  | none => oBuildSlice T cnt t n ((parts.toList.map (·.1)).zip vs)
 | .load t x => rd E x fun p => oLoad T M t p
 | .store t x y => rd E x fun p => rd E y fun v => oStore T M t p v
 | .nilCheck x => rd E x oNilCheck
 | .binOp op t x y _ => rd E x fun u => rd E y fun v => oBin P T op t y u v
 | .unOp op _ x => rd E x fun v => oUn op v
 | .convert src dst x => rd E x fun v => oConv T M src dst v
 | .makeInterface t x => rd E x fun v => oIface T t v
 | .makeFunc fn first captured => rds E captured.toList fun ys => oMkFunc fn first ys
 | .makeSlice t l c => rd E l fun l => rd E c fun c => oMakeSlice P T cnt t l c
 | .slice t x lo hi mx => match mx with
  | none => rd E x fun x => rdo E lo fun lo => rdo E hi fun hi => oSliceA T M t x lo hi
  | some _ => .bad
 | .fieldAddr t x f => rd E x fun p => oFieldAddr T t p f
 | .field t x f => rd E x fun v => oField T t v f
 | .indexAddr t x ix => rd E x fun v => rd E ix fun i => oIndexAddr T t v i
 | .index t x ix => rd E x fun v => rd E ix fun i => oIndex T t v i
 | .extract x i => rd E x fun x => oExtract x i
 | .makeMap t r => match r with
  | none => oMakeMap cnt t
  | some _ => .bad
 | .mapUpdate t m k x => rd E m fun m => rd E k fun k => rd E x fun x => oMapUpd P T M t m k x
 | .insert t m k x => rd E m fun m => rd E k fun k => rd E x fun x => oMapUpd P T M t m k x
 | .lookup t m k ok => rd E m fun m => rd E k fun k => oLookup P T M t m k ok
 | .typeAssert x _ t ok => rd E x fun v => oAssert P T t ok v
 | .range t x => rd E x fun v => oRange T cnt t v
 | .next x isS => rd E x fun v => oNext M v isS
 | .call c => match c.callee with
  | .builtin b => rds E c.args.toList fun vs => oBuiltin P T M cnt b c.argTypes vs
  | _ => .bad
 | _ => .bad
end
end
section
def Post1 (w : World) (P : Prot) (adr : Adr) (m : FM) (cnt : Nat) (r : MV) (δ : Dl) (u : Value) (w' : World) : Prop :=
 ∃ (P' : Prot) (adr' : Adr), RepV w' P' adr' r u ∧ InvM w' P' adr' (δ.appF cnt m) ∧ Keep w w' P P' adr adr' ∧ (∀ c, c ≠ cnt → adr' c = adr c) ∧
  (∀ g, adr' cnt = some g → w.heap.size ≤ g ∨ ∃ c, adr c = some g) ∧ Since (fun b => ∃ c, adr c = some b) w w' ∧ (∀ b o, P' b o → P b o ∨ w.heap.size ≤ b ∨ ∃ c, adr c = some b)
def Res (Pg : Program) (o : Oper) (a : Act) (w : World) (Q : Value → World → Prop) : Prop :=
 (∃ u w', (execOp a.eval o).run Pg w = .ok (.value u) w' ∧ Q u w') ∨ (∃ w', (execOp a.eval o).run Pg w = .ok .skip w' ∧ Q undef w')
section
variable {Pg : Program} {T : Tab} {w w' : World} {P P' : Prot} {adr adr' : Adr} {m : FM} {cnt : Nat} {K : MV × Dl → Prop} {u v x y : Value} {r : MV}
theorem Post1.pure (hI : InvM w P adr m) (hn : adr cnt = none) (h : RepV w P adr r u) : Post1 w P adr m cnt r .none u w :=
 ⟨P, adr, h, hI, Keep.refl _ _ _, fun _ _ => rfl, fun g (hg : adr cnt = some g) => (by rw [hn] at hg; cases hg), Since.refl _ _, fun _ _ h => .inl h⟩
theorem Res.val {o : Oper} {a : Act} {Q : Value → World → Prop} (s : Sem Value) (ho : execOp a.eval o = (do pure (.value (← s)))) (hr : s.run Pg w = .ok u w') (h : Q u w') : Res Pg o a w Q :=
 .inl ⟨u, w', by rw [ho, Sem.run_bind, hr]; rfl, h⟩
theorem Res.unit {o : Oper} {a : Act} {Q : Value → World → Prop} (s : Sem Unit) (ho : execOp a.eval o = (do s; pure .skip)) (hr : s.run Pg w = .ok () w') (h : Q undef w') : Res Pg o a w Q :=
 .inr ⟨w', by rw [ho, Sem.run_bind, hr]; rfl, h⟩
theorem valM_agg {cs : List Value} (h : r.isAgg = true) : valM r cs = .agg ⟨cs⟩ := by unfold valM; rw [h]; rfl
theorem valM_one (h : r.isAgg = false) (v : Value) : valM r [v] = v := by unfold valM; rw [h]; rfl
theorem RepV.int_ {k : IntKind} {n : Int} (h : RepV w P adr (.int k n) u) : u = .int k n := by cases h with | val cs h => cases h; rfl
theorem RepV.undef_ (h : RepV w P adr .undef u) : u = Go.undef := by cases h with | val cs h => cases h | undef => rfl
theorem RepV.bool_ {b : Bool} (h : RepV w P adr (.bool b) u) : u = .bool b := by cases h with | val cs h => cases h; rfl
theorem RepV.str_ {s : List UInt8} (h : RepV w P adr (.str s) u) : u = .string ⟨s.toArray⟩ := by cases h with | val cs h => cases h; rfl
theorem RepV.nilp_ (h : RepV w P adr .nilp u) : u = .pointer none := by cases h with | val cs h => cases h; rfl
theorem RepV.nils_ (h : RepV w P adr .nils u) : u = .slice none 0 0 := by cases h with | val cs h => cases h; rfl
theorem RepV.nili_ (h : RepV w P adr .nili u) : u = .nilIface := by cases h with | val cs h => cases h; rfl
theorem RepV.gp_ {g o : Nat} (h : RepV w P adr (.gp g o) u) : u = .pointer (some ⟨g, o, none⟩) := by cases h with | val cs h => cases h; rfl
theorem RepV.ptr_ {c es k fo : Nat} {path : List Nat} (h : RepV w P adr (.ptr c es k fo path) u) : ∃ g, adr c = some g ∧ u = .pointer (some ⟨g, k * es + fo, none⟩) := by
 cases h with | val cs h => cases h with | ptr g h => exact ⟨g, h, rfl⟩
theorem RepV.ep_ {fo : Nat} {path : List Nat} (h : RepV w P adr (.ep r fo path) u) : ∃ (b o : Nat) (vs : List Value), u = .pointer (some ⟨b, o + fo, none⟩) ∧ (∀ (j : Nat) x, vs[j]? = some x → w.cell? ⟨b, o + j, none⟩ = some x ∧ P b (o + j)) ∧ Rep w P noAdr r vs := by
 cases h with | val cs h => cases h with | ep b o vs hc hr => exact ⟨b, o, vs, rfl, hc, hr⟩
theorem RepV.sl_ {n : Nat} {l : List MV} (h : RepV w P adr (.sl n l) u) : ∃ (A : Option Addr) (cap es : Nat) (parts : List (List Value)), u = .slice A n cap ∧ l.length = n ∧ parts.length = n ∧ (∀ p ∈ parts, p.length = es) ∧ (A = none → n = 0 ∧ cap = 0) ∧ n ≤ cap ∧
  (n ≠ 0 → ∃ b o, A = some ⟨b, o, none⟩ ∧ ∀ (j : Nat) x, parts.flatten[j]? = some x → w.cell? ⟨b, o + j, none⟩ = some x ∧ P b (o + j)) ∧ (∀ (j : Nat) m p, l[j]? = some m → parts[j]? = some p → Rep w P noAdr m p) := by
 cases h with | val cs h => cases h with | sl A cap es parts h1 h2 h3 h4 h7 h5 h6 => exact ⟨A, cap, es, parts, rfl, h1, h2, h3, h4, h7, h5, h6⟩
theorem RepV.ms_ {c es off n : Nat} (h : RepV w P adr (.ms c es off n) u) : (u = .slice none 0 0 ∧ off = 0 ∧ n = 0) ∨ ∃ g o cap, adr c = some g ∧ u = .slice (some ⟨g, o, none⟩) n cap ∧ (n ≠ 0 ∨ off = 0 → o = off * es) ∧ n ≤ cap ∧ cap ≤ maxLen ∧
  ∃ cur ty fz, w.heap[g]? = some (.cells cur ty fz) ∧ (off = 0 → cur.size = cap * es) := by
 cases h with | val cs h => cases h with
  | ms0 => exact .inl ⟨rfl, rfl, rfl⟩
  | ms g o cap h1 h2 h3 h4 h5 => exact .inr ⟨g, o, cap, h1, rfl, h2, h3, h4, h5⟩
theorem RepV.agg_ (h : RepV w P adr r u) (ha : r.isAgg = true) : ∃ cs, Rep w P adr r cs ∧ u = .agg ⟨cs⟩ := by
 cases h with
 | val cs h => exact ⟨cs, h, valM_agg ha⟩
 | undef => cases ha
 | tup => cases ha
theorem fits_out {d : TD} {r : MV} (h : fits d r = true) : r.size = d.size ∧ r.isAgg = d.agg ∧ r.isVal = true := by
 unfold fits at h
 rw [Bool.and_eq_true, Bool.and_eq_true] at h
 refine ⟨Nat.eq_of_beq_eq_true h.1.2, ?_, h.1.1⟩
 have h2 := h.2
 cases ha : r.isAgg <;> cases hb : d.agg <;> rw [ha, hb] at h2 <;> first | rfl | cases h2
theorem rep_of_fits {d : TD} (h : RepV w P adr r u) (hf : fits d r = true) : ∃ cs, Rep w P adr r cs ∧ u = valM r cs ∧ cs.length = d.size := by
 obtain ⟨hs, _, hv⟩ := fits_out hf
 cases h with
 | val cs h => exact ⟨cs, h, rfl, by rw [h.size, hs]⟩
 | undef => cases hv
 | tup => cases hv
theorem load_part (hT : TabOK Pg T) {t : TypeId} {d : TD} (hd : Tab.find T t = some d) {b o : Nat} {cs : List Value} (hr : Rep w P adr r cs) (hf : fits d r = true) (hc : ∀ (j : Nat) x, cs[j]? = some x → w.cell? ⟨b, o + j, none⟩ = some x) :
  (Instr.loadAt t (.pointer (some ⟨b, o, none⟩))).run Pg w = .ok (valM r cs) w := by
 obtain ⟨hs, ha, _⟩ := fits_out hf
 have hl : cs.length = d.size := by rw [hr.size, hs]
 have hld : (loadVar t ⟨b, o, none⟩).run Pg w = .ok (valM r cs) w := by
  cases hg : d.agg with
  | true =>
   rw [valM_agg (by rw [ha, hg])]
   exact ldn hT hd hg hl (fun j v hv => hc j v hv) (Below.refl _ _)
  | false =>
   have hra : r.isAgg = false := by rw [ha, hg]
   obtain ⟨v, rfl⟩ := hr.scalar hra
   rw [valM_one hra]
   have := hc 0 v rfl
   exact ld1 hT hd hg (o := o) (j := 0) (p := o) (cs := [v]) (fun j x hx => hc j x hx) rfl rfl (Below.refl _ _)
 simp only [Instr.loadAt, Instr.sureAddr, Sem.run_bind, Sem.run_pure, Result.andThen_ok]
 exact hld
theorem getPO_mpv {ks vs : List MV} {path : List Nat} {fo : Nat} {r : MV} (h : getPO (.mpv ks vs) path fo = some r) : r.isVal = false := by
 cases path with
 | nil =>
  have h : (bif Nat.beq fo 0 then some (MV.mpv ks vs) else none) = some r := h
  cases hb : Nat.beq fo 0 with
  | false => rw [hb] at h; cases h
  | true => rw [hb] at h; injection h with h; subst h; rfl
 | cons i p => simp [getPO] at h
theorem oLoad_ok (hT : TabOK Pg T) {t : TypeId} {p : MV} (h : (oLoad T m t p).runP K) (hp : RepV w P adr p u) (hI : InvM w P adr m) :
  ∃ r v, K (r, .none) ∧ (Instr.loadAt t u).run Pg w = .ok v w ∧ RepV w P adr r v := by
 unfold oLoad at h
 split at h
 ·exact h.elim
 rename_i d hd
 split at h
 ·rename_i c es k fo path
  split at h
  ·rename_i b hb
   cases hes : Nat.beq b.es es with
   | false => rw [hes] at h; exact h.elim
   | true =>
    rw [hes] at h
    have hes := Nat.eq_of_beq_eq_true hes
    obtain ⟨x, hx, r, hr, h⟩ := h
    replace h : Ask.runP (bif fits d r then pureA r else .bad) K := h
    cases hf : fits d r with
    | false => rw [hf] at h; exact h.elim
    | true =>
     rw [hf] at h
     obtain ⟨g, hg, rfl⟩ := hp.ptr_
     rw [nthM_eq] at hx
     rcases hI.blk c b hb with h1 | ⟨g', h1, h2⟩
     ·rw [hg] at h1; cases h1.2.2.1
     ·rw [hg] at h1
      injection h1 with h1
      subst h1
      obtain ⟨cur, parts, fz, h3, _, h4, h5, h6, h7⟩ := h2.ofX hx (fun ks vs e => by subst e; have := getPO_mpv hr; rw [(fits_out hf).2.2] at this; cases this)
      obtain ⟨q, hq⟩ := get_of_len h4 hx
      have hrep : Rep w P adr x q := by
       have := h6 k x q hx hq
       cases hrow : b.row <;> rw [hrow] at this
       ·exact this
       ·exact this.ofNone
      obtain ⟨pre, cs, post, e1, e2, h8⟩ := getPO_rep hrep hr
      refine ⟨r, _, h, load_part hT hd h8 hf (fun j y hy => ?_), .val cs h8⟩
      have hlt := (List.getElem?_eq_some_iff.1 hq).1
      have hpre : (parts.take k).flatten.length = k * es := by
       rw [flatten_const (es := b.es) fun x hx => h5 x (List.mem_of_mem_take hx), List.length_take, Nat.min_eq_left (by omega), hes]
      have hfl : parts.flatten[k * es + fo + j]? = some y := by
       rw [flatten_split hq, e1, List.append_assoc, List.getElem?_append_right (by omega), hpre]
       rw [List.append_assoc, List.append_assoc, List.getElem?_append_right (by omega), List.getElem?_append_left (by have := (List.getElem?_eq_some_iff.1 hy).1; omega)]
       rw [show k * es + fo + j - k * es - pre.length = j by omega]
       exact hy
      rw [cell_of_row w g _ cur b.ty fz h3]
      have := prefix_get h7 hfl
      simpa using this
  ·exact h.elim
 ·rename_i v0 fo path
  obtain ⟨r, hr, h⟩ := h
  replace h : Ask.runP (bif fits d r then pureA r else .bad) K := h
  cases hf : fits d r with
  | false => rw [hf] at h; exact h.elim
  | true =>
   rw [hf] at h
   obtain ⟨b, o, vs, rfl, hc, hv⟩ := hp.ep_
   obtain ⟨pre, cs, post, e1, e2, h8⟩ := getPO_rep hv hr
   refine ⟨r, _, h, load_part hT hd h8 hf (fun j y hy => ?_), .val cs h8.ofNone⟩
   have := (hc (fo + j) y (by rw [e1, List.append_assoc, List.getElem?_append_right (by omega), List.getElem?_append_left (by have := (List.getElem?_eq_some_iff.1 hy).1; omega), show fo + j - pre.length = j by omega]; exact hy)).1
   rw [show o + fo + j = o + (fo + j) by omega]
   exact this
 ·exact h.elim
end
end
section
section
variable {Pg : Program} {T : Tab} {w w' : World} {P P' : Prot} {adr adr' : Adr} {m : FM} {cnt : Nat} {K : MV × Dl → Prop} {u v x y : Value} {r : MV}
theorem valM_size {cs : List Value} (h : Rep w P adr r cs) : (valM r cs).cells.size = cs.length := by rw [← Array.length_toList, valM_cells h]
theorem setPO_mpv {ks vs : List MV} {path : List Nat} {fo : Nat} {v r : MV} (h : setPO (.mpv ks vs) path fo v = some r) (hv : v.isVal = true) : False := by
 cases path with
 | nil =>
  have h : (bif Nat.beq fo 0 && Nat.beq v.size 0 then (match v.isAgg, false with | true, true | false, false => some v | _, _ => none) else none) = some r := h
  cases hb : (Nat.beq fo 0 && Nat.beq v.size 0) with
  | false => rw [hb] at h; cases h
  | true =>
   rw [hb] at h
   rw [Bool.and_eq_true] at hb
   have h1 := Nat.eq_of_beq_eq_true hb.2
   cases v with
   | st l => simp [MV.isAgg] at h
   | arr n es l => simp [MV.isAgg] at h
   | mpv => cases hv
   | _ => simp [MV.size] at h1
 | cons i p => simp [setPO] at h
theorem oStore_ok0 (hT : TabOK Pg T) {t : TypeId} {p q : MV} (h : (oStore T m t p q).runP K) (hp : RepV w P adr p u) (hq : RepV w P adr q v) (hI : InvM w P adr m) (cnt : Nat) :
  ∃ δ w', K (.undef, δ) ∧ (Instr.storeAt t u v).run Pg w = .ok () w' ∧ InvM w' P adr (δ.appF cnt m) ∧ Keep w w' P P adr adr ∧ Since (fun b => ∃ c, adr c = some b) w w' := by
 unfold oStore at h
 split at h
 ·exact h.elim
 rename_i d hd
 split at h
 ·rename_i c es k fo path
  split at h
  ·rename_i b hb
   cases hes : (Nat.beq b.es es && fits d q && (!b.row || q.idFree)) with
   | false => rw [hes] at h; exact h.elim
   | true =>
    rw [hes] at h
    rw [Bool.and_eq_true, Bool.and_eq_true] at hes
    obtain ⟨⟨hes, hf⟩, hrow⟩ := hes
    have hes := Nat.eq_of_beq_eq_true hes
    obtain ⟨hpe, x, hx, x', hx', l, hl, h⟩ := h
    injection hl with hl
    subst hl
    obtain ⟨g, hg, rfl⟩ := hp.ptr_
    rw [nthM_eq] at hx
    obtain ⟨cs, hcs, rfl, hcl⟩ := rep_of_fits hq hf
    rcases hI.blk c b hb with h1 | ⟨g', h1, h2⟩
    ·rw [hg] at h1; cases h1.2.2.1
    ·rw [hg] at h1
     injection h1 with h1
     subst h1
     obtain ⟨cur, parts, fz, h3, hfz, h4, h5, h6, h7⟩ := h2.ofX hx (fun ks vs e => by subst e; exact setPO_mpv hx' (fits_out hf).2.2)
     obtain ⟨z, hz⟩ := get_of_len h4 hx
     have hcs' : Rep w P (if b.row then noAdr else adr) q cs := by
      cases hr : b.row with
      | false => exact hcs
      | true => rw [hr] at hrow; exact hcs.free (by simpa using hrow)
     obtain ⟨pre, old, post, e1, e2, e3, h8, h9, h10⟩ := setPO_rep (h6 k x z hx hz) hx' hcs'
     have hlt := (List.getElem?_eq_some_iff.1 hz).1
     have hpre : (parts.take k).flatten.length = k * es := by
      rw [flatten_const (es := b.es) fun x hx => h5 x (List.mem_of_mem_take hx), List.length_take, Nat.min_eq_left (by omega), hes]
     obtain ⟨tl, htl⟩ := h7
     have hcurl : cur.toList = (parts.take k).flatten ++ (pre ++ old ++ post) ++ ((parts.drop (k + 1)).flatten ++ tl) := by
      rw [← htl, flatten_split hz, e1]; simp
     have hoff : ((parts.take k).flatten ++ pre).length = k * es + fo := by rw [List.length_append, hpre, e2]
     have hsize : cur.size = k * es + fo + old.length + post.length + ((parts.drop (k + 1)).flatten ++ tl).length := by
      rw [← Array.length_toList, hcurl]
      simp only [List.length_append] at hoff ⊢
      omega
     have hst := run_storeCells_atF Pg g (k * es + fo) b.ty fz cs 0 cur w h3 (Nat.le_trans hfz.two (by rw [hes]; exact Nat.le_trans (Nat.mul_le_mul_right _ hpe) (Nat.le_add_right _ _))) (by omega) hcs.one
     have htake : cur.toList.take (k * es + fo + 0) = (parts.take k).flatten ++ pre := by
      rw [hcurl, Nat.add_zero, ← hoff]
      rw [show (parts.take k).flatten ++ (pre ++ old ++ post) ++ ((parts.drop (k + 1)).flatten ++ tl) = ((parts.take k).flatten ++ pre) ++ (old ++ post ++ ((parts.drop (k + 1)).flatten ++ tl)) by simp]
      exact List.take_left
     have hdrop : cur.toList.drop (k * es + fo + 0 + cs.length) = post ++ ((parts.drop (k + 1)).flatten ++ tl) := by
      rw [hcurl, Nat.add_zero, ← e3, ← hoff]
      rw [show (parts.take k).flatten ++ (pre ++ old ++ post) ++ ((parts.drop (k + 1)).flatten ++ tl) = (((parts.take k).flatten ++ pre) ++ old) ++ (post ++ ((parts.drop (k + 1)).flatten ++ tl)) by simp]
      rw [← List.length_append]
      exact List.drop_left
     rw [htake, hdrop] at hst
     have hw := hI.write (b' := { b with l := setL b.l k x' }) (by simp [setL_eq]) hb hg rfl rfl rfl h3 hfz (cur' := ((parts.take k).flatten ++ pre ++ cs ++ (post ++ ((parts.drop (k + 1)).flatten ++ tl))).toArray)
      (by simp only [List.size_toArray, List.length_append] at hoff hsize ⊢; omega)
      (fun o ho => by
       have h11 := h2.pe o ho
       have h12 : b.pe * b.es ≤ k * es := by rw [hes]; exact Nat.mul_le_mul_right _ hpe
       have e4 : cur[o]? = cur.toList[o]? := by simp
       rw [e4, hcurl]
       have e5 : ((parts.take k).flatten ++ pre ++ cs ++ (post ++ ((parts.drop (k + 1)).flatten ++ tl))).toArray[o]? = ((parts.take k).flatten ++ pre ++ cs ++ (post ++ ((parts.drop (k + 1)).flatten ++ tl)))[o]? := by simp
       rw [e5]
       simp only [List.append_assoc]
       rw [List.getElem?_append_left (by omega), List.getElem?_append_left (by omega)])
      (parts := parts.set k (pre ++ cs ++ post)) (by simp [setL_eq, h4])
      (fun p hp => by
       rcases List.mem_or_eq_of_mem_set hp with hp | rfl
       ·exact h5 p hp
       ·have := h5 z (List.mem_of_getElem? hz)
        rw [e1] at this
        simp only [List.length_append] at this ⊢
        show _ = b.es
        omega)
      (fun j y z' hy hz' => by
       have hy : (setL b.l k x')[j]? = some y := hy
       rw [setL_eq] at hy
       rcases getElem?_set' hy with ⟨rfl, rfl⟩ | ⟨hne, hy⟩
       ·rcases getElem?_set' hz' with ⟨_, rfl⟩ | ⟨hne, _⟩
        ·exact h8
        ·exact absurd rfl hne
       ·rcases getElem?_set' hz' with ⟨rfl, _⟩ | ⟨_, hz'⟩
        ·exact absurd rfl hne
        ·exact h6 j y z' hy hz')
      ⟨tl, by rw [flatten_set hz]; simp⟩
     refine ⟨.upd c (setL b.l k x'), _, h, ?_, ?_, hw.2, ?_⟩
     ·have hs2 := run_sizeOf_of (TD.fits_size (hT.fits hd)) w
      simp only [Instr.storeAt, Instr.sureAddr, Sem.run_bind, Sem.run_pure, Result.andThen_ok, storeVar, hs2, valM_size hcs, hcl]
      simp only [ne_eq, not_true_eq_false, if_false, valM_cells hcs]
      exact hst
     ·have e6 : Dl.appF cnt (.upd c (setL b.l k x')) m = fput m c { b with l := setL b.l k x' } := by
       show (match m c with | some b => _ | none => m) = _
       rw [hb]
      rw [e6]
      exact hw.1
     ·exact ⟨rfl, rfl, rfl, by simp, fun b' hb' hne => setRow_other _ _ _ _ fun e => hne ⟨c, by rw [e]; exact hg⟩⟩
  ·exact h.elim
 ·exact h.elim
theorem oStore_ok (hT : TabOK Pg T) {t : TypeId} {p q : MV} (h : (oStore T m t p q).runP K) (hp : RepV w P adr p u) (hq : RepV w P adr q v) (hI : InvM w P adr m) (hn : adr cnt = none) :
  ∃ δ w', K (.undef, δ) ∧ (Instr.storeAt t u v).run Pg w = .ok () w' ∧ Post1 w P adr m cnt .undef δ undef w' := by
 obtain ⟨δ, w', h1, h2, h3, h4, h5⟩ := oStore_ok0 hT h hp hq hI cnt
 exact ⟨δ, w', h1, h2, P, adr, .undef, h3, h4, fun _ _ => rfl, fun g hg => (by rw [hn] at hg; cases hg), h5, fun _ _ h => .inl h⟩
theorem oFieldAddr_ok (hT : TabOK Pg T) {t : TypeId} {p : MV} {f : Nat} (h : (oFieldAddr T t p f).runP K) (hp : RepV w P adr p u) :
  ∃ r v, K (r, .none) ∧ (Instr.fieldAt t u f).run Pg w = .ok v w ∧ RepV w P adr r v := by
 unfold oFieldAddr at h
 split at h
 ·rename_i fs sz hd
  have hf := hT.fits hd
  split at h
  ·rename_i o ft hnth
   obtain ⟨fields, hu, h3, h4, _⟩ := TD.fits_struct hf
   obtain ⟨fd, hfd, ho⟩ : ∃ fd : Field, fields.toList[f]? = some fd ∧ fd.offset = o := by
    rw [nth_eq, ← h3, List.getElem?_map, Option.map_eq_some_iff] at hnth
    obtain ⟨fd, h5, h6⟩ := hnth
    exact ⟨fd, h5, congrArg Prod.fst h6⟩
   have hfd' : fields[f]? = some fd := by simpa using hfd
   have hpos : ∃ n, sizeB Pg fd.type n = true ∧ 0 < n := by
    have := List.all_eq_true.1 h4 fd (List.mem_of_getElem? hfd)
    unfold sizePos at this
    split at this
    ·rename_i i hi
     exact ⟨i.size, by simp [sizeB, hi], by simpa using this⟩
    ·cases this
   obtain ⟨n, hn, hn0⟩ := hpos
   have key : ∀ (w : World) (b off : Nat), (Instr.fieldAt t (.pointer (some ⟨b, off, none⟩)) f).run Pg w = .ok (.pointer (some ⟨b, off + o, none⟩)) w := by
    intro w b off
    have hs := run_sizeOf_of hn w
    have hn1 : n ≠ 0 := by omega
    simp only [Instr.fieldAt, Instr.sureAddr, fieldPlace, Sem.run_bind, run_underlying hu, Result.andThen_ok, hfd', Sem.run_pure, hs, hn1, if_false, ho, Addr.add_mid]
   split at h
   ·obtain ⟨g, hg, rfl⟩ := hp.ptr_
    refine ⟨_, _, h, key _ _ _, ?_⟩
    rw [Nat.add_assoc]
    exact .val [_] (.ptr g hg)
   ·obtain ⟨b, o', vs, rfl, hc, hv⟩ := hp.ep_
    refine ⟨_, _, h, key _ _ _, ?_⟩
    rw [Nat.add_assoc]
    exact .val [_] (.ep b o' vs hc hv)
   ·rw [hp.gp_]
    exact ⟨_, _, h, key _ _ _, .val [_] .gp⟩
   ·exact h.elim
  ·exact h.elim
 ·exact h.elim
theorem idx_out {n : Nat} {j : Int} {k : Nat} (h : idx n j = some k) : j = (k : Int) ∧ k < n := by
 unfold idx at h
 split at h
 ·injection h with h; omega
 ·cases h
theorem idxL_out {l : List MV} {n : Nat} {j : Int} {x : MV} (h : idxL l n j = some x) : ∃ k : Nat, j = (k : Int) ∧ k < n ∧ l[k]? = some x := by
 unfold idxL at h
 split at h
 ·exact ⟨j.toNat, by omega, by omega, h⟩
 ·cases h
theorem oIndexAddr_ok (hT : TabOK Pg T) {t : TypeId} {p j : MV} (h : (oIndexAddr T t p j).runP K) (hp : RepV w P adr p u) (hj : RepV w P adr j v) :
  ∃ r y, K (r, .none) ∧ (Instr.indexAt t u v).run Pg w = .ok y w ∧ RepV w P adr r y := by
 unfold oIndexAddr at h
 split at h
 ·rename_i e es hd
  obtain ⟨hu, hs⟩ := TD.fits_slice (hT.fits hd)
  have key : ∀ (A : Option Addr) (b o len cap k : Nat) (k0 : IntKind), A = some ⟨b, o, none⟩ → k < len → (Instr.indexAt t (.slice A len cap) (.int k0 (k : Int))).run Pg w = .ok (.pointer (some ⟨b, o + k * es, none⟩)) w := by
   intro A b o len cap k k0 hA hk
   subst hA
   have hi : (0 : Int) ≤ (k : Int) ∧ (k : Int) < (len : Int) := ⟨by omega, by omega⟩
   simp only [Instr.indexAt, asIntOf, Sem.run_bind, Sem.run_pure, Result.andThen_ok, run_underlying hu, run_sizeOf_of hs, hi, and_self, if_true, Int.toNat_natCast, Addr.add_mid]
  split at h
  ·obtain ⟨x, hx, h⟩ := h
   replace h : Ask.runP (bif Nat.beq x.size es then pureA (.ep x 0 []) else .bad) K := h
   cases hes : Nat.beq x.size es with
   | false => rw [hes] at h; exact h.elim
   | true =>
    rw [hes] at h
    have hes := Nat.eq_of_beq_eq_true hes
    rw [hj.int_]
    obtain ⟨k, rfl, hk, hx⟩ := idxL_out hx
    obtain ⟨A, cap, es', parts, rfl, h1, h2, h3, h4, _, h5, h6⟩ := hp.sl_
    obtain ⟨b, o, hA, hc⟩ := h5 (by omega)
    obtain ⟨q, hq⟩ := get_of_len (h2.trans h1.symm) hx
    have hrep := h6 k x q hx hq
    have hql := h3 q (List.mem_of_getElem? hq)
    have hee : es' = es := by rw [← hql, hrep.size, hes]
    subst hee
    refine ⟨_, _, h, key A b o _ cap k _ hA hk, ?_⟩
    refine .val [_] ?_
    have := Rep.ep (w := w) (P := P) (adr := adr) (v := x) (fo := 0) (path := []) b (o + k * es') q (fun j y hy => ?_) hrep
    ·simpa using this
    ·have hpre : (parts.take k).flatten.length = k * es' := by
      rw [flatten_const (es := es') fun x hx => h3 x (List.mem_of_mem_take hx), List.length_take, Nat.min_eq_left (by omega)]
     have hfl : parts.flatten[k * es' + j]? = some y := by
      rw [flatten_split hq, List.append_assoc, List.getElem?_append_right (by omega), hpre, List.getElem?_append_left (by have := (List.getElem?_eq_some_iff.1 hy).1; omega), show k * es' + j - k * es' = j by omega]
      exact hy
     have := hc _ y hfl
     rw [show o + k * es' + j = o + (k * es' + j) by omega]
     exact this
  ·rename_i c es' off n k1 j1
   cases hes : Nat.beq es' es with
   | false => rw [hes] at h; exact h.elim
   | true =>
    rw [hes] at h
    have hes := Nat.eq_of_beq_eq_true hes
    subst hes
    obtain ⟨k, hk, h⟩ := h
    obtain ⟨hk1, hk2⟩ := idx_out hk
    rw [hj.int_, hk1]
    rcases hp.ms_ with ⟨_, _, h0⟩ | ⟨g, o, cap, hg, rfl, ho, _⟩
    ·omega
    ·have ho := ho (.inl (by omega))
     subst ho
     refine ⟨_, _, h, key _ g (off * es') _ cap k _ rfl hk2, .val [_] ?_⟩
     have := Rep.ptr (w := w) (P := P) (adr := adr) (c := c) (es := es') (k := off + k) (fo := 0) (path := []) g hg
     rw [Nat.add_mul, Nat.add_zero] at this
     exact this
  ·exact h.elim
 ·rename_i len e es hd
  obtain ⟨hu, hs⟩ := TD.fits_arr (hT.fits hd)
  have key : ∀ (w : World) (b o k : Nat) (k0 : IntKind), k < len → (Instr.indexAt t (.pointer (some ⟨b, o, none⟩)) (.int k0 (k : Int))).run Pg w = .ok (.pointer (some ⟨b, o + k * es, none⟩)) w := by
   intro w b o k k0 hk
   have hi : (0 : Int) ≤ (k : Int) ∧ (k : Int) < (len : Int) := ⟨by omega, by omega⟩
   simp only [Instr.indexAt, Instr.sureAddr, asIntOf, Sem.run_bind, Sem.run_pure, Result.andThen_ok, run_underlying hu, run_sizeOf_of hs, hi, and_self, if_true, Int.toNat_natCast, Addr.add_mid]
  split at h
  ·obtain ⟨k, hk, h⟩ := h
   obtain ⟨hk1, hk2⟩ := idx_out hk
   rw [hj.int_, hk1]
   obtain ⟨g, hg, rfl⟩ := hp.ptr_
   refine ⟨_, _, h, key _ _ _ _ _ hk2, ?_⟩
   rw [Nat.add_assoc]
   exact .val [_] (.ptr g hg)
  ·obtain ⟨k, hk, h⟩ := h
   obtain ⟨hk1, hk2⟩ := idx_out hk
   rw [hj.int_, hk1]
   obtain ⟨b, o', vs, rfl, hc, hv⟩ := hp.ep_
   refine ⟨_, _, h, key _ _ _ _ _ hk2, ?_⟩
   rw [Nat.add_assoc]
   exact .val [_] (.ep b o' vs hc hv)
  ·obtain ⟨k, hk, h⟩ := h
   obtain ⟨hk1, hk2⟩ := idx_out hk
   rw [hj.int_, hk1, hp.gp_]
   exact ⟨_, _, h, key _ _ _ _ _ hk2, .val [_] .gp⟩
  ·exact h.elim
 ·exact h.elim
end
end
section
section
variable {Pg : Program} {T : Tab} {w w' : World} {P P' : Prot} {adr adr' : Adr} {m : FM} {cnt : Nat} {K : MV × Dl → Prop} {u v x y : Value} {r : MV}
theorem part_run (hT : TabOK Pg T) {t : TypeId} {d : TD} (hd : Tab.find T t = some d) {pre cs post : List Value} (h : Rep w P adr r cs) (hf : fits d r = true) (w0 : World) {o : Nat} (ho : pre.length = o) :
  (part t ⟨pre ++ cs ++ post⟩ o).run Pg w0 = .ok (valM r cs) w0 := by
 obtain ⟨hs, ha, _⟩ := fits_out hf
 have hl : cs.length = d.size := by rw [h.size, hs]
 have hsz := run_sizeOf_of (TD.fits_size (hT.fits hd)) w0
 subst ho
 cases hg : d.agg with
 | true =>
  rw [valM_agg (by rw [ha, hg])]
  simp only [part, Sem.run_bind, TD.fits_agg (hT.fits hd), hg, Result.andThen_ok, if_true, hsz, Sem.run_pure]
  have : (⟨pre ++ cs ++ post⟩ : Array Value).extract pre.length (pre.length + d.size) = ⟨cs⟩ := by
   apply Array.toList_inj.1
   simp only [Array.toList_extract, List.extract]
   rw [List.append_assoc, List.drop_left, show pre.length + d.size - pre.length = d.size by omega, ← hl, List.take_left]
  rw [this]
 | false =>
  have hra : r.isAgg = false := by rw [ha, hg]
  obtain ⟨v, rfl⟩ := h.scalar hra
  rw [valM_one hra]
  simp only [part, Sem.run_bind, TD.fits_agg (hT.fits hd), hg, Result.andThen_ok, Bool.false_eq_true, if_false]
  have : (⟨pre ++ [v] ++ post⟩ : Array Value)[pre.length]? = some v := by simp
  rw [this]; rfl
theorem oIndex_ok (hT : TabOK Pg T) {t : TypeId} {p j : MV} (h : (oIndex T t p j).runP K) (hp : RepV w P adr p u) (hj : RepV w P adr j v) :
  ∃ r y, K (r, .none) ∧ (Instr.index t u v).run Pg w = .ok y w ∧ RepV w P adr r y := by
 unfold oIndex at h
 split at h
 ·rename_i s k0 j hd
  obtain ⟨c, hc, h⟩ := h
  have hu := TD.fits_str (hT.fits hd)
  rw [hp.str_, hj.int_]
  refine ⟨_, .int .u8 c.toNat, h, ?_, .val [_] .int⟩
  unfold idxS at hc
  split at hc
  ·rename_i h0
   have hb : (⟨s.toArray⟩ : ByteArray)[j.toNat]? = some c := by
    rw [← hc]
    have hlt := (List.getElem?_eq_some_iff.1 hc).1
    have : j.toNat < (⟨s.toArray⟩ : ByteArray).size := by simpa [ByteArray.size] using hlt
    rw [getElem?_pos (⟨s.toArray⟩ : ByteArray) j.toNat this, List.getElem?_eq_getElem hlt]
    rfl
   simp [Instr.index, asIntOf, run_underlying hu, h0, hb]
  ·cases hc
 ·rename_i n e es n' es' l k0 j hd
  split at h
  ·rename_i d hde
   cases hb : (Nat.beq n n' && Nat.beq es es') with
   | false => rw [hb] at h; exact h.elim
   | true =>
    rw [hb] at h
    rw [Bool.and_eq_true] at hb
    have e1 := Nat.eq_of_beq_eq_true hb.1
    have e2 := Nat.eq_of_beq_eq_true hb.2
    subst e1; subst e2
    obtain ⟨x, hx, h⟩ := h
    replace h : Ask.runP (bif fits d x then pureA x else .bad) K := h
    cases hf : fits d x with
    | false => rw [hf] at h; exact h.elim
    | true =>
     rw [hf] at h
     obtain ⟨k, rfl, hk, hx⟩ := idxL_out hx
     rw [hj.int_]
     obtain ⟨cs, hcs, rfl⟩ := hp.agg_ rfl
     cases hcs with
     | arr parts h1 h2 h3 h4 =>
      obtain ⟨hu, hs⟩ := TD.fits_arr (hT.fits hd)
      obtain ⟨q, hq⟩ := get_of_len (h2.trans h1.symm) hx
      have hrep := (h4 k x q hx hq).ofNone (adr := adr)
      have hpre : (parts.take k).flatten.length = k * es := by
       rw [flatten_const (es := es) fun x hx => h3 x (List.mem_of_mem_take hx), List.length_take, Nat.min_eq_left (by omega)]
      refine ⟨x, valM x q, h, ?_, .val q hrep⟩
      have hi : (0 : Int) ≤ (k : Int) ∧ (k : Int) < (n : Int) := ⟨by omega, by omega⟩
      have hpr := part_run hT hde (pre := (parts.take k).flatten) (post := (parts.drop (k + 1)).flatten) hrep hf w hpre
      rw [← flatten_split hq] at hpr
      simp only [Instr.index, asIntOf, Sem.run_bind, Sem.run_pure, Result.andThen_ok, run_underlying hu, hi, and_self, if_true, run_sizeOf_of hs, Int.toNat_natCast]
      exact hpr
  ·exact h.elim
 ·exact h.elim
theorem oField_ok (hT : TabOK Pg T) {t : TypeId} {p : MV} {f : Nat} (h : (oField T t p f).runP K) (hp : RepV w P adr p u) :
  ∃ r y, K (r, .none) ∧ (Instr.field t u f).run Pg w = .ok y w ∧ RepV w P adr r y := by
 unfold oField at h
 split at h
 ·rename_i fs sz l hd
  split at h
  ·rename_i o ft x hn hx
   split at h
   ·rename_i d hde
    cases hb : (fits d x && Nat.beq (sizesTo l f) o) with
    | false => rw [hb] at h; exact h.elim
    | true =>
     rw [hb] at h
     rw [Bool.and_eq_true] at hb
     have ho := Nat.eq_of_beq_eq_true hb.2
     obtain ⟨fields, hu, hfs, _, _⟩ := TD.fits_struct (hT.fits hd)
     rw [nth_eq] at hn
     rw [← hfs] at hn
     simp only [List.getElem?_map, Option.map_eq_some_iff] at hn
     obtain ⟨fl, hfl, he⟩ := hn
     injection he with he1 he2
     subst he2
     have hfl' : fields[f]? = some fl := by simpa using hfl
     rw [nthM_eq] at hx
     obtain ⟨cs, hcs, rfl⟩ := hp.agg_ rfl
     cases hcs with
     | st parts h2 h4 =>
      obtain ⟨q, hq⟩ := get_of_len h2 hx
      have hrep := h4 f x q hx hq
      have hpre : (parts.take f).flatten.length = fl.offset := by
       rw [sizesTo_eq h2 fun j m p h1 h2 => (h4 j m p h1 h2).size, ho, ← he1]
      refine ⟨x, valM x q, h, ?_, .val q hrep⟩
      have hpr := part_run hT hde (pre := (parts.take f).flatten) (post := (parts.drop (f + 1)).flatten) hrep hb.1 w hpre
      rw [← flatten_split hq] at hpr
      simp only [Instr.field, Sem.run_bind, Result.andThen_ok, run_underlying hu, hfl', asAgg, Sem.run_pure]
      exact hpr
   ·exact h.elim
  ·exact h.elim
 ·exact h.elim
theorem bounds_out {n : Nat} {lo hi : Option MV} {l h : Nat} (hb : bounds n lo hi = some (l, h)) : l ≤ h ∧ h ≤ n ∧ (hi = none ∧ h = n ∨ ∃ k, hi = some (.int k h)) ∧ (lo = none ∧ l = 0 ∨ ∃ k, lo = some (.int k l)) := by
 have h1 : ∀ {hi : Option MV} {h : Nat}, (match hi with | none => some n | some (.int _ h) => if 0 ≤ h ∧ h ≤ (n : Int) then some h.toNat else none | _ => none) = some h → h ≤ n ∧ (hi = none ∧ h = n ∨ ∃ k, hi = some (.int k h)) := by
  intro hi h he
  split at he
  ·injection he with he; exact ⟨by omega, .inl ⟨rfl, he.symm⟩⟩
  ·rename_i k j
   split at he
   ·injection he with he
    refine ⟨by omega, .inr ⟨k, ?_⟩⟩
    rw [← he]; congr; omega
   ·cases he
  ·cases he
 have h2 : ∀ {lo : Option MV} {l h : Nat}, (match lo with | none => some 0 | some (.int _ l) => if 0 ≤ l ∧ l ≤ (h : Int) then some l.toNat else none | _ => none) = some l → l ≤ h ∧ (lo = none ∧ l = 0 ∨ ∃ k, lo = some (.int k l)) := by
  intro lo l h he
  split at he
  ·injection he with he; exact ⟨by omega, .inl ⟨rfl, he.symm⟩⟩
  ·rename_i k j
   split at he
   ·injection he with he
    refine ⟨by omega, .inr ⟨k, ?_⟩⟩
    rw [← he]; congr; omega
   ·cases he
  ·cases he
 unfold bounds at hb
 split at hb
 ·cases hb
 ·rename_i h' he
  split at hb
  ·cases hb
  ·rename_i l' le
   injection hb with hb
   injection hb with e1 e2
   subst e1; subst e2
   obtain ⟨a1, a2⟩ := h1 he
   obtain ⟨b1, b2⟩ := h2 le
   exact ⟨b1, a1, a2, b2⟩
def RepO (w : World) (P : Prot) (adr : Adr) : Option MV → Option Value → Prop
 | none, none => True
 | some m, some v => RepV w P adr m v
 | _, _ => False
theorem RepO.bnd {lo : Option MV} {vo : Option Value} {l d : Nat} (h : RepO w P adr lo vo) (hl : lo = none ∧ l = d ∨ ∃ k, lo = some (.int k l)) : vo = none ∧ l = d ∨ ∃ j, vo = some (.int j (l : Int)) := by
 rcases hl with ⟨rfl, e⟩ | ⟨k, rfl⟩
 ·cases vo with
  | none => exact .inl ⟨rfl, e⟩
  | some v => exact h.elim
 ·cases vo with
  | none => exact h.elim
  | some v => have h : RepV w P adr (.int k l) v := h; exact .inr ⟨k, by rw [h.int_]⟩
theorem flatten_take {es : Nat} {parts : List (List Value)} (hes : ∀ p ∈ parts, p.length = es) (a n : Nat) {j : Nat} {x : Value} (h : ((parts.drop a).take n).flatten[j]? = some x) : a ≤ parts.length → parts.flatten[a * es + j]? = some x := by
 intro ha
 have e1 : parts = parts.take a ++ ((parts.drop a).take n ++ (parts.drop a).drop n) := by rw [List.take_append_drop, List.take_append_drop]
 have hpre : (parts.take a).flatten.length = a * es := by
  rw [flatten_const (es := es) fun x hx => hes x (List.mem_of_mem_take hx), List.length_take, Nat.min_eq_left ha]
 rw [e1, List.flatten_append, List.flatten_append, List.getElem?_append_right (by omega), hpre, show a * es + j - a * es = j by omega, List.getElem?_append_left (List.getElem?_eq_some_iff.1 h).1]
 exact h
theorem cutL_get {l : List MV} {a b j : Nat} {x : MV} (h : (cutL l a b)[j]? = some x) : l[a + j]? = some x ∧ j < b - a := by
 unfold cutL at h
 rw [List.getElem?_take] at h
 split at h
 ·rw [List.getElem?_drop] at h; exact ⟨h, by assumption⟩
 ·cases h
theorem sl_cut {n : Nat} {l : List MV} (h : RepV w P adr (.sl n l) u) {a b es : Nat} (hab : a ≤ b) (hb : b ≤ n) (hh : headSize l es = true) :
  ∃ A cap, u = .slice A n cap ∧ n ≤ cap ∧ RepV w P adr (.sl (b - a) (cutL l a b)) (.slice (if cap = a then A else A.map (·.add (a * es))) (b - a) (cap - a)) := by
 obtain ⟨A, cap, es', parts, rfl, h1, h2, h3, h4, h7, h5, h6⟩ := h.sl_
 refine ⟨A, cap, rfl, h7, ?_⟩
 have hlen : (cutL l a b).length = b - a := by unfold cutL; rw [List.length_take, List.length_drop]; omega
 have hes : n ≠ 0 → es' = es := by
  intro h0
  cases l with
  | nil => simp at h1; omega
  | cons x l =>
   have hx := Nat.eq_of_beq_eq_true (show Nat.beq x.size es = true from hh)
   obtain ⟨q, hq⟩ := get_of_len (l := x :: l) (parts := parts) (by rw [h2, h1]) (i := 0) rfl
   have := (h6 0 x q rfl hq).size
   rw [← hx, ← this, h3 q (List.mem_of_getElem? hq)]
 refine .val [_] (.sl _ _ es' ((parts.drop a).take (b - a)) hlen (by rw [List.length_take, List.length_drop]; omega) (fun p hp => h3 p (List.mem_of_mem_drop (List.mem_of_mem_take hp))) ?_ (by omega) ?_ ?_)
 ·intro hA
  have : A = none := by
   split at hA
   ·exact hA
   ·cases A with
    | none => rfl
    | some x => cases hA
  have := h4 this
  omega
 ·intro h0
  obtain ⟨b', o, hA, hc⟩ := h5 (by omega)
  subst hA
  have hee := hes (by omega)
  subst hee
  by_cases hcap : cap = a
  ·omega
  ·rw [if_neg hcap]
   refine ⟨b', o + a * es', by simp [Addr.add_mid], fun j x hx => ?_⟩
   have := hc _ x (flatten_take h3 a (b - a) hx (by omega))
   rw [show o + a * es' + j = o + (a * es' + j) by omega]
   exact this
 ·intro j x p hx hp
  obtain ⟨hx, hj⟩ := cutL_get hx
  rw [List.getElem?_take, if_pos hj, List.getElem?_drop] at hp
  exact h6 _ x p hx hp
theorem oSlice_ok (hT : TabOK Pg T) {t : TypeId} {p : MV} {lo hi : Option MV} {vl vh : Option Value} (h : (oSlice T t p lo hi).runP K) (hp : RepV w P adr p u) (hl : RepO w P adr lo vl) (hh : RepO w P adr hi vh) :
  ∃ r y, K (r, .none) ∧ (Instr.sliceAt t u vl vh none).run Pg w = .ok y w ∧ RepV w P adr r y := by
 unfold oSlice at h
 split at h
 ·rename_i s hd
  have hu := TD.fits_str (hT.fits hd)
  obtain ⟨⟨l, e⟩, hb, x, hx, h⟩ := h
  injection hx with hx
  subst hx
  obtain ⟨h1, h2, h3, h4⟩ := bounds_out hb
  have hsz : (⟨s.toArray⟩ : ByteArray).size = s.length := by simp [ByteArray.size]
  rw [hp.str_]
  refine ⟨_, .string ⟨((s.drop l).take (e - l)).toArray⟩, h, ?_, .val [_] .str⟩
  rw [run_sliceAt_string _ _ _ _ _ _ hu]
  have hbd := run_sliceBounds (P := Pg) (b := false) (RepO.bnd hl h4) (RepO.bnd hh (d := (⟨s.toArray⟩ : ByteArray).size) (by rw [hsz]; exact h3)) h1 (show e ≤ (⟨s.toArray⟩ : ByteArray).size by omega) w
  simp only [Instr.slice, Sem.run_bind, run_underlying hu, Result.andThen_ok, Option.isSome_none, Bool.false_eq_true, if_false, hbd, Sem.run_pure]
  have hx : (⟨s.toArray⟩ : ByteArray).extract l e = ⟨((s.drop l).take (e - l)).toArray⟩ := by
   apply ByteArray.ext
   simp [ByteArray.data_extract, List.extract]
  rw [hx]
 ·rename_i e0 es n l hd
  obtain ⟨hu, hs⟩ := TD.fits_slice (hT.fits hd)
  obtain ⟨⟨a, b⟩, hb, hhd, x, hx, k, hk, h⟩ := h
  injection hx with hx
  injection hk with hk
  subst hx; subst hk
  obtain ⟨h1, h2, h3, h4⟩ := bounds_out hb
  obtain ⟨A, cap, rfl, h5, h6⟩ := sl_cut hp h1 h2 hhd
  refine ⟨_, _, h, ?_, h6⟩
  have hu' : Pg.underlying t = some (.slice (Pg.elem t)) := by rw [hu]; simp [Program.elem, hu]
  rw [run_sliceAt_slice _ _ _ _ _ _ hu']
  simp [Instr.slice, run_underlying hu, run_sliceBounds (RepO.bnd hl h4) (RepO.bnd hh h3) h1 (show b ≤ cap by omega), run_sizeOf_of hs]
 ·rename_i e0 es c es' off n hd
  obtain ⟨hu, hs⟩ := TD.fits_slice (hT.fits hd)
  cases hes : Nat.beq es es' with
  | false => rw [hes] at h; exact h.elim
  | true =>
   rw [hes] at h
   have hes := Nat.eq_of_beq_eq_true hes
   subst hes
   obtain ⟨⟨a, b⟩, hb, k, hk, h⟩ := h
   injection hk with hk
   subst hk
   obtain ⟨h1, h2, h3, h4⟩ := bounds_out hb
   have hu' : Pg.underlying t = some (.slice (Pg.elem t)) := by rw [hu]; simp [Program.elem, hu]
   rcases hp.ms_ with ⟨rfl, rfl, rfl⟩ | ⟨g, o, cap, hg, rfl, ho, h5, h6, cur, ty, fz, h7, h8⟩
   ·obtain rfl : b = 0 := by omega
    obtain rfl : a = 0 := by omega
    refine ⟨_, .slice none 0 0, h, ?_, .val [_] .ms0⟩
    rw [run_sliceAt_slice _ _ _ _ _ _ hu']
    simp [Instr.slice, run_underlying hu, run_sliceBounds (RepO.bnd hl h4) (RepO.bnd hh h3) h1 (show 0 ≤ 0 by omega), run_sizeOf_of hs]
   ·refine ⟨_, .slice (if cap = a then some ⟨g, o, none⟩ else some ⟨g, o + a * es, none⟩) (b - a) (cap - a), h, ?_, ?_⟩
    ·rw [run_sliceAt_slice _ _ _ _ _ _ hu']
     simp [Instr.slice, run_underlying hu, run_sliceBounds (RepO.bnd hl h4) (RepO.bnd hh h3) h1 (show b ≤ cap by omega), run_sizeOf_of hs, Addr.add_mid]
    ·by_cases hca : cap = a
     ·rw [if_pos hca]
      refine .val [_] (.ms g o (cap - a) hg (fun hor => ?_) (by omega) (by omega) ⟨cur, ty, fz, h7, fun h0 => ?_⟩)
      ·have : off = 0 ∧ a = 0 := by omega
       rw [ho (.inr this.1), this.2]; rfl
      ·have : off = 0 ∧ a = 0 := by omega
       rw [h8 this.1, this.2]; rfl
     ·rw [if_neg hca]
      refine .val [_] (.ms g (o + a * es) (cap - a) hg (fun hor => ?_) (by omega) (by omega) ⟨cur, ty, fz, h7, fun h0 => ?_⟩)
      ·rw [ho (by omega), Nat.add_mul]
      ·have : off = 0 ∧ a = 0 := by omega
       rw [h8 this.1, this.2]; rfl
 ·rename_i e0 es hd
  obtain ⟨hu, hs⟩ := TD.fits_slice (hT.fits hd)
  obtain ⟨⟨a, b⟩, hb, h⟩ := h
  obtain ⟨h1, h2, h3, h4⟩ := bounds_out hb
  obtain rfl : b = 0 := by omega
  obtain rfl : a = 0 := by omega
  rw [hp.nils_]
  have hu' : Pg.underlying t = some (.slice (Pg.elem t)) := by rw [hu]; simp [Program.elem, hu]
  refine ⟨_, .slice none 0 0, h, ?_, .val [_] .nils⟩
  rw [run_sliceAt_slice _ _ _ _ _ _ hu']
  simp [Instr.slice, run_underlying hu, run_sliceBounds (RepO.bnd hl h4) (RepO.bnd hh h3) h1 (show 0 ≤ 0 by omega), run_sizeOf_of hs]
 ·exact h.elim
theorem oUn_ok {op : UnOp} {p : MV} (h : (oUn op p).runP K) (hp : RepV w P adr p u) : ∃ r y, K (r, .none) ∧ (Op.unary op u).run Pg w = .ok y w ∧ RepV w P adr r y := by
 unfold oUn at h
 split at h
 ·rw [hp.bool_]; exact ⟨_, _, h, rfl, .val [_] .bool⟩
 ·obtain ⟨r, hr, h⟩ := h
  injection hr with hr
  subst hr
  rw [hp.int_]; exact ⟨_, _, h, rfl, .val [_] .int⟩
 ·obtain ⟨r, hr, h⟩ := h
  injection hr with hr
  subst hr
  rw [hp.int_]; exact ⟨_, _, h, rfl, .val [_] .int⟩
 ·exact h.elim
theorem oLen_ok (hT : TabOK Pg T) {ats : Array TypeId} {ty : TypeId} {p : MV} (h : (oLen T (ats[0]?) p).runP K) (hp : RepV w P adr p u) : ∃ r y, K (r, .none) ∧ (Builtin.len_ ats ty #[u]).run Pg w = .ok y w ∧ RepV w P adr r y := by
 unfold oLen at h
 cases ht : ats[0]? with
 | none => rw [ht] at h; exact h.elim
 | some t =>
  rw [ht] at h
  split at h
  ·rename_i s hd
   have hu := TD.fits_str (hT.fits (t := t) hd)
   obtain ⟨n, hn, h⟩ := h
   injection hn with hn
   subst hn
   rw [hp.str_]
   refine ⟨_, .int .i64 s.length, h, ?_, .val [_] .int⟩
   have hsz : (⟨s.toArray⟩ : ByteArray).size = s.length := by simp [ByteArray.size]
   simp [Builtin.len_, ht, run_underlying hu, goInt, hsz]
  ·rename_i e es n l hd
   obtain ⟨hu, hs⟩ := TD.fits_slice (hT.fits (t := t) hd)
   obtain ⟨A, cap, es', parts, rfl, _⟩ := hp.sl_
   refine ⟨_, .int .i64 n, h, ?_, .val [_] .int⟩
   simp [Builtin.len_, ht, run_underlying hu, goInt]
  ·rename_i e es hd
   obtain ⟨hu, hs⟩ := TD.fits_slice (hT.fits (t := t) hd)
   rw [hp.nils_]
   refine ⟨_, .int .i64 0, h, ?_, .val [_] .int⟩
   simp [Builtin.len_, ht, run_underlying hu, goInt]
  ·rename_i e es c es' off n hd
   obtain ⟨hu, hs⟩ := TD.fits_slice (hT.fits (t := t) hd)
   rcases hp.ms_ with ⟨rfl, rfl, rfl⟩ | ⟨g, o, cap, hg, rfl, _⟩
   ·refine ⟨_, .int .i64 0, h, ?_, .val [_] .int⟩
    simp [Builtin.len_, ht, run_underlying hu, goInt]
   ·refine ⟨_, .int .i64 n, h, ?_, .val [_] .int⟩
    simp [Builtin.len_, ht, run_underlying hu, goInt]
  ·rename_i n e es hd
   obtain ⟨hu, hs⟩ := TD.fits_arr (hT.fits (t := t) hd)
   refine ⟨_, .int .i64 n, h, ?_, .val [_] .int⟩
   simp [Builtin.len_, ht, run_underlying hu, goInt]
  ·exact h.elim
end
end
section
section
variable {Pg : Program} {T : Tab} {w w' : World} {P P' : Prot} {adr adr' : Adr} {m : FM} {cnt : Nat} {K : MV × Dl → Prop} {u v x y : Value} {r : MV}
theorem repM_eq (n : Nat) (z : MV) : repM n z = List.replicate n z := by
 induction n with
 | zero => rfl
 | succ n ih => simp [repM, ih, List.replicate_succ]
theorem zero_fold {f : Nat} (ih : ∀ t z, zeroM T f t = some z → ∃ cs : List SV, (∀ acc, zeroAcc T f t acc = some (cs ++ acc)) ∧ (∀ w P, Rep w P noAdr z (cs.map SV.den)) ∧ z.isVal = true) :
  ∀ (fs : List (Nat × TypeId)) (l : List MV), fs.foldr (fun x r => match r, zeroM T f x.2 with | some r, some z => some (z :: r) | _, _ => none) (some []) = some l →
   ∃ css : List (List SV), css.length = l.length ∧ (∀ acc, fs.foldr (fun x r => match r with | some a => zeroAcc T f x.2 a | none => none) (some acc) = some (css.flatten ++ acc)) ∧
    ∀ w P (j : Nat) m cs, l[j]? = some m → css[j]? = some cs → Rep w P noAdr m (cs.map SV.den)
 | [], l, h => by simp at h; subst h; exact ⟨[], rfl, fun acc => rfl, fun w P j m cs h => by simp at h⟩
 | x :: fs, l, h => by
  simp only [List.foldr_cons] at h
  split at h
  ·rename_i r z hr hz
   injection h with h
   subst h
   obtain ⟨css, h1, h2, h3⟩ := zero_fold ih fs r hr
   obtain ⟨cs, h4, h5, _⟩ := ih x.2 z hz
   refine ⟨cs :: css, by simp [h1], fun acc => ?_, fun w P j m c hj hc => ?_⟩
   ·simp only [List.foldr_cons, h2, h4, List.flatten_cons, List.append_assoc]
   ·cases j with
    | zero => simp at hj hc; subst hj; subst hc; exact h5 w P
    | succ j => exact h3 w P j m c (by simpa using hj) (by simpa using hc)
  ·cases h
theorem map_flatten' (css : List (List SV)) : css.flatten.map SV.den = (css.map (List.map SV.den)).flatten := by
 induction css with
 | nil => rfl
 | cons a l ih => simp [ih]
theorem zeroM_acc : ∀ (f t : Nat) (z : MV), zeroM T f t = some z → ∃ cs : List SV, (∀ acc, zeroAcc T f t acc = some (cs ++ acc)) ∧ (∀ w P, Rep w P noAdr z (cs.map SV.den)) ∧ z.isVal = true
 | 0, t, z, h => by simp [zeroM] at h
 | f + 1, t, z, h => by
  simp only [zeroM] at h
  have one : ∀ (c : SV) (z' : MV), z' = z → z'.isVal = true → (∀ acc, zeroAcc T (f + 1) t acc = some (c :: acc)) → (∀ w P, Rep w P noAdr z' [c.den]) → ∃ cs : List SV, (∀ acc, zeroAcc T (f + 1) t acc = some (cs ++ acc)) ∧ (∀ w P, Rep w P noAdr z (cs.map SV.den)) ∧ z.isVal = true := by
   intro c z' e h0 h1 h2
   subst e
   exact ⟨[c], h1, h2, h0⟩
  split at h
  ·rename_i k hd; injection h with h; exact one (.val (.int k 0)) _ h rfl (fun acc => by simp [zeroAcc, hd]) (fun w P => .int)
  ·rename_i hd; injection h with h; exact one (.val (.bool false)) _ h rfl (fun acc => by simp [zeroAcc, hd]) (fun w P => .bool)
  ·rename_i hd; injection h with h; exact one (.val (.string ⟨#[]⟩)) _ h rfl (fun acc => by simp [zeroAcc, hd]) (fun w P => .str)
  ·rename_i hd; injection h with h; exact one (.val (.pointer none)) _ h rfl (fun acc => by simp [zeroAcc, hd]) (fun w P => .nilp)
  ·rename_i hd; injection h with h; exact one (.val .nilIface) _ h rfl (fun acc => by simp [zeroAcc, hd]) (fun w P => .nili)
  ·rename_i hd; injection h with h; exact one (.val .nilFunc) _ h rfl (fun acc => by simp [zeroAcc, hd]) (fun w P => .nilf)
  ·rename_i e es hd; injection h with h; exact one (.val (.slice none 0 0)) _ h rfl (fun acc => by simp [zeroAcc, hd]) (fun w P => .nils)
  ·rename_i n e es hd
   split at h
   ·rename_i z0 hz0
    cases hb : (z0.idFree && Nat.beq z0.size es) with
    | false => rw [hb] at h; cases h
    | true =>
     rw [hb] at h
     injection h with h
     subst h
     rw [Bool.and_eq_true] at hb
     have hsz := Nat.eq_of_beq_eq_true hb.2
     obtain ⟨cs, h1, h2, _⟩ := zeroM_acc f e z0 hz0
     refine ⟨(List.replicate n cs).flatten, fun acc => ?_, fun w P => ?_, rfl⟩
     ·have key : ∀ k, (Nat.rec (some acc) (fun _ r => match r with | some a => zeroAcc T f e a | none => none) k : Option (List SV)) = some ((List.replicate k cs).flatten ++ acc) := by
       intro k
       induction k with
       | zero => rfl
       | succ k ih =>
        show (match (Nat.rec (some acc) (fun _ r => match r with | some a => zeroAcc T f e a | none => none) k : Option (List SV)) with | some a => zeroAcc T f e a | none => none) = _
        rw [ih]
        show zeroAcc T f e _ = _
        rw [h1, List.replicate_succ, List.flatten_cons, List.append_assoc]
      simp only [zeroAcc, hd]
      exact key n
     ·rw [map_flatten', List.map_replicate, repM_eq]
      refine .arr _ (by simp) (by simp) (fun p hp => ?_) fun j x p hx hp => ?_
      ·rw [(List.mem_replicate.1 hp).2, (h2 w P).size, hsz]
      ·rw [(List.mem_replicate.1 (List.mem_of_getElem? hx)).2, (List.mem_replicate.1 (List.mem_of_getElem? hp)).2]
       exact h2 w P
   ·cases h
  ·rename_i fs sz hd
   split at h
   ·rename_i l hl
    injection h with h
    subst h
    obtain ⟨css, h1, h2, h3⟩ := zero_fold (fun t z h => zeroM_acc f t z h) fs l hl
    refine ⟨css.flatten, fun acc => by simp only [zeroAcc, hd]; exact h2 acc, fun w P => ?_, rfl⟩
    rw [map_flatten']
    refine .st _ (by simp [h1]) fun j x p hx hp => ?_
    rw [List.getElem?_map, Option.map_eq_some_iff] at hp
    obtain ⟨c, hc, rfl⟩ := hp
    exact h3 w P j x c hx hc
   ·cases h
  ·cases h
end
end
section
section
variable {Pg : Program} {T : Tab} {w w' : World} {P P' : Prot} {adr adr' : Adr} {m : FM} {cnt : Nat} {K : MV × Dl → Prop} {u v x y : Value} {r : MV}
def PartsR (w : World) (P : Prot) (adr : Adr) : List (Nat × MV) → List (Nat × Value) → Prop
 | [], [] => True
 | (i, a) :: l, (j, b) :: s => i = j ∧ RepV w P adr a b ∧ PartsR w P adr l s
 | _, _ => False
theorem RepV.ofVal (h : RepV w P adr r u) (hv : r.isVal = true) : ∃ cs, Rep w P adr r cs ∧ u = valM r cs := by
 cases h with
 | val cs h => exact ⟨cs, h, rfl⟩
 | undef => cases hv
 | tup => cases hv
theorem cellsL_valM {cs : List Value} (h : Rep w P adr r cs) : cellsL (valM r cs) = cs := by rw [← cellsL_eq, valM_cells h]
theorem setN_ok {α : Type} : ∀ {l : List α} {n : Nat} (v : α), n < l.length → setN l n v = some (l.set n v)
 | [], _, _, h => by simp at h
 | _ :: _, 0, _, _ => rfl
 | x :: l, n + 1, v, h => by
  simp only [setN, setN_ok v (show n < l.length by simpa using h)]
  rfl
theorem setParts_rep {md : Bool} : ∀ (ps : List (Nat × MV)) (pv : List (Nat × Value)) (l : List MV) (segs : List (List Value)) (l' : List MV), PartsR w P adr ps pv → setParts l ps = some l' → (∀ p ∈ ps, p.2.isVal = true ∧ (md = true → p.2.idFree = true)) → segs.length = l.length →
  (∀ (j : Nat) m p, l[j]? = some m → segs[j]? = some p → Rep w P (if md then noAdr else adr) m p) →
  ∃ segs', putSegs segs pv = some segs' ∧ segs'.length = l'.length ∧ l'.length = l.length ∧ (∀ (j : Nat) m p, l'[j]? = some m → segs'[j]? = some p → Rep w P (if md then noAdr else adr) m p) ∧ segs'.map List.length = segs.map List.length ∧ partsFit (segs.map List.length) pv
 | [], [], l, segs, l', _, h, _, hl, hr => by
  simp [setParts] at h; subst h
  exact ⟨segs, rfl, hl, rfl, hr, rfl, trivial⟩
 | (i, a) :: ps, (j, b) :: pv, l, segs, l', hp, h, hv, hl, hr => by
  obtain ⟨rfl, hab, hp⟩ := hp
  simp only [setParts] at h
  split at h
  ·rename_i m hm
   rw [nthM_eq] at hm
   cases hb : (Nat.beq a.size m.size && bEq a.isAgg m.isAgg) with
   | false => rw [hb] at h; cases h
   | true =>
    rw [hb] at h
    rw [Bool.and_eq_true] at hb
    have hsz := Nat.eq_of_beq_eq_true hb.1
    obtain ⟨cs, hcs, rfl⟩ := hab.ofVal (hv (i, a) (by simp)).1
    obtain ⟨q, hq⟩ := get_of_len hl hm
    have hql := (hr i m q hm hq).size
    have hlt := (List.getElem?_eq_some_iff.1 hq).1
    have hcs' : Rep w P (if md then noAdr else adr) a cs := by
     cases md with
     | false => exact hcs
     | true => exact hcs.free ((hv (i, a) (by simp)).2 rfl)
    have hlen : (segs.set i cs).map List.length = segs.map List.length := by
     apply List.ext_getElem?
     intro k
     simp only [List.getElem?_map, List.getElem?_set]
     split
     ·rename_i e
      subst e
      rw [hq]
      simp [hcs.size, hsz, hql]
     ·rfl
    obtain ⟨segs', h1, h2, h3, h4, h5, h6⟩ := setParts_rep (md := md) ps pv (setL l i a) (segs.set i cs) l' hp h (fun p hp => hv p (by simp [hp])) (by rw [setL_eq]; simpa using hl) (fun k y z hy hz => by
     rw [setL_eq] at hy
     rcases getElem?_set' hy with ⟨rfl, rfl⟩ | ⟨hne, hy⟩
     ·rcases getElem?_set' hz with ⟨_, rfl⟩ | ⟨hne, _⟩
      ·exact hcs'
      ·exact absurd rfl hne
     ·rcases getElem?_set' hz with ⟨rfl, _⟩ | ⟨_, hz⟩
      ·exact absurd rfl hne
      ·exact hr k y z hy hz)
    refine ⟨segs', ?_, h2, by rw [h3, setL_eq]; simp, h4, by rw [h5, hlen], ?_⟩
    ·simp only [putSegs, cellsL_valM hcs, setN_ok cs hlt]
     exact h1
    ·refine ⟨?_, by rw [hlen] at h6; exact h6⟩
     rw [nth_eq, cellsL_valM hcs, List.getElem?_map, hq]
     simp [hcs.size, hsz, hql]
  ·cases h
 | [], _ :: _, _, _, _, hp, _, _, _, _ => hp.elim
 | _ :: _, [], _, _, _, hp, _, _, _, _ => hp.elim
theorem flatten_inj {α : Type} : ∀ {a b : List (List α)}, a.map List.length = b.map List.length → a.flatten = b.flatten → a = b
 | [], [], _, _ => rfl
 | x :: a, y :: b, h, hf => by
  simp only [List.map_cons, List.cons.injEq] at h
  simp only [List.flatten_cons] at hf
  obtain ⟨h1, h2⟩ := List.append_inj hf h.1
  rw [h1, flatten_inj h.2 h2]
 | [], _ :: _, h, _ => by simp at h
 | _ :: _, [], h, _ => by simp at h
theorem sizesB_eq : ∀ {l : List MV} {ns : List Nat}, sizesB l ns = true → l.map MV.size = ns
 | [], [], _ => rfl
 | m :: l, n :: ns, h => by
  have h : (Nat.beq m.size n && sizesB l ns) = true := h
  rw [Bool.and_eq_true] at h
  rw [List.map_cons, Nat.eq_of_beq_eq_true h.1, sizesB_eq h.2]
 | [], _ :: _, h => by cases h
 | _ :: _, [], h => by cases h
theorem lens_of {l : List MV} {parts : List (List Value)} {a : Adr} (hp : parts.length = l.length) (hr : ∀ (j : Nat) m p, l[j]? = some m → parts[j]? = some p → Rep w P a m p) : parts.map List.length = l.map MV.size := by
 apply List.ext_getElem?
 intro j
 simp only [List.getElem?_map]
 cases hj : l[j]? with
 | none => rw [List.getElem?_eq_none (by rw [hp]; exact List.getElem?_eq_none_iff.1 hj)]; rfl
 | some m =>
  obtain ⟨q, hq⟩ := get_of_len hp hj
  rw [hq]
  simp [(hr j m q hj hq).size]
theorem sum_flatten {α : Type} (l : List (List α)) : l.flatten.length = (l.map List.length).sum := by
 induction l with
 | nil => rfl
 | cons a l ih => simp
theorem build_core (hT : TabOK Pg T) {t : TypeId} {ps : List (Nat × MV)} {pv : List (Nat × Value)} (hp : PartsR w P adr ps pv) : ∀ (l l' : List MV) (ns : List Nat) (z : List SV) (parts : List (List Value)) (md : Bool), zeroAcc T 9 t [] = some z → cutsOf T t = some ns → sizesB l ns = true → z.map SV.den = parts.flatten → parts.length = l.length →
      (∀ (j : Nat) m p, l[j]? = some m → parts[j]? = some p → Rep w P (if md then noAdr else adr) m p) → (∀ p ∈ ps, p.2.isVal = true ∧ (md = true → p.2.idFree = true)) → setParts l ps = some l' →
      ∃ segs' : List (List Value), (Instr.build t pv.toArray).run Pg w = .ok (.agg ⟨segs'.flatten⟩) w ∧ segs'.length = l'.length ∧ l'.length = l.length ∧ (∀ (j : Nat) m p, l'[j]? = some m → segs'[j]? = some p → Rep w P (if md then noAdr else adr) m p) ∧ segs'.map List.length = ns := by
  intro l l' ns z parts md hz hns hsz hzp hpl hr hv hset
  have hlens := (lens_of hpl hr).trans (sizesB_eq hsz)
  obtain ⟨segs', h1, h2, h3, h4, h5, h6⟩ := setParts_rep ps pv l parts l' hp hset hv hpl hr
  have hcut : cutBy ns (z.map SV.den) = parts := by
    obtain ⟨c1, c2⟩ := cutBy_flat ns (z.map SV.den) (by rw [hzp, sum_flatten, hlens])
    exact flatten_inj (by rw [c2, hlens]) (by rw [c1, hzp])
  have hb : buildV (M := []) (H := []) T t pv (fun sv _ _ => sv = .val (.agg (flat segs').toArray)) := by
    unfold buildV
    rw [hz, hns]
    have hl : Nat.beq z.length ns.sum = true := by
      have : z.length = ns.sum := by rw [← List.length_map (f := SV.den), hzp, sum_flatten, hlens]
      rw [this]; exact Nat.beq_refl _
    show (match Nat.beq z.length ns.sum, putSegs (cutBy ns (z.map SV.den)) pv with | true, some segs => _ | _, _ => False)
    rw [hl, hcut, h1]
    exact ⟨by rw [← hlens]; exact h6, rfl⟩
  obtain ⟨sv, hrun, rfl⟩ := buildV_all (P := Pg) hT hb
  refine ⟨segs', ?_, h2, h3, h4, h5.trans hlens⟩
  have := hrun w ⟨fun i kb h => by simp [Mem.find] at h, fun i j ki kj h => by simp [Mem.find] at h, fun p hp => by simp at hp, fun p hp => by simp at hp⟩
  rw [this, den_val, flat_eq]
theorem oBuild_ok (hT : TabOK Pg T) {t : TypeId} {ps : List (Nat × MV)} {pv : List (Nat × Value)} (h : (oBuild T t ps).runP K) (hp : PartsR w P adr ps pv) :
  ∃ r y, K (r, .none) ∧ (Instr.build t pv.toArray).run Pg w = .ok y w ∧ RepV w P adr r y := by
 have core := build_core (w := w) (P := P) (adr := adr) hT (t := t) hp
 unfold oBuild at h
 split at h
 ·rename_i l ns hz hns
  obtain ⟨cs, h1, h2, _⟩ := zeroM_acc 9 t _ hz
  have hz' := h1 []
  rw [List.append_nil] at hz'
  have hrep := h2 w P
  cases hb : (sizesB l ns && ps.all (fun p => p.2.isVal)) with
  | false => rw [hb] at h; exact h.elim
  | true =>
   rw [hb] at h
   rw [Bool.and_eq_true, List.all_eq_true] at hb
   simp only [cond_true] at h
   split at h
   ·rename_i l' hl'
    generalize hcs : cs.map SV.den = vs at hrep
    cases hrep with
    | st parts hp hr =>
     obtain ⟨segs', a1, a2, a3, a4, a5⟩ := core l l' ns cs parts false hz' hns hb.1 hcs hp (fun j m p h1 h2 => (hr j m p h1 h2).ofNone) (fun p hp => ⟨hb.2 p hp, fun h => nomatch h⟩) hl'
     exact ⟨_, _, h, a1, .val (m := .st l') _ (.st segs' a2 a4)⟩
   ·exact h.elim
 ·rename_i n es l ns hz hns
  obtain ⟨cs, h1, h2, _⟩ := zeroM_acc 9 t _ hz
  have hz' := h1 []
  rw [List.append_nil] at hz'
  have hrep := h2 w P
  cases hb : (sizesB l ns && ps.all (fun p => p.2.isVal && p.2.idFree)) with
  | false => rw [hb] at h; exact h.elim
  | true =>
   rw [hb] at h
   rw [Bool.and_eq_true, List.all_eq_true] at hb
   simp only [cond_true] at h
   split at h
   ·rename_i l' hl'
    generalize hcs : cs.map SV.den = vs at hrep
    cases hrep with
    | arr parts hln hp hes hr =>
     obtain ⟨segs', a1, a2, a3, a4, a5⟩ := core l l' ns cs parts true hz' hns hb.1 hcs (hp.trans hln.symm) hr (fun p hp => by have := hb.2 p hp; rw [Bool.and_eq_true] at this; exact ⟨this.1, fun _ => this.2⟩) hl'
     refine ⟨_, _, h, a1, .val (m := .arr n es l') _ (.arr segs' (a3.trans hln) (by rw [a2, a3, hln]) (fun q hq => ?_) a4)⟩
     have h7 : segs'.map List.length = parts.map List.length := a5.trans ((lens_of (hp.trans hln.symm) hr).trans (sizesB_eq hb.1)).symm
     obtain ⟨k, hk, rfl⟩ := List.mem_iff_getElem.1 hq
     have h8 : (segs'.map List.length)[k]? = some (segs'[k].length) := by rw [List.getElem?_map, List.getElem?_eq_getElem hk]; rfl
     rw [h7, List.getElem?_map] at h8
     have hk2 : k < parts.length := by
      rw [show parts.length = (parts.map List.length).length by simp, ← h7]; simpa using hk
     rw [List.getElem?_eq_getElem hk2] at h8
     simp at h8
     rw [← h8, hes _ (List.getElem_mem hk2)]
   ·exact h.elim
 ·exact h.elim
end
end
section
section
variable {Pg : Program} {T : Tab} {w w' : World} {P P' : Prot} {adr adr' : Adr} {m : FM} {cnt : Nat} {K : MV × Dl → Prop} {u v x y : Value} {r : MV}
theorem Since.weak {ex ex' : Fp} {h w : World} (k : Since ex h w) (hx : ∀ b, ex b → ex' b) : Since ex' h w := ⟨k.os, k.tape, k.output, k.size, fun b hb he => k.block b hb fun e => he (hx b e)⟩
theorem Post1.new (hI : InvM w P adr m) (hn : adr cnt = none) (hm : m cnt = none) (hb : Below w.heap.size w w') {b : MB} {cur : Array Value} {parts : List (List Value)} (hg : w'.heap[w.heap.size]? = some (.cells cur b.ty (0, 0))) (hpl : parts.length = b.l.length) (hpe : ∀ p ∈ parts, p.length = b.es)
  (hr : ∀ (j : Nat) x p, b.l[j]? = some x → parts[j]? = some p → Rep w P (if b.row then noAdr else adr) x p) (hcur : parts.flatten <+: cur.toList) (hle : b.pe ≤ b.l.length) (hu : RepV w' P (fput adr cnt w.heap.size) r u) : Post1 w P adr m cnt r (.new b) u w' := by
 obtain ⟨h1, h2⟩ := hI.new hn hm hb hg hpl hpe hr hcur hle
 refine ⟨P, _, hu, h1, h2, fun c hc => fput_ne _ _ hc, fun g hg => ?_, (Since.of_below hb).weak fun _ e => e.elim, fun _ _ h => .inl h⟩
 rw [fput_same] at hg
 injection hg with hg
 exact .inl (Nat.le_of_eq hg)
theorem alloc_ok (hT : TabOK Pg T) (hI : InvM w P adr m) (hn : adr cnt = none) (hm : m cnt = none) {t : TypeId} {d : TD} {z : MV} (hz : zeroM T 9 t = some z) (hf : fits d z = true) :
  ∃ y w', (Instr.alloc t true (.tuple #[])).run Pg w = .ok y w' ∧ Post1 w P adr m cnt (.ptr cnt d.size 0 0 []) (.new ⟨t, d.size, false, 0, [z]⟩) y w' := by
 obtain ⟨cs, h1, h2, _⟩ := zeroM_acc 9 t _ hz
 have hz' := h1 []
 rw [List.append_nil] at hz'
 obtain ⟨v, hv, hc⟩ := hT.zero hz' w
 have hcells : v.cells = (cs.map SV.den).toArray := by rw [← hc]
 have hrep := h2 w P
 refine ⟨.pointer (some ⟨w.heap.size, 0, none⟩), w.alloc (.cells (cs.map SV.den).toArray t), by simp [Instr.alloc, hv, newVar, newRow, hcells], ?_⟩
 refine Post1.new hI hn hm (Below.alloc1 w _) (cur := (cs.map SV.den).toArray) (parts := [cs.map SV.den]) (heap_alloc_new w _) rfl (fun p hp => ?_) (fun j x p hx hp => ?_) ⟨[], by simp⟩ (Nat.zero_le _) (.val [_] ?_)
 ·simp at hp; subst hp; rw [hrep.size, (fits_out hf).1]
 ·cases j with
  | zero => simp at hx hp; subst hx; subst hp; exact hrep.ofNone
  | succ j => simp at hx
 ·have := Rep.ptr (w := w.alloc (.cells (cs.map SV.den).toArray t)) (P := P) (adr := fput adr cnt w.heap.size) (c := cnt) (es := d.size) (k := 0) (fo := 0) (path := []) _ (fput_same _ _ _)
  simpa using this
theorem box_ok (hI : InvM w P adr m) (hn : adr cnt = none) (hm : m cnt = none) {t : TypeId} {d : TD} {z : MV} (hf : fits d z = true) (hz : RepV w P adr z v) :
  ∃ y w', (Instr.box t v).run Pg w = .ok y w' ∧ Post1 w P adr m cnt (.ptr cnt d.size 0 0 []) (.new ⟨t, d.size, false, 0, [z]⟩) y w' := by
 obtain ⟨cs, hrep, rfl, hl⟩ := rep_of_fits hz hf
 have hcells : (valM z cs).cells = cs.toArray := Array.toList_inj.1 (valM_cells hrep)
 refine ⟨.pointer (some ⟨w.heap.size, 0, none⟩), w.alloc (.cells cs.toArray t), by simp [Instr.box, newVar, newRow, hcells], ?_⟩
 refine Post1.new hI hn hm (Below.alloc1 w _) (cur := cs.toArray) (parts := [cs]) (heap_alloc_new w _) rfl (fun p hp => ?_) (fun j x p hx hp => ?_) ⟨[], by simp⟩ (Nat.zero_le _) (.val [_] ?_)
 ·simp at hp; subst hp; exact hl
 ·cases j with
  | zero => simp at hx hp; subst hx; subst hp; exact hrep
  | succ j => simp at hx
 ·have := Rep.ptr (w := w.alloc (.cells cs.toArray t)) (P := P) (adr := fput adr cnt w.heap.size) (c := cnt) (es := d.size) (k := 0) (fo := 0) (path := []) _ (fput_same _ _ _)
  simpa using this
theorem rep_ms_new (w : World) (c : Array Value) (t : TypeId) (P : Prot) {n es : Nat} (hsz : c.size = n * es) (hn : n ≤ maxLen) : RepV (w.alloc (.cells c t)) P (fput adr cnt w.heap.size) (.ms cnt es 0 n) (.slice (some ⟨w.heap.size, 0, none⟩) n n) :=
 .val [_] (.ms w.heap.size 0 n (fput_same _ _ _) (fun _ => by simp) (Nat.le_refl _) hn ⟨c, t, _, heap_alloc_new w _, fun _ => hsz⟩)
theorem oBuildSlice_ok (hT : TabOK Pg T) (hI : InvM w P adr m) (hn : adr cnt = none) (hm : m cnt = none) {t : TypeId} {n : Nat} {ps : List (Nat × MV)} {pv : List (Nat × Value)} (h : (oBuildSlice T cnt t n ps).runP K) (hp : PartsR w P adr ps pv) :
  ∃ r δ y w', K (r, δ) ∧ (Instr.buildSlice t n pv.toArray).run Pg w = .ok y w' ∧ Post1 w P adr m cnt r δ y w' := by
 unfold oBuildSlice at h
 split at h
 ·rename_i e es hd
  obtain ⟨hu, hs⟩ := TD.fits_slice (hT.fits hd)
  split at h
  ·split at h
   ·have hpv : pv = [] := by
     cases pv with
     | nil => rfl
     | cons a l => exact hp.elim
    subst hpv
    refine ⟨_, _, .slice (some ⟨w.heap.size, 0, none⟩) 0 0, w.alloc (.cells #[] e), h, ?_, ?_⟩
    ·simp only [Instr.buildSlice, Sem.run_bind, run_underlying hu, Result.andThen_ok, run_sizeOf_of hs, newRow]
     simp [Instr.fill]
     rw [show Array.map (fun _ : Nat => (default : Value)) (Array.range 0) = #[] from Array.eq_empty_of_size_eq_zero (by simp)]
    ·exact Post1.new hI hn hm (Below.alloc1 w _) (cur := #[]) (parts := []) (heap_alloc_new w _) rfl (fun p hp => by simp at hp) (fun j x p hx hp => by simp at hp) ⟨[], rfl⟩ (Nat.zero_le _) (rep_ms_new w _ _ _ (by simp) (by decide))
   ·exact h.elim
  ·rename_i n
   split at h
   ·rename_i z hz
    cases hb : (Nat.beq z.size es && Nat.blt 0 es && Nat.ble ((n + 1) * es) 16777216 && z.idFree && ps.all (fun p => p.2.isVal)) with
    | false => rw [hb] at h; exact h.elim
    | true =>
     rw [hb] at h
     simp only [Bool.and_eq_true, List.all_eq_true] at hb
     obtain ⟨⟨⟨⟨hsz, hes⟩, hle⟩, hzf⟩, hv⟩ := hb
     have hsz := Nat.eq_of_beq_eq_true hsz
     have hes : 0 < es := by simpa [Nat.blt_eq] using hes
     have hle := Nat.le_of_ble_eq_true hle
     simp only [cond_true] at h
     split at h
     ·rename_i l' hl'
      obtain ⟨cs, h1, h2, _⟩ := zeroM_acc 9 e _ hz
      have hz' := h1 []
      rw [List.append_nil] at hz'
      obtain ⟨zv, hzv, hzc⟩ := hT.zero hz' w
      have hzcells : zv.cells = (cs.map SV.den).toArray := by rw [← hzc]
      have hrep := h2 w P
      have hcl : cs.length = es := by rw [← List.length_map (f := SV.den), hrep.size, hsz]
      have hl0 : (repM (n + 1) z).length = n + 1 := by rw [repM_eq]; simp
      obtain ⟨segs', a1, a2, a3, a4, a5, a6⟩ := setParts_rep (md := ps.all (fun p => p.2.idFree)) ps pv (repM (n + 1) z) (List.replicate (n + 1) (cs.map SV.den)) l' hp hl' (fun p hp => ⟨hv p hp, fun h => List.all_eq_true.1 h p hp⟩) (by rw [hl0]; simp) (fun j x p hx hp => by
       rw [repM_eq] at hx
       rw [(List.mem_replicate.1 (List.mem_of_getElem? hx)).2, (List.mem_replicate.1 (List.mem_of_getElem? hp)).2]
       split
       ·exact hrep
       ·exact hrep.ofNone)
      have hlens : (List.replicate (n + 1) (cs.map SV.den)).map List.length = List.replicate (n + 1) es := by rw [List.map_replicate, List.length_map, hcl]
      have hpl : ∀ i k, (List.replicate (n + 1) es)[i]? = some k → (fun i => some (i * es, es) : Nat → Option (Nat × Nat)) i = some (((List.replicate (n + 1) es).take i).sum, k) := by
       intro i k hk
       rw [List.getElem?_replicate] at hk
       split at hk
       ·injection hk with hk
        subst hk
        rw [List.take_replicate, List.sum_replicate_nat, Nat.min_eq_left (by omega)]
       ·cases hk
      have hfill := fill_segs hpl pv _ segs' hlens a1 (by rw [hlens] at a6; exact a6)
      have hall : ∀ p ∈ segs', p.length = es := by
       intro p hp
       have : p.length ∈ segs'.map List.length := List.mem_map.2 ⟨p, hp, rfl⟩
       rw [a5, hlens] at this
       exact (List.mem_replicate.1 this).2
      have hsegl : segs'.length = n + 1 := by rw [a2, a3, hl0]
      have hcs0 := repS_cells (n := n + 1) (z := cs) (zc := zv.cells) hzcells hcl hes
      have hrepS : (repS (n + 1) cs).map SV.den = (List.replicate (n + 1) (cs.map SV.den)).flatten := by
       have : ∀ k, (repS k cs).map SV.den = (List.replicate k (cs.map SV.den)).flatten := by
        intro k
        induction k with
        | zero => rfl
        | succ k ih => rw [repS, List.map_append, ih, List.replicate_succ, List.flatten_cons]
       exact this _
      refine ⟨_, _, .slice (some ⟨w.heap.size, 0, none⟩) (n + 1) (n + 1), w.alloc (.cells segs'.flatten.toArray e), h, ?_, ?_⟩
      ·have hne : ¬ ((n + 1) * es = 0) := by have := Nat.mul_pos (show 0 < n + 1 by omega) hes; omega
       have hng : ¬ ((n + 1) * es > 2 ^ 24) := by omega
       simp only [Instr.buildSlice, Sem.run_bind, run_underlying hu, Result.andThen_ok, run_sizeOf_of hs, if_neg hne, if_neg hng, hzv, Sem.run_pure, hcs0, hrepS, hfill, newRow]
       simp
      ·refine Post1.new hI hn hm (Below.alloc1 w _) (cur := segs'.flatten.toArray) (parts := segs') (heap_alloc_new w _) a2 hall a4 ⟨[], by simp⟩ (Nat.zero_le _) (rep_ms_new w _ _ _ ?_ ?_)
       ·rw [List.size_toArray, flatten_const hall, hsegl]
       ·have : n + 1 ≤ (n + 1) * es := Nat.le_mul_of_pos_right _ hes
        unfold maxLen
        omega
     ·exact h.elim
   ·exact h.elim
 ·exact h.elim
theorem oMakeSlice_ok (hT : TabOK Pg T) (hI : InvM w P adr m) (hn : adr cnt = none) (hm : m cnt = none) {t : TypeId} {p q : MV} (h : (oMakeSlice Pg T cnt t p q).runP K) (hp : RepV w P adr p u) (hq : RepV w P adr q v) :
  ∃ r δ y w', K (r, δ) ∧ (Instr.makeSlice t u v).run Pg w = .ok y w' ∧ Post1 w P adr m cnt r δ y w' := by
 unfold oMakeSlice at h
 split at h
 ·rename_i e es k0 n k1 n' hd
  split at h
  ·rename_i z hz
   cases hb : (Nat.beq z.size es && Nat.blt 0 es && z.idFree) with
   | false => rw [hb] at h; exact h.elim
   | true =>
    rw [hb] at h
    simp only [Bool.and_eq_true] at hb
    obtain ⟨⟨hsz, hes⟩, hzf⟩ := hb
    have hsz := Nat.eq_of_beq_eq_true hsz
    obtain ⟨rfl, k, hk, by_, hby, hbb, h⟩ := h
    obtain ⟨hk1, hk2⟩ := idx_out hk
    subst hk1
    rw [hp.int_, hq.int_]
    obtain ⟨cs, h1, h2, _⟩ := zeroM_acc 9 e _ hz
    have hz' := h1 []
    rw [List.append_nil] at hz'
    have hrep := h2 w P
    have hcl : cs.length = es := by rw [← List.length_map (f := SV.den), hrep.size, hsz]
    obtain ⟨zv, hzv, hzc⟩ := hT.zero hz' w
    have hzcells : zv.cells = (cs.map SV.den).toArray := by rw [← hzc]
    have hes : 0 < es := by simpa [Nat.blt_eq] using hes
    obtain ⟨hu, hs⟩ := TD.fits_slice (hT.fits hd)
    cases hi : Pg.info? e with
    | none => simp [hi] at hby
    | some it =>
     have hby' : it.bytes = by_ := by simpa [hi] using hby
     have hszi : it.size = es := by simpa [sizeB, hi] using hs
     have hit : it.zero = some zv := by
      cases hv : it.zero with
      | none => simp [zeroValue, typeInfo, hi, hv, unsupported] at hzv
      | some v => simp [zeroValue, typeInfo, hi, hv] at hzv; rw [hzv]
     have hbytes : (it.bytes : Int) * (k : Int) ≤ 281474976710656 := by
      rw [hby', ← Int.natCast_mul, Nat.mul_comm]; omega
     have hr := run_make (P := Pg) w t e it zv hu hi hit k0 k1 (k : Int) (k : Int) (by omega) (Int.le_refl _) hbytes (by omega)
     have hrs := repS_cells (n := k) hzcells hcl hes
     have hrepS : ∀ k, (repS k cs).map SV.den = (List.replicate k (cs.map SV.den)).flatten := by
      intro k
      induction k with
      | zero => rfl
      | succ k ih => rw [repS, List.map_append, ih, List.replicate_succ, List.flatten_cons]
     have hall : ∀ p ∈ List.replicate k (cs.map SV.den), p.length = es := fun p hp => by rw [(List.mem_replicate.1 hp).2, List.length_map, hcl]
     refine ⟨_, _, .slice (some ⟨w.heap.size, 0, none⟩) k k, w.alloc (.cells (List.replicate k (cs.map SV.den)).flatten.toArray e), h, ?_, ?_⟩
     ·rw [hr]
      simp only [madeCells, Int.toNat_natCast, hszi, hzcells] at hrs ⊢
      rw [hrs, hrepS]
     ·refine Post1.new hI hn hm (Below.alloc1 w _) (cur := (List.replicate k (cs.map SV.den)).flatten.toArray) (parts := List.replicate k (cs.map SV.den)) (heap_alloc_new w _) (by show _ = (repM k z).length; rw [repM_eq]; simp) hall (fun j x p hx hp => ?_) ⟨[], by simp⟩ (Nat.zero_le _) (rep_ms_new w _ _ _ ?_ ?_)
      ·have hx : (repM k z)[j]? = some x := hx
       rw [repM_eq] at hx
       rw [(List.mem_replicate.1 (List.mem_of_getElem? hx)).2, (List.mem_replicate.1 (List.mem_of_getElem? hp)).2]
       exact hrep
      ·rw [List.size_toArray, flatten_const hall, List.length_replicate]
      ·unfold maxLen; omega
  ·exact h.elim
 ·exact h.elim
end
end
section
section
variable {Pg : Program} {T : Tab} {w w' : World} {P P' : Prot} {adr adr' : Adr} {m : FM} {cnt : Nat} {K : MV × Dl → Prop} {u v x y : Value} {r : MV}
theorem bytesM_cells : ∀ {l : List MV} {s : List UInt8} {parts : List (List Value)} {a : Adr}, bytesM l = some s → parts.length = l.length → (∀ (j : Nat) m p, l[j]? = some m → parts[j]? = some p → Rep w P a m p) → s.length = l.length ∧ parts = s.map fun b => [Value.int .u8 (b.toNat : Int)]
 | [], s, parts, a, h, hp, _ => by
  simp [bytesM] at h; subst h
  exact ⟨rfl, List.eq_nil_of_length_eq_zero (by simpa using hp)⟩
 | m :: l, s, [], a, h, hp, _ => by simp at hp
 | m :: l, s, p :: parts, a, h, hp, hr => by
  unfold bytesM at h
  split at h
  ·rename_i h0; cases h0
  ·rename_i n l' he
   injection he with e1 e2
   subst e1; subst e2
   split at h
   ·rename_i hn
    split at h
    ·rename_i r hr'
     injection h with h
     subst h
     obtain ⟨h1, h2⟩ := bytesM_cells hr' (by simpa using hp) fun j m p h1 h2 => hr (j + 1) m p h1 h2
     have h3 := hr 0 _ p rfl rfl
     refine ⟨by simp [h1], ?_⟩
     rw [h2, List.map_cons]
     congr 1
     cases h3
     have : (UInt8.ofNat n.toNat).toNat = n.toNat := by rw [UInt8.toNat_ofNat', Nat.mod_eq_of_lt (by omega)]
     rw [this]
     congr 2
     omega
    ·cases h
   ·cases h
  ·cases h
theorem flat_bytes (s : List UInt8) : (s.map fun b => [Value.int .u8 (b.toNat : Int)]).flatten = s.map fun b => Value.int .u8 (b.toNat : Int) := by
 induction s with
 | nil => rfl
 | cons b s ih => simp [ih]
theorem rnsM_cells : ∀ {l : List MV} {ns : List Int} {parts : List (List Value)} {a : Adr}, rnsM l = some ns → parts.length = l.length → (∀ (j : Nat) m p, l[j]? = some m → parts[j]? = some p → Rep w P a m p) → ns.length = l.length ∧ parts = ns.map fun n => [Value.int .i32 n]
 | [], ns, parts, a, h, hp, _ => by
  simp [rnsM] at h; subst h
  exact ⟨rfl, List.eq_nil_of_length_eq_zero (by simpa using hp)⟩
 | m :: l, ns, [], a, h, hp, _ => by simp at hp
 | m :: l, ns, p :: parts, a, h, hp, hr => by
  unfold rnsM at h
  split at h
  ·rename_i h0; cases h0
  ·rename_i n l' he
   injection he with e1 e2
   subst e1; subst e2
   split at h
   ·rename_i r hr'
    injection h with h
    subst h
    obtain ⟨h1, h2⟩ := rnsM_cells hr' (by simpa using hp) fun j m p h1 h2 => hr (j + 1) m p h1 h2
    have h3 := hr 0 _ p rfl rfl
    refine ⟨by simp [h1], ?_⟩
    rw [h2, List.map_cons]
    cases h3
    rfl
   ·cases h
  ·cases h
theorem flat_ints (s : List Int) : (s.map fun n => [Value.int .i32 n]).flatten = s.map (Value.int .i32) := by
 induction s with
 | nil => rfl
 | cons b s ih => simp [ih]
theorem bytes_data (b : ByteArray) : (⟨b.data.toList.toArray⟩ : ByteArray) = b := by cases b; simp
theorem oConv_ok (hT : TabOK Pg T) (hI : InvM w P adr m) (hn : adr cnt = none) {src dst : TypeId} {p : MV} (h : (oConv T m src dst p).runP K) (hp : RepV w P adr p u) :
  ∃ r y w', K (r, .none) ∧ (convert src dst u).run Pg w = .ok y w' ∧ Post1 w P adr m cnt r .none y w' := by
 unfold oConv at h
 split at h
 ·rename_i d0 k k' n hd0 hd
  obtain ⟨r, hr, h⟩ := h
  injection hr with hr
  subst hr
  obtain ⟨ds, hds⟩ := TD.fits_some (hT.fits hd0)
  rw [hp.int_]
  refine ⟨_, .int k (k.wrap n), w, h, ?_, Post1.pure hI hn (.val [_] .int)⟩
  simp [convert, run_underlying hds, run_underlying (TD.fits_int (hT.fits hd)), Conv.intToInt]
 ·rename_i k k' n hd0 hd
  obtain ⟨r, hr, h⟩ := h
  injection hr with hr
  subst hr
  have hu := TD.fits_int (hT.fits hd0)
  have hu2 := TD.fits_str (hT.fits hd)
  rw [hp.int_]
  refine ⟨_, .string (Utf8.encode n), w, h, ?_, Post1.pure hI hn ?_⟩
  ·simp [convert, run_underlying hu, run_underlying hu2, Conv.intToString]
  ·have h3 : RepV w P adr (.str (Utf8.encode n).data.toList) (.string ⟨(Utf8.encode n).data.toList.toArray⟩) := .val [_] .str
   rw [bytes_data] at h3
   exact h3
 ·rename_i e es n l hd0 hd
  split at h
  ·rename_i hde
   obtain ⟨s, hs, h⟩ := h
   have hu := (TD.fits_slice (hT.fits hd0)).1
   have hu2 := TD.fits_str (hT.fits hd)
   have hu3 := TD.fits_int (hT.fits hde)
   obtain ⟨A, cap, es', parts, rfl, h1, h2, h3, h4, h5, h6, h7⟩ := hp.sl_
   obtain ⟨h8, h9⟩ := bytesM_cells hs (h2.trans h1.symm) h7
   refine ⟨_, .string ⟨s.toArray⟩, w, h, ?_, Post1.pure hI hn (.val [_] .str)⟩
   cases A with
   | none =>
    obtain ⟨rfl, rfl⟩ := h4 rfl
    have : s = [] := List.eq_nil_of_length_eq_zero (by omega)
    subst this
    simp [convert, run_underlying hu, run_underlying hu2, run_underlying hu3, Conv.bytesToString]
    rfl
   | some a =>
    have hsn : s.length = n := by omega
    subst hsn
    refine run_convert_bytes_back w src dst e a cap s hu hu3 hu2 fun j hj => ?_
    obtain ⟨b, o, hA, hc⟩ := h6 (by omega)
    injection hA with hA
    subst hA
    rw [Addr.add_mid]
    refine (hc j _ ?_).1
    rw [h9, flat_bytes, List.getElem?_map, List.getElem?_eq_getElem hj]; rfl
  ·rename_i hde
   obtain ⟨ns, hs, s, hss, h⟩ := h
   injection hss with hss
   subst hss
   have hu := (TD.fits_slice (hT.fits hd0)).1
   have hu2 := TD.fits_str (hT.fits hd)
   have hu3 := TD.fits_int (hT.fits hde)
   obtain ⟨A, cap, es', parts, rfl, h1, h2, h3, h4, h5, h6, h7⟩ := hp.sl_
   obtain ⟨h8, h9⟩ := rnsM_cells hs (h2.trans h1.symm) h7
   refine ⟨_, .string (runesBytes ns), w, h, ?_, Post1.pure hI hn ?_⟩
   ·cases A with
    | none =>
     obtain ⟨rfl, rfl⟩ := h4 rfl
     have : ns = [] := List.eq_nil_of_length_eq_zero (by omega)
     subst this
     exact run_convert_runes_nil w src dst e 0 0 hu hu3 hu2
    | some a =>
     have hr := run_convert_runes (P := Pg) w src dst e a n cap ns (by omega) hu hu3 hu2 fun j hj => by
      obtain ⟨b, o, hA, hc⟩ := h6 (by omega)
      injection hA with hA
      subst hA
      rw [Addr.add_mid]
      refine (hc j _ ?_).1
      rw [h9, flat_ints, List.getElem?_map, List.getElem?_eq_getElem hj, List.getD_eq_getElem?_getD, List.getElem?_eq_getElem hj]
      rfl
     rw [List.take_of_length_le (by omega)] at hr
     exact hr
   ·have h3 : RepV w P adr (.str (runesBytes ns).data.toList) (.string ⟨(runesBytes ns).data.toList.toArray⟩) := .val [_] .str
    rw [bytes_data] at h3
    exact h3
  ·exact h.elim
 ·rename_i e es hd0 hd
  split at h
  ·rename_i hde
   have hu := (TD.fits_slice (hT.fits hd0)).1
   have hu2 := TD.fits_str (hT.fits hd)
   have hu3 := TD.fits_int (hT.fits hde)
   rw [hp.nils_]
   refine ⟨_, .string ⟨#[]⟩, w, h, ?_, Post1.pure hI hn (.val [_] .str)⟩
   simp [convert, run_underlying hu, run_underlying hu2, run_underlying hu3, Conv.bytesToString]
   rfl
  ·exact h.elim
 ·rename_i e es c es' off n hd0 hd
  split at h
  ·rename_i b hde hb
   cases he : (Nat.beq es' 1 && Nat.beq b.es 1) with
   | false => rw [he] at h; exact h.elim
   | true =>
    rw [he] at h
    rw [Bool.and_eq_true] at he
    have he1 := Nat.eq_of_beq_eq_true he.1
    have he2 := Nat.eq_of_beq_eq_true he.2
    subst he1
    obtain ⟨hle, s, hs, h⟩ := h
    have hu := (TD.fits_slice (hT.fits hd0)).1
    have hu2 := TD.fits_str (hT.fits hd)
    have hu3 := TD.fits_int (hT.fits hde)
    refine ⟨_, .string ⟨s.toArray⟩, w, h, ?_, Post1.pure hI hn (.val [_] .str)⟩
    have hlen : (cutL b.l off (off + n)).length = n := by unfold cutL; rw [List.length_take, List.length_drop]; omega
    rcases hp.ms_ with ⟨rfl, rfl, rfl⟩ | ⟨g, o, cap, hg, rfl, ho, h5, h6, h7⟩
    ·have hc0 : cutL b.l 0 (0 + 0) = [] := List.eq_nil_of_length_eq_zero (by rw [hlen])
     rw [hc0] at hs
     simp [bytesM] at hs
     subst hs
     simp [convert, run_underlying hu, run_underlying hu2, run_underlying hu3, Conv.bytesToString]
     rfl
    ·rcases hI.blk c b hb with h1 | ⟨g', h1, h2⟩
     ·rw [hg] at h1; cases h1.2.2.1
     ·rw [hg] at h1
      injection h1 with h1
      subst h1
      obtain ⟨cur, parts, fz, h3, _, h4, h8, h9, h10⟩ := h2.ofE (by omega)
      have hpl : ((parts.drop off).take n).length = (cutL b.l off (off + n)).length := by rw [hlen, List.length_take, List.length_drop]; omega
      obtain ⟨h11, h12⟩ := bytesM_cells (a := if b.row then noAdr else adr) hs hpl fun j x p hx hp => by
       obtain ⟨hx, hj⟩ := cutL_get hx
       rw [List.getElem?_take] at hp
       split at hp
       ·rw [List.getElem?_drop] at hp; exact h9 _ x p hx hp
       ·cases hp
      have hsn : s.length = n := by omega
      subst hsn
      refine run_convert_bytes_back w src dst e ⟨g, o, none⟩ cap s hu hu3 hu2 fun j hj => ?_
      have ho := ho (.inl (by omega))
      subst ho
      rw [Addr.add_mid, cell_of_row w g _ cur b.ty fz h3]
      have hfl : parts.flatten[off * 1 + j]? = some (.int .u8 (s[j].toNat : Int)) := by
       refine flatten_take (es := 1) (fun p hp => by rw [h8 p hp, he2]) off s.length ?_ (by omega)
       rw [h12, flat_bytes, List.getElem?_map, List.getElem?_eq_getElem hj]; rfl
      have := prefix_get h10 hfl
      simpa using this
  ·exact h.elim
 ·rename_i e es s hd0 hd
  split at h
  ·rename_i hde
   obtain ⟨hle, l, hl, n, hnn, h⟩ := h
   injection hl with hl
   injection hnn with hnn
   subst hl; subst hnn
   have hu := (TD.fits_slice (hT.fits hd)).1
   have hu2 := TD.fits_str (hT.fits hd0)
   have hu3 := TD.fits_int (hT.fits hde)
   rw [hp.str_]
   have hsz : (⟨s.toArray⟩ : ByteArray).size = s.length := by simp [ByteArray.size]
   have hrun := run_bytes_of_string (P := Pg) w src dst e ⟨s.toArray⟩ hu2 hu hu3
   rw [hsz] at hrun
   have hge := grownCap_ge w s.length 0 e
   generalize grownCap w s.length 0 e = cap at *
   have hb : Below w.heap.size w (w.drew.alloc (.cells (bytesRow ⟨s.toArray⟩ cap) e ((bytesRow ⟨s.toArray⟩ cap).size, (bytesRow ⟨s.toArray⟩ cap).size + 1))) := by
    have := Below.alloc1 w.drew (.cells (bytesRow ⟨s.toArray⟩ cap) e ((bytesRow ⟨s.toArray⟩ cap).size, (bytesRow ⟨s.toArray⟩ cap).size + 1))
    exact ⟨this.os, this.tape, this.output, this.size, this.block⟩
   have hnew : (w.drew.alloc (.cells (bytesRow ⟨s.toArray⟩ cap) e ((bytesRow ⟨s.toArray⟩ cap).size, (bytesRow ⟨s.toArray⟩ cap).size + 1))).heap[w.heap.size]? = some (.cells (bytesRow ⟨s.toArray⟩ cap) e ((bytesRow ⟨s.toArray⟩ cap).size, (bytesRow ⟨s.toArray⟩ cap).size + 1)) := heap_alloc_new w.drew _
   generalize w.drew.alloc (.cells (bytesRow ⟨s.toArray⟩ cap) e ((bytesRow ⟨s.toArray⟩ cap).size, (bytesRow ⟨s.toArray⟩ cap).size + 1)) = w1 at *
   refine ⟨_, _, w1, h, hrun, protNew w w1 P, adr, ?_, hI.below hb, Keep.below hI.prot hb, fun _ _ => rfl, fun g hg => (by rw [hn] at hg; cases hg), (Since.of_below hb).weak fun _ e => e.elim, fun b o hp => ?_⟩
   ·have hlt : w.heap.size < w1.heap.size := (Array.getElem?_eq_some_iff.1 hnew).1
    refine .val [_] (.sl (some ⟨w.heap.size, 0, none⟩) cap 1 (s.map fun b => [Value.int .u8 (b.toNat : Int)]) (by simp [u8s]) (by simp) (fun p hp => ?_) (fun h => nomatch h) hge (fun _ => ⟨w.heap.size, 0, rfl, fun j x hx => ⟨?_, .inr ⟨Nat.le_refl _, hlt⟩⟩⟩) fun j x p hx hp => ?_)
    ·obtain ⟨b, _, rfl⟩ := List.mem_map.1 hp; rfl
    ·rw [cell_of_row w1 w.heap.size _ _ e _ hnew, Nat.zero_add]
     rw [flat_bytes] at hx
     have hj := (List.getElem?_eq_some_iff.1 hx).1
     simp only [List.length_map] at hj
     rw [List.getElem?_map, List.getElem?_eq_getElem hj] at hx
     injection hx with hx
     unfold bytesRow
     rw [Array.getElem?_append_left (by simpa using hj)]
     simp [hj, hx]
    ·simp only [u8s, List.getElem?_map, Option.map_eq_some_iff] at hx hp
     obtain ⟨b, hb, rfl⟩ := hx
     obtain ⟨b', hb', rfl⟩ := hp
     rw [hb] at hb'
     injection hb' with hb'
     subst hb'
     exact .int
   ·rcases hp with hp | hp
    ·exact .inl hp
    ·exact .inr (.inl hp.1)
  ·exact h.elim
 ·exact h.elim
end
end
section
section
variable {Pg : Program} {T : Tab} {w w' : World} {P P' : Prot} {adr adr' : Adr} {m : FM} {cnt : Nat} {K : MV × Dl → Prop} {u v x y : Value} {r : MV}
theorem iBin_to {op : BinOp} {k : IntKind} {a b : Int} (h : ((iBin op k a b).bind pureA).runP K) : intBin op k a b fun v => ∃ r, K (r, .none) ∧ RepV w P adr r v := by
 cases op <;> simp only [iBin, val, Ask.bind, Ask.ask, Ask.prf, Ask.ret, pureA, Ask.runP] at h <;> simp only [intBin]
 case quo => obtain ⟨h0, r, hr, h⟩ := h; injection hr with hr; exact ⟨h0, r, hr, _, h, .val [_] .int⟩
 case rem => obtain ⟨h0, r, hr, h⟩ := h; injection hr with hr; exact ⟨h0, r, hr, _, h, .val [_] .int⟩
 case shl => obtain ⟨h0, r, hr, h⟩ := h; injection hr with hr; exact ⟨h0, r, hr, _, h, .val [_] .int⟩
 case shr => obtain ⟨h0, r, hr, h⟩ := h; injection hr with hr; exact ⟨h0, r, hr, _, h, .val [_] .int⟩
 all_goals first
  | (obtain ⟨r, hr, h⟩ := h; injection hr with hr; exact ⟨r, hr, _, h, .val [_] .int⟩)
  | exact ⟨_, h, .val [_] .bool⟩
theorem ba_list (s : List UInt8) : (⟨s.toArray⟩ : ByteArray).toList = s := by rw [ByteArray.toList_eq]
theorem ba_size (s : List UInt8) : (⟨s.toArray⟩ : ByteArray).size = s.length := by simp [ByteArray.size]
theorem ba_cat (s t : List UInt8) : (⟨s.toArray⟩ ++ ⟨t.toArray⟩ : ByteArray) = ⟨(s ++ t).toArray⟩ := by
 apply ByteArray.ext
 simp [ByteArray.data_append]
theorem sBin_to {op : BinOp} {a b : List UInt8} (h : ((sBin op a b).bind pureA).runP K) : strBin op ⟨a.toArray⟩ ⟨b.toArray⟩ fun v => ∃ r, K (r, .none) ∧ RepV w P adr r v := by
 cases op <;> simp only [sBin, val, Ask.bind, Ask.ask, Ask.prf, Ask.ret, Ask.bad, pureA, Ask.runP] at h <;> simp only [strBin, ba_list, ba_size, ba_cat]
 case add => obtain ⟨h0, r, hr, h⟩ := h; injection hr with hr; subst hr; exact ⟨h0, _, h, .val [_] .str⟩
 all_goals first
  | exact ⟨_, h, .val [_] .bool⟩
  | exact h.elim
theorem bBin_to {op : BinOp} {a b : Bool} (h : ((bBin op a b).bind pureA).runP K) : boolBin op a b fun v => ∃ r, K (r, .none) ∧ RepV w P adr r v := by
 cases op <;> simp only [bBin, Ask.bind, Ask.ret, Ask.bad, pureA, Ask.runP] at h <;> simp only [boolBin]
 all_goals first
  | exact ⟨_, h, .val [_] .bool⟩
  | exact h.elim
mutual
theorem confM_out : ∀ {f t : Nat} {m : MV} {cs : List Value} {adr : Adr}, confM T f t m = true → Rep w P adr m cs → confT T f t cs
 | 0, _, _, _, _, h, _ => by simp [confM] at h
 | f + 1, t, m, cs, adr, h, hr => by
  unfold confM at h
  unfold confT
  split at h
  ·rename_i k j n hd
   rw [hd]
   have := kid_inj h
   subst this
   cases hr
   exact ⟨n, rfl⟩
  ·rename_i hd; rw [hd]; cases hr; exact ⟨_, rfl⟩
  ·rename_i hd; rw [hd]; cases hr; exact ⟨_, rfl⟩
  ·rename_i n e es n' es' l hd
   rw [hd]
   simp only [Bool.and_eq_true] at h
   obtain ⟨⟨h1, h2⟩, h3⟩ := h
   have h1 := Nat.eq_of_beq_eq_true h1
   have h2 := Nat.eq_of_beq_eq_true h2
   subst h1; subst h2
   cases hr with
   | arr parts hl hp hes hr =>
    refine ⟨by rw [flatten_const hes, hp], fun i hi => ?_⟩
    have hx := List.getElem?_eq_getElem (l := l) (i := i) (by omega)
    obtain ⟨q, hq⟩ := get_of_len (hp.trans hl.symm) hx
    have hql := hes q (List.mem_of_getElem? hq)
    have hpre : (parts.take i).flatten.length = i * es := by
     rw [flatten_const (es := es) fun x hx => hes x (List.mem_of_mem_take hx), List.length_take, Nat.min_eq_left (by omega)]
    have : (parts.flatten.drop (i * es)).take es = q := by
     rw [flatten_split hq, List.append_assoc, ← hpre, List.drop_left, ← hql, List.take_left]
    rw [this]
    exact confM_out (List.all_eq_true.1 h3 _ (List.getElem_mem (by omega))) (hr i _ q hx hq)
  ·rename_i fs sz l hd
   rw [hd]
   cases hr with
   | st parts hp hr =>
    have := confMs_out h hp hr [] rfl
    rw [List.nil_append] at this
    exact this
  ·cases h
theorem confMs_out : ∀ {f : Nat} {fs : List (Nat × TypeId)} {o : Nat} {l : List MV} {sz : Nat} {parts : List (List Value)} {adr : Adr}, confMs T f fs o l sz = true → parts.length = l.length → (∀ (j : Nat) m p, l[j]? = some m → parts[j]? = some p → Rep w P adr m p) →
  ∀ (pre : List Value), pre.length = o → (pre ++ parts.flatten).length = sz ∧ fs.foldr (fun x K => (match Tab.find T x.2 with | some d => confT T f x.2 (((pre ++ parts.flatten).drop x.1).take d.size) | none => False) ∧ K) True
 | f, [], o, [], sz, parts, adr, h, hp, hr, pre, hpre => by
  have h := Nat.eq_of_beq_eq_true (show Nat.beq o sz = true from by simpa [confMs] using h)
  have : parts = [] := List.eq_nil_of_length_eq_zero (by simpa using hp)
  subst this
  exact ⟨by simp [hpre, h], trivial⟩
 | f, (o', t) :: fs, o, m :: l, sz, [], adr, h, hp, hr, pre, hpre => by simp at hp
 | f, (o', t) :: fs, o, m :: l, sz, p :: parts, adr, h, hp, hr, pre, hpre => by
  rw [confMs, Bool.and_eq_true] at h
  obtain ⟨h1, h2⟩ := h
  have h1 := Nat.eq_of_beq_eq_true h1
  subst h1
  split at h2
  ·rename_i d hd
   simp only [Bool.and_eq_true] at h2
   obtain ⟨⟨h3, h4⟩, h5⟩ := h2
   have h3 := Nat.eq_of_beq_eq_true h3
   have hrep := hr 0 m p rfl rfl
   have hpl : p.length = d.size := by rw [hrep.size, h3]
   have ih := confMs_out h5 (parts := parts) (by simpa using hp) (fun j m p h1 h2 => hr (j + 1) m p h1 h2) (pre ++ p) (by rw [List.length_append, hpre, hpl])
   have e : pre ++ (p :: parts).flatten = pre ++ p ++ parts.flatten := by simp
   rw [e]
   refine ⟨ih.1, ?_, ih.2⟩
   simp only [hd]
   have : ((pre ++ p ++ parts.flatten).drop o).take d.size = p := by
    rw [List.append_assoc, ← hpre, List.drop_left, ← hpl, List.take_left]
   rw [this]
   exact confM_out h4 hrep
  ·cases h2
 | f, [], o, _ :: _, _, _, _, h, _, _, _, _ => by simp [confMs] at h
 | f, _ :: _, o, [], _, _, _, h, _, _, _, _ => by simp [confMs] at h
end
mutual
theorem eqM_out : ∀ {a b : MV} {t : Bool} {xs ys : List Value} {adr adr' : Adr}, eqM a b = some t → Rep w P adr a xs → Rep w P adr' b ys → xs.length = ys.length ∧ (t = true ↔ xs = ys)
 | a, b, t, xs, ys, adr, adr', h, hx, hy => by
  unfold eqM at h
  split at h
  ·rename_i k m j n
   split at h
   ·rename_i hk
    injection h with h
    subst h
    have hk := of_decide_eq_true hk
    subst hk
    cases hx; cases hy
    simp
   ·cases h
  ·injection h with h
   subst h
   cases hx; cases hy
   simp
  ·injection h with h
   subst h
   cases hx; cases hy
   rename_i s u
   simp
  ·cases hx with
   | st parts hp hr => cases hy with
    | st parts' hp' hr' => exact eqMs_out h hp hp' hr hr'
  ·rename_i n es l n' es' l'
   cases hb : (Nat.beq n n' && Nat.beq es es') with
   | false => rw [hb] at h; cases h
   | true =>
    rw [hb] at h
    cases hx with
    | arr parts hl hp hes hr => cases hy with
     | arr parts' hl' hp' hes' hr' => exact eqMs_out h (hp.trans hl.symm) (hp'.trans hl'.symm) hr hr'
  ·cases h
theorem eqMs_out : ∀ {l l' : List MV} {t : Bool} {parts parts' : List (List Value)} {adr adr' : Adr}, eqMs l l' = some t → parts.length = l.length → parts'.length = l'.length → (∀ (j : Nat) m p, l[j]? = some m → parts[j]? = some p → Rep w P adr m p) → (∀ (j : Nat) m p, l'[j]? = some m → parts'[j]? = some p → Rep w P adr' m p) →
  parts.flatten.length = parts'.flatten.length ∧ (t = true ↔ parts.flatten = parts'.flatten)
 | [], [], t, parts, parts', adr, adr', h, hp, hp', _, _ => by
  have h1 : parts = [] := List.eq_nil_of_length_eq_zero (by simpa using hp)
  have h2 : parts' = [] := List.eq_nil_of_length_eq_zero (by simpa using hp')
  subst h1; subst h2
  simp [eqMs] at h
  subst h
  simp
 | a :: l, b :: l', t, p :: parts, q :: parts', adr, adr', h, hp, hp', hr, hr' => by
  rw [eqMs] at h
  split at h
  ·rename_i x y hx hy
   injection h with h
   subst h
   obtain ⟨h1, h2⟩ := eqM_out hx (hr 0 a p rfl rfl) (hr' 0 b q rfl rfl)
   obtain ⟨h3, h4⟩ := eqMs_out hy (parts := parts) (parts' := parts') (by simpa using hp) (by simpa using hp') (fun j m p h1 h2 => hr (j + 1) m p h1 h2) (fun j m p h1 h2 => hr' (j + 1) m p h1 h2)
   refine ⟨by simp only [List.flatten_cons, List.length_append]; omega, ?_⟩
   rw [Bool.and_eq_true, h2, h4, List.flatten_cons, List.flatten_cons]
   exact ⟨fun ⟨e1, e2⟩ => by rw [e1, e2], fun e => List.append_inj e h1⟩
  ·cases h
 | [], _ :: _, t, _, _, _, _, h, _, _, _, _ => by simp [eqMs] at h
 | _ :: _, [], t, _, _, _, _, h, _, _, _, _ => by simp [eqMs] at h
 | _ :: _, _ :: _, t, [], _, _, _, h, hp, _, _, _ => by simp at hp
 | _ :: _, _ :: _, t, _ :: _, [], _, _, h, _, hp, _, _ => by simp at hp
end
end
end
end Go.Proofs.YtbiaaogbohfimaaGreatDoor
