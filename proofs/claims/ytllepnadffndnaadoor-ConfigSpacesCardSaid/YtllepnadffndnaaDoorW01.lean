/- Parts of a proof, one behind the other: Base, Data, Opens, Eng, Vc, Op. -/
import Derived.WalkKit
import Derived.ProofKit
import Derived.OpenShut
import Derived.OwnWalk
import Derived.Deep.QuietTactic
import Derived.BigQuiet
import Derived.Deep.LoopGhost
import Derived.Deep.MidRow
import Derived.Deep.WholeRow
import Derived.Deep.Slices
import Derived.Lib.Hide
import GoSem.ClaimJoined
import Derived.Orders
import Derived.OrdersHeld
import Derived.Shelf.Abstract
namespace Go.Proofs.YtllepnadffndnaaDoor
open Go.RowKit
abbrev Fp := Nat → Prop
def Lt (B : Nat) : Fp := fun b => b < B
def Every : Fp := fun _ => True
structure Rp (α : Type) where
  size : Nat
  rel : World → Fp → List Value → α → Prop
  len : ∀ {w S cs x}, rel w S cs x → cs.length = size
  one : ∀ {w S cs x}, rel w S cs x → ∀ v ∈ cs, v.oneCell' = true
  keep : ∀ {w w' S S' cs x}, (∀ b, S b → S' b) → (∀ b, S b → b < w.heap.size → w'.heap[b]? = w.heap[b]?) → rel w S cs x → rel w' S' cs x
theorem Rp.below {α : Type} (r : Rp α) {w w' : World} {B : Nat} {cs : List Value} {x : α} (h : r.rel w (Lt B) cs x) (hb : Below B w w') : r.rel w' (Lt B) cs x :=
  r.keep (fun _ h => h) (fun b hS _ => hb.block b hS) h
theorem Rp.more {α : Type} (r : Rp α) {w : World} {S S' : Fp} {cs : List Value} {x : α} (h : r.rel w S cs x) (hS : ∀ b, S b → S' b) : r.rel w S' cs x :=
  r.keep hS (fun _ _ _ => rfl) h
def Rp.int (k : IntKind) : Rp Int where
  size := 1
  rel _ _ cs x := cs = [.int k x] ∧ (Lit.int k x).wf = true
  len := by rintro w S cs x ⟨rfl, _⟩; rfl
  one := by rintro w S cs x ⟨rfl, _⟩ v hv; simp at hv; subst hv; rfl
  keep := fun _ _ h => h
def Rp.bool : Rp Bool where
  size := 1
  rel _ _ cs x := cs = [.bool x]
  len := by rintro w S cs x rfl; rfl
  one := by rintro w S cs x rfl v hv; simp at hv; subst hv; rfl
  keep := fun _ _ h => h
def Rp.str : Rp ByteArray where
  size := 1
  rel _ _ cs x := cs = [.string x] ∧ x.size ≤ 140737488355328
  len := by rintro w S cs x ⟨rfl, _⟩; rfl
  one := by rintro w S cs x ⟨rfl, _⟩ v hv; simp at hv; subst hv; rfl
  keep := fun _ _ h => h
def Rp.arr (k : IntKind) (n : Nat) : Rp (List Int) where
  size := n
  rel _ _ cs x := cs = x.map (Value.int k) ∧ x.length = n ∧ ∀ y ∈ x, (Lit.int k y).wf = true
  len := by rintro w S cs x ⟨rfl, h, _⟩; simpa using h
  one := by
    rintro w S cs x ⟨rfl, _⟩ v hv
    obtain ⟨y, _, rfl⟩ := List.mem_map.1 hv
    rfl
  keep := fun _ _ h => h
def Rp.pair {α β : Type} (r : Rp α) (s : Rp β) : Rp (α × β) where
  size := r.size + s.size
  rel w S cs x := ∃ c d, cs = c ++ d ∧ r.rel w S c x.1 ∧ s.rel w S d x.2
  len := by rintro w S cs x ⟨c, d, rfl, h, k⟩; simp [r.len h, s.len k]
  one := by
    rintro w S cs x ⟨c, d, rfl, h, k⟩ v hv
    rcases List.mem_append.1 hv with hv | hv
    · exact r.one h v hv
    · exact s.one k v hv
  keep := by rintro w w' S S' cs x hS hw ⟨c, d, rfl, h, k⟩; exact ⟨c, d, rfl, r.keep hS hw h, s.keep hS hw k⟩
def Rp.via {α β : Type} (f : β → α) (r : Rp α) : Rp β where
  size := r.size
  rel w S cs x := r.rel w S cs (f x)
  len := r.len
  one := r.one
  keep := r.keep
def Sl {α : Type} (r : Rp α) (w : World) (S : Fp) (A : Option Addr) (xs : List α) : Prop :=
  xs.length ≤ 140737488355328 ∧ (xs ≠ [] → ∃ b o, A = some ⟨b, o, none⟩ ∧ S b ∧ ∀ i x, xs[i]? = some x → ∃ cs, r.rel w S cs x ∧ w.rangeAt b (o + i * r.size) cs)
theorem rangeAt_keep {w w' : World} {b o : Nat} {cs : List Value} (h : w.rangeAt b o cs) (hw : b < w.heap.size → w'.heap[b]? = w.heap[b]?) : w'.rangeAt b o cs := fun j v hv => by
  have hc := h j v hv
  have hlt := World.block_lt_of_cell? w _ hc
  rw [World.cell?_of_block (w := w) (w' := w') (hw hlt)]
  exact hc
theorem Sl.keep {α : Type} {r : Rp α} {w w' : World} {S S' : Fp} {A : Option Addr} {xs : List α} (hS : ∀ b, S b → S' b) (hw : ∀ b, S b → b < w.heap.size → w'.heap[b]? = w.heap[b]?)
    (h : Sl r w S A xs) : Sl r w' S' A xs := by
  refine ⟨h.1, fun hn => ?_⟩
  obtain ⟨b, o, hA, hb, hi⟩ := h.2 hn
  refine ⟨b, o, hA, hS b hb, fun i x hx => ?_⟩
  obtain ⟨cs, hr, hc⟩ := hi i x hx
  exact ⟨cs, r.keep hS hw hr, rangeAt_keep hc (hw b hb)⟩
def Rp.slice {α : Type} (r : Rp α) : Rp (List α) where
  size := 1
  rel w S cs xs := ∃ A c, cs = [.slice A xs.length c] ∧ Sl r w S A xs
  len := by rintro w S cs x ⟨A, c, rfl, _⟩; rfl
  one := by rintro w S cs x ⟨A, c, rfl, _⟩ v hv; simp at hv; subst hv; rfl
  keep := by rintro w w' S S' cs x hS hw ⟨A, c, rfl, h⟩; exact ⟨A, c, rfl, h.keep hS hw⟩
section
variable {α : Type} {r : Rp α} {w w' : World} {S S' : Fp} {A : Option Addr} {xs : List α} {B : Nat}
theorem Sl.below (h : Sl r w (Lt B) A xs) (hb : Below B w w') : Sl r w' (Lt B) A xs := h.keep (fun _ h => h) (fun b hS _ => hb.block b hS)
theorem Sl.more (h : Sl r w S A xs) (hS : ∀ b, S b → S' b) : Sl r w S' A xs := h.keep hS (fun _ _ _ => rfl)
theorem Sl.get (h : Sl r w S A xs) (n : Nat) (hn : r.size = n) {i : Nat} (hi : i < xs.length) : ∃ b o cs, A = some ⟨b, o, none⟩ ∧ S b ∧ r.rel w S cs (xs[i]'hi) ∧ w.rangeAt b (o + i * n) cs ∧ cs.length = n ∧ ∀ v ∈ cs, v.oneCell' = true := by
  subst hn
  obtain ⟨b, o, hA, hb, hk⟩ := h.2 (by rintro rfl; simp at hi)
  obtain ⟨cs, hr, hc⟩ := hk i _ (List.getElem?_eq_getElem hi)
  exact ⟨b, o, cs, hA, hb, hr, hc, r.len hr, r.one hr⟩
theorem Sl.bel (h : Sl r w S A xs) (hb : Below w.heap.size w w') : Sl r w' S A xs := h.keep (fun _ h => h) (fun b _ hb' => hb.block b hb')
theorem Sl.nil_ (w : World) (S : Fp) (A : Option Addr) : Sl r w S A [] := ⟨by simp, fun h => absurd rfl h⟩
end
def Blk (w : World) (g : Nat) (t : TypeId) (cs : Array Value) : Prop := w.heap[g]? = some (.cells cs t (0, 0))
section
variable {w w' : World} {g : Nat} {t : TypeId} {cs : Array Value}
theorem Blk.lt (h : Blk w g t cs) : g < w.heap.size := by
  rcases Nat.lt_or_ge g w.heap.size with hlt | hge
  · exact hlt
  · unfold Blk at h; rw [Array.getElem?_eq_none hge] at h; cases h
theorem Blk.heap (h : Blk w g t cs) : w.heap[g]? = some (.cells cs t (0, 0)) := h
theorem Blk.cell (h : Blk w g t cs) (i : Nat) : w.cell? ⟨g, i, none⟩ = cs[i]? := cell_of_row w g i cs t (0, 0) h
theorem Blk.frozen (h : Blk w g t cs) (i : Nat) : w.frozen? ⟨g, i, none⟩ = false := by
  unfold Blk at h
  simp [World.frozen?, h]
theorem Blk.new (w : World) (t : TypeId) (cs : Array Value) : Blk (w.alloc (.cells cs t)) w.heap.size t cs := heap_alloc_new w _
theorem Blk.drew (h : Blk w g t cs) : Blk w.drew g t cs := h
theorem Blk.drewN (h : Blk w g t cs) (n : Nat) : Blk (w.drewN n) g t cs := h
theorem Blk.alloc (h : Blk w g t cs) (o : Obj) : Blk (w.alloc o) g t cs := (Below.heap_alloc w o g h.lt).trans h
theorem Blk.set_ (h : Blk w g t cs) (i : Nat) (u : Value) : Blk (w.setCell ⟨g, i, none⟩ u) g t (cs.setIfInBounds i u) := by
  unfold Blk at h ⊢
  simp [World.setCell, Array.getElem?_modify, h]
theorem Blk.far (h : Blk w g t cs) {p : Addr} (hp : g ≠ p.block) (u : Value) : Blk (w.setCell p u) g t cs := (Below.heap_setCell w p u g hp).trans h
theorem Blk.below {B : Nat} (h : Blk w g t cs) (hb : Below B w w') (hg : g < B) : Blk w' g t cs := (hb.block g hg).trans h
theorem Blk.grown {row : Option Nat} (h : Blk w g t cs) (hb : w.grownBy w' row) (hg : some g ≠ row) : Blk w' g t cs := (hb.block g h.lt hg).trans h
theorem Blk.range (h : Blk w g t cs) : w.rangeAt g 0 cs.toList := fun j v hv => by rw [h.cell]; simpa using hv
end
theorem Below.setCell' {B : Nat} {a w : World} (h : Below B a w) {g i : Nat} (hp : B ≤ g) (u : Value) : Below B a (w.setCell ⟨g, i, none⟩ u) := h.setCell hp u
theorem Below.drewN' {B : Nat} {a w : World} (h : Below B a w) (n : Nat) : Below B a (w.drewN n) := ⟨h.os, h.tape, h.output, h.size, h.block⟩
theorem wpList_store_new {P : Program} {ops : Array Oper} {rest : List Oper} {op : Oper} {a : Act} {w : World} {Q : Exit → Act → World → Prop} (hgd : op.guard = none) (ty : TypeId) (x y : Operand) (ho : op.op = .store ty x y)
    (g : Nat) (t : TypeId) (old cells : Array Value) (hx : a.eval x = .pointer (some ⟨g, 0, none⟩)) (hg : g = w.heap.size) (hy : a.eval y = .agg cells)
    (hi : (P.info? ty).map (·.size) = some cells.size) (hz : old.size = cells.size) (h1 : cells.all (·.oneCell') = true)
    (h : wpList P ops Q rest (a.put op.dst undef) (w.alloc (.cells cells t))) : wpList P ops Q (op :: rest) a (w.alloc (.cells old t)) := by
  subst hg
  refine wpList_store_row hgd ty x y ho w.heap.size cells hx hy t old (heap_alloc_new w _) hi hz h1 ?_
  rw [World.setRow_alloc_new]; exact h
theorem wpList_alloc_any {P : Program} {ops : Array Oper} {rest : List Oper} {op : Oper} {a : Act} {w : World} {Q : Exit → Act → World → Prop} (hgd : op.guard = none) (ty : TypeId) (ho : op.op = .alloc ty)
    (n : Nat) (hz : ((P.info? ty).bind (·.zero)).map (·.cells.size) = some n)
    (h : ∀ z : Array Value, z.size = n → wpList P ops Q rest (a.put op.dst (.pointer (some ⟨w.heap.size, 0, none⟩))) (w.alloc (.cells z ty))) : wpList P ops Q (op :: rest) a w := by
  refine wpList_plain hgd fun K hK => ?_
  cases hi : P.info? ty with
  | none => simp [hi] at hz
  | some i =>
    cases hv : i.zero with
    | none => simp [hi, hv] at hz
    | some z =>
      have hzs : z.cells.size = n := by simpa [hi, hv] using hz
      have hK' := hK _ _ (h z.cells hzs)
      have hr : (Instr.alloc ty true (.tuple #[])).run P w = .ok (.pointer (some ⟨w.heap.size, 0, none⟩)) (w.alloc (.cells z.cells ty)) := by
        simp [Instr.alloc, zeroValue, typeInfo, hi, hv, newVar, newRow]
      unfold Oper.wp execOp
      simp only [ho, Sem.run_bind, hr, Result.andThen_ok, Sem.run_pure]
      exact hK'
theorem ret_eq {a b : Value} (h : a = b) : Ending.returned a = .returned b := by rw [h]
theorem ret_int {k : IntKind} {a b : Int} (h : a = b) : Ending.returned (.int k a) = .returned (.int k b) := by rw [h]
theorem ret_bool {a b : Bool} (h : a = b) : Ending.returned (.bool a) = .returned (.bool b) := by rw [h]
end Go.Proofs.YtllepnadffndnaaDoor
namespace Go.Proofs.YtllepnadffndnaaDoor
open Go.RowKit
def Rp.key : Rp (List Int) := Rp.arr .u8 32
def Rp.bytes : Rp (List Int) := Rp.slice (Rp.int .u8)
def Rp.ints : Rp (List Int) := Rp.slice (Rp.int .i64)
theorem take1 {cs : List Value} {n : Nat} {v : Value} (h : (cs.drop n).take 1 = [v]) : cs[n]? = some v := by
  have h0 : ((cs.drop n).take 1)[0]? = some v := by rw [h]; rfl
  simpa [List.getElem?_take, List.getElem?_drop] using h0
theorem Rp.pair_iff {α β : Type} {r : Rp α} {s : Rp β} {w : World} {S : Fp} {cs : List Value} {x : α × β} : (r.pair s).rel w S cs x ↔ r.rel w S (cs.take r.size) x.1 ∧ s.rel w S (cs.drop r.size) x.2 := by
  constructor
  · rintro ⟨c, d, rfl, h, k⟩
    have hl := r.len h
    rw [← hl, List.take_left, List.drop_left]
    exact ⟨h, k⟩
  · rintro ⟨h, k⟩
    exact ⟨_, _, (List.take_append_drop _ _).symm, h, k⟩
section
variable {w : World} {S : Fp} {cs : List Value}
theorem cellI {k : IntKind} {n : Nat} {x : Int} (h : (Rp.int k).rel w S ((cs.drop n).take 1) x) : cs[n]? = some (.int k x) ∧ (Lit.int k x).wf = true := ⟨take1 h.1, h.2⟩
theorem cellB {n : Nat} {x : Bool} (h : Rp.bool.rel w S ((cs.drop n).take 1) x) : cs[n]? = some (.bool x) := take1 h
theorem cellS {n : Nat} {x : ByteArray} (h : Rp.str.rel w S ((cs.drop n).take 1) x) : cs[n]? = some (.string x) ∧ x.size ≤ 140737488355328 := ⟨take1 h.1, h.2⟩
theorem cellL {α : Type} {r : Rp α} {n : Nat} {x : List α} (h : (Rp.slice r).rel w S ((cs.drop n).take 1) x) : ∃ A c, cs[n]? = some (.slice A x.length c) ∧ Sl r w S A x := by
  obtain ⟨A, c, h, k⟩ := h
  exact ⟨A, c, take1 h, k⟩
end
structure MField where
  number : Int
  kind : Int
  value : Int
  bytes : List Int
  deriving DecidableEq, Inhabited
def Rp.field : Rp MField := Rp.via (fun x => (x.number, x.kind, x.value, x.bytes)) (Rp.pair (Rp.int .i64) (Rp.pair (Rp.int .i64) (Rp.pair (Rp.int .u64) Rp.bytes)))
theorem Rp.field_size : Rp.field.size = 4 := rfl
theorem Rp.field_fields {w : World} {S : Fp} {cs : List Value} {x : MField} (h : Rp.field.rel w S cs x) :
    (Rp.int .i64).rel w S ((cs.drop 0).take 1) x.number ∧
    (Rp.int .i64).rel w S ((cs.drop 1).take 1) x.kind ∧
    (Rp.int .u64).rel w S ((cs.drop 2).take 1) x.value ∧
    Rp.bytes.rel w S ((cs.drop 3).take 1) x.bytes := by
  have hl : cs.length = 4 := Rp.field.len h
  have h : (Rp.pair (Rp.int .i64) (Rp.pair (Rp.int .i64) (Rp.pair (Rp.int .u64) Rp.bytes))).rel w S cs (x.number, x.kind, x.value, x.bytes) := h
  simp only [Rp.pair_iff] at h
  obtain ⟨h0, h1, h2, h3⟩ := h
  refine ⟨?_, ?_, ?_, ?_⟩
  · refine cast (congrArg (fun l => (Rp.int .i64).rel w S l x.number) ?_) h0
    first | rfl | (simp only [List.drop_drop]; rfl)
  · refine cast (congrArg (fun l => (Rp.int .i64).rel w S l x.kind) ?_) h1
    first | rfl | (simp only [List.drop_drop]; rfl)
  · refine cast (congrArg (fun l => (Rp.int .u64).rel w S l x.value) ?_) h2
    first | rfl | (simp only [List.drop_drop]; rfl)
  · refine cast (congrArg (fun l => Rp.bytes.rel w S l x.bytes) ?_) h3
    have e : cs.drop 3 = (cs.drop 3).take 1 := (List.take_of_length_le (by simp [hl])).symm
    refine Eq.trans ?_ e
    first | rfl | (simp only [List.drop_drop]; rfl)
theorem Rp.field_mk {w : World} {S : Fp} {cs : List Value} {x : MField} (hl : cs.length = 4)
    (h0 : (Rp.int .i64).rel w S ((cs.drop 0).take 1) x.number)
    (h1 : (Rp.int .i64).rel w S ((cs.drop 1).take 1) x.kind)
    (h2 : (Rp.int .u64).rel w S ((cs.drop 2).take 1) x.value)
    (h3 : Rp.bytes.rel w S ((cs.drop 3).take 1) x.bytes)
    : Rp.field.rel w S cs x := by
  show (Rp.pair (Rp.int .i64) (Rp.pair (Rp.int .i64) (Rp.pair (Rp.int .u64) Rp.bytes))).rel w S cs (x.number, x.kind, x.value, x.bytes)
  simp only [Rp.pair_iff]
  refine ⟨?_, ?_, ?_, ?_⟩
  · refine cast (congrArg (fun l => (Rp.int .i64).rel w S l x.number) ?_) h0
    first | rfl | (simp only [List.drop_drop]; rfl)
  · refine cast (congrArg (fun l => (Rp.int .i64).rel w S l x.kind) ?_) h1
    first | rfl | (simp only [List.drop_drop]; rfl)
  · refine cast (congrArg (fun l => (Rp.int .u64).rel w S l x.value) ?_) h2
    first | rfl | (simp only [List.drop_drop]; rfl)
  · refine cast (congrArg (fun l => Rp.bytes.rel w S l x.bytes) ?_) h3
    have e : cs.drop 3 = (cs.drop 3).take 1 := (List.take_of_length_le (by simp [hl])).symm
    refine e.symm.trans ?_
    first | rfl | (simp only [List.drop_drop]; rfl)
structure MAccount where
  name : ByteArray
  balance : Int
  sequence : Int
  deriving DecidableEq, Inhabited
def Rp.account : Rp MAccount := Rp.via (fun x => (x.name, x.balance, x.sequence)) (Rp.pair Rp.str (Rp.pair (Rp.int .u64) (Rp.int .u64)))
theorem Rp.account_size : Rp.account.size = 3 := rfl
theorem Rp.account_fields {w : World} {S : Fp} {cs : List Value} {x : MAccount} (h : Rp.account.rel w S cs x) :
    Rp.str.rel w S ((cs.drop 0).take 1) x.name ∧
    (Rp.int .u64).rel w S ((cs.drop 1).take 1) x.balance ∧
    (Rp.int .u64).rel w S ((cs.drop 2).take 1) x.sequence := by
  have hl : cs.length = 3 := Rp.account.len h
  have h : (Rp.pair Rp.str (Rp.pair (Rp.int .u64) (Rp.int .u64))).rel w S cs (x.name, x.balance, x.sequence) := h
  simp only [Rp.pair_iff] at h
  obtain ⟨h0, h1, h2⟩ := h
  refine ⟨?_, ?_, ?_⟩
  · refine cast (congrArg (fun l => Rp.str.rel w S l x.name) ?_) h0
    first | rfl | (simp only [List.drop_drop]; rfl)
  · refine cast (congrArg (fun l => (Rp.int .u64).rel w S l x.balance) ?_) h1
    first | rfl | (simp only [List.drop_drop]; rfl)
  · refine cast (congrArg (fun l => (Rp.int .u64).rel w S l x.sequence) ?_) h2
    have e : cs.drop 2 = (cs.drop 2).take 1 := (List.take_of_length_le (by simp [hl])).symm
    refine Eq.trans ?_ e
    first | rfl | (simp only [List.drop_drop]; rfl)
theorem Rp.account_mk {w : World} {S : Fp} {cs : List Value} {x : MAccount} (hl : cs.length = 3)
    (h0 : Rp.str.rel w S ((cs.drop 0).take 1) x.name)
    (h1 : (Rp.int .u64).rel w S ((cs.drop 1).take 1) x.balance)
    (h2 : (Rp.int .u64).rel w S ((cs.drop 2).take 1) x.sequence)
    : Rp.account.rel w S cs x := by
  show (Rp.pair Rp.str (Rp.pair (Rp.int .u64) (Rp.int .u64))).rel w S cs (x.name, x.balance, x.sequence)
  simp only [Rp.pair_iff]
  refine ⟨?_, ?_, ?_⟩
  · refine cast (congrArg (fun l => Rp.str.rel w S l x.name) ?_) h0
    first | rfl | (simp only [List.drop_drop]; rfl)
  · refine cast (congrArg (fun l => (Rp.int .u64).rel w S l x.balance) ?_) h1
    first | rfl | (simp only [List.drop_drop]; rfl)
  · refine cast (congrArg (fun l => (Rp.int .u64).rel w S l x.sequence) ?_) h2
    have e : cs.drop 2 = (cs.drop 2).take 1 := (List.take_of_length_le (by simp [hl])).symm
    refine e.symm.trans ?_
    first | rfl | (simp only [List.drop_drop]; rfl)
structure MLedger where
  accounts : List MAccount
  collected : Int
  deriving DecidableEq, Inhabited
def Rp.ledger : Rp MLedger := Rp.via (fun x => (x.accounts, x.collected)) (Rp.pair (Rp.slice Rp.account) (Rp.int .u64))
theorem Rp.ledger_size : Rp.ledger.size = 2 := rfl
theorem Rp.ledger_fields {w : World} {S : Fp} {cs : List Value} {x : MLedger} (h : Rp.ledger.rel w S cs x) :
    (Rp.slice Rp.account).rel w S ((cs.drop 0).take 1) x.accounts ∧
    (Rp.int .u64).rel w S ((cs.drop 1).take 1) x.collected := by
  have hl : cs.length = 2 := Rp.ledger.len h
  have h : (Rp.pair (Rp.slice Rp.account) (Rp.int .u64)).rel w S cs (x.accounts, x.collected) := h
  simp only [Rp.pair_iff] at h
  obtain ⟨h0, h1⟩ := h
  refine ⟨?_, ?_⟩
  · refine cast (congrArg (fun l => (Rp.slice Rp.account).rel w S l x.accounts) ?_) h0
    first | rfl | (simp only [List.drop_drop]; rfl)
  · refine cast (congrArg (fun l => (Rp.int .u64).rel w S l x.collected) ?_) h1
    have e : cs.drop 1 = (cs.drop 1).take 1 := (List.take_of_length_le (by simp [hl])).symm
    refine Eq.trans ?_ e
    first | rfl | (simp only [List.drop_drop]; rfl)
theorem Rp.ledger_mk {w : World} {S : Fp} {cs : List Value} {x : MLedger} (hl : cs.length = 2)
    (h0 : (Rp.slice Rp.account).rel w S ((cs.drop 0).take 1) x.accounts)
    (h1 : (Rp.int .u64).rel w S ((cs.drop 1).take 1) x.collected)
    : Rp.ledger.rel w S cs x := by
  show (Rp.pair (Rp.slice Rp.account) (Rp.int .u64)).rel w S cs (x.accounts, x.collected)
  simp only [Rp.pair_iff]
  refine ⟨?_, ?_⟩
  · refine cast (congrArg (fun l => (Rp.slice Rp.account).rel w S l x.accounts) ?_) h0
    first | rfl | (simp only [List.drop_drop]; rfl)
  · refine cast (congrArg (fun l => (Rp.int .u64).rel w S l x.collected) ?_) h1
    have e : cs.drop 1 = (cs.drop 1).take 1 := (List.take_of_length_le (by simp [hl])).symm
    refine e.symm.trans ?_
    first | rfl | (simp only [List.drop_drop]; rfl)
structure MTransfer where
  to_ : ByteArray
  amount : Int
  deriving DecidableEq, Inhabited
def Rp.transfer : Rp MTransfer := Rp.via (fun x => (x.to_, x.amount)) (Rp.pair Rp.str (Rp.int .u64))
theorem Rp.transfer_size : Rp.transfer.size = 2 := rfl
theorem Rp.transfer_fields {w : World} {S : Fp} {cs : List Value} {x : MTransfer} (h : Rp.transfer.rel w S cs x) :
    Rp.str.rel w S ((cs.drop 0).take 1) x.to_ ∧
    (Rp.int .u64).rel w S ((cs.drop 1).take 1) x.amount := by
  have hl : cs.length = 2 := Rp.transfer.len h
  have h : (Rp.pair Rp.str (Rp.int .u64)).rel w S cs (x.to_, x.amount) := h
  simp only [Rp.pair_iff] at h
  obtain ⟨h0, h1⟩ := h
  refine ⟨?_, ?_⟩
  · refine cast (congrArg (fun l => Rp.str.rel w S l x.to_) ?_) h0
    first | rfl | (simp only [List.drop_drop]; rfl)
  · refine cast (congrArg (fun l => (Rp.int .u64).rel w S l x.amount) ?_) h1
    have e : cs.drop 1 = (cs.drop 1).take 1 := (List.take_of_length_le (by simp [hl])).symm
    refine Eq.trans ?_ e
    first | rfl | (simp only [List.drop_drop]; rfl)
theorem Rp.transfer_mk {w : World} {S : Fp} {cs : List Value} {x : MTransfer} (hl : cs.length = 2)
    (h0 : Rp.str.rel w S ((cs.drop 0).take 1) x.to_)
    (h1 : (Rp.int .u64).rel w S ((cs.drop 1).take 1) x.amount)
    : Rp.transfer.rel w S cs x := by
  show (Rp.pair Rp.str (Rp.int .u64)).rel w S cs (x.to_, x.amount)
  simp only [Rp.pair_iff]
  refine ⟨?_, ?_⟩
  · refine cast (congrArg (fun l => Rp.str.rel w S l x.to_) ?_) h0
    first | rfl | (simp only [List.drop_drop]; rfl)
  · refine cast (congrArg (fun l => (Rp.int .u64).rel w S l x.amount) ?_) h1
    have e : cs.drop 1 = (cs.drop 1).take 1 := (List.take_of_length_le (by simp [hl])).symm
    refine e.symm.trans ?_
    first | rfl | (simp only [List.drop_drop]; rfl)
structure MTx where
  sender : ByteArray
  sequence : Int
  gas : Int
  fee : Int
  memo : ByteArray
  transfers : List MTransfer
  deriving DecidableEq, Inhabited
def Rp.tx : Rp MTx := Rp.via (fun x => (x.sender, x.sequence, x.gas, x.fee, x.memo, x.transfers)) (Rp.pair Rp.str (Rp.pair (Rp.int .u64) (Rp.pair (Rp.int .u64) (Rp.pair (Rp.int .u64) (Rp.pair Rp.str (Rp.slice Rp.transfer))))))
theorem Rp.tx_size : Rp.tx.size = 6 := rfl
theorem Rp.tx_fields {w : World} {S : Fp} {cs : List Value} {x : MTx} (h : Rp.tx.rel w S cs x) :
    Rp.str.rel w S ((cs.drop 0).take 1) x.sender ∧
    (Rp.int .u64).rel w S ((cs.drop 1).take 1) x.sequence ∧
    (Rp.int .u64).rel w S ((cs.drop 2).take 1) x.gas ∧
    (Rp.int .u64).rel w S ((cs.drop 3).take 1) x.fee ∧
    Rp.str.rel w S ((cs.drop 4).take 1) x.memo ∧
    (Rp.slice Rp.transfer).rel w S ((cs.drop 5).take 1) x.transfers := by
  have hl : cs.length = 6 := Rp.tx.len h
  have h : (Rp.pair Rp.str (Rp.pair (Rp.int .u64) (Rp.pair (Rp.int .u64) (Rp.pair (Rp.int .u64) (Rp.pair Rp.str (Rp.slice Rp.transfer)))))).rel w S cs (x.sender, x.sequence, x.gas, x.fee, x.memo, x.transfers) := h
  simp only [Rp.pair_iff] at h
  obtain ⟨h0, h1, h2, h3, h4, h5⟩ := h
  refine ⟨?_, ?_, ?_, ?_, ?_, ?_⟩
  · refine cast (congrArg (fun l => Rp.str.rel w S l x.sender) ?_) h0
    first | rfl | (simp only [List.drop_drop]; rfl)
  · refine cast (congrArg (fun l => (Rp.int .u64).rel w S l x.sequence) ?_) h1
    first | rfl | (simp only [List.drop_drop]; rfl)
  · refine cast (congrArg (fun l => (Rp.int .u64).rel w S l x.gas) ?_) h2
    first | rfl | (simp only [List.drop_drop]; rfl)
  · refine cast (congrArg (fun l => (Rp.int .u64).rel w S l x.fee) ?_) h3
    first | rfl | (simp only [List.drop_drop]; rfl)
  · refine cast (congrArg (fun l => Rp.str.rel w S l x.memo) ?_) h4
    first | rfl | (simp only [List.drop_drop]; rfl)
  · refine cast (congrArg (fun l => (Rp.slice Rp.transfer).rel w S l x.transfers) ?_) h5
    have e : cs.drop 5 = (cs.drop 5).take 1 := (List.take_of_length_le (by simp [hl])).symm
    refine Eq.trans ?_ e
    first | rfl | (simp only [List.drop_drop]; rfl)
theorem Rp.tx_mk {w : World} {S : Fp} {cs : List Value} {x : MTx} (hl : cs.length = 6)
    (h0 : Rp.str.rel w S ((cs.drop 0).take 1) x.sender)
    (h1 : (Rp.int .u64).rel w S ((cs.drop 1).take 1) x.sequence)
    (h2 : (Rp.int .u64).rel w S ((cs.drop 2).take 1) x.gas)
    (h3 : (Rp.int .u64).rel w S ((cs.drop 3).take 1) x.fee)
    (h4 : Rp.str.rel w S ((cs.drop 4).take 1) x.memo)
    (h5 : (Rp.slice Rp.transfer).rel w S ((cs.drop 5).take 1) x.transfers)
    : Rp.tx.rel w S cs x := by
  show (Rp.pair Rp.str (Rp.pair (Rp.int .u64) (Rp.pair (Rp.int .u64) (Rp.pair (Rp.int .u64) (Rp.pair Rp.str (Rp.slice Rp.transfer)))))).rel w S cs (x.sender, x.sequence, x.gas, x.fee, x.memo, x.transfers)
  simp only [Rp.pair_iff]
  refine ⟨?_, ?_, ?_, ?_, ?_, ?_⟩
  · refine cast (congrArg (fun l => Rp.str.rel w S l x.sender) ?_) h0
    first | rfl | (simp only [List.drop_drop]; rfl)
  · refine cast (congrArg (fun l => (Rp.int .u64).rel w S l x.sequence) ?_) h1
    first | rfl | (simp only [List.drop_drop]; rfl)
  · refine cast (congrArg (fun l => (Rp.int .u64).rel w S l x.gas) ?_) h2
    first | rfl | (simp only [List.drop_drop]; rfl)
  · refine cast (congrArg (fun l => (Rp.int .u64).rel w S l x.fee) ?_) h3
    first | rfl | (simp only [List.drop_drop]; rfl)
  · refine cast (congrArg (fun l => Rp.str.rel w S l x.memo) ?_) h4
    first | rfl | (simp only [List.drop_drop]; rfl)
  · refine cast (congrArg (fun l => (Rp.slice Rp.transfer).rel w S l x.transfers) ?_) h5
    have e : cs.drop 5 = (cs.drop 5).take 1 := (List.take_of_length_le (by simp [hl])).symm
    refine e.symm.trans ?_
    first | rfl | (simp only [List.drop_drop]; rfl)
structure MResult where
  code : Int
  sender : ByteArray
  sequence : Int
  gas : Int
  priority : Int
  deriving DecidableEq, Inhabited
def Rp.result : Rp MResult := Rp.via (fun x => (x.code, x.sender, x.sequence, x.gas, x.priority)) (Rp.pair (Rp.int .i64) (Rp.pair Rp.str (Rp.pair (Rp.int .u64) (Rp.pair (Rp.int .u64) (Rp.int .u64)))))
theorem Rp.result_size : Rp.result.size = 5 := rfl
theorem Rp.result_fields {w : World} {S : Fp} {cs : List Value} {x : MResult} (h : Rp.result.rel w S cs x) :
    (Rp.int .i64).rel w S ((cs.drop 0).take 1) x.code ∧
    Rp.str.rel w S ((cs.drop 1).take 1) x.sender ∧
    (Rp.int .u64).rel w S ((cs.drop 2).take 1) x.sequence ∧
    (Rp.int .u64).rel w S ((cs.drop 3).take 1) x.gas ∧
    (Rp.int .u64).rel w S ((cs.drop 4).take 1) x.priority := by
  have hl : cs.length = 5 := Rp.result.len h
  have h : (Rp.pair (Rp.int .i64) (Rp.pair Rp.str (Rp.pair (Rp.int .u64) (Rp.pair (Rp.int .u64) (Rp.int .u64))))).rel w S cs (x.code, x.sender, x.sequence, x.gas, x.priority) := h
  simp only [Rp.pair_iff] at h
  obtain ⟨h0, h1, h2, h3, h4⟩ := h
  refine ⟨?_, ?_, ?_, ?_, ?_⟩
  · refine cast (congrArg (fun l => (Rp.int .i64).rel w S l x.code) ?_) h0
    first | rfl | (simp only [List.drop_drop]; rfl)
  · refine cast (congrArg (fun l => Rp.str.rel w S l x.sender) ?_) h1
    first | rfl | (simp only [List.drop_drop]; rfl)
  · refine cast (congrArg (fun l => (Rp.int .u64).rel w S l x.sequence) ?_) h2
    first | rfl | (simp only [List.drop_drop]; rfl)
  · refine cast (congrArg (fun l => (Rp.int .u64).rel w S l x.gas) ?_) h3
    first | rfl | (simp only [List.drop_drop]; rfl)
  · refine cast (congrArg (fun l => (Rp.int .u64).rel w S l x.priority) ?_) h4
    have e : cs.drop 4 = (cs.drop 4).take 1 := (List.take_of_length_le (by simp [hl])).symm
    refine Eq.trans ?_ e
    first | rfl | (simp only [List.drop_drop]; rfl)
theorem Rp.result_mk {w : World} {S : Fp} {cs : List Value} {x : MResult} (hl : cs.length = 5)
    (h0 : (Rp.int .i64).rel w S ((cs.drop 0).take 1) x.code)
    (h1 : Rp.str.rel w S ((cs.drop 1).take 1) x.sender)
    (h2 : (Rp.int .u64).rel w S ((cs.drop 2).take 1) x.sequence)
    (h3 : (Rp.int .u64).rel w S ((cs.drop 3).take 1) x.gas)
    (h4 : (Rp.int .u64).rel w S ((cs.drop 4).take 1) x.priority)
    : Rp.result.rel w S cs x := by
  show (Rp.pair (Rp.int .i64) (Rp.pair Rp.str (Rp.pair (Rp.int .u64) (Rp.pair (Rp.int .u64) (Rp.int .u64))))).rel w S cs (x.code, x.sender, x.sequence, x.gas, x.priority)
  simp only [Rp.pair_iff]
  refine ⟨?_, ?_, ?_, ?_, ?_⟩
  · refine cast (congrArg (fun l => (Rp.int .i64).rel w S l x.code) ?_) h0
    first | rfl | (simp only [List.drop_drop]; rfl)
  · refine cast (congrArg (fun l => Rp.str.rel w S l x.sender) ?_) h1
    first | rfl | (simp only [List.drop_drop]; rfl)
  · refine cast (congrArg (fun l => (Rp.int .u64).rel w S l x.sequence) ?_) h2
    first | rfl | (simp only [List.drop_drop]; rfl)
  · refine cast (congrArg (fun l => (Rp.int .u64).rel w S l x.gas) ?_) h3
    first | rfl | (simp only [List.drop_drop]; rfl)
  · refine cast (congrArg (fun l => (Rp.int .u64).rel w S l x.priority) ?_) h4
    have e : cs.drop 4 = (cs.drop 4).take 1 := (List.take_of_length_le (by simp [hl])).symm
    refine e.symm.trans ?_
    first | rfl | (simp only [List.drop_drop]; rfl)
structure MApp where
  committed : MLedger
  check : MLedger
  next : MLedger
  open_ : Bool
  price : Int
  deriving DecidableEq, Inhabited
def Rp.app : Rp MApp := Rp.via (fun x => (x.committed, x.check, x.next, x.open_, x.price)) (Rp.pair Rp.ledger (Rp.pair Rp.ledger (Rp.pair Rp.ledger (Rp.pair Rp.bool (Rp.int .u64)))))
theorem Rp.app_size : Rp.app.size = 8 := rfl
theorem Rp.app_fields {w : World} {S : Fp} {cs : List Value} {x : MApp} (h : Rp.app.rel w S cs x) :
    Rp.ledger.rel w S ((cs.drop 0).take 2) x.committed ∧
    Rp.ledger.rel w S ((cs.drop 2).take 2) x.check ∧
    Rp.ledger.rel w S ((cs.drop 4).take 2) x.next ∧
    Rp.bool.rel w S ((cs.drop 6).take 1) x.open_ ∧
    (Rp.int .u64).rel w S ((cs.drop 7).take 1) x.price := by
  have hl : cs.length = 8 := Rp.app.len h
  have h : (Rp.pair Rp.ledger (Rp.pair Rp.ledger (Rp.pair Rp.ledger (Rp.pair Rp.bool (Rp.int .u64))))).rel w S cs (x.committed, x.check, x.next, x.open_, x.price) := h
  simp only [Rp.pair_iff] at h
  obtain ⟨h0, h1, h2, h3, h4⟩ := h
  refine ⟨?_, ?_, ?_, ?_, ?_⟩
  · refine cast (congrArg (fun l => Rp.ledger.rel w S l x.committed) ?_) h0
    first | rfl | (simp only [List.drop_drop]; rfl)
  · refine cast (congrArg (fun l => Rp.ledger.rel w S l x.check) ?_) h1
    first | rfl | (simp only [List.drop_drop]; rfl)
  · refine cast (congrArg (fun l => Rp.ledger.rel w S l x.next) ?_) h2
    first | rfl | (simp only [List.drop_drop]; rfl)
  · refine cast (congrArg (fun l => Rp.bool.rel w S l x.open_) ?_) h3
    first | rfl | (simp only [List.drop_drop]; rfl)
  · refine cast (congrArg (fun l => (Rp.int .u64).rel w S l x.price) ?_) h4
    have e : cs.drop 7 = (cs.drop 7).take 1 := (List.take_of_length_le (by simp [hl])).symm
    refine Eq.trans ?_ e
    first | rfl | (simp only [List.drop_drop]; rfl)
theorem Rp.app_mk {w : World} {S : Fp} {cs : List Value} {x : MApp} (hl : cs.length = 8)
    (h0 : Rp.ledger.rel w S ((cs.drop 0).take 2) x.committed)
    (h1 : Rp.ledger.rel w S ((cs.drop 2).take 2) x.check)
    (h2 : Rp.ledger.rel w S ((cs.drop 4).take 2) x.next)
    (h3 : Rp.bool.rel w S ((cs.drop 6).take 1) x.open_)
    (h4 : (Rp.int .u64).rel w S ((cs.drop 7).take 1) x.price)
    : Rp.app.rel w S cs x := by
  show (Rp.pair Rp.ledger (Rp.pair Rp.ledger (Rp.pair Rp.ledger (Rp.pair Rp.bool (Rp.int .u64))))).rel w S cs (x.committed, x.check, x.next, x.open_, x.price)
  simp only [Rp.pair_iff]
  refine ⟨?_, ?_, ?_, ?_, ?_⟩
  · refine cast (congrArg (fun l => Rp.ledger.rel w S l x.committed) ?_) h0
    first | rfl | (simp only [List.drop_drop]; rfl)
  · refine cast (congrArg (fun l => Rp.ledger.rel w S l x.check) ?_) h1
    first | rfl | (simp only [List.drop_drop]; rfl)
  · refine cast (congrArg (fun l => Rp.ledger.rel w S l x.next) ?_) h2
    first | rfl | (simp only [List.drop_drop]; rfl)
  · refine cast (congrArg (fun l => Rp.bool.rel w S l x.open_) ?_) h3
    first | rfl | (simp only [List.drop_drop]; rfl)
  · refine cast (congrArg (fun l => (Rp.int .u64).rel w S l x.price) ?_) h4
    have e : cs.drop 7 = (cs.drop 7).take 1 := (List.take_of_length_le (by simp [hl])).symm
    refine e.symm.trans ?_
    first | rfl | (simp only [List.drop_drop]; rfl)
structure MConfig where
  maxTxs : Int
  maxBytes : Int
  maxTxBytes : Int
  cacheSize : Int
  ttlBlocks : Int
  ttlTime : Int
  keepInvalid : Bool
  blockBytes : Int
  blockGas : Int
  price : Int
  self : Int
  nodes : Int
  deriving DecidableEq, Inhabited
def Rp.config : Rp MConfig := Rp.via (fun x => (x.maxTxs, x.maxBytes, x.maxTxBytes, x.cacheSize, x.ttlBlocks, x.ttlTime, x.keepInvalid, x.blockBytes, x.blockGas, x.price, x.self, x.nodes)) (Rp.pair (Rp.int .i64) (Rp.pair (Rp.int .i64) (Rp.pair (Rp.int .i64) (Rp.pair (Rp.int .i64) (Rp.pair (Rp.int .i64) (Rp.pair (Rp.int .i64) (Rp.pair Rp.bool (Rp.pair (Rp.int .i64) (Rp.pair (Rp.int .i64) (Rp.pair (Rp.int .u64) (Rp.pair (Rp.int .i64) (Rp.int .i64))))))))))))
theorem Rp.config_size : Rp.config.size = 12 := rfl
theorem Rp.config_fields {w : World} {S : Fp} {cs : List Value} {x : MConfig} (h : Rp.config.rel w S cs x) :
    (Rp.int .i64).rel w S ((cs.drop 0).take 1) x.maxTxs ∧
    (Rp.int .i64).rel w S ((cs.drop 1).take 1) x.maxBytes ∧
    (Rp.int .i64).rel w S ((cs.drop 2).take 1) x.maxTxBytes ∧
    (Rp.int .i64).rel w S ((cs.drop 3).take 1) x.cacheSize ∧
    (Rp.int .i64).rel w S ((cs.drop 4).take 1) x.ttlBlocks ∧
    (Rp.int .i64).rel w S ((cs.drop 5).take 1) x.ttlTime ∧
    Rp.bool.rel w S ((cs.drop 6).take 1) x.keepInvalid ∧
    (Rp.int .i64).rel w S ((cs.drop 7).take 1) x.blockBytes ∧
    (Rp.int .i64).rel w S ((cs.drop 8).take 1) x.blockGas ∧
    (Rp.int .u64).rel w S ((cs.drop 9).take 1) x.price ∧
    (Rp.int .i64).rel w S ((cs.drop 10).take 1) x.self ∧
    (Rp.int .i64).rel w S ((cs.drop 11).take 1) x.nodes := by
  have hl : cs.length = 12 := Rp.config.len h
  have h : (Rp.pair (Rp.int .i64) (Rp.pair (Rp.int .i64) (Rp.pair (Rp.int .i64) (Rp.pair (Rp.int .i64) (Rp.pair (Rp.int .i64) (Rp.pair (Rp.int .i64) (Rp.pair Rp.bool (Rp.pair (Rp.int .i64) (Rp.pair (Rp.int .i64) (Rp.pair (Rp.int .u64) (Rp.pair (Rp.int .i64) (Rp.int .i64)))))))))))).rel w S cs (x.maxTxs, x.maxBytes, x.maxTxBytes, x.cacheSize, x.ttlBlocks, x.ttlTime, x.keepInvalid, x.blockBytes, x.blockGas, x.price, x.self, x.nodes) := h
  simp only [Rp.pair_iff] at h
  obtain ⟨h0, h1, h2, h3, h4, h5, h6, h7, h8, h9, h10, h11⟩ := h
  refine ⟨?_, ?_, ?_, ?_, ?_, ?_, ?_, ?_, ?_, ?_, ?_, ?_⟩
  · refine cast (congrArg (fun l => (Rp.int .i64).rel w S l x.maxTxs) ?_) h0
    first | rfl | (simp only [List.drop_drop]; rfl)
  · refine cast (congrArg (fun l => (Rp.int .i64).rel w S l x.maxBytes) ?_) h1
    first | rfl | (simp only [List.drop_drop]; rfl)
  · refine cast (congrArg (fun l => (Rp.int .i64).rel w S l x.maxTxBytes) ?_) h2
    first | rfl | (simp only [List.drop_drop]; rfl)
  · refine cast (congrArg (fun l => (Rp.int .i64).rel w S l x.cacheSize) ?_) h3
    first | rfl | (simp only [List.drop_drop]; rfl)
  · refine cast (congrArg (fun l => (Rp.int .i64).rel w S l x.ttlBlocks) ?_) h4
    first | rfl | (simp only [List.drop_drop]; rfl)
  · refine cast (congrArg (fun l => (Rp.int .i64).rel w S l x.ttlTime) ?_) h5
    first | rfl | (simp only [List.drop_drop]; rfl)
  · refine cast (congrArg (fun l => Rp.bool.rel w S l x.keepInvalid) ?_) h6
    first | rfl | (simp only [List.drop_drop]; rfl)
  · refine cast (congrArg (fun l => (Rp.int .i64).rel w S l x.blockBytes) ?_) h7
    first | rfl | (simp only [List.drop_drop]; rfl)
  · refine cast (congrArg (fun l => (Rp.int .i64).rel w S l x.blockGas) ?_) h8
    first | rfl | (simp only [List.drop_drop]; rfl)
  · refine cast (congrArg (fun l => (Rp.int .u64).rel w S l x.price) ?_) h9
    first | rfl | (simp only [List.drop_drop]; rfl)
  · refine cast (congrArg (fun l => (Rp.int .i64).rel w S l x.self) ?_) h10
    first | rfl | (simp only [List.drop_drop]; rfl)
  · refine cast (congrArg (fun l => (Rp.int .i64).rel w S l x.nodes) ?_) h11
    have e : cs.drop 11 = (cs.drop 11).take 1 := (List.take_of_length_le (by simp [hl])).symm
    refine Eq.trans ?_ e
    first | rfl | (simp only [List.drop_drop]; rfl)
theorem Rp.config_mk {w : World} {S : Fp} {cs : List Value} {x : MConfig} (hl : cs.length = 12)
    (h0 : (Rp.int .i64).rel w S ((cs.drop 0).take 1) x.maxTxs)
    (h1 : (Rp.int .i64).rel w S ((cs.drop 1).take 1) x.maxBytes)
    (h2 : (Rp.int .i64).rel w S ((cs.drop 2).take 1) x.maxTxBytes)
    (h3 : (Rp.int .i64).rel w S ((cs.drop 3).take 1) x.cacheSize)
    (h4 : (Rp.int .i64).rel w S ((cs.drop 4).take 1) x.ttlBlocks)
    (h5 : (Rp.int .i64).rel w S ((cs.drop 5).take 1) x.ttlTime)
    (h6 : Rp.bool.rel w S ((cs.drop 6).take 1) x.keepInvalid)
    (h7 : (Rp.int .i64).rel w S ((cs.drop 7).take 1) x.blockBytes)
    (h8 : (Rp.int .i64).rel w S ((cs.drop 8).take 1) x.blockGas)
    (h9 : (Rp.int .u64).rel w S ((cs.drop 9).take 1) x.price)
    (h10 : (Rp.int .i64).rel w S ((cs.drop 10).take 1) x.self)
    (h11 : (Rp.int .i64).rel w S ((cs.drop 11).take 1) x.nodes)
    : Rp.config.rel w S cs x := by
  show (Rp.pair (Rp.int .i64) (Rp.pair (Rp.int .i64) (Rp.pair (Rp.int .i64) (Rp.pair (Rp.int .i64) (Rp.pair (Rp.int .i64) (Rp.pair (Rp.int .i64) (Rp.pair Rp.bool (Rp.pair (Rp.int .i64) (Rp.pair (Rp.int .i64) (Rp.pair (Rp.int .u64) (Rp.pair (Rp.int .i64) (Rp.int .i64)))))))))))).rel w S cs (x.maxTxs, x.maxBytes, x.maxTxBytes, x.cacheSize, x.ttlBlocks, x.ttlTime, x.keepInvalid, x.blockBytes, x.blockGas, x.price, x.self, x.nodes)
  simp only [Rp.pair_iff]
  refine ⟨?_, ?_, ?_, ?_, ?_, ?_, ?_, ?_, ?_, ?_, ?_, ?_⟩
  · refine cast (congrArg (fun l => (Rp.int .i64).rel w S l x.maxTxs) ?_) h0
    first | rfl | (simp only [List.drop_drop]; rfl)
  · refine cast (congrArg (fun l => (Rp.int .i64).rel w S l x.maxBytes) ?_) h1
    first | rfl | (simp only [List.drop_drop]; rfl)
  · refine cast (congrArg (fun l => (Rp.int .i64).rel w S l x.maxTxBytes) ?_) h2
    first | rfl | (simp only [List.drop_drop]; rfl)
  · refine cast (congrArg (fun l => (Rp.int .i64).rel w S l x.cacheSize) ?_) h3
    first | rfl | (simp only [List.drop_drop]; rfl)
  · refine cast (congrArg (fun l => (Rp.int .i64).rel w S l x.ttlBlocks) ?_) h4
    first | rfl | (simp only [List.drop_drop]; rfl)
  · refine cast (congrArg (fun l => (Rp.int .i64).rel w S l x.ttlTime) ?_) h5
    first | rfl | (simp only [List.drop_drop]; rfl)
  · refine cast (congrArg (fun l => Rp.bool.rel w S l x.keepInvalid) ?_) h6
    first | rfl | (simp only [List.drop_drop]; rfl)
  · refine cast (congrArg (fun l => (Rp.int .i64).rel w S l x.blockBytes) ?_) h7
    first | rfl | (simp only [List.drop_drop]; rfl)
  · refine cast (congrArg (fun l => (Rp.int .i64).rel w S l x.blockGas) ?_) h8
    first | rfl | (simp only [List.drop_drop]; rfl)
  · refine cast (congrArg (fun l => (Rp.int .u64).rel w S l x.price) ?_) h9
    first | rfl | (simp only [List.drop_drop]; rfl)
  · refine cast (congrArg (fun l => (Rp.int .i64).rel w S l x.self) ?_) h10
    first | rfl | (simp only [List.drop_drop]; rfl)
  · refine cast (congrArg (fun l => (Rp.int .i64).rel w S l x.nodes) ?_) h11
    have e : cs.drop 11 = (cs.drop 11).take 1 := (List.take_of_length_le (by simp [hl])).symm
    refine e.symm.trans ?_
    first | rfl | (simp only [List.drop_drop]; rfl)
structure MItem where
  id : Int
  priority : Int
  order : Int
  deriving DecidableEq, Inhabited
def Rp.item : Rp MItem := Rp.via (fun x => (x.id, x.priority, x.order)) (Rp.pair (Rp.int .i64) (Rp.pair (Rp.int .u64) (Rp.int .i64)))
theorem Rp.item_size : Rp.item.size = 3 := rfl
theorem Rp.item_fields {w : World} {S : Fp} {cs : List Value} {x : MItem} (h : Rp.item.rel w S cs x) :
    (Rp.int .i64).rel w S ((cs.drop 0).take 1) x.id ∧
    (Rp.int .u64).rel w S ((cs.drop 1).take 1) x.priority ∧
    (Rp.int .i64).rel w S ((cs.drop 2).take 1) x.order := by
  have hl : cs.length = 3 := Rp.item.len h
  have h : (Rp.pair (Rp.int .i64) (Rp.pair (Rp.int .u64) (Rp.int .i64))).rel w S cs (x.id, x.priority, x.order) := h
  simp only [Rp.pair_iff] at h
  obtain ⟨h0, h1, h2⟩ := h
  refine ⟨?_, ?_, ?_⟩
  · refine cast (congrArg (fun l => (Rp.int .i64).rel w S l x.id) ?_) h0
    first | rfl | (simp only [List.drop_drop]; rfl)
  · refine cast (congrArg (fun l => (Rp.int .u64).rel w S l x.priority) ?_) h1
    first | rfl | (simp only [List.drop_drop]; rfl)
  · refine cast (congrArg (fun l => (Rp.int .i64).rel w S l x.order) ?_) h2
    have e : cs.drop 2 = (cs.drop 2).take 1 := (List.take_of_length_le (by simp [hl])).symm
    refine Eq.trans ?_ e
    first | rfl | (simp only [List.drop_drop]; rfl)
theorem Rp.item_mk {w : World} {S : Fp} {cs : List Value} {x : MItem} (hl : cs.length = 3)
    (h0 : (Rp.int .i64).rel w S ((cs.drop 0).take 1) x.id)
    (h1 : (Rp.int .u64).rel w S ((cs.drop 1).take 1) x.priority)
    (h2 : (Rp.int .i64).rel w S ((cs.drop 2).take 1) x.order)
    : Rp.item.rel w S cs x := by
  show (Rp.pair (Rp.int .i64) (Rp.pair (Rp.int .u64) (Rp.int .i64))).rel w S cs (x.id, x.priority, x.order)
  simp only [Rp.pair_iff]
  refine ⟨?_, ?_, ?_⟩
  · refine cast (congrArg (fun l => (Rp.int .i64).rel w S l x.id) ?_) h0
    first | rfl | (simp only [List.drop_drop]; rfl)
  · refine cast (congrArg (fun l => (Rp.int .u64).rel w S l x.priority) ?_) h1
    first | rfl | (simp only [List.drop_drop]; rfl)
  · refine cast (congrArg (fun l => (Rp.int .i64).rel w S l x.order) ?_) h2
    have e : cs.drop 2 = (cs.drop 2).take 1 := (List.take_of_length_le (by simp [hl])).symm
    refine e.symm.trans ?_
    first | rfl | (simp only [List.drop_drop]; rfl)
structure MHandle where
  slot : Int
  use : Int
  deriving DecidableEq, Inhabited
def Rp.handle : Rp MHandle := Rp.via (fun x => (x.slot, x.use)) (Rp.pair (Rp.int .i64) (Rp.int .i64))
theorem Rp.handle_size : Rp.handle.size = 2 := rfl
theorem Rp.handle_fields {w : World} {S : Fp} {cs : List Value} {x : MHandle} (h : Rp.handle.rel w S cs x) :
    (Rp.int .i64).rel w S ((cs.drop 0).take 1) x.slot ∧
    (Rp.int .i64).rel w S ((cs.drop 1).take 1) x.use := by
  have hl : cs.length = 2 := Rp.handle.len h
  have h : (Rp.pair (Rp.int .i64) (Rp.int .i64)).rel w S cs (x.slot, x.use) := h
  simp only [Rp.pair_iff] at h
  obtain ⟨h0, h1⟩ := h
  refine ⟨?_, ?_⟩
  · refine cast (congrArg (fun l => (Rp.int .i64).rel w S l x.slot) ?_) h0
    first | rfl | (simp only [List.drop_drop]; rfl)
  · refine cast (congrArg (fun l => (Rp.int .i64).rel w S l x.use) ?_) h1
    have e : cs.drop 1 = (cs.drop 1).take 1 := (List.take_of_length_le (by simp [hl])).symm
    refine Eq.trans ?_ e
    first | rfl | (simp only [List.drop_drop]; rfl)
theorem Rp.handle_mk {w : World} {S : Fp} {cs : List Value} {x : MHandle} (hl : cs.length = 2)
    (h0 : (Rp.int .i64).rel w S ((cs.drop 0).take 1) x.slot)
    (h1 : (Rp.int .i64).rel w S ((cs.drop 1).take 1) x.use)
    : Rp.handle.rel w S cs x := by
  show (Rp.pair (Rp.int .i64) (Rp.int .i64)).rel w S cs (x.slot, x.use)
  simp only [Rp.pair_iff]
  refine ⟨?_, ?_⟩
  · refine cast (congrArg (fun l => (Rp.int .i64).rel w S l x.slot) ?_) h0
    first | rfl | (simp only [List.drop_drop]; rfl)
  · refine cast (congrArg (fun l => (Rp.int .i64).rel w S l x.use) ?_) h1
    have e : cs.drop 1 = (cs.drop 1).take 1 := (List.take_of_length_le (by simp [hl])).symm
    refine e.symm.trans ?_
    first | rfl | (simp only [List.drop_drop]; rfl)
structure MEntry where
  key : List Int
  raw : List Int
  sender : ByteArray
  sequence : Int
  gas : Int
  priority : Int
  height : Int
  time : Int
  order : Int
  peers : List Int
  deriving DecidableEq, Inhabited
def Rp.entry : Rp MEntry := Rp.via (fun x => (x.key, x.raw, x.sender, x.sequence, x.gas, x.priority, x.height, x.time, x.order, x.peers)) (Rp.pair Rp.key (Rp.pair Rp.bytes (Rp.pair Rp.str (Rp.pair (Rp.int .u64) (Rp.pair (Rp.int .u64) (Rp.pair (Rp.int .u64) (Rp.pair (Rp.int .i64) (Rp.pair (Rp.int .i64) (Rp.pair (Rp.int .i64) Rp.ints)))))))))
theorem Rp.entry_size : Rp.entry.size = 41 := rfl
theorem Rp.entry_fields {w : World} {S : Fp} {cs : List Value} {x : MEntry} (h : Rp.entry.rel w S cs x) :
    Rp.key.rel w S ((cs.drop 0).take 32) x.key ∧
    Rp.bytes.rel w S ((cs.drop 32).take 1) x.raw ∧
    Rp.str.rel w S ((cs.drop 33).take 1) x.sender ∧
    (Rp.int .u64).rel w S ((cs.drop 34).take 1) x.sequence ∧
    (Rp.int .u64).rel w S ((cs.drop 35).take 1) x.gas ∧
    (Rp.int .u64).rel w S ((cs.drop 36).take 1) x.priority ∧
    (Rp.int .i64).rel w S ((cs.drop 37).take 1) x.height ∧
    (Rp.int .i64).rel w S ((cs.drop 38).take 1) x.time ∧
    (Rp.int .i64).rel w S ((cs.drop 39).take 1) x.order ∧
    Rp.ints.rel w S ((cs.drop 40).take 1) x.peers := by
  have hl : cs.length = 41 := Rp.entry.len h
  have h : (Rp.pair Rp.key (Rp.pair Rp.bytes (Rp.pair Rp.str (Rp.pair (Rp.int .u64) (Rp.pair (Rp.int .u64) (Rp.pair (Rp.int .u64) (Rp.pair (Rp.int .i64) (Rp.pair (Rp.int .i64) (Rp.pair (Rp.int .i64) Rp.ints))))))))).rel w S cs (x.key, x.raw, x.sender, x.sequence, x.gas, x.priority, x.height, x.time, x.order, x.peers) := h
  simp only [Rp.pair_iff] at h
  obtain ⟨h0, h1, h2, h3, h4, h5, h6, h7, h8, h9⟩ := h
  refine ⟨?_, ?_, ?_, ?_, ?_, ?_, ?_, ?_, ?_, ?_⟩
  · refine cast (congrArg (fun l => Rp.key.rel w S l x.key) ?_) h0
    first | rfl | (simp only [List.drop_drop]; rfl)
  · refine cast (congrArg (fun l => Rp.bytes.rel w S l x.raw) ?_) h1
    first | rfl | (simp only [List.drop_drop]; rfl)
  · refine cast (congrArg (fun l => Rp.str.rel w S l x.sender) ?_) h2
    first | rfl | (simp only [List.drop_drop]; rfl)
  · refine cast (congrArg (fun l => (Rp.int .u64).rel w S l x.sequence) ?_) h3
    first | rfl | (simp only [List.drop_drop]; rfl)
  · refine cast (congrArg (fun l => (Rp.int .u64).rel w S l x.gas) ?_) h4
    first | rfl | (simp only [List.drop_drop]; rfl)
  · refine cast (congrArg (fun l => (Rp.int .u64).rel w S l x.priority) ?_) h5
    first | rfl | (simp only [List.drop_drop]; rfl)
  · refine cast (congrArg (fun l => (Rp.int .i64).rel w S l x.height) ?_) h6
    first | rfl | (simp only [List.drop_drop]; rfl)
  · refine cast (congrArg (fun l => (Rp.int .i64).rel w S l x.time) ?_) h7
    first | rfl | (simp only [List.drop_drop]; rfl)
  · refine cast (congrArg (fun l => (Rp.int .i64).rel w S l x.order) ?_) h8
    first | rfl | (simp only [List.drop_drop]; rfl)
  · refine cast (congrArg (fun l => Rp.ints.rel w S l x.peers) ?_) h9
    have e : cs.drop 40 = (cs.drop 40).take 1 := (List.take_of_length_le (by simp [hl])).symm
    refine Eq.trans ?_ e
    first | rfl | (simp only [List.drop_drop]; rfl)
theorem Rp.entry_mk {w : World} {S : Fp} {cs : List Value} {x : MEntry} (hl : cs.length = 41)
    (h0 : Rp.key.rel w S ((cs.drop 0).take 32) x.key)
    (h1 : Rp.bytes.rel w S ((cs.drop 32).take 1) x.raw)
    (h2 : Rp.str.rel w S ((cs.drop 33).take 1) x.sender)
    (h3 : (Rp.int .u64).rel w S ((cs.drop 34).take 1) x.sequence)
    (h4 : (Rp.int .u64).rel w S ((cs.drop 35).take 1) x.gas)
    (h5 : (Rp.int .u64).rel w S ((cs.drop 36).take 1) x.priority)
    (h6 : (Rp.int .i64).rel w S ((cs.drop 37).take 1) x.height)
    (h7 : (Rp.int .i64).rel w S ((cs.drop 38).take 1) x.time)
    (h8 : (Rp.int .i64).rel w S ((cs.drop 39).take 1) x.order)
    (h9 : Rp.ints.rel w S ((cs.drop 40).take 1) x.peers)
    : Rp.entry.rel w S cs x := by
  show (Rp.pair Rp.key (Rp.pair Rp.bytes (Rp.pair Rp.str (Rp.pair (Rp.int .u64) (Rp.pair (Rp.int .u64) (Rp.pair (Rp.int .u64) (Rp.pair (Rp.int .i64) (Rp.pair (Rp.int .i64) (Rp.pair (Rp.int .i64) Rp.ints))))))))).rel w S cs (x.key, x.raw, x.sender, x.sequence, x.gas, x.priority, x.height, x.time, x.order, x.peers)
  simp only [Rp.pair_iff]
  refine ⟨?_, ?_, ?_, ?_, ?_, ?_, ?_, ?_, ?_, ?_⟩
  · refine cast (congrArg (fun l => Rp.key.rel w S l x.key) ?_) h0
    first | rfl | (simp only [List.drop_drop]; rfl)
  · refine cast (congrArg (fun l => Rp.bytes.rel w S l x.raw) ?_) h1
    first | rfl | (simp only [List.drop_drop]; rfl)
  · refine cast (congrArg (fun l => Rp.str.rel w S l x.sender) ?_) h2
    first | rfl | (simp only [List.drop_drop]; rfl)
  · refine cast (congrArg (fun l => (Rp.int .u64).rel w S l x.sequence) ?_) h3
    first | rfl | (simp only [List.drop_drop]; rfl)
  · refine cast (congrArg (fun l => (Rp.int .u64).rel w S l x.gas) ?_) h4
    first | rfl | (simp only [List.drop_drop]; rfl)
  · refine cast (congrArg (fun l => (Rp.int .u64).rel w S l x.priority) ?_) h5
    first | rfl | (simp only [List.drop_drop]; rfl)
  · refine cast (congrArg (fun l => (Rp.int .i64).rel w S l x.height) ?_) h6
    first | rfl | (simp only [List.drop_drop]; rfl)
  · refine cast (congrArg (fun l => (Rp.int .i64).rel w S l x.time) ?_) h7
    first | rfl | (simp only [List.drop_drop]; rfl)
  · refine cast (congrArg (fun l => (Rp.int .i64).rel w S l x.order) ?_) h8
    first | rfl | (simp only [List.drop_drop]; rfl)
  · refine cast (congrArg (fun l => Rp.ints.rel w S l x.peers) ?_) h9
    have e : cs.drop 40 = (cs.drop 40).take 1 := (List.take_of_length_le (by simp [hl])).symm
    refine e.symm.trans ?_
    first | rfl | (simp only [List.drop_drop]; rfl)
structure MState where
  config : MConfig
  app : MApp
  height : Int
  time : Int
  arrived : Int
  entries : List MEntry
  cache : List (List Int)
  deriving DecidableEq, Inhabited
def Rp.state : Rp MState := Rp.via (fun x => (x.config, x.app, x.height, x.time, x.arrived, x.entries, x.cache)) (Rp.pair Rp.config (Rp.pair Rp.app (Rp.pair (Rp.int .i64) (Rp.pair (Rp.int .i64) (Rp.pair (Rp.int .i64) (Rp.pair (Rp.slice Rp.entry) (Rp.slice Rp.key)))))))
theorem Rp.state_size : Rp.state.size = 25 := rfl
theorem Rp.state_fields {w : World} {S : Fp} {cs : List Value} {x : MState} (h : Rp.state.rel w S cs x) :
    Rp.config.rel w S ((cs.drop 0).take 12) x.config ∧
    Rp.app.rel w S ((cs.drop 12).take 8) x.app ∧
    (Rp.int .i64).rel w S ((cs.drop 20).take 1) x.height ∧
    (Rp.int .i64).rel w S ((cs.drop 21).take 1) x.time ∧
    (Rp.int .i64).rel w S ((cs.drop 22).take 1) x.arrived ∧
    (Rp.slice Rp.entry).rel w S ((cs.drop 23).take 1) x.entries ∧
    (Rp.slice Rp.key).rel w S ((cs.drop 24).take 1) x.cache := by
  have hl : cs.length = 25 := Rp.state.len h
  have h : (Rp.pair Rp.config (Rp.pair Rp.app (Rp.pair (Rp.int .i64) (Rp.pair (Rp.int .i64) (Rp.pair (Rp.int .i64) (Rp.pair (Rp.slice Rp.entry) (Rp.slice Rp.key))))))).rel w S cs (x.config, x.app, x.height, x.time, x.arrived, x.entries, x.cache) := h
  simp only [Rp.pair_iff] at h
  obtain ⟨h0, h1, h2, h3, h4, h5, h6⟩ := h
  refine ⟨?_, ?_, ?_, ?_, ?_, ?_, ?_⟩
  · refine cast (congrArg (fun l => Rp.config.rel w S l x.config) ?_) h0
    first | rfl | (simp only [List.drop_drop]; rfl)
  · refine cast (congrArg (fun l => Rp.app.rel w S l x.app) ?_) h1
    first | rfl | (simp only [List.drop_drop]; rfl)
  · refine cast (congrArg (fun l => (Rp.int .i64).rel w S l x.height) ?_) h2
    first | rfl | (simp only [List.drop_drop]; rfl)
  · refine cast (congrArg (fun l => (Rp.int .i64).rel w S l x.time) ?_) h3
    first | rfl | (simp only [List.drop_drop]; rfl)
  · refine cast (congrArg (fun l => (Rp.int .i64).rel w S l x.arrived) ?_) h4
    first | rfl | (simp only [List.drop_drop]; rfl)
  · refine cast (congrArg (fun l => (Rp.slice Rp.entry).rel w S l x.entries) ?_) h5
    first | rfl | (simp only [List.drop_drop]; rfl)
  · refine cast (congrArg (fun l => (Rp.slice Rp.key).rel w S l x.cache) ?_) h6
    have e : cs.drop 24 = (cs.drop 24).take 1 := (List.take_of_length_le (by simp [hl])).symm
    refine Eq.trans ?_ e
    first | rfl | (simp only [List.drop_drop]; rfl)
theorem Rp.state_mk {w : World} {S : Fp} {cs : List Value} {x : MState} (hl : cs.length = 25)
    (h0 : Rp.config.rel w S ((cs.drop 0).take 12) x.config)
    (h1 : Rp.app.rel w S ((cs.drop 12).take 8) x.app)
    (h2 : (Rp.int .i64).rel w S ((cs.drop 20).take 1) x.height)
    (h3 : (Rp.int .i64).rel w S ((cs.drop 21).take 1) x.time)
    (h4 : (Rp.int .i64).rel w S ((cs.drop 22).take 1) x.arrived)
    (h5 : (Rp.slice Rp.entry).rel w S ((cs.drop 23).take 1) x.entries)
    (h6 : (Rp.slice Rp.key).rel w S ((cs.drop 24).take 1) x.cache)
    : Rp.state.rel w S cs x := by
  show (Rp.pair Rp.config (Rp.pair Rp.app (Rp.pair (Rp.int .i64) (Rp.pair (Rp.int .i64) (Rp.pair (Rp.int .i64) (Rp.pair (Rp.slice Rp.entry) (Rp.slice Rp.key))))))).rel w S cs (x.config, x.app, x.height, x.time, x.arrived, x.entries, x.cache)
  simp only [Rp.pair_iff]
  refine ⟨?_, ?_, ?_, ?_, ?_, ?_, ?_⟩
  · refine cast (congrArg (fun l => Rp.config.rel w S l x.config) ?_) h0
    first | rfl | (simp only [List.drop_drop]; rfl)
  · refine cast (congrArg (fun l => Rp.app.rel w S l x.app) ?_) h1
    first | rfl | (simp only [List.drop_drop]; rfl)
  · refine cast (congrArg (fun l => (Rp.int .i64).rel w S l x.height) ?_) h2
    first | rfl | (simp only [List.drop_drop]; rfl)
  · refine cast (congrArg (fun l => (Rp.int .i64).rel w S l x.time) ?_) h3
    first | rfl | (simp only [List.drop_drop]; rfl)
  · refine cast (congrArg (fun l => (Rp.int .i64).rel w S l x.arrived) ?_) h4
    first | rfl | (simp only [List.drop_drop]; rfl)
  · refine cast (congrArg (fun l => (Rp.slice Rp.entry).rel w S l x.entries) ?_) h5
    first | rfl | (simp only [List.drop_drop]; rfl)
  · refine cast (congrArg (fun l => (Rp.slice Rp.key).rel w S l x.cache) ?_) h6
    have e : cs.drop 24 = (cs.drop 24).take 1 := (List.take_of_length_le (by simp [hl])).symm
    refine e.symm.trans ?_
    first | rfl | (simp only [List.drop_drop]; rfl)
structure MReply where
  err : Int
  key : List Int
  priority : Int
  evicted : List (List Int)
  expired : List (List Int)
  invalid : List (List Int)
  done : List (List Int)
  flushed : List (List Int)
  txs : List (List Int)
  height : Int
  digest : List Int
  deriving DecidableEq, Inhabited
def Rp.reply : Rp MReply := Rp.via (fun x => (x.err, x.key, x.priority, x.evicted, x.expired, x.invalid, x.done, x.flushed, x.txs, x.height, x.digest)) (Rp.pair (Rp.int .i64) (Rp.pair Rp.key (Rp.pair (Rp.int .u64) (Rp.pair (Rp.slice Rp.key) (Rp.pair (Rp.slice Rp.key) (Rp.pair (Rp.slice Rp.key) (Rp.pair (Rp.slice Rp.key) (Rp.pair (Rp.slice Rp.key) (Rp.pair (Rp.slice Rp.bytes) (Rp.pair (Rp.int .i64) Rp.key))))))))))
theorem Rp.reply_size : Rp.reply.size = 73 := rfl
theorem Rp.reply_fields {w : World} {S : Fp} {cs : List Value} {x : MReply} (h : Rp.reply.rel w S cs x) :
    (Rp.int .i64).rel w S ((cs.drop 0).take 1) x.err ∧
    Rp.key.rel w S ((cs.drop 1).take 32) x.key ∧
    (Rp.int .u64).rel w S ((cs.drop 33).take 1) x.priority ∧
    (Rp.slice Rp.key).rel w S ((cs.drop 34).take 1) x.evicted ∧
    (Rp.slice Rp.key).rel w S ((cs.drop 35).take 1) x.expired ∧
    (Rp.slice Rp.key).rel w S ((cs.drop 36).take 1) x.invalid ∧
    (Rp.slice Rp.key).rel w S ((cs.drop 37).take 1) x.done ∧
    (Rp.slice Rp.key).rel w S ((cs.drop 38).take 1) x.flushed ∧
    (Rp.slice Rp.bytes).rel w S ((cs.drop 39).take 1) x.txs ∧
    (Rp.int .i64).rel w S ((cs.drop 40).take 1) x.height ∧
    Rp.key.rel w S ((cs.drop 41).take 32) x.digest := by
  have hl : cs.length = 73 := Rp.reply.len h
  have h : (Rp.pair (Rp.int .i64) (Rp.pair Rp.key (Rp.pair (Rp.int .u64) (Rp.pair (Rp.slice Rp.key) (Rp.pair (Rp.slice Rp.key) (Rp.pair (Rp.slice Rp.key) (Rp.pair (Rp.slice Rp.key) (Rp.pair (Rp.slice Rp.key) (Rp.pair (Rp.slice Rp.bytes) (Rp.pair (Rp.int .i64) Rp.key)))))))))).rel w S cs (x.err, x.key, x.priority, x.evicted, x.expired, x.invalid, x.done, x.flushed, x.txs, x.height, x.digest) := h
  simp only [Rp.pair_iff] at h
  obtain ⟨h0, h1, h2, h3, h4, h5, h6, h7, h8, h9, h10⟩ := h
  refine ⟨?_, ?_, ?_, ?_, ?_, ?_, ?_, ?_, ?_, ?_, ?_⟩
  · refine cast (congrArg (fun l => (Rp.int .i64).rel w S l x.err) ?_) h0
    first | rfl | (simp only [List.drop_drop]; rfl)
  · refine cast (congrArg (fun l => Rp.key.rel w S l x.key) ?_) h1
    first | rfl | (simp only [List.drop_drop]; rfl)
  · refine cast (congrArg (fun l => (Rp.int .u64).rel w S l x.priority) ?_) h2
    first | rfl | (simp only [List.drop_drop]; rfl)
  · refine cast (congrArg (fun l => (Rp.slice Rp.key).rel w S l x.evicted) ?_) h3
    first | rfl | (simp only [List.drop_drop]; rfl)
  · refine cast (congrArg (fun l => (Rp.slice Rp.key).rel w S l x.expired) ?_) h4
    first | rfl | (simp only [List.drop_drop]; rfl)
  · refine cast (congrArg (fun l => (Rp.slice Rp.key).rel w S l x.invalid) ?_) h5
    first | rfl | (simp only [List.drop_drop]; rfl)
  · refine cast (congrArg (fun l => (Rp.slice Rp.key).rel w S l x.done) ?_) h6
    first | rfl | (simp only [List.drop_drop]; rfl)
  · refine cast (congrArg (fun l => (Rp.slice Rp.key).rel w S l x.flushed) ?_) h7
    first | rfl | (simp only [List.drop_drop]; rfl)
  · refine cast (congrArg (fun l => (Rp.slice Rp.bytes).rel w S l x.txs) ?_) h8
    first | rfl | (simp only [List.drop_drop]; rfl)
  · refine cast (congrArg (fun l => (Rp.int .i64).rel w S l x.height) ?_) h9
    first | rfl | (simp only [List.drop_drop]; rfl)
  · refine cast (congrArg (fun l => Rp.key.rel w S l x.digest) ?_) h10
    have e : cs.drop 41 = (cs.drop 41).take 32 := (List.take_of_length_le (by simp [hl])).symm
    refine Eq.trans ?_ e
    first | rfl | (simp only [List.drop_drop]; rfl)
theorem Rp.reply_mk {w : World} {S : Fp} {cs : List Value} {x : MReply} (hl : cs.length = 73)
    (h0 : (Rp.int .i64).rel w S ((cs.drop 0).take 1) x.err)
    (h1 : Rp.key.rel w S ((cs.drop 1).take 32) x.key)
    (h2 : (Rp.int .u64).rel w S ((cs.drop 33).take 1) x.priority)
    (h3 : (Rp.slice Rp.key).rel w S ((cs.drop 34).take 1) x.evicted)
    (h4 : (Rp.slice Rp.key).rel w S ((cs.drop 35).take 1) x.expired)
    (h5 : (Rp.slice Rp.key).rel w S ((cs.drop 36).take 1) x.invalid)
    (h6 : (Rp.slice Rp.key).rel w S ((cs.drop 37).take 1) x.done)
    (h7 : (Rp.slice Rp.key).rel w S ((cs.drop 38).take 1) x.flushed)
    (h8 : (Rp.slice Rp.bytes).rel w S ((cs.drop 39).take 1) x.txs)
    (h9 : (Rp.int .i64).rel w S ((cs.drop 40).take 1) x.height)
    (h10 : Rp.key.rel w S ((cs.drop 41).take 32) x.digest)
    : Rp.reply.rel w S cs x := by
  show (Rp.pair (Rp.int .i64) (Rp.pair Rp.key (Rp.pair (Rp.int .u64) (Rp.pair (Rp.slice Rp.key) (Rp.pair (Rp.slice Rp.key) (Rp.pair (Rp.slice Rp.key) (Rp.pair (Rp.slice Rp.key) (Rp.pair (Rp.slice Rp.key) (Rp.pair (Rp.slice Rp.bytes) (Rp.pair (Rp.int .i64) Rp.key)))))))))).rel w S cs (x.err, x.key, x.priority, x.evicted, x.expired, x.invalid, x.done, x.flushed, x.txs, x.height, x.digest)
  simp only [Rp.pair_iff]
  refine ⟨?_, ?_, ?_, ?_, ?_, ?_, ?_, ?_, ?_, ?_, ?_⟩
  · refine cast (congrArg (fun l => (Rp.int .i64).rel w S l x.err) ?_) h0
    first | rfl | (simp only [List.drop_drop]; rfl)
  · refine cast (congrArg (fun l => Rp.key.rel w S l x.key) ?_) h1
    first | rfl | (simp only [List.drop_drop]; rfl)
  · refine cast (congrArg (fun l => (Rp.int .u64).rel w S l x.priority) ?_) h2
    first | rfl | (simp only [List.drop_drop]; rfl)
  · refine cast (congrArg (fun l => (Rp.slice Rp.key).rel w S l x.evicted) ?_) h3
    first | rfl | (simp only [List.drop_drop]; rfl)
  · refine cast (congrArg (fun l => (Rp.slice Rp.key).rel w S l x.expired) ?_) h4
    first | rfl | (simp only [List.drop_drop]; rfl)
  · refine cast (congrArg (fun l => (Rp.slice Rp.key).rel w S l x.invalid) ?_) h5
    first | rfl | (simp only [List.drop_drop]; rfl)
  · refine cast (congrArg (fun l => (Rp.slice Rp.key).rel w S l x.done) ?_) h6
    first | rfl | (simp only [List.drop_drop]; rfl)
  · refine cast (congrArg (fun l => (Rp.slice Rp.key).rel w S l x.flushed) ?_) h7
    first | rfl | (simp only [List.drop_drop]; rfl)
  · refine cast (congrArg (fun l => (Rp.slice Rp.bytes).rel w S l x.txs) ?_) h8
    first | rfl | (simp only [List.drop_drop]; rfl)
  · refine cast (congrArg (fun l => (Rp.int .i64).rel w S l x.height) ?_) h9
    first | rfl | (simp only [List.drop_drop]; rfl)
  · refine cast (congrArg (fun l => Rp.key.rel w S l x.digest) ?_) h10
    have e : cs.drop 41 = (cs.drop 41).take 32 := (List.take_of_length_le (by simp [hl])).symm
    refine e.symm.trans ?_
    first | rfl | (simp only [List.drop_drop]; rfl)
structure MHeader where
  height : Int
  time : Int
  proposer : Int
  parent : List Int
  txs : List Int
  app : List Int
  results : List Int
  deriving DecidableEq, Inhabited
def Rp.header : Rp MHeader := Rp.via (fun x => (x.height, x.time, x.proposer, x.parent, x.txs, x.app, x.results)) (Rp.pair (Rp.int .i64) (Rp.pair (Rp.int .i64) (Rp.pair (Rp.int .i64) (Rp.pair Rp.key (Rp.pair Rp.key (Rp.pair Rp.key Rp.key))))))
theorem Rp.header_size : Rp.header.size = 131 := rfl
theorem Rp.header_fields {w : World} {S : Fp} {cs : List Value} {x : MHeader} (h : Rp.header.rel w S cs x) :
    (Rp.int .i64).rel w S ((cs.drop 0).take 1) x.height ∧
    (Rp.int .i64).rel w S ((cs.drop 1).take 1) x.time ∧
    (Rp.int .i64).rel w S ((cs.drop 2).take 1) x.proposer ∧
    Rp.key.rel w S ((cs.drop 3).take 32) x.parent ∧
    Rp.key.rel w S ((cs.drop 35).take 32) x.txs ∧
    Rp.key.rel w S ((cs.drop 67).take 32) x.app ∧
    Rp.key.rel w S ((cs.drop 99).take 32) x.results := by
  have hl : cs.length = 131 := Rp.header.len h
  have h : (Rp.pair (Rp.int .i64) (Rp.pair (Rp.int .i64) (Rp.pair (Rp.int .i64) (Rp.pair Rp.key (Rp.pair Rp.key (Rp.pair Rp.key Rp.key)))))).rel w S cs (x.height, x.time, x.proposer, x.parent, x.txs, x.app, x.results) := h
  simp only [Rp.pair_iff] at h
  obtain ⟨h0, h1, h2, h3, h4, h5, h6⟩ := h
  refine ⟨?_, ?_, ?_, ?_, ?_, ?_, ?_⟩
  · refine cast (congrArg (fun l => (Rp.int .i64).rel w S l x.height) ?_) h0
    first | rfl | (simp only [List.drop_drop]; rfl)
  · refine cast (congrArg (fun l => (Rp.int .i64).rel w S l x.time) ?_) h1
    first | rfl | (simp only [List.drop_drop]; rfl)
  · refine cast (congrArg (fun l => (Rp.int .i64).rel w S l x.proposer) ?_) h2
    first | rfl | (simp only [List.drop_drop]; rfl)
  · refine cast (congrArg (fun l => Rp.key.rel w S l x.parent) ?_) h3
    first | rfl | (simp only [List.drop_drop]; rfl)
  · refine cast (congrArg (fun l => Rp.key.rel w S l x.txs) ?_) h4
    first | rfl | (simp only [List.drop_drop]; rfl)
  · refine cast (congrArg (fun l => Rp.key.rel w S l x.app) ?_) h5
    first | rfl | (simp only [List.drop_drop]; rfl)
  · refine cast (congrArg (fun l => Rp.key.rel w S l x.results) ?_) h6
    have e : cs.drop 99 = (cs.drop 99).take 32 := (List.take_of_length_le (by simp [hl])).symm
    refine Eq.trans ?_ e
    first | rfl | (simp only [List.drop_drop]; rfl)
theorem Rp.header_mk {w : World} {S : Fp} {cs : List Value} {x : MHeader} (hl : cs.length = 131)
    (h0 : (Rp.int .i64).rel w S ((cs.drop 0).take 1) x.height)
    (h1 : (Rp.int .i64).rel w S ((cs.drop 1).take 1) x.time)
    (h2 : (Rp.int .i64).rel w S ((cs.drop 2).take 1) x.proposer)
    (h3 : Rp.key.rel w S ((cs.drop 3).take 32) x.parent)
    (h4 : Rp.key.rel w S ((cs.drop 35).take 32) x.txs)
    (h5 : Rp.key.rel w S ((cs.drop 67).take 32) x.app)
    (h6 : Rp.key.rel w S ((cs.drop 99).take 32) x.results)
    : Rp.header.rel w S cs x := by
  show (Rp.pair (Rp.int .i64) (Rp.pair (Rp.int .i64) (Rp.pair (Rp.int .i64) (Rp.pair Rp.key (Rp.pair Rp.key (Rp.pair Rp.key Rp.key)))))).rel w S cs (x.height, x.time, x.proposer, x.parent, x.txs, x.app, x.results)
  simp only [Rp.pair_iff]
  refine ⟨?_, ?_, ?_, ?_, ?_, ?_, ?_⟩
  · refine cast (congrArg (fun l => (Rp.int .i64).rel w S l x.height) ?_) h0
    first | rfl | (simp only [List.drop_drop]; rfl)
  · refine cast (congrArg (fun l => (Rp.int .i64).rel w S l x.time) ?_) h1
    first | rfl | (simp only [List.drop_drop]; rfl)
  · refine cast (congrArg (fun l => (Rp.int .i64).rel w S l x.proposer) ?_) h2
    first | rfl | (simp only [List.drop_drop]; rfl)
  · refine cast (congrArg (fun l => Rp.key.rel w S l x.parent) ?_) h3
    first | rfl | (simp only [List.drop_drop]; rfl)
  · refine cast (congrArg (fun l => Rp.key.rel w S l x.txs) ?_) h4
    first | rfl | (simp only [List.drop_drop]; rfl)
  · refine cast (congrArg (fun l => Rp.key.rel w S l x.app) ?_) h5
    first | rfl | (simp only [List.drop_drop]; rfl)
  · refine cast (congrArg (fun l => Rp.key.rel w S l x.results) ?_) h6
    have e : cs.drop 99 = (cs.drop 99).take 32 := (List.take_of_length_le (by simp [hl])).symm
    refine e.symm.trans ?_
    first | rfl | (simp only [List.drop_drop]; rfl)
structure MBlock where
  header : MHeader
  txs : List (List Int)
  deriving DecidableEq, Inhabited
def Rp.block : Rp MBlock := Rp.via (fun x => (x.header, x.txs)) (Rp.pair Rp.header (Rp.slice Rp.bytes))
theorem Rp.block_size : Rp.block.size = 132 := rfl
theorem Rp.block_fields {w : World} {S : Fp} {cs : List Value} {x : MBlock} (h : Rp.block.rel w S cs x) :
    Rp.header.rel w S ((cs.drop 0).take 131) x.header ∧
    (Rp.slice Rp.bytes).rel w S ((cs.drop 131).take 1) x.txs := by
  have hl : cs.length = 132 := Rp.block.len h
  have h : (Rp.pair Rp.header (Rp.slice Rp.bytes)).rel w S cs (x.header, x.txs) := h
  simp only [Rp.pair_iff] at h
  obtain ⟨h0, h1⟩ := h
  refine ⟨?_, ?_⟩
  · refine cast (congrArg (fun l => Rp.header.rel w S l x.header) ?_) h0
    first | rfl | (simp only [List.drop_drop]; rfl)
  · refine cast (congrArg (fun l => (Rp.slice Rp.bytes).rel w S l x.txs) ?_) h1
    have e : cs.drop 131 = (cs.drop 131).take 1 := (List.take_of_length_le (by simp [hl])).symm
    refine Eq.trans ?_ e
    first | rfl | (simp only [List.drop_drop]; rfl)
theorem Rp.block_mk {w : World} {S : Fp} {cs : List Value} {x : MBlock} (hl : cs.length = 132)
    (h0 : Rp.header.rel w S ((cs.drop 0).take 131) x.header)
    (h1 : (Rp.slice Rp.bytes).rel w S ((cs.drop 131).take 1) x.txs)
    : Rp.block.rel w S cs x := by
  show (Rp.pair Rp.header (Rp.slice Rp.bytes)).rel w S cs (x.header, x.txs)
  simp only [Rp.pair_iff]
  refine ⟨?_, ?_⟩
  · refine cast (congrArg (fun l => Rp.header.rel w S l x.header) ?_) h0
    first | rfl | (simp only [List.drop_drop]; rfl)
  · refine cast (congrArg (fun l => (Rp.slice Rp.bytes).rel w S l x.txs) ?_) h1
    have e : cs.drop 131 = (cs.drop 131).take 1 := (List.take_of_length_le (by simp [hl])).symm
    refine e.symm.trans ?_
    first | rfl | (simp only [List.drop_drop]; rfl)
structure MTip where
  height : Int
  time : Int
  hash : List Int
  app : List Int
  results : List Int
  deriving DecidableEq, Inhabited
def Rp.tip : Rp MTip := Rp.via (fun x => (x.height, x.time, x.hash, x.app, x.results)) (Rp.pair (Rp.int .i64) (Rp.pair (Rp.int .i64) (Rp.pair Rp.key (Rp.pair Rp.key Rp.key))))
theorem Rp.tip_size : Rp.tip.size = 98 := rfl
theorem Rp.tip_fields {w : World} {S : Fp} {cs : List Value} {x : MTip} (h : Rp.tip.rel w S cs x) :
    (Rp.int .i64).rel w S ((cs.drop 0).take 1) x.height ∧
    (Rp.int .i64).rel w S ((cs.drop 1).take 1) x.time ∧
    Rp.key.rel w S ((cs.drop 2).take 32) x.hash ∧
    Rp.key.rel w S ((cs.drop 34).take 32) x.app ∧
    Rp.key.rel w S ((cs.drop 66).take 32) x.results := by
  have hl : cs.length = 98 := Rp.tip.len h
  have h : (Rp.pair (Rp.int .i64) (Rp.pair (Rp.int .i64) (Rp.pair Rp.key (Rp.pair Rp.key Rp.key)))).rel w S cs (x.height, x.time, x.hash, x.app, x.results) := h
  simp only [Rp.pair_iff] at h
  obtain ⟨h0, h1, h2, h3, h4⟩ := h
  refine ⟨?_, ?_, ?_, ?_, ?_⟩
  · refine cast (congrArg (fun l => (Rp.int .i64).rel w S l x.height) ?_) h0
    first | rfl | (simp only [List.drop_drop]; rfl)
  · refine cast (congrArg (fun l => (Rp.int .i64).rel w S l x.time) ?_) h1
    first | rfl | (simp only [List.drop_drop]; rfl)
  · refine cast (congrArg (fun l => Rp.key.rel w S l x.hash) ?_) h2
    first | rfl | (simp only [List.drop_drop]; rfl)
  · refine cast (congrArg (fun l => Rp.key.rel w S l x.app) ?_) h3
    first | rfl | (simp only [List.drop_drop]; rfl)
  · refine cast (congrArg (fun l => Rp.key.rel w S l x.results) ?_) h4
    have e : cs.drop 66 = (cs.drop 66).take 32 := (List.take_of_length_le (by simp [hl])).symm
    refine Eq.trans ?_ e
    first | rfl | (simp only [List.drop_drop]; rfl)
theorem Rp.tip_mk {w : World} {S : Fp} {cs : List Value} {x : MTip} (hl : cs.length = 98)
    (h0 : (Rp.int .i64).rel w S ((cs.drop 0).take 1) x.height)
    (h1 : (Rp.int .i64).rel w S ((cs.drop 1).take 1) x.time)
    (h2 : Rp.key.rel w S ((cs.drop 2).take 32) x.hash)
    (h3 : Rp.key.rel w S ((cs.drop 34).take 32) x.app)
    (h4 : Rp.key.rel w S ((cs.drop 66).take 32) x.results)
    : Rp.tip.rel w S cs x := by
  show (Rp.pair (Rp.int .i64) (Rp.pair (Rp.int .i64) (Rp.pair Rp.key (Rp.pair Rp.key Rp.key)))).rel w S cs (x.height, x.time, x.hash, x.app, x.results)
  simp only [Rp.pair_iff]
  refine ⟨?_, ?_, ?_, ?_, ?_⟩
  · refine cast (congrArg (fun l => (Rp.int .i64).rel w S l x.height) ?_) h0
    first | rfl | (simp only [List.drop_drop]; rfl)
  · refine cast (congrArg (fun l => (Rp.int .i64).rel w S l x.time) ?_) h1
    first | rfl | (simp only [List.drop_drop]; rfl)
  · refine cast (congrArg (fun l => Rp.key.rel w S l x.hash) ?_) h2
    first | rfl | (simp only [List.drop_drop]; rfl)
  · refine cast (congrArg (fun l => Rp.key.rel w S l x.app) ?_) h3
    first | rfl | (simp only [List.drop_drop]; rfl)
  · refine cast (congrArg (fun l => Rp.key.rel w S l x.results) ?_) h4
    have e : cs.drop 66 = (cs.drop 66).take 32 := (List.take_of_length_le (by simp [hl])).symm
    refine e.symm.trans ?_
    first | rfl | (simp only [List.drop_drop]; rfl)
structure MOp where
  kind : Int
  n : Int
  bytes : Int
  gas : Int
  raw : List Int
  deriving DecidableEq, Inhabited
def Rp.op : Rp MOp := Rp.via (fun x => (x.kind, x.n, x.bytes, x.gas, x.raw)) (Rp.pair (Rp.int .i64) (Rp.pair (Rp.int .i64) (Rp.pair (Rp.int .i64) (Rp.pair (Rp.int .i64) Rp.bytes))))
theorem Rp.op_size : Rp.op.size = 5 := rfl
theorem Rp.op_fields {w : World} {S : Fp} {cs : List Value} {x : MOp} (h : Rp.op.rel w S cs x) :
    (Rp.int .i64).rel w S ((cs.drop 0).take 1) x.kind ∧
    (Rp.int .i64).rel w S ((cs.drop 1).take 1) x.n ∧
    (Rp.int .i64).rel w S ((cs.drop 2).take 1) x.bytes ∧
    (Rp.int .i64).rel w S ((cs.drop 3).take 1) x.gas ∧
    Rp.bytes.rel w S ((cs.drop 4).take 1) x.raw := by
  have hl : cs.length = 5 := Rp.op.len h
  have h : (Rp.pair (Rp.int .i64) (Rp.pair (Rp.int .i64) (Rp.pair (Rp.int .i64) (Rp.pair (Rp.int .i64) Rp.bytes)))).rel w S cs (x.kind, x.n, x.bytes, x.gas, x.raw) := h
  simp only [Rp.pair_iff] at h
  obtain ⟨h0, h1, h2, h3, h4⟩ := h
  refine ⟨?_, ?_, ?_, ?_, ?_⟩
  · refine cast (congrArg (fun l => (Rp.int .i64).rel w S l x.kind) ?_) h0
    first | rfl | (simp only [List.drop_drop]; rfl)
  · refine cast (congrArg (fun l => (Rp.int .i64).rel w S l x.n) ?_) h1
    first | rfl | (simp only [List.drop_drop]; rfl)
  · refine cast (congrArg (fun l => (Rp.int .i64).rel w S l x.bytes) ?_) h2
    first | rfl | (simp only [List.drop_drop]; rfl)
  · refine cast (congrArg (fun l => (Rp.int .i64).rel w S l x.gas) ?_) h3
    first | rfl | (simp only [List.drop_drop]; rfl)
  · refine cast (congrArg (fun l => Rp.bytes.rel w S l x.raw) ?_) h4
    have e : cs.drop 4 = (cs.drop 4).take 1 := (List.take_of_length_le (by simp [hl])).symm
    refine Eq.trans ?_ e
    first | rfl | (simp only [List.drop_drop]; rfl)
theorem Rp.op_mk {w : World} {S : Fp} {cs : List Value} {x : MOp} (hl : cs.length = 5)
    (h0 : (Rp.int .i64).rel w S ((cs.drop 0).take 1) x.kind)
    (h1 : (Rp.int .i64).rel w S ((cs.drop 1).take 1) x.n)
    (h2 : (Rp.int .i64).rel w S ((cs.drop 2).take 1) x.bytes)
    (h3 : (Rp.int .i64).rel w S ((cs.drop 3).take 1) x.gas)
    (h4 : Rp.bytes.rel w S ((cs.drop 4).take 1) x.raw)
    : Rp.op.rel w S cs x := by
  show (Rp.pair (Rp.int .i64) (Rp.pair (Rp.int .i64) (Rp.pair (Rp.int .i64) (Rp.pair (Rp.int .i64) Rp.bytes)))).rel w S cs (x.kind, x.n, x.bytes, x.gas, x.raw)
  simp only [Rp.pair_iff]
  refine ⟨?_, ?_, ?_, ?_, ?_⟩
  · refine cast (congrArg (fun l => (Rp.int .i64).rel w S l x.kind) ?_) h0
    first | rfl | (simp only [List.drop_drop]; rfl)
  · refine cast (congrArg (fun l => (Rp.int .i64).rel w S l x.n) ?_) h1
    first | rfl | (simp only [List.drop_drop]; rfl)
  · refine cast (congrArg (fun l => (Rp.int .i64).rel w S l x.bytes) ?_) h2
    first | rfl | (simp only [List.drop_drop]; rfl)
  · refine cast (congrArg (fun l => (Rp.int .i64).rel w S l x.gas) ?_) h3
    first | rfl | (simp only [List.drop_drop]; rfl)
  · refine cast (congrArg (fun l => Rp.bytes.rel w S l x.raw) ?_) h4
    have e : cs.drop 4 = (cs.drop 4).take 1 := (List.take_of_length_le (by simp [hl])).symm
    refine e.symm.trans ?_
    first | rfl | (simp only [List.drop_drop]; rfl)
structure MCounts where
  submitted : Int
  refused : Int
  admitted : Int
  committed : Int
  evicted : Int
  expired : Int
  invalid : Int
  flushed : Int
  pending : Int
  deriving DecidableEq, Inhabited
def Rp.counts : Rp MCounts := Rp.via (fun x => (x.submitted, x.refused, x.admitted, x.committed, x.evicted, x.expired, x.invalid, x.flushed, x.pending)) (Rp.pair (Rp.int .i64) (Rp.pair (Rp.int .i64) (Rp.pair (Rp.int .i64) (Rp.pair (Rp.int .i64) (Rp.pair (Rp.int .i64) (Rp.pair (Rp.int .i64) (Rp.pair (Rp.int .i64) (Rp.pair (Rp.int .i64) (Rp.int .i64)))))))))
theorem Rp.counts_size : Rp.counts.size = 9 := rfl
theorem Rp.counts_fields {w : World} {S : Fp} {cs : List Value} {x : MCounts} (h : Rp.counts.rel w S cs x) :
    (Rp.int .i64).rel w S ((cs.drop 0).take 1) x.submitted ∧
    (Rp.int .i64).rel w S ((cs.drop 1).take 1) x.refused ∧
    (Rp.int .i64).rel w S ((cs.drop 2).take 1) x.admitted ∧
    (Rp.int .i64).rel w S ((cs.drop 3).take 1) x.committed ∧
    (Rp.int .i64).rel w S ((cs.drop 4).take 1) x.evicted ∧
    (Rp.int .i64).rel w S ((cs.drop 5).take 1) x.expired ∧
    (Rp.int .i64).rel w S ((cs.drop 6).take 1) x.invalid ∧
    (Rp.int .i64).rel w S ((cs.drop 7).take 1) x.flushed ∧
    (Rp.int .i64).rel w S ((cs.drop 8).take 1) x.pending := by
  have hl : cs.length = 9 := Rp.counts.len h
  have h : (Rp.pair (Rp.int .i64) (Rp.pair (Rp.int .i64) (Rp.pair (Rp.int .i64) (Rp.pair (Rp.int .i64) (Rp.pair (Rp.int .i64) (Rp.pair (Rp.int .i64) (Rp.pair (Rp.int .i64) (Rp.pair (Rp.int .i64) (Rp.int .i64))))))))).rel w S cs (x.submitted, x.refused, x.admitted, x.committed, x.evicted, x.expired, x.invalid, x.flushed, x.pending) := h
  simp only [Rp.pair_iff] at h
  obtain ⟨h0, h1, h2, h3, h4, h5, h6, h7, h8⟩ := h
  refine ⟨?_, ?_, ?_, ?_, ?_, ?_, ?_, ?_, ?_⟩
  · refine cast (congrArg (fun l => (Rp.int .i64).rel w S l x.submitted) ?_) h0
    first | rfl | (simp only [List.drop_drop]; rfl)
  · refine cast (congrArg (fun l => (Rp.int .i64).rel w S l x.refused) ?_) h1
    first | rfl | (simp only [List.drop_drop]; rfl)
  · refine cast (congrArg (fun l => (Rp.int .i64).rel w S l x.admitted) ?_) h2
    first | rfl | (simp only [List.drop_drop]; rfl)
  · refine cast (congrArg (fun l => (Rp.int .i64).rel w S l x.committed) ?_) h3
    first | rfl | (simp only [List.drop_drop]; rfl)
  · refine cast (congrArg (fun l => (Rp.int .i64).rel w S l x.evicted) ?_) h4
    first | rfl | (simp only [List.drop_drop]; rfl)
  · refine cast (congrArg (fun l => (Rp.int .i64).rel w S l x.expired) ?_) h5
    first | rfl | (simp only [List.drop_drop]; rfl)
  · refine cast (congrArg (fun l => (Rp.int .i64).rel w S l x.invalid) ?_) h6
    first | rfl | (simp only [List.drop_drop]; rfl)
  · refine cast (congrArg (fun l => (Rp.int .i64).rel w S l x.flushed) ?_) h7
    first | rfl | (simp only [List.drop_drop]; rfl)
  · refine cast (congrArg (fun l => (Rp.int .i64).rel w S l x.pending) ?_) h8
    have e : cs.drop 8 = (cs.drop 8).take 1 := (List.take_of_length_le (by simp [hl])).symm
    refine Eq.trans ?_ e
    first | rfl | (simp only [List.drop_drop]; rfl)
theorem Rp.counts_mk {w : World} {S : Fp} {cs : List Value} {x : MCounts} (hl : cs.length = 9)
    (h0 : (Rp.int .i64).rel w S ((cs.drop 0).take 1) x.submitted)
    (h1 : (Rp.int .i64).rel w S ((cs.drop 1).take 1) x.refused)
    (h2 : (Rp.int .i64).rel w S ((cs.drop 2).take 1) x.admitted)
    (h3 : (Rp.int .i64).rel w S ((cs.drop 3).take 1) x.committed)
    (h4 : (Rp.int .i64).rel w S ((cs.drop 4).take 1) x.evicted)
    (h5 : (Rp.int .i64).rel w S ((cs.drop 5).take 1) x.expired)
    (h6 : (Rp.int .i64).rel w S ((cs.drop 6).take 1) x.invalid)
    (h7 : (Rp.int .i64).rel w S ((cs.drop 7).take 1) x.flushed)
    (h8 : (Rp.int .i64).rel w S ((cs.drop 8).take 1) x.pending)
    : Rp.counts.rel w S cs x := by
  show (Rp.pair (Rp.int .i64) (Rp.pair (Rp.int .i64) (Rp.pair (Rp.int .i64) (Rp.pair (Rp.int .i64) (Rp.pair (Rp.int .i64) (Rp.pair (Rp.int .i64) (Rp.pair (Rp.int .i64) (Rp.pair (Rp.int .i64) (Rp.int .i64))))))))).rel w S cs (x.submitted, x.refused, x.admitted, x.committed, x.evicted, x.expired, x.invalid, x.flushed, x.pending)
  simp only [Rp.pair_iff]
  refine ⟨?_, ?_, ?_, ?_, ?_, ?_, ?_, ?_, ?_⟩
  · refine cast (congrArg (fun l => (Rp.int .i64).rel w S l x.submitted) ?_) h0
    first | rfl | (simp only [List.drop_drop]; rfl)
  · refine cast (congrArg (fun l => (Rp.int .i64).rel w S l x.refused) ?_) h1
    first | rfl | (simp only [List.drop_drop]; rfl)
  · refine cast (congrArg (fun l => (Rp.int .i64).rel w S l x.admitted) ?_) h2
    first | rfl | (simp only [List.drop_drop]; rfl)
  · refine cast (congrArg (fun l => (Rp.int .i64).rel w S l x.committed) ?_) h3
    first | rfl | (simp only [List.drop_drop]; rfl)
  · refine cast (congrArg (fun l => (Rp.int .i64).rel w S l x.evicted) ?_) h4
    first | rfl | (simp only [List.drop_drop]; rfl)
  · refine cast (congrArg (fun l => (Rp.int .i64).rel w S l x.expired) ?_) h5
    first | rfl | (simp only [List.drop_drop]; rfl)
  · refine cast (congrArg (fun l => (Rp.int .i64).rel w S l x.invalid) ?_) h6
    first | rfl | (simp only [List.drop_drop]; rfl)
  · refine cast (congrArg (fun l => (Rp.int .i64).rel w S l x.flushed) ?_) h7
    first | rfl | (simp only [List.drop_drop]; rfl)
  · refine cast (congrArg (fun l => (Rp.int .i64).rel w S l x.pending) ?_) h8
    have e : cs.drop 8 = (cs.drop 8).take 1 := (List.take_of_length_le (by simp [hl])).symm
    refine e.symm.trans ?_
    first | rfl | (simp only [List.drop_drop]; rfl)
structure MNetEvent where
  kind : Int
  a : Int
  b : Int
  n : Int
  raw : List Int
  deriving DecidableEq, Inhabited
def Rp.netEvent : Rp MNetEvent := Rp.via (fun x => (x.kind, x.a, x.b, x.n, x.raw)) (Rp.pair (Rp.int .i64) (Rp.pair (Rp.int .i64) (Rp.pair (Rp.int .i64) (Rp.pair (Rp.int .i64) Rp.bytes))))
theorem Rp.netEvent_size : Rp.netEvent.size = 5 := rfl
theorem Rp.netEvent_fields {w : World} {S : Fp} {cs : List Value} {x : MNetEvent} (h : Rp.netEvent.rel w S cs x) :
    (Rp.int .i64).rel w S ((cs.drop 0).take 1) x.kind ∧
    (Rp.int .i64).rel w S ((cs.drop 1).take 1) x.a ∧
    (Rp.int .i64).rel w S ((cs.drop 2).take 1) x.b ∧
    (Rp.int .i64).rel w S ((cs.drop 3).take 1) x.n ∧
    Rp.bytes.rel w S ((cs.drop 4).take 1) x.raw := by
  have hl : cs.length = 5 := Rp.netEvent.len h
  have h : (Rp.pair (Rp.int .i64) (Rp.pair (Rp.int .i64) (Rp.pair (Rp.int .i64) (Rp.pair (Rp.int .i64) Rp.bytes)))).rel w S cs (x.kind, x.a, x.b, x.n, x.raw) := h
  simp only [Rp.pair_iff] at h
  obtain ⟨h0, h1, h2, h3, h4⟩ := h
  refine ⟨?_, ?_, ?_, ?_, ?_⟩
  · refine cast (congrArg (fun l => (Rp.int .i64).rel w S l x.kind) ?_) h0
    first | rfl | (simp only [List.drop_drop]; rfl)
  · refine cast (congrArg (fun l => (Rp.int .i64).rel w S l x.a) ?_) h1
    first | rfl | (simp only [List.drop_drop]; rfl)
  · refine cast (congrArg (fun l => (Rp.int .i64).rel w S l x.b) ?_) h2
    first | rfl | (simp only [List.drop_drop]; rfl)
  · refine cast (congrArg (fun l => (Rp.int .i64).rel w S l x.n) ?_) h3
    first | rfl | (simp only [List.drop_drop]; rfl)
  · refine cast (congrArg (fun l => Rp.bytes.rel w S l x.raw) ?_) h4
    have e : cs.drop 4 = (cs.drop 4).take 1 := (List.take_of_length_le (by simp [hl])).symm
    refine Eq.trans ?_ e
    first | rfl | (simp only [List.drop_drop]; rfl)
theorem Rp.netEvent_mk {w : World} {S : Fp} {cs : List Value} {x : MNetEvent} (hl : cs.length = 5)
    (h0 : (Rp.int .i64).rel w S ((cs.drop 0).take 1) x.kind)
    (h1 : (Rp.int .i64).rel w S ((cs.drop 1).take 1) x.a)
    (h2 : (Rp.int .i64).rel w S ((cs.drop 2).take 1) x.b)
    (h3 : (Rp.int .i64).rel w S ((cs.drop 3).take 1) x.n)
    (h4 : Rp.bytes.rel w S ((cs.drop 4).take 1) x.raw)
    : Rp.netEvent.rel w S cs x := by
  show (Rp.pair (Rp.int .i64) (Rp.pair (Rp.int .i64) (Rp.pair (Rp.int .i64) (Rp.pair (Rp.int .i64) Rp.bytes)))).rel w S cs (x.kind, x.a, x.b, x.n, x.raw)
  simp only [Rp.pair_iff]
  refine ⟨?_, ?_, ?_, ?_, ?_⟩
  · refine cast (congrArg (fun l => (Rp.int .i64).rel w S l x.kind) ?_) h0
    first | rfl | (simp only [List.drop_drop]; rfl)
  · refine cast (congrArg (fun l => (Rp.int .i64).rel w S l x.a) ?_) h1
    first | rfl | (simp only [List.drop_drop]; rfl)
  · refine cast (congrArg (fun l => (Rp.int .i64).rel w S l x.b) ?_) h2
    first | rfl | (simp only [List.drop_drop]; rfl)
  · refine cast (congrArg (fun l => (Rp.int .i64).rel w S l x.n) ?_) h3
    first | rfl | (simp only [List.drop_drop]; rfl)
  · refine cast (congrArg (fun l => Rp.bytes.rel w S l x.raw) ?_) h4
    have e : cs.drop 4 = (cs.drop 4).take 1 := (List.take_of_length_le (by simp [hl])).symm
    refine e.symm.trans ?_
    first | rfl | (simp only [List.drop_drop]; rfl)
structure MLetter where
  src : Int
  dst : Int
  block : Bool
  raw : List Int
  deriving DecidableEq, Inhabited
def Rp.letter : Rp MLetter := Rp.via (fun x => (x.src, x.dst, x.block, x.raw)) (Rp.pair (Rp.int .i64) (Rp.pair (Rp.int .i64) (Rp.pair Rp.bool Rp.bytes)))
theorem Rp.letter_size : Rp.letter.size = 4 := rfl
theorem Rp.letter_fields {w : World} {S : Fp} {cs : List Value} {x : MLetter} (h : Rp.letter.rel w S cs x) :
    (Rp.int .i64).rel w S ((cs.drop 0).take 1) x.src ∧
    (Rp.int .i64).rel w S ((cs.drop 1).take 1) x.dst ∧
    Rp.bool.rel w S ((cs.drop 2).take 1) x.block ∧
    Rp.bytes.rel w S ((cs.drop 3).take 1) x.raw := by
  have hl : cs.length = 4 := Rp.letter.len h
  have h : (Rp.pair (Rp.int .i64) (Rp.pair (Rp.int .i64) (Rp.pair Rp.bool Rp.bytes))).rel w S cs (x.src, x.dst, x.block, x.raw) := h
  simp only [Rp.pair_iff] at h
  obtain ⟨h0, h1, h2, h3⟩ := h
  refine ⟨?_, ?_, ?_, ?_⟩
  · refine cast (congrArg (fun l => (Rp.int .i64).rel w S l x.src) ?_) h0
    first | rfl | (simp only [List.drop_drop]; rfl)
  · refine cast (congrArg (fun l => (Rp.int .i64).rel w S l x.dst) ?_) h1
    first | rfl | (simp only [List.drop_drop]; rfl)
  · refine cast (congrArg (fun l => Rp.bool.rel w S l x.block) ?_) h2
    first | rfl | (simp only [List.drop_drop]; rfl)
  · refine cast (congrArg (fun l => Rp.bytes.rel w S l x.raw) ?_) h3
    have e : cs.drop 3 = (cs.drop 3).take 1 := (List.take_of_length_le (by simp [hl])).symm
    refine Eq.trans ?_ e
    first | rfl | (simp only [List.drop_drop]; rfl)
theorem Rp.letter_mk {w : World} {S : Fp} {cs : List Value} {x : MLetter} (hl : cs.length = 4)
    (h0 : (Rp.int .i64).rel w S ((cs.drop 0).take 1) x.src)
    (h1 : (Rp.int .i64).rel w S ((cs.drop 1).take 1) x.dst)
    (h2 : Rp.bool.rel w S ((cs.drop 2).take 1) x.block)
    (h3 : Rp.bytes.rel w S ((cs.drop 3).take 1) x.raw)
    : Rp.letter.rel w S cs x := by
  show (Rp.pair (Rp.int .i64) (Rp.pair (Rp.int .i64) (Rp.pair Rp.bool Rp.bytes))).rel w S cs (x.src, x.dst, x.block, x.raw)
  simp only [Rp.pair_iff]
  refine ⟨?_, ?_, ?_, ?_⟩
  · refine cast (congrArg (fun l => (Rp.int .i64).rel w S l x.src) ?_) h0
    first | rfl | (simp only [List.drop_drop]; rfl)
  · refine cast (congrArg (fun l => (Rp.int .i64).rel w S l x.dst) ?_) h1
    first | rfl | (simp only [List.drop_drop]; rfl)
  · refine cast (congrArg (fun l => Rp.bool.rel w S l x.block) ?_) h2
    first | rfl | (simp only [List.drop_drop]; rfl)
  · refine cast (congrArg (fun l => Rp.bytes.rel w S l x.raw) ?_) h3
    have e : cs.drop 3 = (cs.drop 3).take 1 := (List.take_of_length_le (by simp [hl])).symm
    refine e.symm.trans ?_
    first | rfl | (simp only [List.drop_drop]; rfl)
end Go.Proofs.YtllepnadffndnaaDoor
namespace Go.Proofs.YtllepnadffndnaaDoor
open Go.RowKit Go.ChangeShapes Go.Deep
theorem reach_le : reachBytes ≤ 140737488355328 := by decide
def Opens (P : Program) (t : TypeId) {α : Type} (r : Rp α) : Prop :=
  P.cellsOf t = r.size ∧ ∀ {H : Type} (enc : TypeId × Value → H) (W : World) (spare : Nat → Bool) (held : Bool) (fuel : Nat) (cs : List Value) (d : DataW H) (p : List MemPlace),
    DataW.trod enc P W 0 spare held fuel t cs = some (d, p) → (d.weights P t).all (· ≤ reachBytes) = true → ∃ x, r.rel W (Lt W.heap.size) cs x
theorem Opens.part_ {P : Program} {α : Type} {r : Rp α} {f : Field} {o : Nat} {H : Type} {enc : TypeId × Value → H} {W : World} {spare : Nat → Bool} {held : Bool} {n : Nat} {cs : List Value} {y : DataW H × List MemPlace}
    (h : Opens P f.type r) (ho : f.offset = o) (ht : DataW.trod enc P W 0 spare held n f.type ((cs.drop f.offset).take (P.cellsOf f.type)) = some y) (hw : (y.1.weights P f.type).all (· ≤ reachBytes) = true) :
    ∃ x, r.rel W (Lt W.heap.size) ((cs.drop o).take r.size) x := by
  obtain ⟨d, p⟩ := y
  rw [ho, h.1] at ht
  exact h.2 enc W spare held n _ d p ht hw
theorem Opens.int {P : Program} {t : TypeId} {k : IntKind} (hu : P.underlying t = some (.int k)) (hc : P.cellsOf t = 1) : Opens P t (Rp.int k) :=
  ⟨hc, fun enc W spare held fuel cs d p h _ => by
    obtain ⟨n, rfl, _, hw⟩ := DataW.trod_int hu h
    exact ⟨n, rfl, hw⟩⟩
theorem Opens.bool {P : Program} {t : TypeId} (hu : P.underlying t = some .bool) (hc : P.cellsOf t = 1) : Opens P t Rp.bool :=
  ⟨hc, fun enc W spare held fuel cs d p h _ => by
    obtain ⟨b, rfl, _⟩ := DataW.trod_bool hu h
    exact ⟨b, rfl⟩⟩
theorem Opens.str {P : Program} {t : TypeId} (hu : P.underlying t = some .string) (hc : P.cellsOf t = 1) : Opens P t Rp.str :=
  ⟨hc, fun enc W spare held fuel cs d p h hw => by
    obtain ⟨s, rfl, hx, _⟩ := DataW.trod_string hu h
    simp only [Prod.mk.injEq] at hx
    obtain ⟨rfl, rfl⟩ := hx
    have h2 : s.data.size ≤ reachBytes := by simpa [DataW.weights] using hw
    exact ⟨s, rfl, Nat.le_trans h2 reach_le⟩⟩
theorem Opens.arr {P : Program} {t e : TypeId} {k : IntKind} {n : Nat} (hu : P.underlying t = some (.array n e)) (he : P.underlying e = some (.int k)) (hc : P.cellsOf t = n) (hce : P.cellsOf e = 1) : Opens P t (Rp.arr k n) :=
  ⟨hc, fun enc W spare held fuel cs d p h hw => by
    obtain ⟨xs, m, _, _, hl, hlen, hi⟩ := DataW.trod_array hu h
    have key : ∀ i, i < n → ∃ y, cs[i]? = some (.int k y) ∧ (Lit.int k y).wf = true := by
      intro i hin
      have h1 := hi i hin
      rw [hce] at h1
      have hxi : xs[i]? = some (xs[i]'(by omega)) := List.getElem?_eq_getElem (by omega)
      rw [hxi] at h1
      obtain ⟨y, hy, _, hwf⟩ := DataW.trod_int he h1
      rw [Nat.mul_one] at hy
      exact ⟨y, take1 hy, hwf⟩
    refine ⟨cs.map fun | .int _ y => y | _ => 0, ?_, ?_, ?_⟩
    · apply List.ext_getElem?
      intro i
      rw [List.getElem?_map, List.getElem?_map]
      rcases Nat.lt_or_ge i n with hin | hin
      · obtain ⟨y, hy, _⟩ := key i hin
        rw [hy]; rfl
      · rw [List.getElem?_eq_none (by omega)]; rfl
    · simp; omega
    · intro y hy
      obtain ⟨v, hv, rfl⟩ := List.mem_map.1 hy
      obtain ⟨i, hi', rfl⟩ := List.mem_iff_getElem.1 hv
      obtain ⟨y, hy, hwf⟩ := key i (by omega)
      rw [List.getElem?_eq_getElem hi'] at hy
      injection hy with hy
      rw [hy]; exact hwf⟩
theorem Opens.key {P : Program} {t e : TypeId} (hu : P.underlying t = some (.array 32 e)) (he : P.underlying e = some (.int .u8)) (hc : P.cellsOf t = 32) (hce : P.cellsOf e = 1) : Opens P t Rp.key := Opens.arr hu he hc hce
theorem weightsAll_mem {H : Type} {P : Program} {e : TypeId} {l : List (DataW H)} (h : (DataW.weightsAll P e l).all (· ≤ reachBytes) = true) {d : DataW H} (hd : d ∈ l) : (d.weights P e).all (· ≤ reachBytes) = true := by
  induction l with
  | nil => cases hd
  | cons x l ih =>
    simp only [DataW.weightsAll, List.all_append, Bool.and_eq_true] at h
    rcases List.mem_cons.1 hd with rfl | hd
    · exact h.1
    · exact ih h.2 hd
theorem Opens.slice {P : Program} {t e : TypeId} {α : Type} {r : Rp α} (hu : P.underlying t = some (.slice e)) (hc : P.cellsOf t = 1) (hb : 0 < P.bytesOf e) (hpos : 0 < r.size) (hr : Opens P e r) : Opens P t (Rp.slice r) := by
  refine ⟨hc, fun {H} enc W spare held fuel cs d p h hw => ?_⟩
  rcases open_slice hu h with ⟨rfl, _⟩ | ⟨a, len, cap, m, n, D, Pl, rfl, _, hle, _, hm, hx, hi⟩
  · exact ⟨[], none, 0, rfl, by simp, fun h => absurd rfl h⟩
  · simp only [Prod.mk.injEq] at hx
    obtain ⟨rfl, rfl⟩ := hx
    simp only [DataW.weights, hu, List.all_cons, List.all_append, Bool.and_eq_true, List.length_map, List.length_range] at hw
    have hmle : len ≤ m := by rw [hm]; split <;> omega
    have hlen : len ≤ 140737488355328 := by
      have h1 := of_decide_eq_true hw.1
      have h3 := reach_le
      have h2 : len * 1 ≤ (len + (m - len)) * P.bytesOf e := Nat.mul_le_mul (by omega) hb
      omega
    have key : ∀ i, i < len → ∃ x cs', r.rel W (Lt W.heap.size) cs' x ∧ (∀ j v, cs'[j]? = some v → W.cell? (a.add (i * r.size + j)) = some v) := by
      intro i hil
      obtain ⟨cs', hc', ht⟩ := hi i (by omega)
      rw [hr.1] at hc'
      obtain ⟨_, hl, hat⟩ := World.cells?_some hc'
      have hmem : D i ∈ List.map D (List.range len) := List.mem_map.2 ⟨i, List.mem_range.2 hil, rfl⟩
      obtain ⟨x, hx⟩ := hr.2 enc W spare held n cs' (D i) (Pl i) ht (weightsAll_mem hw.2.1 hmem)
      refine ⟨x, cs', hx, fun j v hv => ?_⟩
      have hj := (List.getElem?_eq_some_iff.1 hv).1
      have := hat j (by omega)
      rw [Go.Deep.add_add] at this
      rw [this, hv]
    by_cases h0 : len = 0
    · subst h0
      exact ⟨[], some a, cap, rfl, by simp, fun h => absurd rfl h⟩
    have ex : ∃ f : Nat → α, ∀ i, i < len → ∃ cs', r.rel W (Lt W.heap.size) cs' (f i) ∧ (∀ j v, cs'[j]? = some v → W.cell? (a.add (i * r.size + j)) = some v) := by
      obtain ⟨x0, _⟩ := key 0 (by omega)
      have : Nonempty α := ⟨x0⟩
      refine ⟨fun i => Classical.epsilon fun x => ∃ cs', r.rel W (Lt W.heap.size) cs' x ∧ (∀ j v, cs'[j]? = some v → W.cell? (a.add (i * r.size + j)) = some v), fun i hil => ?_⟩
      exact Classical.epsilon_spec (key i hil)
    obtain ⟨f, hf⟩ := ex
    obtain ⟨b, o, spot⟩ := a
    have hspot : spot = none ∧ b < W.heap.size := by
      obtain ⟨cs', hr', hc'⟩ := hf 0 (by omega)
      have hl := r.len hr'
      have hv : cs'[0]? = some (cs'[0]'(by omega)) := List.getElem?_eq_getElem (by omega)
      have hcell := hc' 0 _ hv
      have e0 : (⟨b, o, spot⟩ : Addr).add (0 * r.size + 0) = ⟨b, o, spot⟩ := by simp [Addr.add]
      rw [e0] at hcell
      exact ⟨by simpa using World.cell?_spot hcell, World.block_lt_of_cell? W _ hcell⟩
    obtain ⟨rfl, hblt⟩ := hspot
    refine ⟨(List.range len).map f, some ⟨b, o, none⟩, cap, by simp, by simpa using hlen, fun _ => ⟨b, o, rfl, hblt, fun i x hx => ?_⟩⟩
    have hil : i < len := by
      have := (List.getElem?_eq_some_iff.1 hx).1
      simpa using this
    have hxi : x = f i := by
      simp [List.getElem?_range hil] at hx
      exact hx.symm
    subst hxi
    obtain ⟨cs', hr', hc'⟩ := hf i hil
    refine ⟨cs', hr', fun j v hv => ?_⟩
    have := hc' j v hv
    rw [Addr.add_mid] at this
    rw [Nat.add_assoc]
    exact this
theorem Opens.field {P : Program} {t : TypeId} {f0 f1 f2 f3 : Field} (hu : P.underlying t = some (.struct #[f0, f1, f2, f3])) (hc : P.cellsOf t = 4)
    (o0 : f0.offset = 0) (o1 : f1.offset = 1) (o2 : f2.offset = 2) (o3 : f3.offset = 3)
    (h0 : Opens P f0.type (Rp.int .i64)) (h1 : Opens P f1.type (Rp.int .i64)) (h2 : Opens P f2.type (Rp.int .u64)) (h3 : Opens P f3.type Rp.bytes) : Opens P t Rp.field := by
  refine ⟨hc, fun {H} enc W spare held fuel cs d p h hw => ?_⟩
  obtain ⟨xs, n, _, hx, hl, hlen, hf⟩ := DataW.trod_struct hu h
  simp only [Prod.mk.injEq] at hx
  obtain ⟨rfl, rfl⟩ := hx
  match xs, hlen with
  | [y0, y1, y2, y3], _ =>
    simp only [DataW.weights, hu, List.map_cons, List.map_nil, DataW.weightsEach, List.all_append, Bool.and_eq_true] at hw
    obtain ⟨w0, w1, w2, w3, _⟩ := hw
    obtain ⟨x0, r0⟩ := h0.part_ o0 (hf 0 f0 rfl) w0
    obtain ⟨x1, r1⟩ := h1.part_ o1 (hf 1 f1 rfl) w1
    obtain ⟨x2, r2⟩ := h2.part_ o2 (hf 2 f2 rfl) w2
    obtain ⟨x3, r3⟩ := h3.part_ o3 (hf 3 f3 rfl) w3
    exact ⟨⟨x0, x1, x2, x3⟩, Rp.field_mk (hl.trans hc) r0 r1 r2 r3⟩
theorem Opens.account {P : Program} {t : TypeId} {f0 f1 f2 : Field} (hu : P.underlying t = some (.struct #[f0, f1, f2])) (hc : P.cellsOf t = 3)
    (o0 : f0.offset = 0) (o1 : f1.offset = 1) (o2 : f2.offset = 2)
    (h0 : Opens P f0.type Rp.str) (h1 : Opens P f1.type (Rp.int .u64)) (h2 : Opens P f2.type (Rp.int .u64)) : Opens P t Rp.account := by
  refine ⟨hc, fun {H} enc W spare held fuel cs d p h hw => ?_⟩
  obtain ⟨xs, n, _, hx, hl, hlen, hf⟩ := DataW.trod_struct hu h
  simp only [Prod.mk.injEq] at hx
  obtain ⟨rfl, rfl⟩ := hx
  match xs, hlen with
  | [y0, y1, y2], _ =>
    simp only [DataW.weights, hu, List.map_cons, List.map_nil, DataW.weightsEach, List.all_append, Bool.and_eq_true] at hw
    obtain ⟨w0, w1, w2, _⟩ := hw
    obtain ⟨x0, r0⟩ := h0.part_ o0 (hf 0 f0 rfl) w0
    obtain ⟨x1, r1⟩ := h1.part_ o1 (hf 1 f1 rfl) w1
    obtain ⟨x2, r2⟩ := h2.part_ o2 (hf 2 f2 rfl) w2
    exact ⟨⟨x0, x1, x2⟩, Rp.account_mk (hl.trans hc) r0 r1 r2⟩
theorem Opens.ledger {P : Program} {t : TypeId} {f0 f1 : Field} (hu : P.underlying t = some (.struct #[f0, f1])) (hc : P.cellsOf t = 2)
    (o0 : f0.offset = 0) (o1 : f1.offset = 1)
    (h0 : Opens P f0.type (Rp.slice Rp.account)) (h1 : Opens P f1.type (Rp.int .u64)) : Opens P t Rp.ledger := by
  refine ⟨hc, fun {H} enc W spare held fuel cs d p h hw => ?_⟩
  obtain ⟨xs, n, _, hx, hl, hlen, hf⟩ := DataW.trod_struct hu h
  simp only [Prod.mk.injEq] at hx
  obtain ⟨rfl, rfl⟩ := hx
  match xs, hlen with
  | [y0, y1], _ =>
    simp only [DataW.weights, hu, List.map_cons, List.map_nil, DataW.weightsEach, List.all_append, Bool.and_eq_true] at hw
    obtain ⟨w0, w1, _⟩ := hw
    obtain ⟨x0, r0⟩ := h0.part_ o0 (hf 0 f0 rfl) w0
    obtain ⟨x1, r1⟩ := h1.part_ o1 (hf 1 f1 rfl) w1
    exact ⟨⟨x0, x1⟩, Rp.ledger_mk (hl.trans hc) r0 r1⟩
theorem Opens.transfer {P : Program} {t : TypeId} {f0 f1 : Field} (hu : P.underlying t = some (.struct #[f0, f1])) (hc : P.cellsOf t = 2)
    (o0 : f0.offset = 0) (o1 : f1.offset = 1)
    (h0 : Opens P f0.type Rp.str) (h1 : Opens P f1.type (Rp.int .u64)) : Opens P t Rp.transfer := by
  refine ⟨hc, fun {H} enc W spare held fuel cs d p h hw => ?_⟩
  obtain ⟨xs, n, _, hx, hl, hlen, hf⟩ := DataW.trod_struct hu h
  simp only [Prod.mk.injEq] at hx
  obtain ⟨rfl, rfl⟩ := hx
  match xs, hlen with
  | [y0, y1], _ =>
    simp only [DataW.weights, hu, List.map_cons, List.map_nil, DataW.weightsEach, List.all_append, Bool.and_eq_true] at hw
    obtain ⟨w0, w1, _⟩ := hw
    obtain ⟨x0, r0⟩ := h0.part_ o0 (hf 0 f0 rfl) w0
    obtain ⟨x1, r1⟩ := h1.part_ o1 (hf 1 f1 rfl) w1
    exact ⟨⟨x0, x1⟩, Rp.transfer_mk (hl.trans hc) r0 r1⟩
theorem Opens.tx {P : Program} {t : TypeId} {f0 f1 f2 f3 f4 f5 : Field} (hu : P.underlying t = some (.struct #[f0, f1, f2, f3, f4, f5])) (hc : P.cellsOf t = 6)
    (o0 : f0.offset = 0) (o1 : f1.offset = 1) (o2 : f2.offset = 2) (o3 : f3.offset = 3) (o4 : f4.offset = 4) (o5 : f5.offset = 5)
    (h0 : Opens P f0.type Rp.str) (h1 : Opens P f1.type (Rp.int .u64)) (h2 : Opens P f2.type (Rp.int .u64)) (h3 : Opens P f3.type (Rp.int .u64)) (h4 : Opens P f4.type Rp.str) (h5 : Opens P f5.type (Rp.slice Rp.transfer)) : Opens P t Rp.tx := by
  refine ⟨hc, fun {H} enc W spare held fuel cs d p h hw => ?_⟩
  obtain ⟨xs, n, _, hx, hl, hlen, hf⟩ := DataW.trod_struct hu h
  simp only [Prod.mk.injEq] at hx
  obtain ⟨rfl, rfl⟩ := hx
  match xs, hlen with
  | [y0, y1, y2, y3, y4, y5], _ =>
    simp only [DataW.weights, hu, List.map_cons, List.map_nil, DataW.weightsEach, List.all_append, Bool.and_eq_true] at hw
    obtain ⟨w0, w1, w2, w3, w4, w5, _⟩ := hw
    obtain ⟨x0, r0⟩ := h0.part_ o0 (hf 0 f0 rfl) w0
    obtain ⟨x1, r1⟩ := h1.part_ o1 (hf 1 f1 rfl) w1
    obtain ⟨x2, r2⟩ := h2.part_ o2 (hf 2 f2 rfl) w2
    obtain ⟨x3, r3⟩ := h3.part_ o3 (hf 3 f3 rfl) w3
    obtain ⟨x4, r4⟩ := h4.part_ o4 (hf 4 f4 rfl) w4
    obtain ⟨x5, r5⟩ := h5.part_ o5 (hf 5 f5 rfl) w5
    exact ⟨⟨x0, x1, x2, x3, x4, x5⟩, Rp.tx_mk (hl.trans hc) r0 r1 r2 r3 r4 r5⟩
theorem Opens.result {P : Program} {t : TypeId} {f0 f1 f2 f3 f4 : Field} (hu : P.underlying t = some (.struct #[f0, f1, f2, f3, f4])) (hc : P.cellsOf t = 5)
    (o0 : f0.offset = 0) (o1 : f1.offset = 1) (o2 : f2.offset = 2) (o3 : f3.offset = 3) (o4 : f4.offset = 4)
    (h0 : Opens P f0.type (Rp.int .i64)) (h1 : Opens P f1.type Rp.str) (h2 : Opens P f2.type (Rp.int .u64)) (h3 : Opens P f3.type (Rp.int .u64)) (h4 : Opens P f4.type (Rp.int .u64)) : Opens P t Rp.result := by
  refine ⟨hc, fun {H} enc W spare held fuel cs d p h hw => ?_⟩
  obtain ⟨xs, n, _, hx, hl, hlen, hf⟩ := DataW.trod_struct hu h
  simp only [Prod.mk.injEq] at hx
  obtain ⟨rfl, rfl⟩ := hx
  match xs, hlen with
  | [y0, y1, y2, y3, y4], _ =>
    simp only [DataW.weights, hu, List.map_cons, List.map_nil, DataW.weightsEach, List.all_append, Bool.and_eq_true] at hw
    obtain ⟨w0, w1, w2, w3, w4, _⟩ := hw
    obtain ⟨x0, r0⟩ := h0.part_ o0 (hf 0 f0 rfl) w0
    obtain ⟨x1, r1⟩ := h1.part_ o1 (hf 1 f1 rfl) w1
    obtain ⟨x2, r2⟩ := h2.part_ o2 (hf 2 f2 rfl) w2
    obtain ⟨x3, r3⟩ := h3.part_ o3 (hf 3 f3 rfl) w3
    obtain ⟨x4, r4⟩ := h4.part_ o4 (hf 4 f4 rfl) w4
    exact ⟨⟨x0, x1, x2, x3, x4⟩, Rp.result_mk (hl.trans hc) r0 r1 r2 r3 r4⟩
theorem Opens.app {P : Program} {t : TypeId} {f0 f1 f2 f3 f4 : Field} (hu : P.underlying t = some (.struct #[f0, f1, f2, f3, f4])) (hc : P.cellsOf t = 8)
    (o0 : f0.offset = 0) (o1 : f1.offset = 2) (o2 : f2.offset = 4) (o3 : f3.offset = 6) (o4 : f4.offset = 7)
    (h0 : Opens P f0.type Rp.ledger) (h1 : Opens P f1.type Rp.ledger) (h2 : Opens P f2.type Rp.ledger) (h3 : Opens P f3.type Rp.bool) (h4 : Opens P f4.type (Rp.int .u64)) : Opens P t Rp.app := by
  refine ⟨hc, fun {H} enc W spare held fuel cs d p h hw => ?_⟩
  obtain ⟨xs, n, _, hx, hl, hlen, hf⟩ := DataW.trod_struct hu h
  simp only [Prod.mk.injEq] at hx
  obtain ⟨rfl, rfl⟩ := hx
  match xs, hlen with
  | [y0, y1, y2, y3, y4], _ =>
    simp only [DataW.weights, hu, List.map_cons, List.map_nil, DataW.weightsEach, List.all_append, Bool.and_eq_true] at hw
    obtain ⟨w0, w1, w2, w3, w4, _⟩ := hw
    obtain ⟨x0, r0⟩ := h0.part_ o0 (hf 0 f0 rfl) w0
    obtain ⟨x1, r1⟩ := h1.part_ o1 (hf 1 f1 rfl) w1
    obtain ⟨x2, r2⟩ := h2.part_ o2 (hf 2 f2 rfl) w2
    obtain ⟨x3, r3⟩ := h3.part_ o3 (hf 3 f3 rfl) w3
    obtain ⟨x4, r4⟩ := h4.part_ o4 (hf 4 f4 rfl) w4
    exact ⟨⟨x0, x1, x2, x3, x4⟩, Rp.app_mk (hl.trans hc) r0 r1 r2 r3 r4⟩
theorem Opens.config {P : Program} {t : TypeId} {f0 f1 f2 f3 f4 f5 f6 f7 f8 f9 f10 f11 : Field} (hu : P.underlying t = some (.struct #[f0, f1, f2, f3, f4, f5, f6, f7, f8, f9, f10, f11])) (hc : P.cellsOf t = 12)
    (o0 : f0.offset = 0) (o1 : f1.offset = 1) (o2 : f2.offset = 2) (o3 : f3.offset = 3) (o4 : f4.offset = 4) (o5 : f5.offset = 5) (o6 : f6.offset = 6) (o7 : f7.offset = 7) (o8 : f8.offset = 8) (o9 : f9.offset = 9) (o10 : f10.offset = 10) (o11 : f11.offset = 11)
    (h0 : Opens P f0.type (Rp.int .i64)) (h1 : Opens P f1.type (Rp.int .i64)) (h2 : Opens P f2.type (Rp.int .i64)) (h3 : Opens P f3.type (Rp.int .i64)) (h4 : Opens P f4.type (Rp.int .i64)) (h5 : Opens P f5.type (Rp.int .i64)) (h6 : Opens P f6.type Rp.bool) (h7 : Opens P f7.type (Rp.int .i64)) (h8 : Opens P f8.type (Rp.int .i64)) (h9 : Opens P f9.type (Rp.int .u64)) (h10 : Opens P f10.type (Rp.int .i64)) (h11 : Opens P f11.type (Rp.int .i64)) : Opens P t Rp.config := by
  refine ⟨hc, fun {H} enc W spare held fuel cs d p h hw => ?_⟩
  obtain ⟨xs, n, _, hx, hl, hlen, hf⟩ := DataW.trod_struct hu h
  simp only [Prod.mk.injEq] at hx
  obtain ⟨rfl, rfl⟩ := hx
  match xs, hlen with
  | [y0, y1, y2, y3, y4, y5, y6, y7, y8, y9, y10, y11], _ =>
    simp only [DataW.weights, hu, List.map_cons, List.map_nil, DataW.weightsEach, List.all_append, Bool.and_eq_true] at hw
    obtain ⟨w0, w1, w2, w3, w4, w5, w6, w7, w8, w9, w10, w11, _⟩ := hw
    obtain ⟨x0, r0⟩ := h0.part_ o0 (hf 0 f0 rfl) w0
    obtain ⟨x1, r1⟩ := h1.part_ o1 (hf 1 f1 rfl) w1
    obtain ⟨x2, r2⟩ := h2.part_ o2 (hf 2 f2 rfl) w2
    obtain ⟨x3, r3⟩ := h3.part_ o3 (hf 3 f3 rfl) w3
    obtain ⟨x4, r4⟩ := h4.part_ o4 (hf 4 f4 rfl) w4
    obtain ⟨x5, r5⟩ := h5.part_ o5 (hf 5 f5 rfl) w5
    obtain ⟨x6, r6⟩ := h6.part_ o6 (hf 6 f6 rfl) w6
    obtain ⟨x7, r7⟩ := h7.part_ o7 (hf 7 f7 rfl) w7
    obtain ⟨x8, r8⟩ := h8.part_ o8 (hf 8 f8 rfl) w8
    obtain ⟨x9, r9⟩ := h9.part_ o9 (hf 9 f9 rfl) w9
    obtain ⟨x10, r10⟩ := h10.part_ o10 (hf 10 f10 rfl) w10
    obtain ⟨x11, r11⟩ := h11.part_ o11 (hf 11 f11 rfl) w11
    exact ⟨⟨x0, x1, x2, x3, x4, x5, x6, x7, x8, x9, x10, x11⟩, Rp.config_mk (hl.trans hc) r0 r1 r2 r3 r4 r5 r6 r7 r8 r9 r10 r11⟩
theorem Opens.item {P : Program} {t : TypeId} {f0 f1 f2 : Field} (hu : P.underlying t = some (.struct #[f0, f1, f2])) (hc : P.cellsOf t = 3)
    (o0 : f0.offset = 0) (o1 : f1.offset = 1) (o2 : f2.offset = 2)
    (h0 : Opens P f0.type (Rp.int .i64)) (h1 : Opens P f1.type (Rp.int .u64)) (h2 : Opens P f2.type (Rp.int .i64)) : Opens P t Rp.item := by
  refine ⟨hc, fun {H} enc W spare held fuel cs d p h hw => ?_⟩
  obtain ⟨xs, n, _, hx, hl, hlen, hf⟩ := DataW.trod_struct hu h
  simp only [Prod.mk.injEq] at hx
  obtain ⟨rfl, rfl⟩ := hx
  match xs, hlen with
  | [y0, y1, y2], _ =>
    simp only [DataW.weights, hu, List.map_cons, List.map_nil, DataW.weightsEach, List.all_append, Bool.and_eq_true] at hw
    obtain ⟨w0, w1, w2, _⟩ := hw
    obtain ⟨x0, r0⟩ := h0.part_ o0 (hf 0 f0 rfl) w0
    obtain ⟨x1, r1⟩ := h1.part_ o1 (hf 1 f1 rfl) w1
    obtain ⟨x2, r2⟩ := h2.part_ o2 (hf 2 f2 rfl) w2
    exact ⟨⟨x0, x1, x2⟩, Rp.item_mk (hl.trans hc) r0 r1 r2⟩
theorem Opens.handle {P : Program} {t : TypeId} {f0 f1 : Field} (hu : P.underlying t = some (.struct #[f0, f1])) (hc : P.cellsOf t = 2)
    (o0 : f0.offset = 0) (o1 : f1.offset = 1)
    (h0 : Opens P f0.type (Rp.int .i64)) (h1 : Opens P f1.type (Rp.int .i64)) : Opens P t Rp.handle := by
  refine ⟨hc, fun {H} enc W spare held fuel cs d p h hw => ?_⟩
  obtain ⟨xs, n, _, hx, hl, hlen, hf⟩ := DataW.trod_struct hu h
  simp only [Prod.mk.injEq] at hx
  obtain ⟨rfl, rfl⟩ := hx
  match xs, hlen with
  | [y0, y1], _ =>
    simp only [DataW.weights, hu, List.map_cons, List.map_nil, DataW.weightsEach, List.all_append, Bool.and_eq_true] at hw
    obtain ⟨w0, w1, _⟩ := hw
    obtain ⟨x0, r0⟩ := h0.part_ o0 (hf 0 f0 rfl) w0
    obtain ⟨x1, r1⟩ := h1.part_ o1 (hf 1 f1 rfl) w1
    exact ⟨⟨x0, x1⟩, Rp.handle_mk (hl.trans hc) r0 r1⟩
theorem Opens.entry {P : Program} {t : TypeId} {f0 f1 f2 f3 f4 f5 f6 f7 f8 f9 : Field} (hu : P.underlying t = some (.struct #[f0, f1, f2, f3, f4, f5, f6, f7, f8, f9])) (hc : P.cellsOf t = 41)
    (o0 : f0.offset = 0) (o1 : f1.offset = 32) (o2 : f2.offset = 33) (o3 : f3.offset = 34) (o4 : f4.offset = 35) (o5 : f5.offset = 36) (o6 : f6.offset = 37) (o7 : f7.offset = 38) (o8 : f8.offset = 39) (o9 : f9.offset = 40)
    (h0 : Opens P f0.type Rp.key) (h1 : Opens P f1.type Rp.bytes) (h2 : Opens P f2.type Rp.str) (h3 : Opens P f3.type (Rp.int .u64)) (h4 : Opens P f4.type (Rp.int .u64)) (h5 : Opens P f5.type (Rp.int .u64)) (h6 : Opens P f6.type (Rp.int .i64)) (h7 : Opens P f7.type (Rp.int .i64)) (h8 : Opens P f8.type (Rp.int .i64)) (h9 : Opens P f9.type Rp.ints) : Opens P t Rp.entry := by
  refine ⟨hc, fun {H} enc W spare held fuel cs d p h hw => ?_⟩
  obtain ⟨xs, n, _, hx, hl, hlen, hf⟩ := DataW.trod_struct hu h
  simp only [Prod.mk.injEq] at hx
  obtain ⟨rfl, rfl⟩ := hx
  match xs, hlen with
  | [y0, y1, y2, y3, y4, y5, y6, y7, y8, y9], _ =>
    simp only [DataW.weights, hu, List.map_cons, List.map_nil, DataW.weightsEach, List.all_append, Bool.and_eq_true] at hw
    obtain ⟨w0, w1, w2, w3, w4, w5, w6, w7, w8, w9, _⟩ := hw
    obtain ⟨x0, r0⟩ := h0.part_ o0 (hf 0 f0 rfl) w0
    obtain ⟨x1, r1⟩ := h1.part_ o1 (hf 1 f1 rfl) w1
    obtain ⟨x2, r2⟩ := h2.part_ o2 (hf 2 f2 rfl) w2
    obtain ⟨x3, r3⟩ := h3.part_ o3 (hf 3 f3 rfl) w3
    obtain ⟨x4, r4⟩ := h4.part_ o4 (hf 4 f4 rfl) w4
    obtain ⟨x5, r5⟩ := h5.part_ o5 (hf 5 f5 rfl) w5
    obtain ⟨x6, r6⟩ := h6.part_ o6 (hf 6 f6 rfl) w6
    obtain ⟨x7, r7⟩ := h7.part_ o7 (hf 7 f7 rfl) w7
    obtain ⟨x8, r8⟩ := h8.part_ o8 (hf 8 f8 rfl) w8
    obtain ⟨x9, r9⟩ := h9.part_ o9 (hf 9 f9 rfl) w9
    exact ⟨⟨x0, x1, x2, x3, x4, x5, x6, x7, x8, x9⟩, Rp.entry_mk (hl.trans hc) r0 r1 r2 r3 r4 r5 r6 r7 r8 r9⟩
theorem Opens.state {P : Program} {t : TypeId} {f0 f1 f2 f3 f4 f5 f6 : Field} (hu : P.underlying t = some (.struct #[f0, f1, f2, f3, f4, f5, f6])) (hc : P.cellsOf t = 25)
    (o0 : f0.offset = 0) (o1 : f1.offset = 12) (o2 : f2.offset = 20) (o3 : f3.offset = 21) (o4 : f4.offset = 22) (o5 : f5.offset = 23) (o6 : f6.offset = 24)
    (h0 : Opens P f0.type Rp.config) (h1 : Opens P f1.type Rp.app) (h2 : Opens P f2.type (Rp.int .i64)) (h3 : Opens P f3.type (Rp.int .i64)) (h4 : Opens P f4.type (Rp.int .i64)) (h5 : Opens P f5.type (Rp.slice Rp.entry)) (h6 : Opens P f6.type (Rp.slice Rp.key)) : Opens P t Rp.state := by
  refine ⟨hc, fun {H} enc W spare held fuel cs d p h hw => ?_⟩
  obtain ⟨xs, n, _, hx, hl, hlen, hf⟩ := DataW.trod_struct hu h
  simp only [Prod.mk.injEq] at hx
  obtain ⟨rfl, rfl⟩ := hx
  match xs, hlen with
  | [y0, y1, y2, y3, y4, y5, y6], _ =>
    simp only [DataW.weights, hu, List.map_cons, List.map_nil, DataW.weightsEach, List.all_append, Bool.and_eq_true] at hw
    obtain ⟨w0, w1, w2, w3, w4, w5, w6, _⟩ := hw
    obtain ⟨x0, r0⟩ := h0.part_ o0 (hf 0 f0 rfl) w0
    obtain ⟨x1, r1⟩ := h1.part_ o1 (hf 1 f1 rfl) w1
    obtain ⟨x2, r2⟩ := h2.part_ o2 (hf 2 f2 rfl) w2
    obtain ⟨x3, r3⟩ := h3.part_ o3 (hf 3 f3 rfl) w3
    obtain ⟨x4, r4⟩ := h4.part_ o4 (hf 4 f4 rfl) w4
    obtain ⟨x5, r5⟩ := h5.part_ o5 (hf 5 f5 rfl) w5
    obtain ⟨x6, r6⟩ := h6.part_ o6 (hf 6 f6 rfl) w6
    exact ⟨⟨x0, x1, x2, x3, x4, x5, x6⟩, Rp.state_mk (hl.trans hc) r0 r1 r2 r3 r4 r5 r6⟩
theorem Opens.reply {P : Program} {t : TypeId} {f0 f1 f2 f3 f4 f5 f6 f7 f8 f9 f10 : Field} (hu : P.underlying t = some (.struct #[f0, f1, f2, f3, f4, f5, f6, f7, f8, f9, f10])) (hc : P.cellsOf t = 73)
    (o0 : f0.offset = 0) (o1 : f1.offset = 1) (o2 : f2.offset = 33) (o3 : f3.offset = 34) (o4 : f4.offset = 35) (o5 : f5.offset = 36) (o6 : f6.offset = 37) (o7 : f7.offset = 38) (o8 : f8.offset = 39) (o9 : f9.offset = 40) (o10 : f10.offset = 41)
    (h0 : Opens P f0.type (Rp.int .i64)) (h1 : Opens P f1.type Rp.key) (h2 : Opens P f2.type (Rp.int .u64)) (h3 : Opens P f3.type (Rp.slice Rp.key)) (h4 : Opens P f4.type (Rp.slice Rp.key)) (h5 : Opens P f5.type (Rp.slice Rp.key)) (h6 : Opens P f6.type (Rp.slice Rp.key)) (h7 : Opens P f7.type (Rp.slice Rp.key)) (h8 : Opens P f8.type (Rp.slice Rp.bytes)) (h9 : Opens P f9.type (Rp.int .i64)) (h10 : Opens P f10.type Rp.key) : Opens P t Rp.reply := by
  refine ⟨hc, fun {H} enc W spare held fuel cs d p h hw => ?_⟩
  obtain ⟨xs, n, _, hx, hl, hlen, hf⟩ := DataW.trod_struct hu h
  simp only [Prod.mk.injEq] at hx
  obtain ⟨rfl, rfl⟩ := hx
  match xs, hlen with
  | [y0, y1, y2, y3, y4, y5, y6, y7, y8, y9, y10], _ =>
    simp only [DataW.weights, hu, List.map_cons, List.map_nil, DataW.weightsEach, List.all_append, Bool.and_eq_true] at hw
    obtain ⟨w0, w1, w2, w3, w4, w5, w6, w7, w8, w9, w10, _⟩ := hw
    obtain ⟨x0, r0⟩ := h0.part_ o0 (hf 0 f0 rfl) w0
    obtain ⟨x1, r1⟩ := h1.part_ o1 (hf 1 f1 rfl) w1
    obtain ⟨x2, r2⟩ := h2.part_ o2 (hf 2 f2 rfl) w2
    obtain ⟨x3, r3⟩ := h3.part_ o3 (hf 3 f3 rfl) w3
    obtain ⟨x4, r4⟩ := h4.part_ o4 (hf 4 f4 rfl) w4
    obtain ⟨x5, r5⟩ := h5.part_ o5 (hf 5 f5 rfl) w5
    obtain ⟨x6, r6⟩ := h6.part_ o6 (hf 6 f6 rfl) w6
    obtain ⟨x7, r7⟩ := h7.part_ o7 (hf 7 f7 rfl) w7
    obtain ⟨x8, r8⟩ := h8.part_ o8 (hf 8 f8 rfl) w8
    obtain ⟨x9, r9⟩ := h9.part_ o9 (hf 9 f9 rfl) w9
    obtain ⟨x10, r10⟩ := h10.part_ o10 (hf 10 f10 rfl) w10
    exact ⟨⟨x0, x1, x2, x3, x4, x5, x6, x7, x8, x9, x10⟩, Rp.reply_mk (hl.trans hc) r0 r1 r2 r3 r4 r5 r6 r7 r8 r9 r10⟩
theorem Opens.header {P : Program} {t : TypeId} {f0 f1 f2 f3 f4 f5 f6 : Field} (hu : P.underlying t = some (.struct #[f0, f1, f2, f3, f4, f5, f6])) (hc : P.cellsOf t = 131)
    (o0 : f0.offset = 0) (o1 : f1.offset = 1) (o2 : f2.offset = 2) (o3 : f3.offset = 3) (o4 : f4.offset = 35) (o5 : f5.offset = 67) (o6 : f6.offset = 99)
    (h0 : Opens P f0.type (Rp.int .i64)) (h1 : Opens P f1.type (Rp.int .i64)) (h2 : Opens P f2.type (Rp.int .i64)) (h3 : Opens P f3.type Rp.key) (h4 : Opens P f4.type Rp.key) (h5 : Opens P f5.type Rp.key) (h6 : Opens P f6.type Rp.key) : Opens P t Rp.header := by
  refine ⟨hc, fun {H} enc W spare held fuel cs d p h hw => ?_⟩
  obtain ⟨xs, n, _, hx, hl, hlen, hf⟩ := DataW.trod_struct hu h
  simp only [Prod.mk.injEq] at hx
  obtain ⟨rfl, rfl⟩ := hx
  match xs, hlen with
  | [y0, y1, y2, y3, y4, y5, y6], _ =>
    simp only [DataW.weights, hu, List.map_cons, List.map_nil, DataW.weightsEach, List.all_append, Bool.and_eq_true] at hw
    obtain ⟨w0, w1, w2, w3, w4, w5, w6, _⟩ := hw
    obtain ⟨x0, r0⟩ := h0.part_ o0 (hf 0 f0 rfl) w0
    obtain ⟨x1, r1⟩ := h1.part_ o1 (hf 1 f1 rfl) w1
    obtain ⟨x2, r2⟩ := h2.part_ o2 (hf 2 f2 rfl) w2
    obtain ⟨x3, r3⟩ := h3.part_ o3 (hf 3 f3 rfl) w3
    obtain ⟨x4, r4⟩ := h4.part_ o4 (hf 4 f4 rfl) w4
    obtain ⟨x5, r5⟩ := h5.part_ o5 (hf 5 f5 rfl) w5
    obtain ⟨x6, r6⟩ := h6.part_ o6 (hf 6 f6 rfl) w6
    exact ⟨⟨x0, x1, x2, x3, x4, x5, x6⟩, Rp.header_mk (hl.trans hc) r0 r1 r2 r3 r4 r5 r6⟩
theorem Opens.block {P : Program} {t : TypeId} {f0 f1 : Field} (hu : P.underlying t = some (.struct #[f0, f1])) (hc : P.cellsOf t = 132)
    (o0 : f0.offset = 0) (o1 : f1.offset = 131)
    (h0 : Opens P f0.type Rp.header) (h1 : Opens P f1.type (Rp.slice Rp.bytes)) : Opens P t Rp.block := by
  refine ⟨hc, fun {H} enc W spare held fuel cs d p h hw => ?_⟩
  obtain ⟨xs, n, _, hx, hl, hlen, hf⟩ := DataW.trod_struct hu h
  simp only [Prod.mk.injEq] at hx
  obtain ⟨rfl, rfl⟩ := hx
  match xs, hlen with
  | [y0, y1], _ =>
    simp only [DataW.weights, hu, List.map_cons, List.map_nil, DataW.weightsEach, List.all_append, Bool.and_eq_true] at hw
    obtain ⟨w0, w1, _⟩ := hw
    obtain ⟨x0, r0⟩ := h0.part_ o0 (hf 0 f0 rfl) w0
    obtain ⟨x1, r1⟩ := h1.part_ o1 (hf 1 f1 rfl) w1
    exact ⟨⟨x0, x1⟩, Rp.block_mk (hl.trans hc) r0 r1⟩
theorem Opens.tip {P : Program} {t : TypeId} {f0 f1 f2 f3 f4 : Field} (hu : P.underlying t = some (.struct #[f0, f1, f2, f3, f4])) (hc : P.cellsOf t = 98)
    (o0 : f0.offset = 0) (o1 : f1.offset = 1) (o2 : f2.offset = 2) (o3 : f3.offset = 34) (o4 : f4.offset = 66)
    (h0 : Opens P f0.type (Rp.int .i64)) (h1 : Opens P f1.type (Rp.int .i64)) (h2 : Opens P f2.type Rp.key) (h3 : Opens P f3.type Rp.key) (h4 : Opens P f4.type Rp.key) : Opens P t Rp.tip := by
  refine ⟨hc, fun {H} enc W spare held fuel cs d p h hw => ?_⟩
  obtain ⟨xs, n, _, hx, hl, hlen, hf⟩ := DataW.trod_struct hu h
  simp only [Prod.mk.injEq] at hx
  obtain ⟨rfl, rfl⟩ := hx
  match xs, hlen with
  | [y0, y1, y2, y3, y4], _ =>
    simp only [DataW.weights, hu, List.map_cons, List.map_nil, DataW.weightsEach, List.all_append, Bool.and_eq_true] at hw
    obtain ⟨w0, w1, w2, w3, w4, _⟩ := hw
    obtain ⟨x0, r0⟩ := h0.part_ o0 (hf 0 f0 rfl) w0
    obtain ⟨x1, r1⟩ := h1.part_ o1 (hf 1 f1 rfl) w1
    obtain ⟨x2, r2⟩ := h2.part_ o2 (hf 2 f2 rfl) w2
    obtain ⟨x3, r3⟩ := h3.part_ o3 (hf 3 f3 rfl) w3
    obtain ⟨x4, r4⟩ := h4.part_ o4 (hf 4 f4 rfl) w4
    exact ⟨⟨x0, x1, x2, x3, x4⟩, Rp.tip_mk (hl.trans hc) r0 r1 r2 r3 r4⟩
theorem Opens.op {P : Program} {t : TypeId} {f0 f1 f2 f3 f4 : Field} (hu : P.underlying t = some (.struct #[f0, f1, f2, f3, f4])) (hc : P.cellsOf t = 5)
    (o0 : f0.offset = 0) (o1 : f1.offset = 1) (o2 : f2.offset = 2) (o3 : f3.offset = 3) (o4 : f4.offset = 4)
    (h0 : Opens P f0.type (Rp.int .i64)) (h1 : Opens P f1.type (Rp.int .i64)) (h2 : Opens P f2.type (Rp.int .i64)) (h3 : Opens P f3.type (Rp.int .i64)) (h4 : Opens P f4.type Rp.bytes) : Opens P t Rp.op := by
  refine ⟨hc, fun {H} enc W spare held fuel cs d p h hw => ?_⟩
  obtain ⟨xs, n, _, hx, hl, hlen, hf⟩ := DataW.trod_struct hu h
  simp only [Prod.mk.injEq] at hx
  obtain ⟨rfl, rfl⟩ := hx
  match xs, hlen with
  | [y0, y1, y2, y3, y4], _ =>
    simp only [DataW.weights, hu, List.map_cons, List.map_nil, DataW.weightsEach, List.all_append, Bool.and_eq_true] at hw
    obtain ⟨w0, w1, w2, w3, w4, _⟩ := hw
    obtain ⟨x0, r0⟩ := h0.part_ o0 (hf 0 f0 rfl) w0
    obtain ⟨x1, r1⟩ := h1.part_ o1 (hf 1 f1 rfl) w1
    obtain ⟨x2, r2⟩ := h2.part_ o2 (hf 2 f2 rfl) w2
    obtain ⟨x3, r3⟩ := h3.part_ o3 (hf 3 f3 rfl) w3
    obtain ⟨x4, r4⟩ := h4.part_ o4 (hf 4 f4 rfl) w4
    exact ⟨⟨x0, x1, x2, x3, x4⟩, Rp.op_mk (hl.trans hc) r0 r1 r2 r3 r4⟩
theorem Opens.counts {P : Program} {t : TypeId} {f0 f1 f2 f3 f4 f5 f6 f7 f8 : Field} (hu : P.underlying t = some (.struct #[f0, f1, f2, f3, f4, f5, f6, f7, f8])) (hc : P.cellsOf t = 9)
    (o0 : f0.offset = 0) (o1 : f1.offset = 1) (o2 : f2.offset = 2) (o3 : f3.offset = 3) (o4 : f4.offset = 4) (o5 : f5.offset = 5) (o6 : f6.offset = 6) (o7 : f7.offset = 7) (o8 : f8.offset = 8)
    (h0 : Opens P f0.type (Rp.int .i64)) (h1 : Opens P f1.type (Rp.int .i64)) (h2 : Opens P f2.type (Rp.int .i64)) (h3 : Opens P f3.type (Rp.int .i64)) (h4 : Opens P f4.type (Rp.int .i64)) (h5 : Opens P f5.type (Rp.int .i64)) (h6 : Opens P f6.type (Rp.int .i64)) (h7 : Opens P f7.type (Rp.int .i64)) (h8 : Opens P f8.type (Rp.int .i64)) : Opens P t Rp.counts := by
  refine ⟨hc, fun {H} enc W spare held fuel cs d p h hw => ?_⟩
  obtain ⟨xs, n, _, hx, hl, hlen, hf⟩ := DataW.trod_struct hu h
  simp only [Prod.mk.injEq] at hx
  obtain ⟨rfl, rfl⟩ := hx
  match xs, hlen with
  | [y0, y1, y2, y3, y4, y5, y6, y7, y8], _ =>
    simp only [DataW.weights, hu, List.map_cons, List.map_nil, DataW.weightsEach, List.all_append, Bool.and_eq_true] at hw
    obtain ⟨w0, w1, w2, w3, w4, w5, w6, w7, w8, _⟩ := hw
    obtain ⟨x0, r0⟩ := h0.part_ o0 (hf 0 f0 rfl) w0
    obtain ⟨x1, r1⟩ := h1.part_ o1 (hf 1 f1 rfl) w1
    obtain ⟨x2, r2⟩ := h2.part_ o2 (hf 2 f2 rfl) w2
    obtain ⟨x3, r3⟩ := h3.part_ o3 (hf 3 f3 rfl) w3
    obtain ⟨x4, r4⟩ := h4.part_ o4 (hf 4 f4 rfl) w4
    obtain ⟨x5, r5⟩ := h5.part_ o5 (hf 5 f5 rfl) w5
    obtain ⟨x6, r6⟩ := h6.part_ o6 (hf 6 f6 rfl) w6
    obtain ⟨x7, r7⟩ := h7.part_ o7 (hf 7 f7 rfl) w7
    obtain ⟨x8, r8⟩ := h8.part_ o8 (hf 8 f8 rfl) w8
    exact ⟨⟨x0, x1, x2, x3, x4, x5, x6, x7, x8⟩, Rp.counts_mk (hl.trans hc) r0 r1 r2 r3 r4 r5 r6 r7 r8⟩
theorem Opens.netEvent {P : Program} {t : TypeId} {f0 f1 f2 f3 f4 : Field} (hu : P.underlying t = some (.struct #[f0, f1, f2, f3, f4])) (hc : P.cellsOf t = 5)
    (o0 : f0.offset = 0) (o1 : f1.offset = 1) (o2 : f2.offset = 2) (o3 : f3.offset = 3) (o4 : f4.offset = 4)
    (h0 : Opens P f0.type (Rp.int .i64)) (h1 : Opens P f1.type (Rp.int .i64)) (h2 : Opens P f2.type (Rp.int .i64)) (h3 : Opens P f3.type (Rp.int .i64)) (h4 : Opens P f4.type Rp.bytes) : Opens P t Rp.netEvent := by
  refine ⟨hc, fun {H} enc W spare held fuel cs d p h hw => ?_⟩
  obtain ⟨xs, n, _, hx, hl, hlen, hf⟩ := DataW.trod_struct hu h
  simp only [Prod.mk.injEq] at hx
  obtain ⟨rfl, rfl⟩ := hx
  match xs, hlen with
  | [y0, y1, y2, y3, y4], _ =>
    simp only [DataW.weights, hu, List.map_cons, List.map_nil, DataW.weightsEach, List.all_append, Bool.and_eq_true] at hw
    obtain ⟨w0, w1, w2, w3, w4, _⟩ := hw
    obtain ⟨x0, r0⟩ := h0.part_ o0 (hf 0 f0 rfl) w0
    obtain ⟨x1, r1⟩ := h1.part_ o1 (hf 1 f1 rfl) w1
    obtain ⟨x2, r2⟩ := h2.part_ o2 (hf 2 f2 rfl) w2
    obtain ⟨x3, r3⟩ := h3.part_ o3 (hf 3 f3 rfl) w3
    obtain ⟨x4, r4⟩ := h4.part_ o4 (hf 4 f4 rfl) w4
    exact ⟨⟨x0, x1, x2, x3, x4⟩, Rp.netEvent_mk (hl.trans hc) r0 r1 r2 r3 r4⟩
theorem Opens.letter {P : Program} {t : TypeId} {f0 f1 f2 f3 : Field} (hu : P.underlying t = some (.struct #[f0, f1, f2, f3])) (hc : P.cellsOf t = 4)
    (o0 : f0.offset = 0) (o1 : f1.offset = 1) (o2 : f2.offset = 2) (o3 : f3.offset = 3)
    (h0 : Opens P f0.type (Rp.int .i64)) (h1 : Opens P f1.type (Rp.int .i64)) (h2 : Opens P f2.type Rp.bool) (h3 : Opens P f3.type Rp.bytes) : Opens P t Rp.letter := by
  refine ⟨hc, fun {H} enc W spare held fuel cs d p h hw => ?_⟩
  obtain ⟨xs, n, _, hx, hl, hlen, hf⟩ := DataW.trod_struct hu h
  simp only [Prod.mk.injEq] at hx
  obtain ⟨rfl, rfl⟩ := hx
  match xs, hlen with
  | [y0, y1, y2, y3], _ =>
    simp only [DataW.weights, hu, List.map_cons, List.map_nil, DataW.weightsEach, List.all_append, Bool.and_eq_true] at hw
    obtain ⟨w0, w1, w2, w3, _⟩ := hw
    obtain ⟨x0, r0⟩ := h0.part_ o0 (hf 0 f0 rfl) w0
    obtain ⟨x1, r1⟩ := h1.part_ o1 (hf 1 f1 rfl) w1
    obtain ⟨x2, r2⟩ := h2.part_ o2 (hf 2 f2 rfl) w2
    obtain ⟨x3, r3⟩ := h3.part_ o3 (hf 3 f3 rfl) w3
    exact ⟨⟨x0, x1, x2, x3⟩, Rp.letter_mk (hl.trans hc) r0 r1 r2 r3⟩
end Go.Proofs.YtllepnadffndnaaDoor
namespace Go.Proofs.YtllepnadffndnaaDoor
open Go.RowKit
inductive SV where
  | val (v : Value)
  | ptr (i g off : Nat)
  | lit (b : Bool)
  deriving Inhabited
structure KB where
  g : Nat
  t : TypeId
  cs : List SV
abbrev Mem := List (Nat × KB)
abbrev Env := List (Nat × SV)
abbrev Hist := List (World × Fp)
def Mem.find : Mem → Nat → Option KB
  | [], _ => none
  | (j, kb) :: M, i => bif Nat.beq j i then some kb else Mem.find M i
def Env.get : Env → Nat → Option SV
  | [], _ => none
  | (j, v) :: E, i => bif Nat.beq j i then some v else Env.get E i
def SV.den : SV → Value
  | .val v => v
  | .ptr _ g off => .pointer (some ⟨g, off, none⟩)
  | .lit b => .bool b
def Mem.gs (M : Mem) : Fp := fun b => ∃ i kb, M.find i = some kb ∧ kb.g = b
structure Since (ex : Fp) (h w : World) : Prop where
  os : w.os = h.os
  tape : w.tape = h.tape
  output : w.output = h.output
  size : h.heap.size ≤ w.heap.size
  block : ∀ b, b < h.heap.size → ¬ ex b → w.heap[b]? = h.heap[b]?
structure A (M : Mem) (H : Hist) (w : World) : Prop where
  blk : ∀ i kb, M.find i = some kb → Blk w kb.g kb.t (kb.cs.map SV.den).toArray
  apart : ∀ i j ki kj, M.find i = some ki → M.find j = some kj → i ≠ j → ki.g ≠ kj.g
  since : ∀ p ∈ H, Since p.2 p.1 w
  fresh : ∀ p ∈ H, ∀ i kb, M.find i = some kb → p.2 kb.g ∨ p.1.heap.size ≤ kb.g
structure Sat (N : Nat) (E : Env) (a : Act) : Prop where
  defers : a.defers = []
  size : a.tmps.size = N
  get : ∀ t v, E.get t = some v → a.tmps[t]? = some v.den
def ev (E : Env) : Operand → Option SV
  | .tmp t => E.get t
  | .const v => some (.val v)
  | .global g => some (.val (.pointer (some ⟨g, 0, none⟩)))
  | .func f => some (.val (.func (.func f) #[] #[]))
theorem Sat.ev {N : Nat} {E : Env} {a : Act} (h : Sat N E a) {x : Operand} {v : SV} (hx : ev E x = some v) : a.eval x = v.den := by
  cases x with
  | tmp t =>
    have := h.get t v hx
    simp [Act.eval, this]
  | const u => injection hx with hx; subst hx; rfl
  | global g => injection hx with hx; subst hx; rfl
  | func f => injection hx with hx; subst hx; rfl
theorem beq_ne {d t : Nat} (h : ¬ d = t) : Nat.beq d t = false := by
  cases hb : Nat.beq d t with
  | false => rfl
  | true => exact absurd (Nat.eq_of_beq_eq_true hb) h
theorem Env.get_cons {E : Env} {d t : Nat} {v : SV} : Env.get ((d, v) :: E) t = if d = t then some v else E.get t := by
  show (bif Nat.beq d t then some v else Env.get E t) = _
  by_cases h : d = t
  · subst h; simp
  · simp [beq_ne h, h]
theorem Mem.find_cons {M : Mem} {d t : Nat} {v : KB} : Mem.find ((d, v) :: M) t = if d = t then some v else M.find t := by
  show (bif Nat.beq d t then some v else Mem.find M t) = _
  by_cases h : d = t
  · subst h; simp
  · simp [beq_ne h, h]
theorem Sat.put {N : Nat} {E : Env} {a : Act} (h : Sat N E a) {d : Nat} (hd : d < N) (v : SV) : Sat N ((d, v) :: E) (a.put (some d) v.den) := by
  refine ⟨h.defers, by simp [Act.put, h.size], fun t u hu => ?_⟩
  rw [Env.get_cons] at hu
  simp only [Act.put, Array.getElem?_setIfInBounds]
  split at hu
  · rename_i e
    subst e
    injection hu with hu
    subst hu
    simp [h.size, hd]
  · rename_i e
    rw [if_neg e]
    exact h.get t u hu
theorem Since.refl (ex : Fp) (w : World) : Since ex w w := ⟨rfl, rfl, rfl, Nat.le_refl _, fun _ _ _ => rfl⟩
theorem Since.step {ex : Fp} {h w w' : World} {row : Fp} (k : Since ex h w) (s : Since row w w') (hr : ∀ b, row b → ex b ∨ h.heap.size ≤ b) : Since ex h w' :=
  ⟨s.os.trans k.os, s.tape.trans k.tape, s.output.trans k.output, Nat.le_trans k.size s.size, fun b hb he => by
    refine (s.block b (Nat.lt_of_lt_of_le hb k.size) fun hrb => ?_).trans (k.block b hb he)
    rcases hr b hrb with h1 | h1
    · exact he h1
    · omega⟩
theorem Since.of_below {w w' : World} (h : Below w.heap.size w w') : Since (fun _ => False) w w' := ⟨h.os, h.tape, h.output, h.size, fun b hb _ => h.block b hb⟩
theorem Since.below {h w : World} (k : Since (fun _ => False) h w) : Below h.heap.size h w := ⟨k.os, k.tape, k.output, k.size, fun b hb => k.block b hb (fun e => e)⟩
theorem Since.drew {ex : Fp} {h w : World} (k : Since ex h w) : Since ex h { w with drawn := w.drawn + 1 } := ⟨k.os, k.tape, k.output, k.size, k.block⟩
theorem A.drew {M : Mem} {H : Hist} {w : World} (h : A M H w) : A M H { w with drawn := w.drawn + 1 } := ⟨h.blk, h.apart, fun p hp => (h.since p hp).drew, h.fresh⟩
theorem A.alloc {M : Mem} {H : Hist} {w : World} (h : A M H w) (i : Nat) (t : TypeId) (cs : List SV) :
    A ((i, ⟨w.heap.size, t, cs⟩) :: M) H (w.alloc (.cells (cs.map SV.den).toArray t)) := by
  have hlt : ∀ j kb, M.find j = some kb → kb.g < w.heap.size := fun j kb hj => (h.blk j kb hj).lt
  refine ⟨fun j kb hj => ?_, fun j k kj kk hj hk hne => ?_, fun p hp => ?_, fun p hp j kb hj => ?_⟩
  · rw [Mem.find_cons] at hj
    split at hj
    · injection hj with hj; subst hj; exact Blk.new _ _ _
    · exact (h.blk j kb hj).alloc _
  · rw [Mem.find_cons] at hj hk
    split at hj
    · split at hk
      · rename_i e1 e2; exact absurd (e1.symm.trans e2) hne
      · injection hj with hj; subst hj
        have := hlt k kk hk
        exact (Nat.ne_of_lt this).symm
    · split at hk
      · injection hk with hk; subst hk
        have := hlt j kj hj
        exact Nat.ne_of_lt this
      · exact h.apart j k kj kk hj hk hne
  · have k := h.since p hp
    exact ⟨k.os, k.tape, k.output, Nat.le_trans k.size (by simp), fun b hb he => (Below.heap_alloc _ _ _ (Nat.lt_of_lt_of_le hb k.size)).trans (k.block b hb he)⟩
  · rw [Mem.find_cons] at hj
    split at hj
    · injection hj with hj; subst hj; exact .inr (h.since p hp).size
    · exact h.fresh p hp j kb hj
def Mem.upd : Mem → Nat → List SV → Mem
  | [], _, _ => []
  | (j, kb) :: M, i, cs => bif Nat.beq j i then (j, { kb with cs := cs }) :: M else (j, kb) :: Mem.upd M i cs
theorem Mem.find_upd {M : Mem} {i j : Nat} {cs : List SV} : (M.upd i cs).find j = if i = j then (M.find i).map (fun kb => { kb with cs := cs }) else M.find j := by
  induction M with
  | nil => simp [Mem.upd, Mem.find]
  | cons p M ih =>
    obtain ⟨k, kb⟩ := p
    by_cases hk : k = i
    · subst hk
      have e : Mem.upd ((k, kb) :: M) k cs = (k, { kb with cs := cs }) :: M := by
        show (bif Nat.beq k k then _ else _) = _
        simp
      rw [e, Mem.find_cons, Mem.find_cons, Mem.find_cons]
      by_cases hj : k = j <;> simp [hj]
    · have e : Mem.upd ((k, kb) :: M) i cs = (k, kb) :: Mem.upd M i cs := by
        show (bif Nat.beq k i then _ else _) = _
        simp [beq_ne hk]
      rw [e, Mem.find_cons, Mem.find_cons, Mem.find_cons, ih]
      by_cases hj : k = j
      · subst hj; simp [hk]; intro h; exact absurd h.symm hk
      · simp [hj, hk]
theorem A.setRow {M : Mem} {H : Hist} {w : World} (h : A M H w) {i : Nat} {kb : KB} (hi : M.find i = some kb) (cs : List SV) :
    A (M.upd i cs) H (w.setRow kb.g (cs.map SV.den).toArray) := by
  refine ⟨fun j kj hj => ?_, fun j k kj kk hj hk hne => ?_, fun p hp => ?_, fun p hp j kj hj => ?_⟩
  · rw [Mem.find_upd] at hj
    split at hj
    · rename_i e
      subst e
      rw [hi] at hj
      injection hj with hj
      subst hj
      exact setRow_heap w kb.g _ _ _ _ (h.blk i kb hi).heap
    · rename_i e
      have hne := h.apart i j kb kj hi hj e
      show (w.setRow kb.g _).heap[kj.g]? = _
      rw [setRow_other _ _ _ _ (Ne.symm hne)]
      exact h.blk j kj hj
  · rw [Mem.find_upd] at hj hk
    have key : ∀ {j : Nat} {kj : KB}, (if i = j then (M.find i).map (fun kb => { kb with cs := cs }) else M.find j) = some kj → ∃ kj', M.find j = some kj' ∧ kj'.g = kj.g := by
      intro j kj hj
      split at hj
      · rename_i e; subst e; rw [hi] at hj; injection hj with hj; subst hj; exact ⟨kb, hi, rfl⟩
      · exact ⟨kj, hj, rfl⟩
    obtain ⟨a, ha, hag⟩ := key hj
    obtain ⟨b, hb, hbg⟩ := key hk
    rw [← hag, ← hbg]
    exact h.apart j k a b ha hb hne
  · have k := h.since p hp
    refine ⟨k.os, k.tape, k.output, by simpa using k.size, fun b hb he => ?_⟩
    rw [setRow_other _ _ _ _ ?_]
    · exact k.block b hb he
    · rintro rfl
      rcases h.fresh p hp i kb hi with h1 | h1
      · exact he h1
      · omega
  · rw [Mem.find_upd] at hj
    split at hj
    · rename_i e; subst e; rw [hi] at hj; injection hj with hj; subst hj; exact h.fresh p hp i kb hi
    · exact h.fresh p hp j kj hj
theorem A.below {M : Mem} {H : Hist} {w w' : World} (h : A M H w) (hb : Below w.heap.size w w') : A M ((w', M.gs) :: H) w' := by
  have s := Since.of_below hb
  refine ⟨fun i kb hi => (h.blk i kb hi).below hb (h.blk i kb hi).lt, h.apart, fun p hp => ?_, fun p hp i kb hi => ?_⟩
  · rcases List.mem_cons.1 hp with rfl | hp
    · exact Since.refl _ _
    · exact (h.since p hp).step s (fun _ e => e.elim)
  · rcases List.mem_cons.1 hp with rfl | hp
    · exact .inl ⟨i, kb, hi, rfl⟩
    · exact h.fresh p hp i kb hi
theorem A.below' {M : Mem} {H : Hist} {w w' : World} (h : A M H w) (hb : Below w.heap.size w w') : A M H w' := by
  have s := Since.of_below hb
  exact ⟨fun i kb hi => (h.blk i kb hi).below hb (h.blk i kb hi).lt, h.apart, fun p hp => (h.since p hp).step s (fun _ e => e.elim), h.fresh⟩
theorem A.grown {M : Mem} {H : Hist} {w w' : World} {row : Option Nat} (h : A M H w) (hg : w.grownBy w' row) (hM : ∀ i kb, M.find i = some kb → some kb.g ≠ row) :
    A M ((w', M.gs) :: H.map fun p => (p.1, fun b => p.2 b ∨ row = some b)) w' := by
  have s : Since (fun b => row = some b) w w' := ⟨hg.os, hg.tape, hg.output, hg.size, fun b hb he => hg.block b hb (fun e => he e.symm)⟩
  refine ⟨fun i kb hi => (h.blk i kb hi).grown hg (hM i kb hi), h.apart, fun p hp => ?_, fun p hp i kb hi => ?_⟩
  · rcases List.mem_cons.1 hp with rfl | hp
    · exact Since.refl _ _
    · obtain ⟨q, hq, rfl⟩ := List.mem_map.1 hp
      have k := h.since q hq
      have k' : Since (fun b => q.2 b ∨ row = some b) q.1 w := ⟨k.os, k.tape, k.output, k.size, fun b hb he => k.block b hb (fun e => he (.inl e))⟩
      exact k'.step s (fun b e => .inl (.inr e))
  · rcases List.mem_cons.1 hp with rfl | hp
    · exact .inl ⟨i, kb, hi, rfl⟩
    · obtain ⟨q, hq, rfl⟩ := List.mem_map.1 hp
      rcases h.fresh q hq i kb hi with h1 | h1
      · exact .inl (.inl h1)
      · exact .inr h1
theorem A.start (w : World) : A [] [(w, fun _ => False)] w := by
  refine ⟨fun i kb h => ?_, fun i j ki kj h => ?_, fun p hp => ?_, fun p hp i kb h => ?_⟩
  · simp [Mem.find] at h
  · simp [Mem.find] at h
  · simp at hp; subst hp; exact Since.refl _ _
  · simp [Mem.find] at h
def Above (M : Mem) (g : Nat) : Prop := ∀ i kb, M.find i = some kb → kb.g < g
theorem A.above {M : Mem} {H : Hist} {w : World} (h : A M H w) : Above M w.heap.size := fun i kb hi => (h.blk i kb hi).lt
theorem Above.head {M : Mem} {i g : Nat} {kb : KB} (h : Above ((i, kb) :: M) g) : kb.g < g := h i kb (by rw [Mem.find_cons]; simp)
theorem A.belowB {M : Mem} {H H' : Hist} {w w' : World} {B : Nat} (h : A M H w) (hb : Below B w w') (hM : Above M B) (hH : ∀ p ∈ H', p ∈ H ∧ p.1.heap.size ≤ B) : A M ((w', M.gs) :: H') w' := by
  have s : Since (fun b => B ≤ b) w w' := ⟨hb.os, hb.tape, hb.output, hb.size, fun b _ he => hb.block b (by omega)⟩
  refine ⟨fun i kb hi => (h.blk i kb hi).below hb (hM i kb hi), h.apart, fun p hp => ?_, fun p hp i kb hi => ?_⟩
  · rcases List.mem_cons.1 hp with rfl | hp
    · exact Since.refl _ _
    · refine (h.since p (hH p hp).1).step s (fun b e => .inr ?_)
      have := (hH p hp).2
      omega
  · rcases List.mem_cons.1 hp with rfl | hp
    · exact .inl ⟨i, kb, hi, rfl⟩
    · exact h.fresh p (hH p hp).1 i kb hi
def MSub : Mem → Mem → Prop
  | [], _ => True
  | (i, kb) :: M', M => M.find i = some kb ∧ MSub M' M
theorem MSub.find {M : Mem} : ∀ {M' : Mem}, MSub M' M → ∀ i kb, M'.find i = some kb → M.find i = some kb
  | [], _, i, kb, h => by simp [Mem.find] at h
  | (j, kj) :: M', h, i, kb, hi => by
    rw [Mem.find_cons] at hi
    split at hi
    · rename_i e; subst e; injection hi with hi; subst hi; exact h.1
    · exact h.2.find i kb hi
theorem A.sub {M M' : Mem} {H : Hist} {w : World} (h : A M H w) (hs : MSub M' M) : A M' H w :=
  ⟨fun i kb hi => h.blk i kb (hs.find i kb hi), fun i j ki kj hi hj => h.apart i j ki kj (hs.find i ki hi) (hs.find j kj hj), h.since, fun p hp i kb hi => h.fresh p hp i kb (hs.find i kb hi)⟩
def MSub' (M' M : Mem) : Prop := ∀ i kb, M'.find i = some kb → M.find i = some kb
theorem A.sub' {M M' : Mem} {H : Hist} {w : World} (h : A M H w) (hs : MSub' M' M) : A M' H w :=
  ⟨fun i kb hi => h.blk i kb (hs i kb hi), fun i j ki kj hi hj => h.apart i j ki kj (hs i ki hi) (hs j kj hj), h.since, fun p hp i kb hi => h.fresh p hp i kb (hs i kb hi)⟩
theorem A.hist {M : Mem} {H H' : Hist} {w : World} (h : A M H w) (hs : ∀ p ∈ H', p ∈ H) : A M H' w := ⟨h.blk, h.apart, fun p hp => h.since p (hs p hp), fun p hp => h.fresh p (hs p hp)⟩
end Go.Proofs.YtllepnadffndnaaDoor
namespace Go.Proofs.YtllepnadffndnaaDoor
open Go.RowKit
inductive TD where
  | int (k : IntKind) | bool | str | ptr | iface
  | slice (e : TypeId) (es : Nat)
  | arr (n : Nat) (e : TypeId) (es : Nat)
  | struct (fs : List (Nat × TypeId)) (size : Nat)
  | fn
  | other
abbrev Tab := List (Nat × TD)
def Tab.find : Tab → Nat → Option TD
  | [], _ => none
  | (j, d) :: T, i => bif Nat.beq j i then some d else Tab.find T i
def TD.agg : TD → Bool | .arr .. | .struct .. => true | _ => false
def TD.size : TD → Nat | .arr n _ es => n * es | .struct _ s => s | _ => 1
def sizeB (P : Program) (t : TypeId) (n : Nat) : Bool := match P.info? t with | some i => i.size == n | none => false
def sizePos (P : Program) (t : TypeId) : Bool := match P.info? t with | some i => decide (0 < i.size) | none => false
def contig (P : Program) : List (Nat × TypeId) → Nat → Bool
  | [], _ => true
  | (o, t) :: fs, n => o == n && match P.info? t with | some i => contig P fs (n + i.size) | none => false
def TD.fitsB (P : Program) (t : TypeId) (d : TD) : Bool :=
  sizeB P t d.size && match d, P.underlying t with
  | .int k, some (.int k') => decide (k = k')
  | .bool, some .bool => true
  | .str, some .string => true
  | .ptr, some (.pointer _) => true
  | .ptr, some .unsafePointer => true
  | .iface, some (.interface _) => true
  | .slice e es, some (.slice e') => decide (e = e') && sizeB P e es
  | .arr n e es, some (.array n' e') => decide (n = n') && decide (e = e') && sizeB P e es
  | .struct fs _, some (.struct fields) => decide (fields.toList.map (fun f => (f.offset, f.type)) = fs) && fields.toList.all (fun f => sizePos P f.type) && contig P fs 0
  | .fn, some (.func ..) => true
  | .other, some d => (match d with | .struct _ | .array _ _ => false | _ => true)
  | _, _ => false
def veq : Value → Value → Bool
  | .int k a, .int j b => decide (k = j) && decide (a = b)
  | .bool a, .bool b => a == b
  | .string a, .string b => decide (a.data = b.data)
  | .pointer none, .pointer none => true
  | .slice none 0 0, .slice none 0 0 => true
  | .map none, .map none => true
  | .nilFunc, .nilFunc => true
  | .nilIface, .nilIface => true
  | _, _ => false
theorem veq_eq {a b : Value} (h : veq a b = true) : a = b := by
  unfold veq at h
  split at h <;> simp_all
  cases ‹ByteArray›; cases ‹ByteArray›; simp_all
def zeroAcc (T : Tab) : Nat → Nat → List SV → Option (List SV)
  | 0, _, _ => none
  | f + 1, t, acc => match Tab.find T t with
    | some (.int k) => some (.val (.int k 0) :: acc)
    | some .bool => some (.val (.bool false) :: acc)
    | some .str => some (.val (.string ⟨#[]⟩) :: acc)
    | some .ptr => some (.val (.pointer none) :: acc)
    | some .iface => some (.val .nilIface :: acc)
    | some .fn => some (.val .nilFunc :: acc)
    | some (.slice ..) => some (.val (.slice none 0 0) :: acc)
    | some (.arr n e _) => n.rec (some acc) (fun _ r => match r with | some a => zeroAcc T f e a | none => none)
    | some (.struct fs _) => fs.foldr (fun x r => match r with | some a => zeroAcc T f x.2 a | none => none) (some acc)
    | _ => none
def veqAll : List SV → List Value → Bool
  | [], [] => true
  | a :: x, b :: y => veq a.den b && veqAll x y
  | _, _ => false
theorem veqAll_eq : ∀ {x : List SV} {y : List Value}, veqAll x y = true → x.map SV.den = y
  | [], [], _ => rfl
  | a :: x, b :: y, h => by
    simp only [veqAll, Bool.and_eq_true] at h
    simp [veq_eq h.1, veqAll_eq h.2]
  | [], _ :: _, h => by cases h
  | _ :: _, [], h => by cases h
def zeroB (P : Program) (T : Tab) (t : TypeId) : Bool :=
  match zeroAcc T 9 t [], (P.info? t).bind (·.zero) with
  | some z, some v => veqAll z v.cells.toList
  | none, _ => true
  | _, _ => false
def tabB (P : Program) (T : Tab) : Bool := T.all fun x => x.2.fitsB P x.1 && zeroB P T x.1
structure TabOK (P : Program) (T : Tab) : Prop where
  all : tabB P T = true
theorem Tab.find_mem : ∀ {T : Tab} {t : Nat} {d : TD}, Tab.find T t = some d → (t, d) ∈ T
  | (j, e) :: T, t, d, h => by
    have h' : (bif Nat.beq j t then some e else Tab.find T t) = some d := h
    by_cases hj : j = t
    · subst hj; simp at h'; subst h'; exact List.mem_cons_self
    · simp only [beq_ne hj, cond_false] at h'
      exact List.mem_cons_of_mem _ (Tab.find_mem h')
theorem TabOK.fits {P : Program} {T : Tab} (h : TabOK P T) {t : Nat} {d : TD} (ht : Tab.find T t = some d) : d.fitsB P t = true := by
  have := List.all_eq_true.1 h.all _ (Tab.find_mem ht)
  simp only [Bool.and_eq_true] at this
  exact this.1
theorem TabOK.zero {P : Program} {T : Tab} (h : TabOK P T) {t : Nat} {z : List SV} (hz : zeroAcc T 9 t [] = some z) (w : World) :
    ∃ v : Value, (zeroValue t).run P w = .ok v w ∧ v.cells.toList = z.map SV.den := by
  have hd : ∃ d, Tab.find T t = some d := by
    cases hf : Tab.find T t with
    | none => simp [zeroAcc, hf] at hz
    | some d => exact ⟨d, rfl⟩
  obtain ⟨d, hd⟩ := hd
  have := List.all_eq_true.1 h.all _ (Tab.find_mem hd)
  simp only [Bool.and_eq_true] at this
  have h2 := this.2
  unfold zeroB at h2
  rw [hz] at h2
  cases hi : P.info? t with
  | none => simp [hi] at h2
  | some i =>
    cases hv : i.zero with
    | none => simp [hi, hv] at h2
    | some v =>
      simp [hi, hv] at h2
      exact ⟨v, by simp [zeroValue, typeInfo, hi, hv], (veqAll_eq h2).symm⟩
theorem info_of_size {P : Program} {t : TypeId} {n : Nat} (h : sizeB P t n = true) : (P.info? t).map (·.size) = some n := by
  unfold sizeB at h
  split at h
  · rename_i i hi; simp at h; simp [hi, h]
  · cases h
theorem run_sizeOf_of {P : Program} {t : TypeId} {n : Nat} (h : sizeB P t n = true) (w : World) : (sizeOf t).run P w = .ok n w := by
  unfold sizeB at h
  split at h
  · rename_i i hi; simp at h; simp [sizeOf, typeInfo, hi, h]
  · cases h
theorem TD.fits_size {P : Program} {t : TypeId} {d : TD} (h : d.fitsB P t = true) : sizeB P t d.size = true := by
  unfold TD.fitsB at h; simp only [Bool.and_eq_true] at h; exact h.1
theorem TD.fits_agg {P : Program} {t : TypeId} {d : TD} (h : d.fitsB P t = true) (w : World) : (isAgg t).run P w = .ok d.agg w := by
  unfold TD.fitsB at h
  simp only [Bool.and_eq_true] at h
  have h2 := h.2
  split at h2 <;> first | (rename_i hu; simp [isAgg, run_underlying hu, TD.agg]; done) | (cases h2; done) | skip
  · rename_i hu
    split at h2
    · cases h2
    · cases h2
    · rename_i hs ha
      unfold isAgg
      rw [Sem.run_bind, run_underlying hu]
      rename_i d' _
      cases d' <;> simp_all [TD.agg]
theorem TD.fits_int {P : Program} {t : TypeId} {k : IntKind} (h : (TD.int k).fitsB P t = true) : P.underlying t = some (.int k) := by
  unfold TD.fitsB at h
  simp only [Bool.and_eq_true] at h
  obtain ⟨_, h⟩ := h
  cases hu : P.underlying t with
  | none => simp [hu] at h
  | some d => cases d <;> simp_all
theorem TD.fits_bool {P : Program} {t : TypeId} (h : TD.bool.fitsB P t = true) : P.underlying t = some .bool := by
  unfold TD.fitsB at h
  simp only [Bool.and_eq_true] at h
  obtain ⟨_, h⟩ := h
  cases hu : P.underlying t with
  | none => simp [hu] at h
  | some d => cases d <;> simp_all
theorem TD.fits_str {P : Program} {t : TypeId} (h : TD.str.fitsB P t = true) : P.underlying t = some .string := by
  unfold TD.fitsB at h
  simp only [Bool.and_eq_true] at h
  obtain ⟨_, h⟩ := h
  cases hu : P.underlying t with
  | none => simp [hu] at h
  | some d => cases d <;> simp_all
theorem TD.fits_slice {P : Program} {t e : TypeId} {es : Nat} (h : (TD.slice e es).fitsB P t = true) : P.underlying t = some (.slice e) ∧ sizeB P e es = true := by
  unfold TD.fitsB at h
  simp only [Bool.and_eq_true] at h
  obtain ⟨_, h⟩ := h
  cases hu : P.underlying t with
  | none => simp [hu] at h
  | some d =>
    cases d <;> simp [hu] at h ⊢
    obtain ⟨h1, h2⟩ := h
    first | (subst h1; exact ⟨rfl, h2⟩) | (obtain ⟨h1, h3⟩ := h1; subst h1; subst h3; exact ⟨⟨rfl, rfl⟩, h2⟩)
theorem TD.fits_arr {P : Program} {t e : TypeId} {n es : Nat} (h : (TD.arr n e es).fitsB P t = true) : P.underlying t = some (.array n e) ∧ sizeB P e es = true := by
  unfold TD.fitsB at h
  simp only [Bool.and_eq_true] at h
  obtain ⟨_, h⟩ := h
  cases hu : P.underlying t with
  | none => simp [hu] at h
  | some d =>
    cases d <;> simp [hu] at h ⊢
    obtain ⟨h1, h2⟩ := h
    first | (subst h1; exact ⟨rfl, h2⟩) | (obtain ⟨h1, h3⟩ := h1; subst h1; subst h3; exact ⟨⟨rfl, rfl⟩, h2⟩)
theorem TD.fits_struct {P : Program} {t : TypeId} {fs : List (Nat × TypeId)} {sz : Nat} (h : (TD.struct fs sz).fitsB P t = true) :
    ∃ fields : Array Field, P.underlying t = some (.struct fields) ∧ fields.toList.map (fun f => (f.offset, f.type)) = fs ∧ fields.toList.all (fun f => sizePos P f.type) = true ∧ contig P fs 0 = true := by
  unfold TD.fitsB at h
  simp only [Bool.and_eq_true] at h
  obtain ⟨_, h⟩ := h
  cases hu : P.underlying t with
  | none => simp [hu] at h
  | some d =>
    cases d <;> simp only [hu, Bool.false_eq_true, Bool.and_eq_true, decide_eq_true_eq] at h
    exact ⟨_, rfl, h.1.1, h.1.2, h.2⟩
theorem TD.fits_some {P : Program} {t : TypeId} {d : TD} (h : d.fitsB P t = true) : ∃ x, P.underlying t = some x := by
  unfold TD.fitsB at h
  simp only [Bool.and_eq_true] at h
  obtain ⟨_, h⟩ := h
  cases hu : P.underlying t with
  | none => simp [hu] at h
  | some x => exact ⟨x, rfl⟩
end Go.Proofs.YtllepnadffndnaaDoor
namespace Go.Proofs.YtllepnadffndnaaDoor
open Go.RowKit
def nth {α : Type} : List α → Nat → Option α
  | [], _ => none
  | x :: _, 0 => some x
  | _ :: l, n + 1 => nth l n
theorem nth_eq {α : Type} : ∀ (l : List α) (n : Nat), nth l n = l[n]?
  | [], _ => by simp [nth]
  | x :: l, 0 => rfl
  | x :: l, n + 1 => by simp [nth, nth_eq l n]
def setN {α : Type} : List α → Nat → α → Option (List α)
  | [], _, _ => none
  | _ :: l, 0, v => some (v :: l)
  | x :: l, n + 1, v => match setN l n v with | some r => some (x :: r) | none => none
theorem setN_eq {α : Type} : ∀ {l : List α} {n : Nat} {v : α} {r : List α}, setN l n v = some r → n < l.length ∧ r = l.set n v
  | [], _, _, _, h => by simp [setN] at h
  | x :: l, 0, v, r, h => by simp [setN] at h; subst h; simp
  | x :: l, n + 1, v, r, h => by
    simp only [setN] at h
    split at h
    · rename_i r' hr
      obtain ⟨h1, h2⟩ := setN_eq hr
      injection h with h
      subst h; subst h2
      simp; exact h1
    · cases h
def newId : Mem → Nat
  | [] => 0
  | (j, _) :: _ => j + 1
def cellsSV : SV → List SV
  | .val (.agg ⟨l⟩) => l.map SV.val
  | v => [v]
theorem cellsSV_den (v : SV) : v.den.cells.toList = (cellsSV v).map SV.den := by
  cases v with
  | ptr i g off => rfl
  | lit b => rfl
  | val v =>
    cases v <;> try rfl
    rename_i arr
    cases arr
    simp [cellsSV, SV.den, Value.cells, Function.comp_def]
def updK : Mem → Nat → List SV → (Mem → Prop) → Prop
  | [], _, _, K => K []
  | (j, kb) :: M, i, cs, K => bif Nat.beq j i then K ((j, ⟨kb.g, kb.t, cs⟩) :: M) else updK M i cs fun r => K ((j, kb) :: r)
theorem updK_eq : ∀ {M : Mem} {i : Nat} {cs : List SV} {K : Mem → Prop}, updK M i cs K → K (M.upd i cs)
  | [], _, _, _, h => h
  | (j, kb) :: M, i, cs, K, h => by
    by_cases hj : j = i
    · subst hj
      have h' : (bif Nat.beq j j then K ((j, ⟨kb.g, kb.t, cs⟩) :: M) else updK M j cs fun r => K ((j, kb) :: r)) := h
      simp at h'
      show K (bif Nat.beq j j then _ else _)
      simpa using h'
    · have h' : (bif Nat.beq j i then K ((j, ⟨kb.g, kb.t, cs⟩) :: M) else updK M i cs fun r => K ((j, kb) :: r)) := h
      simp only [beq_ne hj, cond_false] at h'
      show K (bif Nat.beq j i then _ else _)
      simp only [beq_ne hj, cond_false]
      exact updK_eq h'
def denK : List SV → (List Value → Prop) → Prop
  | [], K => K []
  | .val v :: l, K => denK l fun r => K (v :: r)
  | .ptr _ g off :: l, K => denK l fun r => K (.pointer (some ⟨g, off, none⟩) :: r)
  | .lit b :: l, K => denK l fun r => K (.bool b :: r)
theorem denK_eq : ∀ {l : List SV} {K : List Value → Prop}, denK l K ↔ K (l.map SV.den)
  | [], _ => Iff.rfl
  | .val _ :: l, _ => denK_eq (l := l)
  | .ptr _ _ _ :: l, _ => denK_eq (l := l)
  | .lit _ :: l, _ => denK_eq (l := l)
theorem denK_val {l : List Value} {K : List Value → Prop} (h : K l) : denK (l.map SV.val) K := by
  rw [denK_eq, List.map_map]
  have e : l.map (SV.den ∘ SV.val) = l := by
    rw [show (SV.den ∘ SV.val) = id from rfl]; simp
  rw [e]; exact h
def tkS : Nat → List SV → List SV
  | 0, _ => []
  | _, [] => []
  | n + 1, x :: l => x :: tkS n l
def dpS : Nat → List SV → List SV
  | 0, l => l
  | _, [] => []
  | n + 1, _ :: l => dpS n l
theorem tkS_eq (n : Nat) (l : List SV) : tkS n l = l.take n := by
  induction n generalizing l with
  | zero => cases l <;> rfl
  | succ n ih => cases l <;> simp [tkS, ih]
theorem dpS_eq (n : Nat) (l : List SV) : dpS n l = l.drop n := by
  induction n generalizing l with
  | zero => cases l <;> rfl
  | succ n ih => cases l <;> simp [dpS, ih]
def glueS (l : List SV) : List SV → List SV
  | [] => l
  | r => l ++ r
def spliceS (cs : List SV) (off : Nat) (l : List Value) (n : Nat) : List SV := tkS off cs ++ glueS (l.map SV.val) (dpS (off + n) cs)
theorem spliceS_eq (cs : List SV) (off : Nat) (l : List Value) (n : Nat) : (spliceS cs off l n).map SV.den = (cs.map SV.den).take off ++ l ++ (cs.map SV.den).drop (off + n) := by
  have hg : ∀ (a b : List SV), glueS a b = a ++ b := by
    intro a b; cases b <;> simp [glueS]
  have e : l.map (SV.den ∘ SV.val) = l := by
    rw [show (SV.den ∘ SV.val) = id from rfl]; simp
  simp [spliceS, hg, tkS_eq, dpS_eq, List.map_append, List.map_map, e, List.map_take, List.map_drop]
def cutBy : List Nat → List Value → List (List Value)
  | [], _ => []
  | n :: ns, z => tk n z :: cutBy ns (dp n z)
where
  tk : Nat → List Value → List Value
    | 0, _ => []
    | _, [] => []
    | n + 1, x :: l => x :: tk n l
  dp : Nat → List Value → List Value
    | 0, l => l
    | _, [] => []
    | n + 1, _ :: l => dp n l
def flat : List (List Value) → List Value
  | [] => []
  | l :: ls => app l (flat ls)
where
  app : List Value → List Value → List Value
    | [], r => r
    | x :: l, r => x :: app l r
def cellsL : Value → List Value
  | .agg ⟨l⟩ => l
  | v => [v]
def sizesOf (T : Tab) : List (Nat × TypeId) → Option (List Nat)
  | [] => some []
  | (_, t) :: fs => match Tab.find T t with
    | some d => match sizesOf T fs with | some r => some (d.size :: r) | none => none
    | none => none
def cutsOf (T : Tab) (t : TypeId) : Option (List Nat) := match Tab.find T t with
  | some (.struct fs _) => sizesOf T fs
  | some (.arr n _ es) => some (List.replicate n es)
  | _ => none
def putSegs : List (List Value) → List (Nat × Value) → Option (List (List Value))
  | segs, [] => some segs
  | segs, (i, v) :: r => match setN segs i (cellsL v) with
    | some segs' => putSegs segs' r
    | none => none
def partsFit : List Nat → List (Nat × Value) → Prop
  | _, [] => True
  | ns, (i, v) :: r => nth ns i = some (cellsL v).length ∧ partsFit ns r
inductive Seg where
  | one (v : Value)
  | many (l : List Value)
  | agg (l : List Value)
def Seg.list : Seg → List Value
  | .one v => [v]
  | .many l => l
  | .agg l => l
def flagsOf (T : Tab) : List (Nat × TypeId) → Option (List (Nat × Bool))
  | [] => some []
  | (_, t) :: fs => match Tab.find T t with
    | some d => match flagsOf T fs with | some r => some ((d.size, d.agg) :: r) | none => none
    | none => none
def sumOf : List (Nat × Bool) → Nat
  | [] => 0
  | (n, _) :: l => n + sumOf l
def headK : Nat → List Value → (List Value → List Value → Prop) → Prop
  | 0, l, K => K [] l
  | _, [], K => K [] []
  | n + 1, x :: l, K => headK n l fun a b => K (x :: a) b
def cutK : List (Nat × Bool) → List Value → (List Seg → Prop) → Prop
  | [], _, K => K []
  | (n, _) :: ns, z, K => headK n z fun a b => cutK ns b fun r => K (.many a :: r)
def segOf : Bool → Value → Option Seg
  | false, v => some (.one v)
  | true, .agg ⟨l⟩ => some (.agg l)
  | true, _ => none
def putK' (ns : List (Nat × Bool)) : List Seg → List (Nat × Value) → Option (List Seg)
  | segs, [] => some segs
  | segs, (i, v) :: r => match nth ns i with
    | some (_, f) => match segOf f v with
      | some s => match setN segs i s with
        | some segs' => putK' ns segs' r
        | none => none
      | none => none
    | none => none
def partsFitK (ns : List (Nat × Bool)) : List (Nat × Value) → Prop
  | [] => True
  | (i, v) :: r => (match nth ns i with
    | some (n, false) => bif Nat.beq n 1 then cellsL v = [v] else False
    | some (n, true) => (cellsL v).length = n
    | none => False) ∧ partsFitK ns r
def appK : List Value → List Value → (List Value → Prop) → Prop
  | [], r, K => K r
  | x :: l, r, K => appK l r fun s => K (x :: s)
def flatK : List Seg → (List Value → Prop) → Prop
  | [], K => K []
  | .one v :: s, K => flatK s fun r => K (v :: r)
  | .many l :: s, K => flatK s fun r => appK l r K
  | .agg l :: s, K => flatK s fun r => K (l ++ r)
section
variable (P : Program) (T : Tab) (E : Env) (M : Mem) (H : Hist)
abbrev Cont := SV → Mem → Hist → Prop
def withV (x : Operand) (K : SV → Prop) : Prop := match ev E x with | some v => K v | none => False
def withVs : List Operand → (List Value → Prop) → Prop
  | [], K => K []
  | x :: l, K => withV E x fun v => withVs l fun r => K (v.den :: r)
def withO : Option Operand → (Option Value → Prop) → Prop
  | none, K => K none
  | some x, K => withV E x fun v => K (some v.den)
def pureV (s : Sem Value) (K : Cont) : Prop := ∃ v, (∀ w, A M H w → s.run P w = .ok v w) ∧ K (.val v) M H
def memV (s : Sem Value) (K : Cont) : Prop := ∀ w, A M H w → ∃ sv w' M' H', s.run P w = .ok sv.den w' ∧ A M' H' w' ∧ K sv M' H'
def memU (s : Sem Unit) (K : Cont) : Prop := ∀ w, A M H w → ∃ w' M' H', s.run P w = .ok () w' ∧ A M' H' w' ∧ K (.val undef) M' H'
def loadV (t : TypeId) (p : SV) (K : Cont) : Prop := match Tab.find T t with
  | none => False
  | some d => match p with
    | .ptr i g off => match M.find i with
      | none => False
      | some kb => match d.agg with
        | false => ∃ v, nth kb.cs off = some v ∧ kb.g = g ∧ K v M H
        | true => Nat.ble (off + d.size) kb.cs.length = true ∧ kb.g = g ∧ denK (tkS d.size (dpS off kb.cs)) fun l => K (.val (.agg ⟨l⟩)) M H
    | .val (.pointer (some a)) => ∃ v, (∀ w, A M H w → (loadVar t a).run P w = .ok v w) ∧ K (.val v) M H
    | _ => False
def storeV (t : TypeId) (p v : SV) (K : Cont) : Prop := match Tab.find T t with
  | none => False
  | some d => match p with
    | .ptr i g off => match M.find i with
      | none => False
      | some kb => match d.agg with
        | false => ∃ cs, setN kb.cs off v = some cs ∧ kb.g = g ∧ v.den.oneCell' = true ∧ updK M i cs fun M' => K (.val undef) M' H
        | true => match v with
          | .val (.agg ⟨l⟩) => l.length = d.size ∧ Nat.ble (off + d.size) kb.cs.length = true ∧ kb.g = g ∧ l.all (·.oneCell') = true ∧ updK M i (spliceS kb.cs off l d.size) fun M' => K (.val undef) M' H
          | _ => False
    | .val (.pointer (some ⟨b, off, none⟩)) => match d.agg with
      | false => ∃ i kb, M.find i = some kb ∧ kb.g = b ∧ ∃ cs, setN kb.cs off v = some cs ∧ v.den.oneCell' = true ∧ updK M i cs fun M' => K (.val undef) M' H
      | true => False
    | _ => False
def fieldAddrV (t : TypeId) (p : SV) (f : Nat) (K : Cont) : Prop := match Tab.find T t with
  | some (.struct fs _) => match nth fs f with
    | some (o, _) => match p with
      | .ptr i g off => K (.ptr i g (off + o)) M H
      | .val (.pointer (some ⟨b, off, none⟩)) => K (.val (.pointer (some ⟨b, off + o, none⟩))) M H
      | _ => False
    | none => False
  | _ => False
def indexAddrV (t : TypeId) (x ix : SV) (K : Cont) : Prop := match Tab.find T t with
  | some (.slice _ es) => match x, ix with
    | .val (.slice A len _), .val (.int _ n) => ∃ b o k : Nat, A = some ⟨b, o, none⟩ ∧ n = (k : Int) ∧ k < len ∧ K (.val (.pointer (some ⟨b, o + k * es, none⟩))) M H
    | _, _ => False
  | some (.arr len _ es) => match x, ix with
    | .ptr i g off, .val (.int _ n) => ∃ k : Nat, n = (k : Int) ∧ k < len ∧ K (.ptr i g (off + k * es)) M H
    | .val (.pointer (some ⟨b, off, none⟩)), .val (.int _ n) => ∃ k : Nat, n = (k : Int) ∧ k < len ∧ K (.val (.pointer (some ⟨b, off + k * es, none⟩))) M H
    | _, _ => False
  | _ => False
def nilCheckV (x : SV) (K : Cont) : Prop := match x with
  | .ptr i g off => K (.ptr i g off) M H
  | .val (.pointer (some a)) => K (.val (.pointer (some a))) M H
  | .val (.func (.func f) x y) => K (.val (.func (.func f) x y)) M H
  | .val (.iface t v) => K (.val (.iface t v)) M H
  | _ => False
def intBin (op : BinOp) (k : IntKind) (m n : Int) (K : Value → Prop) : Prop := match op with
  | .add => ∃ r, k.wrap (m + n) = r ∧ K (.int k r)
  | .sub => ∃ r, k.wrap (m - n) = r ∧ K (.int k r)
  | .mul => ∃ r, k.wrap (m * n) = r ∧ K (.int k r)
  | .quo => n ≠ 0 ∧ ∃ r, k.wrap (m.tdiv n) = r ∧ K (.int k r)
  | .rem => n ≠ 0 ∧ ∃ r, m.tmod n = r ∧ K (.int k r)
  | .eql => K (.bool (m == n))
  | .neq => K (.bool (m != n))
  | .lss => K (.bool (decide (m < n)))
  | .leq => K (.bool (decide (m ≤ n)))
  | .gtr => K (.bool (decide (n < m)))
  | .geq => K (.bool (decide (n ≤ m)))
  | .shl => 0 ≤ n ∧ ∃ r, k.wrap (m * 2 ^ (min n.toNat k.bits)) = r ∧ K (.int k r)
  | .shr => 0 ≤ n ∧ ∃ r, m.fdiv (2 ^ (min n.toNat k.bits)) = r ∧ K (.int k r)
  | .and => ∃ r, k.wrap (BitVec.ofInt k.bits m &&& BitVec.ofInt k.bits n).toNat = r ∧ K (.int k r)
  | .or => ∃ r, k.wrap (BitVec.ofInt k.bits m ||| BitVec.ofInt k.bits n).toNat = r ∧ K (.int k r)
  | .xor => ∃ r, k.wrap (BitVec.ofInt k.bits m ^^^ BitVec.ofInt k.bits n).toNat = r ∧ K (.int k r)
  | .andNot => ∃ r, k.wrap (BitVec.ofInt k.bits m &&& ~~~BitVec.ofInt k.bits n).toNat = r ∧ K (.int k r)
def strBin (op : BinOp) (s t : ByteArray) (K : Value → Prop) : Prop := match op with
  | .add => s.size + t.size ≤ 9223372036854775807 ∧ K (.string (s ++ t))
  | .eql => K (.bool (s.toList == t.toList))
  | .neq => K (.bool (!(s.toList == t.toList)))
  | .lss => K (.bool (Op.bytesLess s.toList t.toList))
  | .leq => K (.bool (Op.bytesLess s.toList t.toList || s.toList == t.toList))
  | .gtr => K (.bool (!(Op.bytesLess s.toList t.toList || s.toList == t.toList)))
  | .geq => K (.bool (!Op.bytesLess s.toList t.toList))
  | _ => False
def boolBin (op : BinOp) (s t : Bool) (K : Value → Prop) : Prop := match op with
  | .eql => K (.bool (s == t))
  | .neq => K (.bool (s != t))
  | _ => False
def kid : IntKind → Nat
  | .i8 => 0 | .i16 => 1 | .i32 => 2 | .i64 => 3 | .u8 => 4 | .u16 => 5 | .u32 => 6 | .u64 => 7
theorem kid_inj {k j : IntKind} (h : Nat.beq (kid k) (kid j) = true) : k = j := by
  cases k <;> cases j <;> first | rfl | cases h
def isShift : BinOp → Bool
  | .shl | .shr => true
  | _ => false
def nilCmp (t : TypeId) (yo : Operand) (x y : SV) : Option Bool := match y, Tab.find T t with
  | .val (.pointer none), some .ptr => match x with
    | .ptr _ _ _ => some false
    | .val (.pointer none) => some true
    | .val (.pointer (some _)) => some false
    | _ => none
  | .val .nilIface, some .iface => match yo with
    | .const _ => match x with
      | .val .nilIface => some true
      | .val (.iface _ _) => some false
      | _ => none
    | _ => none
  | .val (.slice none _ _), some (.slice _ _) => match x with
    | .val (.slice none _ _) => some true
    | .val (.slice (some _) _ _) => some false
    | _ => none
  | _, _ => none
def binV (op : BinOp) (t : TypeId) (xo yo : Operand) (x y : SV) (K : Cont) : Prop := match x, y with
  | .val (.int k m), .val (.int k' n) => bif isShift op || Nat.beq (kid k) (kid k') then (intBin op k m n fun v => K (.val v) M H) else False
  | .val (.string s), .val (.string u) => strBin op s u fun v => K (.val v) M H
  | .val (.bool s), .val (.bool u) => match Tab.find T t with | some .bool => boolBin op s u fun v => K (.val v) M H | _ => False
  | x, y => match nilCmp T t yo x y, op with
    | some b, .eql => K (.lit b) M H
    | some b, .neq => K (.lit (!b)) M H
    | _, _ => pureV P M H (do eqGuard op t xo yo x.den y.den; binOp op t x.den y.den) K
def unV (op : UnOp) (x : SV) (K : Cont) : Prop := match op, x with
  | .not, .val (.bool b) => K (.val (.bool (!b))) M H
  | .not, .lit b => K (.lit (!b)) M H
  | .xor, .val (.int k n) => ∃ r, k.wrap (BitVec.ofInt k.bits (if k.signed then -1 else k.max) ^^^ BitVec.ofInt k.bits n).toNat = r ∧ K (.val (.int k r)) M H
  | .neg, .val (.int k n) => ∃ r, k.wrap (0 - n) = r ∧ K (.val (.int k r)) M H
  | op, x => pureV P M H (Op.unary op x.den) K
def convV (src dst : TypeId) (x : SV) (K : Cont) : Prop := match Tab.find T src, Tab.find T dst, x with
  | some _, some (.int k), .val (.int _ n) => ∃ r, k.wrap n = r ∧ K (.val (.int k r)) M H
  | _, some (.slice ..), x => memV P M H (convert src dst x.den) K
  | _, _, x => pureV P M H (convert src dst x.den) K
def callV (f : FuncId) (args : Array Value) (K : Cont) : Prop :=
  (∀ args w, (callFunc f args).run P w = .ok (.enter f args) w) ∧ ∀ w, A M H w → Calls P f args w fun e w' => ∃ sv M' H', e = .returned sv.den ∧ A M' H' w' ∧ K sv M' H'
def callsV (ents : List FuncId) (f : SV) (args : List Value) (K : Cont) : Prop := match f with
  | .val (.func (.func f) first captured) => match ents.contains f with
    | true => ∀ w, A M H w → Calls P f ((first ++ args.toArray) ++ captured) w fun e w' => ∃ sv M' H', e = .returned sv.den ∧ A M' H' w' ∧ K sv M' H'
    | false => ∀ w, A M H w → ∃ sv w' M' H', (callFunc f ((first ++ args.toArray) ++ captured)).run P w = .ok (.value sv.den) w' ∧ A M' H' w' ∧ K sv M' H'
  | _ => False
def builtinV (b : Builtin) (ats : Array TypeId) (ty : TypeId) (args : List Value) (K : Cont) : Prop := match b, args with
  | .len, [.slice _ n _] => match (ats[0]?).bind (Tab.find T) with | some (.slice ..) => K (.val (.int .i64 n)) M H | _ => False
  | .len, [.string s] => match (ats[0]?).bind (Tab.find T) with | some .str => K (.val (.int .i64 s.size)) M H | _ => False
  | .len, args => pureV P M H (Builtin.len_ ats ty args.toArray) K
  | .append, args => memV P M H (Builtin.append_ ats ty args.toArray) K
  | .copy, args => memV P M H (Builtin.copy_ ats ty args.toArray) K
  | .delete, args => memV P M H (Builtin.delete_ ats ty args.toArray) K
  | .min, [.int k x, .int _ y] => ∃ r, (if y < x then y else x) = r ∧ K (.val (.int k r)) M H
  | .max, [.int k x, .int _ y] => ∃ r, (if y > x then y else x) = r ∧ K (.val (.int k r)) M H
  | .min, args => pureV P M H (Builtin.min_ ats ty args.toArray) K
  | .max, args => pureV P M H (Builtin.max_ ats ty args.toArray) K
  | .cap, args => pureV P M H (Builtin.cap_ ats ty args.toArray) K
  | _, _ => False
def buildV (t : TypeId) (parts : List (Nat × Value)) (K : Cont) : Prop :=
  match zeroAcc T 9 t [], cutsOf T t with
  | some z, some ns => match Nat.beq z.length ns.sum, putSegs (cutBy ns (z.map SV.den)) parts with
    | true, some segs => partsFit ns parts ∧ K (.val (.agg (flat segs).toArray)) M H
    | _, _ => False
  | _, _ => False
def buildK (t : TypeId) (parts : List (Nat × Value)) (K : Cont) : Prop :=
  match zeroAcc T 9 t [], (match Tab.find T t with | some (.struct fs _) => flagsOf T fs | some (.arr n e es) => (match Tab.find T e with | some d => some (List.replicate n (es, d.agg)) | none => none) | _ => none) with
  | some z, some ns => match Nat.beq z.length (sumOf ns) with
    | true => denK z fun zs => cutK ns zs fun segs0 => match putK' ns segs0 parts with
      | some segs => partsFitK ns parts ∧ flatK segs fun l => K (.val (.agg ⟨l⟩)) M H
      | none => False
    | false => False
  | _, _ => False
def repS : Nat → List SV → List SV
  | 0, _ => []
  | n + 1, z => z ++ repS n z
def buildSliceK (t : TypeId) (n : Nat) (parts : List (Nat × Value)) (K : Cont) : Prop :=
  match Tab.find T t with
  | some (.slice e es) => match Tab.find T e, zeroAcc T 9 e [] with
    | some d, some z => match Nat.beq z.length es, Nat.ble (n * es) 16777216, Nat.blt 0 (n * es) with
      | true, true, true => denK (repS n z) fun zs => cutK (List.replicate n (es, d.agg)) zs fun segs0 => match putK' (List.replicate n (es, d.agg)) segs0 parts with
        | some segs => partsFitK (List.replicate n (es, d.agg)) parts ∧ flatK segs fun l => ∀ g, Above M g → K (.val (.slice (some ⟨g, 0, none⟩) n n)) ((newId M, ⟨g, e, l.map SV.val⟩) :: M) H
        | none => False
      | _, _, _ => False
    | _, _ => False
  | _ => False
def buildSliceZ (t : TypeId) (n : Nat) (parts : List (Nat × Value)) (K : Cont) : Prop :=
  match n, parts with
  | 0, [] => match Tab.find T t with
    | some (.slice e _) => ∀ g, Above M g → K (.val (.slice (some ⟨g, 0, none⟩) 0 0)) ((newId M, ⟨g, e, []⟩) :: M) H
    | _ => False
  | 0, x :: r => buildSliceK T M H t 0 (x :: r) K
  | n + 1, parts => buildSliceK T M H t (n + 1) parts K
def boundV : Option Value → Nat → (Nat → Prop) → Prop
  | none, d, K => K d
  | some (.int _ n), _, K => ∃ k : Nat, n = (k : Int) ∧ K k
  | _, _, _ => False
def sliceV (t : TypeId) (x : SV) (lo hi mx : Option Value) (K : Cont) : Prop := match x, mx with
  | .val (.string s), none => match Tab.find T t with
    | some .str => boundV hi s.size fun h => boundV lo 0 fun l => l ≤ h ∧ h ≤ s.size ∧ ∃ s', s.extract l h = s' ∧ K (.val (.string s')) M H
    | _ => False
  | .val (.slice A len cap), none => match Tab.find T t with
    | some (.slice _ es) => boundV hi len fun h => boundV lo 0 fun l => l ≤ h ∧ h ≤ cap ∧ ∃ v, .slice (if cap = l then A else A.map (·.add (l * es))) (h - l) (cap - l) = v ∧ K (.val v) M H
    | _ => False
  | x, mx => pureV P M H (Instr.sliceAt t x.den lo hi mx) K
def indexV (t : TypeId) (x ix : SV) (K : Cont) : Prop := match Tab.find T t, x, ix with
  | some .str, .val (.string s), .val (.int _ n) => ∃ (k : Nat) (c : UInt8), n = (k : Int) ∧ s.data.toList[k]? = some c ∧ K (.val (.int .u8 c.toNat)) M H
  | some (.arr len e es), .val (.agg ⟨l⟩), .val (.int _ n) => ∃ k : Nat, n = (k : Int) ∧ k < len ∧ match Tab.find T e with
    | some d => match d.agg with
      | true => ∃ l', (l.drop (k * es)).take es = l' ∧ K (.val (.agg ⟨l'⟩)) M H
      | false => ∃ v, l[k * es]? = some v ∧ K (.val v) M H
    | none => False
  | _, _, _ => pureV P M H (Instr.index t x.den ix.den) K
def fieldV (t : TypeId) (x : SV) (f : Nat) (K : Cont) : Prop := match Tab.find T t, x with
  | some (.struct fs _), .val (.agg ⟨l⟩) => match nth fs f with
    | some (o, ft) => match Tab.find T ft with
      | some d => match d.agg with
        | true => ∃ l', (l.drop o).take d.size = l' ∧ K (.val (.agg ⟨l'⟩)) M H
        | false => ∃ v, nth l o = some v ∧ K (.val v) M H
      | none => False
    | none => False
  | _, _ => pureV P M H (Instr.field t x.den f) K
def makeSliceV (t : TypeId) (l c : SV) (K : Cont) : Prop := match l, c with
  | .val (.int _ n), .val (.int _ m) => match Tab.find T t with
    | some (.slice e es) => match zeroAcc T 9 e [] with
      | some z => match Nat.beq z.length es, Nat.blt 0 es with
        | true, true => ∃ (k by_ : Nat), n = (k : Int) ∧ m = (k : Int) ∧ k ≤ 140737488355328 ∧ (P.info? e).map (·.bytes) = some by_ ∧ k * by_ ≤ 281474976710656 ∧
          ∀ g, Above M g → K (.val (.slice (some ⟨g, 0, none⟩) k k)) ((newId M, ⟨g, e, repS k z⟩) :: M) H
        | _, _ => False
      | none => False
    | _ => False
  | _, _ => memV P M H (Instr.makeSlice t l.den c.den) K
def opV (ents : List FuncId) (o : Oper) (K : Cont) : Prop := match o.op with
  | .move x | .assign x => withV E x fun v => K v M H
  | .pick c x y => withV E c fun v => withV E x fun x => withV E y fun y => match v with
    | .val (.bool t) => (t = true → K x M H) ∧ (t = false → K y M H)
    | .lit true => K x M H
    | .lit false => K y M H
    | _ => False
  | .alloc t => match zeroAcc T 9 t [] with
    | some z => ∀ g, Above M g → K (.ptr (newId M) g 0) ((newId M, ⟨g, t, z⟩) :: M) H
    | none => False
  | .box t x => withV E x fun v => ∀ g, Above M g → K (.ptr (newId M) g 0) ((newId M, ⟨g, t, cellsSV v⟩) :: M) H
  | .build t parts => withVs E (parts.toList.map (·.2)) fun vs => buildK T M H t ((parts.toList.map (·.1)).zip vs) K
  | .buildSlice t n parts => withVs E (parts.toList.map (·.2)) fun vs => buildSliceZ T M H t n ((parts.toList.map (·.1)).zip vs) K
  | .load t x => withV E x fun p => loadV P T M H t p K
  | .store t x y => withV E x fun p => withV E y fun v => storeV T M H t p v K
  | .nilCheck x => withV E x fun v => nilCheckV M H v K
  | .binOp op t x y _ => withV E x fun u => withV E y fun v => binV P T M H op t x y u v K
  | .unOp op _ x => withV E x fun v => unV P M H op v K
  | .convert src dst x => withV E x fun v => convV P T M H src dst v K
  | .makeInterface t x => withV E x fun v => pureV P M H (Instr.makeInterface t v.den) K
  | .makeFunc fn first captured => withVs E first.toList fun xs => withVs E captured.toList fun ys => K (.val (.func fn xs.toArray ys.toArray)) M H
  | .makeMap t r => withO E r fun r => memV P M H (Instr.makeMap t r) K
  | .makeSlice t l c => withV E l fun l => withV E c fun c => makeSliceV P T M H t l c K
  | .slice t x lo hi mx => withV E x fun x => withO E lo fun lo => withO E hi fun hi => withO E mx fun mx => sliceV P T M H t x lo hi mx K
  | .fieldAddr t x f => withV E x fun p => fieldAddrV T M H t p f K
  | .field t x f => withV E x fun v => fieldV P T M H t v f K
  | .indexAddr t x ix => withV E x fun v => withV E ix fun i => indexAddrV T M H t v i K
  | .index t x ix => withV E x fun v => withV E ix fun i => indexV P T M H t v i K
  | .lookup t x ix ok => withV E x fun v => withV E ix fun i => pureV P M H (Instr.lookup t v.den i.den ok) K
  | .mapUpdate t m k x | .insert t m k x => withV E m fun m => withV E k fun k => withV E x fun x => memU P M H (Instr.mapUpdate t m.den k.den x.den) K
  | .mapEntry t m k => withV E m fun m => withV E k fun k => memV P M H (Instr.mapEntry t m.den k.den) K
  | .entryStore t m s x => withV E m fun m => withV E s fun s => withV E x fun x => memU P M H (Instr.entryStore t m.den s.den x.den) K
  | .range t x => withV E x fun x => memV P M H (Instr.range t x.den) K
  | .next it s => withV E it fun it => memV P M H (Instr.next it.den s o.type) K
  | .entry it => withV E it fun it => memV P M H (Instr.entry it.den) K
  | .typeAssert x t u ok => withV E x fun x => pureV P M H (Instr.typeAssert x.den t u ok) K
  | .extract x i => withV E x fun x => match x with
    | .val (.tuple vs) => ∃ v, vs[i]? = some v ∧ K (.val v) M H
    | _ => False
  | .call c => match c.callee with
    | .builtin b => withVs E c.args.toList fun vs => builtinV P T M H b c.argTypes o.type vs K
    | .value f => withV E f fun f => withVs E c.args.toList fun vs => callsV P M H ents f vs K
    | .invoke .. => False
  | _ => False
def CellsOK (C0 : List (Nat × Nat × Nat × SV)) (w : World) : Prop := ∀ c ∈ C0, w.cell? ⟨c.2.1, c.2.2.1, none⟩ = some c.2.2.2.den
def keepsC : List (Nat × Nat × Nat × SV) → Mem → Prop → Prop
  | [], _, X => X
  | (i, g, off, v) :: r, M, X => (∃ kb, M.find i = some kb ∧ kb.g = g ∧ nth kb.cs off = some v) ∧ keepsC r M X
def quietV (C0 : List (Nat × Nat × Nat × SV)) (o : Oper) (K : SV → Prop) : Prop := match o.op with
  | .load t x => withV E x fun p => match C0, p with
    | _ :: _, .ptr _ g off => match Tab.find T t with
      | some d => match d.agg with
        | false => ∃ v : SV, (∀ w, CellsOK C0 w → w.cell? ⟨g, off, none⟩ = some v.den) ∧ K v
        | true => False
      | none => False
    | _, p => loadV P T M H t p fun v _ _ => K v
  | .nilCheck x => withV E x fun v => nilCheckV M H v fun v _ _ => K v
  | .convert src dst x => withV E x fun v => match Tab.find T src, Tab.find T dst, v with
    | some _, some (.int k), .val (.int _ n) => ∃ r, k.wrap n = r ∧ K (.val (.int k r))
    | _, _, _ => False
  | .indexAddr t x ix => withV E x fun v => withV E ix fun i => indexAddrV T M H t v i fun v _ _ => K v
  | .call c => match c.callee with
    | .builtin .len => withVs E c.args.toList fun vs => match vs, (c.argTypes[0]?).bind (Tab.find T) with
      | [.slice _ n _], some (.slice ..) => K (.val (.int .i64 n))
      | [.string s], some .str => K (.val (.int .i64 s.size))
      | _, _ => False
    | _ => False
  | .fieldAddr t x f => withV E x fun p => fieldAddrV T M H t p f fun v _ _ => K v
  | .slice t x lo hi mx => withV E x fun x => withO E lo fun lo => withO E hi fun hi => withO E mx fun mx => sliceV P T M H t x lo hi mx fun v _ _ => K v
  | .index t x ix => withV E x fun v => withV E ix fun i => indexV P T M H t v i fun v _ _ => K v
  | .field t x f => withV E x fun v => fieldV P T M H t v f fun v _ _ => K v
  | .extract x i => withV E x fun x => match x with
    | .val (.tuple vs) => ∃ v, vs[i]? = some v ∧ K (.val v)
    | _ => False
  | .build t parts => withVs E (parts.toList.map (·.2)) fun vs => buildK T M H t ((parts.toList.map (·.1)).zip vs) fun v _ _ => K v
  | .move x | .assign x => withV E x K
  | .pick c x y => withV E c fun v => withV E x fun x => withV E y fun y => match v with
    | .val (.bool t) => (t = true → K x) ∧ (t = false → K y)
    | .lit true => K x
    | .lit false => K y
    | _ => False
  | .binOp op t x y _ => withV E x fun u => withV E y fun v => match u, v with
    | .val (.int k m), .val (.int k' n) => bif isShift op || Nat.beq (kid k) (kid k') then (intBin op k m n fun v => K (.val v)) else False
    | .val (.string s), .val (.string u) => strBin op s u fun v => K (.val v)
    | .val (.bool s), .val (.bool u) => match Tab.find T t with | some .bool => boolBin op s u fun v => K (.val v) | _ => False
    | u, v => match nilCmp T t y u v, op with
      | some b, .eql => K (.lit b)
      | some b, .neq => K (.lit (!b))
      | _, _ => False
  | .unOp .not _ x => withV E x fun v => match v with
    | .val (.bool b) => K (.val (.bool (!b)))
    | .lit b => K (.lit (!b))
    | _ => False
  | .unOp .xor _ x => withV E x fun v => match v with
    | .val (.int k n) => ∃ r, k.wrap (BitVec.ofInt k.bits (if k.signed then -1 else k.max) ^^^ BitVec.ofInt k.bits n).toNat = r ∧ K (.val (.int k r))
    | _ => False
  | _ => False
end
end Go.Proofs.YtllepnadffndnaaDoor
