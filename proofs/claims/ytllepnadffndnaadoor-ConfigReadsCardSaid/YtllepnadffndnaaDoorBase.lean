/- General words: how values in memory read as lists and records ('Rp'), whole blocks, and some laws of operations on them. -/
import Derived.WalkKit
import Derived.ProofKit
import Derived.OpenShut
import Derived.OwnWalk
import Derived.Deep.QuietTactic
import Derived.BigQuiet
import Derived.Deep.LoopGhost
import Derived.Deep.MidRow
import Derived.Deep.WholeRow
import Derived.Deep.Slices
import Derived.Lib.Hide
namespace Go.Proofs.YtllepnadffndnaaDoor
open Go.RowKit

abbrev Fp := Nat → Prop
def Lt (B : Nat) : Fp := fun b => b < B
def Every : Fp := fun _ => True

/-- A way of reading cells as data: so many cells; what they say in a world, through blocks of a footprint. -/
structure Rp (α : Type) where
  size : Nat
  rel : World → Fp → List Value → α → Prop
  len : ∀ {w S cs x}, rel w S cs x → cs.length = size
  one : ∀ {w S cs x}, rel w S cs x → ∀ v ∈ cs, v.oneCell' = true
  keep : ∀ {w w' S S' cs x}, (∀ b, S b → S' b) → (∀ b, S b → b < w.heap.size → w'.heap[b]? = w.heap[b]?) → rel w S cs x → rel w' S' cs x

theorem Rp.below {α : Type} (r : Rp α) {w w' : World} {B : Nat} {cs : List Value} {x : α} (h : r.rel w (Lt B) cs x) (hb : Below B w w') : r.rel w' (Lt B) cs x :=
  r.keep (fun _ h => h) (fun b hS _ => hb.block b hS) h
theorem Rp.more {α : Type} (r : Rp α) {w : World} {S S' : Fp} {cs : List Value} {x : α} (h : r.rel w S cs x) (hS : ∀ b, S b → S' b) : r.rel w S' cs x :=
  r.keep hS (fun _ _ _ => rfl) h

def Rp.int (k : IntKind) : Rp Int where
  size := 1
  rel _ _ cs x := cs = [.int k x] ∧ (Lit.int k x).wf = true
  len := by rintro w S cs x ⟨rfl, _⟩; rfl
  one := by rintro w S cs x ⟨rfl, _⟩ v hv; simp at hv; subst hv; rfl
  keep := fun _ _ h => h
def Rp.bool : Rp Bool where
  size := 1
  rel _ _ cs x := cs = [.bool x]
  len := by rintro w S cs x rfl; rfl
  one := by rintro w S cs x rfl v hv; simp at hv; subst hv; rfl
  keep := fun _ _ h => h
def Rp.str : Rp ByteArray where
  size := 1
  rel _ _ cs x := cs = [.string x] ∧ x.size ≤ 140737488355328
  len := by rintro w S cs x ⟨rfl, _⟩; rfl
  one := by rintro w S cs x ⟨rfl, _⟩ v hv; simp at hv; subst hv; rfl
  keep := fun _ _ h => h
def Rp.arr (k : IntKind) (n : Nat) : Rp (List Int) where
  size := n
  rel _ _ cs x := cs = x.map (Value.int k) ∧ x.length = n ∧ ∀ y ∈ x, (Lit.int k y).wf = true
  len := by rintro w S cs x ⟨rfl, h, _⟩; simpa using h
  one := by
    rintro w S cs x ⟨rfl, _⟩ v hv
    obtain ⟨y, _, rfl⟩ := List.mem_map.1 hv
    rfl
  keep := fun _ _ h => h
def Rp.pair {α β : Type} (r : Rp α) (s : Rp β) : Rp (α × β) where
  size := r.size + s.size
  rel w S cs x := ∃ c d, cs = c ++ d ∧ r.rel w S c x.1 ∧ s.rel w S d x.2
  len := by rintro w S cs x ⟨c, d, rfl, h, k⟩; simp [r.len h, s.len k]
  one := by
    rintro w S cs x ⟨c, d, rfl, h, k⟩ v hv
    rcases List.mem_append.1 hv with hv | hv
    · exact r.one h v hv
    · exact s.one k v hv
  keep := by rintro w w' S S' cs x hS hw ⟨c, d, rfl, h, k⟩; exact ⟨c, d, rfl, r.keep hS hw h, s.keep hS hw k⟩
def Rp.via {α β : Type} (f : β → α) (r : Rp α) : Rp β where
  size := r.size
  rel w S cs x := r.rel w S cs (f x)
  len := r.len
  one := r.one
  keep := r.keep

/-- A slice's address and what its elements read as. -/
def Sl {α : Type} (r : Rp α) (w : World) (S : Fp) (A : Option Addr) (xs : List α) : Prop :=
  xs.length ≤ 140737488355328 ∧ (xs ≠ [] → ∃ b o, A = some ⟨b, o, none⟩ ∧ S b ∧ ∀ i x, xs[i]? = some x → ∃ cs, r.rel w S cs x ∧ w.rangeAt b (o + i * r.size) cs)

theorem rangeAt_keep {w w' : World} {b o : Nat} {cs : List Value} (h : w.rangeAt b o cs) (hw : b < w.heap.size → w'.heap[b]? = w.heap[b]?) : w'.rangeAt b o cs := fun j v hv => by
  have hc := h j v hv
  have hlt := World.block_lt_of_cell? w _ hc
  rw [World.cell?_of_block (w := w) (w' := w') (hw hlt)]
  exact hc

theorem Sl.keep {α : Type} {r : Rp α} {w w' : World} {S S' : Fp} {A : Option Addr} {xs : List α} (hS : ∀ b, S b → S' b) (hw : ∀ b, S b → b < w.heap.size → w'.heap[b]? = w.heap[b]?)
    (h : Sl r w S A xs) : Sl r w' S' A xs := by
  refine ⟨h.1, fun hn => ?_⟩
  obtain ⟨b, o, hA, hb, hi⟩ := h.2 hn
  refine ⟨b, o, hA, hS b hb, fun i x hx => ?_⟩
  obtain ⟨cs, hr, hc⟩ := hi i x hx
  exact ⟨cs, r.keep hS hw hr, rangeAt_keep hc (hw b hb)⟩

def Rp.slice {α : Type} (r : Rp α) : Rp (List α) where
  size := 1
  rel w S cs xs := ∃ A c, cs = [.slice A xs.length c] ∧ Sl r w S A xs
  len := by rintro w S cs x ⟨A, c, rfl, _⟩; rfl
  one := by rintro w S cs x ⟨A, c, rfl, _⟩ v hv; simp at hv; subst hv; rfl
  keep := by rintro w w' S S' cs x hS hw ⟨A, c, rfl, h⟩; exact ⟨A, c, rfl, h.keep hS hw⟩

section
variable {α : Type} {r : Rp α} {w w' : World} {S S' : Fp} {A : Option Addr} {xs : List α} {B : Nat}
theorem Sl.below (h : Sl r w (Lt B) A xs) (hb : Below B w w') : Sl r w' (Lt B) A xs := h.keep (fun _ h => h) (fun b hS _ => hb.block b hS)
theorem Sl.more (h : Sl r w S A xs) (hS : ∀ b, S b → S' b) : Sl r w S' A xs := h.keep hS (fun _ _ _ => rfl)
theorem Sl.get (h : Sl r w S A xs) (n : Nat) (hn : r.size = n) {i : Nat} (hi : i < xs.length) : ∃ b o cs, A = some ⟨b, o, none⟩ ∧ S b ∧ r.rel w S cs (xs[i]'hi) ∧ w.rangeAt b (o + i * n) cs ∧ cs.length = n ∧ ∀ v ∈ cs, v.oneCell' = true := by
  subst hn
  obtain ⟨b, o, hA, hb, hk⟩ := h.2 (by rintro rfl; simp at hi)
  obtain ⟨cs, hr, hc⟩ := hk i _ (List.getElem?_eq_getElem hi)
  exact ⟨b, o, cs, hA, hb, hr, hc, r.len hr, r.one hr⟩
theorem Sl.bel (h : Sl r w S A xs) (hb : Below w.heap.size w w') : Sl r w' S A xs := h.keep (fun _ h => h) (fun b _ hb' => hb.block b hb')
theorem Sl.nil_ (w : World) (S : Fp) (A : Option Addr) : Sl r w S A [] := ⟨by simp, fun h => absurd rfl h⟩
end

/-! ### A block that is known whole -/
def Blk (w : World) (g : Nat) (t : TypeId) (cs : Array Value) : Prop := w.heap[g]? = some (.cells cs t (0, 0))
section
variable {w w' : World} {g : Nat} {t : TypeId} {cs : Array Value}
theorem Blk.lt (h : Blk w g t cs) : g < w.heap.size := by
  rcases Nat.lt_or_ge g w.heap.size with hlt | hge
  · exact hlt
  · unfold Blk at h; rw [Array.getElem?_eq_none hge] at h; cases h
theorem Blk.heap (h : Blk w g t cs) : w.heap[g]? = some (.cells cs t (0, 0)) := h
theorem Blk.cell (h : Blk w g t cs) (i : Nat) : w.cell? ⟨g, i, none⟩ = cs[i]? := cell_of_row w g i cs t (0, 0) h
theorem Blk.frozen (h : Blk w g t cs) (i : Nat) : w.frozen? ⟨g, i, none⟩ = false := by
  unfold Blk at h
  simp [World.frozen?, h]
theorem Blk.new (w : World) (t : TypeId) (cs : Array Value) : Blk (w.alloc (.cells cs t)) w.heap.size t cs := heap_alloc_new w _
theorem Blk.drew (h : Blk w g t cs) : Blk w.drew g t cs := h
theorem Blk.drewN (h : Blk w g t cs) (n : Nat) : Blk (w.drewN n) g t cs := h
theorem Blk.alloc (h : Blk w g t cs) (o : Obj) : Blk (w.alloc o) g t cs := (Below.heap_alloc w o g h.lt).trans h
theorem Blk.set_ (h : Blk w g t cs) (i : Nat) (u : Value) : Blk (w.setCell ⟨g, i, none⟩ u) g t (cs.setIfInBounds i u) := by
  unfold Blk at h ⊢
  simp [World.setCell, Array.getElem?_modify, h]
theorem Blk.far (h : Blk w g t cs) {p : Addr} (hp : g ≠ p.block) (u : Value) : Blk (w.setCell p u) g t cs := (Below.heap_setCell w p u g hp).trans h
theorem Blk.below {B : Nat} (h : Blk w g t cs) (hb : Below B w w') (hg : g < B) : Blk w' g t cs := (hb.block g hg).trans h
theorem Blk.grown {row : Option Nat} (h : Blk w g t cs) (hb : w.grownBy w' row) (hg : some g ≠ row) : Blk w' g t cs := (hb.block g h.lt hg).trans h
theorem Blk.range (h : Blk w g t cs) : w.rangeAt g 0 cs.toList := fun j v hv => by rw [h.cell]; simpa using hv
end

theorem Below.setCell' {B : Nat} {a w : World} (h : Below B a w) {g i : Nat} (hp : B ≤ g) (u : Value) : Below B a (w.setCell ⟨g, i, none⟩ u) := h.setCell hp u
theorem Below.drewN' {B : Nat} {a w : World} (h : Below B a w) (n : Nat) : Below B a (w.drewN n) := ⟨h.os, h.tape, h.output, h.size, h.block⟩

/-! ### Laws of operations -/
theorem wpList_store_new {P : Program} {ops : Array Oper} {rest : List Oper} {op : Oper} {a : Act} {w : World} {Q : Exit → Act → World → Prop} (hgd : op.guard = none) (ty : TypeId) (x y : Operand) (ho : op.op = .store ty x y)
    (g : Nat) (t : TypeId) (old cells : Array Value) (hx : a.eval x = .pointer (some ⟨g, 0, none⟩)) (hg : g = w.heap.size) (hy : a.eval y = .agg cells)
    (hi : (P.info? ty).map (·.size) = some cells.size) (hz : old.size = cells.size) (h1 : cells.all (·.oneCell') = true)
    (h : wpList P ops Q rest (a.put op.dst undef) (w.alloc (.cells cells t))) : wpList P ops Q (op :: rest) a (w.alloc (.cells old t)) := by
  subst hg
  refine wpList_store_row hgd ty x y ho w.heap.size cells hx hy t old (heap_alloc_new w _) hi hz h1 ?_
  rw [World.setRow_alloc_new]; exact h

/-- A new variable of a type whose zero value has that many cells. -/
theorem wpList_alloc_any {P : Program} {ops : Array Oper} {rest : List Oper} {op : Oper} {a : Act} {w : World} {Q : Exit → Act → World → Prop} (hgd : op.guard = none) (ty : TypeId) (ho : op.op = .alloc ty)
    (n : Nat) (hz : ((P.info? ty).bind (·.zero)).map (·.cells.size) = some n)
    (h : ∀ z : Array Value, z.size = n → wpList P ops Q rest (a.put op.dst (.pointer (some ⟨w.heap.size, 0, none⟩))) (w.alloc (.cells z ty))) : wpList P ops Q (op :: rest) a w := by
  refine wpList_plain hgd fun K hK => ?_
  cases hi : P.info? ty with
  | none => simp [hi] at hz
  | some i =>
    cases hv : i.zero with
    | none => simp [hi, hv] at hz
    | some z =>
      have hzs : z.cells.size = n := by simpa [hi, hv] using hz
      have hK' := hK _ _ (h z.cells hzs)
      have hr : (Instr.alloc ty true (.tuple #[])).run P w = .ok (.pointer (some ⟨w.heap.size, 0, none⟩)) (w.alloc (.cells z.cells ty)) := by
        simp [Instr.alloc, zeroValue, typeInfo, hi, hv, newVar, newRow]
      unfold Oper.wp execOp
      simp only [ho, Sem.run_bind, hr, Result.andThen_ok, Sem.run_pure]
      exact hK'

theorem ret_eq {a b : Value} (h : a = b) : Ending.returned a = .returned b := by rw [h]
theorem ret_int {k : IntKind} {a b : Int} (h : a = b) : Ending.returned (.int k a) = .returned (.int k b) := by rw [h]
theorem ret_bool {a b : Bool} (h : a = b) : Ending.returned (.bool a) = .returned (.bool b) := by rw [h]
end Go.Proofs.YtllepnadffndnaaDoor
