/- Parts of a proof, one behind the other: Base, Eng, Vc, Op, OpOk, M1, M2, M3. -/
import Derived.WalkKit
import Derived.ProofKit
import Derived.OpenShut
import Derived.OwnWalk
import Derived.Deep.QuietTactic
import Derived.BigQuiet
import Derived.Deep.LoopGhost
import Derived.Deep.MidRow
import Derived.Deep.WholeRow
import Derived.Deep.Slices
import Derived.Lib.Hide
import Derived.Orders
import Derived.OrdersHeld
import Derived.Shelf.Abstract
namespace Go.Proofs.YtmeeeigfjlbnkaaGreat
open Go.RowKit
abbrev Fp := Nat → Prop
def Lt (B : Nat) : Fp := fun b => b < B
def Every : Fp := fun _ => True
structure Rp (α : Type) where
  size : Nat
  rel : World → Fp → List Value → α → Prop
  len : ∀ {w S cs x}, rel w S cs x → cs.length = size
  one : ∀ {w S cs x}, rel w S cs x → ∀ v ∈ cs, v.oneCell' = true
  keep : ∀ {w w' S S' cs x}, (∀ b, S b → S' b) → (∀ b, S b → b < w.heap.size → w'.heap[b]? = w.heap[b]?) → rel w S cs x → rel w' S' cs x
theorem Rp.below {α : Type} (r : Rp α) {w w' : World} {B : Nat} {cs : List Value} {x : α} (h : r.rel w (Lt B) cs x) (hb : Below B w w') : r.rel w' (Lt B) cs x :=
  r.keep (fun _ h => h) (fun b hS _ => hb.block b hS) h
theorem Rp.more {α : Type} (r : Rp α) {w : World} {S S' : Fp} {cs : List Value} {x : α} (h : r.rel w S cs x) (hS : ∀ b, S b → S' b) : r.rel w S' cs x :=
  r.keep hS (fun _ _ _ => rfl) h
def Rp.int (k : IntKind) : Rp Int where
  size := 1
  rel _ _ cs x := cs = [.int k x] ∧ (Lit.int k x).wf = true
  len := by rintro w S cs x ⟨rfl, _⟩; rfl
  one := by rintro w S cs x ⟨rfl, _⟩ v hv; simp at hv; subst hv; rfl
  keep := fun _ _ h => h
def Rp.bool : Rp Bool where
  size := 1
  rel _ _ cs x := cs = [.bool x]
  len := by rintro w S cs x rfl; rfl
  one := by rintro w S cs x rfl v hv; simp at hv; subst hv; rfl
  keep := fun _ _ h => h
def Rp.str : Rp ByteArray where
  size := 1
  rel _ _ cs x := cs = [.string x] ∧ x.size ≤ 140737488355328
  len := by rintro w S cs x ⟨rfl, _⟩; rfl
  one := by rintro w S cs x ⟨rfl, _⟩ v hv; simp at hv; subst hv; rfl
  keep := fun _ _ h => h
def Rp.arr (k : IntKind) (n : Nat) : Rp (List Int) where
  size := n
  rel _ _ cs x := cs = x.map (Value.int k) ∧ x.length = n ∧ ∀ y ∈ x, (Lit.int k y).wf = true
  len := by rintro w S cs x ⟨rfl, h, _⟩; simpa using h
  one := by
    rintro w S cs x ⟨rfl, _⟩ v hv
    obtain ⟨y, _, rfl⟩ := List.mem_map.1 hv
    rfl
  keep := fun _ _ h => h
def Rp.pair {α β : Type} (r : Rp α) (s : Rp β) : Rp (α × β) where
  size := r.size + s.size
  rel w S cs x := ∃ c d, cs = c ++ d ∧ r.rel w S c x.1 ∧ s.rel w S d x.2
  len := by rintro w S cs x ⟨c, d, rfl, h, k⟩; simp [r.len h, s.len k]
  one := by
    rintro w S cs x ⟨c, d, rfl, h, k⟩ v hv
    rcases List.mem_append.1 hv with hv | hv
    · exact r.one h v hv
    · exact s.one k v hv
  keep := by rintro w w' S S' cs x hS hw ⟨c, d, rfl, h, k⟩; exact ⟨c, d, rfl, r.keep hS hw h, s.keep hS hw k⟩
def Rp.via {α β : Type} (f : β → α) (r : Rp α) : Rp β where
  size := r.size
  rel w S cs x := r.rel w S cs (f x)
  len := r.len
  one := r.one
  keep := r.keep
def Sl {α : Type} (r : Rp α) (w : World) (S : Fp) (A : Option Addr) (xs : List α) : Prop :=
  xs.length ≤ 140737488355328 ∧ (xs ≠ [] → ∃ b o, A = some ⟨b, o, none⟩ ∧ S b ∧ ∀ i x, xs[i]? = some x → ∃ cs, r.rel w S cs x ∧ w.rangeAt b (o + i * r.size) cs)
theorem rangeAt_keep {w w' : World} {b o : Nat} {cs : List Value} (h : w.rangeAt b o cs) (hw : b < w.heap.size → w'.heap[b]? = w.heap[b]?) : w'.rangeAt b o cs := fun j v hv => by
  have hc := h j v hv
  have hlt := World.block_lt_of_cell? w _ hc
  rw [World.cell?_of_block (w := w) (w' := w') (hw hlt)]
  exact hc
theorem Sl.keep {α : Type} {r : Rp α} {w w' : World} {S S' : Fp} {A : Option Addr} {xs : List α} (hS : ∀ b, S b → S' b) (hw : ∀ b, S b → b < w.heap.size → w'.heap[b]? = w.heap[b]?)
    (h : Sl r w S A xs) : Sl r w' S' A xs := by
  refine ⟨h.1, fun hn => ?_⟩
  obtain ⟨b, o, hA, hb, hi⟩ := h.2 hn
  refine ⟨b, o, hA, hS b hb, fun i x hx => ?_⟩
  obtain ⟨cs, hr, hc⟩ := hi i x hx
  exact ⟨cs, r.keep hS hw hr, rangeAt_keep hc (hw b hb)⟩
def Rp.slice {α : Type} (r : Rp α) : Rp (List α) where
  size := 1
  rel w S cs xs := ∃ A c, cs = [.slice A xs.length c] ∧ Sl r w S A xs
  len := by rintro w S cs x ⟨A, c, rfl, _⟩; rfl
  one := by rintro w S cs x ⟨A, c, rfl, _⟩ v hv; simp at hv; subst hv; rfl
  keep := by rintro w w' S S' cs x hS hw ⟨A, c, rfl, h⟩; exact ⟨A, c, rfl, h.keep hS hw⟩
section
variable {α : Type} {r : Rp α} {w w' : World} {S S' : Fp} {A : Option Addr} {xs : List α} {B : Nat}
theorem Sl.below (h : Sl r w (Lt B) A xs) (hb : Below B w w') : Sl r w' (Lt B) A xs := h.keep (fun _ h => h) (fun b hS _ => hb.block b hS)
theorem Sl.more (h : Sl r w S A xs) (hS : ∀ b, S b → S' b) : Sl r w S' A xs := h.keep hS (fun _ _ _ => rfl)
theorem Sl.get (h : Sl r w S A xs) (n : Nat) (hn : r.size = n) {i : Nat} (hi : i < xs.length) : ∃ b o cs, A = some ⟨b, o, none⟩ ∧ S b ∧ r.rel w S cs (xs[i]'hi) ∧ w.rangeAt b (o + i * n) cs ∧ cs.length = n ∧ ∀ v ∈ cs, v.oneCell' = true := by
  subst hn
  obtain ⟨b, o, hA, hb, hk⟩ := h.2 (by rintro rfl; simp at hi)
  obtain ⟨cs, hr, hc⟩ := hk i _ (List.getElem?_eq_getElem hi)
  exact ⟨b, o, cs, hA, hb, hr, hc, r.len hr, r.one hr⟩
theorem Sl.bel (h : Sl r w S A xs) (hb : Below w.heap.size w w') : Sl r w' S A xs := h.keep (fun _ h => h) (fun b _ hb' => hb.block b hb')
theorem Sl.nil_ (w : World) (S : Fp) (A : Option Addr) : Sl r w S A [] := ⟨by simp, fun h => absurd rfl h⟩
end
def Blk (w : World) (g : Nat) (t : TypeId) (cs : Array Value) : Prop := w.heap[g]? = some (.cells cs t (0, 0))
section
variable {w w' : World} {g : Nat} {t : TypeId} {cs : Array Value}
theorem Blk.lt (h : Blk w g t cs) : g < w.heap.size := by
  rcases Nat.lt_or_ge g w.heap.size with hlt | hge
  · exact hlt
  · unfold Blk at h; rw [Array.getElem?_eq_none hge] at h; cases h
theorem Blk.heap (h : Blk w g t cs) : w.heap[g]? = some (.cells cs t (0, 0)) := h
theorem Blk.cell (h : Blk w g t cs) (i : Nat) : w.cell? ⟨g, i, none⟩ = cs[i]? := cell_of_row w g i cs t (0, 0) h
theorem Blk.frozen (h : Blk w g t cs) (i : Nat) : w.frozen? ⟨g, i, none⟩ = false := by
  unfold Blk at h
  simp [World.frozen?, h]
theorem Blk.new (w : World) (t : TypeId) (cs : Array Value) : Blk (w.alloc (.cells cs t)) w.heap.size t cs := heap_alloc_new w _
theorem Blk.drew (h : Blk w g t cs) : Blk w.drew g t cs := h
theorem Blk.drewN (h : Blk w g t cs) (n : Nat) : Blk (w.drewN n) g t cs := h
theorem Blk.alloc (h : Blk w g t cs) (o : Obj) : Blk (w.alloc o) g t cs := (Below.heap_alloc w o g h.lt).trans h
theorem Blk.set_ (h : Blk w g t cs) (i : Nat) (u : Value) : Blk (w.setCell ⟨g, i, none⟩ u) g t (cs.setIfInBounds i u) := by
  unfold Blk at h ⊢
  simp [World.setCell, Array.getElem?_modify, h]
theorem Blk.far (h : Blk w g t cs) {p : Addr} (hp : g ≠ p.block) (u : Value) : Blk (w.setCell p u) g t cs := (Below.heap_setCell w p u g hp).trans h
theorem Blk.below {B : Nat} (h : Blk w g t cs) (hb : Below B w w') (hg : g < B) : Blk w' g t cs := (hb.block g hg).trans h
theorem Blk.grown {row : Option Nat} (h : Blk w g t cs) (hb : w.grownBy w' row) (hg : some g ≠ row) : Blk w' g t cs := (hb.block g h.lt hg).trans h
theorem Blk.range (h : Blk w g t cs) : w.rangeAt g 0 cs.toList := fun j v hv => by rw [h.cell]; simpa using hv
end
theorem Below.setCell' {B : Nat} {a w : World} (h : Below B a w) {g i : Nat} (hp : B ≤ g) (u : Value) : Below B a (w.setCell ⟨g, i, none⟩ u) := h.setCell hp u
theorem Below.drewN' {B : Nat} {a w : World} (h : Below B a w) (n : Nat) : Below B a (w.drewN n) := ⟨h.os, h.tape, h.output, h.size, h.block⟩
theorem wpList_store_new {P : Program} {ops : Array Oper} {rest : List Oper} {op : Oper} {a : Act} {w : World} {Q : Exit → Act → World → Prop} (hgd : op.guard = none) (ty : TypeId) (x y : Operand) (ho : op.op = .store ty x y)
    (g : Nat) (t : TypeId) (old cells : Array Value) (hx : a.eval x = .pointer (some ⟨g, 0, none⟩)) (hg : g = w.heap.size) (hy : a.eval y = .agg cells)
    (hi : (P.info? ty).map (·.size) = some cells.size) (hz : old.size = cells.size) (h1 : cells.all (·.oneCell') = true)
    (h : wpList P ops Q rest (a.put op.dst undef) (w.alloc (.cells cells t))) : wpList P ops Q (op :: rest) a (w.alloc (.cells old t)) := by
  subst hg
  refine wpList_store_row hgd ty x y ho w.heap.size cells hx hy t old (heap_alloc_new w _) hi hz h1 ?_
  rw [World.setRow_alloc_new]; exact h
theorem wpList_alloc_any {P : Program} {ops : Array Oper} {rest : List Oper} {op : Oper} {a : Act} {w : World} {Q : Exit → Act → World → Prop} (hgd : op.guard = none) (ty : TypeId) (ho : op.op = .alloc ty)
    (n : Nat) (hz : ((P.info? ty).bind (·.zero)).map (·.cells.size) = some n)
    (h : ∀ z : Array Value, z.size = n → wpList P ops Q rest (a.put op.dst (.pointer (some ⟨w.heap.size, 0, none⟩))) (w.alloc (.cells z ty))) : wpList P ops Q (op :: rest) a w := by
  refine wpList_plain hgd fun K hK => ?_
  cases hi : P.info? ty with
  | none => simp [hi] at hz
  | some i =>
    cases hv : i.zero with
    | none => simp [hi, hv] at hz
    | some z =>
      have hzs : z.cells.size = n := by simpa [hi, hv] using hz
      have hK' := hK _ _ (h z.cells hzs)
      have hr : (Instr.alloc ty true (.tuple #[])).run P w = .ok (.pointer (some ⟨w.heap.size, 0, none⟩)) (w.alloc (.cells z.cells ty)) := by
        simp [Instr.alloc, zeroValue, typeInfo, hi, hv, newVar, newRow]
      unfold Oper.wp execOp
      simp only [ho, Sem.run_bind, hr, Result.andThen_ok, Sem.run_pure]
      exact hK'
theorem ret_eq {a b : Value} (h : a = b) : Ending.returned a = .returned b := by rw [h]
theorem ret_int {k : IntKind} {a b : Int} (h : a = b) : Ending.returned (.int k a) = .returned (.int k b) := by rw [h]
theorem ret_bool {a b : Bool} (h : a = b) : Ending.returned (.bool a) = .returned (.bool b) := by rw [h]
end Go.Proofs.YtmeeeigfjlbnkaaGreat
namespace Go.Proofs.YtmeeeigfjlbnkaaGreat
open Go.RowKit
inductive SV where
  | val (v : Value)
  | ptr (i g off : Nat)
  | lit (b : Bool)
  deriving Inhabited
structure KB where
  g : Nat
  t : TypeId
  cs : List SV
abbrev Mem := List (Nat × KB)
abbrev Env := List (Nat × SV)
abbrev Hist := List (World × Fp)
def Mem.find : Mem → Nat → Option KB
  | [], _ => none
  | (j, kb) :: M, i => bif Nat.beq j i then some kb else Mem.find M i
def Env.get : Env → Nat → Option SV
  | [], _ => none
  | (j, v) :: E, i => bif Nat.beq j i then some v else Env.get E i
def SV.den : SV → Value
  | .val v => v
  | .ptr _ g off => .pointer (some ⟨g, off, none⟩)
  | .lit b => .bool b
def Mem.gs (M : Mem) : Fp := fun b => ∃ i kb, M.find i = some kb ∧ kb.g = b
structure Since (ex : Fp) (h w : World) : Prop where
  os : w.os = h.os
  tape : w.tape = h.tape
  output : w.output = h.output
  size : h.heap.size ≤ w.heap.size
  block : ∀ b, b < h.heap.size → ¬ ex b → w.heap[b]? = h.heap[b]?
structure A (M : Mem) (H : Hist) (w : World) : Prop where
  blk : ∀ i kb, M.find i = some kb → Blk w kb.g kb.t (kb.cs.map SV.den).toArray
  apart : ∀ i j ki kj, M.find i = some ki → M.find j = some kj → i ≠ j → ki.g ≠ kj.g
  since : ∀ p ∈ H, Since p.2 p.1 w
  fresh : ∀ p ∈ H, ∀ i kb, M.find i = some kb → p.2 kb.g ∨ p.1.heap.size ≤ kb.g
structure Sat (N : Nat) (E : Env) (a : Act) : Prop where
  defers : a.defers = []
  size : a.tmps.size = N
  get : ∀ t v, E.get t = some v → a.tmps[t]? = some v.den
def ev (E : Env) : Operand → Option SV
  | .tmp t => E.get t
  | .const v => some (.val v)
  | .global g => some (.val (.pointer (some ⟨g, 0, none⟩)))
  | .func f => some (.val (.func (.func f) #[] #[]))
theorem Sat.ev {N : Nat} {E : Env} {a : Act} (h : Sat N E a) {x : Operand} {v : SV} (hx : ev E x = some v) : a.eval x = v.den := by
  cases x with
  | tmp t =>
    have := h.get t v hx
    simp [Act.eval, this]
  | const u => injection hx with hx; subst hx; rfl
  | global g => injection hx with hx; subst hx; rfl
  | func f => injection hx with hx; subst hx; rfl
theorem beq_ne {d t : Nat} (h : ¬ d = t) : Nat.beq d t = false := by
  cases hb : Nat.beq d t with
  | false => rfl
  | true => exact absurd (Nat.eq_of_beq_eq_true hb) h
theorem Env.get_cons {E : Env} {d t : Nat} {v : SV} : Env.get ((d, v) :: E) t = if d = t then some v else E.get t := by
  show (bif Nat.beq d t then some v else Env.get E t) = _
  by_cases h : d = t
  · subst h; simp
  · simp [beq_ne h, h]
theorem Mem.find_cons {M : Mem} {d t : Nat} {v : KB} : Mem.find ((d, v) :: M) t = if d = t then some v else M.find t := by
  show (bif Nat.beq d t then some v else Mem.find M t) = _
  by_cases h : d = t
  · subst h; simp
  · simp [beq_ne h, h]
theorem Sat.put {N : Nat} {E : Env} {a : Act} (h : Sat N E a) {d : Nat} (hd : d < N) (v : SV) : Sat N ((d, v) :: E) (a.put (some d) v.den) := by
  refine ⟨h.defers, by simp [Act.put, h.size], fun t u hu => ?_⟩
  rw [Env.get_cons] at hu
  simp only [Act.put, Array.getElem?_setIfInBounds]
  split at hu
  · rename_i e
    subst e
    injection hu with hu
    subst hu
    simp [h.size, hd]
  · rename_i e
    rw [if_neg e]
    exact h.get t u hu
theorem Since.refl (ex : Fp) (w : World) : Since ex w w := ⟨rfl, rfl, rfl, Nat.le_refl _, fun _ _ _ => rfl⟩
theorem Since.step {ex : Fp} {h w w' : World} {row : Fp} (k : Since ex h w) (s : Since row w w') (hr : ∀ b, row b → ex b ∨ h.heap.size ≤ b) : Since ex h w' :=
  ⟨s.os.trans k.os, s.tape.trans k.tape, s.output.trans k.output, Nat.le_trans k.size s.size, fun b hb he => by
    refine (s.block b (Nat.lt_of_lt_of_le hb k.size) fun hrb => ?_).trans (k.block b hb he)
    rcases hr b hrb with h1 | h1
    · exact he h1
    · omega⟩
theorem Since.of_below {w w' : World} (h : Below w.heap.size w w') : Since (fun _ => False) w w' := ⟨h.os, h.tape, h.output, h.size, fun b hb _ => h.block b hb⟩
theorem Since.below {h w : World} (k : Since (fun _ => False) h w) : Below h.heap.size h w := ⟨k.os, k.tape, k.output, k.size, fun b hb => k.block b hb (fun e => e)⟩
theorem Since.drew {ex : Fp} {h w : World} (k : Since ex h w) : Since ex h { w with drawn := w.drawn + 1 } := ⟨k.os, k.tape, k.output, k.size, k.block⟩
theorem A.drew {M : Mem} {H : Hist} {w : World} (h : A M H w) : A M H { w with drawn := w.drawn + 1 } := ⟨h.blk, h.apart, fun p hp => (h.since p hp).drew, h.fresh⟩
theorem A.alloc {M : Mem} {H : Hist} {w : World} (h : A M H w) (i : Nat) (t : TypeId) (cs : List SV) :
    A ((i, ⟨w.heap.size, t, cs⟩) :: M) H (w.alloc (.cells (cs.map SV.den).toArray t)) := by
  have hlt : ∀ j kb, M.find j = some kb → kb.g < w.heap.size := fun j kb hj => (h.blk j kb hj).lt
  refine ⟨fun j kb hj => ?_, fun j k kj kk hj hk hne => ?_, fun p hp => ?_, fun p hp j kb hj => ?_⟩
  · rw [Mem.find_cons] at hj
    split at hj
    · injection hj with hj; subst hj; exact Blk.new _ _ _
    · exact (h.blk j kb hj).alloc _
  · rw [Mem.find_cons] at hj hk
    split at hj
    · split at hk
      · rename_i e1 e2; exact absurd (e1.symm.trans e2) hne
      · injection hj with hj; subst hj
        have := hlt k kk hk
        exact (Nat.ne_of_lt this).symm
    · split at hk
      · injection hk with hk; subst hk
        have := hlt j kj hj
        exact Nat.ne_of_lt this
      · exact h.apart j k kj kk hj hk hne
  · have k := h.since p hp
    exact ⟨k.os, k.tape, k.output, Nat.le_trans k.size (by simp), fun b hb he => (Below.heap_alloc _ _ _ (Nat.lt_of_lt_of_le hb k.size)).trans (k.block b hb he)⟩
  · rw [Mem.find_cons] at hj
    split at hj
    · injection hj with hj; subst hj; exact .inr (h.since p hp).size
    · exact h.fresh p hp j kb hj
def Mem.upd : Mem → Nat → List SV → Mem
  | [], _, _ => []
  | (j, kb) :: M, i, cs => bif Nat.beq j i then (j, { kb with cs := cs }) :: M else (j, kb) :: Mem.upd M i cs
theorem Mem.find_upd {M : Mem} {i j : Nat} {cs : List SV} : (M.upd i cs).find j = if i = j then (M.find i).map (fun kb => { kb with cs := cs }) else M.find j := by
  induction M with
  | nil => simp [Mem.upd, Mem.find]
  | cons p M ih =>
    obtain ⟨k, kb⟩ := p
    by_cases hk : k = i
    · subst hk
      have e : Mem.upd ((k, kb) :: M) k cs = (k, { kb with cs := cs }) :: M := by
        show (bif Nat.beq k k then _ else _) = _
        simp
      rw [e, Mem.find_cons, Mem.find_cons, Mem.find_cons]
      by_cases hj : k = j <;> simp [hj]
    · have e : Mem.upd ((k, kb) :: M) i cs = (k, kb) :: Mem.upd M i cs := by
        show (bif Nat.beq k i then _ else _) = _
        simp [beq_ne hk]
      rw [e, Mem.find_cons, Mem.find_cons, Mem.find_cons, ih]
      by_cases hj : k = j
      · subst hj; simp [hk]; intro h; exact absurd h.symm hk
      · simp [hj, hk]
theorem A.setRow {M : Mem} {H : Hist} {w : World} (h : A M H w) {i : Nat} {kb : KB} (hi : M.find i = some kb) (cs : List SV) :
    A (M.upd i cs) H (w.setRow kb.g (cs.map SV.den).toArray) := by
  refine ⟨fun j kj hj => ?_, fun j k kj kk hj hk hne => ?_, fun p hp => ?_, fun p hp j kj hj => ?_⟩
  · rw [Mem.find_upd] at hj
    split at hj
    · rename_i e
      subst e
      rw [hi] at hj
      injection hj with hj
      subst hj
      exact setRow_heap w kb.g _ _ _ _ (h.blk i kb hi).heap
    · rename_i e
      have hne := h.apart i j kb kj hi hj e
      show (w.setRow kb.g _).heap[kj.g]? = _
      rw [setRow_other _ _ _ _ (Ne.symm hne)]
      exact h.blk j kj hj
  · rw [Mem.find_upd] at hj hk
    have key : ∀ {j : Nat} {kj : KB}, (if i = j then (M.find i).map (fun kb => { kb with cs := cs }) else M.find j) = some kj → ∃ kj', M.find j = some kj' ∧ kj'.g = kj.g := by
      intro j kj hj
      split at hj
      · rename_i e; subst e; rw [hi] at hj; injection hj with hj; subst hj; exact ⟨kb, hi, rfl⟩
      · exact ⟨kj, hj, rfl⟩
    obtain ⟨a, ha, hag⟩ := key hj
    obtain ⟨b, hb, hbg⟩ := key hk
    rw [← hag, ← hbg]
    exact h.apart j k a b ha hb hne
  · have k := h.since p hp
    refine ⟨k.os, k.tape, k.output, by simpa using k.size, fun b hb he => ?_⟩
    rw [setRow_other _ _ _ _ ?_]
    · exact k.block b hb he
    · rintro rfl
      rcases h.fresh p hp i kb hi with h1 | h1
      · exact he h1
      · omega
  · rw [Mem.find_upd] at hj
    split at hj
    · rename_i e; subst e; rw [hi] at hj; injection hj with hj; subst hj; exact h.fresh p hp i kb hi
    · exact h.fresh p hp j kj hj
theorem A.below {M : Mem} {H : Hist} {w w' : World} (h : A M H w) (hb : Below w.heap.size w w') : A M ((w', M.gs) :: H) w' := by
  have s := Since.of_below hb
  refine ⟨fun i kb hi => (h.blk i kb hi).below hb (h.blk i kb hi).lt, h.apart, fun p hp => ?_, fun p hp i kb hi => ?_⟩
  · rcases List.mem_cons.1 hp with rfl | hp
    · exact Since.refl _ _
    · exact (h.since p hp).step s (fun _ e => e.elim)
  · rcases List.mem_cons.1 hp with rfl | hp
    · exact .inl ⟨i, kb, hi, rfl⟩
    · exact h.fresh p hp i kb hi
theorem A.below' {M : Mem} {H : Hist} {w w' : World} (h : A M H w) (hb : Below w.heap.size w w') : A M H w' := by
  have s := Since.of_below hb
  exact ⟨fun i kb hi => (h.blk i kb hi).below hb (h.blk i kb hi).lt, h.apart, fun p hp => (h.since p hp).step s (fun _ e => e.elim), h.fresh⟩
theorem A.grown {M : Mem} {H : Hist} {w w' : World} {row : Option Nat} (h : A M H w) (hg : w.grownBy w' row) (hM : ∀ i kb, M.find i = some kb → some kb.g ≠ row) :
    A M ((w', M.gs) :: H.map fun p => (p.1, fun b => p.2 b ∨ row = some b)) w' := by
  have s : Since (fun b => row = some b) w w' := ⟨hg.os, hg.tape, hg.output, hg.size, fun b hb he => hg.block b hb (fun e => he e.symm)⟩
  refine ⟨fun i kb hi => (h.blk i kb hi).grown hg (hM i kb hi), h.apart, fun p hp => ?_, fun p hp i kb hi => ?_⟩
  · rcases List.mem_cons.1 hp with rfl | hp
    · exact Since.refl _ _
    · obtain ⟨q, hq, rfl⟩ := List.mem_map.1 hp
      have k := h.since q hq
      have k' : Since (fun b => q.2 b ∨ row = some b) q.1 w := ⟨k.os, k.tape, k.output, k.size, fun b hb he => k.block b hb (fun e => he (.inl e))⟩
      exact k'.step s (fun b e => .inl (.inr e))
  · rcases List.mem_cons.1 hp with rfl | hp
    · exact .inl ⟨i, kb, hi, rfl⟩
    · obtain ⟨q, hq, rfl⟩ := List.mem_map.1 hp
      rcases h.fresh q hq i kb hi with h1 | h1
      · exact .inl (.inl h1)
      · exact .inr h1
theorem A.start (w : World) : A [] [(w, fun _ => False)] w := by
  refine ⟨fun i kb h => ?_, fun i j ki kj h => ?_, fun p hp => ?_, fun p hp i kb h => ?_⟩
  · simp [Mem.find] at h
  · simp [Mem.find] at h
  · simp at hp; subst hp; exact Since.refl _ _
  · simp [Mem.find] at h
def Above (M : Mem) (g : Nat) : Prop := ∀ i kb, M.find i = some kb → kb.g < g
theorem A.above {M : Mem} {H : Hist} {w : World} (h : A M H w) : Above M w.heap.size := fun i kb hi => (h.blk i kb hi).lt
theorem Above.head {M : Mem} {i g : Nat} {kb : KB} (h : Above ((i, kb) :: M) g) : kb.g < g := h i kb (by rw [Mem.find_cons]; simp)
theorem A.belowB {M : Mem} {H H' : Hist} {w w' : World} {B : Nat} (h : A M H w) (hb : Below B w w') (hM : Above M B) (hH : ∀ p ∈ H', p ∈ H ∧ p.1.heap.size ≤ B) : A M ((w', M.gs) :: H') w' := by
  have s : Since (fun b => B ≤ b) w w' := ⟨hb.os, hb.tape, hb.output, hb.size, fun b _ he => hb.block b (by omega)⟩
  refine ⟨fun i kb hi => (h.blk i kb hi).below hb (hM i kb hi), h.apart, fun p hp => ?_, fun p hp i kb hi => ?_⟩
  · rcases List.mem_cons.1 hp with rfl | hp
    · exact Since.refl _ _
    · refine (h.since p (hH p hp).1).step s (fun b e => .inr ?_)
      have := (hH p hp).2
      omega
  · rcases List.mem_cons.1 hp with rfl | hp
    · exact .inl ⟨i, kb, hi, rfl⟩
    · exact h.fresh p (hH p hp).1 i kb hi
def MSub : Mem → Mem → Prop
  | [], _ => True
  | (i, kb) :: M', M => M.find i = some kb ∧ MSub M' M
theorem MSub.find {M : Mem} : ∀ {M' : Mem}, MSub M' M → ∀ i kb, M'.find i = some kb → M.find i = some kb
  | [], _, i, kb, h => by simp [Mem.find] at h
  | (j, kj) :: M', h, i, kb, hi => by
    rw [Mem.find_cons] at hi
    split at hi
    · rename_i e; subst e; injection hi with hi; subst hi; exact h.1
    · exact h.2.find i kb hi
theorem A.sub {M M' : Mem} {H : Hist} {w : World} (h : A M H w) (hs : MSub M' M) : A M' H w :=
  ⟨fun i kb hi => h.blk i kb (hs.find i kb hi), fun i j ki kj hi hj => h.apart i j ki kj (hs.find i ki hi) (hs.find j kj hj), h.since, fun p hp i kb hi => h.fresh p hp i kb (hs.find i kb hi)⟩
def MSub' (M' M : Mem) : Prop := ∀ i kb, M'.find i = some kb → M.find i = some kb
theorem A.sub' {M M' : Mem} {H : Hist} {w : World} (h : A M H w) (hs : MSub' M' M) : A M' H w :=
  ⟨fun i kb hi => h.blk i kb (hs i kb hi), fun i j ki kj hi hj => h.apart i j ki kj (hs i ki hi) (hs j kj hj), h.since, fun p hp i kb hi => h.fresh p hp i kb (hs i kb hi)⟩
theorem A.hist {M : Mem} {H H' : Hist} {w : World} (h : A M H w) (hs : ∀ p ∈ H', p ∈ H) : A M H' w := ⟨h.blk, h.apart, fun p hp => h.since p (hs p hp), fun p hp => h.fresh p (hs p hp)⟩
end Go.Proofs.YtmeeeigfjlbnkaaGreat
namespace Go.Proofs.YtmeeeigfjlbnkaaGreat
open Go.RowKit
inductive TD where
  | int (k : IntKind) | bool | str | ptr | iface
  | slice (e : TypeId) (es : Nat)
  | arr (n : Nat) (e : TypeId) (es : Nat)
  | struct (fs : List (Nat × TypeId)) (size : Nat)
  | fn
  | other
abbrev Tab := List (Nat × TD)
def Tab.find : Tab → Nat → Option TD
  | [], _ => none
  | (j, d) :: T, i => bif Nat.beq j i then some d else Tab.find T i
def TD.agg : TD → Bool | .arr .. | .struct .. => true | _ => false
def TD.size : TD → Nat | .arr n _ es => n * es | .struct _ s => s | _ => 1
def sizeB (P : Program) (t : TypeId) (n : Nat) : Bool := match P.info? t with | some i => i.size == n | none => false
def sizePos (P : Program) (t : TypeId) : Bool := match P.info? t with | some i => decide (0 < i.size) | none => false
def contig (P : Program) : List (Nat × TypeId) → Nat → Bool
  | [], _ => true
  | (o, t) :: fs, n => o == n && match P.info? t with | some i => contig P fs (n + i.size) | none => false
def TD.fitsB (P : Program) (t : TypeId) (d : TD) : Bool :=
  sizeB P t d.size && match d, P.underlying t with
  | .int k, some (.int k') => decide (k = k')
  | .bool, some .bool => true
  | .str, some .string => true
  | .ptr, some (.pointer _) => true
  | .ptr, some .unsafePointer => true
  | .iface, some (.interface _) => true
  | .slice e es, some (.slice e') => decide (e = e') && sizeB P e es
  | .arr n e es, some (.array n' e') => decide (n = n') && decide (e = e') && sizeB P e es
  | .struct fs _, some (.struct fields) => decide (fields.toList.map (fun f => (f.offset, f.type)) = fs) && fields.toList.all (fun f => sizePos P f.type) && contig P fs 0
  | .fn, some (.func ..) => true
  | .other, some d => (match d with | .struct _ | .array _ _ => false | _ => true)
  | _, _ => false
def veq : Value → Value → Bool
  | .int k a, .int j b => decide (k = j) && decide (a = b)
  | .bool a, .bool b => a == b
  | .string a, .string b => decide (a.data = b.data)
  | .pointer none, .pointer none => true
  | .slice none 0 0, .slice none 0 0 => true
  | .map none, .map none => true
  | .nilFunc, .nilFunc => true
  | .nilIface, .nilIface => true
  | _, _ => false
theorem veq_eq {a b : Value} (h : veq a b = true) : a = b := by
  unfold veq at h
  split at h <;> simp_all
  cases ‹ByteArray›; cases ‹ByteArray›; simp_all
def zeroAcc (T : Tab) : Nat → Nat → List SV → Option (List SV)
  | 0, _, _ => none
  | f + 1, t, acc => match Tab.find T t with
    | some (.int k) => some (.val (.int k 0) :: acc)
    | some .bool => some (.val (.bool false) :: acc)
    | some .str => some (.val (.string ⟨#[]⟩) :: acc)
    | some .ptr => some (.val (.pointer none) :: acc)
    | some .iface => some (.val .nilIface :: acc)
    | some .fn => some (.val .nilFunc :: acc)
    | some (.slice ..) => some (.val (.slice none 0 0) :: acc)
    | some (.arr n e _) => n.rec (some acc) (fun _ r => match r with | some a => zeroAcc T f e a | none => none)
    | some (.struct fs _) => fs.foldr (fun x r => match r with | some a => zeroAcc T f x.2 a | none => none) (some acc)
    | _ => none
def veqAll : List SV → List Value → Bool
  | [], [] => true
  | a :: x, b :: y => veq a.den b && veqAll x y
  | _, _ => false
theorem veqAll_eq : ∀ {x : List SV} {y : List Value}, veqAll x y = true → x.map SV.den = y
  | [], [], _ => rfl
  | a :: x, b :: y, h => by
    simp only [veqAll, Bool.and_eq_true] at h
    simp [veq_eq h.1, veqAll_eq h.2]
  | [], _ :: _, h => by cases h
  | _ :: _, [], h => by cases h
def zeroB (P : Program) (T : Tab) (t : TypeId) : Bool :=
  match zeroAcc T 9 t [], (P.info? t).bind (·.zero) with
  | some z, some v => veqAll z v.cells.toList
  | none, _ => true
  | _, _ => false
def tabB (P : Program) (T : Tab) : Bool := T.all fun x => x.2.fitsB P x.1 && zeroB P T x.1
structure TabOK (P : Program) (T : Tab) : Prop where
  all : tabB P T = true
theorem Tab.find_mem : ∀ {T : Tab} {t : Nat} {d : TD}, Tab.find T t = some d → (t, d) ∈ T
  | (j, e) :: T, t, d, h => by
    have h' : (bif Nat.beq j t then some e else Tab.find T t) = some d := h
    by_cases hj : j = t
    · subst hj; simp at h'; subst h'; exact List.mem_cons_self
    · simp only [beq_ne hj, cond_false] at h'
      exact List.mem_cons_of_mem _ (Tab.find_mem h')
theorem TabOK.fits {P : Program} {T : Tab} (h : TabOK P T) {t : Nat} {d : TD} (ht : Tab.find T t = some d) : d.fitsB P t = true := by
  have := List.all_eq_true.1 h.all _ (Tab.find_mem ht)
  simp only [Bool.and_eq_true] at this
  exact this.1
theorem TabOK.zero {P : Program} {T : Tab} (h : TabOK P T) {t : Nat} {z : List SV} (hz : zeroAcc T 9 t [] = some z) (w : World) :
    ∃ v : Value, (zeroValue t).run P w = .ok v w ∧ v.cells.toList = z.map SV.den := by
  have hd : ∃ d, Tab.find T t = some d := by
    cases hf : Tab.find T t with
    | none => simp [zeroAcc, hf] at hz
    | some d => exact ⟨d, rfl⟩
  obtain ⟨d, hd⟩ := hd
  have := List.all_eq_true.1 h.all _ (Tab.find_mem hd)
  simp only [Bool.and_eq_true] at this
  have h2 := this.2
  unfold zeroB at h2
  rw [hz] at h2
  cases hi : P.info? t with
  | none => simp [hi] at h2
  | some i =>
    cases hv : i.zero with
    | none => simp [hi, hv] at h2
    | some v =>
      simp [hi, hv] at h2
      exact ⟨v, by simp [zeroValue, typeInfo, hi, hv], (veqAll_eq h2).symm⟩
theorem info_of_size {P : Program} {t : TypeId} {n : Nat} (h : sizeB P t n = true) : (P.info? t).map (·.size) = some n := by
  unfold sizeB at h
  split at h
  · rename_i i hi; simp at h; simp [hi, h]
  · cases h
theorem run_sizeOf_of {P : Program} {t : TypeId} {n : Nat} (h : sizeB P t n = true) (w : World) : (sizeOf t).run P w = .ok n w := by
  unfold sizeB at h
  split at h
  · rename_i i hi; simp at h; simp [sizeOf, typeInfo, hi, h]
  · cases h
theorem TD.fits_size {P : Program} {t : TypeId} {d : TD} (h : d.fitsB P t = true) : sizeB P t d.size = true := by
  unfold TD.fitsB at h; simp only [Bool.and_eq_true] at h; exact h.1
theorem TD.fits_agg {P : Program} {t : TypeId} {d : TD} (h : d.fitsB P t = true) (w : World) : (isAgg t).run P w = .ok d.agg w := by
  unfold TD.fitsB at h
  simp only [Bool.and_eq_true] at h
  have h2 := h.2
  split at h2 <;> first | (rename_i hu; simp [isAgg, run_underlying hu, TD.agg]; done) | (cases h2; done) | skip
  · rename_i hu
    split at h2
    · cases h2
    · cases h2
    · rename_i hs ha
      unfold isAgg
      rw [Sem.run_bind, run_underlying hu]
      rename_i d' _
      cases d' <;> simp_all [TD.agg]
theorem TD.fits_int {P : Program} {t : TypeId} {k : IntKind} (h : (TD.int k).fitsB P t = true) : P.underlying t = some (.int k) := by
  unfold TD.fitsB at h
  simp only [Bool.and_eq_true] at h
  obtain ⟨_, h⟩ := h
  cases hu : P.underlying t with
  | none => simp [hu] at h
  | some d => cases d <;> simp_all
theorem TD.fits_bool {P : Program} {t : TypeId} (h : TD.bool.fitsB P t = true) : P.underlying t = some .bool := by
  unfold TD.fitsB at h
  simp only [Bool.and_eq_true] at h
  obtain ⟨_, h⟩ := h
  cases hu : P.underlying t with
  | none => simp [hu] at h
  | some d => cases d <;> simp_all
theorem TD.fits_str {P : Program} {t : TypeId} (h : TD.str.fitsB P t = true) : P.underlying t = some .string := by
  unfold TD.fitsB at h
  simp only [Bool.and_eq_true] at h
  obtain ⟨_, h⟩ := h
  cases hu : P.underlying t with
  | none => simp [hu] at h
  | some d => cases d <;> simp_all
theorem TD.fits_slice {P : Program} {t e : TypeId} {es : Nat} (h : (TD.slice e es).fitsB P t = true) : P.underlying t = some (.slice e) ∧ sizeB P e es = true := by
  unfold TD.fitsB at h
  simp only [Bool.and_eq_true] at h
  obtain ⟨_, h⟩ := h
  cases hu : P.underlying t with
  | none => simp [hu] at h
  | some d =>
    cases d <;> simp [hu] at h ⊢
    obtain ⟨h1, h2⟩ := h
    first | (subst h1; exact ⟨rfl, h2⟩) | (obtain ⟨h1, h3⟩ := h1; subst h1; subst h3; exact ⟨⟨rfl, rfl⟩, h2⟩)
theorem TD.fits_arr {P : Program} {t e : TypeId} {n es : Nat} (h : (TD.arr n e es).fitsB P t = true) : P.underlying t = some (.array n e) ∧ sizeB P e es = true := by
  unfold TD.fitsB at h
  simp only [Bool.and_eq_true] at h
  obtain ⟨_, h⟩ := h
  cases hu : P.underlying t with
  | none => simp [hu] at h
  | some d =>
    cases d <;> simp [hu] at h ⊢
    obtain ⟨h1, h2⟩ := h
    first | (subst h1; exact ⟨rfl, h2⟩) | (obtain ⟨h1, h3⟩ := h1; subst h1; subst h3; exact ⟨⟨rfl, rfl⟩, h2⟩)
theorem TD.fits_struct {P : Program} {t : TypeId} {fs : List (Nat × TypeId)} {sz : Nat} (h : (TD.struct fs sz).fitsB P t = true) :
    ∃ fields : Array Field, P.underlying t = some (.struct fields) ∧ fields.toList.map (fun f => (f.offset, f.type)) = fs ∧ fields.toList.all (fun f => sizePos P f.type) = true ∧ contig P fs 0 = true := by
  unfold TD.fitsB at h
  simp only [Bool.and_eq_true] at h
  obtain ⟨_, h⟩ := h
  cases hu : P.underlying t with
  | none => simp [hu] at h
  | some d =>
    cases d <;> simp only [hu, Bool.false_eq_true, Bool.and_eq_true, decide_eq_true_eq] at h
    exact ⟨_, rfl, h.1.1, h.1.2, h.2⟩
theorem TD.fits_some {P : Program} {t : TypeId} {d : TD} (h : d.fitsB P t = true) : ∃ x, P.underlying t = some x := by
  unfold TD.fitsB at h
  simp only [Bool.and_eq_true] at h
  obtain ⟨_, h⟩ := h
  cases hu : P.underlying t with
  | none => simp [hu] at h
  | some x => exact ⟨x, rfl⟩
end Go.Proofs.YtmeeeigfjlbnkaaGreat
namespace Go.Proofs.YtmeeeigfjlbnkaaGreat
open Go.RowKit
def nth {α : Type} : List α → Nat → Option α
  | [], _ => none
  | x :: _, 0 => some x
  | _ :: l, n + 1 => nth l n
theorem nth_eq {α : Type} : ∀ (l : List α) (n : Nat), nth l n = l[n]?
  | [], _ => by simp [nth]
  | x :: l, 0 => rfl
  | x :: l, n + 1 => by simp [nth, nth_eq l n]
def setN {α : Type} : List α → Nat → α → Option (List α)
  | [], _, _ => none
  | _ :: l, 0, v => some (v :: l)
  | x :: l, n + 1, v => match setN l n v with | some r => some (x :: r) | none => none
theorem setN_eq {α : Type} : ∀ {l : List α} {n : Nat} {v : α} {r : List α}, setN l n v = some r → n < l.length ∧ r = l.set n v
  | [], _, _, _, h => by simp [setN] at h
  | x :: l, 0, v, r, h => by simp [setN] at h; subst h; simp
  | x :: l, n + 1, v, r, h => by
    simp only [setN] at h
    split at h
    · rename_i r' hr
      obtain ⟨h1, h2⟩ := setN_eq hr
      injection h with h
      subst h; subst h2
      simp; exact h1
    · cases h
def newId : Mem → Nat
  | [] => 0
  | (j, _) :: _ => j + 1
def cellsSV : SV → List SV
  | .val (.agg ⟨l⟩) => l.map SV.val
  | v => [v]
theorem cellsSV_den (v : SV) : v.den.cells.toList = (cellsSV v).map SV.den := by
  cases v with
  | ptr i g off => rfl
  | lit b => rfl
  | val v =>
    cases v <;> try rfl
    rename_i arr
    cases arr
    simp [cellsSV, SV.den, Value.cells, Function.comp_def]
def updK : Mem → Nat → List SV → (Mem → Prop) → Prop
  | [], _, _, K => K []
  | (j, kb) :: M, i, cs, K => bif Nat.beq j i then K ((j, ⟨kb.g, kb.t, cs⟩) :: M) else updK M i cs fun r => K ((j, kb) :: r)
theorem updK_eq : ∀ {M : Mem} {i : Nat} {cs : List SV} {K : Mem → Prop}, updK M i cs K → K (M.upd i cs)
  | [], _, _, _, h => h
  | (j, kb) :: M, i, cs, K, h => by
    by_cases hj : j = i
    · subst hj
      have h' : (bif Nat.beq j j then K ((j, ⟨kb.g, kb.t, cs⟩) :: M) else updK M j cs fun r => K ((j, kb) :: r)) := h
      simp at h'
      show K (bif Nat.beq j j then _ else _)
      simpa using h'
    · have h' : (bif Nat.beq j i then K ((j, ⟨kb.g, kb.t, cs⟩) :: M) else updK M i cs fun r => K ((j, kb) :: r)) := h
      simp only [beq_ne hj, cond_false] at h'
      show K (bif Nat.beq j i then _ else _)
      simp only [beq_ne hj, cond_false]
      exact updK_eq h'
def denK : List SV → (List Value → Prop) → Prop
  | [], K => K []
  | .val v :: l, K => denK l fun r => K (v :: r)
  | .ptr _ g off :: l, K => denK l fun r => K (.pointer (some ⟨g, off, none⟩) :: r)
  | .lit b :: l, K => denK l fun r => K (.bool b :: r)
theorem denK_eq : ∀ {l : List SV} {K : List Value → Prop}, denK l K ↔ K (l.map SV.den)
  | [], _ => Iff.rfl
  | .val _ :: l, _ => denK_eq (l := l)
  | .ptr _ _ _ :: l, _ => denK_eq (l := l)
  | .lit _ :: l, _ => denK_eq (l := l)
theorem denK_val {l : List Value} {K : List Value → Prop} (h : K l) : denK (l.map SV.val) K := by
  rw [denK_eq, List.map_map]
  have e : l.map (SV.den ∘ SV.val) = l := by
    rw [show (SV.den ∘ SV.val) = id from rfl]; simp
  rw [e]; exact h
def tkS : Nat → List SV → List SV
  | 0, _ => []
  | _, [] => []
  | n + 1, x :: l => x :: tkS n l
def dpS : Nat → List SV → List SV
  | 0, l => l
  | _, [] => []
  | n + 1, _ :: l => dpS n l
theorem tkS_eq (n : Nat) (l : List SV) : tkS n l = l.take n := by
  induction n generalizing l with
  | zero => cases l <;> rfl
  | succ n ih => cases l <;> simp [tkS, ih]
theorem dpS_eq (n : Nat) (l : List SV) : dpS n l = l.drop n := by
  induction n generalizing l with
  | zero => cases l <;> rfl
  | succ n ih => cases l <;> simp [dpS, ih]
def glueS (l : List SV) : List SV → List SV
  | [] => l
  | r => l ++ r
def spliceS (cs : List SV) (off : Nat) (l : List Value) (n : Nat) : List SV := tkS off cs ++ glueS (l.map SV.val) (dpS (off + n) cs)
theorem spliceS_eq (cs : List SV) (off : Nat) (l : List Value) (n : Nat) : (spliceS cs off l n).map SV.den = (cs.map SV.den).take off ++ l ++ (cs.map SV.den).drop (off + n) := by
  have hg : ∀ (a b : List SV), glueS a b = a ++ b := by
    intro a b; cases b <;> simp [glueS]
  have e : l.map (SV.den ∘ SV.val) = l := by
    rw [show (SV.den ∘ SV.val) = id from rfl]; simp
  simp [spliceS, hg, tkS_eq, dpS_eq, List.map_append, List.map_map, e, List.map_take, List.map_drop]
def cutBy : List Nat → List Value → List (List Value)
  | [], _ => []
  | n :: ns, z => tk n z :: cutBy ns (dp n z)
where
  tk : Nat → List Value → List Value
    | 0, _ => []
    | _, [] => []
    | n + 1, x :: l => x :: tk n l
  dp : Nat → List Value → List Value
    | 0, l => l
    | _, [] => []
    | n + 1, _ :: l => dp n l
def flat : List (List Value) → List Value
  | [] => []
  | l :: ls => app l (flat ls)
where
  app : List Value → List Value → List Value
    | [], r => r
    | x :: l, r => x :: app l r
def cellsL : Value → List Value
  | .agg ⟨l⟩ => l
  | v => [v]
def sizesOf (T : Tab) : List (Nat × TypeId) → Option (List Nat)
  | [] => some []
  | (_, t) :: fs => match Tab.find T t with
    | some d => match sizesOf T fs with | some r => some (d.size :: r) | none => none
    | none => none
def cutsOf (T : Tab) (t : TypeId) : Option (List Nat) := match Tab.find T t with
  | some (.struct fs _) => sizesOf T fs
  | some (.arr n _ es) => some (List.replicate n es)
  | _ => none
def putSegs : List (List Value) → List (Nat × Value) → Option (List (List Value))
  | segs, [] => some segs
  | segs, (i, v) :: r => match setN segs i (cellsL v) with
    | some segs' => putSegs segs' r
    | none => none
def partsFit : List Nat → List (Nat × Value) → Prop
  | _, [] => True
  | ns, (i, v) :: r => nth ns i = some (cellsL v).length ∧ partsFit ns r
inductive Seg where
  | one (v : Value)
  | many (l : List Value)
  | agg (l : List Value)
def Seg.list : Seg → List Value
  | .one v => [v]
  | .many l => l
  | .agg l => l
def flagsOf (T : Tab) : List (Nat × TypeId) → Option (List (Nat × Bool))
  | [] => some []
  | (_, t) :: fs => match Tab.find T t with
    | some d => match flagsOf T fs with | some r => some ((d.size, d.agg) :: r) | none => none
    | none => none
def sumOf : List (Nat × Bool) → Nat
  | [] => 0
  | (n, _) :: l => n + sumOf l
def headK : Nat → List Value → (List Value → List Value → Prop) → Prop
  | 0, l, K => K [] l
  | _, [], K => K [] []
  | n + 1, x :: l, K => headK n l fun a b => K (x :: a) b
def cutK : List (Nat × Bool) → List Value → (List Seg → Prop) → Prop
  | [], _, K => K []
  | (n, _) :: ns, z, K => headK n z fun a b => cutK ns b fun r => K (.many a :: r)
def segOf : Bool → Value → Option Seg
  | false, v => some (.one v)
  | true, .agg ⟨l⟩ => some (.agg l)
  | true, _ => none
def putK' (ns : List (Nat × Bool)) : List Seg → List (Nat × Value) → Option (List Seg)
  | segs, [] => some segs
  | segs, (i, v) :: r => match nth ns i with
    | some (_, f) => match segOf f v with
      | some s => match setN segs i s with
        | some segs' => putK' ns segs' r
        | none => none
      | none => none
    | none => none
def partsFitK (ns : List (Nat × Bool)) : List (Nat × Value) → Prop
  | [] => True
  | (i, v) :: r => (match nth ns i with
    | some (n, false) => bif Nat.beq n 1 then cellsL v = [v] else False
    | some (n, true) => (cellsL v).length = n
    | none => False) ∧ partsFitK ns r
def appK : List Value → List Value → (List Value → Prop) → Prop
  | [], r, K => K r
  | x :: l, r, K => appK l r fun s => K (x :: s)
def flatK : List Seg → (List Value → Prop) → Prop
  | [], K => K []
  | .one v :: s, K => flatK s fun r => K (v :: r)
  | .many l :: s, K => flatK s fun r => appK l r K
  | .agg l :: s, K => flatK s fun r => K (l ++ r)
section
variable (P : Program) (T : Tab) (E : Env) (M : Mem) (H : Hist)
abbrev Cont := SV → Mem → Hist → Prop
def withV (x : Operand) (K : SV → Prop) : Prop := match ev E x with | some v => K v | none => False
def withVs : List Operand → (List Value → Prop) → Prop
  | [], K => K []
  | x :: l, K => withV E x fun v => withVs l fun r => K (v.den :: r)
def withO : Option Operand → (Option Value → Prop) → Prop
  | none, K => K none
  | some x, K => withV E x fun v => K (some v.den)
def pureV (s : Sem Value) (K : Cont) : Prop := ∃ v, (∀ w, A M H w → s.run P w = .ok v w) ∧ K (.val v) M H
def memV (s : Sem Value) (K : Cont) : Prop := ∀ w, A M H w → ∃ sv w' M' H', s.run P w = .ok sv.den w' ∧ A M' H' w' ∧ K sv M' H'
def memU (s : Sem Unit) (K : Cont) : Prop := ∀ w, A M H w → ∃ w' M' H', s.run P w = .ok () w' ∧ A M' H' w' ∧ K (.val undef) M' H'
def loadV (t : TypeId) (p : SV) (K : Cont) : Prop := match Tab.find T t with
  | none => False
  | some d => match p with
    | .ptr i g off => match M.find i with
      | none => False
      | some kb => match d.agg with
        | false => ∃ v, nth kb.cs off = some v ∧ kb.g = g ∧ K v M H
        | true => Nat.ble (off + d.size) kb.cs.length = true ∧ kb.g = g ∧ denK (tkS d.size (dpS off kb.cs)) fun l => K (.val (.agg ⟨l⟩)) M H
    | .val (.pointer (some a)) => ∃ v, (∀ w, A M H w → (loadVar t a).run P w = .ok v w) ∧ K (.val v) M H
    | _ => False
def storeV (t : TypeId) (p v : SV) (K : Cont) : Prop := match Tab.find T t with
  | none => False
  | some d => match p with
    | .ptr i g off => match M.find i with
      | none => False
      | some kb => match d.agg with
        | false => ∃ cs, setN kb.cs off v = some cs ∧ kb.g = g ∧ v.den.oneCell' = true ∧ updK M i cs fun M' => K (.val undef) M' H
        | true => match v with
          | .val (.agg ⟨l⟩) => l.length = d.size ∧ Nat.ble (off + d.size) kb.cs.length = true ∧ kb.g = g ∧ l.all (·.oneCell') = true ∧ updK M i (spliceS kb.cs off l d.size) fun M' => K (.val undef) M' H
          | _ => False
    | .val (.pointer (some ⟨b, off, none⟩)) => match d.agg with
      | false => ∃ i kb, M.find i = some kb ∧ kb.g = b ∧ ∃ cs, setN kb.cs off v = some cs ∧ v.den.oneCell' = true ∧ updK M i cs fun M' => K (.val undef) M' H
      | true => False
    | _ => False
def fieldAddrV (t : TypeId) (p : SV) (f : Nat) (K : Cont) : Prop := match Tab.find T t with
  | some (.struct fs _) => match nth fs f with
    | some (o, _) => match p with
      | .ptr i g off => K (.ptr i g (off + o)) M H
      | .val (.pointer (some ⟨b, off, none⟩)) => K (.val (.pointer (some ⟨b, off + o, none⟩))) M H
      | _ => False
    | none => False
  | _ => False
def indexAddrV (t : TypeId) (x ix : SV) (K : Cont) : Prop := match Tab.find T t with
  | some (.slice _ es) => match x, ix with
    | .val (.slice A len _), .val (.int _ n) => ∃ b o k : Nat, A = some ⟨b, o, none⟩ ∧ n = (k : Int) ∧ k < len ∧ K (.val (.pointer (some ⟨b, o + k * es, none⟩))) M H
    | _, _ => False
  | some (.arr len _ es) => match x, ix with
    | .ptr i g off, .val (.int _ n) => ∃ k : Nat, n = (k : Int) ∧ k < len ∧ K (.ptr i g (off + k * es)) M H
    | .val (.pointer (some ⟨b, off, none⟩)), .val (.int _ n) => ∃ k : Nat, n = (k : Int) ∧ k < len ∧ K (.val (.pointer (some ⟨b, off + k * es, none⟩))) M H
    | _, _ => False
  | _ => False
def nilCheckV (x : SV) (K : Cont) : Prop := match x with
  | .ptr i g off => K (.ptr i g off) M H
  | .val (.pointer (some a)) => K (.val (.pointer (some a))) M H
  | .val (.func (.func f) x y) => K (.val (.func (.func f) x y)) M H
  | .val (.iface t v) => K (.val (.iface t v)) M H
  | _ => False
def intBin (op : BinOp) (k : IntKind) (m n : Int) (K : Value → Prop) : Prop := match op with
  | .add => ∃ r, k.wrap (m + n) = r ∧ K (.int k r)
  | .sub => ∃ r, k.wrap (m - n) = r ∧ K (.int k r)
  | .mul => ∃ r, k.wrap (m * n) = r ∧ K (.int k r)
  | .quo => n ≠ 0 ∧ ∃ r, k.wrap (m.tdiv n) = r ∧ K (.int k r)
  | .rem => n ≠ 0 ∧ ∃ r, m.tmod n = r ∧ K (.int k r)
  | .eql => K (.bool (m == n))
  | .neq => K (.bool (m != n))
  | .lss => K (.bool (decide (m < n)))
  | .leq => K (.bool (decide (m ≤ n)))
  | .gtr => K (.bool (decide (n < m)))
  | .geq => K (.bool (decide (n ≤ m)))
  | .shl => 0 ≤ n ∧ ∃ r, k.wrap (m * 2 ^ (min n.toNat k.bits)) = r ∧ K (.int k r)
  | .shr => 0 ≤ n ∧ ∃ r, m.fdiv (2 ^ (min n.toNat k.bits)) = r ∧ K (.int k r)
  | .and => ∃ r, k.wrap (BitVec.ofInt k.bits m &&& BitVec.ofInt k.bits n).toNat = r ∧ K (.int k r)
  | .or => ∃ r, k.wrap (BitVec.ofInt k.bits m ||| BitVec.ofInt k.bits n).toNat = r ∧ K (.int k r)
  | .xor => ∃ r, k.wrap (BitVec.ofInt k.bits m ^^^ BitVec.ofInt k.bits n).toNat = r ∧ K (.int k r)
  | .andNot => ∃ r, k.wrap (BitVec.ofInt k.bits m &&& ~~~BitVec.ofInt k.bits n).toNat = r ∧ K (.int k r)
def strBin (op : BinOp) (s t : ByteArray) (K : Value → Prop) : Prop := match op with
  | .add => s.size + t.size ≤ 9223372036854775807 ∧ K (.string (s ++ t))
  | .eql => K (.bool (s.toList == t.toList))
  | .neq => K (.bool (!(s.toList == t.toList)))
  | .lss => K (.bool (Op.bytesLess s.toList t.toList))
  | .leq => K (.bool (Op.bytesLess s.toList t.toList || s.toList == t.toList))
  | .gtr => K (.bool (!(Op.bytesLess s.toList t.toList || s.toList == t.toList)))
  | .geq => K (.bool (!Op.bytesLess s.toList t.toList))
  | _ => False
def boolBin (op : BinOp) (s t : Bool) (K : Value → Prop) : Prop := match op with
  | .eql => K (.bool (s == t))
  | .neq => K (.bool (s != t))
  | _ => False
def kid : IntKind → Nat
  | .i8 => 0 | .i16 => 1 | .i32 => 2 | .i64 => 3 | .u8 => 4 | .u16 => 5 | .u32 => 6 | .u64 => 7
theorem kid_inj {k j : IntKind} (h : Nat.beq (kid k) (kid j) = true) : k = j := by
  cases k <;> cases j <;> first | rfl | cases h
def isShift : BinOp → Bool
  | .shl | .shr => true
  | _ => false
def nilCmp (t : TypeId) (yo : Operand) (x y : SV) : Option Bool := match y, Tab.find T t with
  | .val (.pointer none), some .ptr => match x with
    | .ptr _ _ _ => some false
    | .val (.pointer none) => some true
    | .val (.pointer (some _)) => some false
    | _ => none
  | .val .nilIface, some .iface => match yo with
    | .const _ => match x with
      | .val .nilIface => some true
      | .val (.iface _ _) => some false
      | _ => none
    | _ => none
  | .val (.slice none _ _), some (.slice _ _) => match x with
    | .val (.slice none _ _) => some true
    | .val (.slice (some _) _ _) => some false
    | _ => none
  | _, _ => none
def binV (op : BinOp) (t : TypeId) (xo yo : Operand) (x y : SV) (K : Cont) : Prop := match x, y with
  | .val (.int k m), .val (.int k' n) => bif isShift op || Nat.beq (kid k) (kid k') then (intBin op k m n fun v => K (.val v) M H) else False
  | .val (.string s), .val (.string u) => strBin op s u fun v => K (.val v) M H
  | .val (.bool s), .val (.bool u) => match Tab.find T t with | some .bool => boolBin op s u fun v => K (.val v) M H | _ => False
  | x, y => match nilCmp T t yo x y, op with
    | some b, .eql => K (.lit b) M H
    | some b, .neq => K (.lit (!b)) M H
    | _, _ => pureV P M H (do eqGuard op t xo yo x.den y.den; binOp op t x.den y.den) K
def unV (op : UnOp) (x : SV) (K : Cont) : Prop := match op, x with
  | .not, .val (.bool b) => K (.val (.bool (!b))) M H
  | .not, .lit b => K (.lit (!b)) M H
  | .xor, .val (.int k n) => ∃ r, k.wrap (BitVec.ofInt k.bits (if k.signed then -1 else k.max) ^^^ BitVec.ofInt k.bits n).toNat = r ∧ K (.val (.int k r)) M H
  | .neg, .val (.int k n) => ∃ r, k.wrap (0 - n) = r ∧ K (.val (.int k r)) M H
  | op, x => pureV P M H (Op.unary op x.den) K
def convV (src dst : TypeId) (x : SV) (K : Cont) : Prop := match Tab.find T src, Tab.find T dst, x with
  | some _, some (.int k), .val (.int _ n) => ∃ r, k.wrap n = r ∧ K (.val (.int k r)) M H
  | _, some (.slice ..), x => memV P M H (convert src dst x.den) K
  | _, _, x => pureV P M H (convert src dst x.den) K
def callV (f : FuncId) (args : Array Value) (K : Cont) : Prop :=
  (∀ args w, (callFunc f args).run P w = .ok (.enter f args) w) ∧ ∀ w, A M H w → Calls P f args w fun e w' => ∃ sv M' H', e = .returned sv.den ∧ A M' H' w' ∧ K sv M' H'
def callsV (ents : List FuncId) (f : SV) (args : List Value) (K : Cont) : Prop := match f with
  | .val (.func (.func f) first captured) => match ents.contains f with
    | true => ∀ w, A M H w → Calls P f ((first ++ args.toArray) ++ captured) w fun e w' => ∃ sv M' H', e = .returned sv.den ∧ A M' H' w' ∧ K sv M' H'
    | false => ∀ w, A M H w → ∃ sv w' M' H', (callFunc f ((first ++ args.toArray) ++ captured)).run P w = .ok (.value sv.den) w' ∧ A M' H' w' ∧ K sv M' H'
  | _ => False
def builtinV (b : Builtin) (ats : Array TypeId) (ty : TypeId) (args : List Value) (K : Cont) : Prop := match b, args with
  | .len, [.slice _ n _] => match (ats[0]?).bind (Tab.find T) with | some (.slice ..) => K (.val (.int .i64 n)) M H | _ => False
  | .len, [.string s] => match (ats[0]?).bind (Tab.find T) with | some .str => K (.val (.int .i64 s.size)) M H | _ => False
  | .len, args => pureV P M H (Builtin.len_ ats ty args.toArray) K
  | .append, args => memV P M H (Builtin.append_ ats ty args.toArray) K
  | .copy, args => memV P M H (Builtin.copy_ ats ty args.toArray) K
  | .delete, args => memV P M H (Builtin.delete_ ats ty args.toArray) K
  | .min, [.int k x, .int _ y] => ∃ r, (if y < x then y else x) = r ∧ K (.val (.int k r)) M H
  | .max, [.int k x, .int _ y] => ∃ r, (if y > x then y else x) = r ∧ K (.val (.int k r)) M H
  | .min, args => pureV P M H (Builtin.min_ ats ty args.toArray) K
  | .max, args => pureV P M H (Builtin.max_ ats ty args.toArray) K
  | .cap, args => pureV P M H (Builtin.cap_ ats ty args.toArray) K
  | _, _ => False
def buildV (t : TypeId) (parts : List (Nat × Value)) (K : Cont) : Prop :=
  match zeroAcc T 9 t [], cutsOf T t with
  | some z, some ns => match Nat.beq z.length ns.sum, putSegs (cutBy ns (z.map SV.den)) parts with
    | true, some segs => partsFit ns parts ∧ K (.val (.agg (flat segs).toArray)) M H
    | _, _ => False
  | _, _ => False
def buildK (t : TypeId) (parts : List (Nat × Value)) (K : Cont) : Prop :=
  match zeroAcc T 9 t [], (match Tab.find T t with | some (.struct fs _) => flagsOf T fs | some (.arr n e es) => (match Tab.find T e with | some d => some (List.replicate n (es, d.agg)) | none => none) | _ => none) with
  | some z, some ns => match Nat.beq z.length (sumOf ns) with
    | true => denK z fun zs => cutK ns zs fun segs0 => match putK' ns segs0 parts with
      | some segs => partsFitK ns parts ∧ flatK segs fun l => K (.val (.agg ⟨l⟩)) M H
      | none => False
    | false => False
  | _, _ => False
def repS : Nat → List SV → List SV
  | 0, _ => []
  | n + 1, z => z ++ repS n z
def buildSliceK (t : TypeId) (n : Nat) (parts : List (Nat × Value)) (K : Cont) : Prop :=
  match Tab.find T t with
  | some (.slice e es) => match Tab.find T e, zeroAcc T 9 e [] with
    | some d, some z => match Nat.beq z.length es, Nat.ble (n * es) 16777216, Nat.blt 0 (n * es) with
      | true, true, true => denK (repS n z) fun zs => cutK (List.replicate n (es, d.agg)) zs fun segs0 => match putK' (List.replicate n (es, d.agg)) segs0 parts with
        | some segs => partsFitK (List.replicate n (es, d.agg)) parts ∧ flatK segs fun l => ∀ g, Above M g → K (.val (.slice (some ⟨g, 0, none⟩) n n)) ((newId M, ⟨g, e, l.map SV.val⟩) :: M) H
        | none => False
      | _, _, _ => False
    | _, _ => False
  | _ => False
def buildSliceZ (t : TypeId) (n : Nat) (parts : List (Nat × Value)) (K : Cont) : Prop :=
  match n, parts with
  | 0, [] => match Tab.find T t with
    | some (.slice e _) => ∀ g, Above M g → K (.val (.slice (some ⟨g, 0, none⟩) 0 0)) ((newId M, ⟨g, e, []⟩) :: M) H
    | _ => False
  | 0, x :: r => buildSliceK T M H t 0 (x :: r) K
  | n + 1, parts => buildSliceK T M H t (n + 1) parts K
def boundV : Option Value → Nat → (Nat → Prop) → Prop
  | none, d, K => K d
  | some (.int _ n), _, K => ∃ k : Nat, n = (k : Int) ∧ K k
  | _, _, _ => False
def sliceV (t : TypeId) (x : SV) (lo hi mx : Option Value) (K : Cont) : Prop := match x, mx with
  | .val (.string s), none => match Tab.find T t with
    | some .str => boundV hi s.size fun h => boundV lo 0 fun l => l ≤ h ∧ h ≤ s.size ∧ ∃ s', s.extract l h = s' ∧ K (.val (.string s')) M H
    | _ => False
  | .val (.slice A len cap), none => match Tab.find T t with
    | some (.slice _ es) => boundV hi len fun h => boundV lo 0 fun l => l ≤ h ∧ h ≤ cap ∧ ∃ v, .slice (if cap = l then A else A.map (·.add (l * es))) (h - l) (cap - l) = v ∧ K (.val v) M H
    | _ => False
  | x, mx => pureV P M H (Instr.sliceAt t x.den lo hi mx) K
def indexV (t : TypeId) (x ix : SV) (K : Cont) : Prop := match Tab.find T t, x, ix with
  | some .str, .val (.string s), .val (.int _ n) => ∃ (k : Nat) (c : UInt8), n = (k : Int) ∧ s.data.toList[k]? = some c ∧ K (.val (.int .u8 c.toNat)) M H
  | some (.arr len e es), .val (.agg ⟨l⟩), .val (.int _ n) => ∃ k : Nat, n = (k : Int) ∧ k < len ∧ match Tab.find T e with
    | some d => match d.agg with
      | true => ∃ l', (l.drop (k * es)).take es = l' ∧ K (.val (.agg ⟨l'⟩)) M H
      | false => ∃ v, l[k * es]? = some v ∧ K (.val v) M H
    | none => False
  | _, _, _ => pureV P M H (Instr.index t x.den ix.den) K
def fieldV (t : TypeId) (x : SV) (f : Nat) (K : Cont) : Prop := match Tab.find T t, x with
  | some (.struct fs _), .val (.agg ⟨l⟩) => match nth fs f with
    | some (o, ft) => match Tab.find T ft with
      | some d => match d.agg with
        | true => ∃ l', (l.drop o).take d.size = l' ∧ K (.val (.agg ⟨l'⟩)) M H
        | false => ∃ v, nth l o = some v ∧ K (.val v) M H
      | none => False
    | none => False
  | _, _ => pureV P M H (Instr.field t x.den f) K
def makeSliceV (t : TypeId) (l c : SV) (K : Cont) : Prop := match l, c with
  | .val (.int _ n), .val (.int _ m) => match Tab.find T t with
    | some (.slice e es) => match zeroAcc T 9 e [] with
      | some z => match Nat.beq z.length es, Nat.blt 0 es with
        | true, true => ∃ (k by_ : Nat), n = (k : Int) ∧ m = (k : Int) ∧ k ≤ 140737488355328 ∧ (P.info? e).map (·.bytes) = some by_ ∧ k * by_ ≤ 281474976710656 ∧
          ∀ g, Above M g → K (.val (.slice (some ⟨g, 0, none⟩) k k)) ((newId M, ⟨g, e, repS k z⟩) :: M) H
        | _, _ => False
      | none => False
    | _ => False
  | _, _ => memV P M H (Instr.makeSlice t l.den c.den) K
def opV (ents : List FuncId) (o : Oper) (K : Cont) : Prop := match o.op with
  | .move x | .assign x => withV E x fun v => K v M H
  | .pick c x y => withV E c fun v => withV E x fun x => withV E y fun y => match v with
    | .val (.bool t) => (t = true → K x M H) ∧ (t = false → K y M H)
    | .lit true => K x M H
    | .lit false => K y M H
    | _ => False
  | .alloc t => match zeroAcc T 9 t [] with
    | some z => ∀ g, Above M g → K (.ptr (newId M) g 0) ((newId M, ⟨g, t, z⟩) :: M) H
    | none => False
  | .box t x => withV E x fun v => ∀ g, Above M g → K (.ptr (newId M) g 0) ((newId M, ⟨g, t, cellsSV v⟩) :: M) H
  | .build t parts => withVs E (parts.toList.map (·.2)) fun vs => buildK T M H t ((parts.toList.map (·.1)).zip vs) K
  | .buildSlice t n parts => withVs E (parts.toList.map (·.2)) fun vs => buildSliceZ T M H t n ((parts.toList.map (·.1)).zip vs) K
  | .load t x => withV E x fun p => loadV P T M H t p K
  | .store t x y => withV E x fun p => withV E y fun v => storeV T M H t p v K
  | .nilCheck x => withV E x fun v => nilCheckV M H v K
  | .binOp op t x y _ => withV E x fun u => withV E y fun v => binV P T M H op t x y u v K
  | .unOp op _ x => withV E x fun v => unV P M H op v K
  | .convert src dst x => withV E x fun v => convV P T M H src dst v K
  | .makeInterface t x => withV E x fun v => pureV P M H (Instr.makeInterface t v.den) K
  | .makeFunc fn first captured => withVs E first.toList fun xs => withVs E captured.toList fun ys => K (.val (.func fn xs.toArray ys.toArray)) M H
  | .makeMap t r => withO E r fun r => memV P M H (Instr.makeMap t r) K
  | .makeSlice t l c => withV E l fun l => withV E c fun c => makeSliceV P T M H t l c K
  | .slice t x lo hi mx => withV E x fun x => withO E lo fun lo => withO E hi fun hi => withO E mx fun mx => sliceV P T M H t x lo hi mx K
  | .fieldAddr t x f => withV E x fun p => fieldAddrV T M H t p f K
  | .field t x f => withV E x fun v => fieldV P T M H t v f K
  | .indexAddr t x ix => withV E x fun v => withV E ix fun i => indexAddrV T M H t v i K
  | .index t x ix => withV E x fun v => withV E ix fun i => indexV P T M H t v i K
  | .lookup t x ix ok => withV E x fun v => withV E ix fun i => pureV P M H (Instr.lookup t v.den i.den ok) K
  | .mapUpdate t m k x | .insert t m k x => withV E m fun m => withV E k fun k => withV E x fun x => memU P M H (Instr.mapUpdate t m.den k.den x.den) K
  | .mapEntry t m k => withV E m fun m => withV E k fun k => memV P M H (Instr.mapEntry t m.den k.den) K
  | .entryStore t m s x => withV E m fun m => withV E s fun s => withV E x fun x => memU P M H (Instr.entryStore t m.den s.den x.den) K
  | .range t x => withV E x fun x => memV P M H (Instr.range t x.den) K
  | .next it s => withV E it fun it => memV P M H (Instr.next it.den s o.type) K
  | .entry it => withV E it fun it => memV P M H (Instr.entry it.den) K
  | .typeAssert x t u ok => withV E x fun x => pureV P M H (Instr.typeAssert x.den t u ok) K
  | .extract x i => withV E x fun x => match x with
    | .val (.tuple vs) => ∃ v, vs[i]? = some v ∧ K (.val v) M H
    | _ => False
  | .call c => match c.callee with
    | .builtin b => withVs E c.args.toList fun vs => builtinV P T M H b c.argTypes o.type vs K
    | .value f => withV E f fun f => withVs E c.args.toList fun vs => callsV P M H ents f vs K
    | .invoke .. => False
  | _ => False
def CellsOK (C0 : List (Nat × Nat × Nat × SV)) (w : World) : Prop := ∀ c ∈ C0, w.cell? ⟨c.2.1, c.2.2.1, none⟩ = some c.2.2.2.den
def keepsC : List (Nat × Nat × Nat × SV) → Mem → Prop → Prop
  | [], _, X => X
  | (i, g, off, v) :: r, M, X => (∃ kb, M.find i = some kb ∧ kb.g = g ∧ nth kb.cs off = some v) ∧ keepsC r M X
def quietV (C0 : List (Nat × Nat × Nat × SV)) (o : Oper) (K : SV → Prop) : Prop := match o.op with
  | .load t x => withV E x fun p => match C0, p with
    | _ :: _, .ptr _ g off => match Tab.find T t with
      | some d => match d.agg with
        | false => ∃ v : SV, (∀ w, CellsOK C0 w → w.cell? ⟨g, off, none⟩ = some v.den) ∧ K v
        | true => False
      | none => False
    | _, p => loadV P T M H t p fun v _ _ => K v
  | .nilCheck x => withV E x fun v => nilCheckV M H v fun v _ _ => K v
  | .convert src dst x => withV E x fun v => match Tab.find T src, Tab.find T dst, v with
    | some _, some (.int k), .val (.int _ n) => ∃ r, k.wrap n = r ∧ K (.val (.int k r))
    | _, _, _ => False
  | .indexAddr t x ix => withV E x fun v => withV E ix fun i => indexAddrV T M H t v i fun v _ _ => K v
  | .call c => match c.callee with
    | .builtin .len => withVs E c.args.toList fun vs => match vs, (c.argTypes[0]?).bind (Tab.find T) with
      | [.slice _ n _], some (.slice ..) => K (.val (.int .i64 n))
      | [.string s], some .str => K (.val (.int .i64 s.size))
      | _, _ => False
    | _ => False
  | .fieldAddr t x f => withV E x fun p => fieldAddrV T M H t p f fun v _ _ => K v
  | .slice t x lo hi mx => withV E x fun x => withO E lo fun lo => withO E hi fun hi => withO E mx fun mx => sliceV P T M H t x lo hi mx fun v _ _ => K v
  | .index t x ix => withV E x fun v => withV E ix fun i => indexV P T M H t v i fun v _ _ => K v
  | .field t x f => withV E x fun v => fieldV P T M H t v f fun v _ _ => K v
  | .extract x i => withV E x fun x => match x with
    | .val (.tuple vs) => ∃ v, vs[i]? = some v ∧ K (.val v)
    | _ => False
  | .build t parts => withVs E (parts.toList.map (·.2)) fun vs => buildK T M H t ((parts.toList.map (·.1)).zip vs) fun v _ _ => K v
  | .move x | .assign x => withV E x K
  | .pick c x y => withV E c fun v => withV E x fun x => withV E y fun y => match v with
    | .val (.bool t) => (t = true → K x) ∧ (t = false → K y)
    | .lit true => K x
    | .lit false => K y
    | _ => False
  | .binOp op t x y _ => withV E x fun u => withV E y fun v => match u, v with
    | .val (.int k m), .val (.int k' n) => bif isShift op || Nat.beq (kid k) (kid k') then (intBin op k m n fun v => K (.val v)) else False
    | .val (.string s), .val (.string u) => strBin op s u fun v => K (.val v)
    | .val (.bool s), .val (.bool u) => match Tab.find T t with | some .bool => boolBin op s u fun v => K (.val v) | _ => False
    | u, v => match nilCmp T t y u v, op with
      | some b, .eql => K (.lit b)
      | some b, .neq => K (.lit (!b))
      | _, _ => False
  | .unOp .not _ x => withV E x fun v => match v with
    | .val (.bool b) => K (.val (.bool (!b)))
    | .lit b => K (.lit (!b))
    | _ => False
  | .unOp .xor _ x => withV E x fun v => match v with
    | .val (.int k n) => ∃ r, k.wrap (BitVec.ofInt k.bits (if k.signed then -1 else k.max) ^^^ BitVec.ofInt k.bits n).toNat = r ∧ K (.val (.int k r))
    | _ => False
  | _ => False
end
end Go.Proofs.YtmeeeigfjlbnkaaGreat
namespace Go.Proofs.YtmeeeigfjlbnkaaGreat
open Go.RowKit
theorem den_ptr (i g off : Nat) : (SV.ptr i g off).den = .pointer (some ⟨g, off, none⟩) := rfl
theorem den_val (v : Value) : (SV.val v).den = v := rfl
theorem withV_out {E : Env} {x : Operand} {K : SV → Prop} (h : withV E x K) : ∃ v, ev E x = some v ∧ K v := by
  unfold withV at h
  split at h
  · rename_i v hv; exact ⟨v, hv, h⟩
  · exact h.elim
theorem withVs_out {N : Nat} {E : Env} {a : Act} (hs : Sat N E a) : ∀ {l : List Operand} {K : List Value → Prop}, withVs E l K → K (l.map a.eval)
  | [], _, h => h
  | x :: l, K, h => by
    obtain ⟨v, hv, h⟩ := withV_out h
    have := withVs_out hs h
    rw [List.map_cons, hs.ev hv]
    exact this
theorem withO_out {N : Nat} {E : Env} {a : Act} (hs : Sat N E a) : ∀ {x : Option Operand} {K : Option Value → Prop}, withO E x K → K (x.map a.eval)
  | none, _, h => h
  | some x, K, h => by
    obtain ⟨v, hv, h⟩ := withV_out h
    rw [Option.map_some, hs.ev hv]
    exact h
def Yld (P : Program) (o : Oper) (a : Act) (w : World) (R : SV → World → Prop) : Prop :=
  (∃ sv w', (execOp a.eval o).run P w = .ok (.value sv.den) w' ∧ R sv w') ∨
  (∃ w', (execOp a.eval o).run P w = .ok .skip w' ∧ R (.val undef) w') ∨
  (∃ f args w1, (execOp a.eval o).run P w = .ok (.enter f args) w1 ∧ Calls P f args w1 fun e w' => ∃ sv : SV, e = .returned sv.den ∧ R sv w')
theorem Yld.wp {P : Program} {o : Oper} {a : Act} {w : World} {R : SV → World → Prop} {next : Act → World → Prop} {Q : Exit → Act → World → Prop} (h : Yld P o a w R)
    (hn : ∀ sv w', R sv w' → next (a.put o.dst sv.den) w') : o.wp P a w next Q := by
  unfold Oper.wp
  rcases h with ⟨sv, w', h, hR⟩ | ⟨w', h, hR⟩ | ⟨f, args, w1, h, hc⟩
  · rw [h]; exact hn _ _ hR
  · rw [h]; exact hn _ _ hR
  · rw [h]
    refine hc.mono ?_
    rintro e w' ⟨sv, rfl, hR⟩
    exact hn _ _ hR
section
variable {P : Program} {T : Tab} {E : Env} {M : Mem} {H : Hist} {K : Cont} {N : Nat} {a : Act} {w : World}
abbrev After (K : Cont) : SV → World → Prop := fun sv w' => ∃ M' H', K sv M' H' ∧ A M' H' w'
theorem Yld.val {o : Oper} {R : SV → World → Prop} {sv : SV} {w' : World} (s : Sem Value) (ho : execOp a.eval o = (do pure (.value (← s)))) (hr : s.run P w = .ok sv.den w') (h : R sv w') : Yld P o a w R :=
  .inl ⟨sv, w', by rw [ho, Sem.run_bind, hr]; rfl, h⟩
theorem Yld.unit {o : Oper} {R : SV → World → Prop} {w' : World} (s : Sem Unit) (ho : execOp a.eval o = (do s; pure .skip)) (hr : s.run P w = .ok () w') (h : R (.val undef) w') : Yld P o a w R :=
  .inr (.inl ⟨w', by rw [ho, Sem.run_bind, hr]; rfl, h⟩)
theorem pureV_out {s : Sem Value} (h : pureV P M H s K) (hA : A M H w) : ∃ v : SV, s.run P w = .ok v.den w ∧ After K v w := by
  obtain ⟨v, hr, hk⟩ := h
  exact ⟨.val v, hr w hA, M, H, hk, hA⟩
theorem memV_out {s : Sem Value} (h : memV P M H s K) (hA : A M H w) : ∃ (v : SV) (w' : World), s.run P w = .ok v.den w' ∧ After K v w' := by
  obtain ⟨sv, w', M', H', hr, hA', hk⟩ := h w hA
  exact ⟨sv, w', hr, M', H', hk, hA'⟩
theorem memU_out {s : Sem Unit} (h : memU P M H s K) (hA : A M H w) : ∃ w' : World, s.run P w = .ok () w' ∧ After K (.val undef) w' := by
  obtain ⟨w', M', H', hr, hA', hk⟩ := h w hA
  exact ⟨w', hr, M', H', hk, hA'⟩
theorem loadV_all (hT : TabOK P T) {t : TypeId} {p : SV} (h : loadV P T M H t p K) : ∃ v : SV, (∀ w, A M H w → (Instr.loadAt t p.den).run P w = .ok v.den w) ∧ K v M H := by
  unfold loadV at h
  split at h
  · exact h.elim
  rename_i d hd
  have hf := hT.fits hd
  split at h
  · rename_i i g off
    split at h
    · exact h.elim
    rename_i kb hkb
    split at h
    · rename_i hagg
      obtain ⟨v, hv, rfl, hk⟩ := h
      refine ⟨v, fun w hA => ?_, hk⟩
      have hc : w.cell? ⟨kb.g, off, none⟩ = some v.den := by
        rw [(hA.blk i kb hkb).cell]
        rw [nth_eq] at hv
        simp [hv]
      simp [Instr.loadAt, Instr.sureAddr, SV.den, loadVar, TD.fits_agg hf, hagg, load, hc, Sem.run, Sem.run_bind]
    · rename_i hagg
      obtain ⟨hle, rfl, hk⟩ := h
      rw [denK_eq, tkS_eq, dpS_eq] at hk
      have hle := Nat.le_of_ble_eq_true hle
      have hl : (((kb.cs.drop off).take d.size).map SV.den).length = d.size := by simp; omega
      refine ⟨.val (.agg (((kb.cs.drop off).take d.size).map SV.den).toArray), fun w hA => ?_, hk⟩
      have hrow : w.rangeAt kb.g off (((kb.cs.drop off).take d.size).map SV.den) := by
        intro j v hv
        rw [(hA.blk i kb hkb).cell]
        simp only [List.getElem?_map, Option.map_eq_some_iff, List.getElem?_take] at hv
        obtain ⟨u, hu, rfl⟩ := hv
        split at hu
        · rw [List.getElem?_drop] at hu
          simp [hu]
        · cases hu
      have hs := TD.fits_size hf
      have hl2 : (loadCells ⟨kb.g, off, none⟩ (((kb.cs.drop off).take d.size).map SV.den).length).run P w = .ok (((kb.cs.drop off).take d.size).map SV.den).toArray w :=
        run_loadCells_list (P := P) w ⟨kb.g, off, none⟩ _ (fun j v hv => by rw [Addr.add_mid]; exact hrow j v hv)
      rw [hl] at hl2
      simp only [Instr.loadAt, Instr.sureAddr, SV.den, loadVar, Sem.run_bind, Sem.run_pure, Result.andThen_ok, TD.fits_agg hf, hagg, if_true, run_sizeOf_of hs, hl2]
  · rename_i a
    obtain ⟨v, hr, hk⟩ := h
    refine ⟨.val v, fun w hA => ?_, hk⟩
    simp only [Instr.loadAt, Instr.sureAddr, SV.den, Sem.run_bind, Sem.run_pure, Result.andThen_ok]
    exact hr w hA
  · exact h.elim
theorem loadV_out (hT : TabOK P T) {t : TypeId} {p : SV} (h : loadV P T M H t p K) (hA : A M H w) : ∃ v : SV, (Instr.loadAt t p.den).run P w = .ok v.den w ∧ After K v w := by
  obtain ⟨v, hr, hk⟩ := loadV_all hT h
  exact ⟨v, hr w hA, M, H, hk, hA⟩
theorem setRow_of_cell {w : World} {g off : Nat} {cs : Array Value} {t : TypeId} {v : Value} (h : w.heap[g]? = some (.cells cs t (0, 0))) : w.setCell ⟨g, off, none⟩ v = w.setRow g (cs.setIfInBounds off v) :=
  setCell_eq_setRow w g off cs t (0, 0) v h
theorem store_one (hT : TabOK P T) {t : TypeId} {d : TD} {v : SV} {i off : Nat} {kb : KB} {cs : List SV} (hd : Tab.find T t = some d) (hagg : d.agg = false) (hkb : M.find i = some kb) (hs : setN kb.cs off v = some cs) (h1 : v.den.oneCell' = true) (hA : A M H w) (hk : updK M i cs fun M' => K (.val undef) M' H) :
    ∃ w' : World, (storeVar t ⟨kb.g, off, none⟩ v.den).run P w = .ok () w' ∧ After K (.val undef) w' := by
  have hf := hT.fits hd
  have hb := hA.blk i kb hkb
  obtain ⟨hlt, rfl⟩ := setN_eq hs
  have hk := updK_eq hk
  refine ⟨_, ?_, _, _, hk, hA.setRow hkb _⟩
  have hc : w.cell? ⟨kb.g, off, none⟩ = some (kb.cs[off]'hlt).den := by
    rw [hb.cell]; simp [hlt]
  have hfz := hb.frozen off
  have hsz := run_sizeOf_of (TD.fits_size hf) w
  have hd1 : d.size = 1 := by cases d <;> first | rfl | (simp [TD.agg] at hagg)
  have hcells : v.den.cells = #[v.den] := by
    cases hv : v.den <;> first | rfl | (rw [hv] at h1; cases h1)
  have hst : (store ⟨kb.g, off, none⟩ v.den).run P w = .ok () (w.setCell ⟨kb.g, off, none⟩ v.den) := by
    rw [run_store P w _ _ _ h1]
    simp [hc, hfz]
  have e0 : (⟨kb.g, off, none⟩ : Addr).add 0 = ⟨kb.g, off, none⟩ := rfl
  have hrun : (storeVar t ⟨kb.g, off, none⟩ v.den).run P w = .ok () (w.setCell ⟨kb.g, off, none⟩ v.den) := by
    simp [storeVar, Sem.run_bind, hsz, hd1, hcells, storeCells, e0, hst]
  rw [hrun, setRow_of_cell hb.heap]
  simp [List.map_set]
theorem storeV_out (hT : TabOK P T) {t : TypeId} {p v : SV} (h : storeV T M H t p v K) (hA : A M H w) : ∃ w' : World, (Instr.storeAt t p.den v.den).run P w = .ok () w' ∧ After K (.val undef) w' := by
  unfold storeV at h
  split at h
  · exact h.elim
  rename_i d hd
  have hf := hT.fits hd
  split at h
  · rename_i i g off
    split at h
    · exact h.elim
    rename_i kb hkb
    have hb := hA.blk i kb hkb
    split at h
    · rename_i hagg
      obtain ⟨cs, hs, rfl, h1, hk⟩ := h
      obtain ⟨w', hr, hK⟩ := store_one hT hd hagg hkb hs h1 hA hk
      refine ⟨w', ?_, hK⟩
      simp only [Instr.storeAt, Instr.sureAddr, den_ptr, Sem.run_bind, Sem.run_pure, Result.andThen_ok]
      exact hr
    · rename_i hagg
      split at h
      · rename_i l
        obtain ⟨hsz, hoff, rfl, h1, hk⟩ := h
        have hoff := Nat.le_of_ble_eq_true hoff
        have hk := updK_eq hk
        refine ⟨_, ?_, _, _, hk, hA.setRow hkb _⟩
        have hst := run_storeCells_at (P := P) kb.g off kb.t l 0 (kb.cs.map SV.den).toArray w hb.heap (by simp; omega) (fun x hx => List.all_eq_true.1 h1 x hx)
        have hs2 := run_sizeOf_of (TD.fits_size hf) w
        simp only [Instr.storeAt, Instr.sureAddr, SV.den, Sem.run_bind, Sem.run_pure, Result.andThen_ok, storeVar, hs2, Value.cells, List.size_toArray, hsz]
        simp only [ne_eq, not_true_eq_false, if_false]
        rw [hst]
        congr 2
        rw [spliceS_eq]
        simp [hsz]
      · exact h.elim
  · split at h
    · rename_i hagg
      obtain ⟨i, kb, hkb, rfl, cs, hs, h1, hk⟩ := h
      obtain ⟨w', hr, hK⟩ := store_one hT hd hagg hkb hs h1 hA hk
      refine ⟨w', ?_, hK⟩
      simp only [Instr.storeAt, Instr.sureAddr, den_val, Sem.run_bind, Sem.run_pure, Result.andThen_ok]
      exact hr
    · exact h.elim
  · exact h.elim
theorem nth_map {α β : Type} (f : α → β) (l : List α) (n : Nat) {x : α} (h : nth l n = some x) : (l.map f)[n]? = some (f x) := by
  rw [nth_eq] at h; simp [h]
theorem fieldAddrV_all (hT : TabOK P T) {t : TypeId} {p : SV} {f : Nat} (h : fieldAddrV T M H t p f K) : ∃ v : SV, (∀ w, (Instr.fieldAt t p.den f).run P w = .ok v.den w) ∧ K v M H := by
  unfold fieldAddrV at h
  split at h
  · rename_i fs sz hd
    have hf := hT.fits hd
    split at h
    · rename_i o ft hnth
      obtain ⟨fields, hu, h3, h4, _⟩ := TD.fits_struct hf
      obtain ⟨fd, hfd, ho⟩ : ∃ fd : Field, fields.toList[f]? = some fd ∧ fd.offset = o := by
        rw [nth_eq, ← h3, List.getElem?_map, Option.map_eq_some_iff] at hnth
        obtain ⟨fd, h5, h6⟩ := hnth
        exact ⟨fd, h5, congrArg Prod.fst h6⟩
      have hfd' : fields[f]? = some fd := by simpa using hfd
      have hpos : ∃ n, sizeB P fd.type n = true ∧ 0 < n := by
        have := List.all_eq_true.1 h4 fd (List.mem_of_getElem? hfd)
        unfold sizePos at this
        split at this
        · rename_i i hi
          exact ⟨i.size, by simp [sizeB, hi], by simpa using this⟩
        · cases this
      obtain ⟨n, hn, hn0⟩ := hpos
      have key : ∀ (w : World) (b off : Nat), (Instr.fieldAt t (.pointer (some ⟨b, off, none⟩)) f).run P w = .ok (.pointer (some ⟨b, off + o, none⟩)) w := by
        intro w b off
        have hs := run_sizeOf_of hn w
        have hn1 : n ≠ 0 := by omega
        simp only [Instr.fieldAt, Instr.sureAddr, fieldPlace, Sem.run_bind, run_underlying hu, Result.andThen_ok, hfd', Sem.run_pure, hs, hn1, if_false, ho, Addr.add_mid]
      split at h
      · rename_i i g off
        exact ⟨.ptr i g (off + o), fun w => by rw [den_ptr, key]; rfl, h⟩
      · rename_i b off
        exact ⟨_, fun w => by rw [den_val, key]; rfl, h⟩
      · exact h.elim
    · exact h.elim
  · exact h.elim
theorem fieldAddrV_out (hT : TabOK P T) {t : TypeId} {p : SV} {f : Nat} (h : fieldAddrV T M H t p f K) (hA : A M H w) : ∃ v : SV, (Instr.fieldAt t p.den f).run P w = .ok v.den w ∧ After K v w := by
  obtain ⟨v, hr, hk⟩ := fieldAddrV_all hT h
  exact ⟨v, hr w, M, H, hk, hA⟩
theorem indexAddrV_all (hT : TabOK P T) {t : TypeId} {x ix : SV} (h : indexAddrV T M H t x ix K) : ∃ v : SV, (∀ w, (Instr.indexAt t x.den ix.den).run P w = .ok v.den w) ∧ K v M H := by
  unfold indexAddrV at h
  split at h
  · rename_i e es hd
    have hf := hT.fits hd
    obtain ⟨hu, hs⟩ := TD.fits_slice hf
    split at h
    · rename_i A' len cap k0 n
      obtain ⟨b, o, k, rfl, rfl, hk, hK⟩ := h
      refine ⟨_, fun w => ?_, hK⟩
      have hi : (0 : Int) ≤ (k : Int) ∧ (k : Int) < (len : Int) := ⟨by omega, by omega⟩
      simp only [den_val, Instr.indexAt, asIntOf, Sem.run_bind, Sem.run_pure, Result.andThen_ok, run_underlying hu, run_sizeOf_of hs, hi, and_self, if_true, Int.toNat_natCast, Addr.add_mid]
    · exact h.elim
  · rename_i len e es hd
    have hf := hT.fits hd
    obtain ⟨hu, hs⟩ := TD.fits_arr hf
    have key : ∀ (w : World) (b o k : Nat) (k0 : IntKind), k < len → (Instr.indexAt t (.pointer (some ⟨b, o, none⟩)) (.int k0 (k : Int))).run P w = .ok (.pointer (some ⟨b, o + k * es, none⟩)) w := by
      intro w b o k k0 hk
      have hi : (0 : Int) ≤ (k : Int) ∧ (k : Int) < (len : Int) := ⟨by omega, by omega⟩
      simp only [Instr.indexAt, Instr.sureAddr, asIntOf, Sem.run_bind, Sem.run_pure, Result.andThen_ok, run_underlying hu, run_sizeOf_of hs, hi, and_self, if_true, Int.toNat_natCast, Addr.add_mid]
    split at h
    · obtain ⟨k, rfl, hk, hK⟩ := h
      exact ⟨_, fun w => by rw [den_ptr, den_val, key w _ _ _ _ hk]; rfl, hK⟩
    · obtain ⟨k, rfl, hk, hK⟩ := h
      exact ⟨_, fun w => by rw [den_val, den_val, key w _ _ _ _ hk]; rfl, hK⟩
    · exact h.elim
  · exact h.elim
theorem indexAddrV_out (hT : TabOK P T) {t : TypeId} {x ix : SV} (h : indexAddrV T M H t x ix K) (hA : A M H w) : ∃ v : SV, (Instr.indexAt t x.den ix.den).run P w = .ok v.den w ∧ After K v w := by
  obtain ⟨v, hr, hk⟩ := indexAddrV_all hT h
  exact ⟨v, hr w, M, H, hk, hA⟩
theorem intBin_out {op : BinOp} {k k' : IntKind} {m n : Int} {t : TypeId} {xo yo : Operand} {K' : Value → Prop} (hk : (isShift op || Nat.beq (kid k) (kid k')) = true) (h : intBin op k m n K') :
    ∃ v : Value, (∀ w, (do eqGuard op t xo yo (.int k m) (.int k' n); binOp op t (.int k m) (.int k' n) : Sem Value).run P w = .ok v w) ∧ K' v := by
  have hg : ∀ w, (eqGuard op t xo yo (.int k m) (.int k' n)).run P w = .ok () w := by
    intro w; cases op <;> rfl
  cases op <;> simp only [isShift, Bool.false_or, Bool.true_or] at hk <;> first | (have hk := kid_inj hk; subst hk) | skip
  all_goals simp only [intBin] at h
  case quo => obtain ⟨h0, r, rfl, h⟩ := h; exact ⟨_, fun w => by simp [hg, binOp, Op.intDiv, h0], h⟩
  case rem => obtain ⟨h0, r, rfl, h⟩ := h; exact ⟨_, fun w => by simp [hg, binOp, Op.intDiv, h0], h⟩
  case shl => obtain ⟨h0, r, rfl, h⟩ := h; exact ⟨_, fun w => by simp [hg, binOp, Op.shift, show ¬ n < 0 by omega], h⟩
  case shr => obtain ⟨h0, r, rfl, h⟩ := h; exact ⟨_, fun w => by simp [hg, binOp, Op.shift, show ¬ n < 0 by omega], h⟩
  all_goals first
    | (obtain ⟨r, rfl, h⟩ := h; exact ⟨_, fun w => by simp [hg, binOp, Op.intArith, Op.intBits], h⟩)
    | exact ⟨_, fun w => by simp [hg, binOp, Op.intCmp], h⟩
theorem strBin_out {op : BinOp} {x y : ByteArray} {t : TypeId} {xo yo : Operand} {K' : Value → Prop} (h : strBin op x y K') :
    ∃ v : Value, (∀ w, (do eqGuard op t xo yo (.string x) (.string y); binOp op t (.string x) (.string y) : Sem Value).run P w = .ok v w) ∧ K' v := by
  have hg : ∀ w, (eqGuard op t xo yo (.string x) (.string y)).run P w = .ok () w := by
    intro w; cases op <;> rfl
  cases op <;> simp only [strBin] at h
  case add =>
    obtain ⟨h0, h⟩ := h
    have hle : ¬ ((x.size + y.size : Nat) : Int) > IntKind.i64.max := by
      have : IntKind.i64.max = 9223372036854775807 := by decide
      omega
    exact ⟨_, fun w => by simp [hg, binOp, Op.stringOp] at hle ⊢; omega, h⟩
  all_goals first
    | exact ⟨_, fun w => by simp [hg, binOp, Op.stringOp], h⟩
    | exact h.elim
theorem boolBin_out {op : BinOp} {x y : Bool} {t : TypeId} {xo yo : Operand} {K' : Value → Prop} (ht : P.underlying t = some .bool) (h : boolBin op x y K') :
    ∃ v : Value, (∀ w, (do eqGuard op t xo yo (.bool x) (.bool y); binOp op t (.bool x) (.bool y) : Sem Value).run P w = .ok v w) ∧ K' v := by
  have hg : ∀ w, (eqGuard op t xo yo (.bool x) (.bool y)).run P w = .ok () w := by
    intro w; cases op <;> rfl
  cases op <;> simp only [boolBin] at h <;> first
    | exact ⟨_, fun w => by simp [hg, binOp, run_equal_bool w t x y ht, bne], h⟩
    | exact h.elim
theorem eq_of {t : TypeId} {xo yo : Operand} {u v : Value} {b : Bool} (h : ∀ d, (Op.equalIn (d + 1) t u v).run P w = .ok b w) (hg : ∀ op, (eqGuard op t xo yo u v).run P w = .ok () w)
    (h1 : binOp .eql t u v = (do pure (.bool (← Op.equal t u v)))) (h2 : binOp .neq t u v = (do pure (.bool (!(← Op.equal t u v))))) :
    (do eqGuard .eql t xo yo u v; binOp .eql t u v : Sem Value).run P w = .ok (.bool b) w ∧ (do eqGuard .neq t xo yo u v; binOp .neq t u v : Sem Value).run P w = .ok (.bool (!b)) w := by
  have he : (Op.equal t u v).run P w = .ok b w := h 9999
  constructor
  · rw [Sem.run_bind, hg, Result.andThen_ok, h1, Sem.run_bind, he]; rfl
  · rw [Sem.run_bind, hg, Result.andThen_ok, h2, Sem.run_bind, he]; rfl
theorem nilCmp_out (hT : TabOK P T) {t : TypeId} {xo yo : Operand} {x y : SV} {b : Bool} (h : nilCmp T t yo x y = some b) (w : World) :
    (do eqGuard .eql t xo yo x.den y.den; binOp .eql t x.den y.den : Sem Value).run P w = .ok (.bool b) w ∧ (do eqGuard .neq t xo yo x.den y.den; binOp .neq t x.den y.den : Sem Value).run P w = .ok (.bool (!b)) w := by
  unfold nilCmp at h
  split at h
  · rename_i hd
    have hu : (∃ e, P.underlying t = some (.pointer e)) ∨ P.underlying t = some .unsafePointer := by
      have hf := hT.fits hd
      unfold TD.fitsB at hf
      simp only [Bool.and_eq_true] at hf
      obtain ⟨_, hf⟩ := hf
      cases hu : P.underlying t with
      | none => simp [hu] at hf
      | some d => cases d <;> simp_all
    rcases hu with ⟨e, hu⟩ | hu
    · split at h <;> first | (cases h; done) | (injection h with h; subst h; exact eq_of (fun d => by simp [Op.equalIn, run_underlying hu, SV.den]) (fun op => by cases op <;> simp [eqGuard, SV.den]) rfl rfl)
    · split at h <;> first | (cases h; done) | (injection h with h; subst h; exact eq_of (fun d => by simp [Op.equalIn, run_underlying hu, SV.den, samePointer]) (fun op => by cases op <;> simp [eqGuard, SV.den]) rfl rfl)
  · rename_i hd
    have hu : ∃ e, P.underlying t = some (.interface e) := by
      have hf := hT.fits hd
      unfold TD.fitsB at hf
      simp only [Bool.and_eq_true] at hf
      obtain ⟨_, hf⟩ := hf
      cases hu : P.underlying t with
      | none => simp [hu] at hf
      | some d => cases d <;> simp_all
    obtain ⟨e, hu⟩ := hu
    split at h
    · split at h <;> first | (cases h; done) | (injection h with h; subst h; exact eq_of (fun d => by simp [Op.equalIn, run_underlying hu, SV.den]) (fun op => by cases op <;> simp [eqGuard, SV.den]) rfl rfl)
    · cases h
  · rename_i hd
    have hu := (TD.fits_slice (hT.fits hd)).1
    split at h <;> first | (cases h; done) | (injection h with h; subst h; exact eq_of (fun d => by simp [Op.equalIn, run_underlying hu, SV.den]) (fun op => by cases op <;> simp [eqGuard, SV.den]) rfl rfl)
  · cases h
theorem binV_out (hT : TabOK P T) {op : BinOp} {t : TypeId} {xo yo : Operand} {x y : SV} (h : binV P T M H op t xo yo x y K) (hA : A M H w) :
    ∃ v : SV, (do eqGuard op t xo yo x.den y.den; binOp op t x.den y.den : Sem Value).run P w = .ok v.den w ∧ After K v w := by
  unfold binV at h
  split at h
  · rename_i k m k' n
    cases hk : (isShift op || Nat.beq (kid k) (kid k')) with
    | false => rw [hk] at h; exact h.elim
    | true =>
    rw [hk] at h
    have h : intBin op k m n fun v => K (.val v) M H := h
    obtain ⟨v, hr, hK⟩ := intBin_out (P := P) (t := t) (xo := xo) (yo := yo) hk h
    exact ⟨.val v, hr w, M, H, hK, hA⟩
  · obtain ⟨v, hr, hK⟩ := strBin_out (P := P) (t := t) (xo := xo) (yo := yo) h
    exact ⟨.val v, hr w, M, H, hK, hA⟩
  · split at h
    · rename_i hd
      obtain ⟨v, hr, hK⟩ := boolBin_out (P := P) (t := t) (xo := xo) (yo := yo) (TD.fits_bool (hT.fits hd)) h
      exact ⟨.val v, hr w, M, H, hK, hA⟩
    · exact h.elim
  · split at h
    · rename_i b hn
      exact ⟨.lit b, (nilCmp_out hT hn w).1, M, H, h, hA⟩
    · rename_i b hn
      exact ⟨.lit (!b), (nilCmp_out hT hn w).2, M, H, h, hA⟩
    · exact pureV_out h hA
theorem unV_out {op : UnOp} {x : SV} (h : unV P M H op x K) (hA : A M H w) : ∃ v : SV, (Op.unary op x.den).run P w = .ok v.den w ∧ After K v w := by
  unfold unV at h
  split at h
  · exact ⟨_, rfl, M, H, h, hA⟩
  · exact ⟨_, rfl, M, H, h, hA⟩
  · obtain ⟨r, rfl, h⟩ := h
    exact ⟨.val (.int _ _), rfl, M, H, h, hA⟩
  · obtain ⟨r, rfl, h⟩ := h
    exact ⟨_, rfl, M, H, h, hA⟩
  · exact pureV_out h hA
theorem convV_out (hT : TabOK P T) {src dst : TypeId} {x : SV} (h : convV P T M H src dst x K) (hA : A M H w) : ∃ (v : SV) (w' : World), (convert src dst x.den).run P w = .ok v.den w' ∧ After K v w' := by
  unfold convV at h
  split at h
  · rename_i d0 k k' n hd0 hd
    obtain ⟨r, rfl, h⟩ := h
    obtain ⟨ds, hds⟩ := TD.fits_some (hT.fits hd0)
    refine ⟨.val (.int k (k.wrap n)), w, ?_, M, H, h, hA⟩
    simp [convert, run_underlying hds, run_underlying (TD.fits_int (hT.fits hd)), Conv.intToInt, den_val]
  · exact memV_out h hA
  · obtain ⟨v, hr, h⟩ := pureV_out h hA
    exact ⟨v, w, hr, h⟩
theorem builtinV_out (hT : TabOK P T) {b : Builtin} {ats : Array TypeId} {ty : TypeId} {cs : Array Bool} {args : List Value} (h : builtinV P T M H b ats ty args K) (hA : A M H w) :
    ∃ (v : SV) (w' : World), (builtin b ats ty cs args.toArray).run P w = .ok (.value v.den) w' ∧ After K v w' := by
  have lift : ∀ {s : Sem Value} {v : SV} {w' : World}, s.run P w = .ok v.den w' → (do pure (.value (← s)) : Sem Next).run P w = .ok (.value v.den) w' := by
    intro s v w' hs
    rw [Sem.run_bind, hs]; rfl
  unfold builtinV at h
  split at h
  · split at h
    · rename_i e es he
      refine ⟨_, w, lift (s := Builtin.len_ ats ty _) ?_, M, H, h, hA⟩
      cases hat : ats[0]? with
      | none => simp [hat] at he
      | some t0 =>
        simp [hat] at he
        have hu := (TD.fits_slice (hT.fits he)).1
        simp [Builtin.len_, hat, run_underlying hu, goInt, den_val]
    · exact h.elim
  · split at h
    · rename_i he
      refine ⟨_, w, lift (s := Builtin.len_ ats ty _) ?_, M, H, h, hA⟩
      cases hat : ats[0]? with
      | none => simp [hat] at he
      | some t0 =>
        simp [hat] at he
        have hu := TD.fits_str (hT.fits he)
        simp [Builtin.len_, hat, run_underlying hu, goInt, den_val]
    · exact h.elim
  · obtain ⟨v, hr, hK⟩ := pureV_out h hA; exact ⟨v, w, lift hr, hK⟩
  · obtain ⟨v, w', hr, hK⟩ := memV_out h hA; exact ⟨v, w', lift hr, hK⟩
  · obtain ⟨v, w', hr, hK⟩ := memV_out h hA; exact ⟨v, w', lift hr, hK⟩
  · obtain ⟨v, w', hr, hK⟩ := memV_out h hA; exact ⟨v, w', lift hr, hK⟩
  · obtain ⟨r, rfl, h⟩ := h
    exact ⟨_, w, lift (run_min_int2 ..), M, H, h, hA⟩
  · obtain ⟨r, rfl, h⟩ := h
    exact ⟨_, w, lift (run_max_int2 ..), M, H, h, hA⟩
  · obtain ⟨v, hr, hK⟩ := pureV_out h hA; exact ⟨v, w, lift hr, hK⟩
  · obtain ⟨v, hr, hK⟩ := pureV_out h hA; exact ⟨v, w, lift hr, hK⟩
  · obtain ⟨v, hr, hK⟩ := pureV_out h hA; exact ⟨v, w, lift hr, hK⟩
  · exact h.elim
theorem boundV_out {lo : Option Value} {d : Nat} {K : Nat → Prop} (h : boundV lo d K) : ∃ k, (lo = none ∧ k = d ∨ ∃ j, lo = some (.int j k)) ∧ K k := by
  unfold boundV at h
  split at h
  · exact ⟨_, .inl ⟨rfl, rfl⟩, h⟩
  · obtain ⟨k, rfl, hk⟩ := h
    exact ⟨k, .inr ⟨_, rfl⟩, hk⟩
  · exact h.elim
theorem run_sliceBound {j : IntKind} {n y : Nat} {code : BoundsCode} (h : n ≤ y) (w : World) : (Instr.sliceBound (.int j (n : Int)) y code).run P w = .ok n w := by
  have h0 : (0 : Int) ≤ (n : Int) ∧ (n : Int) ≤ (y : Int) := ⟨by omega, by omega⟩
  simp only [Instr.sliceBound, asIntOf, Sem.run_bind, Sem.run_pure, Result.andThen_ok, h0, and_self, if_true, Int.toNat_natCast]
theorem run_sliceBounds {b : Bool} {len cap l h : Nat} {lo hi : Option Value} (hlo : lo = none ∧ l = 0 ∨ ∃ j, lo = some (.int j l)) (hhi : hi = none ∧ h = len ∨ ∃ j, hi = some (.int j h)) (h1 : l ≤ h) (h2 : h ≤ cap) (w : World) :
    (Instr.sliceBounds b len cap lo hi none).run P w = .ok (l, h, cap) w := by
  rcases hhi with ⟨rfl, rfl⟩ | ⟨j, rfl⟩ <;> rcases hlo with ⟨rfl, rfl⟩ | ⟨j', rfl⟩ <;>
    simp [Instr.sliceBounds, run_sliceBound h1, run_sliceBound h2]
theorem sliceV_all (hT : TabOK P T) {t : TypeId} {x : SV} {lo hi mx : Option Value} (h : sliceV P T M H t x lo hi mx K) : ∃ v : SV, (∀ w, A M H w → (Instr.sliceAt t x.den lo hi mx).run P w = .ok v.den w) ∧ K v M H := by
  unfold sliceV at h
  split at h
  · rename_i s
    split at h
    · rename_i hd
      have hu := TD.fits_str (hT.fits hd)
      obtain ⟨e, he, h⟩ := boundV_out h
      obtain ⟨l, hl, h1, h2, s', rfl, hk⟩ := boundV_out h
      refine ⟨_, fun w _ => ?_, hk⟩
      simp only [den_val]
      rw [run_sliceAt_string _ _ _ _ _ _ hu]
      simp [Instr.slice, run_underlying hu, run_sliceBounds hl he h1 h2]
    · exact h.elim
  · rename_i A0 len cap
    split at h
    · rename_i e0 es hd
      obtain ⟨hu, hs⟩ := TD.fits_slice (hT.fits hd)
      obtain ⟨e, he, h⟩ := boundV_out h
      obtain ⟨l, hl, h1, h2, v, rfl, hk⟩ := boundV_out h
      refine ⟨_, fun w _ => ?_, hk⟩
      simp only [den_val]
      have hu' : P.underlying t = some (.slice (P.elem t)) := by rw [hu]; simp [Program.elem, hu]
      rw [run_sliceAt_slice _ _ _ _ _ _ hu']
      simp [Instr.slice, run_underlying hu, run_sliceBounds hl he h1 h2, run_sizeOf_of hs]
    · exact h.elim
  · obtain ⟨v, hr, hk⟩ := h
    exact ⟨.val v, hr, hk⟩
theorem indexV_all (hT : TabOK P T) {t : TypeId} {x ix : SV} (h : indexV P T M H t x ix K) : ∃ v : SV, (∀ w, A M H w → (Instr.index t x.den ix.den).run P w = .ok v.den w) ∧ K v M H := by
  unfold indexV at h
  split at h
  · rename_i s k0 n hd
    have hu := TD.fits_str (hT.fits hd)
    obtain ⟨k, c, rfl, hc, hk⟩ := h
    refine ⟨_, fun w _ => ?_, hk⟩
    have hc' : s[k]? = some c := by
      have h1 : k < s.data.toList.length := (List.getElem?_eq_some_iff.1 hc).1
      have h2 : k < s.size := by simpa using h1
      rw [getElem?_pos s k h2]
      have h3 := (List.getElem?_eq_some_iff.1 hc).2
      simp only [Array.getElem_toList] at h3
      rw [← h3]; rfl
    simp [Instr.index, asIntOf, run_underlying hu, den_val, hc']
  · rename_i len e es l k0 n hd
    obtain ⟨hu, hs⟩ := TD.fits_arr (hT.fits hd)
    obtain ⟨k, rfl, hlt, h⟩ := h
    split at h
    · rename_i d hde
      have hi : (0 : Int) ≤ (k : Int) ∧ (k : Int) < (len : Int) := ⟨by omega, by omega⟩
      have hsd := TD.fits_size (hT.fits hde)
      have hes : d.size = es := by
        unfold sizeB at hs hsd
        split at hs
        · rename_i i hi'; rw [hi'] at hsd; simp at hs hsd; omega
        · cases hs
      split at h
      · rename_i ha
        obtain ⟨l', rfl, hk⟩ := h
        refine ⟨_, fun w _ => ?_, hk⟩
        simp only [Instr.index, den_val, asIntOf, Sem.run_bind, Sem.run_pure, Result.andThen_ok, run_underlying hu, hi, and_self, if_true, run_sizeOf_of hs, Int.toNat_natCast, part, TD.fits_agg (hT.fits hde), ha]
        simp [List.extract]
      · rename_i ha
        obtain ⟨v, hv, hk⟩ := h
        refine ⟨_, fun w _ => ?_, hk⟩
        simp only [Instr.index, den_val, asIntOf, Sem.run_bind, Sem.run_pure, Result.andThen_ok, run_underlying hu, hi, and_self, if_true, run_sizeOf_of hs, Int.toNat_natCast, part, TD.fits_agg (hT.fits hde), ha]
        simp [hv]
    · exact h.elim
  · obtain ⟨v, hr, hk⟩ := h
    exact ⟨.val v, hr, hk⟩
theorem fieldV_all (hT : TabOK P T) {t : TypeId} {x : SV} {f : Nat} (h : fieldV P T M H t x f K) : ∃ v : SV, (∀ w, A M H w → (Instr.field t x.den f).run P w = .ok v.den w) ∧ K v M H := by
  unfold fieldV at h
  split at h
  · rename_i fs sz l hd
    obtain ⟨fields, hu, hfs, _, _⟩ := TD.fits_struct (hT.fits hd)
    split at h
    · rename_i o ft hn
      rw [nth_eq] at hn
      rw [← hfs] at hn
      simp only [List.getElem?_map, Option.map_eq_some_iff] at hn
      obtain ⟨fl, hfl, he⟩ := hn
      injection he with he1 he2
      subst he1; subst he2
      have hfl' : fields[f]? = some fl := by simpa using hfl
      split at h
      · rename_i d hde
        have hsd := TD.fits_size (hT.fits hde)
        split at h
        · rename_i ha
          obtain ⟨l', rfl, hk⟩ := h
          refine ⟨_, fun w _ => ?_, hk⟩
          simp only [Instr.field, den_val, Sem.run_bind, Result.andThen_ok, run_underlying hu, hfl', part, TD.fits_agg (hT.fits hde), ha]
          simp [asAgg, run_sizeOf_of hsd, List.extract]
        · rename_i ha
          obtain ⟨v, hv, hk⟩ := h
          rw [nth_eq] at hv
          refine ⟨_, fun w _ => ?_, hk⟩
          simp only [Instr.field, den_val, Sem.run_bind, Result.andThen_ok, run_underlying hu, hfl', part, TD.fits_agg (hT.fits hde), ha]
          simp [asAgg, hv]
      · exact h.elim
    · exact h.elim
  · obtain ⟨v, hr, hk⟩ := h
    exact ⟨.val v, hr, hk⟩
theorem all_out {s : Sem Value} (h : ∃ v : SV, (∀ w, A M H w → s.run P w = .ok v.den w) ∧ K v M H) (hA : A M H w) : ∃ v : SV, s.run P w = .ok v.den w ∧ After K v w := by
  obtain ⟨v, hr, hk⟩ := h
  exact ⟨v, hr w hA, M, H, hk, hA⟩
theorem toArray_map {α β : Type} (f : α → β) (l : Array α) : (l.toList.map f).toArray = l.map f := by rw [← List.map_toArray, Array.toArray_toList]
theorem nilCheckV_out {x : SV} (h : nilCheckV M H x K) (hA : A M H w) {o : Oper} {y : Operand} (ho : o.op = .nilCheck y) (hy : a.eval y = x.den) : Yld P o a w (After K) := by
  unfold nilCheckV at h
  split at h <;> first | (refine .inl ⟨_, w, ?_, M, H, h, hA⟩; simp [execOp, ho, hy, SV.den]; done) | exact h.elim
theorem callsV_out {ents : List FuncId} (hents : ∀ f ∈ ents, ∀ args w, (callFunc f args).run P w = .ok (.enter f args) w) {f : SV} {args : List Value} (h : callsV P M H ents f args K) (hA : A M H w)
    {o : Oper} {c : Call} {y : Operand} (ho : o.op = .call c) (hc : c.callee = .value y) (hy : a.eval y = f.den) (hargs : args = c.args.toList.map a.eval) : Yld P o a w (After K) := by
  unfold callsV at h
  split at h
  · rename_i f first captured
    have hres : (execOp a.eval o).run P w = (callFunc f ((first ++ args.toArray) ++ captured)).run P w := by
      have hmap : args.toArray = c.args.map a.eval := by rw [hargs, toArray_map]
      rw [hmap]
      simp [execOp, ho, resolve, hc, hy, SV.den, Deferred.ofValue, invoke]
    split at h
    · rename_i he
      have he' : f ∈ ents := by simpa using he
      refine .inr (.inr ⟨f, _, w, by rw [hres]; exact hents f he' _ w, (h w hA).mono ?_⟩)
      rintro e w' ⟨sv, M', H', rfl, hA', hK⟩
      exact ⟨sv, rfl, M', H', hK, hA'⟩
    · obtain ⟨sv, w', M', H', hr, hA', hK⟩ := h w hA
      exact .inl ⟨sv, w', by rw [hres]; exact hr, M', H', hK, hA'⟩
  · exact h.elim
theorem flat_app (l r : List Value) : flat.app l r = l ++ r := by
  induction l with
  | nil => rfl
  | cons x l ih => simp [flat.app, ih]
theorem flat_eq (ls : List (List Value)) : flat ls = ls.flatten := by
  induction ls with
  | nil => rfl
  | cons l ls ih => simp [flat, flat_app, ih]
theorem cutBy_tk (n : Nat) (l : List Value) : cutBy.tk n l = l.take n := by
  induction n generalizing l with
  | zero => cases l <;> rfl
  | succ n ih => cases l <;> simp [cutBy.tk, ih]
theorem cutBy_dp (n : Nat) (l : List Value) : cutBy.dp n l = l.drop n := by
  induction n generalizing l with
  | zero => cases l <;> rfl
  | succ n ih => cases l <;> simp [cutBy.dp, ih]
theorem cutBy_flat : ∀ (ns : List Nat) (z : List Value), z.length = ns.sum → (cutBy ns z).flatten = z ∧ (cutBy ns z).map List.length = ns
  | [], z, h => by simp at h; subst h; simp [cutBy]
  | n :: ns, z, h => by
    simp at h
    obtain ⟨h1, h2⟩ := cutBy_flat ns (z.drop n) (by simp; omega)
    simp only [cutBy, cutBy_tk, cutBy_dp, List.flatten_cons, h1, List.take_append_drop, List.map_cons, h2, List.length_take, true_and]
    congr 1
    omega
theorem splice_flat : ∀ (segs : List (List Value)) (i : Nat) (c : List Value) (s : List Value), segs[i]? = some s → c.length = s.length →
    (segs.set i c).flatten = segs.flatten.take ((segs.map List.length).take i).sum ++ c ++ segs.flatten.drop (((segs.map List.length).take i).sum + c.length)
  | [], i, c, s, h, _ => by simp at h
  | l :: ls, 0, c, s, h, hc => by
    simp at h; subst h
    simp [hc]
  | l :: ls, i + 1, c, s, h, hc => by
    simp at h
    have ih := splice_flat ls i c s h hc
    simp only [List.set_cons_succ, List.flatten_cons, ih, List.map_cons, List.take_succ_cons, List.sum_cons, List.take_append, List.drop_append]
    have e1 : l.take (l.length + ((ls.map List.length).take i).sum) = l := List.take_of_length_le (by omega)
    have e2 : l.drop (l.length + ((ls.map List.length).take i).sum + c.length) = [] := List.drop_of_length_le (by omega)
    rw [e1, e2]
    simp [show l.length + ((ls.map List.length).take i).sum - l.length = ((ls.map List.length).take i).sum by omega, show l.length + ((ls.map List.length).take i).sum + c.length - l.length = ((ls.map List.length).take i).sum + c.length by omega]
theorem fold_splice (off : Nat) : ∀ (vs : List Value) (j : Nat) (cs : Array Value), off + j + vs.length ≤ cs.size →
    (vs.zipIdx j).foldl (fun cs (c, j) => cs.setIfInBounds (off + j) c) cs = (cs.toList.take (off + j) ++ vs ++ cs.toList.drop (off + j + vs.length)).toArray
  | [], j, cs, _ => by simp
  | v :: vs, j, cs, h => by
    simp only [List.zipIdx_cons, List.foldl_cons]
    rw [fold_splice off vs (j + 1) _ (by simp at h ⊢; omega)]
    simp at h
    congr 1
    apply List.ext_getElem?
    intro k
    simp only [Array.toList_setIfInBounds, List.getElem?_append, List.length_take, List.length_set, Array.length_toList, List.getElem?_take, List.getElem?_set, List.getElem?_drop, List.length_append, List.length_cons]
    by_cases h1 : k < off + j
    · simp [h1, show k < off + (j + 1) by omega, show min (off + (j + 1)) cs.size = off + (j + 1) by omega, show min (off + j) cs.size = off + j by omega, show ¬ off + j = k by omega, show k < off + (j + 1) + vs.length by omega, show k < off + j + (vs.length + 1) by omega]
    · by_cases h2 : k = off + j
      · subst h2
        simp [show min (off + (j + 1)) cs.size = off + (j + 1) by omega, show min (off + j) cs.size = off + j by omega, show off + j < off + (j + 1) by omega, show off + j < cs.size by omega, show off + j < off + (j + 1) + vs.length by omega]
      · simp only [show min (off + (j + 1)) cs.size = off + (j + 1) by omega, show min (off + j) cs.size = off + j by omega, h1, if_false, show ¬ k < off + (j + 1) by omega]
        by_cases h3 : k < off + (j + 1) + vs.length
        · simp [h3, show k < off + j + (vs.length + 1) by omega, show k - (off + j) = (k - (off + (j + 1))) + 1 by omega]
        · simp [h3, show ¬ k < off + j + (vs.length + 1) by omega,
            show off + (j + 1) + vs.length + (k - (off + (j + 1) + vs.length)) = off + j + (vs.length + 1) + (k - (off + j + (vs.length + 1))) by omega]
          intro h'
          omega
theorem set_same {α : Type} {l : List α} {i : Nat} {x : α} (h : l[i]? = some x) : l.set i x = l := by
  apply List.ext_getElem?
  intro k
  rw [List.getElem?_set]
  by_cases e : i = k
  · subst e
    obtain ⟨h1, h2⟩ := List.getElem?_eq_some_iff.1 h
    simp [h1, h2]
  · simp [e]
theorem cellsL_eq (v : Value) : v.cells.toList = cellsL v := by
  cases v <;> rfl
theorem fill_segs {place : Nat → Option (Nat × Nat)} {ns : List Nat} (hp : ∀ i n, ns[i]? = some n → place i = some ((ns.take i).sum, n)) : ∀ (parts : List (Nat × Value)) (segs segs' : List (List Value)),
    segs.map List.length = ns → putSegs segs parts = some segs' → partsFit ns parts → Instr.fill place segs.flatten.toArray parts = some segs'.flatten.toArray
  | [], segs, segs', _, h, _ => by simp [putSegs] at h; subst h; simp [Instr.fill]
  | (i, v) :: parts, segs, segs', hns, h, hf => by
    simp only [putSegs] at h
    split at h
    · rename_i s1 hs1
      obtain ⟨hlt, rfl⟩ := setN_eq hs1
      obtain ⟨hn, hf⟩ := hf
      rw [nth_eq] at hn
      have hpl := hp i _ hn
      have hseg : segs[i]? = some (segs[i]'hlt) := List.getElem?_eq_getElem hlt
      have hlen : (cellsL v).length = (segs[i]'hlt).length := by
        rw [← hns, List.getElem?_map, hseg] at hn
        simpa using hn.symm
      have hsz : v.cells.size = (cellsL v).length := by rw [← cellsL_eq, Array.length_toList]
      have hsp := splice_flat segs i (cellsL v) _ hseg hlen
      have hbound : (ns.take i).sum + (cellsL v).length ≤ segs.flatten.length := by
        rw [List.length_flatten, hns]
        have h1 : ns = ns.take i ++ ns.drop i := (List.take_append_drop i ns).symm
        have h2 : ns.drop i = (cellsL v).length :: ns.drop (i + 1) := by
          have hi := (List.getElem?_eq_some_iff.1 hn)
          obtain ⟨hi1, hi2⟩ := hi
          rw [List.drop_eq_getElem_cons hi1, hi2]
        have h3 : ns.sum = (ns.take i).sum + (ns.drop i).sum := by rw [← List.sum_append, List.take_append_drop]
        rw [h3, h2, List.sum_cons]
        omega
      have ih := fill_segs hp parts (segs.set i (cellsL v)) segs' (by rw [List.map_set, hns, set_same hn]) h hf
      simp only [Instr.fill, hpl, hsz, ne_eq, not_true_eq_false, decide_false, Bool.false_or, List.size_toArray]
      rw [if_neg (by rw [List.length_flatten] at hbound; simp [List.length_flatten]; omega)]
      have hfold := fold_splice (ns.take i).sum v.cells.toList 0 segs.flatten.toArray (by rw [Array.length_toList, hsz]; simpa using hbound)
      have hz : Array.foldl (fun cs (x : Value × Nat) => cs.setIfInBounds ((ns.take i).sum + x.2) x.1) segs.flatten.toArray v.cells.zipIdx = (segs.set i (cellsL v)).flatten.toArray := by
        rw [← Array.foldl_toList, Array.toList_zipIdx]
        refine Eq.trans hfold ?_
        rw [cellsL_eq, hsp, hns]
        simp
      rw [show (Array.foldl (fun cs x => match x with | (c, j) => cs.setIfInBounds ((ns.take i).sum + j) c) segs.flatten.toArray v.cells.zipIdx) = _ from hz]
      exact ih
    · cases h
structure Seat (P : Program) (T : Tab) (ents : List FuncId) : Prop where
  tab : TabOK P T
  enters : ∀ f ∈ ents, ∀ args w, (callFunc f args).run P w = .ok (.enter f args) w
  mixed : P.follows .mixedOrders = true
theorem zip_map_eval {parts : List (Nat × Operand)} : (parts.map (·.1)).zip ((parts.map (·.2)).map a.eval) = parts.map fun x => (x.1, a.eval x.2) := by
  induction parts with
  | nil => rfl
  | cons x l ih => simp at ih ⊢; exact ih
theorem sizesOf_eq (hT : TabOK P T) : ∀ {fs : List (Nat × TypeId)} {ns : List Nat}, sizesOf T fs = some ns → fs.length = ns.length ∧ ∀ (i o t : Nat), fs[i]? = some (o, t) → ∃ n, ns[i]? = some n ∧ sizeB P t n = true
  | [], ns, h => by simp [sizesOf] at h; subst h; simp
  | (o, t) :: fs, ns, h => by
    simp only [sizesOf] at h
    split at h
    · rename_i d hd
      split at h
      · rename_i r hr
        obtain ⟨h1, h2⟩ := sizesOf_eq hT hr
        injection h with h; subst h
        refine ⟨by simp [h1], fun i o' t' hi => ?_⟩
        cases i with
        | zero => simp at hi; obtain ⟨rfl, rfl⟩ := hi; exact ⟨_, rfl, TD.fits_size (hT.fits hd)⟩
        | succ i => exact h2 i o' t' (by simpa using hi)
      · cases h
    · cases h
theorem contig_off {P : Program} : ∀ {fs : List (Nat × TypeId)} {ns : List Nat} {b : Nat}, contig P fs b = true → fs.length = ns.length → (∀ (i o t : Nat), fs[i]? = some (o, t) → ∃ n, ns[i]? = some n ∧ sizeB P t n = true) →
    ∀ (i o t : Nat), fs[i]? = some (o, t) → o = b + (ns.take i).sum
  | [], ns, b, _, _, _, i, o, t, hi => by simp at hi
  | (o0, t0) :: fs, [], b, _, hl, _, i, o, t, hi => by simp at hl
  | (o0, t0) :: fs, n0 :: ns, b, h, hl, hs, i, o, t, hi => by
    simp only [contig, Bool.and_eq_true, beq_iff_eq] at h
    obtain ⟨h1, h2⟩ := h
    cases hinfo : P.info? t0 with
    | none => simp [hinfo] at h2
    | some inf =>
      simp only [hinfo] at h2
      obtain ⟨n, hn, hsz⟩ := hs 0 o0 t0 rfl
      simp at hn; subst hn
      have hn0 : inf.size = n0 := by simpa [sizeB, hinfo] using hsz
      cases i with
      | zero => simp at hi; obtain ⟨rfl, rfl⟩ := hi; simp [h1]
      | succ i =>
        have := contig_off h2 (by simpa using hl) (fun i o t hi => by simpa using hs (i + 1) o t (by simpa using hi)) i o t (by simpa using hi)
        rw [this, hn0]; simp; omega
theorem mapM_sizes {P : Program} : ∀ {fs : List Field} {ns : List Nat}, fs.length = ns.length → (∀ (i : Nat) (f : Field), fs[i]? = some f → ∃ n, ns[i]? = some n ∧ sizeB P f.type n = true) →
    ∃ pl, fs.mapM (fun f => (P.info? f.type).map fun i => (f.offset, i.size)) = some pl ∧ pl = (fs.zip ns).map fun x => (x.1.offset, x.2)
  | [], [], _, _ => ⟨[], by simp, rfl⟩
  | [], _ :: _, h, _ => by simp at h
  | _ :: _, [], h, _ => by simp at h
  | f :: fs, n :: ns, h, hs => by
    obtain ⟨pl, h1, h2⟩ := mapM_sizes (by simpa using h) (fun i f hi => by simpa using hs (i + 1) f (by simpa using hi))
    obtain ⟨n', hn, hsz⟩ := hs 0 f rfl
    simp at hn; subst hn
    unfold sizeB at hsz
    split at hsz
    · rename_i inf hinf
      have hsz' : inf.size = n := by simpa using hsz
      exact ⟨(f.offset, n) :: pl, by simp [hinf, h1, hsz'], by simp [h2]⟩
    · cases hsz
theorem buildV_all (hT : TabOK P T) {t : TypeId} {parts : List (Nat × Value)} (h : buildV T M H t parts K) : ∃ v : SV, (∀ w, A M H w → (Instr.build t parts.toArray).run P w = .ok v.den w) ∧ K v M H := by
  unfold buildV at h
  split at h
  · rename_i z ns hz hns
    split at h
    · rename_i segs hlen hsegs
      have hlen := Nat.eq_of_beq_eq_true hlen
      obtain ⟨hfit, hK⟩ := h
      refine ⟨.val (.agg (flat segs).toArray), fun w _ => ?_, hK⟩
      obtain ⟨zv, hzv, hzc⟩ := hT.zero hz w
      have hzi : ∃ it, P.info? t = some it ∧ it.zero = some zv := by
        cases hi : P.info? t with
        | none => simp [zeroValue, typeInfo, hi, stuck] at hzv
        | some it =>
          cases hv : it.zero with
          | none => simp [zeroValue, typeInfo, hi, hv, unsupported] at hzv
          | some v => simp [zeroValue, typeInfo, hi, hv] at hzv; subst hzv; exact ⟨it, rfl, hv⟩
      obtain ⟨it, hit, hitz⟩ := hzi
      have hzcells : zv.cells = (z.map SV.den).toArray := by rw [← hzc]
      have core : ∀ (place : Nat → Option (Nat × Nat)), (∀ i n, ns[i]? = some n → place i = some ((ns.take i).sum, n)) →
          Instr.fill place (z.map SV.den).toArray parts = some (flat segs).toArray := by
        intro place hp
        obtain ⟨hc1, hc2⟩ := cutBy_flat ns (z.map SV.den) (by simpa using hlen)
        have := fill_segs hp parts _ segs hc2 hsegs hfit
        rw [hc1] at this
        rw [this, flat_eq]
      refine run_build w t parts.toArray _ ?_
      unfold cutsOf at hns
      split at hns
      · rename_i fs sz hd
        obtain ⟨fields, hu, h3, _, h5⟩ := TD.fits_struct (hT.fits hd)
        obtain ⟨h6, h7⟩ := sizesOf_eq hT hns
        have hoff := contig_off h5 h6 h7
        have hfield : ∀ (i : Nat) (f : Field), fields.toList[i]? = some f → fs[i]? = some (f.offset, f.type) := by
          intro i f hi; rw [← h3, List.getElem?_map, hi]; rfl
        obtain ⟨pl, h8, h9⟩ := mapM_sizes (P := P) (fs := fields.toList) (ns := ns) (by rw [← h6, ← h3, List.length_map]) (fun i f hi => h7 i _ _ (hfield i f hi))
        simp only [Program.built, hit, hu, hitz, h8, hzcells]
        refine core _ fun i n hn => ?_
        have hi : i < fields.toList.length := by
          have := (List.getElem?_eq_some_iff.1 hn).1
          rw [← h6, ← h3, List.length_map] at this
          exact this
        have hf := List.getElem?_eq_getElem hi
        have ho := hoff i _ _ (hfield i _ hf)
        subst h9
        have hz2 : (fields.toList.zip ns)[i]? = some (fields.toList[i], n) := List.getElem?_zip_eq_some.2 ⟨hf, hn⟩
        simp only [List.getElem?_toArray, List.getElem?_map, hz2, Option.map_some]
        rw [ho]; simp
      · rename_i n e es hd
        obtain ⟨hu, hs⟩ := TD.fits_arr (hT.fits hd)
        injection hns with hns
        subst hns
        unfold sizeB at hs
        split at hs
        · rename_i ie hie
          have hse : ie.size = es := by simpa using hs
          simp only [Program.built, hit, hu, hitz, hie, hzcells]
          refine core _ fun i m hm => ?_
          rw [List.getElem?_replicate] at hm
          split at hm
          · injection hm with hm
            subst hm
            rename_i hin
            rw [List.take_replicate, List.sum_replicate_nat, hse, Nat.min_eq_left (by omega)]
          · cases hm
        · cases hs
      · cases hns
    · exact h.elim
  · exact h.elim
theorem headK_eq : ∀ {n : Nat} {l : List Value} {K : List Value → List Value → Prop}, headK n l K → K (l.take n) (l.drop n)
  | 0, l, K, h => by simpa [headK] using h
  | n + 1, [], K, h => by simpa [headK] using h
  | n + 1, x :: l, K, h => by
    have h' : headK n l fun a b => K (x :: a) b := h
    simpa using headK_eq h'
theorem cutK_eq : ∀ {ns : List (Nat × Bool)} {z : List Value} {K : List Seg → Prop}, cutK ns z K → ∃ segs, K segs ∧ segs.map Seg.list = cutBy (ns.map Prod.fst) z
  | [], z, K, h => ⟨[], h, rfl⟩
  | (n, f) :: ns, z, K, h => by
    have h' : headK n z fun a b => cutK ns b fun r => K (.many a :: r) := h
    obtain ⟨segs, hk, he⟩ := cutK_eq (headK_eq h')
    refine ⟨_, hk, ?_⟩
    simp [cutBy, he, cutBy_tk, cutBy_dp, Seg.list]
theorem appK_eq : ∀ {l r : List Value} {K : List Value → Prop}, appK l r K → K (l ++ r)
  | [], _, _, h => h
  | x :: l, _, K, h => appK_eq (l := l) (K := fun s => K (x :: s)) h
theorem flatK_eq : ∀ {s : List Seg} {K : List Value → Prop}, flatK s K → K (s.map Seg.list).flatten
  | [], K, h => h
  | .one v :: s, K, h => by
    have := flatK_eq (s := s) (K := fun r => K (v :: r)) h
    simpa [Seg.list] using this
  | .many l :: s, K, h => by
    have h1 := flatK_eq (s := s) (K := fun r => appK l r K) h
    have := appK_eq h1
    simpa [Seg.list] using this
  | .agg l :: s, K, h => by
    have := flatK_eq (s := s) (K := fun r => K (l ++ r)) h
    simpa [Seg.list] using this
theorem setN_map {α β : Type} (f : α → β) : ∀ {l : List α} {n : Nat} {v : α} {r : List α}, setN l n v = some r → setN (l.map f) n (f v) = some (r.map f)
  | [], _, _, _, h => by simp [setN] at h
  | x :: l, 0, v, r, h => by simp [setN] at h ⊢; subst h; simp
  | x :: l, n + 1, v, r, h => by
    simp only [setN] at h
    split at h
    · rename_i r' hr
      have := setN_map f hr
      injection h with h
      subst h
      simp [setN, this]
    · cases h
theorem putK_eq {ns : List (Nat × Bool)} : ∀ {parts : List (Nat × Value)} {segs segs' : List Seg}, putK' ns segs parts = some segs' → partsFitK ns parts →
    putSegs (segs.map Seg.list) parts = some (segs'.map Seg.list) ∧ partsFit (ns.map Prod.fst) parts
  | [], segs, segs', h, _ => by simp [putK'] at h; subst h; simp [putSegs, partsFit]
  | (i, v) :: r, segs, segs', h, hf => by
    simp only [putK'] at h
    obtain ⟨hf1, hf2⟩ := hf
    split at h
    · rename_i n f hn
      split at h
      · rename_i sg hsg
        split at h
        · rename_i s1 hs1
          obtain ⟨h1, h2⟩ := putK_eq h hf2
          have hcell : cellsL v = sg.list ∧ (cellsL v).length = n := by
            rw [hn] at hf1
            cases f with
            | false =>
              simp [segOf] at hsg; subst hsg
              have hf1 : (bif Nat.beq n 1 then cellsL v = [v] else False) := hf1
              cases hb : Nat.beq n 1 with
              | false => rw [hb] at hf1; exact hf1.elim
              | true =>
                rw [hb] at hf1
                have hf1 : cellsL v = [v] := hf1
                have hn1 := Nat.eq_of_beq_eq_true hb
                subst hn1
                exact ⟨hf1, by rw [hf1]; rfl⟩
            | true =>
              unfold segOf at hsg
              split at hsg
              · rename_i hft; cases hft
              · injection hsg with hsg; subst hsg; exact ⟨rfl, hf1⟩
              · cases hsg
          have hset := setN_map Seg.list hs1
          rw [← hcell.1] at hset
          refine ⟨by simp [putSegs, hset, h1], ?_, h2⟩
          rw [nth_eq] at hn ⊢
          simp [hn, hcell.2]
        · cases h
      · cases h
    · cases h
theorem flagsOf_sizes {T : Tab} : ∀ {fs : List (Nat × TypeId)} {ns : List (Nat × Bool)}, flagsOf T fs = some ns → sizesOf T fs = some (ns.map Prod.fst)
  | [], ns, h => by simp [flagsOf] at h; subst h; rfl
  | (o, t) :: fs, ns, h => by
    simp only [flagsOf] at h
    split at h
    · rename_i d hd
      split at h
      · rename_i r hr
        injection h with h
        subst h
        simp [sizesOf, hd, flagsOf_sizes hr]
      · cases h
    · cases h
theorem sumOf_eq : ∀ (ns : List (Nat × Bool)), sumOf ns = (ns.map Prod.fst).sum
  | [] => rfl
  | (n, _) :: l => by simp [sumOf, sumOf_eq l]
theorem buildK_all (hT : TabOK P T) {t : TypeId} {parts : List (Nat × Value)} (h : buildK T M H t parts K) : ∃ v : SV, (∀ w, A M H w → (Instr.build t parts.toArray).run P w = .ok v.den w) ∧ K v M H := by
  unfold buildK at h
  split at h
  · rename_i z ns hz hns
    split at h
    · rename_i hlen
      rw [denK_eq] at h
      obtain ⟨segs0, h, hs0⟩ := cutK_eq h
      split at h
      · rename_i segs hsegs
        obtain ⟨hfit, hK⟩ := h
        obtain ⟨h1, h2⟩ := putK_eq hsegs hfit
        have hK := flatK_eq hK
        refine buildV_all hT ?_
        have hns' : cutsOf T t = some (ns.map Prod.fst) := by
          unfold cutsOf
          split at hns
          · rename_i fs sz hd
            exact flagsOf_sizes hns
          · rename_i n e es hd
            split at hns
            · injection hns with hns; subst hns; simp
            · cases hns
          · cases hns
        unfold buildV
        rw [hz, hns']
        simp only [← sumOf_eq, hlen]
        rw [← hs0, h1]
        refine ⟨h2, ?_⟩
        rw [flat_eq]
        exact hK
      · exact h.elim
    · exact h.elim
  · exact h.elim
theorem repS_length (n : Nat) (z : List SV) : (repS n z).length = n * z.length := by
  induction n with
  | zero => simp [repS]
  | succ n ih => simp [repS, ih, Nat.succ_mul, Nat.add_comm]
theorem repS_get (z : List SV) (hz : 0 < z.length) : ∀ (n k : Nat), k < n * z.length → (repS n z)[k]? = z[k % z.length]?
  | 0, k, h => by omega
  | n + 1, k, h => by
    simp only [repS]
    by_cases hk : k < z.length
    · rw [List.getElem?_append_left hk, Nat.mod_eq_of_lt hk]
    · rw [List.getElem?_append_right (by omega), repS_get z hz n (k - z.length) (by rw [Nat.succ_mul] at h; omega)]
      congr 1
      exact (Nat.mod_eq_sub_mod (by omega)).symm
theorem repS_cells {n es : Nat} {z : List SV} {zc : Array Value} (hz : zc = (z.map SV.den).toArray) (hl : z.length = es) (h0 : 0 < es) :
    ((Array.range (n * es)).map (zc[· % zc.size]!)) = ((repS n z).map SV.den).toArray := by
  subst hz
  apply Array.ext
  · simp [repS_length, hl]
  · intro k h1 h2
    have hk : k < n * es := by simpa using h1
    have hlt : k % z.length < z.length := Nat.mod_lt _ (by omega)
    have hg := repS_get z (by omega) n k (by rw [hl]; exact hk)
    simp only [Array.getElem_map, Array.getElem_range, List.size_toArray, List.length_map, List.getElem_toArray]
    rw [List.getElem?_eq_getElem (by rw [repS_length, hl]; exact hk), List.getElem?_eq_getElem hlt] at hg
    injection hg with hg
    rw [List.getElem_map, hg, getElem!_pos _ _ (by simpa using hlt)]
    simp
theorem den_valmap (l : List Value) : (l.map SV.val).map SV.den = l := by
  rw [List.map_map, show (SV.den ∘ SV.val) = id from rfl]; simp
theorem buildSliceK_out (hT : TabOK P T) {t : TypeId} {n : Nat} {parts : List (Nat × Value)} (h : buildSliceK T M H t n parts K) (hA : A M H w) :
    ∃ (v : SV) (w' : World), (Instr.buildSlice t n parts.toArray).run P w = .ok v.den w' ∧ After K v w' := by
  unfold buildSliceK at h
  split at h
  · rename_i e es hd
    obtain ⟨hu, hs⟩ := TD.fits_slice (hT.fits hd)
    split at h
    · rename_i d z hde hz
      split at h
      · rename_i hl hle hpos
        have hl := Nat.eq_of_beq_eq_true hl
        have hle := Nat.le_of_ble_eq_true hle
        have hpos : 0 < n * es := by simpa [Nat.blt_eq] using hpos
        have hes : 0 < es := by
          rcases Nat.eq_zero_or_pos es with h0 | h0
          · subst h0; simp at hpos
          · exact h0
        rw [denK_eq] at h
        obtain ⟨segs0, h, hs0⟩ := cutK_eq h
        split at h
        · rename_i segs hsegs
          obtain ⟨hfit, hK⟩ := h
          obtain ⟨h1, h2⟩ := putK_eq hsegs hfit
          have hK := flatK_eq hK
          obtain ⟨zv, hzv, hzc⟩ := hT.zero hz w
          have hzcells : zv.cells = (z.map SV.den).toArray := by rw [← hzc]
          simp only [List.map_replicate] at hs0 h2
          obtain ⟨hc1, hc2⟩ := cutBy_flat (List.replicate n es) ((repS n z).map SV.den) (by simp [repS_length, hl])
          rw [hs0] at h1
          have hp : ∀ i m, (List.replicate n es)[i]? = some m → (fun i => some (i * es, es) : Nat → Option (Nat × Nat)) i = some (((List.replicate n es).take i).sum, m) := by
            intro i m hm
            rw [List.getElem?_replicate] at hm
            split at hm
            · injection hm with hm
              subst hm
              rw [List.take_replicate, List.sum_replicate_nat, Nat.min_eq_left (by omega)]
            · cases hm
          have hfill := fill_segs hp parts _ _ hc2 h1 h2
          rw [hc1] at hfill
          have hA' := hA.alloc (newId M) e ((segs.map Seg.list).flatten.map SV.val)
          rw [den_valmap] at hA'
          refine ⟨.val (.slice (some ⟨w.heap.size, 0, none⟩) n n), w.alloc (.cells (segs.map Seg.list).flatten.toArray e), ?_, _, H, hK w.heap.size hA.above, hA'⟩
          have hrs := repS_cells (n := n) hzcells hl hes
          have hne : ¬ (n * es = 0) := by omega
          have hng : ¬ (n * es > 2 ^ 24) := by omega
          have e1 : (fun i => some (i * es, es) : Nat → Option (Nat × Nat)) = fun i => some (i * es, es) := rfl
          simp only [Instr.buildSlice, Sem.run_bind, run_underlying hu, Result.andThen_ok, run_sizeOf_of hs, if_neg hne, if_neg hng, hzv, Sem.run_pure, hrs, hfill, newRow, den_val]
          simp
        · exact h.elim
      · exact h.elim
    · exact h.elim
  · exact h.elim
theorem buildSliceZ_out (hT : TabOK P T) {t : TypeId} {n : Nat} {parts : List (Nat × Value)} (h : buildSliceZ T M H t n parts K) (hA : A M H w) :
    ∃ (v : SV) (w' : World), (Instr.buildSlice t n parts.toArray).run P w = .ok v.den w' ∧ After K v w' := by
  unfold buildSliceZ at h
  split at h
  · split at h
    · rename_i e es hd
      obtain ⟨hu, hs⟩ := TD.fits_slice (hT.fits hd)
      have hA' := hA.alloc (newId M) e []
      refine ⟨.val (.slice (some ⟨w.heap.size, 0, none⟩) 0 0), w.alloc (.cells #[] e), ?_, _, H, h w.heap.size hA.above, hA'⟩
      simp only [Instr.buildSlice, Sem.run_bind, run_underlying hu, Result.andThen_ok, run_sizeOf_of hs, newRow]
      simp [Instr.fill, SV.den]
      rw [show Array.map (fun _ : Nat => (default : Value)) (Array.range 0) = #[] from Array.eq_empty_of_size_eq_zero (by simp)]
    · exact h.elim
  · exact buildSliceK_out hT h hA
  · exact buildSliceK_out hT h hA
theorem makeSliceV_out (hT : TabOK P T) {t : TypeId} {l c : SV} (h : makeSliceV P T M H t l c K) (hA : A M H w) :
    ∃ (v : SV) (w' : World), (Instr.makeSlice t l.den c.den).run P w = .ok v.den w' ∧ After K v w' := by
  unfold makeSliceV at h
  split at h
  · rename_i k1 n k2 m
    split at h
    · rename_i e es hd
      obtain ⟨hu, hs⟩ := TD.fits_slice (hT.fits hd)
      split at h
      · rename_i z hz
        split at h
        · rename_i hl hpos
          have hl := Nat.eq_of_beq_eq_true hl
          have hes : 0 < es := by simpa [Nat.blt_eq] using hpos
          obtain ⟨k, by_, rfl, rfl, hk, hby, hb, hK⟩ := h
          obtain ⟨zv, hzv, hzc⟩ := hT.zero hz w
          have hzcells : zv.cells = (z.map SV.den).toArray := by rw [← hzc]
          cases hi : P.info? e with
          | none => simp [hi] at hby
          | some it =>
            have hby' : it.bytes = by_ := by simpa [hi] using hby
            have hsz : it.size = es := by simpa [sizeB, hi] using hs
            have hit : it.zero = some zv := by
              cases hv : it.zero with
              | none => simp [zeroValue, typeInfo, hi, hv, unsupported] at hzv
              | some v => simp [zeroValue, typeInfo, hi, hv] at hzv; rw [hzv]
            have hbytes : (it.bytes : Int) * (k : Int) ≤ 281474976710656 := by
              rw [hby', ← Int.natCast_mul, Nat.mul_comm]; omega
            have hr := run_make (P := P) w t e it zv hu hi hit k1 k2 (k : Int) (k : Int) (by omega) (Int.le_refl _) hbytes (by omega)
            have hA' := hA.alloc (newId M) e (repS k z)
            refine ⟨.val (.slice (some ⟨w.heap.size, 0, none⟩) k k), _, ?_, _, H, hK w.heap.size hA.above, hA'⟩
            simp only [den_val]
            rw [hr]
            have hrs := repS_cells (n := k) hzcells hl hes
            simp only [madeCells, Int.toNat_natCast, hsz, hzcells] at hrs ⊢
            rw [hrs]
        · exact h.elim
      · exact h.elim
    · exact h.elim
  · exact memV_out h hA
set_option maxHeartbeats 1000000 in
theorem opV_ok {ents : List FuncId} (hS : Seat P T ents) {o : Oper} (h : opV P T E M H ents o K) (hs : Sat N E a) (hA : A M H w) : Yld P o a w (After K) := by
  obtain ⟨dst, op, ty, pos, after, guard⟩ := o
  cases op <;> simp only [opV] at h <;> try exact h.elim
  case move x =>
    obtain ⟨v, hv, h⟩ := withV_out h
    exact .inl ⟨v, w, by simp [execOp, hs.ev hv], M, H, h, hA⟩
  case assign x =>
    obtain ⟨v, hv, h⟩ := withV_out h
    exact .inl ⟨v, w, by simp [execOp, hs.ev hv], M, H, h, hA⟩
  case pick c x y =>
    obtain ⟨v, hv, h1⟩ := withV_out h
    obtain ⟨u, hu, h2⟩ := withV_out h1
    obtain ⟨z, hz, h3⟩ := withV_out h2
    clear h h1 h2
    cases v with
    | ptr => exact h3.elim
    | lit t =>
      cases t
      · exact .inl ⟨z, w, by simp [execOp, hs.ev hv, hs.ev hz, SV.den, asBool], M, H, h3, hA⟩
      · exact .inl ⟨u, w, by simp [execOp, hs.ev hv, hs.ev hu, SV.den, asBool], M, H, h3, hA⟩
    | val v =>
      cases v <;> try exact h3.elim
      rename_i t
      cases t
      · exact .inl ⟨z, w, by simp [execOp, hs.ev hv, hs.ev hz, SV.den, asBool], M, H, h3.2 rfl, hA⟩
      · exact .inl ⟨u, w, by simp [execOp, hs.ev hv, hs.ev hu, SV.den, asBool], M, H, h3.1 rfl, hA⟩
  case alloc t =>
    split at h
    · rename_i z hz
      obtain ⟨v, hv, hc⟩ := hS.tab.zero hz w
      have hA' := hA.alloc (newId M) t z
      refine Yld.val (sv := .ptr (newId M) w.heap.size 0) (w' := w.alloc (.cells (z.map SV.den).toArray t)) (Instr.alloc t true (.tuple #[])) rfl ?_ ⟨_, H, h w.heap.size hA.above, hA'⟩
      have hcells : v.cells = (z.map SV.den).toArray := by rw [← hc]
      simp [Instr.alloc, hv, newVar, newRow, den_ptr, hcells]
    · exact h.elim
  case box t x =>
    obtain ⟨v, hv, h⟩ := withV_out h
    have hA' := hA.alloc (newId M) t (cellsSV v)
    refine Yld.val (sv := .ptr (newId M) w.heap.size 0) (w' := w.alloc (.cells ((cellsSV v).map SV.den).toArray t)) (Instr.box t (a.eval x)) rfl ?_ ⟨_, H, h w.heap.size hA.above, hA'⟩
    have hcells : v.den.cells = ((cellsSV v).map SV.den).toArray := by rw [← cellsSV_den]
    simp [Instr.box, newVar, newRow, den_ptr, hs.ev hv, hcells]
  case build t parts =>
    have h := withVs_out hs h
    rw [zip_map_eval] at h
    obtain ⟨v, hr, hK⟩ := all_out (buildK_all hS.tab h) hA
    rw [toArray_map] at hr
    exact Yld.val _ rfl hr hK
  case buildSlice t n parts =>
    have h := withVs_out hs h
    rw [zip_map_eval] at h
    obtain ⟨v, w', hr, hK⟩ := buildSliceZ_out hS.tab h hA
    rw [toArray_map] at hr
    exact Yld.val _ rfl hr hK
  case load t x =>
    obtain ⟨p, hp, h⟩ := withV_out h
    obtain ⟨v, hr, hK⟩ := loadV_out hS.tab h hA
    exact Yld.val _ rfl (by rw [hs.ev hp]; exact hr) hK
  case store t x y =>
    obtain ⟨p, hp, h⟩ := withV_out h
    obtain ⟨v, hv, h⟩ := withV_out h
    obtain ⟨w', hr, hK⟩ := storeV_out hS.tab h hA
    exact Yld.unit _ rfl (by rw [hs.ev hp, hs.ev hv]; exact hr) hK
  case nilCheck x =>
    obtain ⟨v, hv, h⟩ := withV_out h
    exact nilCheckV_out h hA rfl (hs.ev hv)
  case binOp op t x y yt =>
    obtain ⟨u, hu, h⟩ := withV_out h
    obtain ⟨v, hv, h⟩ := withV_out h
    obtain ⟨r, hr, hK⟩ := binV_out hS.tab h hA
    exact Yld.val _ rfl (by rw [hs.ev hu, hs.ev hv]; exact hr) hK
  case unOp op t x =>
    obtain ⟨v, hv, h⟩ := withV_out h
    obtain ⟨r, hr, hK⟩ := unV_out h hA
    exact Yld.val _ rfl (by rw [hs.ev hv]; exact hr) hK
  case convert src d x =>
    obtain ⟨v, hv, h⟩ := withV_out h
    obtain ⟨r, w', hr, hK⟩ := convV_out hS.tab h hA
    exact Yld.val _ rfl (by rw [hs.ev hv]; exact hr) hK
  case makeInterface t x =>
    obtain ⟨v, hv, h⟩ := withV_out h
    obtain ⟨r, hr, hK⟩ := pureV_out h hA
    exact Yld.val _ rfl (by rw [hs.ev hv]; exact hr) hK
  case makeFunc fn first captured =>
    have h := withVs_out hs h
    have h := withVs_out hs h
    rw [toArray_map, toArray_map] at h
    exact .inl ⟨_, w, rfl, M, H, h, hA⟩
  case makeMap t r =>
    have h := withO_out hs h
    obtain ⟨v, w', hr, hK⟩ := memV_out h hA
    exact Yld.val _ rfl hr hK
  case makeSlice t l c =>
    obtain ⟨u, hu, h⟩ := withV_out h
    obtain ⟨v, hv, h⟩ := withV_out h
    obtain ⟨r, w', hr, hK⟩ := makeSliceV_out hS.tab h hA
    exact Yld.val _ rfl (by rw [hs.ev hu, hs.ev hv]; exact hr) hK
  case slice t x lo hi mx =>
    obtain ⟨v, hv, h⟩ := withV_out h
    have h := withO_out hs h
    have h := withO_out hs h
    have h := withO_out hs h
    obtain ⟨r, hr, hK⟩ := all_out (sliceV_all hS.tab h) hA
    exact Yld.val _ rfl (by rw [hs.ev hv]; exact hr) hK
  case fieldAddr t x f =>
    obtain ⟨p, hp, h⟩ := withV_out h
    obtain ⟨v, hr, hK⟩ := fieldAddrV_out hS.tab h hA
    exact Yld.val _ rfl (by rw [hs.ev hp]; exact hr) hK
  case field t x f =>
    obtain ⟨v, hv, h⟩ := withV_out h
    obtain ⟨r, hr, hK⟩ := all_out (fieldV_all hS.tab h) hA
    exact Yld.val _ rfl (by rw [hs.ev hv]; exact hr) hK
  case indexAddr t x ix =>
    obtain ⟨u, hu, h⟩ := withV_out h
    obtain ⟨v, hv, h⟩ := withV_out h
    obtain ⟨r, hr, hK⟩ := indexAddrV_out hS.tab h hA
    exact Yld.val _ rfl (by rw [hs.ev hu, hs.ev hv]; exact hr) hK
  case index t x ix =>
    obtain ⟨u, hu, h⟩ := withV_out h
    obtain ⟨v, hv, h⟩ := withV_out h
    obtain ⟨r, hr, hK⟩ := all_out (indexV_all hS.tab h) hA
    exact Yld.val _ rfl (by rw [hs.ev hu, hs.ev hv]; exact hr) hK
  case lookup t x ix ok =>
    obtain ⟨u, hu, h⟩ := withV_out h
    obtain ⟨v, hv, h⟩ := withV_out h
    obtain ⟨r, hr, hK⟩ := pureV_out h hA
    exact Yld.val _ rfl (by rw [hs.ev hu, hs.ev hv]; exact hr) hK
  case mapUpdate t m k x =>
    obtain ⟨u, hu, h⟩ := withV_out h
    obtain ⟨v, hv, h⟩ := withV_out h
    obtain ⟨z, hz, h⟩ := withV_out h
    obtain ⟨w', hr, hK⟩ := memU_out h hA
    exact Yld.unit _ rfl (by rw [hs.ev hu, hs.ev hv, hs.ev hz]; exact hr) hK
  case insert t m k x =>
    obtain ⟨u, hu, h⟩ := withV_out h
    obtain ⟨v, hv, h⟩ := withV_out h
    obtain ⟨z, hz, h⟩ := withV_out h
    obtain ⟨w', hr, hK⟩ := memU_out h hA
    exact Yld.unit _ rfl (by rw [hs.ev hu, hs.ev hv, hs.ev hz]; exact hr) hK
  case mapEntry t m k =>
    obtain ⟨u, hu, h⟩ := withV_out h
    obtain ⟨v, hv, h⟩ := withV_out h
    obtain ⟨r, w', hr, hK⟩ := memV_out h hA
    exact Yld.val _ rfl (by rw [hs.ev hu, hs.ev hv]; exact hr) hK
  case entryStore t m s x =>
    obtain ⟨u, hu, h⟩ := withV_out h
    obtain ⟨v, hv, h⟩ := withV_out h
    obtain ⟨z, hz, h⟩ := withV_out h
    obtain ⟨w', hr, hK⟩ := memU_out h hA
    exact Yld.unit _ rfl (by rw [hs.ev hu, hs.ev hv, hs.ev hz]; exact hr) hK
  case range t x =>
    obtain ⟨u, hu, h⟩ := withV_out h
    obtain ⟨r, w', hr, hK⟩ := memV_out h hA
    exact Yld.val _ rfl (by rw [hs.ev hu]; exact hr) hK
  case next it s =>
    obtain ⟨u, hu, h⟩ := withV_out h
    obtain ⟨r, w', hr, hK⟩ := memV_out h hA
    exact Yld.val _ rfl (by rw [hs.ev hu]; exact hr) hK
  case entry it =>
    obtain ⟨u, hu, h⟩ := withV_out h
    obtain ⟨r, w', hr, hK⟩ := memV_out h hA
    exact Yld.val _ rfl (by rw [hs.ev hu]; exact hr) hK
  case typeAssert x t u ok =>
    obtain ⟨u, hu, h⟩ := withV_out h
    obtain ⟨r, hr, hK⟩ := pureV_out h hA
    exact Yld.val _ rfl (by rw [hs.ev hu]; exact hr) hK
  case extract x i =>
    obtain ⟨u, hu, h⟩ := withV_out h
    split at h
    · obtain ⟨v, hv, hK⟩ := h
      refine Yld.val (sv := .val v) _ rfl (w' := w) ?_ ⟨M, H, hK, hA⟩
      rw [hs.ev hu]
      simp [Instr.extract, den_val, hv]
    · exact h.elim
  case call c =>
    split at h
    · rename_i b hc
      have h := withVs_out hs h
      obtain ⟨v, w', hr, hK⟩ := builtinV_out hS.tab (cs := c.args.map fun | .const _ => true | _ => false) h hA
      refine .inl ⟨v, w', ?_, hK⟩
      rw [toArray_map] at hr
      simp only [execOp, resolve, hc, Sem.run_bind, Sem.run_pure, Result.andThen_ok, invoke]
      exact hr
    · rename_i f hc
      obtain ⟨v, hv, h⟩ := withV_out h
      have h := withVs_out hs h
      exact callsV_out hS.enters h hA rfl hc (hs.ev hv) rfl
    · exact h.elim
theorem keepsC_out (hA : A M H w) : ∀ {C0 : List (Nat × Nat × Nat × SV)} {X : Prop}, keepsC C0 M X → CellsOK C0 w ∧ X
  | [], _, h => ⟨fun _ hc => (nomatch hc), h⟩
  | (i, g, off, v) :: r, _, h => by
    obtain ⟨⟨kb, hi, rfl, hv⟩, h⟩ := h
    obtain ⟨h1, h2⟩ := keepsC_out hA h
    refine ⟨fun c hc => ?_, h2⟩
    rcases List.mem_cons.1 hc with rfl | hc
    · show w.cell? ⟨kb.g, off, none⟩ = some v.den
      rw [(hA.blk i kb hi).cell]
      rw [nth_eq] at hv
      simp [hv]
    · exact h1 c hc
theorem CellsOK.drew {C0 : List (Nat × Nat × Nat × SV)} {w : World} (h : CellsOK C0 w) : CellsOK C0 { w with drawn := w.drawn + 1 } := h
theorem quietV_out (hT : TabOK P T) {C0 : List (Nat × Nat × Nat × SV)} {o : Oper} {K : SV → Prop} (h : quietV P T E M H C0 o K) (hs : Sat N E a) : ∃ sv : SV, (∀ w, A M H w ∧ CellsOK C0 w → (execOp a.eval o).run P w = .ok (.value sv.den) w) ∧ K sv := by
  suffices hx : ∃ sv : SV, (∀ w, A M H w ∧ CellsOK C0 w → (execOp a.eval o).run P w = .ok (.value sv.den) w) ∧ K sv from hx
  have up : (∃ sv : SV, (∀ w, (execOp a.eval o).run P w = .ok (.value sv.den) w) ∧ K sv) → ∃ sv : SV, (∀ w, A M H w ∧ CellsOK C0 w → (execOp a.eval o).run P w = .ok (.value sv.den) w) ∧ K sv :=
    fun ⟨sv, h1, h2⟩ => ⟨sv, fun w _ => h1 w, h2⟩
  obtain ⟨dst, op, ty, pos, after, guard⟩ := o
  cases op <;> simp only [quietV] at h <;> try exact h.elim
  case load t x =>
    obtain ⟨p, hp, h1⟩ := withV_out h
    clear h
    have fin : ∀ {v : SV} {w : World}, (Instr.loadAt t p.den).run P w = .ok v.den w → (execOp a.eval ⟨dst, .load t x, ty, pos, after, guard⟩).run P w = .ok (.value v.den) w := by
      intro v w hr
      rw [← hs.ev hp] at hr
      show (do pure (.value (← Instr.loadAt t (a.eval x))) : Sem Next).run P w = _
      rw [Sem.run_bind, hr]; rfl
    split at h1
    · rename_i i g off
      split at h1
      · rename_i d hd
        split at h1
        · rename_i hagg
          obtain ⟨v, hc, hk⟩ := h1
          refine ⟨v, fun w hA => fin ?_, hk⟩
          have hc := hc w hA.2
          simp [Instr.loadAt, Instr.sureAddr, SV.den, loadVar, TD.fits_agg (hT.fits hd), hagg, load, hc, Sem.run, Sem.run_bind]
        · exact h1.elim
      · exact h1.elim
    · obtain ⟨v, hr, hk⟩ := loadV_all hT h1
      exact ⟨v, fun w hA => fin (hr w hA.1), hk⟩
  case fieldAddr t x f =>
    obtain ⟨p, hp, h⟩ := withV_out h
    obtain ⟨v, hr, hk⟩ := fieldAddrV_all hT h
    refine ⟨v, fun w _ => ?_, hk⟩
    have := hr w
    rw [← hs.ev hp] at this
    show (do pure (.value (← Instr.fieldAt t (a.eval x) f)) : Sem Next).run P w = _
    rw [Sem.run_bind, this]; rfl
  case convert src dst x =>
    obtain ⟨v, hv, h1⟩ := withV_out h
    clear h
    split at h1
    · rename_i d0 k k' n hd0 hd
      obtain ⟨r, rfl, h⟩ := h1
      obtain ⟨ds, hds⟩ := TD.fits_some (hT.fits hd0)
      refine ⟨.val (.int k (k.wrap n)), fun w _ => ?_, h⟩
      have hc : (convert src dst (a.eval x)).run P w = .ok (.int k (k.wrap n)) w := by
        rw [hs.ev hv]
        simp [convert, run_underlying hds, run_underlying (TD.fits_int (hT.fits hd)), Conv.intToInt, den_val]
      show (do pure (.value (← convert src dst (a.eval x))) : Sem Next).run P w = _
      rw [Sem.run_bind, hc]; rfl
    · exact h1.elim
  case indexAddr t x ix =>
    obtain ⟨p, hp, h⟩ := withV_out h
    obtain ⟨i, hi, h⟩ := withV_out h
    obtain ⟨v, hr, hk⟩ := indexAddrV_all hT h
    refine ⟨v, fun w _ => ?_, hk⟩
    have := hr w
    rw [← hs.ev hp, ← hs.ev hi] at this
    show (do pure (.value (← Instr.indexAt t (a.eval x) (a.eval ix))) : Sem Next).run P w = _
    rw [Sem.run_bind, this]; rfl
  case slice t x lo hi mx =>
    obtain ⟨v, hv, h⟩ := withV_out h
    have h := withO_out hs h
    have h := withO_out hs h
    have h := withO_out hs h
    obtain ⟨r, hr, hk⟩ := sliceV_all hT h
    refine ⟨r, fun w hA => ?_, hk⟩
    have := hr w hA.1
    rw [← hs.ev hv] at this
    show (do pure (.value (← Instr.sliceAt t (a.eval x) (lo.map a.eval) (hi.map a.eval) (mx.map a.eval))) : Sem Next).run P w = _
    rw [Sem.run_bind, this]; rfl
  case index t x ix =>
    obtain ⟨v, hv, h⟩ := withV_out h
    obtain ⟨i, hi, h⟩ := withV_out h
    obtain ⟨r, hr, hk⟩ := indexV_all hT h
    refine ⟨r, fun w hA => ?_, hk⟩
    have := hr w hA.1
    rw [← hs.ev hv, ← hs.ev hi] at this
    show (do pure (.value (← Instr.index t (a.eval x) (a.eval ix))) : Sem Next).run P w = _
    rw [Sem.run_bind, this]; rfl
  case field t x f =>
    obtain ⟨v, hv, h⟩ := withV_out h
    obtain ⟨r, hr, hk⟩ := fieldV_all hT h
    refine ⟨r, fun w hA => ?_, hk⟩
    have := hr w hA.1
    rw [← hs.ev hv] at this
    show (do pure (.value (← Instr.field t (a.eval x) f)) : Sem Next).run P w = _
    rw [Sem.run_bind, this]; rfl
  case extract x i =>
    obtain ⟨u, hu, h1⟩ := withV_out h
    clear h
    split at h1
    · obtain ⟨v, hv, hK⟩ := h1
      refine ⟨.val v, fun w _ => ?_, hK⟩
      show (do pure (.value (← Instr.extract (a.eval x) i)) : Sem Next).run P w = _
      rw [Sem.run_bind, hs.ev hu]
      simp [Instr.extract, den_val, hv]
    · exact h1.elim
  case build t parts =>
    have h := withVs_out hs h
    rw [zip_map_eval] at h
    obtain ⟨v, hr, hK⟩ := buildK_all hT h
    refine ⟨v, fun w hA => ?_, hK⟩
    have := hr w hA.1
    rw [toArray_map] at this
    show (do pure (.value (← Instr.build t _)) : Sem Next).run P w = _
    rw [Sem.run_bind, this]; rfl
  case call c =>
    split at h
    · rename_i hc
      have h := withVs_out hs h
      have fin : ∀ {r : Value}, (∀ w, (builtin .len c.argTypes ty (c.args.map fun | .const _ => true | _ => false) (c.args.toList.map a.eval).toArray).run P w = .ok (.value r) w) →
          ∀ w, (execOp a.eval ⟨dst, .call c, ty, pos, after, guard⟩).run P w = .ok (.value r) w := by
        intro r hr w
        have := hr w
        rw [toArray_map] at this
        simp only [execOp, resolve, hc, Sem.run_bind, Sem.run_pure, Result.andThen_ok, invoke]
        exact this
      split at h
      · rename_i b n cap es hvs hd
        refine ⟨_, fun w _ => fin (fun w => ?_) w, h⟩
        rw [hvs]
        cases hat : c.argTypes[0]? with
        | none => simp [hat] at hd
        | some t0 =>
          simp [hat] at hd
          have hu := (TD.fits_slice (hT.fits hd)).1
          show (do pure (.value (← Builtin.len_ c.argTypes ty _)) : Sem Next).run P w = _
          simp [Builtin.len_, hat, run_underlying hu, goInt, den_val]
      · rename_i str hvs hd
        refine ⟨_, fun w _ => fin (fun w => ?_) w, h⟩
        rw [hvs]
        cases hat : c.argTypes[0]? with
        | none => simp [hat] at hd
        | some t0 =>
          simp [hat] at hd
          have hu := TD.fits_str (hT.fits hd)
          show (do pure (.value (← Builtin.len_ c.argTypes ty _)) : Sem Next).run P w = _
          simp [Builtin.len_, hat, run_underlying hu, goInt, den_val]
      · exact h.elim
    · exact h.elim
  case nilCheck x =>
    obtain ⟨v, hv, h⟩ := withV_out h
    unfold nilCheckV at h
    split at h <;> first | (refine ⟨_, fun w _ => ?_, h⟩; simp [execOp, hs.ev hv, SV.den]; done) | exact h.elim
  all_goals refine up ?_
  case move x =>
    obtain ⟨v, hv, h⟩ := withV_out h
    exact ⟨v, fun w => by simp [execOp, hs.ev hv], h⟩
  case assign x =>
    obtain ⟨v, hv, h⟩ := withV_out h
    exact ⟨v, fun w => by simp [execOp, hs.ev hv], h⟩
  case pick c x y =>
    obtain ⟨v, hv, h1⟩ := withV_out h
    obtain ⟨u, hu, h2⟩ := withV_out h1
    obtain ⟨z, hz, h3⟩ := withV_out h2
    clear h h1 h2
    cases v with
    | ptr => exact h3.elim
    | lit t =>
      cases t
      · exact ⟨z, fun w => by simp [execOp, hs.ev hv, hs.ev hz, SV.den, asBool], h3⟩
      · exact ⟨u, fun w => by simp [execOp, hs.ev hv, hs.ev hu, SV.den, asBool], h3⟩
    | val v =>
      cases v <;> try exact h3.elim
      rename_i t
      cases t
      · exact ⟨z, fun w => by simp [execOp, hs.ev hv, hs.ev hz, SV.den, asBool], h3.2 rfl⟩
      · exact ⟨u, fun w => by simp [execOp, hs.ev hv, hs.ev hu, SV.den, asBool], h3.1 rfl⟩
  case binOp op t x y yt =>
    obtain ⟨u, hu, h1⟩ := withV_out h
    obtain ⟨v, hv, h2⟩ := withV_out h1
    clear h h1
    have h := h2
    clear h2
    have fin : ∀ {r : Value}, (∀ w, (do eqGuard op t x y u.den v.den; Go.binOp op t u.den v.den : Sem Value).run P w = .ok r w) →
        ∀ w, (execOp a.eval ⟨dst, .binOp op t x y yt, ty, pos, after, guard⟩).run P w = .ok (.value r) w := by
      intro r hr w
      have := hr w
      rw [← hs.ev hu, ← hs.ev hv] at this
      show (do pure (.value (← (do eqGuard op t x y (a.eval x) (a.eval y); Go.binOp op t (a.eval x) (a.eval y)))) : Sem Next).run P w = _
      rw [Sem.run_bind, this]; rfl
    split at h
    · rename_i k m k' n
      cases hk : (isShift op || Nat.beq (kid k) (kid k')) with
      | false => rw [hk] at h; exact h.elim
      | true =>
      rw [hk] at h
      have h : intBin op k m n fun v => K (.val v) := h
      obtain ⟨v, hr, hK⟩ := intBin_out (P := P) (t := t) (xo := x) (yo := y) hk h
      exact ⟨.val v, fin hr, hK⟩
    · obtain ⟨v, hr, hK⟩ := strBin_out (P := P) (t := t) (xo := x) (yo := y) h
      exact ⟨.val v, fin hr, hK⟩
    · split at h
      · rename_i hd
        obtain ⟨v, hr, hK⟩ := boolBin_out (P := P) (t := t) (xo := x) (yo := y) (TD.fits_bool (hT.fits hd)) h
        exact ⟨.val v, fin hr, hK⟩
      · exact h.elim
    · split at h
      · rename_i b hn
        refine ⟨.lit b, fun w => ?_, h⟩
        have := (nilCmp_out hT (xo := x) hn w).1
        rw [← hs.ev hu, ← hs.ev hv] at this
        show (do pure (.value (← (do eqGuard .eql t x y (a.eval x) (a.eval y); Go.binOp .eql t (a.eval x) (a.eval y)))) : Sem Next).run P w = _
        rw [Sem.run_bind, this]; rfl
      · rename_i b hn
        refine ⟨.lit (!b), fun w => ?_, h⟩
        have := (nilCmp_out hT (xo := x) hn w).2
        rw [← hs.ev hu, ← hs.ev hv] at this
        show (do pure (.value (← (do eqGuard .neq t x y (a.eval x) (a.eval y); Go.binOp .neq t (a.eval x) (a.eval y)))) : Sem Next).run P w = _
        rw [Sem.run_bind, this]; rfl
      · exact h.elim
  case unOp op t x =>
    cases op <;> simp only at h <;> try exact h.elim
    · obtain ⟨v, hv, h1⟩ := withV_out h
      clear h
      split at h1
      · obtain ⟨r, rfl, h⟩ := h1
        exact ⟨.val (.int _ _), fun w => by rw [show execOp a.eval _ = (do pure (.value (← Op.unary .xor (a.eval x)))) from rfl, hs.ev hv]; rfl, h⟩
      · exact h1.elim
    · obtain ⟨v, hv, h1⟩ := withV_out h
      clear h
      split at h1
      · exact ⟨_, fun w => by rw [show execOp a.eval _ = (do pure (.value (← Op.unary .not (a.eval x)))) from rfl, hs.ev hv]; rfl, h1⟩
      · exact ⟨_, fun w => by rw [show execOp a.eval _ = (do pure (.value (← Op.unary .not (a.eval x)))) from rfl, hs.ev hv]; rfl, h1⟩
      · exact h1.elim
theorem ld1 (hT : TabOK P T) {t : TypeId} {d : TD} (hd : Tab.find T t = some d) (ha : d.agg = false) {w w' : World} {b o p j : Nat} {cs : List Value} {v : Value} (hr : w.rangeAt b o cs) (hj : cs[j]? = some v) (hp : p = o + j) (hb : Below w.heap.size w w') :
    (loadVar t ⟨b, p, none⟩).run P w' = .ok v w' := by
  subst hp
  have hr' := rangeAt_keep (w' := w') hr (fun h => hb.block b h)
  have hc := hr' j v hj
  simp [loadVar, TD.fits_agg (hT.fits hd), ha, load, hc, Sem.run, Sem.run_bind]
theorem ldn (hT : TabOK P T) {t : TypeId} {d : TD} (hd : Tab.find T t = some d) (ha : d.agg = true) {w w' : World} {b o : Nat} {cs : List Value} (hl : cs.length = d.size) (hr : w.rangeAt b o cs) (hb : Below w.heap.size w w') :
    (loadVar t ⟨b, o, none⟩).run P w' = .ok (.agg ⟨cs⟩) w' := by
  have hr' := rangeAt_keep (w' := w') hr (fun h => hb.block b h)
  have hl2 : (loadCells ⟨b, o, none⟩ cs.length).run P w' = .ok cs.toArray w' :=
    run_loadCells_list (P := P) w' ⟨b, o, none⟩ _ (fun j v hv => by rw [Addr.add_mid]; exact hr' j v hv)
  rw [hl] at hl2
  simp only [loadVar, Sem.run_bind, Sem.run_pure, Result.andThen_ok, TD.fits_agg (hT.fits hd), ha, if_true, run_sizeOf_of (TD.fits_size (hT.fits hd)), hl2]
theorem ldk (hT : TabOK P T) {t : TypeId} {d : TD} (hd : Tab.find T t = some d) (ha : d.agg = false) {i b p : Nat} {kb : KB} {v : Value} (hi : M.find i = some kb) (hg : kb.g = b) (hv : nth kb.cs p = some (.val v)) (hA : A M H w) :
    (loadVar t ⟨b, p, none⟩).run P w = .ok v w := by
  subst hg
  have hc : w.cell? ⟨kb.g, p, none⟩ = some v := by
    rw [(hA.blk i kb hi).cell]
    rw [nth_eq] at hv
    simp [hv, SV.den]
  simp [loadVar, TD.fits_agg (hT.fits hd), ha, load, hc, Sem.run, Sem.run_bind]
theorem nth_val {l : List Value} {n : Nat} {v : Value} (h : l[n]? = some v) : nth (l.map SV.val) n = some (.val v) := by
  rw [nth_eq]; simp [h]
end
end Go.Proofs.YtmeeeigfjlbnkaaGreat
namespace Go.Proofs.YtmeeeigfjlbnkaaGreat
open Go.RowKit
inductive MV where
  | int (k : IntKind) (n : Int)
  | bool (b : Bool)
  | str (s : List UInt8)
  | nilp
  | ptr (c es k fo : Nat) (path : List Nat)
  | gp (g off : Nat)
  | ep (v : MV) (fo : Nat) (path : List Nat)
  | sl (n : Nat) (l : List MV)
  | nils
  | ms (c es off n : Nat)
  | fn (f : FuncId) (caps : List MV)
  | nilf
  | nili
  | ifc (t : TypeId) (v : MV)
  | st (l : List MV)
  | arr (n es : Nat) (l : List MV)
  | tup (l : List MV)
  | mp (c : Nat)
  | mpv (ks vs : List MV)
  | undef
  deriving Inhabited
mutual
def MV.size : MV → Nat
  | .st l => MV.sizes l
  | .arr n es _ => n * es
  | .mpv .. => 0
  | _ => 1
def MV.sizes : List MV → Nat
  | [] => 0
  | m :: l => MV.size m + MV.sizes l
end
def MV.isAgg : MV → Bool
  | .st _ => true
  | .arr .. => true
  | _ => false
mutual
def MV.idFree : MV → Bool
  | .ptr .. => false
  | .ms .. => false
  | .fn _ l => MV.idFrees l
  | .ifc _ v => MV.idFree v
  | .st l => MV.idFrees l
  | .tup _ => false
  | .mp _ => false
  | .mpv .. => false
  | .undef => false
  | _ => true
def MV.idFrees : List MV → Bool
  | [] => true
  | m :: l => MV.idFree m && MV.idFrees l
end
def valM (m : MV) (cs : List Value) : Value := if m.isAgg then .agg ⟨cs⟩ else cs.headD undef
abbrev Adr := Nat → Option Nat
def noAdr : Adr := fun _ => none
abbrev Prot := Nat → Nat → Prop
inductive Rep (w : World) (P : Prot) : Adr → MV → List Value → Prop where
  | int {adr k n} : Rep w P adr (.int k n) [.int k n]
  | bool {adr b} : Rep w P adr (.bool b) [.bool b]
  | str {adr s} : Rep w P adr (.str s) [.string ⟨s.toArray⟩]
  | nilp {adr} : Rep w P adr .nilp [.pointer none]
  | ptr {adr c es k fo path} (g : Nat) (h : adr c = some g) : Rep w P adr (.ptr c es k fo path) [.pointer (some ⟨g, k * es + fo, none⟩)]
  | gp {adr g off} : Rep w P adr (.gp g off) [.pointer (some ⟨g, off, none⟩)]
  | ep {adr v fo path} (b o : Nat) (vs : List Value) (hc : ∀ (j : Nat) u, vs[j]? = some u → w.cell? ⟨b, o + j, none⟩ = some u ∧ P b (o + j)) (hr : Rep w P noAdr v vs) : Rep w P adr (.ep v fo path) [.pointer (some ⟨b, o + fo, none⟩)]
  | sl {adr n l} (A : Option Addr) (cap es : Nat) (parts : List (List Value)) (hl : l.length = n) (hp : parts.length = n) (hes : ∀ p ∈ parts, p.length = es) (hnn : A = none → n = 0 ∧ cap = 0) (hcap : n ≤ cap)
      (hc : n ≠ 0 → ∃ b o, A = some ⟨b, o, none⟩ ∧ ∀ (j : Nat) u, parts.flatten[j]? = some u → w.cell? ⟨b, o + j, none⟩ = some u ∧ P b (o + j))
      (hr : ∀ (j : Nat) m p, l[j]? = some m → parts[j]? = some p → Rep w P noAdr m p) : Rep w P adr (.sl n l) [.slice A n cap]
  | nils {adr} : Rep w P adr .nils [.slice none 0 0]
  | ms0 {adr c es} : Rep w P adr (.ms c es 0 0) [.slice none 0 0]
  | ms {adr c es off n} (g o cap : Nat) (h : adr c = some g) (ho : n ≠ 0 ∨ off = 0 → o = off * es) (hcap : n ≤ cap) (hcap2 : cap ≤ maxLen) (hsz : ∃ cur ty, w.heap[g]? = some (.cells cur ty (0, 0)) ∧ (off = 0 → cur.size = cap * es)) :
      Rep w P adr (.ms c es off n) [.slice (some ⟨g, o, none⟩) n cap]
  | fn {adr f caps} (parts : List (List Value)) (hp : parts.length = caps.length) (hr : ∀ (j : Nat) m p, caps[j]? = some m → parts[j]? = some p → Rep w P adr m p) : Rep w P adr (.fn f caps) [.func (.func f) #[] (List.zipWith valM caps parts).toArray]
  | nilf {adr} : Rep w P adr .nilf [.nilFunc]
  | mp {adr c} (g : Nat) (h : adr c = some g) : Rep w P adr (.mp c) [.map (some g)]
  | nili {adr} : Rep w P adr .nili [.nilIface]
  | ifc {adr t v} (cs : List Value) (hr : Rep w P adr v cs) : Rep w P adr (.ifc t v) [.iface t (valM v cs)]
  | st {adr l} (parts : List (List Value)) (hp : parts.length = l.length) (hr : ∀ (j : Nat) m p, l[j]? = some m → parts[j]? = some p → Rep w P adr m p) : Rep w P adr (.st l) parts.flatten
  | arr {adr n es l} (parts : List (List Value)) (hl : l.length = n) (hp : parts.length = n) (hes : ∀ p ∈ parts, p.length = es) (hr : ∀ (j : Nat) m p, l[j]? = some m → parts[j]? = some p → Rep w P noAdr m p) : Rep w P adr (.arr n es l) parts.flatten
inductive RepV (w : World) (P : Prot) (adr : Adr) : MV → Value → Prop where
  | val {m} (cs : List Value) (h : Rep w P adr m cs) : RepV w P adr m (valM m cs)
  | undef : RepV w P adr .undef undef
  | tup {l} (vs : List Value) (hl : vs.length = l.length) (h : ∀ (j : Nat) m u, l[j]? = some m → vs[j]? = some u → ∃ cs, Rep w P adr m cs ∧ u = valM m cs) : RepV w P adr (.tup l) (.tuple vs.toArray)
section
variable {w w' : World} {P P' : Prot} {adr adr' : Adr} {m : MV} {vs : List Value}
structure Keep (w w' : World) (P P' : Prot) (adr adr' : Adr) : Prop where
  prot : ∀ b o, P b o → P' b o
  cell : ∀ b o, P b o → w'.cell? ⟨b, o, none⟩ = w.cell? ⟨b, o, none⟩
  num : ∀ c g, adr c = some g → adr' c = some g
  size : ∀ c g cur ty, adr c = some g → w.heap[g]? = some (.cells cur ty (0, 0)) → ∃ cur', w'.heap[g]? = some (.cells cur' ty (0, 0)) ∧ cur'.size = cur.size
theorem Keep.refl (w : World) (P : Prot) (adr : Adr) : Keep w w P P adr adr := ⟨fun _ _ h => h, fun _ _ _ => rfl, fun _ _ h => h, fun _ _ cur _ _ h => ⟨cur, h, rfl⟩⟩
theorem Keep.free (h : Keep w w' P P' adr adr') : Keep w w' P P' noAdr noAdr := ⟨h.prot, h.cell, fun _ _ h => h, fun _ _ _ _ h => nomatch h⟩
theorem Keep.trans {w'' : World} {P'' : Prot} {adr'' : Adr} (h : Keep w w' P P' adr adr') (k : Keep w' w'' P' P'' adr' adr'') : Keep w w'' P P'' adr adr'' :=
  ⟨fun b o hp => k.prot b o (h.prot b o hp), fun b o hp => (k.cell b o (h.prot b o hp)).trans (h.cell b o hp), fun c g hc => k.num c g (h.num c g hc), fun c g cur ty hc hw => by
    obtain ⟨cur1, h1, h2⟩ := h.size c g cur ty hc hw
    obtain ⟨cur2, h3, h4⟩ := k.size c g cur1 ty (h.num c g hc) h1
    exact ⟨cur2, h3, h4.trans h2⟩⟩
theorem Rep.keep (h : Rep w P adr m vs) : ∀ {adr' : Adr}, Keep w w' P P' adr adr' → Rep w' P' adr' m vs := by
  induction h with
  | int => intro _ _; exact .int
  | bool => intro _ _; exact .bool
  | str => intro _ _; exact .str
  | nilp => intro _ _; exact .nilp
  | ptr g h => intro _ k; exact .ptr g (k.num _ _ h)
  | gp => intro _ _; exact .gp
  | ep b o vs hc hr ih => intro _ k; exact .ep b o vs (fun j u hj => ⟨(k.cell _ _ (hc j u hj).2).trans (hc j u hj).1, k.prot _ _ (hc j u hj).2⟩) (ih k.free)
  | sl A cap es parts hl hp hes hnn hcap hc hr ih =>
    intro _ k
    refine .sl A cap es parts hl hp hes hnn hcap (fun hn => ?_) (fun j m p h1 h2 => ih j m p h1 h2 k.free)
    obtain ⟨b, o, hA, hc⟩ := hc hn
    exact ⟨b, o, hA, fun j u hj => ⟨(k.cell _ _ (hc j u hj).2).trans (hc j u hj).1, k.prot _ _ (hc j u hj).2⟩⟩
  | nils => intro _ _; exact .nils
  | ms0 => intro _ _; exact .ms0
  | ms g o cap h ho hcap hcap2 hsz =>
    intro _ k
    obtain ⟨cur, ty, hw, hs⟩ := hsz
    obtain ⟨cur', hw', hs'⟩ := k.size _ _ _ _ h hw
    exact .ms g o cap (k.num _ _ h) ho hcap hcap2 ⟨cur', ty, hw', fun h0 => by rw [hs', hs h0]⟩
  | fn parts hp hr ih => intro _ k; exact .fn parts hp fun j m p h1 h2 => ih j m p h1 h2 k
  | nilf => intro _ _; exact .nilf
  | mp g h => intro _ k; exact .mp g (k.num _ _ h)
  | nili => intro _ _; exact .nili
  | ifc cs hr ih => intro _ k; exact .ifc cs (ih k)
  | st parts hp hr ih => intro _ k; exact .st parts hp fun j m p h1 h2 => ih j m p h1 h2 k
  | arr parts hl hp hes hr ih => intro _ k; exact .arr parts hl hp hes fun j m p h1 h2 => ih j m p h1 h2 k.free
theorem RepV.keep {v : Value} (h : RepV w P adr m v) (k : Keep w w' P P' adr adr') : RepV w' P' adr' m v := by
  cases h with
  | val cs h => exact .val cs (h.keep k)
  | undef => exact .undef
  | tup vs hl h => exact .tup vs hl fun j m u h1 h2 => by obtain ⟨cs, h3, h4⟩ := h j m u h1 h2; exact ⟨cs, h3.keep k, h4⟩
theorem flatten_const {es : Nat} : ∀ {parts : List (List Value)}, (∀ p ∈ parts, p.length = es) → parts.flatten.length = parts.length * es
  | [], _ => by simp
  | p :: parts, h => by
    rw [List.flatten_cons, List.length_append, h p (by simp), flatten_const fun q hq => h q (by simp [hq]), List.length_cons, Nat.succ_mul]
    omega
theorem sizes_eq : ∀ {l : List MV} {parts : List (List Value)}, parts.length = l.length → (∀ (j : Nat) m p, l[j]? = some m → parts[j]? = some p → p.length = m.size) → parts.flatten.length = MV.sizes l
  | [], [], _, _ => rfl
  | m :: l, p :: parts, hl, h => by
    rw [List.flatten_cons, List.length_append, h 0 m p rfl rfl, sizes_eq (by simpa using hl) fun j m p h1 h2 => h (j + 1) m p h1 h2]
    rfl
  | [], _ :: _, h, _ => by simp at h
  | _ :: _, [], h, _ => by simp at h
theorem Rep.size (h : Rep w P adr m vs) : vs.length = m.size := by
  induction h with
  | st parts hp hr ih => exact sizes_eq hp ih
  | arr parts hl hp hes hr ih => rw [flatten_const hes, hp]; rfl
  | _ => rfl
theorem Rep.scalar (h : Rep w P adr m vs) (ha : m.isAgg = false) : ∃ v, vs = [v] := by
  cases h <;> first | exact ⟨_, rfl⟩ | cases ha
theorem valM_cells (h : Rep w P adr m vs) : (valM m vs).cells.toList = vs := by
  unfold valM
  cases ha : m.isAgg with
  | true => rfl
  | false =>
    cases h <;> first | rfl | cases ha
theorem idFrees_get : ∀ {l : List MV}, MV.idFrees l = true → ∀ (j : Nat) m, l[j]? = some m → m.idFree = true
  | [], _, j, m, h => by simp at h
  | x :: l, h, j, m, hj => by
    have h : (x.idFree && MV.idFrees l) = true := h
    rw [Bool.and_eq_true] at h
    cases j with
    | zero => simp at hj; subst hj; exact h.1
    | succ j => exact idFrees_get h.2 j m (by simpa using hj)
theorem Rep.free (h : Rep w P adr m vs) : m.idFree = true → Rep w P noAdr m vs := by
  induction h with
  | int => intro _; exact .int
  | bool => intro _; exact .bool
  | str => intro _; exact .str
  | nilp => intro _; exact .nilp
  | ptr g h => intro h; cases h
  | gp => intro _; exact .gp
  | ep b o vs hc hr ih => intro _; exact .ep b o vs hc hr
  | sl A cap es parts hl hp hes hnn hcap hc hr ih => intro _; exact .sl A cap es parts hl hp hes hnn hcap hc hr
  | nils => intro _; exact .nils
  | ms0 => intro h; cases h
  | ms => intro h; cases h
  | fn parts hp hr ih => intro hf; exact .fn parts hp fun j m p h1 h2 => ih j m p h1 h2 (idFrees_get hf j m h1)
  | nilf => intro _; exact .nilf
  | mp g h => intro h; cases h
  | nili => intro _; exact .nili
  | ifc cs hr ih => intro hf; exact .ifc cs (ih hf)
  | st parts hp hr ih => intro hf; exact .st parts hp fun j m p h1 h2 => ih j m p h1 h2 (idFrees_get hf j m h1)
  | arr parts hl hp hes hr ih => intro _; exact .arr parts hl hp hes hr
theorem Rep.ofNone (h : Rep w P noAdr m vs) : Rep w P adr m vs := h.keep ⟨fun _ _ h => h, fun _ _ _ => rfl, fun _ _ h => (nomatch h), fun _ _ _ _ h => nomatch h⟩
theorem Rep.one (h : Rep w P adr m vs) : ∀ v ∈ vs, v.oneCell' = true := by
  induction h with
  | st parts hp hr ih =>
    intro v hv
    obtain ⟨p, hp1, hv⟩ := List.mem_flatten.1 hv
    obtain ⟨j, hj, rfl⟩ := List.mem_iff_getElem.1 hp1
    exact ih j _ _ (List.getElem?_eq_getElem (by omega)) (List.getElem?_eq_getElem hj) v hv
  | arr parts hl hp hes hr ih =>
    intro v hv
    obtain ⟨p, hp1, hv⟩ := List.mem_flatten.1 hv
    obtain ⟨j, hj, rfl⟩ := List.mem_iff_getElem.1 hp1
    exact ih j _ _ (List.getElem?_eq_getElem (by omega)) (List.getElem?_eq_getElem hj) v hv
  | _ => intro v hv; simp at hv; subst hv; rfl
end
end Go.Proofs.YtmeeeigfjlbnkaaGreat
namespace Go.Proofs.YtmeeeigfjlbnkaaGreat
open Go.RowKit
def nthM : List MV → Nat → Option MV
  | [], _ => none
  | x :: _, 0 => some x
  | _ :: l, n + 1 => nthM l n
theorem nthM_eq : ∀ (l : List MV) (n : Nat), nthM l n = l[n]?
  | [], _ => by simp [nthM]
  | x :: l, 0 => rfl
  | x :: l, n + 1 => by simp [nthM, nthM_eq l n]
def sizesTo : List MV → Nat → Nat
  | [], _ => 0
  | _, 0 => 0
  | m :: l, n + 1 => m.size + sizesTo l n
def getPO : MV → List Nat → Nat → Option MV
  | m, [], fo => bif Nat.beq fo 0 then some m else none
  | .st l, i :: p, fo => match nthM l i with
    | some m => bif Nat.ble (sizesTo l i) fo then getPO m p (fo - sizesTo l i) else none
    | none => none
  | .arr _ es l, i :: p, fo => match nthM l i with
    | some m => bif Nat.ble (i * es) fo then getPO m p (fo - i * es) else none
    | none => none
  | _, _ :: _, _ => none
def setL : List MV → Nat → MV → List MV
  | [], _, _ => []
  | _ :: l, 0, v => v :: l
  | x :: l, n + 1, v => x :: setL l n v
theorem setL_eq : ∀ (l : List MV) (n : Nat) (v : MV), setL l n v = l.set n v
  | [], _, _ => by simp [setL]
  | x :: l, 0, v => rfl
  | x :: l, n + 1, v => by simp [setL, setL_eq l n v]
def setPO : MV → List Nat → Nat → MV → Option MV
  | m, [], fo, v => bif Nat.beq fo 0 && Nat.beq v.size m.size then (match v.isAgg, m.isAgg with | true, true | false, false => some v | _, _ => none) else none
  | .st l, i :: p, fo, v => match nthM l i with
    | some m => bif Nat.ble (sizesTo l i) fo then (match setPO m p (fo - sizesTo l i) v with | some m' => some (.st (setL l i m')) | none => none) else none
    | none => none
  | .arr n es l, i :: p, fo, v => match nthM l i with
    | some m => bif Nat.ble (i * es) fo && v.idFree then (match setPO m p (fo - i * es) v with | some m' => some (.arr n es (setL l i m')) | none => none) else none
    | none => none
  | _, _ :: _, _, _ => none
section
variable {w w' : World} {P P' : Prot} {adr adr' : Adr} {m r v : MV} {vs cs : List Value}
theorem flatten_split : ∀ {parts : List (List Value)} {i : Nat} {p : List Value}, parts[i]? = some p → parts.flatten = (parts.take i).flatten ++ p ++ (parts.drop (i + 1)).flatten
  | q :: parts, 0, p, h => by simp at h; subst h; simp
  | q :: parts, i + 1, p, h => by
    have := flatten_split (parts := parts) (i := i) (p := p) (by simpa using h)
    simp only [List.flatten_cons, List.take_succ_cons, List.drop_succ_cons]
    rw [this]; simp
  | [], i, p, h => by simp at h
theorem flatten_set : ∀ {parts : List (List Value)} {i : Nat} {p q : List Value}, parts[i]? = some p → (parts.set i q).flatten = (parts.take i).flatten ++ q ++ (parts.drop (i + 1)).flatten
  | x :: parts, 0, p, q, h => by simp
  | x :: parts, i + 1, p, q, h => by
    have := flatten_set (parts := parts) (i := i) (p := p) (q := q) (by simpa using h)
    simp only [List.set_cons_succ, List.flatten_cons, List.take_succ_cons, List.drop_succ_cons]
    rw [this]; simp
  | [], i, p, q, h => by simp at h
theorem sizesTo_eq : ∀ {l : List MV} {parts : List (List Value)} {i : Nat}, parts.length = l.length → (∀ (j : Nat) m p, l[j]? = some m → parts[j]? = some p → p.length = m.size) → (parts.take i).flatten.length = sizesTo l i
  | [], [], i, _, _ => by cases i <;> rfl
  | m :: l, p :: parts, 0, _, _ => rfl
  | m :: l, p :: parts, i + 1, hl, h => by
    rw [List.take_succ_cons, List.flatten_cons, List.length_append, h 0 m p rfl rfl, sizesTo_eq (by simpa using hl) fun j m p h1 h2 => h (j + 1) m p h1 h2]
    rfl
  | [], _ :: _, _, h, _ => by simp at h
  | _ :: _, [], _, h, _ => by simp at h
theorem get_of_len {α β : Type} {l : List α} {parts : List β} (h : parts.length = l.length) {i : Nat} {m : α} (hm : l[i]? = some m) : ∃ p, parts[i]? = some p := by
  have := (List.getElem?_eq_some_iff.1 hm).1
  exact ⟨parts[i]'(by omega), List.getElem?_eq_getElem (by omega)⟩
theorem getPO_rep : ∀ {path : List Nat} {fo : Nat} {m : MV} {vs : List Value} {adr : Adr}, Rep w P adr m vs → getPO m path fo = some r → ∃ pre cs post, vs = pre ++ cs ++ post ∧ pre.length = fo ∧ Rep w P adr r cs
  | [], fo, m, vs, adr, h, hg => by
    have hg : (bif Nat.beq fo 0 then some m else none) = some r := by cases m <;> exact hg
    cases hb : Nat.beq fo 0 with
    | false => rw [hb] at hg; cases hg
    | true =>
      rw [hb] at hg
      have := Nat.eq_of_beq_eq_true hb
      injection hg with hg
      subst hg; subst this
      exact ⟨[], vs, [], by simp, rfl, h⟩
  | i :: p, fo, m, vs, adr, h, hg => by
    cases h with
    | st parts hp hr =>
      rename_i l
      simp only [getPO] at hg
      split at hg
      · rename_i m' hm
        rw [nthM_eq] at hm
        cases hb : Nat.ble (sizesTo l i) fo with
        | false => rw [hb] at hg; cases hg
        | true =>
          rw [hb] at hg
          have hle := Nat.le_of_ble_eq_true hb
          obtain ⟨q, hq⟩ := get_of_len hp hm
          obtain ⟨pre, cs, post, h1, h2, h3⟩ := getPO_rep (hr i m' q hm hq) hg
          have hs := sizesTo_eq (i := i) hp fun j m p h1 h2 => (hr j m p h1 h2).size
          refine ⟨(parts.take i).flatten ++ pre, cs, post ++ (parts.drop (i + 1)).flatten, ?_, ?_, h3⟩
          · rw [flatten_split hq, h1]; simp
          · rw [List.length_append, hs, h2]; omega
      · cases hg
    | arr parts hl hp hes hr =>
      rename_i n es l
      simp only [getPO] at hg
      split at hg
      · rename_i m' hm
        rw [nthM_eq] at hm
        cases hb : Nat.ble (i * es) fo with
        | false => rw [hb] at hg; cases hg
        | true =>
          rw [hb] at hg
          have hle := Nat.le_of_ble_eq_true hb
          obtain ⟨q, hq⟩ := get_of_len (hp.trans hl.symm) hm
          obtain ⟨pre, cs, post, h1, h2, h3⟩ := getPO_rep (hr i m' q hm hq) hg
          have hi := (List.getElem?_eq_some_iff.1 hq).1
          have hs : (parts.take i).flatten.length = i * es := by
            rw [flatten_const (es := es) fun x hx => hes x (List.mem_of_mem_take hx), List.length_take, Nat.min_eq_left (by omega)]
          refine ⟨(parts.take i).flatten ++ pre, cs, post ++ (parts.drop (i + 1)).flatten, ?_, ?_, h3.ofNone⟩
          · rw [flatten_split hq, h1]; simp
          · rw [List.length_append, hs, h2]; omega
      · cases hg
    | _ => simp [getPO] at hg
theorem getElem?_set' {α : Type} {l : List α} {i j : Nat} {x y : α} (h : (l.set i x)[j]? = some y) : (j = i ∧ y = x) ∨ (j ≠ i ∧ l[j]? = some y) := by
  rw [List.getElem?_set] at h
  split at h
  · rename_i e
    split at h
    · injection h with h; exact .inl ⟨e.symm, h.symm⟩
    · cases h
  · rename_i e; exact .inr ⟨fun h => e h.symm, h⟩
theorem setPO_rep : ∀ {path : List Nat} {fo : Nat} {m m' : MV} {vs : List Value} {adr : Adr}, Rep w P adr m vs → setPO m path fo v = some m' → Rep w P adr v cs →
    ∃ pre old post, vs = pre ++ old ++ post ∧ pre.length = fo ∧ old.length = cs.length ∧ Rep w P adr m' (pre ++ cs ++ post) ∧ m'.isAgg = m.isAgg ∧ (m.idFree = true → v.idFree = true → m'.idFree = true)
  | [], fo, m, m', vs, adr, h, hs, hv => by
    have hs2 : (bif Nat.beq fo 0 && Nat.beq v.size m.size then (match v.isAgg, m.isAgg with | true, true | false, false => some v | _, _ => none) else none) = some m' := by cases m <;> exact hs
    clear hs
    cases hb : (Nat.beq fo 0 && Nat.beq v.size m.size) with
    | false => rw [hb] at hs2; cases hs2
    | true =>
      rw [hb] at hs2
      rw [Bool.and_eq_true] at hb
      have h0 := Nat.eq_of_beq_eq_true hb.1
      have h1 := Nat.eq_of_beq_eq_true hb.2
      subst h0
      have hag : v = m' ∧ v.isAgg = m.isAgg := by
        have hs : (match v.isAgg, m.isAgg with | true, true | false, false => some v | _, _ => none) = some m' := hs2
        split at hs
        · rename_i e1 e2; injection hs with hs; exact ⟨hs, e1.trans e2.symm⟩
        · rename_i e1 e2; injection hs with hs; exact ⟨hs, e1.trans e2.symm⟩
        · cases hs
      obtain ⟨rfl, hag⟩ := hag
      exact ⟨[], vs, [], by simp, rfl, by rw [h.size, hv.size, h1], by simpa using hv, hag, fun _ h => h⟩
  | i :: p, fo, m, m', vs, adr, h, hs, hv => by
    cases h with
    | st parts hp hr =>
      rename_i l
      simp only [setPO] at hs
      split at hs
      · rename_i x hx
        rw [nthM_eq] at hx
        cases hb : Nat.ble (sizesTo l i) fo with
        | false => rw [hb] at hs; cases hs
        | true =>
          rw [hb] at hs
          have hle := Nat.le_of_ble_eq_true hb
          simp only [cond_true] at hs
          split at hs
          · rename_i x' hx'
            injection hs with hs
            subst hs
            obtain ⟨q, hq⟩ := get_of_len hp hx
            obtain ⟨pre, old, post, h1, h2, h3, h4, h5, h6⟩ := setPO_rep (hr i x q hx hq) hx' hv
            have hs := sizesTo_eq (i := i) hp fun j m p h1 h2 => (hr j m p h1 h2).size
            refine ⟨(parts.take i).flatten ++ pre, old, post ++ (parts.drop (i + 1)).flatten, ?_, ?_, h3, ?_, rfl, ?_⟩
            · rw [flatten_split hq, h1]; simp
            · rw [List.length_append, hs, h2]; omega
            · have e : (parts.take i).flatten ++ pre ++ cs ++ (post ++ (parts.drop (i + 1)).flatten) = (parts.set i (pre ++ cs ++ post)).flatten := by
                rw [flatten_set hq]; simp
              rw [e, setL_eq]
              refine .st _ (by simpa using hp) fun j y z hy hz => ?_
              rcases getElem?_set' hy with ⟨rfl, rfl⟩ | ⟨hne, hy⟩
              · rcases getElem?_set' hz with ⟨_, rfl⟩ | ⟨hne, _⟩
                · exact h4
                · exact absurd rfl hne
              · rcases getElem?_set' hz with ⟨rfl, _⟩ | ⟨_, hz⟩
                · exact absurd rfl hne
                · exact hr j y z hy hz
            · intro hf hvf
              have key : ∀ {l : List MV} {i : Nat}, MV.idFrees l = true → x'.idFree = true → MV.idFrees (setL l i x') = true := by
                intro l
                induction l with
                | nil => intro i _ _; rfl
                | cons a l ih =>
                  intro i h1 h2
                  have h1 : (a.idFree && MV.idFrees l) = true := h1
                  rw [Bool.and_eq_true] at h1
                  cases i with
                  | zero => show (x'.idFree && MV.idFrees l) = true; rw [h2, h1.2]; rfl
                  | succ i => show (a.idFree && MV.idFrees (setL l i x')) = true; rw [h1.1, ih h1.2 h2]; rfl
              exact key hf (h6 (idFrees_get hf i x hx) hvf)
          · cases hs
      · cases hs
    | arr parts hl hp hes hr =>
      rename_i n es l
      simp only [setPO] at hs
      split at hs
      · rename_i x hx
        rw [nthM_eq] at hx
        cases hb : (Nat.ble (i * es) fo && v.idFree) with
        | false => rw [hb] at hs; cases hs
        | true =>
          rw [hb] at hs
          rw [Bool.and_eq_true] at hb
          have hle := Nat.le_of_ble_eq_true hb.1
          simp only [cond_true] at hs
          split at hs
          · rename_i x' hx'
            injection hs with hs
            subst hs
            obtain ⟨q, hq⟩ := get_of_len (hp.trans hl.symm) hx
            obtain ⟨pre, old, post, h1, h2, h3, h4, h5, h6⟩ := setPO_rep (hr i x q hx hq) hx' (hv.free hb.2)
            have hi := (List.getElem?_eq_some_iff.1 hq).1
            have hs : (parts.take i).flatten.length = i * es := by
              rw [flatten_const (es := es) fun x hx => hes x (List.mem_of_mem_take hx), List.length_take, Nat.min_eq_left (by omega)]
            have hql := hes q (List.mem_of_getElem? hq)
            refine ⟨(parts.take i).flatten ++ pre, old, post ++ (parts.drop (i + 1)).flatten, ?_, ?_, h3, ?_, rfl, fun _ _ => rfl⟩
            · rw [flatten_split hq, h1]; simp
            · rw [List.length_append, hs, h2]; omega
            · have e : (parts.take i).flatten ++ pre ++ cs ++ (post ++ (parts.drop (i + 1)).flatten) = (parts.set i (pre ++ cs ++ post)).flatten := by
                rw [flatten_set hq]; simp
              rw [e, setL_eq]
              refine .arr _ (by simpa using hl) (by simpa using hp) (fun z hz => ?_) fun j y z hy hz => ?_
              · rcases List.mem_or_eq_of_mem_set hz with hz | rfl
                · exact hes z hz
                · rw [h1] at hql
                  simp only [List.length_append] at hql ⊢
                  omega
              · rcases getElem?_set' hy with ⟨rfl, rfl⟩ | ⟨hne, hy⟩
                · rcases getElem?_set' hz with ⟨_, rfl⟩ | ⟨hne, _⟩
                  · exact h4
                  · exact absurd rfl hne
                · rcases getElem?_set' hz with ⟨rfl, _⟩ | ⟨_, hz⟩
                  · exact absurd rfl hne
                  · exact hr j y z hy hz
          · cases hs
      · cases hs
    | _ => simp [setPO] at hs
end
end Go.Proofs.YtmeeeigfjlbnkaaGreat
namespace Go.Proofs.YtmeeeigfjlbnkaaGreat
open Go.RowKit
structure MB where
  ty : TypeId
  es : Nat
  row : Bool
  pe : Nat
  l : List MV
abbrev FM := Nat → Option MB
def fput {α : Type} (m : Nat → Option α) (c : Nat) (b : α) : Nat → Option α := fun x => if x = c then some b else m x
def fdel {α : Type} (m : Nat → Option α) (c : Nat) : Nat → Option α := fun x => if x = c then none else m x
theorem fput_same {α : Type} (m : Nat → Option α) (c : Nat) (b : α) : fput m c b c = some b := by simp [fput]
theorem fput_ne {α : Type} (m : Nat → Option α) {c x : Nat} (b : α) (h : x ≠ c) : fput m c b x = m x := by simp [fput, h]
theorem fdel_some {α : Type} {m : Nat → Option α} {c x : Nat} {b : α} (h : fdel m c x = some b) : x ≠ c ∧ m x = some b := by
  unfold fdel at h
  split at h
  · cases h
  · exact ⟨by assumption, h⟩
def HasC (w : World) (P : Prot) (adr : Adr) (b : MB) (g : Nat) : Prop := ∃ (cur : Array Value) (parts : List (List Value)), w.heap[g]? = some (.cells cur b.ty (0, 0)) ∧ parts.length = b.l.length ∧ (∀ p ∈ parts, p.length = b.es) ∧
    (∀ (j : Nat) x p, b.l[j]? = some x → parts[j]? = some p → Rep w P (if b.row then noAdr else adr) x p) ∧ parts.flatten <+: cur.toList
def EntR (w : World) (P : Prot) : List MV → List MV → List MapEntry → Prop
  | [], [], [] => True
  | k :: ks, v :: vs, e :: es => RepV w P noAdr k e.key ∧ RepV w P noAdr v e.val ∧ EntR w P ks vs es
  | _, _, _ => False
def ObjR (w : World) (P : Prot) (ks vs : List MV) (o : Obj) : Prop := (∃ (clk : Nat) (es : Array MapEntry), o = .map es clk ∧ EntR w P ks vs es.toList) ∨ ∃ (s : List UInt8) (pos : Nat), ks = [.str s] ∧ vs = [.nilp, .int .i64 pos] ∧ o = .stringIter ⟨s.toArray⟩ pos
def HasM (w : World) (P : Prot) (b : MB) (g : Nat) : Prop := b.row = false ∧ b.es = 0 ∧ ∃ (ks vs : List MV) (o : Obj), b.l = [.mpv ks vs] ∧ w.heap[g]? = some o ∧ ObjR w P ks vs o
theorem ObjR.cells {w : World} {P : Prot} {ks vs : List MV} {cur : Array Value} {t : TypeId} {x : Nat × Nat} (h : ObjR w P ks vs (.cells cur t x)) : False := by
  rcases h with ⟨_, _, h, _⟩ | ⟨_, _, _, _, h⟩ <;> cases h
structure HasB (w : World) (P : Prot) (adr : Adr) (b : MB) (g : Nat) : Prop where
  has' : HasC w P adr b g ∨ HasM w P b g
  pe : ∀ o, P g o → o < b.pe * b.es
  le : b.pe ≤ b.l.length
structure InvM (w : World) (P : Prot) (adr : Adr) (m : FM) : Prop where
  blk : ∀ c b, m c = some b → (b.row = true ∧ b.l = [] ∧ adr c = none ∧ b.pe = 0) ∨ ∃ g, adr c = some g ∧ HasB w P adr b g
  inj : ∀ c c' b b' g, m c = some b → m c' = some b' → adr c = some g → adr c' = some g → c = c'
  prot : ∀ b o, P b o → b < w.heap.size
section
variable {w w' : World} {P P' : Prot} {adr adr' : Adr} {m m' : FM} {b : MB} {g c : Nat}
theorem Keep.sub (k : Keep w w' P P' adr adr') (r : Bool) : Keep w w' P P' (if r then noAdr else adr) (if r then noAdr else adr') := by
  cases r
  · exact k
  · exact k.free
theorem HasB.lt (h : HasB w P adr b g) : g < w.heap.size := by
  rcases h.has' with ⟨cur, parts, h1, _⟩ | ⟨_, _, _, _, _, _, h1, _⟩
  · exact (Array.getElem?_eq_some_iff.1 h1).1
  · exact (Array.getElem?_eq_some_iff.1 h1).1
theorem EntR.keep (k : Keep w w' P P' adr adr') : ∀ {ks vs : List MV} {es : List MapEntry}, EntR w P ks vs es → EntR w' P' ks vs es
  | [], [], [], _ => trivial
  | _ :: _, _ :: _, _ :: _, h => ⟨h.1.keep k.free, h.2.1.keep k.free, EntR.keep k h.2.2⟩
  | [], [], _ :: _, h => h.elim
  | [], _ :: _, _, h => h.elim
  | _ :: _, [], _, h => h.elim
  | _ :: _, _ :: _, [], h => h.elim
theorem ObjR.keep (k : Keep w w' P P' adr adr') {ks vs : List MV} {o : Obj} (h : ObjR w P ks vs o) : ObjR w' P' ks vs o := by
  rcases h with ⟨clk, es, h1, h2⟩ | h
  · exact .inl ⟨clk, es, h1, h2.keep k⟩
  · exact .inr h
theorem HasB.ofE (h : HasB w P adr b g) (he : b.es ≠ 0) : HasC w P adr b g := h.has'.elim id fun h => absurd h.2.1 he
theorem HasB.ofR (h : HasB w P adr b g) (hr : b.row = true) : HasC w P adr b g := h.has'.elim id fun h => by rw [h.1] at hr; cases hr
theorem HasB.ofL (h : HasB w P adr b g) (hl : ∀ ks vs, b.l ≠ [.mpv ks vs]) : HasC w P adr b g := h.has'.elim id fun h => by
  obtain ⟨_, _, ks, vs, _, e, _⟩ := h
  exact absurd e (hl ks vs)
theorem HasB.ofX (h : HasB w P adr b g) {k : Nat} {x : MV} (hx : b.l[k]? = some x) (hn : ∀ ks vs, x ≠ .mpv ks vs) : HasC w P adr b g := h.ofL fun ks vs e => by
  rw [e] at hx
  cases k with
  | zero => injection hx with hx; exact hn ks vs hx.symm
  | succ k => simp at hx
theorem HasB.keep (h : HasB w P adr b g) (k : Keep w w' P P' adr adr') (hg : w'.heap[g]? = w.heap[g]?) (hp : ∀ o, P' g o → P g o) : HasB w' P' adr' b g := by
  refine ⟨?_, fun o ho => h.pe o (hp o ho), h.le⟩
  rcases h.has' with ⟨cur, parts, h1, h2, h3, h4, h5⟩ | ⟨h1, h2, ks, vs, o, h3, h4, h5⟩
  · exact .inl ⟨cur, parts, hg.trans h1, h2, h3, fun j x p hx hq => (h4 j x p hx hq).keep (k.sub b.row), h5⟩
  · exact .inr ⟨h1, h2, ks, vs, o, h3, hg.trans h4, h5.keep k⟩
def protNew (w w' : World) (P : Prot) : Prot := fun b o => P b o ∨ (w.heap.size ≤ b ∧ b < w'.heap.size)
theorem cell_same {b o : Nat} (h : w'.heap[b]? = w.heap[b]?) : w'.cell? ⟨b, o, none⟩ = w.cell? ⟨b, o, none⟩ := World.cell?_of_block (a := ⟨b, o, none⟩) h
theorem Keep.below (hI : ∀ b o, P b o → b < w.heap.size) (hb : Below w.heap.size w w') : Keep w w' P (protNew w w' P) adr adr :=
  ⟨fun _ _ h => .inl h, fun b o h => cell_same (hb.block b (hI b o h)), fun _ _ h => h, fun _c g cur _ty _ hw => ⟨cur, (hb.block g (Array.getElem?_eq_some_iff.1 hw).1).trans hw, rfl⟩⟩
theorem InvM.below (h : InvM w P adr m) (hb : Below w.heap.size w w') : InvM w' (protNew w w' P) adr m := by
  refine ⟨fun c b hc => ?_, h.inj, fun b o hp => ?_⟩
  · rcases h.blk c b hc with h1 | ⟨g, h1, h2⟩
    · exact .inl h1
    · refine .inr ⟨g, h1, h2.keep (Keep.below h.prot hb) (hb.block g h2.lt) fun o ho => ?_⟩
      rcases ho with ho | ho
      · exact ho
      · exact absurd h2.lt (by omega)
  · rcases hp with hp | hp
    · exact Nat.lt_of_lt_of_le (h.prot b o hp) hb.size
    · exact hp.2
theorem Below.alloc1 (w : World) (o : Obj) : Below w.heap.size w (w.alloc o) := (Below.refl _ _).alloc (Nat.le_refl _) _
theorem Keep.below' (hI : ∀ b o, P b o → b < w.heap.size) (hb : Below w.heap.size w w') : Keep w w' P P adr adr :=
  ⟨fun _ _ h => h, fun b o h => cell_same (hb.block b (hI b o h)), fun _ _ h => h, fun _c g cur _ty _ hw => ⟨cur, (hb.block g (Array.getElem?_eq_some_iff.1 hw).1).trans hw, rfl⟩⟩
theorem Keep.adr1 (hc : adr c = none) (g : Nat) : Keep w w P P adr (fput adr c g) :=
  ⟨fun _ _ h => h, fun _ _ _ => rfl, fun x y h => by
    by_cases e : x = c
    · subst e; rw [hc] at h; cases h
    · rw [fput_ne _ _ e]; exact h, fun _ _ cur _ _ h => ⟨cur, h, rfl⟩⟩
theorem InvM.newG (h : InvM w P adr m) (hc : adr c = none) (hm : m c = none) (hb : Below w.heap.size w w') (hB : Keep w w' P P adr (fput adr c w.heap.size) → HasC w' P (fput adr c w.heap.size) b w.heap.size ∨ HasM w' P b w.heap.size) (hle : b.pe ≤ b.l.length) :
    InvM w' P (fput adr c w.heap.size) (fput m c b) ∧ Keep w w' P P adr (fput adr c w.heap.size) := by
  have k : Keep w w' P P adr (fput adr c w.heap.size) := (Keep.below' h.prot hb).trans (Keep.adr1 hc _)
  have hnew : ∀ o, ¬ P w.heap.size o := fun o ho => absurd (h.prot _ _ ho) (Nat.lt_irrefl _)
  refine ⟨⟨fun x y hx => ?_, fun x y bx bY g hx hy hgx hgy => ?_, fun b o hp => Nat.lt_of_lt_of_le (h.prot b o hp) hb.size⟩, k⟩
  · by_cases e : x = c
    · subst e
      rw [fput_same] at hx
      injection hx with hx
      subst hx
      exact .inr ⟨_, fput_same _ _ _, hB k, fun o ho => absurd ho (hnew o), hle⟩
    · rw [fput_ne _ _ e] at hx
      rcases h.blk x y hx with h1 | ⟨g, h1, h2⟩
      · exact .inl ⟨h1.1, h1.2.1, by rw [fput_ne _ _ e]; exact h1.2.2.1, h1.2.2.2⟩
      · exact .inr ⟨g, by rw [fput_ne _ _ e]; exact h1, h2.keep k (hb.block g h2.lt) fun o ho => ho⟩
  · have old : ∀ {x : Nat} {bx : MB} {g : Nat}, x ≠ c → fput m c b x = some bx → fput adr c w.heap.size x = some g → m x = some bx ∧ adr x = some g ∧ g < w.heap.size := by
      intro x bx g e hx hg
      rw [fput_ne _ _ e] at hx hg
      rcases h.blk x bx hx with h1 | ⟨g', h1, h2⟩
      · rw [h1.2.2.1] at hg; cases hg
      · rw [h1] at hg; injection hg with hg; subst hg; exact ⟨hx, h1, h2.lt⟩
    by_cases ex : x = c
    · by_cases ey : y = c
      · exact ex.trans ey.symm
      · subst ex
        rw [fput_same] at hgx
        injection hgx with hgx
        obtain ⟨_, _, h3⟩ := old ey hy hgy
        omega
    · by_cases ey : y = c
      · subst ey
        rw [fput_same] at hgy
        injection hgy with hgy
        obtain ⟨_, _, h3⟩ := old ex hx hgx
        omega
      · obtain ⟨a1, a2, _⟩ := old ex hx hgx
        obtain ⟨b1, b2, _⟩ := old ey hy hgy
        exact h.inj x y bx bY g a1 b1 a2 b2
theorem InvM.new (h : InvM w P adr m) (hc : adr c = none) (hm : m c = none) (hb : Below w.heap.size w w') {cur : Array Value} {parts : List (List Value)} (hg : w'.heap[w.heap.size]? = some (.cells cur b.ty (0, 0))) (hpl : parts.length = b.l.length) (hpe : ∀ p ∈ parts, p.length = b.es)
    (hr : ∀ (j : Nat) x p, b.l[j]? = some x → parts[j]? = some p → Rep w P (if b.row then noAdr else adr) x p) (hcur : parts.flatten <+: cur.toList) (hle : b.pe ≤ b.l.length) :
    InvM w' P (fput adr c w.heap.size) (fput m c b) ∧ Keep w w' P P adr (fput adr c w.heap.size) :=
  h.newG hc hm hb (fun k => .inl ⟨cur, parts, hg, hpl, hpe, fun j x p h1 h2 => (hr j x p h1 h2).keep (k.sub b.row), hcur⟩) hle
theorem InvM.sub (h : InvM w P adr m) (hs : ∀ c b, m' c = some b → m c = some b) : InvM w P adr m' := ⟨fun c b hc => h.blk c b (hs c b hc), fun c c' b b' g h1 h2 => h.inj c c' b b' g (hs _ _ h1) (hs _ _ h2), h.prot⟩
theorem prefix_get {α : Type} {l r : List α} (h : l <+: r) {j : Nat} {x : α} (hx : l[j]? = some x) : r[j]? = some x := by
  obtain ⟨t, rfl⟩ := h
  rw [List.getElem?_append_left (List.getElem?_eq_some_iff.1 hx).1]
  exact hx
theorem InvM.write (h : InvM w P adr m) {b' : MB} (hlen : b.l.length ≤ b'.l.length) (hm : m c = some b) (ha : adr c = some g) (hty : b'.ty = b.ty) (hes : b'.es = b.es) (hpe : b'.pe = b.pe) {cur cur' : Array Value} (hg : w.heap[g]? = some (.cells cur b.ty (0, 0))) (hsz : cur'.size = cur.size)
    (hsame : ∀ o, P g o → cur'[o]? = cur[o]?) {parts : List (List Value)} (hpl : parts.length = b'.l.length) (hpes : ∀ p ∈ parts, p.length = b'.es)
    (hr : ∀ (j : Nat) x p, b'.l[j]? = some x → parts[j]? = some p → Rep w P (if b'.row then noAdr else adr) x p) (hcur : parts.flatten <+: cur'.toList) :
    InvM (w.setRow g cur') P adr (fput m c b') ∧ Keep w (w.setRow g cur') P P adr adr := by
  have hgw := setRow_heap w g cur cur' b.ty (0, 0) hg
  have k : Keep w (w.setRow g cur') P P adr adr := by
    refine ⟨fun _ _ h => h, fun x o hp => ?_, fun _ _ h => h, fun c' g' cu ty hc hw => ?_⟩
    · by_cases e : x = g
      · subst e
        rw [cell_of_row _ x o cur' b.ty (0, 0) hgw, cell_of_row _ x o cur b.ty (0, 0) hg]
        exact hsame o hp
      · exact cell_same (setRow_other _ _ _ _ e)
    · by_cases e : g' = g
      · subst e
        rw [hg] at hw
        injection hw with hw
        injection hw with h1 h2
        subst h1; subst h2
        exact ⟨cur', hgw, hsz⟩
      · exact ⟨cu, (setRow_other _ _ _ _ e).trans hw, rfl⟩
  refine ⟨⟨fun x y hx => ?_, fun x y bx bY g' hx hy hgx hgy => ?_, fun b o hp => by simpa using h.prot b o hp⟩, k⟩
  · by_cases e : x = c
    · subst e
      rw [fput_same] at hx
      injection hx with hx
      subst hx
      refine .inr ⟨g, ha, .inl ⟨cur', parts, by rw [hty]; exact hgw, hpl, hpes, fun j x p h1 h2 => (hr j x p h1 h2).keep (k.sub b'.row), hcur⟩, fun o ho => ?_, ?_⟩
      rw [hpe, hes]
      rcases h.blk x b hm with h1 | ⟨g', h1, h2⟩
      · rw [ha] at h1; cases h1.2.2.1
      · rw [ha] at h1; injection h1 with h1; subst h1; exact h2.pe o ho
      rw [hpe]
      rcases h.blk x b hm with h1 | ⟨g', h1, h2⟩
      · rw [ha] at h1; cases h1.2.2.1
      · exact Nat.le_trans h2.le hlen
    · rw [fput_ne _ _ e] at hx
      rcases h.blk x y hx with h1 | ⟨g', h1, h2⟩
      · exact .inl h1
      · refine .inr ⟨g', h1, h2.keep k (setRow_other _ _ _ _ fun eg => e ?_) fun o ho => ho⟩
        subst eg
        exact h.inj x c y b g' hx hm h1 ha
  · have old : ∀ {x : Nat} {bx : MB}, fput m c b' x = some bx → ∃ by_, m x = some by_ := by
      intro x bx hx
      by_cases e : x = c
      · subst e; exact ⟨b, hm⟩
      · rw [fput_ne _ _ e] at hx; exact ⟨bx, hx⟩
    obtain ⟨_, h1⟩ := old hx
    obtain ⟨_, h2⟩ := old hy
    exact h.inj x y _ _ g' h1 h2 hgx hgy
theorem InvM.writeM (h : InvM w P adr m) {ks vs ks' vs' : List MV} (hm : m c = some b) (hl : b.l = [.mpv ks vs]) (ha : adr c = some g) {o o' : Obj} (hg : w.heap[g]? = some o) (hgo : ObjR w P ks vs o) (hgw : w'.heap[g]? = some o') (hso : ∀ x, x ≠ g → w'.heap[x]? = w.heap[x]?) (hsz : w'.heap.size = w.heap.size) (hE : ObjR w P ks' vs' o') :
    InvM w' P adr (fput m c { b with l := [.mpv ks' vs'] }) ∧ Keep w w' P P adr adr := by
  have hB : HasM w P b g ∧ b.pe ≤ b.l.length ∧ ∀ o, P g o → o < b.pe * b.es := by
    rcases h.blk c b hm with h1 | ⟨g', h1, h2⟩
    · rw [ha] at h1; cases h1.2.2.1
    · rw [ha] at h1; injection h1 with h1; subst h1
      rcases h2.has' with ⟨cur, _, h3, _⟩ | h3
      · rw [hg] at h3; injection h3 with h3; subst h3; exact hgo.cells.elim
      · exact ⟨h3, h2.le, h2.pe⟩
  obtain ⟨hB, hle, hpe⟩ := hB
  have hno : ∀ o, ¬ P g o := fun o ho => by have := hpe o ho; rw [hB.2.1, Nat.mul_zero] at this; omega
  have k : Keep w w' P P adr adr := by
    refine ⟨fun _ _ h => h, fun x o hp => ?_, fun _ _ h => h, fun c' g' cu ty hc hw => ?_⟩
    · by_cases e : x = g
      · subst e; exact absurd hp (hno o)
      · exact cell_same (hso _ e)
    · by_cases e : g' = g
      · subst e; rw [hg] at hw; injection hw with hw; subst hw; exact hgo.cells.elim
      · exact ⟨cu, (hso _ e).trans hw, rfl⟩
  refine ⟨⟨fun x y hx => ?_, fun x y bx bY g' hx hy hgx hgy => ?_, fun b o hp => by rw [hsz]; exact h.prot b o hp⟩, k⟩
  · by_cases e : x = c
    · subst e
      rw [fput_same] at hx
      injection hx with hx
      subst hx
      refine .inr ⟨g, ha, .inr ⟨hB.1, hB.2.1, ks', vs', o', rfl, hgw, hE.keep k⟩, fun o ho => absurd ho (hno o), ?_⟩
      rw [hl] at hle
      exact hle
    · rw [fput_ne _ _ e] at hx
      rcases h.blk x y hx with h1 | ⟨g', h1, h2⟩
      · exact .inl h1
      · refine .inr ⟨g', h1, h2.keep k (hso _ fun eg => e ?_) fun o ho => ho⟩
        subst eg
        exact h.inj x c y b g' hx hm h1 ha
  · have old : ∀ {x : Nat} {bx : MB}, fput m c { b with l := [.mpv ks' vs'] } x = some bx → ∃ by_, m x = some by_ := by
      intro x bx hx
      by_cases e : x = c
      · subst e; exact ⟨b, hm⟩
      · rw [fput_ne _ _ e] at hx; exact ⟨bx, hx⟩
    obtain ⟨_, h1⟩ := old hx
    obtain ⟨_, h2⟩ := old hy
    exact h.inj x y _ _ g' h1 h2 hgx hgy
theorem InvM.rename {d : Nat} (h : InvM w P adr (fput m c b)) (ha : adr c = some g) (hd : adr d = none) (hm : m d = none) : InvM w P (fput adr d g) (fput (fdel m c) d b) ∧ Keep w w P P adr (fput adr d g) := by
  have k : Keep w w P P adr (fput adr d g) := Keep.adr1 hd g
  have hcd : c ≠ d := by rintro rfl; rw [ha] at hd; cases hd
  have old : ∀ {x : Nat} {y : MB}, x ≠ d → fput (fdel m c) d b x = some y → x ≠ c ∧ fput m c b x = some y := by
    intro x y e hx
    rw [fput_ne _ _ e] at hx
    obtain ⟨h1, h2⟩ := fdel_some hx
    exact ⟨h1, by rw [fput_ne _ _ h1]; exact h2⟩
  refine ⟨⟨fun x y hx => ?_, fun x y bx bY g' hx hy hgx hgy => ?_, h.prot⟩, k⟩
  · by_cases e : x = d
    · subst e
      rw [fput_same] at hx
      injection hx with hx
      subst hx
      rcases h.blk c b (fput_same _ _ _) with h1 | ⟨g', h1, h2⟩
      · rw [ha] at h1; cases h1.2.2.1
      · rw [ha] at h1; injection h1 with h1; subst h1
        exact .inr ⟨g, fput_same _ _ _, h2.keep k rfl fun _ h => h⟩
    · obtain ⟨h1, h2⟩ := old e hx
      rcases h.blk x y h2 with h3 | ⟨g', h3, h4⟩
      · exact .inl ⟨h3.1, h3.2.1, by rw [fput_ne _ _ e]; exact h3.2.2.1, h3.2.2.2⟩
      · exact .inr ⟨g', by rw [fput_ne _ _ e]; exact h3, h4.keep k rfl fun _ h => h⟩
  · by_cases ex : x = d
    · by_cases ey : y = d
      · exact ex.trans ey.symm
      · subst ex
        rw [fput_same] at hgx
        injection hgx with hgx
        obtain ⟨h1, h2⟩ := old ey hy
        rw [fput_ne _ _ ey, ← hgx] at hgy
        exact absurd (h.inj y c _ _ g h2 (fput_same _ _ _) hgy ha) h1
    · by_cases ey : y = d
      · subst ey
        rw [fput_same] at hgy
        injection hgy with hgy
        obtain ⟨h1, h2⟩ := old ex hx
        rw [fput_ne _ _ ex, ← hgy] at hgx
        exact absurd (h.inj x c _ _ g h2 (fput_same _ _ _) hgx ha) h1
      · obtain ⟨_, h2⟩ := old ex hx
        obtain ⟨_, h4⟩ := old ey hy
        rw [fput_ne _ _ ex] at hgx
        rw [fput_ne _ _ ey] at hgy
        exact h.inj x y _ _ g' h2 h4 hgx hgy
theorem InvM.unborn (h : InvM w P adr m) (hc : adr c = none) (hr : b.row = true) (hl : b.l = []) (hpe : b.pe = 0) : InvM w P adr (fput m c b) := by
  refine ⟨fun x y hx => ?_, fun x y bx bY g hx hy hgx hgy => ?_, h.prot⟩
  · by_cases e : x = c
    · subst e
      rw [fput_same] at hx
      injection hx with hx
      subst hx
      exact .inl ⟨hr, hl, hc, hpe⟩
    · rw [fput_ne _ _ e] at hx; exact h.blk x y hx
  · have old : ∀ {x : Nat} {y : MB}, adr x = some g → fput m c b x = some y → m x = some y := by
      intro x y hg hx
      by_cases e : x = c
      · subst e; rw [hc] at hg; cases hg
      · rw [fput_ne _ _ e] at hx; exact hx
    exact h.inj x y _ _ g (old hgx hx) (old hgy hy) hgx hgy
end
end Go.Proofs.YtmeeeigfjlbnkaaGreat
