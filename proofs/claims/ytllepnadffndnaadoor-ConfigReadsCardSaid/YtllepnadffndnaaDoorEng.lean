/- A calculus of conditions over the model's code: environments that hold the slots that are known, blocks that are known, and the worlds since which nothing else has changed. -/
import Derived.Test.YtllepnadffndnaaDoorBase
import Derived.Orders
import Derived.OrdersHeld
import Derived.Shelf.Abstract
namespace Go.Proofs.YtllepnadffndnaaDoor
open Go.RowKit

/-- A value: as it stands, or a pointer into the block that is known under number i (its own number in memory is g). -/
inductive SV where
  | val (v : Value)
  | ptr (i g off : Nat)
  | lit (b : Bool)
  deriving Inhabited

structure KB where
  g : Nat
  t : TypeId
  cs : List SV

abbrev Mem := List (Nat × KB)
abbrev Env := List (Nat × SV)
abbrev Hist := List (World × Fp)

def Mem.find : Mem → Nat → Option KB
  | [], _ => none
  | (j, kb) :: M, i => bif Nat.beq j i then some kb else Mem.find M i
def Env.get : Env → Nat → Option SV
  | [], _ => none
  | (j, v) :: E, i => bif Nat.beq j i then some v else Env.get E i
def SV.den : SV → Value
  | .val v => v
  | .ptr _ g off => .pointer (some ⟨g, off, none⟩)
  | .lit b => .bool b
def Mem.gs (M : Mem) : Fp := fun b => ∃ i kb, M.find i = some kb ∧ kb.g = b

/-- Since h nothing has changed but the blocks of ex, and what is new. -/
structure Since (ex : Fp) (h w : World) : Prop where
  os : w.os = h.os
  tape : w.tape = h.tape
  output : w.output = h.output
  size : h.heap.size ≤ w.heap.size
  block : ∀ b, b < h.heap.size → ¬ ex b → w.heap[b]? = h.heap[b]?

structure A (M : Mem) (H : Hist) (w : World) : Prop where
  blk : ∀ i kb, M.find i = some kb → Blk w kb.g kb.t (kb.cs.map SV.den).toArray
  apart : ∀ i j ki kj, M.find i = some ki → M.find j = some kj → i ≠ j → ki.g ≠ kj.g
  since : ∀ p ∈ H, Since p.2 p.1 w
  fresh : ∀ p ∈ H, ∀ i kb, M.find i = some kb → p.2 kb.g ∨ p.1.heap.size ≤ kb.g

structure Sat (N : Nat) (E : Env) (a : Act) : Prop where
  defers : a.defers = []
  size : a.tmps.size = N
  get : ∀ t v, E.get t = some v → a.tmps[t]? = some v.den

def ev (E : Env) : Operand → Option SV
  | .tmp t => E.get t
  | .const v => some (.val v)
  | .global g => some (.val (.pointer (some ⟨g, 0, none⟩)))
  | .func f => some (.val (.func (.func f) #[] #[]))

theorem Sat.ev {N : Nat} {E : Env} {a : Act} (h : Sat N E a) {x : Operand} {v : SV} (hx : ev E x = some v) : a.eval x = v.den := by
  cases x with
  | tmp t =>
    have := h.get t v hx
    simp [Act.eval, this]
  | const u => injection hx with hx; subst hx; rfl
  | global g => injection hx with hx; subst hx; rfl
  | func f => injection hx with hx; subst hx; rfl

theorem beq_ne {d t : Nat} (h : ¬ d = t) : Nat.beq d t = false := by
  cases hb : Nat.beq d t with
  | false => rfl
  | true => exact absurd (Nat.eq_of_beq_eq_true hb) h
theorem Env.get_cons {E : Env} {d t : Nat} {v : SV} : Env.get ((d, v) :: E) t = if d = t then some v else E.get t := by
  show (bif Nat.beq d t then some v else Env.get E t) = _
  by_cases h : d = t
  · subst h; simp
  · simp [beq_ne h, h]
theorem Mem.find_cons {M : Mem} {d t : Nat} {v : KB} : Mem.find ((d, v) :: M) t = if d = t then some v else M.find t := by
  show (bif Nat.beq d t then some v else Mem.find M t) = _
  by_cases h : d = t
  · subst h; simp
  · simp [beq_ne h, h]

theorem Sat.put {N : Nat} {E : Env} {a : Act} (h : Sat N E a) {d : Nat} (hd : d < N) (v : SV) : Sat N ((d, v) :: E) (a.put (some d) v.den) := by
  refine ⟨h.defers, by simp [Act.put, h.size], fun t u hu => ?_⟩
  rw [Env.get_cons] at hu
  simp only [Act.put, Array.getElem?_setIfInBounds]
  split at hu
  · rename_i e
    subst e
    injection hu with hu
    subst hu
    simp [h.size, hd]
  · rename_i e
    rw [if_neg e]
    exact h.get t u hu

/-! ### The worlds -/
theorem Since.refl (ex : Fp) (w : World) : Since ex w w := ⟨rfl, rfl, rfl, Nat.le_refl _, fun _ _ _ => rfl⟩
theorem Since.step {ex : Fp} {h w w' : World} {row : Fp} (k : Since ex h w) (s : Since row w w') (hr : ∀ b, row b → ex b ∨ h.heap.size ≤ b) : Since ex h w' :=
  ⟨s.os.trans k.os, s.tape.trans k.tape, s.output.trans k.output, Nat.le_trans k.size s.size, fun b hb he => by
    refine (s.block b (Nat.lt_of_lt_of_le hb k.size) fun hrb => ?_).trans (k.block b hb he)
    rcases hr b hrb with h1 | h1
    · exact he h1
    · omega⟩
theorem Since.of_below {w w' : World} (h : Below w.heap.size w w') : Since (fun _ => False) w w' := ⟨h.os, h.tape, h.output, h.size, fun b hb _ => h.block b hb⟩
theorem Since.below {h w : World} (k : Since (fun _ => False) h w) : Below h.heap.size h w := ⟨k.os, k.tape, k.output, k.size, fun b hb => k.block b hb (fun e => e)⟩
theorem Since.drew {ex : Fp} {h w : World} (k : Since ex h w) : Since ex h { w with drawn := w.drawn + 1 } := ⟨k.os, k.tape, k.output, k.size, k.block⟩
theorem A.drew {M : Mem} {H : Hist} {w : World} (h : A M H w) : A M H { w with drawn := w.drawn + 1 } := ⟨h.blk, h.apart, fun p hp => (h.since p hp).drew, h.fresh⟩

/-- A new block. -/
theorem A.alloc {M : Mem} {H : Hist} {w : World} (h : A M H w) (i : Nat) (t : TypeId) (cs : List SV) :
    A ((i, ⟨w.heap.size, t, cs⟩) :: M) H (w.alloc (.cells (cs.map SV.den).toArray t)) := by
  have hlt : ∀ j kb, M.find j = some kb → kb.g < w.heap.size := fun j kb hj => (h.blk j kb hj).lt
  refine ⟨fun j kb hj => ?_, fun j k kj kk hj hk hne => ?_, fun p hp => ?_, fun p hp j kb hj => ?_⟩
  · rw [Mem.find_cons] at hj
    split at hj
    · injection hj with hj; subst hj; exact Blk.new _ _ _
    · exact (h.blk j kb hj).alloc _
  · rw [Mem.find_cons] at hj hk
    split at hj
    · split at hk
      · rename_i e1 e2; exact absurd (e1.symm.trans e2) hne
      · injection hj with hj; subst hj
        have := hlt k kk hk
        exact (Nat.ne_of_lt this).symm
    · split at hk
      · injection hk with hk; subst hk
        have := hlt j kj hj
        exact Nat.ne_of_lt this
      · exact h.apart j k kj kk hj hk hne
  · have k := h.since p hp
    exact ⟨k.os, k.tape, k.output, Nat.le_trans k.size (by simp), fun b hb he => (Below.heap_alloc _ _ _ (Nat.lt_of_lt_of_le hb k.size)).trans (k.block b hb he)⟩
  · rw [Mem.find_cons] at hj
    split at hj
    · injection hj with hj; subst hj; exact .inr (h.since p hp).size
    · exact h.fresh p hp j kb hj

def Mem.upd : Mem → Nat → List SV → Mem
  | [], _, _ => []
  | (j, kb) :: M, i, cs => bif Nat.beq j i then (j, { kb with cs := cs }) :: M else (j, kb) :: Mem.upd M i cs
theorem Mem.find_upd {M : Mem} {i j : Nat} {cs : List SV} : (M.upd i cs).find j = if i = j then (M.find i).map (fun kb => { kb with cs := cs }) else M.find j := by
  induction M with
  | nil => simp [Mem.upd, Mem.find]
  | cons p M ih =>
    obtain ⟨k, kb⟩ := p
    by_cases hk : k = i
    · subst hk
      have e : Mem.upd ((k, kb) :: M) k cs = (k, { kb with cs := cs }) :: M := by
        show (bif Nat.beq k k then _ else _) = _
        simp
      rw [e, Mem.find_cons, Mem.find_cons, Mem.find_cons]
      by_cases hj : k = j <;> simp [hj]
    · have e : Mem.upd ((k, kb) :: M) i cs = (k, kb) :: Mem.upd M i cs := by
        show (bif Nat.beq k i then _ else _) = _
        simp [beq_ne hk]
      rw [e, Mem.find_cons, Mem.find_cons, Mem.find_cons, ih]
      by_cases hj : k = j
      · subst hj; simp [hk]; intro h; exact absurd h.symm hk
      · simp [hj, hk]

/-- A known block is written anew. -/
theorem A.setRow {M : Mem} {H : Hist} {w : World} (h : A M H w) {i : Nat} {kb : KB} (hi : M.find i = some kb) (cs : List SV) :
    A (M.upd i cs) H (w.setRow kb.g (cs.map SV.den).toArray) := by
  refine ⟨fun j kj hj => ?_, fun j k kj kk hj hk hne => ?_, fun p hp => ?_, fun p hp j kj hj => ?_⟩
  · rw [Mem.find_upd] at hj
    split at hj
    · rename_i e
      subst e
      rw [hi] at hj
      injection hj with hj
      subst hj
      exact setRow_heap w kb.g _ _ _ _ (h.blk i kb hi).heap
    · rename_i e
      have hne := h.apart i j kb kj hi hj e
      show (w.setRow kb.g _).heap[kj.g]? = _
      rw [setRow_other _ _ _ _ (Ne.symm hne)]
      exact h.blk j kj hj
  · rw [Mem.find_upd] at hj hk
    have key : ∀ {j : Nat} {kj : KB}, (if i = j then (M.find i).map (fun kb => { kb with cs := cs }) else M.find j) = some kj → ∃ kj', M.find j = some kj' ∧ kj'.g = kj.g := by
      intro j kj hj
      split at hj
      · rename_i e; subst e; rw [hi] at hj; injection hj with hj; subst hj; exact ⟨kb, hi, rfl⟩
      · exact ⟨kj, hj, rfl⟩
    obtain ⟨a, ha, hag⟩ := key hj
    obtain ⟨b, hb, hbg⟩ := key hk
    rw [← hag, ← hbg]
    exact h.apart j k a b ha hb hne
  · have k := h.since p hp
    refine ⟨k.os, k.tape, k.output, by simpa using k.size, fun b hb he => ?_⟩
    rw [setRow_other _ _ _ _ ?_]
    · exact k.block b hb he
    · rintro rfl
      rcases h.fresh p hp i kb hi with h1 | h1
      · exact he h1
      · omega
  · rw [Mem.find_upd] at hj
    split at hj
    · rename_i e; subst e; rw [hi] at hj; injection hj with hj; subst hj; exact h.fresh p hp i kb hi
    · exact h.fresh p hp j kj hj

/-- Behind a call that changes nothing that was there. -/
theorem A.below {M : Mem} {H : Hist} {w w' : World} (h : A M H w) (hb : Below w.heap.size w w') : A M ((w', M.gs) :: H) w' := by
  have s := Since.of_below hb
  refine ⟨fun i kb hi => (h.blk i kb hi).below hb (h.blk i kb hi).lt, h.apart, fun p hp => ?_, fun p hp i kb hi => ?_⟩
  · rcases List.mem_cons.1 hp with rfl | hp
    · exact Since.refl _ _
    · exact (h.since p hp).step s (fun _ e => e.elim)
  · rcases List.mem_cons.1 hp with rfl | hp
    · exact .inl ⟨i, kb, hi, rfl⟩
    · exact h.fresh p hp i kb hi
/-- The same, where the new world need not be remembered. -/
theorem A.below' {M : Mem} {H : Hist} {w w' : World} (h : A M H w) (hb : Below w.heap.size w w') : A M H w' := by
  have s := Since.of_below hb
  exact ⟨fun i kb hi => (h.blk i kb hi).below hb (h.blk i kb hi).lt, h.apart, fun p hp => (h.since p hp).step s (fun _ e => e.elim), h.fresh⟩
/-- Behind an operation that may write one row of the call's own besides. -/
theorem A.grown {M : Mem} {H : Hist} {w w' : World} {row : Option Nat} (h : A M H w) (hg : w.grownBy w' row) (hM : ∀ i kb, M.find i = some kb → some kb.g ≠ row) :
    A M ((w', M.gs) :: H.map fun p => (p.1, fun b => p.2 b ∨ row = some b)) w' := by
  have s : Since (fun b => row = some b) w w' := ⟨hg.os, hg.tape, hg.output, hg.size, fun b hb he => hg.block b hb (fun e => he e.symm)⟩
  refine ⟨fun i kb hi => (h.blk i kb hi).grown hg (hM i kb hi), h.apart, fun p hp => ?_, fun p hp i kb hi => ?_⟩
  · rcases List.mem_cons.1 hp with rfl | hp
    · exact Since.refl _ _
    · obtain ⟨q, hq, rfl⟩ := List.mem_map.1 hp
      have k := h.since q hq
      have k' : Since (fun b => q.2 b ∨ row = some b) q.1 w := ⟨k.os, k.tape, k.output, k.size, fun b hb he => k.block b hb (fun e => he (.inl e))⟩
      exact k'.step s (fun b e => .inl (.inr e))
  · rcases List.mem_cons.1 hp with rfl | hp
    · exact .inl ⟨i, kb, hi, rfl⟩
    · obtain ⟨q, hq, rfl⟩ := List.mem_map.1 hp
      rcases h.fresh q hq i kb hi with h1 | h1
      · exact .inl (.inl h1)
      · exact .inr h1
/-- The beginning. -/
theorem A.start (w : World) : A [] [(w, fun _ => False)] w := by
  refine ⟨fun i kb h => ?_, fun i j ki kj h => ?_, fun p hp => ?_, fun p hp i kb h => ?_⟩
  · simp [Mem.find] at h
  · simp [Mem.find] at h
  · simp at hp; subst hp; exact Since.refl _ _
  · simp [Mem.find] at h
/-- A block's number behind all known ones. -/
def Above (M : Mem) (g : Nat) : Prop := ∀ i kb, M.find i = some kb → kb.g < g
theorem A.above {M : Mem} {H : Hist} {w : World} (h : A M H w) : Above M w.heap.size := fun i kb hi => (h.blk i kb hi).lt
theorem Above.head {M : Mem} {i g : Nat} {kb : KB} (h : Above ((i, kb) :: M) g) : kb.g < g := h i kb (by rw [Mem.find_cons]; simp)
/-- Behind a call that changes nothing below B, where all that is known lies. -/
theorem A.belowB {M : Mem} {H H' : Hist} {w w' : World} {B : Nat} (h : A M H w) (hb : Below B w w') (hM : Above M B) (hH : ∀ p ∈ H', p ∈ H ∧ p.1.heap.size ≤ B) : A M ((w', M.gs) :: H') w' := by
  have s : Since (fun b => B ≤ b) w w' := ⟨hb.os, hb.tape, hb.output, hb.size, fun b _ he => hb.block b (by omega)⟩
  refine ⟨fun i kb hi => (h.blk i kb hi).below hb (hM i kb hi), h.apart, fun p hp => ?_, fun p hp i kb hi => ?_⟩
  · rcases List.mem_cons.1 hp with rfl | hp
    · exact Since.refl _ _
    · refine (h.since p (hH p hp).1).step s (fun b e => .inr ?_)
      have := (hH p hp).2
      omega
  · rcases List.mem_cons.1 hp with rfl | hp
    · exact .inl ⟨i, kb, hi, rfl⟩
    · exact h.fresh p (hH p hp).1 i kb hi
/-- Fewer blocks known. -/
def MSub : Mem → Mem → Prop
  | [], _ => True
  | (i, kb) :: M', M => M.find i = some kb ∧ MSub M' M
theorem MSub.find {M : Mem} : ∀ {M' : Mem}, MSub M' M → ∀ i kb, M'.find i = some kb → M.find i = some kb
  | [], _, i, kb, h => by simp [Mem.find] at h
  | (j, kj) :: M', h, i, kb, hi => by
    rw [Mem.find_cons] at hi
    split at hi
    · rename_i e; subst e; injection hi with hi; subst hi; exact h.1
    · exact h.2.find i kb hi
theorem A.sub {M M' : Mem} {H : Hist} {w : World} (h : A M H w) (hs : MSub M' M) : A M' H w :=
  ⟨fun i kb hi => h.blk i kb (hs.find i kb hi), fun i j ki kj hi hj => h.apart i j ki kj (hs.find i ki hi) (hs.find j kj hj), h.since, fun p hp i kb hi => h.fresh p hp i kb (hs.find i kb hi)⟩
def MSub' (M' M : Mem) : Prop := ∀ i kb, M'.find i = some kb → M.find i = some kb
theorem A.sub' {M M' : Mem} {H : Hist} {w : World} (h : A M H w) (hs : MSub' M' M) : A M' H w :=
  ⟨fun i kb hi => h.blk i kb (hs i kb hi), fun i j ki kj hi hj => h.apart i j ki kj (hs i ki hi) (hs j kj hj), h.since, fun p hp i kb hi => h.fresh p hp i kb (hs i kb hi)⟩
/-- Fewer worlds remembered. -/
theorem A.hist {M : Mem} {H H' : Hist} {w : World} (h : A M H w) (hs : ∀ p ∈ H', p ∈ H) : A M H' w := ⟨h.blk, h.apart, fun p hp => h.since p (hs p hp), fun p hp => h.fresh p (hs p hp)⟩
end Go.Proofs.YtllepnadffndnaaDoor
