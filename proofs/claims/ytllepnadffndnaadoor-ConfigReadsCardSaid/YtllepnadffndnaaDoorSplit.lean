/- strings.Split at a newline. -/
import Derived.Test.YtllepnadffndnaaDoorRead
namespace Go.Proofs.YtllepnadffndnaaDoor
open Go.RowKit

def consHead (c : UInt8) : List Bs → List Bs
  | h :: t => (c :: h) :: t
  | [] => [[c]]
theorem splitK_ne (c : UInt8) (r : Bs) (hc : c ≠ 10) (k : Nat) : Lib.splitK [10] 0 k (c :: r) = consHead c (Lib.splitK [10] 0 k r) := by
  cases k with
  | zero => rfl
  | succ k =>
    have hp : ([10] : List UInt8).isPrefixOf (c :: r) = false := by simp [List.isPrefixOf, Ne.symm hc]
    have hix : Lib.index (c :: r) [10] = if Lib.index r [10] == -1 then -1 else Lib.index r [10] + 1 := by rw [Lib.index, hp]; simp
    unfold Lib.splitK
    by_cases hm : Lib.index r [10] = -1
    · rw [hix, if_pos (beq_iff_eq.2 hm), hm]; rfl
    · have hge := Lib.index_ge r [10]
      obtain ⟨j, hj⟩ : ∃ j : Nat, Lib.index r [10] = j := ⟨(Lib.index r [10]).toNat, by omega⟩
      have h1 : ((j : Int) == -1) = false := by
        rw [Bool.eq_false_iff]; intro e; have := eq_of_beq e; omega
      have h2 : ((j : Int) + 1 == -1) = false := by
        rw [Bool.eq_false_iff]; intro e; have := eq_of_beq e; omega
      have h3 : ((j : Int) + 1).toNat = j + 1 := by omega
      rw [hix, hj]
      simp only [h1, h2, h3, Bool.false_eq_true, if_false, Int.toNat_natCast, Nat.add_zero, List.length_singleton]
      rfl
theorem split_lines : ∀ l : Bs, Lib.splitK [10] 0 (Lib.count l [10]) l = linesOf l
  | [] => by rw [Lib.count_miss (by simp [Lib.index])]; rfl
  | c :: r => by
    by_cases hc : c = 10
    · subst hc
      have hix : Lib.index ((10 : UInt8) :: r) [10] = 0 := by rw [Lib.index]; simp [List.isPrefixOf]
      rw [Lib.count_cons_eq, Nat.add_comm, Lib.splitK, hix, linesOf]
      have := split_lines r
      simpa using this
    · rw [Lib.count_cons_ne c 10 r hc, splitK_ne c r hc, split_lines r]
      conv => rhs; rw [linesOf]
      rw [if_neg hc]
      cases linesOf r <;> rfl
theorem arrays_of {L : List Bs} : ∀ {xs : List ByteArray}, xs.map (·.data.toList) = L → xs = L.map strB := by
  intro xs h
  rw [← h, List.map_map]
  conv => lhs; rw [← List.map_id xs]
  refine List.map_congr_left fun x _ => ?_
  simp [strB]
theorem split_c (s : ByteArray) (hs : s.size ≤ 1048576) (w : World) (hlib : LibOK w) :
    Calls Tryd.prog 40 #[.string s, .string ⟨#[10]⟩] w fun e w' => ∃ v, e = .returned v ∧ WordsAt w w' v (linesOf s.data.toList) ∧ Below w.heap.size w w' := by
  obtain ⟨m, hm⟩ := hlib.maxLen
  have h0 := Any.strings_Split (L := { Tryd.laysM146 with }) Tryd.laysM146.i9 s ⟨#[10]⟩ m w (by omega) hm (by decide)
  refine Calls.mono h0 ?_
  rintro e w' ⟨rfl, rfl⟩
  have hx : Lib.splitB ⟨#[10]⟩ 0 (Lib.countB s ⟨#[10]⟩) s = (linesOf s.data.toList).map strB := by
    refine arrays_of ?_
    rw [Lib.splitB_data]
    exact split_lines _
  have hl := Lib.splitB_all ⟨#[10]⟩ (by decide) 0 _ s rfl
  rw [hx] at hl
  simp only [List.length_map] at hl
  have hll := lines_len s.data.toList
  have hsz := str_len s
  refine ⟨_, rfl, ⟨some ⟨w.heap.size, 0, none⟩, (linesOf s.data.toList).length, by rw [hl], ?_⟩, (Below.refl _ _).alloc (Nat.le_refl _) _⟩
  rw [hx]
  refine Sl.of_blk (cells := (linesOf s.data.toList).map strV) (t := 9) ?_ (Nat.le_refl _) (SlL_strs _ _ _ fun x hx => ?_) ?_
  · have e : ((linesOf s.data.toList).map strB).map Value.string = (linesOf s.data.toList).map strV := by rw [List.map_map]; rfl
    rw [e]
    unfold Blk World.alloc
    simp
    rfl
  · have := hll.2 x hx
    omega
  · simp
    omega
end Go.Proofs.YtllepnadffndnaaDoor
