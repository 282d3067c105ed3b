/- The reference's runes. -/
import Derived.Test.YtllepnadffndnaaDoorCfgE
import Derived.Test.YtllepnadffndnaaDoorText
namespace Go.Proofs.YtllepnadffndnaaDoor
open Go.RowKit

theorem follow_c (s : ByteArray) (i : Nat) (hs : s.size ≤ 140737488355328) (w : World) :
    Calls Tryd.prog 84 #[.string s, .int .i64 i] w fun e w' => e = .returned (.bool (followB s.data.toList i)) ∧ Below w.heap.size w w' := by
  have hsz : s.data.toList.length = s.size := by simp
  refine calls_of_vc seat Tryd.func84 rfl rfl (Nat.le_of_ble_eq_true rfl) (N := 21) (args := [.val (.string s), .val (.int .i64 i)]) (Nat.le_of_ble_eq_true rfl) rfl (A.start w) ?_
  refine ⟨fun h => ?_, fun h => ?_⟩
  · have h0 : i < s.data.toList.length := by have := of_decide_eq_true h; omega
    refine ⟨i, _, rfl, byteAt_some h0, ?_⟩
    refine ⟨fun h1 => ?_, fun h1 => ?_⟩
    · refine ⟨i, _, rfl, byteAt_some h0, ?_⟩
      intro w' hA
      refine ⟨ret_bool ?_, hA.bel (by simp)⟩
      simp only [followB, h0, h1, decide_true, Bool.true_and]
    · intro w' hA
      refine ⟨ret_bool ?_, hA.bel (by simp)⟩
      simp only [followB, h0, h1, decide_true, Bool.true_and, Bool.false_and, Bool.not_true]
  · have h0 : ¬ i < s.data.toList.length := by have := of_decide_eq_false h; omega
    (repeat (first | refine ⟨fun _ => ?_, fun h => Bool.noConfusion h⟩ | refine ⟨fun h => Bool.noConfusion h, fun _ => ?_⟩ | refine ⟨_, wrap_in _ (by omega) (by omega), ?_⟩ | refine ⟨_, wrapu_in _ (by omega) (by omega), ?_⟩ | refine ⟨_, wrap8_in _ (by omega) (by omega), ?_⟩ | refine ⟨_, rfl, ?_⟩ | refine ⟨rfl, ?_⟩))
    intro w' hA
    refine ⟨ret_bool ?_, hA.bel (by simp)⟩
    simp only [followB, h0, decide_false, Bool.false_and]

set_option maxHeartbeats 4000000 in
theorem rune_c (s : ByteArray) (i : Nat) (hs : s.size ≤ 140737488355328) (hi : i < s.data.toList.length) (w : World) :
    Calls Tryd.prog 68 #[.string s, .int .i64 i] w fun e w' => e = .returned (.int .i64 (runeAt s.data.toList i)) ∧ Below w.heap.size w w' := by
  have hsz : s.data.toList.length = s.size := by simp
  unfold runeAt
  have hi0 := byteAt_some hi
  have hc : ∃ c : Int, ((byteAt s.data.toList i).toNat : Int) = c ∧ 0 ≤ c ∧ c < 256 := ⟨_, rfl, by omega, by have := (byteAt s.data.toList i).toNat_lt; omega⟩
  have f1 := follow_c s (i + 1) hs
  have f2 := follow_c s (i + 2) hs
  have f3 := follow_c s (i + 3) hs
  have d1 : followB s.data.toList (i + 1) = true → s.data.toList[i + 1]? = some (byteAt s.data.toList (i + 1)) := fun h => byteAt_some (followB_lt h)
  generalize followB s.data.toList (i + 1) = b1 at f1 d1 ⊢
  generalize followB s.data.toList (i + 2) = b2 at f2 ⊢
  generalize followB s.data.toList (i + 3) = b3 at f3 ⊢
  generalize byteAt s.data.toList (i + 1) = d at d1 ⊢
  generalize byteAt s.data.toList i = c0 at hi0 hc ⊢
  obtain ⟨c, hc0, hc1, hc2⟩ := hc
  obtain ⟨dd, hd0⟩ : ∃ dd : Int, (d.toNat : Int) = dd := ⟨_, rfl⟩
  rw [hc0, hd0]
  have cls : c < 128 ∨ 128 ≤ c ∧ c < 194 ∨ 194 ≤ c ∧ c < 224 ∨ 224 ≤ c ∧ c < 240 ∨ 240 ≤ c ∧ c < 245 ∨ 245 ≤ c := by omega
  rcases cls with hcl | hcl | hcl | hcl | hcl | hcl
  case inr.inr.inl =>
    cases b1
    all_goals
      refine calls_of_vc seat Tryd.func68 rfl rfl (Nat.le_of_ble_eq_true rfl) (N := 109) (args := [.val (.string s), .val (.int .i64 i)]) (Nat.le_of_ble_eq_true rfl) rfl (A.start w) ?_
      refine ⟨i, c0, rfl, hi0, ?_⟩
      rw [hc0]
      repeat' (first
        | refine ⟨fun _ => ?_, fun h => Bool.noConfusion h⟩
        | refine ⟨fun h => Bool.noConfusion h, fun _ => ?_⟩
        | refine ⟨fun _ => ?_, fun h => absurd h (by first | (simp; done) | (simp; omega))⟩
        | refine ⟨fun h => absurd h (by first | (simp; done) | (simp; omega)), fun _ => ?_⟩
        | (refine ⟨((i + 1 : Nat) : Int), wrap_in _ (by omega) (by omega), ?_⟩; first | (intro w1 hA; refine (f1 w1).mono ?_; rintro e w2 ⟨rfl, hb⟩; refine ⟨.val _, _, _, rfl, hA.below' hb, ?_⟩; clear hA hb) | (refine ⟨i + 1, d, rfl, d1 rfl, ?_⟩; rw [hd0]))
        | (refine ⟨((i + 2 : Nat) : Int), wrap_in _ (by omega) (by omega), ?_⟩; (intro w1 hA; refine (f2 w1).mono ?_; rintro e w2 ⟨rfl, hb⟩; refine ⟨.val _, _, _, rfl, hA.below' hb, ?_⟩; clear hA hb))
        | (refine ⟨((i + 3 : Nat) : Int), wrap_in _ (by omega) (by omega), ?_⟩; (intro w1 hA; refine (f3 w1).mono ?_; rintro e w2 ⟨rfl, hb⟩; refine ⟨.val _, _, _, rfl, hA.below' hb, ?_⟩; clear hA hb))
        | refine ⟨fun h => ?_, fun h => ?_⟩
        | fail)
      all_goals
        intro w' hA
        refine ⟨ret_int ?_, hA.bel (by simp)⟩
        clear hA f1 f2 f3 d1 hi0 hsz
        unfold runeI
        repeat' split
        all_goals first | rfl | (exfalso; first | (simp at *; done) | (simp at *; omega))
  case inr.inr.inr.inl =>
    cases b1 <;> cases b2
    all_goals
      refine calls_of_vc seat Tryd.func68 rfl rfl (Nat.le_of_ble_eq_true rfl) (N := 109) (args := [.val (.string s), .val (.int .i64 i)]) (Nat.le_of_ble_eq_true rfl) rfl (A.start w) ?_
      refine ⟨i, c0, rfl, hi0, ?_⟩
      rw [hc0]
      repeat' (first
        | refine ⟨fun _ => ?_, fun h => Bool.noConfusion h⟩
        | refine ⟨fun h => Bool.noConfusion h, fun _ => ?_⟩
        | refine ⟨fun _ => ?_, fun h => absurd h (by first | (simp; done) | (simp; omega))⟩
        | refine ⟨fun h => absurd h (by first | (simp; done) | (simp; omega)), fun _ => ?_⟩
        | (refine ⟨((i + 1 : Nat) : Int), wrap_in _ (by omega) (by omega), ?_⟩; first | (intro w1 hA; refine (f1 w1).mono ?_; rintro e w2 ⟨rfl, hb⟩; refine ⟨.val _, _, _, rfl, hA.below' hb, ?_⟩; clear hA hb) | (refine ⟨i + 1, d, rfl, d1 rfl, ?_⟩; rw [hd0]))
        | (refine ⟨((i + 2 : Nat) : Int), wrap_in _ (by omega) (by omega), ?_⟩; (intro w1 hA; refine (f2 w1).mono ?_; rintro e w2 ⟨rfl, hb⟩; refine ⟨.val _, _, _, rfl, hA.below' hb, ?_⟩; clear hA hb))
        | (refine ⟨((i + 3 : Nat) : Int), wrap_in _ (by omega) (by omega), ?_⟩; (intro w1 hA; refine (f3 w1).mono ?_; rintro e w2 ⟨rfl, hb⟩; refine ⟨.val _, _, _, rfl, hA.below' hb, ?_⟩; clear hA hb))
        | refine ⟨fun h => ?_, fun h => ?_⟩
        | fail)
      all_goals
        intro w' hA
        refine ⟨ret_int ?_, hA.bel (by simp)⟩
        clear hA f1 f2 f3 d1 hi0 hsz
        unfold runeI
        repeat' split
        all_goals first | rfl | (exfalso; first | (simp at *; done) | (simp at *; omega))
  case inr.inr.inr.inr.inl =>
    cases b1 <;> cases b2 <;> cases b3
    all_goals
      refine calls_of_vc seat Tryd.func68 rfl rfl (Nat.le_of_ble_eq_true rfl) (N := 109) (args := [.val (.string s), .val (.int .i64 i)]) (Nat.le_of_ble_eq_true rfl) rfl (A.start w) ?_
      refine ⟨i, c0, rfl, hi0, ?_⟩
      rw [hc0]
      repeat' (first
        | refine ⟨fun _ => ?_, fun h => Bool.noConfusion h⟩
        | refine ⟨fun h => Bool.noConfusion h, fun _ => ?_⟩
        | refine ⟨fun _ => ?_, fun h => absurd h (by first | (simp; done) | (simp; omega))⟩
        | refine ⟨fun h => absurd h (by first | (simp; done) | (simp; omega)), fun _ => ?_⟩
        | (refine ⟨((i + 1 : Nat) : Int), wrap_in _ (by omega) (by omega), ?_⟩; first | (intro w1 hA; refine (f1 w1).mono ?_; rintro e w2 ⟨rfl, hb⟩; refine ⟨.val _, _, _, rfl, hA.below' hb, ?_⟩; clear hA hb) | (refine ⟨i + 1, d, rfl, d1 rfl, ?_⟩; rw [hd0]))
        | (refine ⟨((i + 2 : Nat) : Int), wrap_in _ (by omega) (by omega), ?_⟩; (intro w1 hA; refine (f2 w1).mono ?_; rintro e w2 ⟨rfl, hb⟩; refine ⟨.val _, _, _, rfl, hA.below' hb, ?_⟩; clear hA hb))
        | (refine ⟨((i + 3 : Nat) : Int), wrap_in _ (by omega) (by omega), ?_⟩; (intro w1 hA; refine (f3 w1).mono ?_; rintro e w2 ⟨rfl, hb⟩; refine ⟨.val _, _, _, rfl, hA.below' hb, ?_⟩; clear hA hb))
        | refine ⟨fun h => ?_, fun h => ?_⟩
        | fail)
      all_goals
        intro w' hA
        refine ⟨ret_int ?_, hA.bel (by simp)⟩
        clear hA f1 f2 f3 d1 hi0 hsz
        unfold runeI
        repeat' split
        all_goals first | rfl | (exfalso; first | (simp at *; done) | (simp at *; omega))
  all_goals
    refine calls_of_vc seat Tryd.func68 rfl rfl (Nat.le_of_ble_eq_true rfl) (N := 109) (args := [.val (.string s), .val (.int .i64 i)]) (Nat.le_of_ble_eq_true rfl) rfl (A.start w) ?_
    refine ⟨i, c0, rfl, hi0, ?_⟩
    rw [hc0]
    repeat' (first
      | refine ⟨fun _ => ?_, fun h => Bool.noConfusion h⟩
      | refine ⟨fun h => Bool.noConfusion h, fun _ => ?_⟩
      | refine ⟨fun _ => ?_, fun h => absurd h (by first | (simp; done) | (simp; omega))⟩
      | refine ⟨fun h => absurd h (by first | (simp; done) | (simp; omega)), fun _ => ?_⟩
      | (refine ⟨((i + 1 : Nat) : Int), wrap_in _ (by omega) (by omega), ?_⟩; first | (intro w1 hA; refine (f1 w1).mono ?_; rintro e w2 ⟨rfl, hb⟩; refine ⟨.val _, _, _, rfl, hA.below' hb, ?_⟩; clear hA hb) | (refine ⟨i + 1, d, rfl, d1 rfl, ?_⟩; rw [hd0]))
      | (refine ⟨((i + 2 : Nat) : Int), wrap_in _ (by omega) (by omega), ?_⟩; (intro w1 hA; refine (f2 w1).mono ?_; rintro e w2 ⟨rfl, hb⟩; refine ⟨.val _, _, _, rfl, hA.below' hb, ?_⟩; clear hA hb))
      | (refine ⟨((i + 3 : Nat) : Int), wrap_in _ (by omega) (by omega), ?_⟩; (intro w1 hA; refine (f3 w1).mono ?_; rintro e w2 ⟨rfl, hb⟩; refine ⟨.val _, _, _, rfl, hA.below' hb, ?_⟩; clear hA hb))
      | refine ⟨fun h => ?_, fun h => ?_⟩
      | fail)
    all_goals
      intro w' hA
      refine ⟨ret_int ?_, hA.bel (by simp)⟩
      clear hA f1 f2 f3 d1 hi0 hsz
      unfold runeI
      repeat' split
      all_goals first | rfl | (exfalso; first | (simp at *; done) | (simp at *; omega))
end Go.Proofs.YtllepnadffndnaaDoor
