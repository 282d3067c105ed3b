/- The library's word on valid texts is the reference's. No program is in sight. -/
import Derived.Test.YtllepnadffndnaaDoorDecode
import Derived.Lib.ValidLaws
import Derived.Lib.TrimUEq
namespace Go.Proofs.YtllepnadffndnaaDoor

section
variable {c d : Int} {f1 f2 f3 : Bool}
theorem runeI_2 (h1 : 194 ≤ c) (h2 : c < 224) (h3 : f1 = true) : runeI c d f1 f2 f3 = 2 := by
  unfold runeI
  rw [if_neg (by simp; omega), if_pos (by simp [h1, h2, h3])]
theorem runeI_3 (h1 : 224 ≤ c) (h2 : c < 240) (h3 : f1 = true) (h4 : f2 = true) (h5 : ¬ (c = 224 ∧ d < 160)) (h6 : ¬ (c = 237 ∧ 160 ≤ d)) : runeI c d f1 f2 f3 = 3 := by
  unfold runeI
  rw [if_neg (by simp; omega), if_neg (by simp; omega), if_pos (by simp [h1, h2, h3, h4]), if_neg (by
    simp only [Bool.or_eq_true, Bool.and_eq_true, beq_iff_eq, decide_eq_true_eq]
    rintro (h | h)
    · exact h5 h
    · exact h6 h)]
theorem runeI_4 (h1 : 240 ≤ c) (h2 : c < 245) (h3 : f1 = true) (h4 : f2 = true) (h4' : f3 = true) (h5 : ¬ (c = 240 ∧ d < 144)) (h6 : ¬ (c = 244 ∧ 144 ≤ d)) : runeI c d f1 f2 f3 = 4 := by
  unfold runeI
  rw [if_neg (by simp; omega), if_neg (by simp; omega), if_neg (by simp; omega), if_pos (by simp [h1, h2, h3, h4, h4']), if_neg (by
    simp only [Bool.or_eq_true, Bool.and_eq_true, beq_iff_eq, decide_eq_true_eq]
    rintro (h | h)
    · exact h5 h
    · exact h6 h)]
end
theorem follow_of {l : Bs} {i : Nat} (h1 : i < l.length) (h2 : (byteAt l i).toNat / 64 = 2) : followB l i = true := by
  unfold followB
  simp only [Bool.and_eq_true, decide_eq_true_eq]
  omega
theorem bad_decode {l : Bs} (_ : l ≠ []) (h0 : runeLen l = 0) : Lib.decodeL l = (65533, 1) := by
  have hr := runeAt_nat l 0
  simp only [List.drop_zero, h0] at hr
  unfold runeAt at hr
  rw [Lib.decodeL_N]
  have eq : ∀ i, l.getD i 0 = byteAt l i := fun i => by unfold byteAt; rw [List.getD_eq_getElem?_getD]
  simp only [eq]
  have t0 := (byteAt l 0).toNat_lt
  have t1 := (byteAt l 1).toNat_lt
  have t2 := (byteAt l 2).toNat_lt
  have t3 := (byteAt l 3).toNat_lt
  have F1 := @follow_of l 1
  have F2 := @follow_of l 2
  have F3 := @follow_of l 3
  have hc : ¬ (byteAt l 0).toNat < 128 := by
    intro hc
    unfold runeI at hr
    rw [if_pos (by simp; omega)] at hr
    exact absurd hr (by decide)
  have R2 := @runeI_2 (byteAt l 0).toNat (byteAt l 1).toNat (followB l 1) (followB l 2) (followB l 3)
  have R3 := @runeI_3 (byteAt l 0).toNat (byteAt l 1).toNat (followB l 1) (followB l 2) (followB l 3)
  have R4 := @runeI_4 (byteAt l 0).toNat (byteAt l 1).toNat (followB l 1) (followB l 2) (followB l 3)
  have hr : runeI (byteAt l 0).toNat (byteAt l 1).toNat (followB l 1) (followB l 2) (followB l 3) = 0 := hr
  generalize runeI (byteAt l 0).toNat (byteAt l 1).toNat (followB l 1) (followB l 2) (followB l 3) = R at *
  generalize (byteAt l 0).toNat = b0 at *
  generalize (byteAt l 1).toNat = b1 at *
  generalize (byteAt l 2).toNat = b2 at *
  generalize (byteAt l 3).toNat = b3 at *
  unfold Lib.decodeN
  rw [if_neg hc]
  split
  · rename_i h2
    split
    · have := R2 (by omega) (by omega) (F1 h2.2.1 h2.2.2)
      omega
    · rfl
  split
  · rename_i h2 h3
    split
    · have := R3 (by omega) (by omega) (F1 h3.2.1.1 h3.2.1.2) (F2 h3.2.2.1 h3.2.2.2) (by omega) (by omega)
      omega
    · rfl
  split
  · rename_i h2 h3 h4
    split
    · have := R4 (by omega) (by omega) (F1 h4.2.1.1 h4.2.1.2) (F2 h4.2.2.1.1 h4.2.2.1.2) (F3 h4.2.2.2.1 h4.2.2.2.2) (by omega) (by omega)
      omega
    · rfl
  · rfl
theorem good_decode {l : Bs} (h : l ≠ []) (h0 : runeLen l ≠ 0) : (Lib.decodeL l).2 = runeLen l ∧ ¬ ((Lib.decodeL l).1 = 65533 ∧ (Lib.decodeL l).2 = 1) := by
  have hp : 0 < l.length := List.length_pos_iff.2 h
  obtain ⟨cp, hd, _, _⟩ := decode_rune ⟨l.toArray⟩ 0 hp (by simpa using h0)
  have hd : Lib.decodeL l = (cp, runeLen l) := by simpa [Lib.decodeL] using hd
  have d1 : (Lib.decodeL l).1 = cp := by rw [hd]
  have d2 : (Lib.decodeL l).2 = runeLen l := by rw [hd]
  refine ⟨d2, ?_⟩
  rw [d1, d2]
  rintro ⟨h1, h2⟩
  have hr := runeAt_nat l 0
  simp only [List.drop_zero, h2] at hr
  unfold runeAt at hr
  by_cases hc : (byteAt l 0).toNat < 128
  · have e : l = byteAt l 0 :: l.drop 1 := by
      cases l with
      | nil => exact absurd rfl h
      | cons a t => simp [byteAt]
    have := Lib.decodeL_ascii (byteAt l 0) (l.drop 1) hc
    rw [← e] at this
    have e2 : (Lib.decodeL l).1 = (byteAt l 0).toNat := by rw [this]
    omega
  · unfold runeI at hr
    rw [if_neg (by simp; omega)] at hr
    repeat' split at hr
    all_goals omega
theorem valid_eq : ∀ (n : Nat) (l : Bs), l.length ≤ n → Lib.validD l = validS l
  | n, [], _ => by rw [validS_nil]; rfl
  | 0, _ :: _, h => by simp at h
  | n + 1, c :: r, h => by
    rw [Lib.validD_step _ (List.cons_ne_nil _ _)]
    by_cases h0 : runeLen (c :: r) = 0
    · rw [validS_bad (List.cons_ne_nil _ _) h0, bad_decode (List.cons_ne_nil _ _) h0]
      simp
    · obtain ⟨h1, h2⟩ := good_decode (List.cons_ne_nil c r) h0
      rw [validS_step (List.cons_ne_nil _ _) h0, if_neg h2, h1]
      refine valid_eq n _ ?_
      rw [List.length_drop]
      simp only [List.length_cons] at h ⊢
      omega
end Go.Proofs.YtllepnadffndnaaDoor
