/- Lines of a valid text are valid. -/
import Derived.Test.YtllepnadffndnaaDoorText
namespace Go.Proofs.YtllepnadffndnaaDoor

theorem runeI_same {c d d' : Int} {f1 f2 f3 g1 g2 g3 : Bool} {k : Int} (h : runeI c d f1 f2 f3 = k) (hk : k ≠ 0) (h1 : 2 ≤ k → d' = d ∧ g1 = f1) (h2 : 3 ≤ k → g2 = f2) (h3 : 4 ≤ k → g3 = f3) : runeI c d' g1 g2 g3 = k := by
  unfold runeI at h ⊢
  by_cases c1 : decide (c < 128) = true
  · rw [if_pos c1] at h ⊢; exact h
  rw [if_neg c1] at h ⊢
  have c1' : 128 ≤ c := by simp at c1; omega
  by_cases c2 : (decide (194 ≤ c) && decide (c < 224) && f1) = true
  · rw [if_pos c2] at h
    obtain ⟨_, e1⟩ := h1 (by omega)
    rw [e1, if_pos c2]; exact h
  rw [if_neg c2] at h
  by_cases c3 : (decide (224 ≤ c) && decide (c < 240) && f1 && f2) = true
  · rw [if_pos c3] at h
    have hk3 : 3 ≤ k := by split at h <;> omega
    obtain ⟨e0, e1⟩ := h1 (by omega)
    have e2 := h2 hk3
    subst e0; subst e1; subst e2
    rw [if_neg c2, if_pos c3]; exact h
  rw [if_neg c3] at h
  by_cases c4 : (decide (240 ≤ c) && decide (c < 245) && f1 && f2 && f3) = true
  · rw [if_pos c4] at h
    have hk4 : 4 ≤ k := by split at h <;> omega
    obtain ⟨e0, e1⟩ := h1 (by omega)
    have e2 := h2 (by omega)
    have e3 := h3 hk4
    subst e0; subst e1; subst e2; subst e3
    rw [if_neg c2, if_neg c3, if_pos c4]; exact h
  rw [if_neg c4] at h
  exact absurd h.symm hk
theorem byteAt_app {l h : Bs} {k j : Nat} (hj : j < k) (hk : k ≤ l.length) : byteAt (l.take k ++ h) j = byteAt l j := by
  unfold byteAt
  rw [List.getElem?_append_left (by simp; omega), List.getElem?_take, if_pos hj]
theorem followB_app {l h : Bs} {k j : Nat} (hj : j < k) (hk : k ≤ l.length) : followB (l.take k ++ h) j = followB l j := by
  unfold followB
  rw [byteAt_app hj hk]
  have : j < (l.take k ++ h).length := by simp; omega
  have h2 : j < l.length := by omega
  simp only [this, h2]
theorem runeLen_int (l : Bs) : ((runeLen l : Nat) : Int) = runeI (byteAt l 0).toNat (byteAt l 1).toNat (followB l 1) (followB l 2) (followB l 3) := by
  have := runeAt_nat l 0
  simp only [List.drop_zero] at this
  rw [← this]
  rfl
theorem runeLen_app {l : Bs} (hl : l ≠ []) (h0 : runeLen l ≠ 0) (h : Bs) : runeLen (l.take (runeLen l) ++ h) = runeLen l := by
  have hk := runeLen_le hl
  have e := runeLen_int l
  have e2 := runeLen_int (l.take (runeLen l) ++ h)
  generalize hkk : runeLen l = k at *
  rw [byteAt_app (by omega) hk] at e2
  have := runeI_same (d' := (byteAt (l.take k ++ h) 1).toNat) (g1 := followB (l.take k ++ h) 1) (g2 := followB (l.take k ++ h) 2) (g3 := followB (l.take k ++ h) 3) e.symm (by omega)
    (fun h2 => ⟨by rw [byteAt_app (by omega) hk], followB_app (by omega) hk⟩) (fun h3 => followB_app (by omega) hk) (fun h4 => followB_app (by omega) hk)
  rw [this] at e2
  omega
theorem validS_app {l : Bs} (hl : l ≠ []) (h0 : runeLen l ≠ 0) (h : Bs) : validS (l.take (runeLen l) ++ h) = validS h := by
  have hk := runeLen_le hl
  have e := runeLen_app hl h0 h
  generalize runeLen l = k at *
  have hlen : (l.take k).length = k := by rw [List.length_take]; omega
  have hne : l.take k ++ h ≠ [] := by
    intro e2
    have := congrArg List.length e2
    rw [List.length_append, hlen] at this
    simp at this
    omega
  rw [validS_step hne (by rw [e]; exact h0), e, List.drop_left' hlen]
theorem take_one {l : Bs} (h : l ≠ []) : l.take 1 = [byteAt l 0] := by
  cases l with
  | nil => exact absurd rfl h
  | cons c r => rfl
/-- A byte of a rune that is not its only one is no line feed. -/
theorem rune_bytes {l : Bs} (hl : l ≠ []) (h0 : runeLen l ≠ 0) (h10 : l.take (runeLen l) ≠ [10]) : ∀ x ∈ l.take (runeLen l), x ≠ 10 := by
  have hk := runeLen_le hl
  have e := runeLen_int l
  generalize hkk : runeLen l = k at *
  intro x hx
  obtain ⟨j, hj⟩ := List.getElem?_of_mem hx
  rw [List.getElem?_take] at hj
  split at hj
  · rename_i hjk
    have hxe : byteAt l j = x := by unfold byteAt; rw [hj]; rfl
    rw [← hxe]
    intro hc
    have hc2 : (byteAt l j).toNat = 10 := by rw [hc]; rfl
    obtain ⟨_, _, a1, a2, a3⟩ := runeI_le (byteAt l 0).toNat (byteAt l 1).toNat (followB l 1) (followB l 2) (followB l 3)
    rw [← e] at a1 a2 a3
    have fb : ∀ i, followB l i = true → 128 ≤ (byteAt l i).toNat := by
      intro i hi
      unfold followB at hi
      simp only [Bool.and_eq_true, decide_eq_true_eq] at hi
      omega
    match j, hjk with
    | 0, _ =>
      have : runeI (byteAt l 0).toNat (byteAt l 1).toNat (followB l 1) (followB l 2) (followB l 3) = 1 := by
        unfold runeI
        rw [if_pos (by simp; omega)]
      have hk1 : k = 1 := by omega
      subst hk1
      apply h10
      rw [take_one hl, hc]
    | 1, _ => have := fb 1 (a1 (by omega)); omega
    | 2, _ => have := fb 2 (a2 (by omega)); omega
    | 3, _ => have := fb 3 (a3 (by omega)); omega
    | j + 4, h => 
      have := (runeI_le (byteAt l 0).toNat (byteAt l 1).toNat (followB l 1) (followB l 2) (followB l 3)).2.1
      omega
  · cases hj
theorem linesOf_pre : ∀ (p r : Bs), (∀ x ∈ p, x ≠ 10) → ∃ h t, linesOf r = h :: t ∧ linesOf (p ++ r) = (p ++ h) :: t
  | [], r, _ => by
    cases hr : linesOf r with
    | nil =>
      exfalso
      cases r <;> simp [linesOf] at hr
      split at hr
      · cases hr
      · split at hr <;> cases hr
    | cons h t => exact ⟨h, t, rfl, by simpa using hr⟩
  | c :: p, r, hp => by
    obtain ⟨h, t, h1, h2⟩ := linesOf_pre p r (fun x hx => hp x (List.mem_cons_of_mem _ hx))
    refine ⟨h, t, h1, ?_⟩
    have hc := hp c List.mem_cons_self
    rw [List.cons_append, linesOf, if_neg hc, h2]
    rfl
theorem lines_valid : ∀ (n : Nat) (l : Bs), l.length ≤ n → validS l = true → ∀ x ∈ linesOf l, validS x = true := by
  intro n
  induction n with
  | zero =>
    intro l hl hv x hx
    have : l = [] := List.length_eq_zero_iff.1 (by omega)
    subst this
    simp [linesOf] at hx
    subst hx
    exact validS_nil
  | succ n ih =>
    intro l hl hv x hx
    by_cases hne : l = []
    · subst hne
      simp [linesOf] at hx
      subst hx
      exact validS_nil
    · by_cases h0 : runeLen l = 0
      · rw [validS_bad hne h0] at hv; cases hv
      · have hk := runeLen_le hne
        rw [validS_step hne h0] at hv
        have ih := ih (l.drop (runeLen l)) (by simp; omega) hv
        have hsplit := List.take_append_drop (runeLen l) l
        by_cases h10 : l.take (runeLen l) = [10]
        · have hl10 : ∀ r : Bs, linesOf ([10] ++ r) = [] :: linesOf r := fun r => by simp [linesOf]
          have hx2 : x ∈ linesOf (l.take (runeLen l) ++ l.drop (runeLen l)) := by rw [hsplit]; exact hx
          rw [h10, hl10] at hx2
          replace hx := hx2
          rcases List.mem_cons.1 hx with rfl | hx
          · exact validS_nil
          · exact ih x hx
        · obtain ⟨h, t, e1, e2⟩ := linesOf_pre (l.take (runeLen l)) (l.drop (runeLen l)) (rune_bytes hne h0 h10)
          rw [hsplit] at e2
          rw [e2] at hx
          rcases List.mem_cons.1 hx with hx | hx
          · rw [hx, validS_app hne h0]
            exact ih h (List.mem_of_getElem? (i := 0) (by simp only [e1]; exact List.getElem?_cons_zero))
          · exact ih x (by simp only [e1]; exact List.mem_cons_of_mem _ hx)
theorem lines_len : ∀ (l : Bs), (linesOf l).length ≤ l.length + 1 ∧ ∀ x ∈ linesOf l, x.length ≤ l.length
  | [] => by simp [linesOf]
  | c :: r => by
    obtain ⟨h1, h2⟩ := lines_len r
    unfold linesOf
    split
    · refine ⟨by simp; omega, fun x hx => ?_⟩
      rcases List.mem_cons.1 hx with rfl | hx
      · simp
      · have := h2 x hx; simp; omega
    · split
      · rename_i h t hr
        rw [hr] at h1 h2
        refine ⟨by simp at h1 ⊢; omega, fun x hx => ?_⟩
        rcases List.mem_cons.1 hx with rfl | hx
        · have := h2 h List.mem_cons_self; simp; omega
        · have := h2 x (List.mem_cons_of_mem _ hx); simp; omega
      · simp
end Go.Proofs.YtllepnadffndnaaDoor
