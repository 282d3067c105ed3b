/- How the language's own decoding of a string's runes fits the reference's. -/
import Derived.Test.YtllepnadffndnaaDoorText
import GoSem.Core.Utf8
namespace Go.Proofs.YtllepnadffndnaaDoor

def isSp (c : Int) : Bool := c == 9 || c == 32 || c == 160 || c == 8195 || c == 12288
theorem take_bytes {l : Bs} {i : Nat} : ∀ {k : Nat}, (∀ j, j < k → i + j < l.length) → (l.drop i).take k = (List.range k).map fun j => byteAt l (i + j)
  | 0, _ => by simp
  | k + 1, h => by
    have h1 := take_bytes (k := k) (fun j hj => h j (by omega))
    have hk := h k (by omega)
    rw [List.take_add_one, h1, List.range_succ, List.map_append]
    congr 1
    rw [List.getElem?_drop, byteAt_some hk]
    rfl
theorem u8_ne {c : UInt8} {n : Nat} (hn : n < 256) : (c == UInt8.ofNat n) = decide (c.toNat = n) := by
  rw [Bool.eq_iff_iff]
  simp only [beq_iff_eq, decide_eq_true_eq]
  constructor
  · rintro rfl
    rw [UInt8.toNat_ofNat']
    omega
  · intro h
    apply UInt8.toNat_inj.1
    rw [UInt8.toNat_ofNat']
    omega
theorem get_byte (s : ByteArray) (i : Nat) : (s.get! i) = byteAt s.data.toList i := by
  unfold byteAt
  show s.data[i]! = _
  rw [Array.getElem!_eq_getD, Array.getD_eq_getD_getElem?]
  simp [default]
theorem followB_iff {l : Bs} {i : Nat} (h : followB l i = true) : i < l.length ∧ 128 ≤ (byteAt l i).toNat ∧ (byteAt l i).toNat < 192 := by
  unfold followB at h
  simp only [Bool.and_eq_true, decide_eq_true_eq] at h
  omega

theorem isSp_iff (c : Int) : isSp c = decide (c = 9 ∨ c = 32 ∨ c = 160 ∨ c = 8195 ∨ c = 12288) := by
  rw [Bool.eq_iff_iff]
  simp [isSp, or_assoc]
theorem u8i {c : UInt8} (n : Nat) (hn : n < 256) : c = UInt8.ofNat n ↔ c.toNat = n := by
  have := u8_ne (c := c) hn
  rw [Bool.eq_iff_iff] at this
  simpa using this
theorem space1 (a : UInt8) : spaceB [a] = decide (a.toNat = 9 ∨ a.toNat = 32) := by
  rw [Bool.eq_iff_iff]
  have h1 : a = 9 ↔ a.toNat = 9 := u8i 9 (by omega)
  have h2 : a = 32 ↔ a.toNat = 32 := u8i 32 (by omega)
  simp [spaceB, h1, h2]
theorem space2 (a b : UInt8) : spaceB [a, b] = decide (a.toNat = 194 ∧ b.toNat = 160) := by
  rw [Bool.eq_iff_iff]
  have h1 : a = 194 ↔ a.toNat = 194 := u8i 194 (by omega)
  have h2 : b = 160 ↔ b.toNat = 160 := u8i 160 (by omega)
  simp [spaceB, h1, h2]
theorem space3 (a b c : UInt8) : spaceB [a, b, c] = decide (a.toNat = 226 ∧ b.toNat = 128 ∧ c.toNat = 131 ∨ a.toNat = 227 ∧ b.toNat = 128 ∧ c.toNat = 128) := by
  rw [Bool.eq_iff_iff]
  have h1 : a = 226 ↔ a.toNat = 226 := u8i 226 (by omega)
  have h2 : b = 128 ↔ b.toNat = 128 := u8i 128 (by omega)
  have h3 : c = 131 ↔ c.toNat = 131 := u8i 131 (by omega)
  have h4 : a = 227 ↔ a.toNat = 227 := u8i 227 (by omega)
  have h5 : c = 128 ↔ c.toNat = 128 := u8i 128 (by omega)
  simp [spaceB, h1, h2, h3, h4, h5]
theorem space4 (a b c d : UInt8) : spaceB [a, b, c, d] = false := by simp [spaceB]
theorem hash1 (a : UInt8) : [a] = [(35 : UInt8)] ↔ a.toNat = 35 := by
  have h1 : a = 35 ↔ a.toNat = 35 := u8i 35 (by omega)
  simp [h1]

set_option maxHeartbeats 2000000 in
theorem decode_rune (s : ByteArray) (i : Nat) (hi : i < s.data.toList.length) (h0 : runeLen (s.data.toList.drop i) ≠ 0) :
    ∃ cp : Nat, Go.Utf8.decode s i = (cp, runeLen (s.data.toList.drop i)) ∧ isSp cp = spaceB ((s.data.toList.drop i).take (runeLen (s.data.toList.drop i))) ∧ ((cp : Int) = 35 ↔ (s.data.toList.drop i).take (runeLen (s.data.toList.drop i)) = [35]) := by
  have hsz : s.data.toList.length = s.size := by simp
  have hr := runeAt_nat s.data.toList i
  generalize hk : runeLen (s.data.toList.drop i) = k at *
  generalize hl : s.data.toList = l at *
  have hg : ∀ j, (s.get! (i + j)).toNat = (byteAt l (i + j)).toNat := fun j => by rw [get_byte, hl]
  unfold runeAt runeI at hr
  have t0 := (byteAt l i).toNat_lt
  have t1 := (byteAt l (i + 1)).toNat_lt
  have t2 := (byteAt l (i + 2)).toNat_lt
  have t3 := (byteAt l (i + 3)).toNat_lt
  have g0 : (s.get! i).toNat = (byteAt l i).toNat := hg 0
  have g1 := hg 1
  have g2 := hg 2
  have g3 := hg 3
  by_cases c1 : decide (((byteAt l i).toNat : Int) < 128) = true
  · rw [if_pos c1] at hr
    have hk1 : k = 1 := by omega
    subst hk1
    have c1 := of_decide_eq_true c1
    refine ⟨(byteAt l i).toNat, ?_, ?_, ?_⟩
    · unfold Go.Utf8.decode
      simp only [Nat.add_zero, g0]
      rw [if_pos (by omega)]
    · rw [take_bytes (fun j hj => by omega)]
      show _ = spaceB [byteAt l (i + 0)]
      rw [space1, isSp_iff, Nat.add_zero]
      exact decide_eq_decide.2 (by omega)
    · rw [take_bytes (fun j hj => by omega)]
      show _ ↔ [byteAt l (i + 0)] = _
      rw [hash1, Nat.add_zero]
      omega
  rw [if_neg c1] at hr
  have c1 : 128 ≤ (byteAt l i).toNat := by simp at c1; omega
  split at hr
  · rename_i c2
    simp only [Bool.and_eq_true, decide_eq_true_eq] at c2
    obtain ⟨⟨a1, a2⟩, f1⟩ := c2
    have f1 := followB_iff f1
    have hk1 : k = 2 := by omega
    subst hk1
    refine ⟨((byteAt l i).toNat % 32) * 64 + (byteAt l (i + 1)).toNat % 64, ?_, ?_, ?_⟩
    · unfold Go.Utf8.decode
      simp only [Nat.add_zero, g0, g1, g2, g3]
      rw [if_neg (by omega), if_pos (by simp; omega), if_pos (by omega)]
    · rw [take_bytes (fun j hj => by omega)]
      show _ = spaceB [byteAt l (i + 0), byteAt l (i + 1)]
      rw [space2, isSp_iff]; simp only [Nat.add_zero]
      exact decide_eq_decide.2 (by omega)
    · rw [take_bytes (fun j hj => by omega)]
      show _ ↔ [byteAt l (i + 0), byteAt l (i + 1)] = _
      constructor
      · intro h; omega
      · intro h; simp at h
  rename_i c2
  simp only [Bool.and_eq_true, decide_eq_true_eq] at c2
  split at hr
  · rename_i c3
    simp only [Bool.and_eq_true, decide_eq_true_eq] at c3
    obtain ⟨⟨⟨a1, a2⟩, f1⟩, f2⟩ := c3
    have f1 := followB_iff f1
    have f2 := followB_iff f2
    split at hr
    · omega
    rename_i c4
    simp only [Bool.or_eq_true, Bool.and_eq_true, decide_eq_true_eq, beq_iff_eq] at c4
    have hk1 : k = 3 := by omega
    subst hk1
    refine ⟨((byteAt l i).toNat % 16) * 4096 + ((byteAt l (i + 1)).toNat % 64) * 64 + (byteAt l (i + 2)).toNat % 64, ?_, ?_, ?_⟩
    · unfold Go.Utf8.decode
      simp only [Nat.add_zero, g0, g1, g2, g3]
      rw [if_neg (by omega), if_neg (by simp; omega), if_pos (by simp; omega), if_pos]
      simp [Go.Utf8.valid]
      omega
    · rw [take_bytes (fun j hj => by omega)]
      show _ = spaceB [byteAt l (i + 0), byteAt l (i + 1), byteAt l (i + 2)]
      rw [space3, isSp_iff]; simp only [Nat.add_zero]
      exact decide_eq_decide.2 (by omega)
    · rw [take_bytes (fun j hj => by omega)]
      show _ ↔ [byteAt l (i + 0), byteAt l (i + 1), byteAt l (i + 2)] = _
      constructor
      · intro h; omega
      · intro h; simp at h
  rename_i c3
  split at hr
  · rename_i c4
    simp only [Bool.and_eq_true, decide_eq_true_eq] at c4
    obtain ⟨⟨⟨⟨a1, a2⟩, f1⟩, f2⟩, f3⟩ := c4
    have f1 := followB_iff f1
    have f2 := followB_iff f2
    have f3 := followB_iff f3
    split at hr
    · omega
    rename_i c5
    simp only [Bool.or_eq_true, Bool.and_eq_true, decide_eq_true_eq, beq_iff_eq] at c5
    have hk1 : k = 4 := by omega
    subst hk1
    refine ⟨((byteAt l i).toNat % 8) * 262144 + ((byteAt l (i + 1)).toNat % 64) * 4096 + ((byteAt l (i + 2)).toNat % 64) * 64 + (byteAt l (i + 3)).toNat % 64, ?_, ?_, ?_⟩
    · unfold Go.Utf8.decode
      simp only [Nat.add_zero, g0, g1, g2, g3]
      rw [if_neg (by omega), if_neg (by simp; omega), if_neg (by simp; omega), if_pos (by simp; omega), if_pos]
      simp [Go.Utf8.valid]
      omega
    · rw [take_bytes (fun j hj => by omega)]
      show _ = spaceB [byteAt l (i + 0), byteAt l (i + 1), byteAt l (i + 2), byteAt l (i + 3)]
      rw [space4, isSp_iff]
      exact decide_eq_false (by omega)
    · rw [take_bytes (fun j hj => by omega)]
      show _ ↔ [byteAt l (i + 0), byteAt l (i + 1), byteAt l (i + 2), byteAt l (i + 3)] = _
      constructor
      · intro h; omega
      · intro h; simp at h
  · omega
end Go.Proofs.YtllepnadffndnaaDoor
