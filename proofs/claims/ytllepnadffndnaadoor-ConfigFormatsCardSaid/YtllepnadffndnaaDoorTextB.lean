/- Texts as lists of bytes: words of lines that are padded, numerals, lines that are joined. No program is in sight. -/
import Derived.Test.YtllepnadffndnaaDoorLines
import Derived.Lib.ItoaNum
namespace Go.Proofs.YtllepnadffndnaaDoor

theorem validS_app2 : ∀ (n : Nat) (a b : Bs), a.length ≤ n → validS a = true → validS (a ++ b) = validS b
  | n, [], b, _, _ => rfl
  | 0, x :: a, b, h, _ => by simp at h
  | n + 1, x :: a, b, h, hv => by
    have hne : (x :: a : Bs) ≠ [] := by simp
    have h0 : runeLen (x :: a) ≠ 0 := by intro h0; rw [validS_bad hne h0] at hv; cases hv
    have hle := runeLen_le hne
    generalize hl : (x :: a : Bs) = l at *
    have e : l ++ b = l.take (runeLen l) ++ (l.drop (runeLen l) ++ b) := by rw [← List.append_assoc, List.take_append_drop]
    rw [e, validS_app hne h0]
    rw [validS_step hne h0] at hv
    exact validS_app2 n _ b (by rw [List.length_drop]; omega) hv
theorem runesOf_app : ∀ (n : Nat) (a b : Bs), a.length ≤ n → validS a = true → runesOf (a ++ b) = runesOf a ++ runesOf b
  | n, [], b, _, _ => by rw [runesOf_nil]; rfl
  | 0, x :: a, b, h, _ => by simp at h
  | n + 1, x :: a, b, h, hv => by
    have hne : (x :: a : Bs) ≠ [] := by simp
    have h0 : runeLen (x :: a) ≠ 0 := by intro h0; rw [validS_bad hne h0] at hv; cases hv
    have hle := runeLen_le hne
    generalize hl : (x :: a : Bs) = l at *
    have e : l ++ b = l.take (runeLen l) ++ (l.drop (runeLen l) ++ b) := by rw [← List.append_assoc, List.take_append_drop]
    have hr : runeLen (l ++ b) = runeLen l := by rw [e]; exact runeLen_app hne h0 _
    have hne2 : l ++ b ≠ [] := by simp [hne]
    rw [runesOf_step hne h0, runesOf_step hne2 (by rw [hr]; exact h0), hr, List.take_append_of_le_length hle, List.drop_append_of_le_length hle]
    rw [validS_step hne h0] at hv
    rw [runesOf_app n _ b (by rw [List.length_drop]; omega) hv]
    rfl
theorem runeLen_ascii {x : UInt8} (l : Bs) (h : x.toNat < 128) : runeLen (x :: l) = 1 := by
  have e := runeLen_int (x :: l)
  have hb : byteAt (x :: l) 0 = x := rfl
  rw [hb] at e
  have : runeI (x.toNat : Int) (byteAt (x :: l) 1).toNat (followB (x :: l) 1) (followB (x :: l) 2) (followB (x :: l) 3) = 1 := by
    unfold runeI
    rw [if_pos (by simp; omega)]
  rw [this] at e
  omega
theorem valid_ascii : ∀ (l : Bs), (∀ x ∈ l, x.toNat < 128) → validS l = true
  | [], _ => validS_nil
  | x :: l, h => by
    have h1 := runeLen_ascii l (h x (by simp))
    rw [validS_step (by simp) (by omega), h1]
    exact valid_ascii l fun y hy => h y (by simp [hy])
theorem runes_ascii : ∀ (l : Bs), (∀ x ∈ l, x.toNat < 128) → runesOf l = l.map fun x => [x]
  | [], _ => runesOf_nil
  | x :: l, h => by
    have h1 := runeLen_ascii l (h x (by simp))
    rw [runesOf_step (by simp) (by omega), h1]
    simp only [List.take_succ_cons, List.take_zero, List.drop_succ_cons, List.drop_zero, List.map_cons]
    rw [runes_ascii l fun y hy => h y (by simp [hy])]
/-- The bytes of a word: no space, no sign of a comment. -/
def wordB (x : UInt8) : Bool := decide (x.toNat < 128) && !(x == 35) && !(x == 32) && !(x == 9)
theorem wordB_out {x : UInt8} (h : wordB x = true) : x.toNat < 128 ∧ ([x] : Bs) ≠ [35] ∧ spaceB [x] = false := by
  unfold wordB at h
  simp only [Bool.and_eq_true, Bool.not_eq_true', decide_eq_true_eq, beq_eq_false_iff_ne] at h
  obtain ⟨⟨⟨h1, h2⟩, h3⟩, h4⟩ := h
  refine ⟨h1, by simpa using h2, ?_⟩
  simp [spaceB, h3, h4]
theorem wordsGo_word : ∀ (t : Bs) (rs : List Bs) (w : Bs) (acc : List Bs), (∀ x ∈ t, wordB x = true) → wordsGo ((t.map fun x => [x]) ++ rs) w acc = wordsGo rs (w ++ t) acc
  | [], rs, w, acc, _ => by simp
  | x :: t, rs, w, acc, h => by
    obtain ⟨h1, h2, h3⟩ := wordB_out (h x (by simp))
    show wordsGo ([x] :: ((t.map fun x => [x]) ++ rs)) w acc = _
    rw [wordsGo, if_neg h2, if_neg (by rw [h3]; simp), wordsGo_word t rs _ acc fun y hy => h y (by simp [hy])]
    simp
theorem wordsGo_spaces : ∀ (t : List Bs) (rs : List Bs) (acc : List Bs), (∀ x ∈ t, x ≠ [35] ∧ spaceB x = true) → wordsGo (t ++ rs) [] acc = wordsGo rs [] acc
  | [], rs, acc, _ => rfl
  | x :: t, rs, acc, h => by
    obtain ⟨h2, h3⟩ := h x (by simp)
    show wordsGo (x :: (t ++ rs)) [] acc = _
    rw [wordsGo, if_neg h2, if_pos h3, if_pos rfl]
    exact wordsGo_spaces t rs acc fun y hy => h y (by simp [hy])
def endK : List Bs → Bool
  | [] => true
  | r :: rs => r == [35] || (spaceB r && endK rs)
theorem wordsGo_end : ∀ (rs : List Bs) (w : Bs) (acc : List Bs), endK rs = true → wordsGo rs w acc = if w = [] then acc else acc ++ [w]
  | [], w, acc, _ => rfl
  | r :: rs, w, acc, h => by
    by_cases h1 : r = [35]
    · subst h1; simp [wordsGo]
    · have h2 : spaceB r = true ∧ endK rs = true := by simpa [endK, h1] using h
      rw [wordsGo, if_neg h1, if_pos h2.1]
      split
      · rename_i hw
        rw [wordsGo_end rs [] acc h2.2]; simp
      · rename_i hw
        rw [wordsGo_end rs [] _ h2.2]; simp
def pads6 : List Bs := [[], [32], [9, 9], [194, 160], [226, 128, 131, 32], [227, 128, 128]]
def coms3 : List Bs := [[], [35, 32, 120], [32, 35, 195, 169, 35]]
theorem pads_ok : ∀ p ∈ pads6, validS p = true ∧ (∀ x ∈ runesOf p, x ≠ [35] ∧ spaceB x = true) ∧ endK (runesOf p) = true ∧ (∀ x ∈ p, x ≠ 10) ∧ p.length ≤ 4 := by decide +kernel
theorem ends_ok : ∀ p ∈ pads6, ∀ q ∈ coms3, validS (p ++ q) = true ∧ endK (runesOf (p ++ q)) = true ∧ (∀ x ∈ p ++ q, x ≠ 10) ∧ (p ++ q).length ≤ 9 := by decide +kernel
/-- The words of a padded line. -/
theorem words_pad {p a b e : Bs} (hpv : validS p = true) (hps : ∀ x ∈ runesOf p, x ≠ [35] ∧ spaceB x = true) (ha : ∀ x ∈ a, wordB x = true) (hb : ∀ x ∈ b, wordB x = true) (hane : a ≠ []) (hbne : b ≠ []) (he : endK (runesOf e) = true) :
    wordsOf (p ++ (a ++ [32] ++ b) ++ e) = [a, b] := by
  have haA : ∀ x ∈ a ++ [32] ++ b, x.toNat < 128 := by
    intro x hx
    simp only [List.mem_append, List.mem_singleton] at hx
    rcases hx with (h | h) | h
    · exact (wordB_out (ha x h)).1
    · subst h; decide
    · exact (wordB_out (hb x h)).1
  unfold wordsOf
  rw [List.append_assoc, runesOf_app _ p _ (Nat.le_refl _) hpv, runesOf_app _ _ e (Nat.le_refl _) (valid_ascii _ haA), runes_ascii _ haA, wordsGo_spaces _ _ _ hps]
  rw [List.map_append, List.map_append, List.append_assoc, List.append_assoc, wordsGo_word a _ _ _ ha]
  show wordsGo ([32] :: (b.map (fun x => [x]) ++ runesOf e)) ([] ++ a) [] = _
  rw [wordsGo, if_neg (by decide), if_pos (by decide), if_neg (by simpa using hane), wordsGo_word b _ _ _ hb, wordsGo_end _ _ _ he]
  simp [hbne]
theorem words_blank {e : Bs} (he : endK (runesOf e) = true) : wordsOf e = [] := by
  unfold wordsOf
  rw [wordsGo_end _ _ _ he, if_pos rfl]
theorem valid_pad {p a b e : Bs} (hpv : validS p = true) (ha : ∀ x ∈ a, wordB x = true) (hb : ∀ x ∈ b, wordB x = true) (he : validS e = true) : validS (p ++ (a ++ [32] ++ b) ++ e) = true := by
  have haA : ∀ x ∈ a ++ [32] ++ b, x.toNat < 128 := by
    intro x hx
    simp only [List.mem_append, List.mem_singleton] at hx
    rcases hx with (h | h) | h
    · exact (wordB_out (ha x h)).1
    · subst h; decide
    · exact (wordB_out (hb x h)).1
  rw [List.append_assoc, validS_app2 _ p _ (Nat.le_refl _) hpv, validS_app2 _ _ e (Nat.le_refl _) (valid_ascii _ haA), he]

/-! ### Lines that are joined -/
theorem linesOf_cut : ∀ (x r : Bs), (∀ y ∈ x, y ≠ 10) → linesOf (x ++ 10 :: r) = x :: linesOf r
  | [], r, _ => by simp [linesOf]
  | c :: x, r, h => by
    have ih := linesOf_cut x r fun y hy => h y (by simp [hy])
    have hc : c ≠ 10 := h c (by simp)
    show linesOf (c :: (x ++ 10 :: r)) = _
    rw [linesOf, if_neg hc, ih]
def joinL : List Bs → Bs
  | [] => []
  | x :: l => x ++ 10 :: joinL l
theorem joinL_app (a b : List Bs) : joinL (a ++ b) = joinL a ++ joinL b := by
  induction a with
  | nil => rfl
  | cons x a ih => simp [joinL, ih]
theorem lines_join : ∀ (l : List Bs), (∀ x ∈ l, ∀ y ∈ x, y ≠ 10) → linesOf (joinL l) = l ++ [[]]
  | [], _ => rfl
  | x :: l, h => by
    rw [joinL, linesOf_cut _ _ (h x (by simp)), lines_join l fun y hy => h y (by simp [hy])]
    rfl
theorem valid_join : ∀ (l : List Bs), (∀ x ∈ l, validS x = true) → validS (joinL l) = true
  | [], _ => validS_nil
  | x :: l, h => by
    rw [joinL, validS_app2 _ x _ (Nat.le_refl _) (h x (by simp))]
    have := runeLen_ascii (x := 10) (joinL l) (by decide)
    rw [validS_step (by simp) (by omega), this]
    exact valid_join l fun y hy => h y (by simp [hy])

/-! ### Numerals -/
theorem ofNat_toNat {n : Nat} (h : n < 256) : (UInt8.ofNat n).toNat = n := by simp [Nat.mod_eq_of_lt h]
theorem digit_ofNat {d : Nat} (h : d < 10) : digitB (UInt8.ofNat (48 + d)) = true := by
  unfold digitB
  rw [ofNat_toNat (by omega)]
  simp; omega
theorem dec_all : ∀ (n u : Nat), u ≤ n → ∀ x ∈ Lib.decDigits u, digitB x = true
  | n, u, h, x, hx => by
    rw [Lib.decDigits] at hx
    split at hx
    · rename_i h10
      rw [List.mem_singleton] at hx; subst hx; exact digit_ofNat (d := u) h10
    · rw [List.mem_append] at hx
      rcases hx with hx | hx
      · cases n with
        | zero => omega
        | succ n => exact dec_all n _ (by omega) x hx
      · rw [List.mem_singleton] at hx; subst hx; exact digit_ofNat (d := u % 10) (by omega)
theorem decVal_app (a : Bs) (x : UInt8) : decVal (a ++ [x]) = decVal a * 10 + (x.toNat - 48) := by simp [decVal, List.foldl_append]
theorem dec_val : ∀ (n u : Nat), u ≤ n → decVal (Lib.decDigits u) = u
  | n, u, h => by
    rw [Lib.decDigits]
    split
    · show 0 * 10 + ((UInt8.ofNat (48 + u)).toNat - 48) = u
      rw [ofNat_toNat (by omega)]; omega
    · cases n with
      | zero => omega
      | succ n => rw [decVal_app, dec_val n _ (by omega), ofNat_toNat (by omega)]; omega
theorem dec_ne (u : Nat) : Lib.decDigits u ≠ [] := by
  rw [Lib.decDigits]
  split <;> simp
theorem dec_head : ∀ (n u : Nat), u ≤ n → 10 ≤ u → byteAt (Lib.decDigits u) 0 ≠ 48
  | n, u, h, h10 => by
    rw [Lib.decDigits, dif_neg (by omega)]
    have e : byteAt (Lib.decDigits (u / 10) ++ [UInt8.ofNat (48 + u % 10)]) 0 = byteAt (Lib.decDigits (u / 10)) 0 := by
      have := List.length_pos_iff.2 (dec_ne (u / 10))
      unfold byteAt
      rw [List.getElem?_append_left this]
    rw [e]
    by_cases h2 : 10 ≤ u / 10
    · cases n with
      | zero => omega
      | succ n => exact dec_head n _ (by omega) h2
    · rw [Lib.decDigits, dif_pos (by omega)]
      show UInt8.ofNat (48 + u / 10) ≠ 48
      intro e
      have := congrArg UInt8.toNat e
      rw [ofNat_toNat (by omega)] at this
      simp at this
      omega
theorem dec_digits (u : Nat) : digitsB (Lib.decDigits u) = true := by
  unfold digitsB
  have h1 : (Lib.decDigits u).all digitB = true := List.all_eq_true.2 (dec_all u u (Nat.le_refl _))
  have h2 := dec_ne u
  rw [h1]
  by_cases h : 10 ≤ u
  · have := dec_head u u (Nat.le_refl _) h
    simp [h2, this]
  · rw [Lib.decDigits, dif_pos (by omega)]
    simp
theorem dec_number {u : Nat} (h : u < 18446744073709551616) : numberB (Lib.decDigits u) = some u := by
  unfold numberB
  rw [dec_digits, dec_val u u (Nat.le_refl _)]
  simp [h]
theorem digit_word {x : UInt8} (h : digitB x = true) : wordB x = true := by
  unfold digitB at h
  simp at h
  unfold wordB
  simp only [Bool.and_eq_true, Bool.not_eq_true', decide_eq_true_eq, beq_eq_false_iff_ne]
  refine ⟨⟨⟨by omega, ?_⟩, ?_⟩, ?_⟩ <;> (intro e; subst e; simp at h)
end Go.Proofs.YtllepnadffndnaaDoor
