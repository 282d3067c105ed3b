/- A configuration's text, in any order of its lines, is read as the configuration: the plain law. -/
import Derived.Test.YtllepnadffndnaaDoorTextB
import Derived.Test.YtllepnadffndnaaDoorPSpec
import Derived.Test.YtllepnadffndnaaDoorForm2
namespace Go.Proofs.YtllepnadffndnaaDoor

def fieldI (c : MConfig) : Nat → Int
  | 6 => if c.keepInvalid then 1 else 0
  | 9 => c.price
  | i => intF c i
theorem cfg_ext {c d : MConfig} (h : ∀ k, k < 12 → fieldI c k = fieldI d k) : c = d := by
  obtain ⟨a0, a1, a2, a3, a4, a5, a6, a7, a8, a9, a10, a11⟩ := c
  obtain ⟨b0, b1, b2, b3, b4, b5, b6, b7, b8, b9, b10, b11⟩ := d
  have h0 := h 0 (by decide)
  have h1 := h 1 (by decide)
  have h2 := h 2 (by decide)
  have h3 := h 3 (by decide)
  have h4 := h 4 (by decide)
  have h5 := h 5 (by decide)
  have h6 := h 6 (by decide)
  have h7 := h 7 (by decide)
  have h8 := h 8 (by decide)
  have h9 := h 9 (by decide)
  have h10 := h 10 (by decide)
  have h11 := h 11 (by decide)
  simp only [fieldI, intF] at h0 h1 h2 h3 h4 h5 h6 h7 h8 h9 h10 h11
  have h6' : a6 = b6 := by cases a6 <;> cases b6 <;> simp_all
  subst h0 h1 h2 h3 h4 h5 h6' h7 h8 h9 h10 h11
  rfl
def putF (c d : MConfig) (k : Nat) : MConfig := if k = 9 then setP d c.price else setI d k (value16 c k)
theorem putF_field (c d : MConfig) {k j : Nat} (hk : k < 12) (hj : j < 12) : fieldI (putF c d k) j = if j = k then fieldI c j else fieldI d j := by
  obtain ⟨b0, b1, b2, b3, b4, b5, b6, b7, b8, b9, b10, b11⟩ := d
  obtain ⟨a0, a1, a2, a3, a4, a5, a6, a7, a8, a9, a10, a11⟩ := c
  have h : k = 0 ∨ k = 1 ∨ k = 2 ∨ k = 3 ∨ k = 4 ∨ k = 5 ∨ k = 6 ∨ k = 7 ∨ k = 8 ∨ k = 9 ∨ k = 10 ∨ k = 11 := by omega
  have h' : j = 0 ∨ j = 1 ∨ j = 2 ∨ j = 3 ∨ j = 4 ∨ j = 5 ∨ j = 6 ∨ j = 7 ∨ j = 8 ∨ j = 9 ∨ j = 10 ∨ j = 11 := by omega
  rcases h with rfl | rfl | rfl | rfl | rfl | rfl | rfl | rfl | rfl | rfl | rfl | rfl <;> rcases h' with rfl | rfl | rfl | rfl | rfl | rfl | rfl | rfl | rfl | rfl | rfl | rfl <;> first | rfl | (cases a6 <;> rfl)
theorem okTo_true {c : MConfig} : ∀ {n k : Nat}, okTo c n = true → k < n → okK c k = true
  | n + 1, k, h, hk => by
    simp only [okTo, Bool.and_eq_true] at h
    by_cases e : k = n
    · subst e; exact h.2
    · exact okTo_true h.1 (by omega)
theorem validC_out {c : MConfig} (h : validC c = 0) : (∀ k, k < 12 → okK c k = true) ∧ ¬ c.self ≥ c.nodes := by
  unfold validC at h
  split at h
  · rename_i h1
    exact ⟨fun k hk => okTo_true h1.1 hk, h1.2⟩
  · cases h
theorem numW_n {p : Int} (h1 : 0 ≤ p) (h2 : p < 18446744073709551616) : wideT (numW p) = Lib.decDigits p.toNat := by
  simp [wideT, numW, wrap_u64 p h1 h2]
theorem valT_num {c : MConfig} (hok : CfgOK c) {k : Nat} (hk : k < 12) (h9 : k ≠ 9) (h0 : 0 ≤ value16 c k) : valT c k = Lib.decDigits (value16 c k).toNat := by
  have key : k ≠ 6 → valT c k = wideT (valInt (intF c k)).1 ∧ value16 c k = intF c k := by
    intro h6
    refine twelve (p := fun k => k ≠ 6 → k ≠ 9 → valT c k = wideT (valInt (intF c k)).1 ∧ value16 c k = intF c k) hk ?_ ?_ ?_ ?_ ?_ ?_ ?_ ?_ ?_ ?_ ?_ ?_ h6 h9 <;> intro h6 h9 <;> first | exact ⟨rfl, rfl⟩ | exact absurd rfl h6 | exact absurd rfl h9
  by_cases h6 : k = 6
  · subst h6
    show wideT (if c.keepInvalid then ⟨1, false⟩ else ⟨0, false⟩) = Lib.decDigits (if c.keepInvalid then (1 : Int) else 0).toNat
    cases c.keepInvalid <;> rfl
  · obtain ⟨h1, h2⟩ := key h6
    rw [h1, h2]
    rw [h2] at h0
    have := hok.int k
    unfold valInt
    rw [if_neg (by omega), if_neg (by omega)]
    exact numW_n h0 (by omega)
theorem valT_m1 {c : MConfig} {k : Nat} (h8 : k = 8) (h : value16 c k = -1) : valT c k = [45, 49] := by
  subst h8
  have h' : c.blockGas = -1 := h
  show wideT (valInt c.blockGas).1 = _
  rw [h']; rfl
theorem inRange {c : MConfig} (hok : CfgOK c) {k : Nat} (hk : k < 12) (h9 : k ≠ 9) (h : okK c k = true) : leastI k ≤ value16 c k ∧ value16 c k ≤ greatI k := by
  rw [ok16_eq hok hk] at h
  unfold ok16 at h
  simp [h9] at h
  omega
theorem least_nn {k : Nat} (h8 : k ≠ 8) : 0 ≤ leastI k := by
  unfold leastI
  split <;> first | omega | exact absurd rfl h8
theorem set_put {c : MConfig} (hok : CfgOK c) {k : Nat} (hk : k < 12) (h : okK c k = true) (d : MConfig) : setSpec d k (valT c k) = (putF c d k, 0) := by
  by_cases h9 : k = 9
  · have hp := hok.price
    have e : valT c k = Lib.decDigits c.price.toNat := by subst h9; rfl
    rw [e, setSpec_price (by rintro ⟨h8, _⟩; omega) (dec_number (by omega)) h9]
    unfold putF
    rw [if_pos h9]
    congr 2
    omega
  · obtain ⟨h1, h2⟩ := inRange hok hk h9 h
    have hp : putF c d k = setI d k (value16 c k) := by unfold putF; rw [if_neg h9]
    by_cases hm : value16 c k = -1
    · have h8 : k = 8 := by
        rcases Nat.decEq k 8 with h8 | h8
        · have := least_nn h8; omega
        · exact h8
      rw [valT_m1 h8 hm, setSpec_m1 h8 rfl, hp, hm, h8]
    · have hl := leastI_range k
      have h0 : 0 ≤ value16 c k := by omega
      have hg := greatI_pos k
      rw [valT_num hok hk h9 h0]
      have hne : ¬ (k = 8 ∧ Lib.decDigits (value16 c k).toNat = [45, 49]) := by
        rintro ⟨_, e⟩
        have := dec_digits (value16 c k).toNat
        rw [e] at this
        exact absurd this (by decide)
      rw [setSpec_ok hne (dec_number (by omega)) h9 (by omega), hp]
      congr 2
      omega
theorem name_word {k : Nat} (hk : k < 12) : nameL k ≠ [] ∧ ∀ x ∈ nameL k, wordB x = true := by
  have key : ∀ k, k < 12 → nameL k ≠ [] ∧ ∀ x ∈ nameL k, wordB x = true := by decide
  exact key k hk
theorem val_word (c : MConfig) (k : Nat) : valT c k ≠ [] ∧ ∀ x ∈ valT c k, wordB x = true := by
  unfold valT wideT
  split
  · decide
  · exact ⟨dec_ne _, fun x hx => digit_word (dec_all _ _ (Nat.le_refl _) x hx)⟩
theorem word_no10 {l : Bs} (h : ∀ x ∈ l, wordB x = true) : ∀ x ∈ l, wordB x = true := h
theorem val_no10 (c : MConfig) (k : Nat) : ∀ x ∈ valT c k, x ≠ 10 := by
  unfold valT wideT
  split
  · decide
  · intro x hx e
    have := dec_all _ _ (Nat.le_refl _) x hx
    subst e
    exact absurd this (by decide)
theorem name_no10 {k : Nat} (hk : k < 12) : ∀ x ∈ nameL k, x ≠ 10 := by
  have key : ∀ k, k < 12 → ∀ x ∈ nameL k, x ≠ 10 := by decide
  exact key k hk

theorem goSpec_run {c : MConfig} (hok : CfgOK c) (hv : validC c = 0) : ∀ (ls : List Bs) (ks : List Nat) (i : Nat) (d : MConfig) (seen : List Nat),
    (ls.map wordsOf).filter (fun w => !w.isEmpty) = ks.map (fun k => [nameL k, valT c k]) → (∀ k ∈ ks, k < 12 ∧ k ∉ seen) → ks.Nodup → (∀ k, k < 12 → k ∈ ks ∨ k ∈ seen) → (∀ k ∈ seen, k < 12 ∧ fieldI d k = fieldI c k) → goSpec ls i d seen = (c, 0, 0)
  | [], ks, i, d, seen, hw, _, _, hall, hs => by
    have hk : ks = [] := by
      cases ks with
      | nil => rfl
      | cons a r => simp at hw
    subst hk
    have e : d = c := cfg_ext fun k hk => by
      rcases hall k hk with h | h
      · cases h
      · exact (hs k h).2
    subst e
    unfold goSpec
    rw [if_neg (validC_out hv).2]
  | l :: ls, ks, i, d, seen, hw, hks, hnd, hall, hs => by
    by_cases he : wordsOf l = []
    · unfold goSpec
      rw [if_pos he]
      refine goSpec_run hok hv ls ks _ d seen ?_ hks hnd hall hs
      simpa [he] using hw
    · have hw' : wordsOf l :: (ls.map wordsOf).filter (fun w => !w.isEmpty) = ks.map (fun k => [nameL k, valT c k]) := by
        rw [← hw]
        simp [he]
      cases ks with
      | nil => cases hw'
      | cons k ks =>
        rw [List.map_cons] at hw'
        injection hw' with h1 h2
        obtain ⟨hk, hns⟩ := hks k (by simp)
        have hl : lineSpec d seen (wordsOf l) = (0, putF c d k, k :: seen) := by
          rw [h1]
          show (match keyIdx (nameL k) with | none => _ | some k => _) = _
          rw [keyIdx_name hk]
          show (if k ∈ seen then _ else _) = _
          rw [if_neg hns, set_put hok hk ((validC_out hv).1 k hk)]
        unfold goSpec
        rw [if_neg he, hl, if_neg (by simp)]
        rw [List.nodup_cons] at hnd
        refine goSpec_run hok hv ls ks _ _ _ h2 ?_ hnd.2 ?_ ?_
        · intro j hj
          refine ⟨(hks j (by simp [hj])).1, ?_⟩
          rw [List.mem_cons]
          rintro (rfl | h)
          · exact hnd.1 hj
          · exact (hks j (by simp [hj])).2 h
        · intro j hj
          rcases hall j hj with h | h
          · rcases List.mem_cons.1 h with rfl | h
            · exact .inr (by simp)
            · exact .inl h
          · exact .inr (by simp [h])
        · intro j hj
          rcases List.mem_cons.1 hj with rfl | h
          · exact ⟨hk, by rw [putF_field _ _ hk hk, if_pos rfl]⟩
          · obtain ⟨hj12, hf⟩ := hs j h
            refine ⟨hj12, ?_⟩
            rw [putF_field _ _ hk hj12]
            split
            · rfl
            · exact hf
theorem parse_lines {c : MConfig} (hok : CfgOK c) (hv : validC c = 0) (L : List Bs) (ks : List Nat) (hw : (L.map wordsOf).filter (fun w => !w.isEmpty) = ks.map (fun k => [nameL k, valT c k])) (hks : ∀ k ∈ ks, k < 12) (hnd : ks.Nodup) (hall : ∀ k, k < 12 → k ∈ ks)
    (hval : ∀ x ∈ L, validS x = true) (h10 : ∀ x ∈ L, ∀ y ∈ x, y ≠ 10) (hlen : (joinL L).length ≤ 4096) : parseSpec (joinL L) = (c, 0, 0) := by
  unfold parseSpec
  rw [if_neg (by omega), if_neg (by rw [valid_join L hval]; simp), lines_join L h10]
  refine goSpec_run hok hv _ ks 0 defC [] ?_ (fun k hk => ⟨hks k hk, by simp⟩) hnd (fun k hk => .inl (hall k hk)) (by simp)
  rw [List.map_append, List.filter_append, hw]
  simp [show wordsOf [] = [] from by unfold wordsOf; rw [runesOf_nil]; rfl]
def lineK (c : MConfig) (k : Nat) : Bs := nameL k ++ [32] ++ valT c k
theorem textTo_join (c : MConfig) : ∀ n, textTo c n = joinL ((List.range n).map (lineK c))
  | 0 => rfl
  | n + 1 => by
    rw [textTo, textTo_join c n, List.range_succ, List.map_append, joinL_app]
    simp [joinL, lineT, lineK]
theorem parse_form {c : MConfig} (hok : CfgOK c) (hv : validC c = 0) : parseSpec (formT c) = (c, 0, 0) := by
  have hl := textTo_len hok 12
  unfold formT
  rw [if_pos hv]
  rw [textTo_join] at hl ⊢
  refine parse_lines hok hv _ (List.range 12) ?_ (fun k hk => List.mem_range.1 hk) List.nodup_range (fun k hk => List.mem_range.2 hk) ?_ ?_ (by omega)
  · rw [List.map_map]
    have : ∀ ks : List Nat, (∀ k ∈ ks, k < 12) → (ks.map (wordsOf ∘ lineK c)).filter (fun w => !w.isEmpty) = ks.map (fun k => [nameL k, valT c k]) := by
      intro ks
      induction ks with
      | nil => intro _; rfl
      | cons k ks ih =>
        intro h
        have hw := words_pad (p := []) (e := []) (a := nameL k) (b := valT c k) validS_nil (by rw [runesOf_nil]; simp) (name_word (h k (by simp))).2 (val_word c k).2 (name_word (h k (by simp))).1 (val_word c k).1 (by rw [runesOf_nil]; rfl)
        simp only [List.nil_append, List.append_nil] at hw
        simp only [List.map_cons, Function.comp, lineK]
        rw [List.filter_cons, hw]
        simp only [List.isEmpty_cons, Bool.not_false, if_true]
        congr 1
        exact ih fun j hj => h j (by simp [hj])
    exact this _ fun k hk => List.mem_range.1 hk
  · intro x hx
    obtain ⟨k, hk, rfl⟩ := List.mem_map.1 hx
    have hv := valid_pad (p := []) (e := []) (a := nameL k) (b := valT c k) validS_nil (name_word (List.mem_range.1 hk)).2 (val_word c k).2 validS_nil
    simpa [lineK] using hv
  · intro x hx y hy
    obtain ⟨k, hk, rfl⟩ := List.mem_map.1 hx
    simp only [lineK, List.mem_append, List.mem_singleton] at hy
    rcases hy with (h | h) | h
    · exact name_no10 (List.mem_range.1 hk) y h
    · subst h; decide
    · exact val_no10 c k y h
end Go.Proofs.YtllepnadffndnaaDoor
