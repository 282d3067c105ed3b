/- FormatConfig. -/
import Derived.Test.YtllepnadffndnaaDoorForm
namespace Go.Proofs.YtllepnadffndnaaDoor
open Go.RowKit

theorem okTo_le {c : MConfig} : ∀ {n k : Nat}, okTo c n = true → k < n → okK c k = true
  | 0, k, _, hk => by omega
  | n + 1, k, h, hk => by
    simp only [okTo, Bool.and_eq_true] at h
    by_cases e : k = n
    · subst e; exact h.2
    · exact okTo_le h.1 (by omega)
theorem valid_ok {c : MConfig} (h : validC c = 0) {k : Nat} (hk : k < 12) : okK c k = true := by
  unfold validC at h
  split at h
  · rename_i h2; exact okTo_le h2.1 hk
  · cases h
theorem decDigits_1 : Lib.decDigits 1 = [49] := by simp [Lib.decDigits]
theorem decDigits_0 : Lib.decDigits 0 = [48] := by simp [Lib.decDigits]
theorem rval_eq {c : MConfig} (hc : CfgOK c) {k : Nat} (hk : k < 12) (h9 : k ≠ 9) (hok : okK c k = true) : Lib.itoa (value16 c k) = valT c k := by
  have int : ∀ p : Int, -9223372036854775808 ≤ p → p < 9223372036854775808 → (valInt p).2 = true → Lib.itoa p = wideT (valInt p).1 := by
    intro p h1 h2 h3
    unfold valInt at h3 ⊢
    by_cases hp : p < -1
    · rw [if_pos hp] at h3; cases h3
    · rw [if_neg hp] at h3 ⊢
      by_cases hp2 : p = -1
      · rw [if_pos hp2]
        subst hp2
        simp [Lib.itoa, wideT, decDigits_1]
      · rw [if_neg hp2]
        have hw : IntKind.u64.wrap p = p := wrapu_in _ (by omega) (by omega)
        have hneg : ¬ p < 0 := by omega
        simp [Lib.itoa, wideT, numW, hw, hneg]
  unfold okK at hok
  simp only [Bool.and_eq_true] at hok
  have h : k = 6 ∨ k = 0 ∨ k = 1 ∨ k = 2 ∨ k = 3 ∨ k = 4 ∨ k = 5 ∨ k = 7 ∨ k = 8 ∨ k = 10 ∨ k = 11 := by omega
  rcases h with rfl | h
  · unfold value16 valT valueF
    cases c.keepInvalid <;> simp [Lib.itoa, wideT]
  · have i := hc.int k
    rcases h with rfl | rfl | rfl | rfl | rfl | rfl | rfl | rfl | rfl | rfl
    all_goals exact int _ i.1 i.2 hok.1

set_option maxRecDepth 100000 in
set_option maxHeartbeats 1000000 in
theorem rformat_c (c : MConfig) (hcok : CfgOK c) (w : World) :
    Calls Tryd.prog 18 #[.agg ⟨cfgV c⟩] w fun e w' => e = .returned (.tuple #[.string ⟨(formT c).toArray⟩, .int .i64 (validC c)]) ∧ Below w.heap.size w w' := by
  have hval := rvalue_c c
  have hvd := rvalidate_c c hcok
  have htl := textTo_len hcok
  have hll := lineT_len hcok
  have hform : validC c = 0 → formT c = textTo c 12 := fun h => by rw [formT, if_pos h]
  have hform1 : validC c ≠ 0 → formT c = [] := fun h => by rw [formT, if_neg h]
  have hla := line_app c
  have hl0 : ∀ k, lineT c k = nameL k ++ [32] ++ valT c k ++ [10] := fun _ => rfl
  have h00 : textTo c 0 = [] := rfl
  have hrv : validC c = 0 → ∀ k, k < 12 → k ≠ 9 → Lib.itoa (value16 c k) = valT c k := fun h k hk h9 => rval_eq hcok hk h9 (valid_ok h hk)
  have hr9 : valT c 9 = Lib.decDigits c.price.toNat := rfl
  have hpr := hcok.price
  have hin : ∀ k, In64 (value16 c k) := by
    intro k
    unfold value16
    split
    · cases c.keepInvalid <;> (unfold In64; decide)
    · unfold In64; decide
    · exact hcok.int _
  have hitl : ∀ k, (Lib.itoa (value16 c k)).length ≤ 20 := fun k => itoa_len _ (hin k).1 (hin k).2
  generalize hv0 : validC c = v0 at *
  generalize hT : textTo c = T at *
  generalize hF : formT c = F at *
  generalize hV : valT c = V at *
  generalize hLL : lineT c = LL at *
  generalize hW : value16 c = W at *
  clear hv0 hT hF hV hLL hW hcok
  obtain ⟨c0, c1, c2, c3, c4, c5, c6, c7, c8, c9, c10, c11⟩ := c
  have hpr0 : 0 ≤ c9 := hpr.1
  have hpr1 : c9 < 18446744073709551616 := hpr.2
  have hr9 : V 9 = Lib.decDigits c9.toNat := hr9
  refine calls_of_vc seat Tryd.func18 rfl rfl (Nat.le_of_ble_eq_true rfl) (N := 39) (args := [.val (.agg ⟨cfgV ⟨c0, c1, c2, c3, c4, c5, c6, c7, c8, c9, c10, c11⟩⟩)]) (Nat.le_of_ble_eq_true rfl) rfl (A.start w) ?_
  intro g0 _
  refine ⟨rfl, rfl, ?_⟩
  (intro w1 hA; refine (hvd w1).mono ?_; rintro e w2 ⟨rfl, hb⟩; refine ⟨.val _, _, _, rfl, hA.below' hb, ?_⟩)
  refine ⟨fun h => ?_, fun h => ?_⟩
  · have h : v0 ≠ 0 := by simpa using h
    intro w' hA
    refine ⟨?_, hA.bel (by simp)⟩
    rw [hform1 h]; rfl
  have h : v0 = 0 := by simpa using h
  have hrv := hrv h
  intro w1 hA
  refine (keys_c w1).mono ?_
  rintro e w2 ⟨gk, rfl, hb, hgk, hbk⟩
  refine ⟨.val _, [(1, ⟨gk, 9, keysV.map SV.val⟩), (0, ⟨g0, 24, cfgS ⟨c0, c1, c2, c3, c4, c5, c6, c7, c8, c9, c10, c11⟩⟩)], _, rfl, (hA.adopt hb hgk hbk).sub ⟨rfl, rfl, trivial⟩, ?_⟩
  refine ⟨Nat, fun k => [(16, .val (.int .i64 k)), (15, .val (.int .i64 (12 : Nat))), (14, .val (.slice (some ⟨gk, 0, none⟩) 12 12)), (1, .ptr 0 g0 0), (5, .val (.string ⟨(T k).toArray⟩))],
    fun _ => [(1, ⟨gk, 9, keysV.map SV.val⟩), (0, ⟨g0, 24, cfgS ⟨c0, c1, c2, c3, c4, c5, c6, c7, c8, c9, c10, c11⟩⟩)], fun _ => [(w, fun _ => False)], fun k => k ≤ 12, fun k => 12 - k, ?_, ?_⟩
  · intro w1 hA
    exact ⟨0, by omega, ⟨⟨_, rfl, rfl⟩, ⟨_, rfl, rfl⟩, ⟨_, rfl, rfl⟩, ⟨_, rfl, rfl⟩, ⟨_, rfl, by rw [h00]⟩, trivial⟩, hA.sub ⟨rfl, rfl, trivial⟩⟩
  clear hA hb hbk
  intro k hk
  have hk : k ≤ 12 := hk
  refine ⟨fun hx => ?_, fun hx => ?_⟩
  · have hk12 : k < 12 := by have : (k : Int) < (12 : Nat) := of_decide_eq_true hx
                             omega
    have hl1 := nameL_short k
    have hl3 := htl k
    have hl4 := hll k
    rw [hl0] at hl4
    have hlak := hla k
    refine ⟨gk, 0, k, rfl, rfl, hk12, ?_⟩
    refine ⟨.string ⟨(nameL k).toArray⟩, fun w' hA => ldk seat.tab rfl rfl (i := 1) rfl rfl (nth_val (n := 0 + k * 1) ?_) hA, ?_⟩
    · rw [Nat.zero_add, Nat.mul_one]
      (have h12 : k = 0 ∨ k = 1 ∨ k = 2 ∨ k = 3 ∨ k = 4 ∨ k = 5 ∨ k = 6 ∨ k = 7 ∨ k = 8 ∨ k = 9 ∨ k = 10 ∨ k = 11 := (by omega); rcases h12 with rfl | rfl | rfl | rfl | rfl | rfl | rfl | rfl | rfl | rfl | rfl | rfl <;> rfl)
    refine ⟨rfl, rfl, ?_⟩
    (intro w1 hA; refine (hval k hk12 w1).mono ?_; rintro e w2 ⟨rfl, hb⟩; refine ⟨.val _, _, _, rfl, hA.below' hb, ?_⟩)
    (intro w1 hA; refine (decimal_c (W k) (hin k).1 (hin k).2 w1).mono ?_; rintro e w2 ⟨rfl, hb⟩; refine ⟨.val _, _, _, rfl, hA.below' hb, ?_⟩)
    refine ⟨fun h9 => ?_, fun h9 => ?_⟩
    · have h9 : k = 9 := by have := eq_of_beq h9; omega
      subst h9
      refine ⟨_, rfl, rfl, ?_⟩
      obtain ⟨u, rfl⟩ : ∃ u : Nat, c9 = u := ⟨c9.toNat, by omega⟩
      (intro w1 hA; refine (unsigned_c u (by omega) w1).mono ?_; rintro e w2 ⟨rfl, hb⟩; refine ⟨.val _, _, _, rfl, hA.below' hb, ?_⟩)
      rw [Int.toNat_natCast] at hr9
      rw [hr9] at hl4 hlak
      generalize Lib.decDigits u = D at *
      simp only [List.length_append, List.length_cons, List.length_nil] at hl4
      refine ⟨by simp [ByteArray.size]; omega, by simp [ByteArray.size]; omega, by simp [ByteArray.size]; omega, by simp [ByteArray.size]; omega, ?_⟩
      refine ⟨_, wrap_in _ (by omega) (by omega), ?_⟩
      intro w' hA
      exact ⟨9 + 1, by show 9 + 1 ≤ 12; omega, by show 12 - (9 + 1) < 12 - 9; omega, ⟨⟨_, rfl, rfl⟩, ⟨_, rfl, rfl⟩, ⟨_, rfl, rfl⟩, ⟨_, rfl, rfl⟩, ⟨_, rfl, congrArg Value.string hlak⟩, trivial⟩, hA.sub ⟨rfl, rfl, trivial⟩⟩
    · have h9 : k ≠ 9 := by have := ne_of_beq_false h9; omega
      rw [← hrv k hk12 h9] at hl4 hlak
      generalize Lib.itoa (W k) = D at *
      simp only [List.length_append, List.length_cons, List.length_nil] at hl4
      refine ⟨by simp [ByteArray.size]; omega, by simp [ByteArray.size]; omega, by simp [ByteArray.size]; omega, by simp [ByteArray.size]; omega, ?_⟩
      refine ⟨_, wrap_in _ (by omega) (by omega), ?_⟩
      intro w' hA
      exact ⟨k + 1, by show k + 1 ≤ 12; omega, by show 12 - (k + 1) < 12 - k; omega, ⟨⟨_, rfl, rfl⟩, ⟨_, rfl, rfl⟩, ⟨_, rfl, rfl⟩, ⟨_, rfl, rfl⟩, ⟨_, rfl, congrArg Value.string hlak⟩, trivial⟩, hA.sub ⟨rfl, rfl, trivial⟩⟩
  · have e : k = 12 := by have : ¬ (k : Int) < (12 : Nat) := of_decide_eq_false hx
                          omega
    subst e
    intro w' hA
    refine ⟨?_, hA.bel (by simp)⟩
    rw [hform h, h]; rfl
end Go.Proofs.YtllepnadffndnaaDoor
