/- The reference's Default and ValidateConfig. -/
import Derived.Test.YtllepnadffndnaaDoorCfgC
namespace Go.Proofs.YtllepnadffndnaaDoor
open Go.RowKit

theorem rdefault_c (w : World) : Calls Tryd.prog 16 #[] w fun e w' => e = .returned (.agg ⟨cfgV defC⟩) ∧ Below w.heap.size w w' := by
  refine calls_of_vc seat Tryd.func16 rfl rfl (Nat.le_of_ble_eq_true rfl) (N := 2) (args := []) (Nat.le_of_ble_eq_true rfl) rfl (A.start w) ?_
  intro g0 _
  refine ⟨⟨rfl, rfl, rfl, rfl, rfl, rfl, rfl, rfl, trivial⟩, ?_⟩
  refine ⟨rfl, rfl, rfl, rfl, ?_⟩
  refine ⟨rfl, rfl, ?_⟩
  (intro w' hA; exact ⟨rfl, hA.bel (by simp)⟩)

def keysV : List Value := [.string ⟨(nameL 0).toArray⟩, .string ⟨(nameL 1).toArray⟩, .string ⟨(nameL 2).toArray⟩, .string ⟨(nameL 3).toArray⟩, .string ⟨(nameL 4).toArray⟩, .string ⟨(nameL 5).toArray⟩, .string ⟨(nameL 6).toArray⟩, .string ⟨(nameL 7).toArray⟩, .string ⟨(nameL 8).toArray⟩, .string ⟨(nameL 9).toArray⟩, .string ⟨(nameL 10).toArray⟩, .string ⟨(nameL 11).toArray⟩]
theorem keys_c (w : World) : Calls Tryd.prog 30 #[] w fun e w' => ∃ g, e = .returned (.slice (some ⟨g, 0, none⟩) 12 12) ∧ Below w.heap.size w w' ∧ w.heap.size ≤ g ∧ Blk w' g 9 ((keysV.map SV.val).map SV.den).toArray := by
  refine calls_of_vc seat Tryd.func30 rfl rfl (Nat.le_of_ble_eq_true rfl) (N := 2) (args := []) (Nat.le_of_ble_eq_true rfl) rfl (A.start w) ?_
  refine ⟨⟨rfl, rfl, rfl, rfl, rfl, rfl, rfl, rfl, rfl, rfl, rfl, rfl, trivial⟩, ?_⟩
  intro g0 _
  intro w' hA
  exact ⟨g0, rfl, hA.bel (by simp), hA.from_start (by simp) 0 rfl, hA.blk 0 _ rfl⟩

def leastI : Nat → Int
  | 0 | 1 | 2 | 7 | 11 => 1
  | 8 => -1
  | _ => 0
def greatI : Nat → Int
  | 0 => 512
  | 1 | 7 => 1048576
  | 2 => 4096
  | 3 => 1024
  | 4 | 5 => 1073741824
  | 6 => 1
  | 8 => 1125899906842624
  | 9 => 0
  | 10 => 7
  | _ => 8
def value16 (c : MConfig) : Nat → Int
  | 6 => if c.keepInvalid then 1 else 0
  | 9 => 0
  | i => intF c i

theorem least_c (k : Nat) (hk : k < 12) (w : World) : Calls Tryd.prog 32 #[.int .i64 k] w fun e w' => e = .returned (.int .i64 (leastI k)) ∧ Below w.heap.size w w' := by
  refine calls_of_vc seat Tryd.func32 rfl rfl (Nat.le_of_ble_eq_true rfl) (N := 7) (args := [.val (.int .i64 k)]) (Nat.le_of_ble_eq_true rfl) rfl (A.start w) ?_
  refine ⟨⟨rfl, rfl, rfl, rfl, rfl, rfl, rfl, rfl, rfl, rfl, rfl, rfl, trivial⟩, ?_⟩
  intro g0 _
  refine ⟨_, _, k, rfl, rfl, hk, ?_⟩
  refine ⟨.int .i64 (leastI k), fun w' hA => ldk seat.tab rfl rfl (i := 0) rfl rfl (nth_val (n := 0 + k * 1) ?_) hA, ?_⟩
  · rw [Nat.zero_add, Nat.mul_one]
    (have h12 : k = 0 ∨ k = 1 ∨ k = 2 ∨ k = 3 ∨ k = 4 ∨ k = 5 ∨ k = 6 ∨ k = 7 ∨ k = 8 ∨ k = 9 ∨ k = 10 ∨ k = 11 := (by omega); rcases h12 with rfl | rfl | rfl | rfl | rfl | rfl | rfl | rfl | rfl | rfl | rfl | rfl <;> rfl)
  (intro w' hA; exact ⟨rfl, hA.bel (by simp)⟩)
theorem greatest_c (k : Nat) (hk : k < 12) (w : World) : Calls Tryd.prog 33 #[.int .i64 k] w fun e w' => e = .returned (.int .i64 (greatI k)) ∧ Below w.heap.size w w' := by
  refine calls_of_vc seat Tryd.func33 rfl rfl (Nat.le_of_ble_eq_true rfl) (N := 7) (args := [.val (.int .i64 k)]) (Nat.le_of_ble_eq_true rfl) rfl (A.start w) ?_
  refine ⟨⟨rfl, rfl, rfl, rfl, rfl, rfl, rfl, rfl, rfl, rfl, rfl, rfl, trivial⟩, ?_⟩
  intro g0 _
  refine ⟨_, _, k, rfl, rfl, hk, ?_⟩
  refine ⟨.int .i64 (greatI k), fun w' hA => ldk seat.tab rfl rfl (i := 0) rfl rfl (nth_val (n := 0 + k * 1) ?_) hA, ?_⟩
  · rw [Nat.zero_add, Nat.mul_one]
    (have h12 : k = 0 ∨ k = 1 ∨ k = 2 ∨ k = 3 ∨ k = 4 ∨ k = 5 ∨ k = 6 ∨ k = 7 ∨ k = 8 ∨ k = 9 ∨ k = 10 ∨ k = 11 := (by omega); rcases h12 with rfl | rfl | rfl | rfl | rfl | rfl | rfl | rfl | rfl | rfl | rfl | rfl <;> rfl)
  (intro w' hA; exact ⟨rfl, hA.bel (by simp)⟩)
theorem rvalue_c (c : MConfig) (k : Nat) (hk : k < 12) (w : World) : Calls Tryd.prog 31 #[.agg ⟨cfgV c⟩, .int .i64 k] w fun e w' => e = .returned (.int .i64 (value16 c k)) ∧ Below w.heap.size w w' := by
  obtain ⟨c0, c1, c2, c3, c4, c5, c6, c7, c8, c9, c10, c11⟩ := c
  generalize hx : value16 ⟨c0, c1, c2, c3, c4, c5, c6, c7, c8, c9, c10, c11⟩ k = x
  cases c6
  all_goals
    refine calls_of_vc seat Tryd.func31 rfl rfl (Nat.le_of_ble_eq_true rfl) (N := 33) (args := [.val (.agg ⟨cfgV ⟨c0, c1, c2, c3, c4, c5, _, c7, c8, c9, c10, c11⟩⟩), .val (.int .i64 k)]) (Nat.le_of_ble_eq_true rfl) rfl (A.start w) ?_
    intro g0 _
    (repeat (first | refine ⟨fun _ => ?_, fun h => Bool.noConfusion h⟩ | refine ⟨fun h => Bool.noConfusion h, fun _ => ?_⟩ | refine ⟨_, wrap_in _ (by omega) (by omega), ?_⟩ | refine ⟨_, wrapu_in _ (by omega) (by omega), ?_⟩ | refine ⟨_, wrap8_in _ (by omega) (by omega), ?_⟩ | refine ⟨_, rfl, ?_⟩ | refine ⟨rfl, ?_⟩))
    refine ⟨⟨rfl, rfl, rfl, rfl, rfl, rfl, rfl, rfl, rfl, rfl, rfl, rfl, trivial⟩, ?_⟩
    intro g1 _
    refine ⟨_, _, k, rfl, rfl, hk, ?_⟩
    refine ⟨.int .i64 x, fun w' hA => ldk seat.tab rfl rfl (i := 1) rfl rfl (nth_val (n := 0 + k * 1) ?_) hA, ?_⟩
    · rw [Nat.zero_add, Nat.mul_one, ← hx]
      (have h12 : k = 0 ∨ k = 1 ∨ k = 2 ∨ k = 3 ∨ k = 4 ∨ k = 5 ∨ k = 6 ∨ k = 7 ∨ k = 8 ∨ k = 9 ∨ k = 10 ∨ k = 11 := (by omega); rcases h12 with rfl | rfl | rfl | rfl | rfl | rfl | rfl | rfl | rfl | rfl | rfl | rfl <;> rfl)
    (intro w' hA; exact ⟨rfl, hA.bel (by simp)⟩)

def setI (c : MConfig) (i : Nat) (v : Int) : MConfig := match c, i with
  | ⟨_, c1, c2, c3, c4, c5, c6, c7, c8, c9, c10, c11⟩, 0 => ⟨v, c1, c2, c3, c4, c5, c6, c7, c8, c9, c10, c11⟩
  | ⟨c0, _, c2, c3, c4, c5, c6, c7, c8, c9, c10, c11⟩, 1 => ⟨c0, v, c2, c3, c4, c5, c6, c7, c8, c9, c10, c11⟩
  | ⟨c0, c1, _, c3, c4, c5, c6, c7, c8, c9, c10, c11⟩, 2 => ⟨c0, c1, v, c3, c4, c5, c6, c7, c8, c9, c10, c11⟩
  | ⟨c0, c1, c2, _, c4, c5, c6, c7, c8, c9, c10, c11⟩, 3 => ⟨c0, c1, c2, v, c4, c5, c6, c7, c8, c9, c10, c11⟩
  | ⟨c0, c1, c2, c3, _, c5, c6, c7, c8, c9, c10, c11⟩, 4 => ⟨c0, c1, c2, c3, v, c5, c6, c7, c8, c9, c10, c11⟩
  | ⟨c0, c1, c2, c3, c4, _, c6, c7, c8, c9, c10, c11⟩, 5 => ⟨c0, c1, c2, c3, c4, v, c6, c7, c8, c9, c10, c11⟩
  | ⟨c0, c1, c2, c3, c4, c5, _, c7, c8, c9, c10, c11⟩, 6 => ⟨c0, c1, c2, c3, c4, c5, v == 1, c7, c8, c9, c10, c11⟩
  | ⟨c0, c1, c2, c3, c4, c5, c6, _, c8, c9, c10, c11⟩, 7 => ⟨c0, c1, c2, c3, c4, c5, c6, v, c8, c9, c10, c11⟩
  | ⟨c0, c1, c2, c3, c4, c5, c6, c7, _, c9, c10, c11⟩, 8 => ⟨c0, c1, c2, c3, c4, c5, c6, c7, v, c9, c10, c11⟩
  | c, 9 => c
  | ⟨c0, c1, c2, c3, c4, c5, c6, c7, c8, c9, _, c11⟩, 10 => ⟨c0, c1, c2, c3, c4, c5, c6, c7, c8, c9, v, c11⟩
  | ⟨c0, c1, c2, c3, c4, c5, c6, c7, c8, c9, c10, _⟩, _ => ⟨c0, c1, c2, c3, c4, c5, c6, c7, c8, c9, c10, v⟩
set_option maxHeartbeats 1000000 in
theorem with_c (c : MConfig) (k : Nat) (hk : k < 12) (n : Int) (w : World) : Calls Tryd.prog 72 #[.agg ⟨cfgV c⟩, .int .i64 k, .int .i64 n] w fun e w' => e = .returned (.agg ⟨cfgV (setI c k n)⟩) ∧ Below w.heap.size w w' := by
  obtain ⟨c0, c1, c2, c3, c4, c5, c6, c7, c8, c9, c10, c11⟩ := c
  have h : k = 0 ∨ k = 1 ∨ k = 2 ∨ k = 3 ∨ k = 4 ∨ k = 5 ∨ k = 7 ∨ k = 8 ∨ k = 10 ∨ k = 11 ∨ k = 6 ∨ k = 9 := by omega
  rcases h with rfl | rfl | rfl | rfl | rfl | rfl | rfl | rfl | rfl | rfl | rfl | rfl
  all_goals
    refine calls_of_vc seat Tryd.func72 rfl rfl (Nat.le_of_ble_eq_true rfl) (N := 54) (args := [.val (.agg ⟨cfgV ⟨c0, c1, c2, c3, c4, c5, c6, c7, c8, c9, c10, c11⟩⟩), .val (.int .i64 (_ : Nat)), .val (.int .i64 n)]) (Nat.le_of_ble_eq_true rfl) rfl (A.start w) ?_
    intro g0 _
    intro g1 _
    (repeat (first | refine ⟨fun _ => ?_, fun h => Bool.noConfusion h⟩ | refine ⟨fun h => Bool.noConfusion h, fun _ => ?_⟩ | refine ⟨_, wrap_in _ (by omega) (by omega), ?_⟩ | refine ⟨_, wrapu_in _ (by omega) (by omega), ?_⟩ | refine ⟨_, wrap8_in _ (by omega) (by omega), ?_⟩ | refine ⟨_, rfl, ?_⟩ | refine ⟨rfl, ?_⟩))
    (intro w' hA; exact ⟨rfl, hA.bel (by simp)⟩)

structure CfgOK (c : MConfig) : Prop where
  int : ∀ k, -9223372036854775808 ≤ intF c k ∧ intF c k < 9223372036854775808
  price : 0 ≤ c.price ∧ c.price < 18446744073709551616
def ok16 (c : MConfig) (k : Nat) : Bool := k == 9 || (!decide (value16 c k < leastI k) && !decide (greatI k < value16 c k))
theorem ok16_eq {c : MConfig} (hc : CfgOK c) {k : Nat} (hk : k < 12) : okK c k = ok16 c k := by
  have int : ∀ (p a : Int) (am : Bool) (b : Int), -9223372036854775808 ≤ p → p < 9223372036854775808 → 0 ≤ a → 0 ≤ b → (am = true → a = 0) →
      ((valInt p).2 && withinW ⟨a, am⟩ ⟨b, false⟩ (valInt p).1) = (!decide (p < if am then -1 else a) && !decide (b < p)) := by
    intro p a am b h1 h2 h3 h4 h5
    unfold valInt
    by_cases hp : p < -1
    · rw [if_pos hp]
      cases am <;> simp <;> omega
    · rw [if_neg hp]
      by_cases hp2 : p = -1
      · rw [if_pos hp2]
        subst hp2
        cases am <;> simp [withinW, lessW] <;> omega
      · rw [if_neg hp2]
        have hw : IntKind.u64.wrap p = p := wrapu_in _ (by omega) (by omega)
        cases am
        · simp [withinW, lessW, numW, hw]
        · simp [withinW, lessW, numW, hw]
          omega
  have h : k = 6 ∨ k = 9 ∨ k = 0 ∨ k = 1 ∨ k = 2 ∨ k = 3 ∨ k = 4 ∨ k = 5 ∨ k = 7 ∨ k = 8 ∨ k = 10 ∨ k = 11 := by omega
  rcases h with rfl | rfl | h
  · unfold okK ok16 valueF value16
    cases c.keepInvalid <;> rfl
  · unfold okK ok16 valueF
    have := hc.price
    simp [withinW, lessW, leastW, mostW]
    omega
  · have i := hc.int k
    rcases h with rfl | rfl | rfl | rfl | rfl | rfl | rfl | rfl | rfl | rfl
    all_goals
      unfold okK ok16
      refine (int _ _ _ _ i.1 i.2 (by decide) (by decide) (by decide)).trans ?_
      rfl

set_option maxRecDepth 100000 in
theorem rvalidate_c (c : MConfig) (hcok : CfgOK c) (w : World) : Calls Tryd.prog 14 #[.agg ⟨cfgV c⟩] w fun e w' => e = .returned (.int .i64 (validC c)) ∧ Below w.heap.size w w' := by
  have hval := rvalue_c c
  have hbad : ∀ k, k < 12 → ok16 c k = false → validC c = 1 := by
    intro k hk h
    rw [← ok16_eq hcok hk] at h
    simp [validC, okTo_false h hk]
  have hgood : okTo c 12 = true → validC c = if c.self ≥ c.nodes then 1 else 0 := by
    intro h
    unfold validC
    by_cases h2 : c.self ≥ c.nodes <;> simp [h, h2]
  have hok : ∀ k, ok16 c k = (k == 9 || (!decide (value16 c k < leastI k) && !decide (greatI k < value16 c k))) := fun _ => rfl
  have hstep : ∀ k, k < 12 → okTo c (k + 1) = (okTo c k && ok16 c k) := fun k hk => by rw [← ok16_eq hcok hk]; rfl
  obtain ⟨c0, c1, c2, c3, c4, c5, c6, c7, c8, c9, c10, c11⟩ := c
  generalize hc : (⟨c0, c1, c2, c3, c4, c5, c6, c7, c8, c9, c10, c11⟩ : MConfig) = c at hval hbad hgood hok hstep ⊢
  rw [← hc]
  refine calls_of_vc seat Tryd.func14 rfl rfl (Nat.le_of_ble_eq_true rfl) (N := 33) (args := [.val (.agg ⟨cfgV ⟨c0, c1, c2, c3, c4, c5, c6, c7, c8, c9, c10, c11⟩⟩)]) (Nat.le_of_ble_eq_true rfl) rfl (A.start w) ?_
  intro g0 _
  intro w1 hA
  refine (keys_c w1).mono ?_
  rintro e w2 ⟨gk, rfl, hb, hgk, hbk⟩
  refine ⟨.val _, _, _, rfl, hA.adopt hb hgk hbk, ?_⟩
  refine ⟨Nat, fun k => [(6, .val (.int .i64 k)), (5, .val (.int .i64 (12 : Nat))), (1, .ptr 0 g0 0)], fun k => [(0, ⟨g0, 24, cfgS ⟨c0, c1, c2, c3, c4, c5, c6, c7, c8, c9, c10, c11⟩⟩)], fun _ => [(w, fun _ => False)], fun k => k ≤ 12 ∧ okTo c k = true, fun k => 12 - k, ?_, ?_⟩
  · intro w1 hA
    exact ⟨0, ⟨by omega, rfl⟩, ⟨⟨_, rfl, rfl⟩, ⟨_, rfl, rfl⟩, ⟨_, rfl, rfl⟩, trivial⟩, hA.sub ⟨rfl, trivial⟩⟩
  rintro k ⟨hk, hto⟩
  refine ⟨fun h => ?_, fun h => ?_⟩
  · have hk12 : k < 12 := by have : (k : Int) < (12 : Nat) := of_decide_eq_true h
                             omega
    have hv := hval k hk12
    rw [← hc] at hv
    have hvv : value16 ⟨c0, c1, c2, c3, c4, c5, c6, c7, c8, c9, c10, c11⟩ k = value16 c k := by rw [hc]
    rw [hvv] at hv
    have go : ok16 c k = true → okTo c (k + 1) = true := fun h => by rw [hstep k hk12, hto, h]; rfl
    have hoz := hok k
    generalize value16 c k = x at hv hoz
    refine ⟨fun h9 => ?_, fun h9 => ?_⟩
    · have h9 : ((k : Int) == 9) = false := by simpa using h9
      have h9 : (k == 9) = false := by simp at h9 ⊢; omega
      rw [h9] at hoz
      refine ⟨rfl, rfl, ?_⟩
      (intro w1 hA; refine (hv w1).mono ?_; rintro e w2 ⟨rfl, hb⟩; refine ⟨.val _, _, _, rfl, hA.below' hb, ?_⟩)
      (intro w1 hA; refine (least_c k hk12 w1).mono ?_; rintro e w2 ⟨rfl, hb⟩; refine ⟨.val _, _, _, rfl, hA.below' hb, ?_⟩)
      refine ⟨fun h1 => ?_, fun h1 => ?_⟩
      · have h1 : ¬ x < leastI k := of_decide_eq_false h1
        refine ⟨rfl, rfl, ?_⟩
        (intro w1 hA; refine (hv w1).mono ?_; rintro e w2 ⟨rfl, hb⟩; refine ⟨.val _, _, _, rfl, hA.below' hb, ?_⟩)
        (intro w1 hA; refine (greatest_c k hk12 w1).mono ?_; rintro e w2 ⟨rfl, hb⟩; refine ⟨.val _, _, _, rfl, hA.below' hb, ?_⟩)
        refine ⟨fun h2 => ?_, fun h2 => ?_⟩
        · have h2 : greatI k < x := of_decide_eq_true h2
          intro w' hA
          refine ⟨ret_int ?_, hA.bel (by simp)⟩
          rw [hc, hbad k hk12 (by rw [hoz]; simp [h2])]
        · have h2 : ¬ greatI k < x := of_decide_eq_false h2
          refine ⟨_, wrap_in _ (by omega) (by omega), ?_⟩
          intro w' hA
          exact ⟨k + 1, ⟨by omega, go (by rw [hoz]; simp [h1, h2])⟩, by show 12 - (k + 1) < 12 - k; omega, ⟨⟨_, rfl, rfl⟩, ⟨_, rfl, rfl⟩, ⟨_, rfl, rfl⟩, trivial⟩, hA.sub ⟨rfl, trivial⟩⟩
      · have h1 : x < leastI k := of_decide_eq_true h1
        (repeat (first | refine ⟨fun _ => ?_, fun h => Bool.noConfusion h⟩ | refine ⟨fun h => Bool.noConfusion h, fun _ => ?_⟩ | refine ⟨_, wrap_in _ (by omega) (by omega), ?_⟩ | refine ⟨_, wrapu_in _ (by omega) (by omega), ?_⟩ | refine ⟨_, wrap8_in _ (by omega) (by omega), ?_⟩ | refine ⟨_, rfl, ?_⟩ | refine ⟨rfl, ?_⟩))
        intro w' hA
        refine ⟨ret_int ?_, hA.bel (by simp)⟩
        rw [hc, hbad k hk12 (by rw [hoz]; simp [h1])]
    · have h9 : ((k : Int) == 9) = true := by simpa using h9
      have h9 : (k == 9) = true := by simp at h9 ⊢; omega
      rw [h9] at hoz
      (repeat (first | refine ⟨fun _ => ?_, fun h => Bool.noConfusion h⟩ | refine ⟨fun h => Bool.noConfusion h, fun _ => ?_⟩ | refine ⟨_, wrap_in _ (by omega) (by omega), ?_⟩ | refine ⟨_, wrapu_in _ (by omega) (by omega), ?_⟩ | refine ⟨_, wrap8_in _ (by omega) (by omega), ?_⟩ | refine ⟨_, rfl, ?_⟩ | refine ⟨rfl, ?_⟩))
      intro w' hA
      exact ⟨k + 1, ⟨by omega, go (by rw [hoz]; rfl)⟩, by show 12 - (k + 1) < 12 - k; omega, ⟨⟨_, rfl, rfl⟩, ⟨_, rfl, rfl⟩, ⟨_, rfl, rfl⟩, trivial⟩, hA.sub ⟨rfl, trivial⟩⟩
  · have e : k = 12 := by have : ¬ (k : Int) < (12 : Nat) := of_decide_eq_false h
                          have : k ≤ 12 := hk
                          omega
    subst e
    have hg := hgood hto
    refine ⟨_, rfl, rfl, _, rfl, rfl, ?_⟩
    refine ⟨fun h => ?_, fun h => ?_⟩
    · have h := of_decide_eq_true h
      intro w' hA
      refine ⟨ret_int ?_, hA.bel (by simp)⟩
      rw [hc, hg, ← hc, if_pos h]
    · have h := of_decide_eq_false h
      intro w' hA
      refine ⟨ret_int ?_, hA.bel (by simp)⟩
      rw [hc, hg, ← hc, if_neg h]
end Go.Proofs.YtllepnadffndnaaDoor
