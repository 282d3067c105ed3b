/- Default and Validate. -/
import Derived.Test.YtllepnadffndnaaDoorCfgB
namespace Go.Proofs.YtllepnadffndnaaDoor
open Go.RowKit

def wInt (v : Wide) : Int := if v.minus then -1 else IntKind.i64.wrap v.n
def setF (c : MConfig) (i : Nat) (v : Wide) : MConfig := match c, i with
  | ⟨_, c1, c2, c3, c4, c5, c6, c7, c8, c9, c10, c11⟩, 0 => ⟨wInt v, c1, c2, c3, c4, c5, c6, c7, c8, c9, c10, c11⟩
  | ⟨c0, _, c2, c3, c4, c5, c6, c7, c8, c9, c10, c11⟩, 1 => ⟨c0, wInt v, c2, c3, c4, c5, c6, c7, c8, c9, c10, c11⟩
  | ⟨c0, c1, _, c3, c4, c5, c6, c7, c8, c9, c10, c11⟩, 2 => ⟨c0, c1, wInt v, c3, c4, c5, c6, c7, c8, c9, c10, c11⟩
  | ⟨c0, c1, c2, _, c4, c5, c6, c7, c8, c9, c10, c11⟩, 3 => ⟨c0, c1, c2, wInt v, c4, c5, c6, c7, c8, c9, c10, c11⟩
  | ⟨c0, c1, c2, c3, _, c5, c6, c7, c8, c9, c10, c11⟩, 4 => ⟨c0, c1, c2, c3, wInt v, c5, c6, c7, c8, c9, c10, c11⟩
  | ⟨c0, c1, c2, c3, c4, _, c6, c7, c8, c9, c10, c11⟩, 5 => ⟨c0, c1, c2, c3, c4, wInt v, c6, c7, c8, c9, c10, c11⟩
  | ⟨c0, c1, c2, c3, c4, c5, _, c7, c8, c9, c10, c11⟩, 6 => ⟨c0, c1, c2, c3, c4, c5, v.n == 1, c7, c8, c9, c10, c11⟩
  | ⟨c0, c1, c2, c3, c4, c5, c6, _, c8, c9, c10, c11⟩, 7 => ⟨c0, c1, c2, c3, c4, c5, c6, wInt v, c8, c9, c10, c11⟩
  | ⟨c0, c1, c2, c3, c4, c5, c6, c7, _, c9, c10, c11⟩, 8 => ⟨c0, c1, c2, c3, c4, c5, c6, c7, wInt v, c9, c10, c11⟩
  | ⟨c0, c1, c2, c3, c4, c5, c6, c7, c8, _, c10, c11⟩, 9 => ⟨c0, c1, c2, c3, c4, c5, c6, c7, c8, v.n, c10, c11⟩
  | ⟨c0, c1, c2, c3, c4, c5, c6, c7, c8, c9, _, c11⟩, 10 => ⟨c0, c1, c2, c3, c4, c5, c6, c7, c8, c9, wInt v, c11⟩
  | ⟨c0, c1, c2, c3, c4, c5, c6, c7, c8, c9, c10, _⟩, _ => ⟨c0, c1, c2, c3, c4, c5, c6, c7, c8, c9, c10, wInt v⟩

set_option maxHeartbeats 2000000 in
theorem set_c (g : Nat) (c : MConfig) (i : Nat) (hi : i < 12) (v : Wide) (w : World) (hb : Blk w g 24 ((cfgS c).map SV.den).toArray) :
    Calls Tryd.prog 34 #[.pointer (some ⟨g, 0, none⟩), .int .i64 i, .agg ⟨wideV v⟩] w fun e w' => e = .returned (.tuple #[]) ∧ Blk w' g 24 ((cfgS (setF c i v)).map SV.den).toArray ∧ Since (fun b => b = g) w w' := by
  obtain ⟨c0, c1, c2, c3, c4, c5, c6, c7, c8, c9, c10, c11⟩ := c
  obtain ⟨n, m⟩ := v
  have h : i = 6 ∨ i = 9 ∨ i = 0 ∨ i = 1 ∨ i = 2 ∨ i = 3 ∨ i = 4 ∨ i = 5 ∨ i = 7 ∨ i = 8 ∨ i = 10 ∨ i = 11 := by omega
  cases m <;> rcases h with rfl | rfl | rfl | rfl | rfl | rfl | rfl | rfl | rfl | rfl | rfl | rfl
  all_goals
    refine calls_of_vc seat Tryd.func34 rfl rfl (Nat.le_of_ble_eq_true rfl) (N := 42) (args := [.ptr 0 g 0, .val (.int .i64 (_ : Nat)), .val (.agg ⟨wideV ⟨n, _⟩⟩)]) (Nat.le_of_ble_eq_true rfl) rfl (A.start1 hb) ?_
    intro g1 _
    (intro w1 hA; refine (ints_c g w1).mono ?_; rintro e w2 ⟨rfl, hb⟩; refine ⟨.val _, _, _, rfl, hA.below' hb, ?_⟩)
    refine ⟨_, rfl, by decide, _, rfl, ?_⟩
    repeat (first | refine ⟨0, _, rfl, rfl, _, rfl, rfl, ?_⟩ | refine ⟨fun _ => ?_, fun h => Bool.noConfusion h⟩ | refine ⟨fun h => Bool.noConfusion h, fun _ => ?_⟩ | refine ⟨_, rfl, rfl, rfl, ?_⟩ | refine ⟨_, rfl, rfl, ?_⟩ | refine ⟨_, rfl, ?_⟩)
    intro w' hA
    exact ⟨rfl, hA.blk 0 _ rfl, hA.since (w, _) (List.Mem.head _)⟩

def zeroC : MConfig := ⟨0, 0, 0, 0, 0, 0, false, 0, 0, 0, 0, 0⟩
def defTo : Nat → MConfig
  | 0 => zeroC
  | k + 1 => setF (defTo k) k (defW k)
def defC : MConfig := ⟨100, 65536, 1024, 200, 0, 0, false, 32768, -1, 1, 0, 1⟩
theorem defTo_12 : defTo 12 = defC := by
  simp only [defTo, zeroC, setF, defW, wInt, defC]
  simp [wrap_in]

set_option maxRecDepth 100000 in
theorem default_c (w : World) : Calls Tryd.prog 15 #[] w fun e w' => e = .returned (.agg ⟨cfgV defC⟩) ∧ Below w.heap.size w w' := by
  refine calls_of_vc seat Tryd.func15 rfl rfl (Nat.le_of_ble_eq_true rfl) (N := 15) (args := []) (Nat.le_of_ble_eq_true rfl) rfl (A.start w) ?_
  intro g0 _
  intro g1 _
  (intro w1 hA; refine (rows_c w1).mono ?_; rintro e w2 ⟨rfl, hb⟩; refine ⟨.val _, _, _, rfl, hA.below' hb, ?_⟩)
  refine ⟨Nat, fun k => [(5, .val (.int .i64 k)), (4, .val (.agg ⟨rowsV⟩)), (1, .ptr 1 g1 0), (0, .ptr 0 g0 0)], fun k => [(1, ⟨g1, 24, cfgS (defTo k)⟩), (0, ⟨g0, 24, cfgS zeroC⟩)], fun _ => [(w, fun _ => False)], fun k => k ≤ 12, fun k => 12 - k, ?_, ?_⟩
  · intro w1 hA
    exact ⟨0, by omega, ⟨⟨_, rfl, rfl⟩, ⟨_, rfl, rfl⟩, ⟨_, rfl, rfl⟩, ⟨_, rfl, rfl⟩, trivial⟩, hA.sub ⟨rfl, rfl, trivial⟩⟩
  intro k hk
  refine ⟨fun h => ?_, fun h => ?_⟩
  · have hk12 : k < 12 := by have : (k : Int) < 12 := of_decide_eq_true h
                             omega
    refine ⟨k, rfl, hk12, _, rowsV_at k hk12, ?_⟩
    intro g2 _
    refine ⟨rfl, rfl, rfl, rfl, ?_⟩
    refine ⟨rfl, rfl, ?_⟩
    intro w1 hA
    refine (set_c g1 (defTo k) k hk12 (defW k) w1 (hA.blk 1 _ rfl)).mono ?_
    rintro e w2 ⟨rfl, hb2, hs2⟩
    refine ⟨.val _, _, _, rfl, hA.wrote (i := 1) rfl hs2 hb2, ?_⟩
    refine ⟨_, wrap_in _ (by omega) (by omega), ?_⟩
    intro w' hA
    exact ⟨k + 1, by omega, by show 12 - (k + 1) < 12 - k; omega, ⟨⟨_, rfl, rfl⟩, ⟨_, rfl, rfl⟩, ⟨_, rfl, rfl⟩, ⟨_, rfl, rfl⟩, trivial⟩, hA.sub ⟨rfl, rfl, trivial⟩⟩
  · have e : k = 12 := by have : ¬ (k : Int) < 12 := of_decide_eq_false h
                          have : k ≤ 12 := hk
                          omega
    subst e
    refine ⟨rfl, rfl, ?_⟩
    refine ⟨rfl, rfl, rfl, rfl, ?_⟩
    refine ⟨rfl, rfl, ?_⟩
    intro w' hA
    refine ⟨?_, hA.bel (by simp)⟩
    rw [← defTo_12]
    rfl

def withinW (a b v : Wide) : Bool := !lessW v a && !lessW b v
theorem within_c (s : ByteArray) (a b d v : Wide) (w : World) : Calls Tryd.prog 29 #[.agg ⟨.string s :: (wideV a ++ wideV b ++ wideV d)⟩, .agg ⟨wideV v⟩] w fun e w' => e = .returned (.bool (withinW a b v)) ∧ Below w.heap.size w w' := by
  obtain ⟨a1, a2⟩ := a
  obtain ⟨b1, b2⟩ := b
  obtain ⟨d1, d2⟩ := d
  obtain ⟨v1, v2⟩ := v
  unfold withinW
  refine calls_of_vc seat Tryd.func29 rfl rfl (Nat.le_of_ble_eq_true rfl) (N := 17) (args := [.val (.agg ⟨.string s :: (wideV ⟨a1, a2⟩ ++ wideV ⟨b1, b2⟩ ++ wideV ⟨d1, d2⟩)⟩), .val (.agg ⟨wideV ⟨v1, v2⟩⟩)]) (Nat.le_of_ble_eq_true rfl) rfl (A.start w) ?_
  intro g0 _
  intro g1 _
  refine ⟨rfl, rfl, rfl, rfl, ?_⟩
  have h1 := less_c ⟨v1, v2⟩ ⟨a1, a2⟩
  have h2 := less_c ⟨b1, b2⟩ ⟨v1, v2⟩
  generalize lessW ⟨v1, v2⟩ ⟨a1, a2⟩ = t1 at *
  generalize lessW ⟨b1, b2⟩ ⟨v1, v2⟩ = t2 at *
  intro w1 hA
  refine (h1 w1).mono ?_
  rintro e w2 ⟨rfl, hb⟩
  refine ⟨.lit t1, _, _, rfl, hA.below' hb, ?_⟩
  cases t1
  · refine ⟨rfl, rfl, rfl, rfl, ?_⟩
    (intro w1 hA; refine (h2 w1).mono ?_; rintro e w2 ⟨rfl, hb⟩; refine ⟨.val _, _, _, rfl, hA.below' hb, ?_⟩)
    (intro w' hA; exact ⟨rfl, hA.bel (by simp)⟩)
  · (intro w' hA; exact ⟨rfl, hA.bel (by simp)⟩)

def okK (c : MConfig) (k : Nat) : Bool := (valueF c k).2 && withinW (leastW k) (mostW k) (valueF c k).1
def okTo (c : MConfig) : Nat → Bool
  | 0 => true
  | k + 1 => okTo c k && okK c k
def validC (c : MConfig) : Int := if okTo c 12 = true ∧ ¬ c.self ≥ c.nodes then 0 else 1
theorem okTo_false {c : MConfig} {k : Nat} (h : okK c k = false) : ∀ {n : Nat}, k < n → okTo c n = false
  | 0, hn => by omega
  | n + 1, hn => by
    by_cases e : k = n
    · subst e; simp [okTo, h]
    · simp [okTo, okTo_false h (show k < n by omega)]

set_option maxRecDepth 100000 in
theorem validate_c (c : MConfig) (w : World) : Calls Tryd.prog 13 #[.agg ⟨cfgV c⟩] w fun e w' => e = .returned (.int .i64 (validC c)) ∧ Below w.heap.size w w' := by
  have hval := value_c c
  have hbad : ∀ k, k < 12 → okK c k = false → validC c = 1 := by
    intro k hk h
    simp [validC, okTo_false h hk]
  have hgood : okTo c 12 = true → validC c = if c.self ≥ c.nodes then 1 else 0 := by
    intro h
    unfold validC
    by_cases h2 : c.self ≥ c.nodes <;> simp [h, h2]
  have hok : ∀ k, okK c k = ((valueF c k).2 && withinW (leastW k) (mostW k) (valueF c k).1) := fun _ => rfl
  have hstep : ∀ k, okTo c (k + 1) = (okTo c k && okK c k) := fun _ => rfl
  obtain ⟨c0, c1, c2, c3, c4, c5, c6, c7, c8, c9, c10, c11⟩ := c
  generalize hc : (⟨c0, c1, c2, c3, c4, c5, c6, c7, c8, c9, c10, c11⟩ : MConfig) = c at hval hbad hgood hok hstep ⊢
  rw [← hc]
  refine calls_of_vc seat Tryd.func13 rfl rfl (Nat.le_of_ble_eq_true rfl) (N := 32) (args := [.val (.agg ⟨cfgV ⟨c0, c1, c2, c3, c4, c5, c6, c7, c8, c9, c10, c11⟩⟩)]) (Nat.le_of_ble_eq_true rfl) rfl (A.start w) ?_
  intro g0 _
  (intro w1 hA; refine (rows_c w1).mono ?_; rintro e w2 ⟨rfl, hb⟩; refine ⟨.val _, _, _, rfl, hA.below' hb, ?_⟩)
  refine ⟨Nat, fun k => [(8, .val (.int .i64 k)), (7, .val (.agg ⟨rowsV⟩)), (1, .ptr 0 g0 0)], fun k => [(0, ⟨g0, 24, cfgS ⟨c0, c1, c2, c3, c4, c5, c6, c7, c8, c9, c10, c11⟩⟩)], fun _ => [(w, fun _ => False)], fun k => k ≤ 12 ∧ okTo c k = true, fun k => 12 - k, ?_, ?_⟩
  · intro w1 hA
    exact ⟨0, ⟨by omega, rfl⟩, ⟨⟨_, rfl, rfl⟩, ⟨_, rfl, rfl⟩, ⟨_, rfl, rfl⟩, trivial⟩, hA.sub ⟨rfl, trivial⟩⟩
  rintro k ⟨hk, hto⟩
  refine ⟨fun h => ?_, fun h => ?_⟩
  · have hk12 : k < 12 := by have : (k : Int) < 12 := of_decide_eq_true h
                             omega
    refine ⟨k, rfl, hk12, _, rowsV_at k hk12, ?_⟩
    intro g2 _
    refine ⟨rfl, rfl, rfl, rfl, ?_⟩
    refine ⟨rfl, rfl, ?_⟩
    have hv := hval k hk12
    have hoz := hok k
    rw [← hc] at hv
    rw [← hc] at hoz
    generalize valueF ⟨c0, c1, c2, c3, c4, c5, c6, c7, c8, c9, c10, c11⟩ k = r at hv hoz
    obtain ⟨x, ok⟩ := r
    (intro w1 hA; refine (hv w1).mono ?_; rintro e w2 ⟨rfl, hb⟩; refine ⟨.val _, _, _, rfl, hA.below' hb, ?_⟩)
    refine ⟨_, rfl, _, rfl, ?_⟩
    intro g3 _
    refine ⟨rfl, rfl, rfl, rfl, ?_⟩
    cases ok
    · (repeat (first | refine ⟨fun _ => ?_, fun h => Bool.noConfusion h⟩ | refine ⟨fun h => Bool.noConfusion h, fun _ => ?_⟩ | refine ⟨_, wrap_in _ (by omega) (by omega), ?_⟩ | refine ⟨_, wrapu_in _ (by omega) (by omega), ?_⟩ | refine ⟨_, wrap8_in _ (by omega) (by omega), ?_⟩ | refine ⟨_, rfl, ?_⟩ | refine ⟨rfl, ?_⟩))
      intro w' hA
      refine ⟨ret_int ?_, hA.bel (by simp)⟩
      rw [hc]
      rw [hbad k hk12 (by rw [← hc, hoz]; rfl)]
    · refine ⟨fun _ => ?_, fun h => Bool.noConfusion h⟩
      refine ⟨rfl, rfl, rfl, rfl, ?_⟩
      have hw := within_c ⟨(nameL k).toArray⟩ (leastW k) (mostW k) (defW k) x
      have hoz : okK c k = withinW (leastW k) (mostW k) x := by rw [← hc, hoz]; simp
      generalize withinW (leastW k) (mostW k) x = t at hw hoz
      intro w1 hA
      refine (hw w1).mono ?_
      rintro e w2 ⟨rfl, hb⟩
      refine ⟨.lit t, _, _, rfl, hA.below' hb, ?_⟩
      cases t
      · intro w' hA
        refine ⟨ret_int ?_, hA.bel (by simp)⟩
        rw [hc, hbad k hk12 hoz]
      · refine ⟨_, wrap_in _ (by omega) (by omega), ?_⟩
        intro w' hA
        exact ⟨k + 1, ⟨by omega, by rw [hstep, hto, hoz]; rfl⟩, by show 12 - (k + 1) < 12 - k; omega, ⟨⟨_, rfl, rfl⟩, ⟨_, rfl, rfl⟩, ⟨_, rfl, rfl⟩, trivial⟩, hA.sub ⟨rfl, trivial⟩⟩
  · have e : k = 12 := by have : ¬ (k : Int) < 12 := of_decide_eq_false h
                          have : k ≤ 12 := hk
                          omega
    subst e
    have hg := hgood hto
    refine ⟨_, rfl, rfl, _, rfl, rfl, ?_⟩
    refine ⟨fun h => ?_, fun h => ?_⟩
    · have h := of_decide_eq_true h
      intro w' hA
      refine ⟨ret_int ?_, hA.bel (by simp)⟩
      rw [hc, hg, ← hc, if_pos h]
    · have h := of_decide_eq_false h
      intro w' hA
      refine ⟨ret_int ?_, hA.bel (by simp)⟩
      rw [hc, hg, ← hc, if_neg h]
end Go.Proofs.YtllepnadffndnaaDoor
