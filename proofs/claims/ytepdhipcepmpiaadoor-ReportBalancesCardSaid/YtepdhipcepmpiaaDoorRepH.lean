/- The law ReportBalances, walked. -/
import Derived.Test.YtepdhipcepmpiaaDoorRepE
namespace Go.Proofs.YtepdhipcepmpiaaDoor
open Go.RowKit

/-- The counts with what follows from the others put right. -/
def mended (c : MCounts) : MCounts :=
  let a := wrap64 (wrap64 (wrap64 (wrap64 (wrap64 (c.committed + c.evicted) + c.expired) + c.invalid) + c.flushed) + c.pending)
  { c with admitted := a, submitted := wrap64 (a + c.refused) }
theorem w64 (n : Int) : IntKind.i64.wrap n = wrap64 n := by rw [IntKind.wrap_i64, wrap64]
theorem wrap_ex (n : Int) : ∃ k : Int, wrap64 n = n + k * 18446744073709551616 := ⟨-((n + 9223372036854775808) / 18446744073709551616), by unfold wrap64; omega⟩
theorem bal_mended (c : MCounts) : balB (mended c) = true := by
  simp [balB, mended, wrap64, Int.add_comm c.refused]
def bump (i : Nat) (c : MCounts) : MCounts := match i with
  | 0 => { c with submitted := wrap64 (c.submitted + 1) }
  | 1 => { c with refused := wrap64 (c.refused + 1) }
  | 2 => { c with admitted := wrap64 (c.admitted + 1) }
  | 3 => { c with committed := wrap64 (c.committed + 1) }
  | 4 => { c with evicted := wrap64 (c.evicted + 1) }
  | 5 => { c with expired := wrap64 (c.expired + 1) }
  | 6 => { c with invalid := wrap64 (c.invalid + 1) }
  | 7 => { c with flushed := wrap64 (c.flushed + 1) }
  | _ => { c with pending := wrap64 (c.pending + 1) }
theorem bal_bump (i : Nat) (hi : i < 9) (c : MCounts) : balB (bump i (mended c)) = false := by
  obtain ⟨d0, d1, d2, d3, d4, d5, d6, d7, d8⟩ := c
  refine nine (p := fun i => balB (bump i (mended ⟨d0, d1, d2, d3, d4, d5, d6, d7, d8⟩)) = false) hi ?_ ?_ ?_ ?_ ?_ ?_ ?_ ?_ ?_
  all_goals
    simp only [balB, bump, mended, Bool.and_eq_false_iff, beq_eq_false_iff_ne, ne_eq, wrap64]
    omega
def balPlan : Plan := (.alt 0 (.alt 1 (.alt 2 (.alt 3 (.take 4 (.take 5 (.alt 6 (.alt 7 (.take 8 (.take 9 (.alt 10 (.alt 11 (.take 12 (.take 13 (.take 14 (.alt 15 (.take 16 (.take 17 .done)) .stop)))) .stop) .stop))) .stop) .stop))) .stop) .stop) (.alt 2 (.alt 1 (.alt 3 (.take 4 (.take 5 (.alt 6 (.alt 7 (.take 8 (.take 9 (.alt 10 (.alt 11 (.take 12 (.take 13 (.take 14 (.alt 15 (.take 16 (.take 17 .done)) .stop)))) .stop) .stop))) .stop) .stop))) .stop) .stop) .stop)) (.alt 2 (.alt 0 (.alt 1 (.alt 3 (.take 4 (.take 5 (.alt 6 (.alt 7 (.take 8 (.take 9 (.alt 10 (.alt 11 (.take 12 (.take 13 (.take 14 (.alt 15 (.take 16 (.take 17 .done)) .stop)))) .stop) .stop))) .stop) .stop))) .stop) .stop) .stop) .stop))
theorem balPlan_good : balPlan.good (opsIn Tryd.f4 23) = true := by kernel_rfl
theorem bal_tail (c d e : MCounts) (hd : balB d = true) (he : balB e = false) (w : World) (htabB : Lib.TabBelow Tryd.prog w.heap.size w "internal/strconv.uint64pow10" .u64 Lib.pow10Tab) (g0 g1 g2 : Nat) :
    vcPlan Tryd.prog tab 104 ents (opsIn Tryd.f4 23) balPlan (retQ Tryd.prog tab [.tmp 4] (fun e w' => e = .returned (.bool true) ∧ Below w.heap.size w w') .normal)
      [(2, .ptr 0 g0 0), (5, .ptr 1 g1 0), (6, .ptr 2 g2 0)] [(2, ⟨g2, 29, cntS e⟩), (1, ⟨g1, 29, cntS d⟩), (0, ⟨g0, 29, cntS c⟩)] [(w, fun _ => False)] := by
  obtain ⟨c0, c1, c2, c3, c4, c5, c6, c7, c8⟩ := c
  obtain ⟨d0, d1, d2, d3, d4, d5, d6, d7, d8⟩ := d
  obtain ⟨e0, e1, e2, e3, e4, e5, e6, e7, e8⟩ := e
  refine ⟨⟨rfl, rfl, ?a, rfl, rfl, ?b⟩, rfl, rfl, rfl, rfl, ?b'⟩
  case a =>
    intro w1 hA
    refine (balanced_c ⟨c0, c1, c2, c3, c4, c5, c6, c7, c8⟩ w1).mono ?_
    rintro e w2 ⟨rfl, hb⟩
    refine ⟨.val _, _, _, rfl, hA.below' hb, ?_⟩
    refine ⟨rfl, rfl, ?_⟩
    intro w1 hA
    refine (balancedRef_c ⟨c0, c1, c2, c3, c4, c5, c6, c7, c8⟩ w1).mono ?_
    rintro e w2 ⟨rfl, hb⟩
    refine ⟨.val _, _, _, rfl, hA.below' hb, ?_⟩
    refine ⟨fun _ => ?_, fun h => absurd h (by simp)⟩
    refine ⟨rfl, rfl, ?_⟩
    intro w1 hA
    refine (balanced_c ⟨d0, d1, d2, d3, d4, d5, d6, d7, d8⟩ w1).mono ?_
    rintro e w2 ⟨rfl, hb⟩
    refine ⟨.lit true, _, _, by rw [hd]; rfl, hA.below' hb, ?_⟩
    refine ⟨rfl, rfl, ?_⟩
    intro w1 hA
    refine (balanced_c ⟨e0, e1, e2, e3, e4, e5, e6, e7, e8⟩ w1).mono ?_
    rintro e w2 ⟨rfl, hb⟩
    refine ⟨.lit false, _, _, by rw [he]; rfl, hA.below' hb, ?_⟩
    intro w1 hA
    refine (known_c w1 (htabB _ (hA.bel (by simp)))).mono ?_
    rintro e w2 ⟨rfl, hb⟩
    refine ⟨.val _, _, _, rfl, hA.below' hb, ?_⟩
    intro w' hA
    exact ⟨rfl, hA.bel (by simp)⟩

  all_goals
    intro w1 hA
    refine (balanced_c ⟨c0, c1, c2, c3, c4, c5, c6, c7, c8⟩ w1).mono ?_
    rintro e w2 ⟨rfl, hb⟩
    refine ⟨.val _, _, _, rfl, hA.below' hb, ?_⟩
    intro w1 hA
    refine (balancedRef_c ⟨c0, c1, c2, c3, c4, c5, c6, c7, c8⟩ w1).mono ?_
    rintro e w2 ⟨rfl, hb⟩
    refine ⟨.val _, _, _, rfl, hA.below' hb, ?_⟩
    refine ⟨fun _ => ?_, fun h => absurd h (by simp)⟩
    refine ⟨rfl, rfl, ?_⟩
    intro w1 hA
    refine (balanced_c ⟨d0, d1, d2, d3, d4, d5, d6, d7, d8⟩ w1).mono ?_
    rintro e w2 ⟨rfl, hb⟩
    refine ⟨.lit true, _, _, by rw [hd]; rfl, hA.below' hb, ?_⟩
    refine ⟨rfl, rfl, ?_⟩
    intro w1 hA
    refine (balanced_c ⟨e0, e1, e2, e3, e4, e5, e6, e7, e8⟩ w1).mono ?_
    rintro e w2 ⟨rfl, hb⟩
    refine ⟨.lit false, _, _, by rw [he]; rfl, hA.below' hb, ?_⟩
    intro w1 hA
    refine (known_c w1 (htabB _ (hA.bel (by simp)))).mono ?_
    rintro e w2 ⟨rfl, hb⟩
    refine ⟨.val _, _, _, rfl, hA.below' hb, ?_⟩
    intro w' hA
    exact ⟨rfl, hA.bel (by simp)⟩


theorem balances_c (c : MCounts) (x : Int) (w : World) (htab : Lib.TabIs Tryd.prog w "internal/strconv.uint64pow10" .u64 Lib.pow10Tab) :
    Calls Tryd.prog 4 #[.agg (cntV c), .int .i64 x] w fun e w' => e = .returned (.bool true) ∧ Below w.heap.size w w' := by
  have htabB := Lib.tabBelow_of_tabIs htab
  obtain ⟨d0, d1, d2, d3, d4, d5, d6, d7, d8⟩ := c
  refine calls_of_vc seat Tryd.func4 rfl rfl (Nat.le_of_ble_eq_true rfl) (N := 104) (args := [.val (.agg (cntV ⟨d0, d1, d2, d3, d4, d5, d6, d7, d8⟩)), .val (.int .i64 x)]) (Nat.le_of_ble_eq_true rfl) rfl (A.start w) ?_
  intro g0 _
  refine ⟨rfl, rfl, ?_⟩
  intro g1 _
  refine ⟨rfl, rfl, rfl, rfl, ?_⟩
  refine ⟨_, rfl, rfl, _, rfl, rfl, _, w64 _, _, rfl, rfl, _, w64 _, _, rfl, rfl, _, w64 _, _, rfl, rfl, _, w64 _, _, rfl, rfl, _, w64 _, _, rfl, rfl, rfl, ?_⟩
  refine ⟨_, rfl, rfl, _, rfl, rfl, _, w64 _, _, rfl, rfl, rfl, ?_⟩
  refine ⟨rfl, rfl, ?_⟩
  intro g2 _
  refine ⟨rfl, rfl, rfl, rfl, ?_⟩
  intro w1 hA
  refine (place_c x 9 w1 (by decide) (by decide)).mono ?_
  rintro e w2 ⟨rfl, hb⟩
  refine ⟨.val _, _, _, rfl, hA.below' hb, ?_⟩
  refine ⟨fun _ => ?_, fun _ => ?_⟩
  · refine ⟨_, rfl, rfl, _, w64 _, _, rfl, rfl, rfl, ?_⟩
    exact ⟨[(2, .ptr 0 g0 0), (5, .ptr 1 g1 0), (6, .ptr 2 g2 0)], ⟨⟨_, rfl, rfl⟩, ⟨_, rfl, rfl⟩, ⟨_, rfl, rfl⟩, trivial⟩, balPlan, balPlan_good, bal_tail ⟨d0, d1, d2, d3, d4, d5, d6, d7, d8⟩ (mended ⟨d0, d1, d2, d3, d4, d5, d6, d7, d8⟩) (bump 0 (mended ⟨d0, d1, d2, d3, d4, d5, d6, d7, d8⟩)) (bal_mended _) (bal_bump 0 (by decide) _) w htabB g0 g1 g2⟩
  refine ⟨fun _ => ?_, fun _ => ?_⟩
  · refine ⟨_, rfl, rfl, _, w64 _, _, rfl, rfl, rfl, ?_⟩
    exact ⟨[(2, .ptr 0 g0 0), (5, .ptr 1 g1 0), (6, .ptr 2 g2 0)], ⟨⟨_, rfl, rfl⟩, ⟨_, rfl, rfl⟩, ⟨_, rfl, rfl⟩, trivial⟩, balPlan, balPlan_good, bal_tail ⟨d0, d1, d2, d3, d4, d5, d6, d7, d8⟩ (mended ⟨d0, d1, d2, d3, d4, d5, d6, d7, d8⟩) (bump 1 (mended ⟨d0, d1, d2, d3, d4, d5, d6, d7, d8⟩)) (bal_mended _) (bal_bump 1 (by decide) _) w htabB g0 g1 g2⟩
  refine ⟨fun _ => ?_, fun _ => ?_⟩
  · refine ⟨_, rfl, rfl, _, w64 _, _, rfl, rfl, rfl, ?_⟩
    exact ⟨[(2, .ptr 0 g0 0), (5, .ptr 1 g1 0), (6, .ptr 2 g2 0)], ⟨⟨_, rfl, rfl⟩, ⟨_, rfl, rfl⟩, ⟨_, rfl, rfl⟩, trivial⟩, balPlan, balPlan_good, bal_tail ⟨d0, d1, d2, d3, d4, d5, d6, d7, d8⟩ (mended ⟨d0, d1, d2, d3, d4, d5, d6, d7, d8⟩) (bump 2 (mended ⟨d0, d1, d2, d3, d4, d5, d6, d7, d8⟩)) (bal_mended _) (bal_bump 2 (by decide) _) w htabB g0 g1 g2⟩
  refine ⟨fun _ => ?_, fun _ => ?_⟩
  · refine ⟨_, rfl, rfl, _, w64 _, _, rfl, rfl, rfl, ?_⟩
    exact ⟨[(2, .ptr 0 g0 0), (5, .ptr 1 g1 0), (6, .ptr 2 g2 0)], ⟨⟨_, rfl, rfl⟩, ⟨_, rfl, rfl⟩, ⟨_, rfl, rfl⟩, trivial⟩, balPlan, balPlan_good, bal_tail ⟨d0, d1, d2, d3, d4, d5, d6, d7, d8⟩ (mended ⟨d0, d1, d2, d3, d4, d5, d6, d7, d8⟩) (bump 3 (mended ⟨d0, d1, d2, d3, d4, d5, d6, d7, d8⟩)) (bal_mended _) (bal_bump 3 (by decide) _) w htabB g0 g1 g2⟩
  refine ⟨fun _ => ?_, fun _ => ?_⟩
  · refine ⟨_, rfl, rfl, _, w64 _, _, rfl, rfl, rfl, ?_⟩
    exact ⟨[(2, .ptr 0 g0 0), (5, .ptr 1 g1 0), (6, .ptr 2 g2 0)], ⟨⟨_, rfl, rfl⟩, ⟨_, rfl, rfl⟩, ⟨_, rfl, rfl⟩, trivial⟩, balPlan, balPlan_good, bal_tail ⟨d0, d1, d2, d3, d4, d5, d6, d7, d8⟩ (mended ⟨d0, d1, d2, d3, d4, d5, d6, d7, d8⟩) (bump 4 (mended ⟨d0, d1, d2, d3, d4, d5, d6, d7, d8⟩)) (bal_mended _) (bal_bump 4 (by decide) _) w htabB g0 g1 g2⟩
  refine ⟨fun _ => ?_, fun _ => ?_⟩
  · refine ⟨_, rfl, rfl, _, w64 _, _, rfl, rfl, rfl, ?_⟩
    exact ⟨[(2, .ptr 0 g0 0), (5, .ptr 1 g1 0), (6, .ptr 2 g2 0)], ⟨⟨_, rfl, rfl⟩, ⟨_, rfl, rfl⟩, ⟨_, rfl, rfl⟩, trivial⟩, balPlan, balPlan_good, bal_tail ⟨d0, d1, d2, d3, d4, d5, d6, d7, d8⟩ (mended ⟨d0, d1, d2, d3, d4, d5, d6, d7, d8⟩) (bump 5 (mended ⟨d0, d1, d2, d3, d4, d5, d6, d7, d8⟩)) (bal_mended _) (bal_bump 5 (by decide) _) w htabB g0 g1 g2⟩
  refine ⟨fun _ => ?_, fun _ => ?_⟩
  · refine ⟨_, rfl, rfl, _, w64 _, _, rfl, rfl, rfl, ?_⟩
    exact ⟨[(2, .ptr 0 g0 0), (5, .ptr 1 g1 0), (6, .ptr 2 g2 0)], ⟨⟨_, rfl, rfl⟩, ⟨_, rfl, rfl⟩, ⟨_, rfl, rfl⟩, trivial⟩, balPlan, balPlan_good, bal_tail ⟨d0, d1, d2, d3, d4, d5, d6, d7, d8⟩ (mended ⟨d0, d1, d2, d3, d4, d5, d6, d7, d8⟩) (bump 6 (mended ⟨d0, d1, d2, d3, d4, d5, d6, d7, d8⟩)) (bal_mended _) (bal_bump 6 (by decide) _) w htabB g0 g1 g2⟩
  refine ⟨fun _ => ?_, fun _ => ?_⟩
  · refine ⟨_, rfl, rfl, _, w64 _, _, rfl, rfl, rfl, ?_⟩
    exact ⟨[(2, .ptr 0 g0 0), (5, .ptr 1 g1 0), (6, .ptr 2 g2 0)], ⟨⟨_, rfl, rfl⟩, ⟨_, rfl, rfl⟩, ⟨_, rfl, rfl⟩, trivial⟩, balPlan, balPlan_good, bal_tail ⟨d0, d1, d2, d3, d4, d5, d6, d7, d8⟩ (mended ⟨d0, d1, d2, d3, d4, d5, d6, d7, d8⟩) (bump 7 (mended ⟨d0, d1, d2, d3, d4, d5, d6, d7, d8⟩)) (bal_mended _) (bal_bump 7 (by decide) _) w htabB g0 g1 g2⟩
  refine ⟨_, rfl, rfl, _, w64 _, _, rfl, rfl, rfl, ?_⟩
  exact ⟨[(2, .ptr 0 g0 0), (5, .ptr 1 g1 0), (6, .ptr 2 g2 0)], ⟨⟨_, rfl, rfl⟩, ⟨_, rfl, rfl⟩, ⟨_, rfl, rfl⟩, trivial⟩, balPlan, balPlan_good, bal_tail ⟨d0, d1, d2, d3, d4, d5, d6, d7, d8⟩ (mended ⟨d0, d1, d2, d3, d4, d5, d6, d7, d8⟩) (bump 8 (mended ⟨d0, d1, d2, d3, d4, d5, d6, d7, d8⟩)) (bal_mended _) (bal_bump 8 (by decide) _) w htabB g0 g1 g2⟩
theorem reportBalances_core (c : MCounts) (_ : CntOK c) (x : Int) (_ : (Lit.int .i64 x).wf = true) (w : World) (htab : Lib.TabIs Tryd.prog w "internal/strconv.uint64pow10" .u64 Lib.pow10Tab) :
    Calls Tryd.prog 4 #[.agg (cntV c), .int .i64 x] w fun e w' => e = .returned (.bool true) ∧ Below w.heap.size w w' := balances_c c x w htab
end Go.Proofs.YtepdhipcepmpiaaDoor
