/- The law ReportFormats, walked. -/
import Derived.Test.YtepdhipcepmpiaaDoorRepE
namespace Go.Proofs.YtepdhipcepmpiaaDoor
open Go.RowKit

theorem formats_c (c : MCounts) (hc : CntOK c) (w : World) (htab : Lib.TabIs Tryd.prog w "internal/strconv.uint64pow10" .u64 Lib.pow10Tab) :
    Calls Tryd.prog 5 #[.agg (cntV c)] w fun e w' => e = .returned (.bool true) ∧ Below w.heap.size w w' := by
  have htabB := Lib.tabBelow_of_tabIs htab
  refine calls_of_vc seat Tryd.func5 rfl rfl (Nat.le_of_ble_eq_true rfl) (N := 11) (args := [.val (.agg (cntV c))]) (Nat.le_of_ble_eq_true rfl) rfl (A.start w) ?_
  intro g0 _
  refine ⟨(.alt 0 (.alt 1 (.alt 2 (.alt 3 (.take 4 (.take 5 (.alt 6 (.take 7 (.take 8 .done)) .stop))) .stop) .stop) (.alt 2 (.alt 1 (.alt 3 (.take 4 (.take 5 (.alt 6 (.take 7 (.take 8 .done)) .stop))) .stop) .stop) .stop)) (.alt 2 (.alt 0 (.alt 1 (.alt 3 (.take 4 (.take 5 (.alt 6 (.take 7 (.take 8 .done)) .stop))) .stop) .stop) .stop) .stop)), by kernel_rfl, ?_⟩
  refine ⟨⟨rfl, rfl, ?a, rfl, rfl, ?b⟩, rfl, rfl, rfl, rfl, ?b'⟩
  case a =>
    intro w1 hA
    refine (format_c c hc w1 (htabB _ (hA.bel (by simp)))).mono ?_
    rintro e w2 ⟨rfl, hb⟩
    refine ⟨.val _, _, _, rfl, hA.below' hb, ?_⟩
    refine ⟨rfl, rfl, ?_⟩
    intro w1 hA
    refine (formatCounts_c c hc w1).mono ?_
    rintro e w2 ⟨rfl, hb⟩
    refine ⟨.val _, _, _, rfl, hA.below' hb, ?_⟩
    refine ⟨fun _ => ?_, fun h => absurd h (by simp)⟩
    intro w1 hA
    refine (known_c w1 (htabB _ (hA.bel (by simp)))).mono ?_
    rintro e w2 ⟨rfl, hb⟩
    refine ⟨.val _, _, _, rfl, hA.below' hb, ?_⟩
    intro w' hA
    exact ⟨rfl, hA.bel (by simp)⟩
  all_goals
    intro w1 hA
    refine (format_c c hc w1 (htabB _ (hA.bel (by simp)))).mono ?_
    rintro e w2 ⟨rfl, hb⟩
    refine ⟨.val _, _, _, rfl, hA.below' hb, ?_⟩
    intro w1 hA
    refine (formatCounts_c c hc w1).mono ?_
    rintro e w2 ⟨rfl, hb⟩
    refine ⟨.val _, _, _, rfl, hA.below' hb, ?_⟩
    refine ⟨fun _ => ?_, fun h => absurd h (by simp)⟩
    intro w1 hA
    refine (known_c w1 (htabB _ (hA.bel (by simp)))).mono ?_
    rintro e w2 ⟨rfl, hb⟩
    refine ⟨.val _, _, _, rfl, hA.below' hb, ?_⟩
    intro w' hA
    exact ⟨rfl, hA.bel (by simp)⟩

end Go.Proofs.YtepdhipcepmpiaaDoor
