/- What the reports' arguments read as. -/
import Derived.Test.YtepdhipcepmpiaaDoorFrame
import Derived.Test.YtepdhipcepmpiaaDoorRepD
namespace Go.Proofs.YtepdhipcepmpiaaDoor
open Go.ChangeShapes Go.WideShapes Go.ChangeAt Go.RowKit

theorem opensInt : Opens Tryd.prog 3 (Rp.int .i64) := Opens.int Tryd.underlying3 (by kernel_rfl)
theorem opensCounts : Opens Tryd.prog 29 Rp.counts :=
  Opens.counts Tryd.underlying29 (by kernel_rfl) rfl rfl rfl rfl rfl rfl rfl rfl rfl opensInt opensInt opensInt opensInt opensInt opensInt opensInt opensInt opensInt
theorem wf64 {n : Int} (h : (Lit.int .i64 n).wf = true) : -9223372036854775808 ≤ n ∧ n < 9223372036854775808 := by
  simp [Lit.wf, IntKind.min, IntKind.max, IntKind.bits, IntKind.signed] at h
  omega
theorem counts_cells {w : World} {S : Fp} {cs : List Value} {c : MCounts} (h : Rp.counts.rel w S cs c) : cs = (cntV c).toList ∧ CntOK c := by
  obtain ⟨h0, h1, h2, h3, h4, h5, h6, h7, h8⟩ := Rp.counts_fields h
  have hl : cs.length = 9 := Rp.counts.len h
  match cs, hl with
  | [a0, a1, a2, a3, a4, a5, a6, a7, a8], _ =>
    obtain ⟨e0, r0⟩ := h0
    obtain ⟨e1, r1⟩ := h1
    obtain ⟨e2, r2⟩ := h2
    obtain ⟨e3, r3⟩ := h3
    obtain ⟨e4, r4⟩ := h4
    obtain ⟨e5, r5⟩ := h5
    obtain ⟨e6, r6⟩ := h6
    obtain ⟨e7, r7⟩ := h7
    obtain ⟨e8, r8⟩ := h8
    simp only [List.drop_zero, List.drop_succ_cons, List.take_succ_cons, List.take_zero, List.cons.injEq, and_true] at e0 e1 e2 e3 e4 e5 e6 e7 e8
    subst e0 e1 e2 e3 e4 e5 e6 e7 e8
    refine ⟨rfl, fun k => ?_⟩
    match k with
    | 0 => exact wf64 r0
    | 1 => exact wf64 r1
    | 2 => exact wf64 r2
    | 3 => exact wf64 r3
    | 4 => exact wf64 r4
    | 5 => exact wf64 r5
    | 6 => exact wf64 r6
    | 7 => exact wf64 r7
    | k + 8 => exact wf64 r8
end Go.Proofs.YtepdhipcepmpiaaDoor
