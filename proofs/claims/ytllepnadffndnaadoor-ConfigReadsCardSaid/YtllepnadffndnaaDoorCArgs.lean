/- What the configurations' arguments read as. -/
import Derived.Test.YtllepnadffndnaaDoorCFrame
import Derived.ChangeMaps5
namespace Go.Proofs.YtllepnadffndnaaDoor
open Go.ChangeShapes Go.WideShapes Go.ChangeAt Go.RowKit

theorem opensInt : Opens Tryd.prog 3 (Rp.int .i64) := Opens.int Tryd.underlying3 (by kernel_rfl)
theorem opensU64 : Opens Tryd.prog 22 (Rp.int .u64) := Opens.int Tryd.underlying22 (by kernel_rfl)
theorem opensU8 : Opens Tryd.prog 5 (Rp.int .u8) := Opens.int Tryd.underlying5 (by kernel_rfl)
theorem opensBool : Opens Tryd.prog 4 Rp.bool := Opens.bool Tryd.underlying4 (by kernel_rfl)
theorem opensStr : Opens Tryd.prog 9 Rp.str := Opens.str Tryd.underlying9 (by kernel_rfl)
theorem opensBytes : Opens Tryd.prog 38 Rp.bytes := Opens.slice Tryd.underlying38 (by kernel_rfl) (of_decide_eq_true (by kernel_rfl)) (by decide) opensU8
theorem opensInts : Opens Tryd.prog 25 Rp.ints := Opens.slice Tryd.underlying25 (by kernel_rfl) (of_decide_eq_true (by kernel_rfl)) (by decide) opensInt
theorem opensConfig : Opens Tryd.prog 24 Rp.config :=
  Opens.config Tryd.underlying24 (by kernel_rfl) rfl rfl rfl rfl rfl rfl rfl rfl rfl rfl rfl rfl opensInt opensInt opensInt opensInt opensInt opensInt opensBool opensInt opensInt opensU64 opensInt opensInt
theorem wf64 {n : Int} (h : (Lit.int .i64 n).wf = true) : -9223372036854775808 ≤ n ∧ n < 9223372036854775808 := by
  simp [Lit.wf, IntKind.min, IntKind.max, IntKind.bits, IntKind.signed] at h
  omega
theorem wfu64 {n : Int} (h : (Lit.int .u64 n).wf = true) : 0 ≤ n ∧ n < 18446744073709551616 := by
  simp [Lit.wf, IntKind.min, IntKind.max, IntKind.bits, IntKind.signed] at h
  omega
theorem config_cells {w : World} {S : Fp} {cs : List Value} {c : MConfig} (h : Rp.config.rel w S cs c) : cs = cfgV c ∧ CfgOK c := by
  obtain ⟨h0, h1, h2, h3, h4, h5, h6, h7, h8, h9, h10, h11⟩ := Rp.config_fields h
  have hl : cs.length = 12 := Rp.config.len h
  obtain ⟨c0, c1, c2, c3, c4, c5, c6, c7, c8, c9, c10, c11⟩ := c
  match cs, hl with
  | [a0, a1, a2, a3, a4, a5, a6, a7, a8, a9, a10, a11], _ =>
    obtain ⟨e0, r0⟩ := h0
    obtain ⟨e1, r1⟩ := h1
    obtain ⟨e2, r2⟩ := h2
    obtain ⟨e3, r3⟩ := h3
    obtain ⟨e4, r4⟩ := h4
    obtain ⟨e5, r5⟩ := h5
    obtain ⟨e7, r7⟩ := h7
    obtain ⟨e8, r8⟩ := h8
    obtain ⟨e9, r9⟩ := h9
    obtain ⟨e10, r10⟩ := h10
    obtain ⟨e11, r11⟩ := h11
    obtain rfl : a6 = Value.bool c6 := (List.cons.inj (show [a6] = [Value.bool c6] from h6)).1
    simp only [List.drop_zero, List.drop_succ_cons, List.take_succ_cons, List.take_zero, List.cons.injEq, and_true] at e0 e1 e2 e3 e4 e5 e7 e8 e9 e10 e11
    subst e0 e1 e2 e3 e4 e5 e7 e8 e9 e10 e11
    refine ⟨rfl, fun k => ?_, wfu64 r9⟩
    unfold intF
    split
    all_goals first | exact wf64 r0 | exact wf64 r1 | exact wf64 r2 | exact wf64 r3 | exact wf64 r4 | exact wf64 r5 | exact wf64 r7 | exact wf64 r8 | exact wf64 r10 | exact wf64 r11
end Go.Proofs.YtllepnadffndnaaDoor
