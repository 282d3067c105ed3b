/- long, known and parses. -/
import Derived.Test.YtllepnadffndnaaDoorValid
import Derived.Test.YtllepnadffndnaaDoorRParse
import Derived.Test.YtllepnadffndnaaDoorForm2
namespace Go.Proofs.YtllepnadffndnaaDoor
open Go.RowKit

def t1L : Bs := [109, 97, 120, 45, 116, 120, 115, 32, 53, 32, 35, 32, 102, 101, 119, 10, 227, 128, 128, 112, 114, 105, 99, 101, 194, 160, 55, 10]
def t2L : Bs := [35, 32, 120, 10, 112, 114, 105, 99, 101, 32, 48, 49]
theorem known1 : parseSpec t1L = ({ defC with maxTxs := 5, price := 7 }, 0, 0) := by decide +kernel
theorem known2 : parseSpec t2L = (zeroC, 2, 2) := by decide +kernel
theorem known3 : validC defC = 0 := by decide +kernel
theorem known4 : 100 < (formT defC).length := by decide +kernel
theorem known5 : (formT defC).take 12 = [109, 97, 120, 45, 116, 120, 115, 32, 49, 48, 48, 10] := by decide +kernel
theorem ba_ext {a b : ByteArray} (h : a.data.toList = b.data.toList) : a = b := by
  cases a; cases b
  simpa using Array.toList_inj.1 h
theorem defC_ok : CfgOK defC := by
  refine ⟨fun k => ?_, by decide⟩
  unfold intF
  split <;> decide

theorem fmt_def : ∃ fb : ByteArray, 100 < fb.size ∧ fb.extract 0 12 = ⟨#[109, 97, 120, 45, 116, 120, 115, 32, 49, 48, 48, 10]⟩ ∧ ∀ (w : World), Lib.TabIs Tryd.prog w "internal/strconv.uint64pow10" .u64 Lib.pow10Tab →
    Calls Tryd.prog 17 #[.agg ⟨cfgV defC⟩] w fun e w' => e = .returned (.tuple #[.string fb, .int .i64 0]) ∧ Below w.heap.size w w' := by
  refine ⟨⟨(formT defC).toArray⟩, ?_, ?_, ?_⟩
  · have := known4
    simpa [ByteArray.size] using this
  · refine ba_ext ?_
    rw [Lib.extract_from_zero]
    exact known5
  · have hf := cformat_c defC defC_ok
    rw [known3] at hf
    exact hf
theorem parse1 (w : World) (hlib : ∀ w', Below w.heap.size w w' → LibOK w') : Calls Tryd.prog 19 #[.string ⟨#[109, 97, 120, 45, 116, 120, 115, 32, 53, 32, 35, 32, 102, 101, 119, 10, 227, 128, 128, 112, 114, 105, 99, 101, 194, 160, 55, 10]⟩] w fun e w' => e = .returned (.tuple #[.agg ⟨cfgV ⟨5, 65536, 1024, 200, 0, 0, false, 32768, -1, 7, 0, 1⟩⟩, .int .i64 0, .int .i64 0]) ∧ Below w.heap.size w w' := by
  have hp1 := pparse_c ⟨t1L.toArray⟩ w hlib
  rw [show (⟨t1L.toArray⟩ : ByteArray).data.toList = t1L from rfl, known1] at hp1
  exact hp1
theorem parse2 (w : World) (hlib : ∀ w', Below w.heap.size w w' → LibOK w') : Calls Tryd.prog 19 #[.string ⟨#[35, 32, 120, 10, 112, 114, 105, 99, 101, 32, 48, 49]⟩] w fun e w' => e = .returned (.tuple #[.agg ⟨cfgV ⟨0, 0, 0, 0, 0, 0, false, 0, 0, 0, 0, 0⟩⟩, .int .i64 2, .int .i64 2]) ∧ Below w.heap.size w w' := by
  have hp1 := pparse_c ⟨t2L.toArray⟩ w hlib
  rw [show (⟨t2L.toArray⟩ : ByteArray).data.toList = t2L from rfl, known2] at hp1
  exact hp1

set_option maxRecDepth 100000 in
set_option maxHeartbeats 1000000 in
theorem known_c (w : World) (hlib : ∀ w', Below w.heap.size w w' → LibOK w') : Calls Tryd.prog 11 #[] w fun e w' => e = .returned (.bool true) ∧ Below w.heap.size w w' := by
  obtain ⟨fb, k1, k2, hf⟩ := fmt_def
  have k1' : decide ((100 : Int) < (fb.size : Int)) = true := decide_eq_true (by omega)
  refine calls_of_vc seat Tryd.func11 rfl rfl (Nat.le_of_ble_eq_true rfl) (N := 67) (args := []) (Nat.le_of_ble_eq_true rfl) rfl (A.start w) ?_
  intro w1 hA
  refine (parse1 w1 (fun w' hb => hlib w' ((hA.below' hb).bel (by simp)))).mono ?_
  rintro e w2 ⟨rfl, hb⟩
  refine ⟨.val _, _, _, rfl, hA.below' hb, ?_⟩
  clear hA hb
  refine ⟨_, rfl, _, rfl, _, rfl, ?_⟩
  intro g0 _
  refine ⟨rfl, rfl, rfl, rfl, ?_⟩
  intro w1 hA
  refine (parse2 w1 (fun w' hb => hlib w' ((hA.below' hb).bel (by simp)))).mono ?_
  rintro e w2 ⟨rfl, hb⟩
  refine ⟨.val _, _, _, rfl, hA.below' hb, ?_⟩
  clear hA hb
  refine ⟨_, rfl, _, rfl, _, rfl, ?_⟩
  intro g1 _
  refine ⟨rfl, rfl, rfl, rfl, ?_⟩
  (intro w1 hA; refine (default_c w1).mono ?_; rintro e w2 ⟨rfl, hb⟩; refine ⟨.val _, _, _, rfl, hA.below' hb, ?_⟩)
  intro w1 hA
  refine (hf w1 (hlib w1 (hA.bel (by simp))).pow10).mono ?_
  rintro e w2 ⟨rfl, hb⟩
  refine ⟨.val _, _, _, rfl, hA.below' hb, ?_⟩
  clear hA hb
  refine ⟨_, rfl, _, rfl, ?_⟩
  repeat (first | refine ⟨fun _ => ?_, fun h => absurd h (by decide)⟩ | refine ⟨_, rfl, rfl, ?_⟩)
  refine ⟨fun _ => ?_, fun h => absurd (k1'.symm.trans h) (by decide)⟩
  refine ⟨12, rfl, by omega, by omega, _, k2, ?_⟩
  intro w' hA
  exact ⟨congrArg (fun b => Ending.returned (Value.bool b)) (beq_self_eq_true _), hA.bel (by simp)⟩

theorem cfg_inj {c d : MConfig} (h : cfgV c = cfgV d) : c = d := by
  obtain ⟨c0, c1, c2, c3, c4, c5, c6, c7, c8, c9, c10, c11⟩ := c
  obtain ⟨d0, d1, d2, d3, d4, d5, d6, d7, d8, d9, d10, d11⟩ := d
  simpa [cfgV] using h
set_option maxRecDepth 100000 in
theorem cfg_conf (c : MConfig) : confT tab 9 24 (cfgV c) := by
  obtain ⟨c0, c1, c2, c3, c4, c5, c6, c7, c8, c9, c10, c11⟩ := c
  exact confB_out rfl
set_option maxRecDepth 100000 in
theorem cfg_cmp (c d : MConfig) (x y : Operand) (w : World) : (do eqGuard .eql 24 x y (.agg ⟨cfgV c⟩) (.agg ⟨cfgV d⟩); binOp .eql 24 (.agg ⟨cfgV c⟩) (.agg ⟨cfgV d⟩) : Sem Value).run Tryd.prog w = .ok (.bool (decide (c = d))) w ∧
    (do eqGuard .neq 24 x y (.agg ⟨cfgV c⟩) (.agg ⟨cfgV d⟩); binOp .neq 24 (.agg ⟨cfgV c⟩) (.agg ⟨cfgV d⟩) : Sem Value).run Tryd.prog w = .ok (.bool (!decide (c = d))) w := by
  obtain ⟨b, h1, h2, h3⟩ := run_eq_flat (P := Tryd.prog) (T := tab) seat.tab (t := 24) rfl rfl (by kernel_rfl) (by kernel_rfl) x y (cfg_conf c) (cfg_conf d)
  have : b = decide (c = d) := by
    rw [Bool.eq_iff_iff, h3, decide_eq_true_eq]
    exact ⟨cfg_inj, fun e => by rw [e]⟩
  rw [← this]
  exact ⟨h1 w, h2 w⟩
theorem cfg_same (c : MConfig) (x y : Operand) (w : World) : (do eqGuard .eql 24 x y (.agg ⟨cfgV c⟩) (.agg ⟨cfgV c⟩); binOp .eql 24 (.agg ⟨cfgV c⟩) (.agg ⟨cfgV c⟩) : Sem Value).run Tryd.prog w = .ok (.bool true) w := by
  have := (cfg_cmp c c x y w).1
  rw [this]; simp
theorem cfg_same' (c : MConfig) (x y : Operand) (w : World) : (do eqGuard .neq 24 x y (.agg ⟨cfgV c⟩) (.agg ⟨cfgV c⟩); binOp .neq 24 (.agg ⟨cfgV c⟩) (.agg ⟨cfgV c⟩) : Sem Value).run Tryd.prog w = .ok (.bool false) w := by
  have := (cfg_cmp c c x y w).2
  rw [this]; simp

set_option maxRecDepth 100000 in
theorem parses_c (s : ByteArray) (hs : s.size ≤ 140737488355328) (w : World) (hlib : ∀ w', Below w.heap.size w w' → LibOK w') : Calls Tryd.prog 20 #[.string s] w fun e w' => e = .returned (.bool true) ∧ Below w.heap.size w w' := by
  have hp := pparse_c s
  have hr := rparse_c s hs
  generalize parseSpec s.data.toList = res at hp hr
  obtain ⟨⟨c0, c1, c2, c3, c4, c5, c6, c7, c8, c9, c10, c11⟩, i, e⟩ := res
  refine calls_of_vc seat Tryd.func20 rfl rfl (Nat.le_of_ble_eq_true rfl) (N := 34) (args := [.val (.string s)]) (Nat.le_of_ble_eq_true rfl) rfl (A.start w) ?_
  intro w1 hA
  refine (hp w1 (fun w' hb => hlib w' ((hA.below' hb).bel (by simp)))).mono ?_
  rintro e w2 ⟨rfl, hb⟩
  refine ⟨.val _, _, _, rfl, hA.below' hb, ?_⟩
  clear hA hb
  refine ⟨_, rfl, _, rfl, _, rfl, ?_⟩
  intro g0 _
  refine ⟨rfl, rfl, rfl, rfl, ?_⟩
  (intro w1 hA; refine (hr w1).mono ?_; rintro e w2 ⟨rfl, hb⟩; refine ⟨.val _, _, _, rfl, hA.below' hb, ?_⟩)
  refine ⟨_, rfl, _, rfl, _, rfl, ?_⟩
  intro g1 _
  refine ⟨rfl, rfl, rfl, rfl, ?_⟩
  refine ⟨rfl, rfl, ?_⟩
  refine ⟨rfl, rfl, ?_⟩
  refine ⟨.bool true, fun w' _ => cfg_same ⟨c0, c1, c2, c3, c4, c5, c6, c7, c8, c9, c10, c11⟩ _ _ w', ?_⟩
  refine ⟨fun _ => ?_, fun h => Bool.noConfusion h⟩
  refine ⟨fun _ => ?_, fun h => absurd ((beq_self_eq_true i).symm.trans h) (by decide)⟩
  intro w' hA
  exact ⟨congrArg (fun b => Ending.returned (Value.bool b)) (beq_self_eq_true _), hA.bel (by simp)⟩

/-- How much the lists hold. -/
def sumLen (ls : List (List Int)) : Nat := ls.foldl (fun n l => n + l.length) 0
end Go.Proofs.YtllepnadffndnaaDoor
