/- ReportTallies: the row and the card: whatever the arguments, the law answers true and its arguments read as before. Conditions: none but what the row lists (the laid tables). -/
import Derived.Test.YtepdhipcepmpiaaDoorArgs2
namespace Go.Proofs.YtepdhipcepmpiaaDoor.reportTallies
open Go.ChangeShapes Go.WideShapes Go.ChangeAt Go.RowKit Go.Proofs.YtepdhipcepmpiaaDoor

theorem pow10 {W : World} (h : laidMetH Tryd.prog Rows.reportTalliesRow.laid W) : Lib.TabIs Tryd.prog W "internal/strconv.uint64pow10" .u64 Lib.pow10Tab := by
  have h : laidMet Tryd.prog Rows.reportTalliesRow.laid W := h
  obtain ⟨ps, hv, _⟩ := h
  exact tab_of_vars (g := (Tryd.prog.globalNamed "internal/strconv.uint64pow10").getD 0) (t := 69) (e := 39) (n := 20) (by kernel_rfl) (by kernel_rfl) (by kernel_rfl) (by kernel_rfl) (by kernel_rfl) (by kernel_rfl) hv (List.Mem.tail _ (List.Mem.tail _ (List.Mem.head _)))

theorem contract (H : Type) (enc : TypeId × Value → H) (W : World) (base : Nat) (args : Array Value) (ds gs : List (DataW H)) (before : List MemPlace)
    (hval : ∀ (j : Nat) t v, Tryd.f3.params[j]? = some t → args[j]? = some v → Value.okWide Tryd.prog W .any base t v)
    (hW : DataW.Whole enc Tryd.prog Tryd.f3.params.toList Rows.reportTalliesSpec.vars false W args.toList ds gs before)
    (hw : (DataW.weightsEach Tryd.prog (Tryd.f3.params.toList ++ (OpenSpec.ofChange Rows.reportTalliesSpec).bare.plain.varTypes Tryd.prog) (ds ++ gs)).all (· ≤ reachBytes) = true)
    (hL : laidMetH Tryd.prog Rows.reportTalliesRow.laid W) :
    Calls Tryd.prog 3 args W fun e W' => ∃ v, e = .returned v ∧ Rows.reportTalliesSpec.post enc Tryd.prog Tryd.f3 false true false false W args v W' := by
  have hW' := hW
  obtain ⟨p, q, hA0, hV, rfl, hfz, hnd⟩ := hW
  have hA : DataW.TrodAll enc Tryd.prog W 0 (fun _ => true) true Tryd.f3.params.toList args.toList ds p := hA0
  rw [Tryd.params3] at hA hval hw
  obtain ⟨v0, vs0, d0, ds0, p0, q0, hargs, rfl, rfl, h0, r0⟩ := trodAll_cons hA
  obtain ⟨v1, vs1, d1, ds1, p1, q1, rfl, rfl, rfl, h1, r1⟩ := trodAll_cons r0
  obtain ⟨v2, vs2, d2, ds2, p2, q2, rfl, rfl, rfl, h2, r2⟩ := trodAll_cons r1
  obtain ⟨v3, vs3, d3, ds3, p3, q3, rfl, rfl, rfl, h3, r3⟩ := trodAll_cons r2
  obtain ⟨rfl, rfl, rfl⟩ := trodAll_nil r3
  obtain rfl : args = #[v0, v1, v2, v3] := by cases args; simp_all
  obtain ⟨rfl, rfl⟩ := trodVars_none hV
  have k0 := h0
  have lt0 : ∀ x ∈ p0, x.block < W.heap.size := by obtain ⟨m, hm⟩ := k0; exact DataW.trod_lt m _ _ _ hm
  have k1 := h1
  have lt1 : ∀ x ∈ p1, x.block < W.heap.size := by obtain ⟨m, hm⟩ := k1; exact DataW.trod_lt m _ _ _ hm
  have k2 := h2
  have lt2 : ∀ x ∈ p2, x.block < W.heap.size := by obtain ⟨m, hm⟩ := k2; exact DataW.trod_lt m _ _ _ hm
  have k3 := h3
  have lt3 : ∀ x ∈ p3, x.block < W.heap.size := by obtain ⟨m, hm⟩ := k3; exact DataW.trod_lt m _ _ _ hm
  simp only [List.append_nil] at hW'
  have hw : (d0.weights Tryd.prog 22 ++ (d1.weights Tryd.prog 23 ++ (d2.weights Tryd.prog 3 ++ (d3.weights Tryd.prog 24 ++ (DataW.weightsEach Tryd.prog ((OpenSpec.ofChange Rows.reportTalliesSpec).bare.plain.varTypes Tryd.prog) []))))).all (· ≤ reachBytes) = true := hw
  simp only [List.all_append, Bool.and_eq_true] at hw
  obtain ⟨hw0, hw1, hw2, hw3, _⟩ := hw
  obtain ⟨A0, n0, cap0, rfl⟩ := okWide_slice Tryd.underlying22 (hval 0 22 v0 rfl rfl)
  obtain ⟨fuel0, hf0⟩ := h0
  obtain ⟨xs0, hx0⟩ := opensOps.2 enc W _ true fuel0 _ d0 p0 hf0 hw0
  obtain ⟨B0, e0, hcs0, hsl0⟩ := hx0
  obtain ⟨rfl, rfl, rfl⟩ : A0 = B0 ∧ n0 = xs0.length ∧ cap0 = e0 := by
    have h : [Value.slice A0 n0 cap0] = [Value.slice B0 xs0.length e0] := hcs0
    simpa using h
  obtain ⟨A1, n1, cap1, rfl⟩ := okWide_slice Tryd.underlying23 (hval 1 23 v1 rfl rfl)
  obtain ⟨fuel1, hf1⟩ := h1
  obtain ⟨xs1, hx1⟩ := opensReplies.2 enc W _ true fuel1 _ d1 p1 hf1 hw1
  obtain ⟨B1, e1, hcs1, hsl1⟩ := hx1
  obtain ⟨rfl, rfl, rfl⟩ : A1 = B1 ∧ n1 = xs1.length ∧ cap1 = e1 := by
    have h : [Value.slice A1 n1 cap1] = [Value.slice B1 xs1.length e1] := hcs1
    simpa using h
  obtain ⟨a2, rfl, rfl, rfl, wa2⟩ := open_int Tryd.underlying3 (hval 2 3 v2 rfl rfl) h2
  obtain ⟨A3, n3, cap3, rfl⟩ := okWide_slice Tryd.underlying24 (hval 3 24 v3 rfl rfl)
  obtain ⟨fuel3, hf3⟩ := h3
  obtain ⟨xs3, hx3⟩ := opensBytes.2 enc W _ true fuel3 _ d3 p3 hf3 hw3
  obtain ⟨B3, e3, hcs3, hsl3⟩ := hx3
  obtain ⟨rfl, rfl, rfl⟩ : A3 = B3 ∧ n3 = xs3.length ∧ cap3 = e3 := by
    have h : [Value.slice A3 n3 cap3] = [Value.slice B3 xs3.length e3] := hcs3
    simpa using h
  refine (reportTallies_core A0 cap0 xs0 hsl0 A1 cap1 xs1 hsl1 a2 wa2 A3 cap3 xs3 hsl3 (pow10 hL)).mono fun e W' ⟨he, bel⟩ => ?_
  subst he
  exact ⟨_, rfl, _, _, _, [], _, [], hW', trodAll_mk1 (shut_bool Tryd.underlying4 _), (trodAll_cons_mk (Below.trod laidOut (by kernel_rfl) (of_decide_eq_true (by kernel_rfl)) k0 bel lt0) (trodAll_cons_mk (Below.trod laidOut (by kernel_rfl) (of_decide_eq_true (by kernel_rfl)) k1 bel lt1) (trodAll_cons_mk (shut_int Tryd.underlying3 wa2) (trodAll_cons_mk (Below.trod laidOut (by kernel_rfl) (of_decide_eq_true (by kernel_rfl)) k3 bel lt3) trodAll_mk0)))), rfl, bel.frame _, fun h => by cases h⟩

theorem laid_met (os : Os) : laidMet Tryd.prog Rows.reportTalliesRow.laid ((laidWorld Rows.reportTalliesRow.laid os).forCall (fun _ _ => 0) ⟨#[], #[.slice none 0 0, .slice none 0 0, .int .i64 0, .slice none 0 0], []⟩).memory :=
  laidMet_of_run' 8 (by kernel_rfl) (by kernel_rfl)
theorem reads (os : Os) {H : Type} (enc : TypeId × Value → H) : ∃ places, DataW.whole enc Tryd.prog ((laidWorld Rows.reportTalliesRow.laid os).forCall (fun _ _ => 0) ⟨#[], #[.slice none 0 0, .slice none 0 0, .int .i64 0, .slice none 0 0], []⟩).memory Tryd.f3.params.toList Rows.reportTalliesSpec.vars false #[Value.slice none 0 0, Value.slice none 0 0, Value.int .i64 0, Value.slice none 0 0].toList 8 = some ([.nil, .nil, .lit (.int .i64 0), .nil], [], places) :=
  ⟨[], by kernel_rfl⟩

set_option maxRecDepth 100000 in
theorem lifted (os : Os) (started : os.Started) (H : Type) (enc : TypeId × Value → H) (F : Stop.Interp) :
    ReturnsInHanded {} Tryd.checked os 3 .any ((OpenSpec.ofChange Rows.reportTalliesSpec).preRow enc Tryd.prog Tryd.f3 Rows.reportTalliesRow.domain false Rows.reportTalliesRow.laid) (((OpenSpec.ofChange Rows.reportTalliesSpec).at F).post enc Tryd.prog Tryd.f3 false true false false) := by
  obtain ⟨places, hx⟩ := reads os enc
  refine returnsInHanded_of_row (C := Tryd.checked) (s := OpenSpec.ofChange Rows.reportTalliesSpec) own started (by kernel_rfl) Tryd.func3
    (witness_row_at (enc := enc) (C := Tryd.checked) false (laidWorld Rows.reportTalliesRow.laid os) #[.slice none 0 0, .slice none 0 0, .int .i64 0, .slice none 0 0] rfl (by kernel_rfl) (by kernel_rfl) (by kernel_rfl)
      (OpenSpec.preRow_of_cond 8 hx (by kernel_rfl) (fun k hk => by cases hk) (by kernel_rfl) (laid_met os))) ?_
  intro W base args ds gs before hval hW _ _ hw hL _ _
  exact contract H enc W base args ds gs before hval hW hw hL

theorem said : Rows.ReportTalliesSaid :=
  OpenClaim.holds_of_cond 3 Tryd.f3 rfl rfl rfl rfl rfl rfl rfl ⟨rfl, rfl, rfl, rfl, rfl⟩ rfl rfl rfl rfl rfl (by kernel_rfl) Tryd.func3 (by kernel_rfl)
    (of_decide_eq_true (by kernel_rfl)) (by unfold Func.isWrapper; first | (rw [if_pos (by decide +kernel)]; kernel_rfl) | (rw [if_neg (by decide +kernel)]; exact ⟨rfl, rfl⟩))
    (fun os started H enc _ F => by rw [OpenClaim.pre_eq_preRow]; exact lifted os started H enc F)

theorem plain (f : FuncId) (fn : Func) (hf : Tryd.pinned.checked.prog.funcNamed "mempool/mempoollaw31.ReportTallies" = some f) (hfn : Tryd.pinned.checked.prog.funcs[f]? = some fn) :
    false = Tryd.pinned.checked.prog.looks [] ∧ ∀ (j : Nat) t, fn.params[j]? = some t → Tryd.pinned.checked.prog.wantsStandIn t = false := by
  obtain rfl : f = 3 := Option.some.inj ((show Tryd.prog.funcNamed "mempool/mempoollaw31.ReportTallies" = some 3 by kernel_rfl).symm.trans hf) |>.symm
  obtain rfl : fn = Tryd.f3 := (Option.some.inj (Tryd.func3.symm.trans hfn)).symm
  refine ⟨by kernel_rfl, fun j t ht => ?_⟩
  have key : (Tryd.f3.params.all fun t => Tryd.prog.wantsStandIn t == false) = true := by kernel_rfl
  have := Array.all_eq_true_iff_forall_mem.1 key t (Array.mem_of_getElem? ht)
  show Tryd.prog.wantsStandIn t = false
  simpa using this

theorem card : Rows.ReportTalliesCardSaid :=
  Claim7.holds_tied_plain_at .later [] _ _ _ _ said (fun _ h => by cases h) (by kernel_rfl) (fun _ h => by cases h) reportTallies_row_tie rfl ⟨rfl, rfl⟩ (by kernel_rfl) rfl plain (by kernel_rfl)
end Go.Proofs.YtepdhipcepmpiaaDoor.reportTallies
