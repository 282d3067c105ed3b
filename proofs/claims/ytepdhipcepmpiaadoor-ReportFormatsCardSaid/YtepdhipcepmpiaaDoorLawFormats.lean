/- ReportFormats: the row and the card. -/
import Derived.Test.YtepdhipcepmpiaaDoorArgs
import Derived.Test.YtepdhipcepmpiaaDoorRepG
namespace Go.Proofs.YtepdhipcepmpiaaDoor.reportFormats
open Go.ChangeShapes Go.WideShapes Go.ChangeAt Go.RowKit Go.Proofs.YtepdhipcepmpiaaDoor

theorem pow10 {W : World} (h : laidMetH Tryd.prog Rows.reportFormatsRow.laid W) : Lib.TabIs Tryd.prog W "internal/strconv.uint64pow10" .u64 Lib.pow10Tab := by
  have h : laidMet Tryd.prog Rows.reportFormatsRow.laid W := h
  obtain ⟨ps, hv, _⟩ := h
  exact tab_of_vars (g := (Tryd.prog.globalNamed "internal/strconv.uint64pow10").getD 0) (t := 69) (e := 39) (n := 20) (by kernel_rfl) (by kernel_rfl) (by kernel_rfl) (by kernel_rfl) (by kernel_rfl) (by kernel_rfl) hv (List.Mem.tail _ (List.Mem.tail _ (List.Mem.head _)))

theorem contract (H : Type) (enc : TypeId × Value → H) (W : World) (base : Nat) (args : Array Value) (ds gs : List (DataW H)) (before : List MemPlace)
    (hval : ∀ (j : Nat) t v, Tryd.f5.params[j]? = some t → args[j]? = some v → Value.okWide Tryd.prog W .any base t v)
    (hW : DataW.Whole enc Tryd.prog Tryd.f5.params.toList Rows.reportFormatsSpec.vars false W args.toList ds gs before)
    (hw : (DataW.weightsEach Tryd.prog (Tryd.f5.params.toList ++ (OpenSpec.ofChange Rows.reportFormatsSpec).bare.plain.varTypes Tryd.prog) (ds ++ gs)).all (· ≤ reachBytes) = true)
    (hL : laidMetH Tryd.prog Rows.reportFormatsRow.laid W) :
    Calls Tryd.prog 5 args W fun e W' => ∃ v, e = .returned v ∧ Rows.reportFormatsSpec.post enc Tryd.prog Tryd.f5 false true false false W args v W' := by
  have hW' := hW
  obtain ⟨p, q, hA0, hV, rfl, hfz, hnd⟩ := hW
  have hA : DataW.TrodAll enc Tryd.prog W 0 (fun _ => true) true Tryd.f5.params.toList args.toList ds p := hA0
  rw [Tryd.params5] at hA hval hw
  obtain ⟨v0, vs0, d0, ds0, p0, q0, hargs, rfl, rfl, h0, r0⟩ := trodAll_cons hA
  obtain ⟨rfl, rfl, rfl⟩ := trodAll_nil r0
  obtain rfl : args = #[v0] := by cases args; simp_all
  obtain ⟨rfl, rfl⟩ := trodVars_none hV
  have k0 := h0
  have lt0 : ∀ x ∈ p0, x.block < W.heap.size := by obtain ⟨m, hm⟩ := k0; exact DataW.trod_lt m _ _ _ hm
  simp only [List.append_nil] at hW'
  obtain ⟨cs, rfl, _⟩ := okWide_struct Tryd.underlying29 (hval 0 29 v0 rfl rfl)
  have hw0 : (d0.weights Tryd.prog 29).all (· ≤ reachBytes) = true := by
    have hw : (d0.weights Tryd.prog 29 ++ DataW.weightsEach Tryd.prog ((OpenSpec.ofChange Rows.reportFormatsSpec).bare.plain.varTypes Tryd.prog) []).all (· ≤ reachBytes) = true := hw
    rw [List.all_append, Bool.and_eq_true] at hw
    exact hw.1
  obtain ⟨fuel, hf⟩ := h0
  obtain ⟨c, hc⟩ := opensCounts.2 enc W _ true fuel _ d0 p0 hf hw0
  obtain ⟨hcs, hok⟩ := counts_cells hc
  obtain rfl : cs = cntV c := by
    have h : cs.toList = (cntV c).toList := hcs
    exact Array.toList_inj.1 h
  refine (formats_c c hok W (pow10 hL)).mono fun e W' ⟨he, bel⟩ => ?_
  subst he
  exact ⟨_, rfl, _, _, _, [], _, [], hW', trodAll_mk1 (shut_bool Tryd.underlying4 _), (trodAll_cons_mk (Below.trod laidOut (by kernel_rfl) (of_decide_eq_true (by kernel_rfl)) k0 bel lt0) trodAll_mk0), rfl, bel.frame _, fun h => by cases h⟩

theorem laid_met (os : Os) : laidMet Tryd.prog Rows.reportFormatsRow.laid ((laidWorld Rows.reportFormatsRow.laid os).forCall (fun _ _ => 0) ⟨#[], #[.agg (cntV (zeroCounts 0))], []⟩).memory :=
  laidMet_of_run' 8 (by kernel_rfl) (by kernel_rfl)
theorem reads (os : Os) {H : Type} (enc : TypeId × Value → H) : ∃ places, DataW.whole enc Tryd.prog ((laidWorld Rows.reportFormatsRow.laid os).forCall (fun _ _ => 0) ⟨#[], #[.agg (cntV (zeroCounts 0))], []⟩).memory Tryd.f5.params.toList Rows.reportFormatsSpec.vars false #[Value.agg (cntV (zeroCounts 0))].toList 8 = some ([.agg (List.replicate 9 (.lit (.int .i64 0)))], [], places) :=
  ⟨[], by kernel_rfl⟩

set_option maxRecDepth 100000 in
theorem lifted (os : Os) (started : os.Started) (H : Type) (enc : TypeId × Value → H) (F : Stop.Interp) :
    ReturnsInHanded {} Tryd.checked os 5 .any ((OpenSpec.ofChange Rows.reportFormatsSpec).preRow enc Tryd.prog Tryd.f5 Rows.reportFormatsRow.domain false Rows.reportFormatsRow.laid) (((OpenSpec.ofChange Rows.reportFormatsSpec).at F).post enc Tryd.prog Tryd.f5 false true false false) := by
  obtain ⟨places, hx⟩ := reads os enc
  refine returnsInHanded_of_row (C := Tryd.checked) (s := OpenSpec.ofChange Rows.reportFormatsSpec) own started (by kernel_rfl) Tryd.func5
    (witness_row_at (enc := enc) (C := Tryd.checked) false (laidWorld Rows.reportFormatsRow.laid os) #[.agg (cntV (zeroCounts 0))] rfl (by kernel_rfl) (by kernel_rfl) (by kernel_rfl)
      (OpenSpec.preRow_of_cond 8 hx (by kernel_rfl) (fun k hk => by cases hk) (by kernel_rfl) (laid_met os))) ?_
  intro W base args ds gs before hval hW _ _ hw hL _ _
  exact contract H enc W base args ds gs before hval hW hw hL

theorem said : Rows.ReportFormatsSaid :=
  OpenClaim.holds_of_cond 5 Tryd.f5 rfl rfl rfl rfl rfl rfl rfl ⟨rfl, rfl, rfl, rfl, rfl⟩ rfl rfl rfl rfl rfl (by kernel_rfl) Tryd.func5 (by kernel_rfl)
    (of_decide_eq_true (by kernel_rfl)) (by unfold Func.isWrapper; first | (rw [if_pos (by decide +kernel)]; kernel_rfl) | (rw [if_neg (by decide +kernel)]; exact ⟨rfl, rfl⟩))
    (fun os started H enc _ F => by rw [OpenClaim.pre_eq_preRow]; exact lifted os started H enc F)

theorem plain (f : FuncId) (fn : Func) (hf : Tryd.pinned.checked.prog.funcNamed "mempool/mempoollaw31.ReportFormats" = some f) (hfn : Tryd.pinned.checked.prog.funcs[f]? = some fn) :
    false = Tryd.pinned.checked.prog.looks [] ∧ ∀ (j : Nat) t, fn.params[j]? = some t → Tryd.pinned.checked.prog.wantsStandIn t = false := by
  obtain rfl : f = 5 := Option.some.inj ((show Tryd.prog.funcNamed "mempool/mempoollaw31.ReportFormats" = some 5 by kernel_rfl).symm.trans hf) |>.symm
  obtain rfl : fn = Tryd.f5 := (Option.some.inj (Tryd.func5.symm.trans hfn)).symm
  refine ⟨by kernel_rfl, fun j t ht => ?_⟩
  rw [Tryd.params5] at ht
  have hm : t ∈ [29] := by simpa using Array.mem_of_getElem? ht
  have key : ∀ t ∈ [29], Tryd.prog.wantsStandIn t = false := by
    intro t ht
    simp only [List.mem_cons, List.not_mem_nil, or_false] at ht
    subst ht
    kernel_rfl
  exact key t hm

theorem card : Rows.ReportFormatsCardSaid :=
  Claim7.holds_tied_plain_at .later [] _ _ _ _ said (fun _ h => by cases h) (by kernel_rfl) (fun _ h => by cases h) reportFormats_row_tie rfl ⟨rfl, rfl⟩ (by kernel_rfl) rfl plain (by kernel_rfl)
end Go.Proofs.YtepdhipcepmpiaaDoor.reportFormats
