/- ConsoleQuotes: the row and the card: whatever the arguments, the law answers true and its arguments read as before. Conditions: none but what the row lists (the laid tables). -/
import Derived.Test.YtbiaaogbohfimaaGreatDoorGoesQ
import Derived.Test.YtbiaaogbohfimaaGreatDoorWfQ
import Derived.Test.YtbiaaogbohfimaaGreatDoorFQ
import Derived.Test.YtbiaaogbohfimaaGreatDoorW10
set_option maxRecDepth 20000
set_option maxHeartbeats 16000000
set_option linter.unusedVariables false
set_option linter.unusedSimpArgs false
namespace Go.Proofs.YtbiaaogbohfimaaGreatDoor.consoleQuotes
open Go.ChangeShapes Go.WideShapes Go.ChangeAt Go.RowKit Go.Proofs.YtbiaaogbohfimaaGreatDoor
set_option maxRecDepth 100000 in
theorem contract (H : Type) (enc : TypeId × Value → H) (W : World) (base : Nat) (args : Array Value) (ds gs : List (DataW H)) (before : List MemPlace)
  (hval : ∀ (j : Nat) t v, Tryz.f3.params[j]? = some t → args[j]? = some v → Value.okWide Tryz.prog W .any base t v)
  (hW : DataW.Whole enc Tryz.prog Tryz.f3.params.toList Rows.consoleQuotesSpec.vars false W args.toList ds gs before)
  (hw : (DataW.weightsEach Tryz.prog (Tryz.f3.params.toList ++ (OpenSpec.ofChange Rows.consoleQuotesSpec).bare.plain.varTypes Tryz.prog) (ds ++ gs)).all (· ≤ reachBytes) = true)
  (hL : laidMetH Tryz.prog Rows.consoleQuotesRow.laid W) (hopen : W.ShapedOpen Tryz.prog) :
  Calls Tryz.prog 3 args W fun e W' => ∃ v, e = .returned v ∧ Rows.consoleQuotesSpec.post enc Tryz.prog Tryz.f3 false true false false W args v W' := by
 have hW' := hW
 obtain ⟨p, q, hA0, hV, rfl, hfz, hnd⟩ := hW
 have hA : DataW.TrodAll enc Tryz.prog W 0 (fun _ => true) true Tryz.f3.params.toList args.toList ds p := hA0
 rw [Tryz.params3] at hA hval hw
 obtain ⟨v0, vs0, d0, ds0, p0, q0, hargs, rfl, rfl, h0, r0⟩ := trodAll_cons hA
 obtain ⟨v1, vs1, d1, ds1, p1, q1, rfl, rfl, rfl, h1, r1⟩ := trodAll_cons r0
 obtain ⟨v2, vs2, d2, ds2, p2, q2, rfl, rfl, rfl, h2, r2⟩ := trodAll_cons r1
 obtain ⟨rfl, rfl, rfl⟩ := trodAll_nil r2
 obtain rfl : args = #[v0, v1, v2] := by cases args; simp_all
 obtain ⟨rfl, rfl⟩ := trodVars_none hV
 have k0 := h0
 have lt0 : ∀ x ∈ p0, x.block < W.heap.size := by obtain ⟨m, hm⟩ := k0; exact DataW.trod_lt m _ _ _ hm
 have k1 := h1
 have lt1 : ∀ x ∈ p1, x.block < W.heap.size := by obtain ⟨m, hm⟩ := k1; exact DataW.trod_lt m _ _ _ hm
 have k2 := h2
 have lt2 : ∀ x ∈ p2, x.block < W.heap.size := by obtain ⟨m, hm⟩ := k2; exact DataW.trod_lt m _ _ _ hm
 simp only [List.append_nil] at hW'
 have hw : (d0.weights Tryz.prog 9 ++ (d1.weights Tryz.prog 9 ++ (d2.weights Tryz.prog 22 ++ (DataW.weightsEach Tryz.prog ((OpenSpec.ofChange Rows.consoleQuotesSpec).bare.plain.varTypes Tryz.prog) [])))).all (· ≤ reachBytes) = true := hw
 simp only [List.all_append, Bool.and_eq_true] at hw
 obtain ⟨hw0, hw1, hw2, _⟩ := hw
 obtain ⟨z0, rfl⟩ := okWide_string Tryz.underlying9 (hval 0 9 v0 rfl rfl)
 obtain ⟨fuel0, hf0⟩ := h0
 obtain ⟨_, m0, hm0, hr0, hb0⟩ := opn_strC.2 enc W _ true fuel0 _ d0 p0 hf0 hw0
 obtain ⟨x0, rfl, hx0⟩ := hm0
 obtain ⟨z1, rfl⟩ := okWide_string Tryz.underlying9 (hval 1 9 v1 rfl rfl)
 obtain ⟨fuel1, hf1⟩ := h1
 obtain ⟨_, m1, hm1, hr1, hb1⟩ := opn_strC.2 enc W _ true fuel1 _ d1 p1 hf1 hw1
 obtain ⟨x1, rfl, hx1⟩ := hm1
 obtain ⟨A2, n2, cap2, rfl⟩ := okWide_slice Tryz.underlying22 (hval 2 22 v2 rfl rfl)
 obtain ⟨fuel2, hf2⟩ := h2
 obtain ⟨_, m2, hm2, hr2, hb2⟩ := opn_bytes.2 enc W _ true fuel2 _ d2 p2 hf2 hw2
 obtain ⟨x2, rfl, hx2⟩ := bytes_lift hm2
 refine (consoleQuotes_core x0 hx0 x1 hx1 x2 hx2 W (allP W) [_, _, _] (libOK_of (show laidMet Tryz.prog laidL W from hL) hopen) (fun b o h => h) (.cons (.val [_] hr0) (.cons (.val [_] hr1) (.cons (.val [_] hr2) .nil)))).mono fun e W' ⟨v, he, hv, bel⟩ => ?_
 subst he
 obtain rfl := hv.bool_
 exact ⟨_, rfl, _, _, _, [], _, [], hW', trodAll_mk1 (shut_bool Tryz.underlying4 _), (trodAll_cons_mk (Below.trod laidOut (by kernel_rfl) (of_decide_eq_true (by kernel_rfl)) k0 bel lt0) (trodAll_cons_mk (Below.trod laidOut (by kernel_rfl) (of_decide_eq_true (by kernel_rfl)) k1 bel lt1) (trodAll_cons_mk (Below.trod laidOut (by kernel_rfl) (of_decide_eq_true (by kernel_rfl)) k2 bel lt2) trodAll_mk0))), rfl, bel.frame _, fun h => by cases h⟩
theorem reads (os : Os) {H : Type} (enc : TypeId × Value → H) : ∃ places, DataW.whole enc Tryz.prog ((laidW os).forCall (fun _ _ => 0) ⟨#[], #[.string ⟨#[]⟩, .string ⟨#[]⟩, .slice none 0 0], []⟩).memory Tryz.f3.params.toList Rows.consoleQuotesSpec.vars false #[Value.string ⟨#[]⟩, Value.string ⟨#[]⟩, Value.slice none 0 0].toList 8 = some ([.lit (.string []), .lit (.string []), .nil], [], places) :=
 ⟨[], by kernel_rfl⟩
set_option maxRecDepth 100000 in
theorem lifted (os : Os) (started : os.Started) (H : Type) (enc : TypeId × Value → H) (F : Stop.Interp) :
  ReturnsInHanded {} Tryz.checked os 3 .any ((OpenSpec.ofChange Rows.consoleQuotesSpec).preRow enc Tryz.prog Tryz.f3 Rows.consoleQuotesRow.domain false Rows.consoleQuotesRow.laid) (((OpenSpec.ofChange Rows.consoleQuotesSpec).at F).post enc Tryz.prog Tryz.f3 false true false false) := by
 obtain ⟨places, hx⟩ := reads os enc
 refine returnsInHanded_of_row (C := Tryz.checked) (s := OpenSpec.ofChange Rows.consoleQuotesSpec) own started (by kernel_rfl) Tryz.func3
  (witness_zip (enc := enc) (C := Tryz.checked) (laidW os) (World.laidAll_os _ _ _) #[.string ⟨#[]⟩, .string ⟨#[]⟩, .slice none 0 0] (shapedW os _) (by kernel_rfl)
   (OpenSpec.preRow_of_cond 8 hx (by kernel_rfl) (fun k hk => by cases hk) (by kernel_rfl) (laid_met os _))) ?_
 intro W base args ds gs before hval hW _ _ hw hL hopen _
 exact contract H enc W base args ds gs before hval hW hw hL hopen
theorem said : Rows.ConsoleQuotesSaid :=
 OpenClaim.holds_of_cond 3 Tryz.f3 rfl rfl rfl rfl rfl rfl rfl ⟨rfl, rfl, rfl, rfl, rfl⟩ rfl rfl rfl rfl rfl (by kernel_rfl) Tryz.func3 closed
  (of_decide_eq_true (by kernel_rfl)) (by unfold Func.isWrapper; first | (rw [if_pos (by decide +kernel)]; kernel_rfl) | (rw [if_neg (by decide +kernel)]; exact ⟨rfl, rfl⟩))
  (fun os started H enc _ F => by rw [OpenClaim.pre_eq_preRow]; exact lifted os started H enc F)
theorem plain (f : FuncId) (fn : Func) (hf : Tryz.pinned.checked.prog.funcNamed "mempool/mempoollaw33.ConsoleQuotes" = some f) (hfn : Tryz.pinned.checked.prog.funcs[f]? = some fn) :
  true = Tryz.pinned.checked.prog.looks [] ∧ ∀ (j : Nat) t, fn.params[j]? = some t → Tryz.pinned.checked.prog.wantsStandIn t = false := by
 obtain rfl : f = 3 := Option.some.inj ((show Tryz.prog.funcNamed "mempool/mempoollaw33.ConsoleQuotes" = some 3 by kernel_rfl).symm.trans hf) |>.symm
 obtain rfl : fn = Tryz.f3 := (Option.some.inj (Tryz.func3.symm.trans hfn)).symm
 refine ⟨by kernel_rfl, fun j t ht => ?_⟩
 have key : (Tryz.f3.params.all fun t => Tryz.prog.wantsStandIn t == false) = true := by kernel_rfl
 have := Array.all_eq_true_iff_forall_mem.1 key t (Array.mem_of_getElem? ht)
 show Tryz.prog.wantsStandIn t = false
 simpa using this
theorem card : Rows.ConsoleQuotesCardSaid :=
 Claim7.holds_tied_plain_at .later [] _ _ _ _ said (fun _ h => by cases h) wf (fun _ h => by cases h) consoleQuotes_row_tie rfl ⟨rfl, rfl⟩ mainIs rfl plain goes
end Go.Proofs.YtbiaaogbohfimaaGreatDoor.consoleQuotes
