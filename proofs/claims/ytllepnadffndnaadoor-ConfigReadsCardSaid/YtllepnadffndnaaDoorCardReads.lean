/- ConfigReads: the row and the card: whatever the arguments, the law answers true and its arguments read as before. Conditions: none but what the row lists (the laid tables). -/
import Derived.Test.YtllepnadffndnaaDoorCArgs
import Derived.Test.YtllepnadffndnaaDoorLawR
namespace Go.Proofs.YtllepnadffndnaaDoor.configReads
open Go.ChangeShapes Go.WideShapes Go.ChangeAt Go.RowKit Go.Proofs.YtllepnadffndnaaDoor

set_option maxRecDepth 100000 in
theorem contract (H : Type) (enc : TypeId × Value → H) (W : World) (base : Nat) (args : Array Value) (ds gs : List (DataW H)) (before : List MemPlace)
    (hval : ∀ (j : Nat) t v, Tryd.f6.params[j]? = some t → args[j]? = some v → Value.okWide Tryd.prog W .any base t v)
    (hW : DataW.Whole enc Tryd.prog Tryd.f6.params.toList Rows.configReadsSpec.vars false W args.toList ds gs before)
    (hw : (DataW.weightsEach Tryd.prog (Tryd.f6.params.toList ++ (OpenSpec.ofChange Rows.configReadsSpec).bare.plain.varTypes Tryd.prog) (ds ++ gs)).all (· ≤ reachBytes) = true)
    (hL : laidMetH Tryd.prog Rows.configReadsRow.laid W) (hopen : W.ShapedOpen Tryd.prog) :
    Calls Tryd.prog 6 args W fun e W' => ∃ v, e = .returned v ∧ Rows.configReadsSpec.post enc Tryd.prog Tryd.f6 false true false false W args v W' := by
  have hlib : ∀ W', Below W.heap.size W W' → LibOK W' := fun W' hb => (libOK_of (show laidMet Tryd.prog laidL W from hL) hopen).below hb
  have hW' := hW
  obtain ⟨p, q, hA0, hV, rfl, hfz, hnd⟩ := hW
  have hA : DataW.TrodAll enc Tryd.prog W 0 (fun _ => true) true Tryd.f6.params.toList args.toList ds p := hA0
  rw [Tryd.params6] at hA hval hw
  obtain ⟨v0, vs0, d0, ds0, p0, q0, hargs, rfl, rfl, h0, r0⟩ := trodAll_cons hA
  obtain ⟨v1, vs1, d1, ds1, p1, q1, rfl, rfl, rfl, h1, r1⟩ := trodAll_cons r0
  obtain ⟨v2, vs2, d2, ds2, p2, q2, rfl, rfl, rfl, h2, r2⟩ := trodAll_cons r1
  obtain ⟨v3, vs3, d3, ds3, p3, q3, rfl, rfl, rfl, h3, r3⟩ := trodAll_cons r2
  obtain ⟨v4, vs4, d4, ds4, p4, q4, rfl, rfl, rfl, h4, r4⟩ := trodAll_cons r3
  obtain ⟨rfl, rfl, rfl⟩ := trodAll_nil r4
  obtain rfl : args = #[v0, v1, v2, v3, v4] := by cases args; simp_all
  obtain ⟨rfl, rfl⟩ := trodVars_none hV
  have k0 := h0
  have lt0 : ∀ x ∈ p0, x.block < W.heap.size := by obtain ⟨m, hm⟩ := k0; exact DataW.trod_lt m _ _ _ hm
  have k1 := h1
  have lt1 : ∀ x ∈ p1, x.block < W.heap.size := by obtain ⟨m, hm⟩ := k1; exact DataW.trod_lt m _ _ _ hm
  have k2 := h2
  have lt2 : ∀ x ∈ p2, x.block < W.heap.size := by obtain ⟨m, hm⟩ := k2; exact DataW.trod_lt m _ _ _ hm
  have k3 := h3
  have lt3 : ∀ x ∈ p3, x.block < W.heap.size := by obtain ⟨m, hm⟩ := k3; exact DataW.trod_lt m _ _ _ hm
  have k4 := h4
  have lt4 : ∀ x ∈ p4, x.block < W.heap.size := by obtain ⟨m, hm⟩ := k4; exact DataW.trod_lt m _ _ _ hm
  simp only [List.append_nil] at hW'
  have hw : (d0.weights Tryd.prog 25 ++ (d1.weights Tryd.prog 3 ++ (d2.weights Tryd.prog 5 ++ (d3.weights Tryd.prog 3 ++ (d4.weights Tryd.prog 5 ++ (DataW.weightsEach Tryd.prog ((OpenSpec.ofChange Rows.configReadsSpec).bare.plain.varTypes Tryd.prog) [])))))).all (· ≤ reachBytes) = true := hw
  simp only [List.all_append, Bool.and_eq_true] at hw
  obtain ⟨hw0, hw1, hw2, hw3, hw4, _⟩ := hw
  obtain ⟨A0, n0, cap0, rfl⟩ := okWide_slice Tryd.underlying25 (hval 0 25 v0 rfl rfl)
  obtain ⟨fuel0, hf0⟩ := h0
  obtain ⟨xs0, hx0⟩ := opensInts.2 enc W _ true fuel0 _ d0 p0 hf0 hw0
  obtain ⟨B0, e0, hcs0, hsl0⟩ := hx0
  obtain ⟨rfl, rfl, rfl⟩ : A0 = B0 ∧ n0 = xs0.length ∧ cap0 = e0 := by
    have h : [Value.slice A0 n0 cap0] = [Value.slice B0 xs0.length e0] := hcs0
    simpa using h
  obtain ⟨a1, rfl, rfl, rfl, wa1⟩ := open_int Tryd.underlying3 (hval 1 3 v1 rfl rfl) h1
  obtain ⟨a2, rfl, rfl, rfl, wa2⟩ := open_int Tryd.underlying5 (hval 2 5 v2 rfl rfl) h2
  obtain ⟨a3, rfl, rfl, rfl, wa3⟩ := open_int Tryd.underlying3 (hval 3 3 v3 rfl rfl) h3
  obtain ⟨a4, rfl, rfl, rfl, wa4⟩ := open_int Tryd.underlying5 (hval 4 5 v4 rfl rfl) h4
  refine (configReads_core A0 cap0 xs0 a1 wa1 a2 wa2 a3 wa3 a4 wa4 W hsl0 hlib).mono fun e W' ⟨he, bel⟩ => ?_
  subst he
  exact ⟨_, rfl, _, _, _, [], _, [], hW', trodAll_mk1 (shut_bool Tryd.underlying4 _), (trodAll_cons_mk (Below.trod laidOut (by kernel_rfl) (of_decide_eq_true (by kernel_rfl)) k0 bel lt0) (trodAll_cons_mk (shut_int Tryd.underlying3 wa1) (trodAll_cons_mk (shut_int Tryd.underlying5 wa2) (trodAll_cons_mk (shut_int Tryd.underlying3 wa3) (trodAll_cons_mk (shut_int Tryd.underlying5 wa4) trodAll_mk0))))), rfl, bel.frame _, fun h => by cases h⟩

theorem reads (os : Os) {H : Type} (enc : TypeId × Value → H) : ∃ places, DataW.whole enc Tryd.prog ((laidW os).forCall (fun _ _ => 0) ⟨#[], #[.slice none 0 0, .int .i64 0, .int .u8 0, .int .i64 0, .int .u8 0], []⟩).memory Tryd.f6.params.toList Rows.configReadsSpec.vars false #[Value.slice none 0 0, Value.int .i64 0, Value.int .u8 0, Value.int .i64 0, Value.int .u8 0].toList 8 = some ([.nil, .lit (.int .i64 0), .lit (.int .u8 0), .lit (.int .i64 0), .lit (.int .u8 0)], [], places) :=
  ⟨[], by kernel_rfl⟩

set_option maxRecDepth 100000 in
theorem lifted (os : Os) (started : os.Started) (H : Type) (enc : TypeId × Value → H) (F : Stop.Interp) :
    ReturnsInHanded {} Tryd.checked os 6 .any ((OpenSpec.ofChange Rows.configReadsSpec).preRow enc Tryd.prog Tryd.f6 Rows.configReadsRow.domain false Rows.configReadsRow.laid) (((OpenSpec.ofChange Rows.configReadsSpec).at F).post enc Tryd.prog Tryd.f6 false true false false) := by
  obtain ⟨places, hx⟩ := reads os enc
  refine returnsInHanded_of_row (C := Tryd.checked) (s := OpenSpec.ofChange Rows.configReadsSpec) own started (by kernel_rfl) Tryd.func6
    (witness_zip (enc := enc) (C := Tryd.checked) (laidW os) (World.laidAll_os _ _ _) #[.slice none 0 0, .int .i64 0, .int .u8 0, .int .i64 0, .int .u8 0] (shapedW os _) (by kernel_rfl)
      (OpenSpec.preRow_of_cond 8 hx (by kernel_rfl) (fun k hk => by cases hk) (by kernel_rfl) (laid_met os _))) ?_
  intro W base args ds gs before hval hW _ _ hw hL hopen _
  exact contract H enc W base args ds gs before hval hW hw hL hopen

theorem said : Rows.ConfigReadsSaid :=
  OpenClaim.holds_of_cond 6 Tryd.f6 rfl rfl rfl rfl rfl rfl rfl ⟨rfl, rfl, rfl, rfl, rfl⟩ rfl rfl rfl rfl rfl (by kernel_rfl) Tryd.func6 (by kernel_rfl)
    (of_decide_eq_true (by kernel_rfl)) (by unfold Func.isWrapper; first | (rw [if_pos (by decide +kernel)]; kernel_rfl) | (rw [if_neg (by decide +kernel)]; exact ⟨rfl, rfl⟩))
    (fun os started H enc _ F => by rw [OpenClaim.pre_eq_preRow]; exact lifted os started H enc F)

theorem plain (f : FuncId) (fn : Func) (hf : Tryd.pinned.checked.prog.funcNamed "mempool/mempoollaw19.ConfigReads" = some f) (hfn : Tryd.pinned.checked.prog.funcs[f]? = some fn) :
    true = Tryd.pinned.checked.prog.looks [] ∧ ∀ (j : Nat) t, fn.params[j]? = some t → Tryd.pinned.checked.prog.wantsStandIn t = false := by
  obtain rfl : f = 6 := Option.some.inj ((show Tryd.prog.funcNamed "mempool/mempoollaw19.ConfigReads" = some 6 by kernel_rfl).symm.trans hf) |>.symm
  obtain rfl : fn = Tryd.f6 := (Option.some.inj (Tryd.func6.symm.trans hfn)).symm
  refine ⟨by kernel_rfl, fun j t ht => ?_⟩
  have key : (Tryd.f6.params.all fun t => Tryd.prog.wantsStandIn t == false) = true := by kernel_rfl
  have := Array.all_eq_true_iff_forall_mem.1 key t (Array.mem_of_getElem? ht)
  show Tryd.prog.wantsStandIn t = false
  simpa using this

theorem card : Rows.ConfigReadsCardSaid :=
  Claim7.holds_tied_plain_at .later [] _ _ _ _ said (fun _ h => by cases h) (by kernel_rfl) (fun _ h => by cases h) configReads_row_tie rfl ⟨rfl, rfl⟩ (by kernel_rfl) rfl plain (by kernel_rfl)
end Go.Proofs.YtllepnadffndnaaDoor.configReads
