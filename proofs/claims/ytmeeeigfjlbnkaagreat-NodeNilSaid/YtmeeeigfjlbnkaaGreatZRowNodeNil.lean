/- NodeNil: whatever the input, the law answers true, and its arguments read as before. Conditions: none. -/
import Derived.Test.YtmeeeigfjlbnkaaGreatW12
namespace Go.Proofs.YtmeeeigfjlbnkaaGreat.nodeNil
open Go.ChangeShapes Go.WideShapes Go.ChangeAt Go.RowKit Go.Proofs.YtmeeeigfjlbnkaaGreat
set_option maxRecDepth 100000 in
theorem contract (H : Type) (enc : TypeId × Value → H) (W : World) (base : Nat) (args : Array Value) (ds gs : List (DataW H)) (before : List MemPlace)
    (hval : ∀ (j : Nat) t v, Tryz.f3.params[j]? = some t → args[j]? = some v → Value.okWide Tryz.prog W .any base t v)
    (hW : DataW.Whole enc Tryz.prog Tryz.f3.params.toList Rows.nodeNilSpec.vars false W args.toList ds gs before)
    (hw : (DataW.weightsEach Tryz.prog (Tryz.f3.params.toList ++ Rows.nodeNilSpec.plain.varTypes Tryz.prog) (ds ++ gs)).all (· ≤ reachBytes) = true) :
    Calls Tryz.prog 3 args W fun e W' => ∃ v, e = .returned v ∧ Rows.nodeNilSpec.post enc Tryz.prog Tryz.f3 false true false false W args v W' := by
  have hW' := hW
  obtain ⟨p, q, hA0, hV, rfl, hfz, hnd⟩ := hW
  have hA : DataW.TrodAll enc Tryz.prog W 0 (fun _ => true) true Tryz.f3.params.toList args.toList ds p := hA0
  rw [Tryz.params3] at hA hval hw
  obtain ⟨v0, vs0, d0, ds0, p0, q0, hargs, rfl, rfl, h0, r0⟩ := trodAll_cons hA
  obtain ⟨v1, vs1, d1, ds1, p1, q1, rfl, rfl, rfl, h1, r1⟩ := trodAll_cons r0
  obtain ⟨rfl, rfl, rfl⟩ := trodAll_nil r1
  obtain rfl : args = #[v0, v1] := by cases args; simp_all
  obtain ⟨rfl, rfl⟩ := trodVars_none hV
  have k0 := h0
  have lt0 : ∀ x ∈ p0, x.block < W.heap.size := by obtain ⟨m, hm⟩ := k0; exact DataW.trod_lt m _ _ _ hm
  have k1 := h1
  have lt1 : ∀ x ∈ p1, x.block < W.heap.size := by obtain ⟨m, hm⟩ := k1; exact DataW.trod_lt m _ _ _ hm
  simp only [List.append_nil] at hW'
  have hw : (d0.weights Tryz.prog 24 ++ (d1.weights Tryz.prog 3 ++ (DataW.weightsEach Tryz.prog (Rows.nodeNilSpec.plain.varTypes Tryz.prog) []))).all (· ≤ reachBytes) = true := hw
  simp only [List.all_append, Bool.and_eq_true] at hw
  obtain ⟨hw0, hw1, _⟩ := hw
  obtain ⟨A0, rfl, _⟩ := okWide_struct Tryz.underlying24 (hval 0 24 v0 rfl rfl)
  obtain ⟨fuel0, hf0⟩ := h0
  obtain ⟨_, m0, hm0, hr0, hb0⟩ := opn_op.2 enc W _ true fuel0 _ d0 p0 hf0 hw0
  obtain ⟨x0, rfl, hx0⟩ := op_lift hm0
  obtain ⟨a1, rfl, rfl, rfl, wa1⟩ := open_int Tryz.underlying3 (hval 1 3 v1 rfl rfl) h1
  refine (nodeNil_core x0 hx0 a1 wa1 W (allP W) [_, _] trivial (fun b o h => h) (.cons (.val _ hr0) (.cons (.val [_] .int) .nil))).mono fun e W' ⟨v, he, hv, bel⟩ => ?_
  subst he
  obtain rfl := hv.bool_
  exact ⟨_, rfl, _, _, _, [], _, [], hW', trodAll_mk1 (shut_bool Tryz.underlying4 _), (trodAll_cons_mk (Below.trod laidOut (by kernel_rfl) (of_decide_eq_true (by kernel_rfl)) k0 bel lt0) (trodAll_cons_mk (shut_int Tryz.underlying3 wa1) trodAll_mk0)), rfl, bel.frame _, fun h => by cases h⟩
set_option maxRecDepth 100000 in
theorem lifted (os : Os) (started : os.Started) (H : Type) (enc : TypeId × Value → H) :
    ReturnsInHanded {} Tryz.checked os 3 .any (Rows.nodeNilSpec.pre6 enc Tryz.prog Tryz.f3 Rows.nodeNilRow.domain false) (Rows.nodeNilSpec.post enc Tryz.prog Tryz.f3 false true false false) := by
  refine returnsInHanded_of_change_sized (C := Tryz.checked) own started (by kernel_rfl) Tryz.func3
    (ChangeSpec.witness6 (enc := enc) (C := Tryz.checked) false ⟨#[], #[.agg #[.int .i64 0, .int .i64 0, .int .i64 0, .int .i64 0, .slice none 0 0], .int .i64 0], []⟩ 8 (by kernel_rfl) (by kernel_rfl) (by kernel_rfl) (by kernel_rfl)) ?_
  intro W base args ds gs before hval hW _ hw _
  exact contract H enc W base args ds gs before hval hW hw
theorem said : Rows.NodeNilSaid :=
  OpenClaim.holds_of_wide 3 Tryz.f3 rfl rfl rfl rfl rfl rfl rfl ⟨rfl, rfl, rfl, rfl, rfl⟩ rfl rfl rfl rfl rfl (by kernel_rfl) Tryz.func3 (by kernel_rfl)
    (of_decide_eq_true (by kernel_rfl)) (by unfold Func.isWrapper; first | (rw [if_pos (by decide +kernel)]; kernel_rfl) | (rw [if_neg (by decide +kernel)]; exact ⟨rfl, rfl⟩))
    (fun os started H enc _ => lifted os started H enc)
end Go.Proofs.YtmeeeigfjlbnkaaGreat.nodeNil
