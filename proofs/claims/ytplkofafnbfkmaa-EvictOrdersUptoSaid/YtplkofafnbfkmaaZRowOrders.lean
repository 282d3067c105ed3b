/- EvictOrders: whatever the input (of bulk at most 1048576), the law answers true, and its arguments read as before. Conditions: the bound on what the arguments hold. -/
import Derived.Deep.CondSized
import Derived.Test.YtplkofafnbfkmaaW06
namespace Go.Proofs.Ytplkofafnbfkmaa.evictOrders
open Go.ChangeShapes Go.WideShapes Go.ChangeAt Go.RowKit Go.Proofs.Ytplkofafnbfkmaa
theorem contract (H : Type) (enc : TypeId × Value → H) (W : World) (base : Nat) (args : Array Value) (ds gs : List (DataW H)) (before : List MemPlace)
    (hval : ∀ (j : Nat) t v, Try.f3.params[j]? = some t → args[j]? = some v → Value.okWide Try.prog W .any base t v)
    (hW : DataW.Whole enc Try.prog Try.f3.params.toList Rows.evictOrdersSpec.vars false W args.toList ds gs before)
    (hw : (DataW.weightsEach Try.prog (Try.f3.params.toList ++ Rows.evictOrdersSpec.plain.varTypes Try.prog) (ds ++ gs)).all (· ≤ reachBytes) = true) (hkk : Rows.uptoSmall H (ds ++ gs) = true) :
    Calls Try.prog 3 args W fun e W' => ∃ v, e = .returned v ∧ Rows.evictOrdersSpec.post enc Try.prog Try.f3 false true false false W args v W' := by
  have hW' := hW
  obtain ⟨p, q, hA0, hV, rfl, hfz, hnd⟩ := hW
  have hA : DataW.TrodAll enc Try.prog W 0 (fun _ => true) true Try.f3.params.toList args.toList ds p := hA0
  rw [Try.params3] at hA hval hw
  obtain ⟨v0, vs0, d0, ds0, p0, q0, hargs, rfl, rfl, h0, r0⟩ := trodAll_cons hA
  obtain ⟨v1, vs1, d1, ds1, p1, q1, rfl, rfl, rfl, h1, r1⟩ := trodAll_cons r0
  obtain ⟨rfl, rfl, rfl⟩ := trodAll_nil r1
  obtain rfl : args = #[v0, v1] := by cases args; simp_all
  obtain ⟨rfl, rfl⟩ := trodVars_none hV
  have k0 := h0
  have lt0 : ∀ x ∈ p0, x.block < W.heap.size := by obtain ⟨m, hm⟩ := k0; exact DataW.trod_lt m _ _ _ hm
  have k1 := h1
  have lt1 : ∀ x ∈ p1, x.block < W.heap.size := by obtain ⟨m, hm⟩ := k1; exact DataW.trod_lt m _ _ _ hm
  simp only [List.append_nil] at hW'
  have hkk : Rows.uptoBulkAll [d0, d1] ≤ 1048576 := of_decide_eq_true hkk
  simp only [Rows.uptoBulkAll] at hkk
  have hw : (d0.weights Try.prog 22 ++ (d1.weights Try.prog 23 ++ (DataW.weightsEach Try.prog (Rows.evictOrdersSpec.plain.varTypes Try.prog) []))).all (· ≤ reachBytes) = true := hw
  simp only [List.all_append, Bool.and_eq_true] at hw
  obtain ⟨hw0, hw1, _⟩ := hw
  obtain ⟨A0, n0, cap0, rfl⟩ := okWide_slice Try.underlying22 (hval 0 22 v0 rfl rfl)
  obtain ⟨fuel0, hf0⟩ := h0
  obtain ⟨_, m0, hm0, hr0, hb0⟩ := opn_entries.2 enc W _ true fuel0 _ d0 p0 hf0 hw0
  obtain ⟨x0, rfl, hx0⟩ := entries_lift hm0 (B := 1048576) (Nat.le_trans hb0 (by omega))
  obtain ⟨A1, n1, cap1, rfl⟩ := okWide_slice Try.underlying23 (hval 1 23 v1 rfl rfl)
  obtain ⟨fuel1, hf1⟩ := h1
  obtain ⟨_, m1, hm1, hr1, hb1⟩ := opn_ints.2 enc W _ true fuel1 _ d1 p1 hf1 hw1
  obtain ⟨x1, rfl, hx1⟩ := ints_lift hm1
  refine (evictOrders_core x0 hx0 x1 hx1 W (allP W) [_, _] trivial (fun b o h => h) (.cons (.val [_] hr0) (.cons (.val [_] hr1) .nil))).mono fun e W' ⟨v, he, hv, bel⟩ => ?_
  subst he
  obtain rfl := hv.bool_
  exact ⟨_, rfl, _, _, _, [], _, [], hW', trodAll_mk1 (shut_bool Try.underlying4 _), (trodAll_cons_mk (Below.trod laidOut (by kernel_rfl) (of_decide_eq_true (by kernel_rfl)) k0 bel lt0) (trodAll_cons_mk (Below.trod laidOut (by kernel_rfl) (of_decide_eq_true (by kernel_rfl)) k1 bel lt1) trodAll_mk0)), rfl, bel.frame _, fun h => by cases h⟩
set_option maxRecDepth 100000 in
theorem lifted (os : Os) (started : os.Started) (H : Type) (enc : TypeId × Value → H) (F : Stop.Interp) :
    ReturnsInHanded {} Try.checked os 3 .any ((Rows.OpenSpec.upto Rows.evictOrdersSpec).pre6 enc Try.prog Try.f3 Rows.evictOrdersUptoRow.domain false) (((Rows.OpenSpec.upto Rows.evictOrdersSpec).at F).post enc Try.prog Try.f3 false true false false) := by
  refine returnsInHanded_of_cond_sized (C := Try.checked) (s := Rows.OpenSpec.upto Rows.evictOrdersSpec) (k := Rows.uptoSmall) rfl own started (by kernel_rfl) Try.func3
    (OpenSpec.witness (enc := enc) (C := Try.checked) (s := Rows.OpenSpec.upto Rows.evictOrdersSpec) (k := Rows.uptoSmall) rfl false ⟨#[], #[.slice none 0 0, .slice none 0 0], []⟩ 8 (by kernel_rfl) (by kernel_rfl) (by kernel_rfl)
      (x := ([.nil, .nil], [], [])) (by kernel_rfl) rfl (by kernel_rfl)) ?_
  intro W base args ds gs before hval hW _ hk hw _
  exact contract H enc W base args ds gs before hval hW hw hk
theorem said : Rows.EvictOrdersUptoSaid :=
  OpenClaim.holds_of_cond 3 Try.f3 rfl rfl rfl rfl rfl rfl rfl ⟨rfl, rfl, rfl, rfl, rfl⟩ rfl rfl rfl rfl rfl (by kernel_rfl) Try.func3 (by kernel_rfl)
    (of_decide_eq_true (by kernel_rfl)) (by unfold Func.isWrapper; first | (rw [if_pos (by decide +kernel)]; kernel_rfl) | (rw [if_neg (by decide +kernel)]; exact ⟨rfl, rfl⟩))
    (fun os started H enc _ F => lifted os started H enc F)
end Go.Proofs.Ytplkofafnbfkmaa.evictOrders
