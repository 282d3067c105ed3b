/- ChainContinues: whatever the input, the law answers true, and its arguments read as before. Conditions: none. -/
import Derived.Test.YtoagomdghimlbaaGreatW07
set_option maxRecDepth 20000
set_option maxHeartbeats 16000000
namespace Go.Proofs.YtoagomdghimlbaaGreat
open Go.RowKit
section
variable {G : GS}
attribute [local irreducible] vOpsN vOpsG vOpsD vOpGD NextD vC SeqQ BlockQ
theorem chk_next {t : TipS} {time nodes : Int} {raws : List (List UInt8)} (h1 : 0 ≤ t.height ∧ t.height ≤ 1000) (h2 : 0 ≤ t.time ∧ t.time ≤ 100000) (h3 : 0 ≤ time ∧ time ≤ 100000) (h4 : 1 ≤ nodes ∧ nodes ≤ 8) (h5 : raws.length ≤ 4) (h6 : sumB raws ≤ 2284) : chkS t (makeS t time ((t.height + 1) % nodes) raws) nodes 4000 = 0 := by
 have ht : t.time < (if t.time + 1 > time then t.time + 1 else time) ∧ (if t.time + 1 > time then t.time + 1 else time) ≤ 100001 := by split <;> omega
 unfold chkS makeS
 dsimp only
 generalize (if t.time + 1 > time then t.time + 1 else time) = tm at *
 rw [if_neg (by omega), if_neg (by omega), if_neg (by simp), if_neg (by omega), if_neg (by simp), if_neg (by simp), if_neg (by simp), if_neg (by simp), if_neg (by omega)]
theorem continues_r (k : List Int) (nodes : Int) (hk : k.length ≤ 140737488355328) (_hn : I64 nodes) : SemR Tryz.prog G 5 [intsM k, .int .i64 nodes] [] 0 (.bool true) [] 0 := by
 have cL := long27_m (G := G) k hk
 have cK := known27_m (G := G)
 refine srq seat Tryz.func5 57 ?_
 refine go1 ?_
 refine g_call1 rfl hhq rfl (src (cL)) rfl [(2, 1)] mm lm ?_
 refine go1 ?_
 (refine c_cond rfl ?_ ?_ <;> intro h)
 ·refine go1 ?_
  refine g_callC (src (cK)) rfl rfl hhq (by kernel_rfl) ?_
  refine go1 ?_
  refine go0 ?_
  (refine ret_r [_] rfl (by kernel_rfl) ?_; (refine go0 ?_); exact rfl)
 ·refine go1 ?_
  refine g_callE1 rfl hhq rfl (scene_e (G := G) k) [] [] ⟨rfl, trivial, rfl, lm, mm⟩ rfl ?_
  rintro _ _ _ ⟨N, n, acs, bl, hN, rfl, rfl, rfl, hw, ha, hsm⟩
  refine ⟨rfl, ?_⟩
  obtain ⟨w1, w2, w3, w4, w5, w6⟩ := hw
  have cP := place_m (G := G) nodes 8 (by omega) (by omega)
  have hp : 0 ≤ nodes % 8 ∧ nodes % 8 < 8 := ⟨Int.emod_nonneg _ (by omega), Int.emod_lt_of_pos _ (by omega)⟩
  generalize nodes % 8 = p at *
  obtain ⟨m, hm⟩ : ∃ m, m = 1 + p := ⟨_, rfl⟩
  have cR := raws_r (G := G) k N n.st.app 4 (by omega) w1 (by omega)
  have hR := rawsS_ok (L := k) (N := N) (n := 4) w1 (by omega)
  have hS := raws_sum (L := k) (N := N) w1
  generalize rawsS k N n.st.app 4 = RR at *
  obtain ⟨raws, K1⟩ := RR
  dsimp only at cR hR hS
  have hrem : EqF ((n.tip.height + 1).tmod (1 + p)) ((n.tip.height + 1) % (1 + p)) := EqF.mk (Int.tmod_eq_emod_of_nonneg (by omega))
  have hpr := Int.emod_nonneg (n.tip.height + 1) (show (1 + p) ≠ 0 by omega)
  have hpr2 := Int.emod_lt_of_pos (n.tip.height + 1) (show (0 : Int) < 1 + p by omega)
  have hc := chk_next (t := n.tip) (time := n.st.time) (nodes := 1 + p) (raws := raws) w3 w4 w5 (by omega) hR.2.1 hS
  generalize (n.tip.height + 1) % (1 + p) = pr at *
  have cM := pmake_r (G := G) n.tip n.st.time pr raws (by omega) (by omega) (by omega) (fun x hx => by have := hR.1 x hx; omega)
  have hbk := makeS_ok (time := n.st.time) (prop := pr) w2 (by omega) (by omega) (by unfold I64; omega) (by unfold I64; omega) (by omega) hR.1
  have hbx : (makeS n.tip n.st.time pr raws).txs = raws := rfl
  generalize makeS n.tip n.st.time pr raws = b at *
  have cC := pchk_m (G := G) n.tip b (1 + p) 4000 w2 hbk.hd (by unfold I64; omega) (by simp [I64]) (by have := hbk.n; omega) (fun x hx => by have := hbk.len x hx; omega)
  rw [hc] at cC
  have cS := sameLists_m (G := G) b.txs raws (by have := hbk.n; omega) (by omega)
  rw [decide_eq_true hbx] at cS
  refine go1 ?_
  refine g_callC (src (cP)) rfl rfl hhq (by kernel_rfl) ?_
  refine go1 ?_
  refine g_callR1 rfl hhq rfl (cR) [(0, 4)] [] ⟨rfl, trivial, rfl, lm, mm⟩ rfl rfl ?_
  refine go1 ?_
  refine c_draw [(0, false), (1, false), (2, false), (3, false), (4, false), (5, false), (6, false), (7, false), (8, false), (9, true), (10, false), (11, false)] ?_
  refine go1 ?_
  refine gd_call1 rfl hhq rfl [] (cM) rfl [] trivial lm rfl ?_
  refine go1 ?_
  refine g_call2 rfl hhq rfl (src (cC)) rfl lm ?_
  refine go1 ?_
  refine g_call2 rfl hhq rfl (src (cS)) rfl lm ?_
  refine go1 ?_
  refine g_callC (src (cK)) rfl rfl hhq (by kernel_rfl) ?_
  refine go1 ?_
  (refine ret_r [_] rfl (by kernel_rfl) ?_; (refine go0 ?_); exact rfl)
end
section
theorem chainContinues_core (k : List Int) (hk : k.length ≤ 140737488355328) (n : Int) (hn : (Lit.int .i64 n).wf = true) : SemC Tryz.prog G0 5 [intsM k, .int .i64 n] (.bool true) := by
 simp [Lit.wf, IntKind.min, IntKind.max, IntKind.signed, IntKind.bits] at hn
 exact semC_of_semR (continues_r k n hk (by unfold I64; omega))
end
end Go.Proofs.YtoagomdghimlbaaGreat
namespace Go.Proofs.YtoagomdghimlbaaGreat.chainContinues
open Go.ChangeShapes Go.WideShapes Go.ChangeAt Go.RowKit Go.Proofs.YtoagomdghimlbaaGreat
set_option maxRecDepth 100000 in
theorem contract (H : Type) (enc : TypeId × Value → H) (W : World) (base : Nat) (args : Array Value) (ds gs : List (DataW H)) (before : List MemPlace)
  (hval : ∀ (j : Nat) t v, Tryz.f5.params[j]? = some t → args[j]? = some v → Value.okWide Tryz.prog W .any base t v)
  (hW : DataW.Whole enc Tryz.prog Tryz.f5.params.toList Rows.chainContinuesSpec.vars false W args.toList ds gs before)
  (hw : (DataW.weightsEach Tryz.prog (Tryz.f5.params.toList ++ Rows.chainContinuesSpec.plain.varTypes Tryz.prog) (ds ++ gs)).all (· ≤ reachBytes) = true) :
  Calls Tryz.prog 5 args W fun e W' => ∃ v, e = .returned v ∧ Rows.chainContinuesSpec.post enc Tryz.prog Tryz.f5 false true false false W args v W' := by
 have hW' := hW
 obtain ⟨p, q, hA0, hV, rfl, hfz, hnd⟩ := hW
 have hA : DataW.TrodAll enc Tryz.prog W 0 (fun _ => true) true Tryz.f5.params.toList args.toList ds p := hA0
 rw [Tryz.params5] at hA hval hw
 obtain ⟨v0, vs0, d0, ds0, p0, q0, hargs, rfl, rfl, h0, r0⟩ := trodAll_cons hA
 obtain ⟨v1, vs1, d1, ds1, p1, q1, rfl, rfl, rfl, h1, r1⟩ := trodAll_cons r0
 obtain ⟨rfl, rfl, rfl⟩ := trodAll_nil r1
 obtain rfl : args = #[v0, v1] := by cases args; simp_all
 obtain ⟨rfl, rfl⟩ := trodVars_none hV
 have k0 := h0
 have lt0 : ∀ x ∈ p0, x.block < W.heap.size := by obtain ⟨m, hm⟩ := k0; exact DataW.trod_lt m _ _ _ hm
 have k1 := h1
 have lt1 : ∀ x ∈ p1, x.block < W.heap.size := by obtain ⟨m, hm⟩ := k1; exact DataW.trod_lt m _ _ _ hm
 simp only [List.append_nil] at hW'
 have hw : (d0.weights Tryz.prog 22 ++ (d1.weights Tryz.prog 3 ++ (DataW.weightsEach Tryz.prog (Rows.chainContinuesSpec.plain.varTypes Tryz.prog) []))).all (· ≤ reachBytes) = true := hw
 simp only [List.all_append, Bool.and_eq_true] at hw
 obtain ⟨hw0, hw1, _⟩ := hw
 obtain ⟨A0, n0, cap0, rfl⟩ := okWide_slice Tryz.underlying22 (hval 0 22 v0 rfl rfl)
 obtain ⟨fuel0, hf0⟩ := h0
 obtain ⟨_, m0, hm0, hr0, hb0⟩ := opn_ints.2 enc W _ true fuel0 _ d0 p0 hf0 hw0
 obtain ⟨x0, rfl, hx0⟩ := ints_lift hm0
 obtain ⟨a1, rfl, rfl, rfl, wa1⟩ := open_int Tryz.underlying3 (hval 1 3 v1 rfl rfl) h1
 refine (chainContinues_core x0 hx0 a1 wa1 W (allP W) [_, _] trivial (fun b o h => h) (.cons (.val [_] hr0) (.cons (.val [_] .int) .nil))).mono fun e W' ⟨v, he, hv, bel⟩ => ?_
 subst he
 obtain rfl := hv.bool_
 exact ⟨_, rfl, _, _, _, [], _, [], hW', trodAll_mk1 (shut_bool Tryz.underlying4 _), (trodAll_cons_mk (Below.trod laidOut (by kernel_rfl) (of_decide_eq_true (by kernel_rfl)) k0 bel lt0) (trodAll_cons_mk (shut_int Tryz.underlying3 wa1) trodAll_mk0)), rfl, bel.frame _, fun h => by cases h⟩
set_option maxRecDepth 100000 in
theorem lifted (os : Os) (started : os.Started) (H : Type) (enc : TypeId × Value → H) :
  ReturnsInHanded {} Tryz.checked os 5 .any (Rows.chainContinuesSpec.pre6 enc Tryz.prog Tryz.f5 Rows.chainContinuesRow.domain false) (Rows.chainContinuesSpec.post enc Tryz.prog Tryz.f5 false true false false) := by
 refine returnsInHanded_of_change_sized (C := Tryz.checked) own started (by kernel_rfl) Tryz.func5
  (ChangeSpec.witness6 (enc := enc) (C := Tryz.checked) false ⟨#[], #[.slice none 0 0, .int .i64 0], []⟩ 8 (by kernel_rfl) (by kernel_rfl) (by kernel_rfl) (by kernel_rfl)) ?_
 intro W base args ds gs before hval hW _ hw _
 exact contract H enc W base args ds gs before hval hW hw
theorem said : Rows.ChainContinuesSaid :=
 OpenClaim.holds_of_wide 5 Tryz.f5 rfl rfl rfl rfl rfl rfl rfl ⟨rfl, rfl, rfl, rfl, rfl⟩ rfl rfl rfl rfl rfl (by kernel_rfl) Tryz.func5 (by kernel_rfl)
  (of_decide_eq_true (by kernel_rfl)) (by unfold Func.isWrapper; first | (rw [if_pos (by decide +kernel)]; kernel_rfl) | (rw [if_neg (by decide +kernel)]; exact ⟨rfl, rfl⟩))
  (fun os started H enc _ => lifted os started H enc)
end Go.Proofs.YtoagomdghimlbaaGreat.chainContinues
