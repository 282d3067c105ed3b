/- Parts of a proof, one behind the other: YQ, Zd, Zg, Zh. -/
import Derived.Test.YtdjcdmnemddjlaaGreatW11
set_option maxRecDepth 20000
set_option maxHeartbeats 16000000
set_option linter.unusedVariables false
set_option linter.unusedSimpArgs false
namespace Go.Proofs.YtdjcdmnemddjlaaGreat
open Go.RowKit
section
variable {G : GS}
attribute [local irreducible] vOpsN vOpsG vOpsD vOpGD NextD vC SeqQ BlockQ
theorem config_r (L : List Int) (N : Nat) (hN : N < 4000000000000000000) : ∃ (c : CfS) (N' : Nat), CfOk c ∧ N' ≤ N + 14 ∧ SemR Tryz.prog G 28 [numP] (numB L N) 1 (cfM c) (numB L N') 1 := by
 obtain ⟨x0, b0, c0⟩ := next_b (G := G) L (N) 7 (by omega) (by omega) (by omega)
 obtain ⟨x1, b1, c1⟩ := next_b (G := G) L (N + 1) 400 (by omega) (by omega) (by omega)
 obtain ⟨x2, b2, c2⟩ := next_b (G := G) L (N + 1 + 1) 140 (by omega) (by omega) (by omega)
 obtain ⟨x3, b3, c3⟩ := next_b (G := G) L (N + 1 + 1 + 1) 12 (by omega) (by omega) (by omega)
 obtain ⟨x4, b4, c4⟩ := next_b (G := G) L (N + 1 + 1 + 1 + 1) 4 (by omega) (by omega) (by omega)
 obtain ⟨x5, b5, c5⟩ := next_b (G := G) L (N + 1 + 1 + 1 + 1 + 1) 3 (by omega) (by omega) (by omega)
 obtain ⟨x6, b6, c6⟩ := next_b (G := G) L (N + 1 + 1 + 1 + 1 + 1 + 1) 20 (by omega) (by omega) (by omega)
 obtain ⟨x7, b7, c7⟩ := next_b (G := G) L (N + 1 + 1 + 1 + 1 + 1 + 1 + 1) 3 (by omega) (by omega) (by omega)
 obtain ⟨x8, b8, c8⟩ := next_b (G := G) L (N + 1 + 1 + 1 + 1 + 1 + 1 + 1 + 1) 400 (by omega) (by omega) (by omega)
 obtain ⟨x9, b9, c9⟩ := next_b (G := G) L (N + 1 + 1 + 1 + 1 + 1 + 1 + 1 + 1 + 1) 3 (by omega) (by omega) (by omega)
 obtain ⟨x10, b10, c10⟩ := next_b (G := G) L (N + 1 + 1 + 1 + 1 + 1 + 1 + 1 + 1 + 1 + 1) 3 (by omega) (by omega) (by omega)
 have hm : 0 ≤ (x5 : Int) * x6 ∧ (x5 : Int) * x6 < 60 := by
  have e : x5 = 0 ∨ x5 = 1 ∨ x5 = 2 := by omega
  rcases e with rfl | rfl | rfl <;> simp <;> omega
 generalize hM : (x5 : Int) * x6 = M at *
 have em := EqF.mk (show IntKind.i64.wrap ((x5 : Int) * x6) = M by rw [hM]; exact wrap_in _ (by omega) (by omega))
 obtain ⟨y, hy, cy⟩ := next_b (G := G) L (N + 1 + 1 + 1 + 1 + 1 + 1 + 1 + 1 + 1 + 1 + 1) 900 (by omega) (by omega) (by omega)
 obtain ⟨K, g, hK, hg1, hg2, k1, k2⟩ : ∃ (K : Nat) (g : Int), K ≤ N + 12 ∧ -1 ≤ g ∧ g ≤ 2000 ∧ (x10 = 0 → K = N + 1 + 1 + 1 + 1 + 1 + 1 + 1 + 1 + 1 + 1 + 1 + 1 ∧ g = 200 + (y : Int)) ∧ (x10 ≠ 0 → K = N + 1 + 1 + 1 + 1 + 1 + 1 + 1 + 1 + 1 + 1 + 1 ∧ g = -1) := by
  by_cases h : x10 = 0
  ·exact ⟨_, 200 + (y : Int), by omega, by omega, by omega, fun _ => ⟨rfl, rfl⟩, fun h2 => absurd h h2⟩
  ·exact ⟨_, -1, by omega, by omega, by omega, fun h2 => absurd h2 h, fun _ => ⟨rfl, rfl⟩⟩
 obtain ⟨z, hz, cz⟩ := next_b (G := G) L K 6 (by omega) (by omega) (by omega)
 obtain ⟨w, hw, cw⟩ := next_b (G := G) L (K + 1) 40 (by omega) (by omega) (by omega)
 obtain ⟨K', t, hK', ht1, ht2, k3, k4⟩ : ∃ (K' : Nat) (t : Int), K' ≤ N + 14 ∧ 40 ≤ t ∧ t ≤ 200 ∧ (z = 0 → K' = K + 1 + 1 ∧ t = 40 + (w : Int)) ∧ (z ≠ 0 → K' = K + 1 ∧ t = 60 + (x2 : Int)) := by
  by_cases h : z = 0
  ·exact ⟨_, 40 + (w : Int), by omega, by omega, by omega, fun _ => ⟨rfl, rfl⟩, fun h2 => absurd h h2⟩
  ·exact ⟨_, 60 + (x2 : Int), by omega, by omega, by omega, fun h2 => absurd h2 h, fun _ => ⟨rfl, rfl⟩⟩
 refine ⟨⟨1 + (x0 : Int), 250 + (x1 : Int), t, x3, x4, M, (x7 : Int) == 0, 100 + (x8 : Int), g, x9, 0, 1⟩, K', ⟨by dsimp only; omega, by dsimp only; omega, by dsimp only; omega, by dsimp only; omega, by dsimp only; omega, by dsimp only; omega, by dsimp only; omega, by dsimp only; omega, by unfold U64; dsimp only; omega, by dsimp only; omega, by dsimp only; omega⟩, hK', ?_⟩
 refine srq seat Tryz.func28 47 ?_
 refine go1 ?_
 refine yc (c0) [(0, 0)] ?_
 refine go1 ?_
 refine yc (c1) [(0, 0)] ?_
 refine go1 ?_
 refine yc (c2) [(0, 0)] ?_
 refine n_re ([(11, .int .i64 x2), (9, .int .i64 (250 + (x1 : Int))), (6, .int .i64 (1 + (x0 : Int))), (2, .ptr 1 12 0 0 []), (0, numP)]) (numB L (N + 1 + 1 + 1) ++ [(1, ⟨29, 12, false, 0, [cfZ]⟩)]) [] trivial rfl mm mm ?_
 refine go1 ?_
 refine yc (c3) [(0, 0)] ?_
 refine go1 ?_
 refine yc (c4) [(0, 0)] ?_
 refine go1 ?_
 refine yc (c5) [(0, 0)] ?_
 refine n_re ([(18, .int .i64 x5), (16, .int .i64 x4), (14, .int .i64 x3), (12, .int .i64 (60 + (x2 : Int))), (9, .int .i64 (250 + (x1 : Int))), (6, .int .i64 (1 + (x0 : Int))), (2, .ptr 1 12 0 0 []), (0, numP)]) (numB L (N + 1 + 1 + 1 + 1 + 1 + 1) ++ [(1, ⟨29, 12, false, 0, [cfZ]⟩)]) [] trivial rfl mm mm ?_
 refine go1 ?_
 refine yc (c6) [(0, 0)] ?_
 refine go1 ?_
 refine yc (c7) [(0, 0)] ?_
 refine go1 ?_
 refine yc (c8) [(0, 0)] ?_
 refine n_re ([(26, .int .i64 x8), (24, .bool ((x7 : Int) == 0)), (21, .int .i64 M), (16, .int .i64 x4), (14, .int .i64 x3), (12, .int .i64 (60 + (x2 : Int))), (9, .int .i64 (250 + (x1 : Int))), (6, .int .i64 (1 + (x0 : Int))), (2, .ptr 1 12 0 0 []), (0, numP)]) (numB L (N + 1 + 1 + 1 + 1 + 1 + 1 + 1 + 1 + 1) ++ [(1, ⟨29, 12, false, 0, [cfZ]⟩)]) [] trivial rfl mm mm ?_
 refine go1 ?_
 refine yc (c9) [(0, 0)] ?_
 refine go1 ?_
 refine yc (c10) [(0, 0)] ?_
 refine go1 ?_
 refine q_join Unit (fun _ => [(0, numP), (2, .ptr 1 12 0 0 []), (3, .ptr 2 12 0 0 [])]) (fun _ => numB L K ++ [(1, ⟨29, 12, false, 0, [cfZ]⟩), (2, ⟨29, 12, false, 0, [.st [.int .i64 (1 + (x0 : Int)), .int .i64 (250 + (x1 : Int)), .int .i64 (60 + (x2 : Int)), .int .i64 x3, .int .i64 x4, .int .i64 M, .bool ((x7 : Int) == 0), .int .i64 (100 + (x8 : Int)), .int .i64 g, .int .u64 x9, .int .i64 0, .int .i64 1]]⟩)]) (fun _ => 3) (fun _ => True) (fun JQ hj => ?_) (fun _ _ => ?_)
 ·refine c_cond rfl (fun h => ?_) (fun h => ?_)
  ·obtain ⟨rfl, rfl⟩ := k1 (by have := of_decide_eq_true h; omega)
   refine go1 ?_
   refine yc (cy) [(0, 0)] ?_
   refine go1 ?_
   exact hj.nrm () trivial (by dsimp only; exact (vm [(1, _), (2, _)] []))
  ·obtain ⟨rfl, rfl⟩ := k2 (by have := of_decide_eq_false h; omega)
   refine go1 ?_
   exact hj.nrm () trivial (by dsimp only; exact (vm [(1, _), (2, _)] []))
 ·refine go1 ?_
  refine yc (cz) [(0, 0)] ?_
  refine go1 ?_
  refine c_cond rfl (fun h => ?_) (fun h => ?_)
  ·obtain ⟨rfl, rfl⟩ := k3 (by have := of_decide_eq_true h; omega)
   refine go1 ?_
   refine yc (cw) [(0, 0)] ?_
   refine go1 ?_
   refine go0 ?_
   exact en [_]
  ·obtain ⟨rfl, rfl⟩ := k4 (by have := of_decide_eq_false h; omega)
   refine go1 ?_
   refine go0 ?_
   exact en [_]
end
section
attribute [local irreducible] vOpsN vOpsG vOpsD vOpGD NextD vC SeqQ BlockQ
theorem long_m (k : List Int) (hk : k.length ≤ 140737488355328) : SemC Tryz.prog G0 12 [.sl 1 [intsM k]] (.bool (decide (160 < k.length))) := by
 refine scq seat Tryz.func12 19 ?_
 refine go1 ?_
 refine c_loop Nat (fun j => [(8, .int .i64 j), (7, .int .i64 1), (6, .sl 1 [intsM k]), (3, .int .i64 ((j * k.length : Nat) : Int))]) (fun j => []) 0 (fun j => j ≤ 1) (fun j => 1 - j) 0 (by omega) (by rw [Nat.zero_mul]; exact (vm [] [])) ?_
 intro j hj
 try dsimp only
 refine go1 ?_
 refine c_cond rfl (fun h => ?_) (fun h => ?_)
 ·have hj' : j = 0 := by have := of_decide_eq_true h; omega
  subst hj'
  rw [Nat.zero_mul]
  unfold intsM
  refine go1 ?_
  exact ⟨1, by show 1 ≤ 1; omega, by show 1 - 1 < 1 - 0; omega, (by dsimp only; rw [Nat.one_mul]; exact (vm [] []))⟩
 ·have hj' : j = 1 := by have := of_decide_eq_false h; omega
  subst hj'
  rw [Nat.one_mul]
  refine go1 ?_
  refine go0 ?_
  show MV.bool (decide ((k.length : Int) > 160)) = _
  congr 1
  exact decide_eq_decide.2 (by omega)
def accM (l : List AcS) : MV := .sl l.length (l.map acM)
theorem both_y (c : CfS) (acs : List AcS) (hc : CfI c) (hl : acs.length ≤ 100000) (hsm : ∀ a ∈ acs, WdAc a) (h0 : (startS c acs).2 = 0) : ∃ (s : StS) (t : TipS),
  SemR Tryz.prog G0 16 [cfM c, .sl acs.length (acs.map acM)] [] 0 (.tup [ndP (stU s) (tipM t), .int .i64 0]) [] 0 ∧
  SemR Tryz.prog G0 30 [cfM c, .sl acs.length (acs.map acM)] [] 0 (.tup [ndR (stU s) (tipM t), .int .i64 0]) [] 0 ∧
  SemC Tryz.prog G0 31 [ndP (stU s) (tipM t), ndR (stU s) (tipM t)] (.bool true) := by
 have cp := pstart_r (G := G0) c acs hc hl hsm hc.h9
 have cr := rstart_r (G := G0) c acs (by omega) hsm hc.h9
 have hap := initS2_sm (acs := acs) (p := c.price) hsm hc.h9
 have key : ∀ s : StS, startS c acs = (s, 0) → s.app = (initS acs c.price).1 ∧ s.ents = [] ∧ s.cache = [] := by
  intro s hs
  unfold startS at hs h0
  split at hs
  ·rename_i hv; rw [if_pos hv] at h0; exact absurd h0 hv
  split at hs
  ·rename_i hv hi; rw [if_neg hv, if_pos hi] at h0; exact absurd h0 (by dsimp only; omega)
  ·injection hs with hs _; subst hs; exact ⟨rfl, rfl, rfl⟩
 generalize startS c acs = r at *
 obtain ⟨s, e⟩ := r
 dsimp only at *
 subst h0
 obtain ⟨ka, ke, kc⟩ := key s rfl
 rw [← ka] at hap
 refine ⟨s, genT s.app.com, nnew_y c acs s cp hap.1, rnew_y c acs s cr hap.1, same0_m s _ (genT0_ok _) hap (by rw [ke]; simp) (by rw [kc]; simp) (by rw [ke]; nofun)⟩
theorem both_n (c : CfS) (acs : List AcS) (hc : CfI c) (hl : acs.length ≤ 100000) (hsm : ∀ a ∈ acs, WdAc a) (h0 : (startS c acs).2 ≠ 0) : ∃ e : Int, e ≠ 0 ∧
  SemR Tryz.prog G0 16 [cfM c, .sl acs.length (acs.map acM)] [] 0 (.tup [.nilp, .int .i64 e]) [] 0 ∧
  SemR Tryz.prog G0 30 [cfM c, .sl acs.length (acs.map acM)] [] 0 (.tup [ndZ, .int .i64 e]) [] 0 :=
 ⟨_, h0, nnew_n c acs _ _ h0 (pstart_r (G := G0) c acs hc hl hsm hc.h9), rnew_n c acs _ _ h0 (rstart_r (G := G0) c acs (by omega) hsm hc.h9)⟩
theorem nodeBegins_core (c : CfS) (hc : CfI c) (l : List AcS) (hl : l.length ≤ 140737488355328) (hsm : ∀ a ∈ l, WdAc a) (k : List Int) (hk : k.length ≤ 140737488355328) : SemC Tryz.prog G0 4 [cfM c, .sl l.length (l.map acM), intsM k] (.bool true) := by
 have cl := long_m k hk
 by_cases h1 : 160 < k.length
 ·rw [decide_eq_true h1] at cl
  unfold intsM at *
  refine scq seat Tryz.func4 80 ?_
  refine go1 ?_
  refine g_call1 rfl (fun _ h => h) rfl (semR_of_semC (cl)) rfl [(3, 1)] mm lm ?_
  refine go1 ?_
  refine yv (known_m) ?_
  refine go1 ?_
  refine go0 ?_
  rfl
 rw [decide_eq_false h1] at cl
 by_cases h2 : 30 < l.length
 ·unfold intsM at *
  refine scq seat Tryz.func4 80 ?_
  refine go1 ?_
  refine g_call1 rfl (fun _ h => h) rfl (semR_of_semC (cl)) rfl [(3, 1)] mm lm ?_
  refine go1 ?_
  refine c_cond rfl (fun h => ?_) (fun h => ?_)
  ·have _h := h
   refine go1 ?_
   refine yv (known_m) ?_
   refine go1 ?_
   refine go0 ?_
   rfl
  ·exact absurd (of_decide_eq_false h) (by omega)
 have cf := from_r (G := G0) k
 obtain ⟨c2, N', hc2, hN', cg⟩ := config_r (G := G0) k 0 (by omega)
 unfold intsM at *
 refine scq seat Tryz.func4 80 ?_
 refine go1 ?_
 refine g_call1 rfl (fun _ h => h) rfl (semR_of_semC (cl)) rfl [(3, 1)] mm lm ?_
 refine go1 ?_
 refine c_cond rfl (fun h => ?_) (fun h => ?_)
 ·exact absurd (of_decide_eq_true h) (by omega)
 refine go1 ?_
 refine yc (cf) [] ?_
 refine go1 ?_
 refine c_draw [(0, false), (1, false), (2, true), (3, false), (4, false), (5, false)] ?_
 refine go1 ?_
 refine gd_callR1 rfl (fun _ h => h) rfl [10] (cg) [(0, 10)] [] ⟨rfl, trivial, rfl, lm, mm⟩ rfl rfl rfl rfl rfl ?_
 refine go1 ?_
 refine c_loop (Nat × Nat) (fun x => [(32, .int .i64 x.1), (31, .int .i64 ([c, c2].length : Nat)), (30, .sl [c, c2].length ([c, c2].map cfM)), (1, .sl l.length (l.map acM)), (7, numP)]) (fun x => numB k x.2) 1 (fun x => x.1 ≤ [c, c2].length ∧ x.2 ≤ 100 + 100 * x.1) (fun x => [c, c2].length - x.1) (0, N') ⟨Nat.zero_le _, by dsimp only; omega⟩ (by dsimp only; exact (vm [(0, _)] [(15, 2)])) ?_
 have hcs : ∀ x ∈ [c, c2], CfI x := by
  intro x hx
  rcases List.mem_cons.1 hx with rfl | hx
  ·exact hc
  ·rw [List.mem_singleton.1 hx]; exact cfOk_i hc2
 have hCl : [c, c2].length = 2 := rfl
 generalize [c, c2] = C at *
 clear cl cf cg hc hc2
 rintro ⟨j, K⟩ ⟨hj, hK⟩
 try dsimp only
 dsimp only at hj hK
 refine go1 ?_
 refine c_cond rfl (fun h => ?_) (fun h => ?_)
 ·have hj' : j < C.length := by have := of_decide_eq_true h; omega
  have hel := SomF.mk (show idxL (C.map cfM) C.length (j : Int) = some (cfM C[j]) from index_at hj' (by simp [hj']))
  have hci := hcs _ (List.getElem_mem hj')
  generalize C[j] = cc at *
  refine go1 ?_
  refine g_callN1 rfl (fun _ h => h) rfl (accounts_n (G := G0) k K (by omega)) rfl 0 [] ⟨rfl, trivial, rfl, lm, mm⟩ rfl ?_
  rintro _ K2 ⟨acs, ha, hsm2, hK2, rfl⟩
  refine go1 ?_
  refine c_loop Nat (fun i => [(41, .int .i64 i), (40, .int .i64 ([l, acs].length : Nat)), (39, .sl [l, acs].length ([l, acs].map accM)), (9, .ptr 1 12 0 0 []), (32, .int .i64 j), (31, .int .i64 (C.length : Nat)), (30, .sl C.length (C.map cfM)), (1, .sl l.length (l.map acM)), (7, numP)]) (fun _ => numB k K2 ++ [(1, ⟨29, 12, false, 0, [cfM cc]⟩)]) 2 (fun i => i ≤ [l, acs].length) (fun i => [l, acs].length - i) 0 (Nat.zero_le _) (by dsimp only; exact (vm [(0, _), (1, _)] [(9, 2)])) ?_
  have hls : ∀ x ∈ [l, acs], x.length ≤ 100000 ∧ ∀ a ∈ x, WdAc a := by
   intro x hx
   rcases List.mem_cons.1 hx with rfl | hx
   ·exact ⟨by omega, hsm⟩
   ·rw [List.mem_singleton.1 hx]; exact ⟨by omega, fun a h => (hsm2 a h).wd⟩
  have hLl : [l, acs].length = 2 := rfl
  generalize [l, acs] = Q at *
  intro i hi
  try dsimp only
  refine go1 ?_
  refine c_cond rfl (fun h => ?_) (fun h => ?_)
  ·have hi' : i < Q.length := by have := of_decide_eq_true h; omega
   have hel2 := SomF.mk (show idxL (Q.map accM) Q.length (i : Int) = some (accM Q[i]) from index_at hi' (by simp [hi']))
   have hq := hls _ (List.getElem_mem hi')
   generalize Q[i] = q at *
   unfold accM at hel2
   by_cases h0 : (startS cc q).2 = 0
   ·obtain ⟨s, t, c1, c2, c3⟩ := both_y cc q hci hq.1 hq.2 h0
    refine go1 ?_
    refine yr (c1) ?_
    refine go1 ?_
    refine yr (c2) ?_
    refine go1 ?_
    refine yv (c3) ?_
    refine go1 ?_
    exact ⟨i + 1, by dsimp only; omega, by dsimp only; omega, (by dsimp only; exact (vm [(0, _), (1, _)] []))⟩
   ·obtain ⟨e, he, c1, c2⟩ := both_n cc q hci hq.1 hq.2 h0
    refine go1 ?_
    refine yr (c1) ?_
    refine go1 ?_
    refine yr (c2) ?_
    refine go1 ?_
    refine n_guard rfl rfl (fun h => ?_) rfl (fun h => ?_)
    rotate_left
    ·exact absurd h (by simp)
    refine go1 ?_
    refine n_guard rfl rfl (fun h => ?_) rfl (fun h => ?_)
    rotate_left
    ·exact absurd h (by simp [he])
    refine go1 ?_
    exact ⟨i + 1, by dsimp only; omega, by dsimp only; omega, (by dsimp only; exact (vm [(0, _), (1, _)] []))⟩
  ·have _h := h
   refine go1 ?_
   exact ⟨(j + 1, K2), ⟨by dsimp only; omega, by dsimp only; omega⟩, by dsimp only; omega, (by dsimp only; exact (vm [(0, _)] []))⟩
 ·have _h := h
  refine go1 ?_
  refine yv (known_m) ?_
  refine go1 ?_
  refine go0 ?_
  rfl
end
section
open Go.ChangeShapes Go.WideShapes Go.ChangeAt Go.RowKit
def fStr (m : MV) : Prop := ∃ s, m = .str s ∧ s.length ≤ 140737488355328
def fU64 (m : MV) : Prop := ∃ n, m = .int .u64 n ∧ (Lit.int .u64 n).wf = true
def qsAc : List (Nat × (MV → Prop)) := [(1, fStr), (1, fU64), (1, fU64)]
def fAc (m : MV) : Prop := ∃ l, m = .st l ∧ AllQ qsAc l
theorem opnL_cons {P : Program} {o n : Nat} {Q : MV → Prop} {f : Field} {fs : List Field} {qs : List (Nat × (MV → Prop))} (h1 : f.offset = o) (h2 : Opn P f.type n Q) (h3 : OpnL P (o + n) fs qs) : OpnL P o (f :: fs) ((n, Q) :: qs) := ⟨h1, h2, h3⟩
theorem opn_ac : Opn Tryz.prog 126 3 fAc := by
 refine Opn.struct (P := Tryz.prog) (qs := qsAc) Tryz.underlying126 (by kernel_rfl) ?_
 unfold qsAc
 refine opnL_cons rfl (Opn.str Tryz.underlying9 (by kernel_rfl)) ?_
 refine opnL_cons rfl (Opn.int Tryz.underlying27 (by kernel_rfl)) ?_
 refine opnL_cons rfl (Opn.int Tryz.underlying27 (by kernel_rfl)) ?_
 exact trivial
theorem opn_accs : Opn Tryz.prog 30 1 fun m => ∃ l, m = .sl l.length l ∧ (∀ x ∈ l, fAc x) ∧ l.length ≤ 140737488355328 := Opn.slice Tryz.underlying30 (by kernel_rfl) (Nat.le_of_ble_eq_true (by kernel_rfl)) (by omega) opn_ac
theorem u64_lift {m : MV} (h : fU64 m) : ∃ n : Nat, m = .int .u64 n ∧ U64 n := by
 obtain ⟨n, rfl, h⟩ := h
 simp [Lit.wf, IntKind.min, IntKind.max, IntKind.signed, IntKind.bits] at h
 exact ⟨n.toNat, by rw [Int.toNat_of_nonneg (by omega)], by unfold U64; omega⟩
theorem ac_lift {m : MV} (h : fAc m) : ∃ a : AcS, m = acM a ∧ a.name.length ≤ 140737488355328 ∧ U64 a.bal ∧ U64 a.seq := by
 obtain ⟨l, rfl, h⟩ := h
 unfold qsAc at h
 match l, h with
 | [x, y, z], h =>
  obtain ⟨⟨s, rfl, hs⟩, h2, h3, _⟩ := h
  obtain ⟨b, rfl, hb⟩ := u64_lift h2
  obtain ⟨q, rfl, hq⟩ := u64_lift h3
  exact ⟨⟨s, b, q⟩, rfl, hs, hb, hq⟩
theorem accs_full {m : MV} (h : ∃ l, m = .sl l.length l ∧ (∀ x ∈ l, fAc x) ∧ l.length ≤ 140737488355328) : ∃ rs : List AcS, m = .sl rs.length (rs.map acM) ∧ rs.length ≤ 140737488355328 ∧ ∀ a ∈ rs, a.name.length ≤ 140737488355328 ∧ U64 a.bal ∧ U64 a.seq := by
 obtain ⟨l, rfl, h, hl⟩ := h
 obtain ⟨rs, rfl, hr⟩ := lift_list (f := acM) (R := fun a => a.name.length ≤ 140737488355328 ∧ U64 a.bal ∧ U64 a.seq) l fun x hx => ac_lift (h x hx)
 rw [List.length_map] at hl
 exact ⟨rs, by rw [List.length_map], hl, hr⟩
def fI64 (m : MV) : Prop := ∃ n, m = .int .i64 n ∧ (Lit.int .i64 n).wf = true
def fBool (m : MV) : Prop := ∃ b, m = .bool b
def qsCf : List (Nat × (MV → Prop)) := [(1, fI64), (1, fI64), (1, fI64), (1, fI64), (1, fI64), (1, fI64), (1, fBool), (1, fI64), (1, fI64), (1, fU64), (1, fI64), (1, fI64)]
theorem opn_cfg : Opn Tryz.prog 29 12 fun m => ∃ l, m = .st l ∧ AllQ qsCf l := by
 refine Opn.struct (P := Tryz.prog) (qs := qsCf) Tryz.underlying29 (by kernel_rfl) ?_
 unfold qsCf
 refine opnL_cons rfl opn_int ?_
 refine opnL_cons rfl opn_int ?_
 refine opnL_cons rfl opn_int ?_
 refine opnL_cons rfl opn_int ?_
 refine opnL_cons rfl opn_int ?_
 refine opnL_cons rfl opn_int ?_
 refine opnL_cons rfl (Opn.bool Tryz.underlying4 (by kernel_rfl)) ?_
 refine opnL_cons rfl opn_int ?_
 refine opnL_cons rfl opn_int ?_
 refine opnL_cons rfl (Opn.int Tryz.underlying27 (by kernel_rfl)) ?_
 refine opnL_cons rfl opn_int ?_
 refine opnL_cons rfl opn_int ?_
 exact trivial
theorem i64_lift {m : MV} (h : fI64 m) : ∃ n : Int, m = .int .i64 n ∧ I64 n := by
 obtain ⟨n, rfl, h⟩ := h
 simp [Lit.wf, IntKind.min, IntKind.max, IntKind.signed, IntKind.bits] at h
 exact ⟨n, rfl, by unfold I64; omega⟩
theorem allQ_cons {q : Nat × (MV → Prop)} {qs : List (Nat × (MV → Prop))} : ∀ {l : List MV}, AllQ (q :: qs) l → ∃ m r, l = m :: r ∧ q.2 m ∧ AllQ qs r
 | [], h => h.elim
 | m :: r, h => ⟨m, r, rfl, h.1, h.2⟩
theorem allQ_nil : ∀ {l : List MV}, AllQ [] l → l = []
 | [], _ => rfl
 | _ :: _, h => h.elim
theorem cfg_lift {m : MV} (h : ∃ l, m = .st l ∧ AllQ qsCf l) : ∃ c : CfS, m = cfM c ∧ CfI c := by
 obtain ⟨l, rfl, h⟩ := h
 unfold qsCf at h
 obtain ⟨_, l1, rfl, h1, g1⟩ := allQ_cons h
 obtain ⟨_, l2, rfl, h2, g2⟩ := allQ_cons g1
 obtain ⟨_, l3, rfl, h3, g3⟩ := allQ_cons g2
 obtain ⟨_, l4, rfl, h4, g4⟩ := allQ_cons g3
 obtain ⟨_, l5, rfl, h5, g5⟩ := allQ_cons g4
 obtain ⟨_, l6, rfl, h6, g6⟩ := allQ_cons g5
 obtain ⟨_, l7, rfl, h7, g7⟩ := allQ_cons g6
 obtain ⟨_, l8, rfl, h8, g8⟩ := allQ_cons g7
 obtain ⟨_, l9, rfl, h9, g9⟩ := allQ_cons g8
 obtain ⟨_, l10, rfl, h10, g10⟩ := allQ_cons g9
 obtain ⟨_, l11, rfl, h11, g11⟩ := allQ_cons g10
 obtain ⟨_, l12, rfl, h12, g12⟩ := allQ_cons g11
 obtain rfl := allQ_nil g12
 obtain ⟨b, rfl⟩ := h7
 obtain ⟨a1, rfl, b1⟩ := i64_lift h1
 obtain ⟨a2, rfl, b2⟩ := i64_lift h2
 obtain ⟨a3, rfl, b3⟩ := i64_lift h3
 obtain ⟨a4, rfl, b4⟩ := i64_lift h4
 obtain ⟨a5, rfl, b5⟩ := i64_lift h5
 obtain ⟨a6, rfl, b6⟩ := i64_lift h6
 obtain ⟨a8, rfl, b8⟩ := i64_lift h8
 obtain ⟨a9, rfl, b9⟩ := i64_lift h9
 obtain ⟨a10, rfl, b10⟩ := u64_lift h10
 obtain ⟨a11, rfl, b11⟩ := i64_lift h11
 obtain ⟨a12, rfl, b12⟩ := i64_lift h12
 exact ⟨⟨a1, a2, a3, a4, a5, a6, b, a8, a9, a10, a11, a12⟩, rfl, b1, b2, b3, b4, b5, b6, b8, b9, b10, b11, b12⟩
end
end Go.Proofs.YtdjcdmnemddjlaaGreat
namespace Go.Proofs.YtdjcdmnemddjlaaGreat.nodeBegins
open Go.Proofs.YtdjcdmnemddjlaaGreat
theorem r1 : (Rows.nodeBeginsRow.inPlace == Tryz.prog.inPlace 4) = true := by kernel_rfl
theorem r2 : (Rows.nodeBeginsRow.unfollowed == Tryz.prog.unfollowed 4) = true := by kernel_rfl
theorem r3 : (Rows.nodeBeginsRow.recurses == Tryz.prog.recurses 4) = true := by kernel_rfl
theorem r4 : (Rows.nodeBeginsRow.named == Tryz.prog.varsNamed 4) = true := by kernel_rfl
set_option maxRecDepth 100000 in
theorem closed : joinedFacts Tryz.prog 4 Tryz.f4 Rows.nodeBeginsSpec Rows.nodeBeginsRow = true := by
 simp only [joinedFacts, Bool.and_eq_true]
 and_intros
 all_goals first
  | (with_reducible exact r1)
  | (with_reducible exact r2)
  | (with_reducible exact r3)
  | (with_reducible exact r4)
  | kernel_rfl
end Go.Proofs.YtdjcdmnemddjlaaGreat.nodeBegins
