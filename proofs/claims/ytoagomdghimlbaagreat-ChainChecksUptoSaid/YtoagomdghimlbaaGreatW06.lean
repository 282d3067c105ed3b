/- Parts of a proof, one behind the other: Q5, PC, N2, PD, PF, PK, PE, PL, PI, PH, PM, PO, N4, PG, N3, PN, PP, PQ, PR, PT, PU, PJ, PV. -/
import Derived.Test.YtoagomdghimlbaaGreatW05
set_option maxRecDepth 20000
set_option maxHeartbeats 16000000
namespace Go.Proofs.YtoagomdghimlbaaGreat
open Go.RowKit
section
variable {G : GS}
attribute [local irreducible] vOpsN vOpsG vOpsD vOpGD NextD vC SeqQ BlockQ
theorem acn_at {k : Nat} (hk : k < 4) : ∃ nm : List UInt8, nthM [MV.str [97, 110, 110], MV.str [98, 111, 98], MV.str [101, 118, 101], MV.str [122, 111, 101]] (0 + k) = some (.str nm) ∧ nm.length ≤ 5 := by
 have h4 : k = 0 ∨ k = 1 ∨ k = 2 ∨ k = 3 := by omega
 rcases h4 with rfl | rfl | rfl | rfl <;> exact ⟨_, rfl, by decide⟩
theorem acb_at {k : Nat} (hk : k < 5) : ∃ v : Nat, nthM [MV.int .u64 100000, MV.int .u64 5000, MV.int .u64 700, MV.int .u64 0, MV.int .u64 1099511627776] (0 + k) = some (.int .u64 (v : Int)) ∧ U64 v := by
 have h5 : k = 0 ∨ k = 1 ∨ k = 2 ∨ k = 3 ∨ k = 4 := by omega
 rcases h5 with rfl | rfl | rfl | rfl | rfl
 ·exact ⟨100000, rfl, by decide⟩
 ·exact ⟨5000, rfl, by decide⟩
 ·exact ⟨700, rfl, by decide⟩
 ·exact ⟨0, rfl, by decide⟩
 ·exact ⟨1099511627776, rfl, by decide⟩
theorem acq_at {k : Nat} (hk : k < 3) : ∃ v : Nat, nthM [MV.int .u64 5, MV.int .u64 18446744073709551615, MV.int .u64 18446744073709551614] (0 + k) = some (.int .u64 (v : Int)) ∧ U64 v := by
 have h3 : k = 0 ∨ k = 1 ∨ k = 2 := by omega
 rcases h3 with rfl | rfl | rfl
 ·exact ⟨5, rfl, by decide⟩
 ·exact ⟨18446744073709551615, rfl, by decide⟩
 ·exact ⟨18446744073709551614, rfl, by decide⟩
theorem accounts_n (L : List Int) (N : Nat) (hN : N < 4000000000000000000) : SemN G L 44 [numP] N fun r N' => ∃ acs : List AcS, acs.length ≤ 4 ∧ (∀ a ∈ acs, SmAc a) ∧ N' ≤ N + 14 ∧ r = .sl acs.length (acs.map acM) := by
 obtain ⟨m, hm, cm⟩ := next_b (G := G) L N 4 (by omega) (by omega) (by omega)
 unfold SemN
 refine seq' seat Tryz.func44 36 ?_
 refine go1 ?_
 refine g_callR1 rfl hhq rfl (cm) [(0, 0)] [] ⟨rfl, trivial, rfl, lm, mm⟩ rfl rfl ?_
 refine go1 ?_
 refine c_loop (Nat × Nat × List AcS) (fun x => [(4, .int .i64 ((x.1 : Int) - 1)), (3, .ms 1 3 0 x.2.2.length), (0, numP)]) (fun x => numB L x.2.1 ++ [(1, ⟨74, 3, true, 0, x.2.2.map acM⟩)]) 2 (fun x => x.1 + x.2.2.length ≤ 4 ∧ x.2.1 + 3 * x.1 ≤ N + 14 ∧ (∀ a ∈ x.2.2, SmAc a)) (fun x => x.1) (m + 1, N + 1, []) ⟨by simp; omega, by dsimp only; omega, by simp⟩ (by dsimp only; exact vm [] []) ?_
 rintro ⟨j, K, acs⟩ ⟨h1, h2, h3⟩
 try dsimp only
 dsimp only at h1 h2 h3
 refine go1 ?_
 (refine c_cond rfl ?_ ?_ <;> intro h)
 ·have hj : 1 ≤ j := by have := of_decide_eq_true h; omega
  obtain ⟨i, rfl⟩ : ∃ i, j = i + 1 := ⟨j - 1, by omega⟩
  have hcast : ((i + 1 : Nat) : Int) - 1 = (i : Int) := by omega
  rw [hcast]
  obtain ⟨nm, f1, g1⟩ := acn_at (k := i) (by omega)
  obtain ⟨x5, hx5, c5⟩ := next_b (G := G) L K 5 (by omega) (by omega) (by omega)
  obtain ⟨bal, f2, g2⟩ := acb_at (k := x5) hx5
  obtain ⟨x6, hx6, c6⟩ := next_b (G := G) L (K + 1) 6 (by omega) (by omega) (by omega)
  obtain ⟨x3, hx3, c3⟩ := next_b (G := G) L (K + 1 + 1) 3 (by omega) (by omega) (by omega)
  obtain ⟨sq, f3, g3⟩ := acq_at (k := x3) hx3
  have f1 := SomF.mk f1
  have f2 := SomF.mk f2
  have f3 := SomF.mk f3
  have i1 := SomF.mk (idx_at (n := 4) (k := i) (by omega))
  have i2 := SomF.mk (idx_at hx5)
  have i3 := SomF.mk (idx_at hx3)
  have hll : (acs.map acM).length = acs.length := by simp
  refine go1 ?_
  refine c_draw [(0, false), (1, false), (2, false), (3, false), (4, false), (5, false), (6, true), (7, false), (8, false), (9, false), (10, false), (11, false)] ?_
  refine go1 ?_
  refine gd_callR1 rfl hhq rfl [0] (c5) [(0, 0)] [] ⟨rfl, trivial, rfl, lm, mm⟩ rfl rfl rfl rfl ?_
  refine go1 ?_
  refine g_callR1 rfl hhq rfl (c6) [(0, 0)] [] ⟨rfl, trivial, rfl, lm, mm⟩ rfl rfl ?_
  refine go1 ?_
  (refine c_cond rfl ?_ ?_ <;> intro h)
  ·refine go1 ?_
   refine g_callR1 rfl hhq rfl (c3) [(0, 0)] [] ⟨rfl, trivial, rfl, lm, mm⟩ rfl rfl ?_
   refine go1 ?_
   ((with_reducible apply g_mem); (case hq => exact rfl); (case hv => exact rfl); (case he => (intro R hR; refine sms hR ?_; (refine And.intro (Nat.le_refl _) ?_; refine ⟨_, rfl, ?_⟩; refine And.intro ⟨hll, app_ok (by kernel_rfl) pf⟩ ?_; refine ⟨(acs ++ [(⟨nm, bal, sq⟩ : AcS)]).map acM, sv (by rw [List.map_append]; rfl), acs.length + 1, sv pf, ?_⟩); exact hR)); (case hd => exact rfl))
   refine go1 ?_
   exact ⟨(i, K + 1 + 1 + 1, acs ++ [⟨nm, bal, sq⟩]), ⟨by dsimp only; rw [List.length_append, List.length_singleton]; omega, by dsimp only; omega, all_app h3 fun a ha => by rw [List.mem_singleton.1 ha]; exact ⟨by dsimp only; omega, g2, g3⟩⟩, by dsimp only; omega, (by dsimp only; rw [List.length_append, List.length_singleton]; exact (vm [(1, _)] []))⟩
  ·refine go1 ?_
   ((with_reducible apply g_mem); (case hq => exact rfl); (case hv => exact rfl); (case he => (intro R hR; refine sms hR ?_; (refine And.intro (Nat.le_refl _) ?_; refine ⟨_, rfl, ?_⟩; refine And.intro ⟨hll, app_ok (by kernel_rfl) pf⟩ ?_; refine ⟨(acs ++ [(⟨nm, bal, 0⟩ : AcS)]).map acM, sv (by rw [List.map_append]; rfl), acs.length + 1, sv pf, ?_⟩); exact hR)); (case hd => exact rfl))
   refine go1 ?_
   exact ⟨(i, K + 1 + 1, acs ++ [⟨nm, bal, 0⟩]), ⟨by dsimp only; rw [List.length_append, List.length_singleton]; omega, by dsimp only; omega, all_app h3 fun a ha => by rw [List.mem_singleton.1 ha]; exact ⟨by dsimp only; omega, g2, by simp [U64]⟩⟩, by dsimp only; omega, (by dsimp only; rw [List.length_append, List.length_singleton]; exact (vm [(1, _)] []))⟩
 ·refine go1 ?_
  refine ⟨_, _, _, ⟨K, ⟨⟨acs, by omega, h3, by omega, rfl⟩, rfl⟩, rfl, rfl⟩, ?_⟩; refine ⟨[_], [], [(1, acs.length)], rfl, rfl, ?_, rfl, ⟨?_, trivial⟩, ?_⟩
  ·exact ⟨by show acs.length ≤ (acs.map acM).length; simp, trivial⟩
  ·exact .inr ⟨rfl, rfl, rfl, Nat.le_of_eq (Nat.zero_add _), cut_all acM acs⟩
  ·exact mm
structure CfS where
 maxTxs : Int
 maxBytes : Int
 maxTx : Int
 cache : Int
 ttlB : Int
 ttlT : Int
 keep : Bool
 blkB : Int
 blkG : Int
 price : Nat
 self : Int
 nodes : Int
abbrev cfM (c : CfS) : MV := .st [.int .i64 c.maxTxs, .int .i64 c.maxBytes, .int .i64 c.maxTx, .int .i64 c.cache, .int .i64 c.ttlB, .int .i64 c.ttlT, .bool c.keep, .int .i64 c.blkB, .int .i64 c.blkG, .int .u64 c.price, .int .i64 c.self, .int .i64 c.nodes]
structure CfOk (c : CfS) : Prop where
 maxTxs : 1 ≤ c.maxTxs ∧ c.maxTxs ≤ 512
 maxBytes : 1 ≤ c.maxBytes ∧ c.maxBytes ≤ 1048576
 maxTx : 1 ≤ c.maxTx ∧ c.maxTx ≤ 4096
 cache : 0 ≤ c.cache ∧ c.cache ≤ 1024
 ttlB : 0 ≤ c.ttlB ∧ c.ttlB ≤ 1073741824
 ttlT : 0 ≤ c.ttlT ∧ c.ttlT ≤ 1073741824
 blkB : 1 ≤ c.blkB ∧ c.blkB ≤ 1048576
 blkG : -1 ≤ c.blkG ∧ c.blkG ≤ 1125899906842624
 price : U64 c.price
 self : 0 ≤ c.self ∧ c.self < c.nodes
 nodes : c.nodes ≤ 8
abbrev cfZ : MV := .st [.int .i64 0, .int .i64 0, .int .i64 0, .int .i64 0, .int .i64 0, .int .i64 0, .bool false, .int .i64 0, .int .i64 0, .int .u64 0, .int .i64 0, .int .i64 0]
theorem config_n (L : List Int) (N : Nat) (hN : N < 4000000000000000000) : SemN G L 43 [numP] N fun r N' => ∃ c : CfS, CfOk c ∧ N' ≤ N + 14 ∧ r = cfM c := by
 obtain ⟨x0, b0, c0⟩ := next_b (G := G) L (N) 7 (by omega) (by omega) (by omega)
 obtain ⟨x1, b1, c1⟩ := next_b (G := G) L (N + 1) 400 (by omega) (by omega) (by omega)
 obtain ⟨x2, b2, c2⟩ := next_b (G := G) L (N + 1 + 1) 140 (by omega) (by omega) (by omega)
 obtain ⟨x3, b3, c3⟩ := next_b (G := G) L (N + 1 + 1 + 1) 12 (by omega) (by omega) (by omega)
 obtain ⟨x4, b4, c4⟩ := next_b (G := G) L (N + 1 + 1 + 1 + 1) 4 (by omega) (by omega) (by omega)
 obtain ⟨x5, b5, c5⟩ := next_b (G := G) L (N + 1 + 1 + 1 + 1 + 1) 3 (by omega) (by omega) (by omega)
 obtain ⟨x6, b6, c6⟩ := next_b (G := G) L (N + 1 + 1 + 1 + 1 + 1 + 1) 20 (by omega) (by omega) (by omega)
 obtain ⟨x7, b7, c7⟩ := next_b (G := G) L (N + 1 + 1 + 1 + 1 + 1 + 1 + 1) 3 (by omega) (by omega) (by omega)
 obtain ⟨x8, b8, c8⟩ := next_b (G := G) L (N + 1 + 1 + 1 + 1 + 1 + 1 + 1 + 1) 400 (by omega) (by omega) (by omega)
 obtain ⟨x9, b9, c9⟩ := next_b (G := G) L (N + 1 + 1 + 1 + 1 + 1 + 1 + 1 + 1 + 1) 3 (by omega) (by omega) (by omega)
 obtain ⟨x10, b10, c10⟩ := next_b (G := G) L (N + 1 + 1 + 1 + 1 + 1 + 1 + 1 + 1 + 1 + 1) 3 (by omega) (by omega) (by omega)
 have hm : 0 ≤ (x5 : Int) * x6 ∧ (x5 : Int) * x6 < 60 := by
  have e : x5 = 0 ∨ x5 = 1 ∨ x5 = 2 := by omega
  rcases e with rfl | rfl | rfl <;> simp <;> omega
 generalize hM : (x5 : Int) * x6 = M at *
 have em := EqF.mk (show IntKind.i64.wrap ((x5 : Int) * x6) = M by rw [hM]; exact wrap_in _ (by omega) (by omega))
 unfold SemN
 refine seq' seat Tryz.func43 47 ?_
 refine go1 ?_
 refine g_callR1 rfl hhq rfl (c0) [(0, 0)] [] ⟨rfl, trivial, rfl, lm, mm⟩ rfl rfl ?_
 refine go1 ?_
 refine g_callR1 rfl hhq rfl (c1) [(0, 0)] [] ⟨rfl, trivial, rfl, lm, mm⟩ rfl rfl ?_
 refine go1 ?_
 refine g_callR1 rfl hhq rfl (c2) [(0, 0)] [] ⟨rfl, trivial, rfl, lm, mm⟩ rfl rfl ?_
 refine n_re ([(11, .int .i64 x2), (9, .int .i64 (250 + (x1 : Int))), (6, .int .i64 (1 + (x0 : Int))), (2, .ptr 1 12 0 0 []), (0, numP)]) (numB L (N + 1 + 1 + 1) ++ [(1, ⟨37, 12, false, 0, [cfZ]⟩)]) [] trivial rfl mm mm ?_
 refine go1 ?_
 refine g_callR1 rfl hhq rfl (c3) [(0, 0)] [] ⟨rfl, trivial, rfl, lm, mm⟩ rfl rfl ?_
 refine go1 ?_
 refine g_callR1 rfl hhq rfl (c4) [(0, 0)] [] ⟨rfl, trivial, rfl, lm, mm⟩ rfl rfl ?_
 refine go1 ?_
 refine g_callR1 rfl hhq rfl (c5) [(0, 0)] [] ⟨rfl, trivial, rfl, lm, mm⟩ rfl rfl ?_
 refine n_re ([(18, .int .i64 x5), (16, .int .i64 x4), (14, .int .i64 x3), (12, .int .i64 (60 + (x2 : Int))), (9, .int .i64 (250 + (x1 : Int))), (6, .int .i64 (1 + (x0 : Int))), (2, .ptr 1 12 0 0 []), (0, numP)]) (numB L (N + 1 + 1 + 1 + 1 + 1 + 1) ++ [(1, ⟨37, 12, false, 0, [cfZ]⟩)]) [] trivial rfl mm mm ?_
 refine go1 ?_
 refine g_callR1 rfl hhq rfl (c6) [(0, 0)] [] ⟨rfl, trivial, rfl, lm, mm⟩ rfl rfl ?_
 refine go1 ?_
 refine g_callR1 rfl hhq rfl (c7) [(0, 0)] [] ⟨rfl, trivial, rfl, lm, mm⟩ rfl rfl ?_
 refine go1 ?_
 refine g_callR1 rfl hhq rfl (c8) [(0, 0)] [] ⟨rfl, trivial, rfl, lm, mm⟩ rfl rfl ?_
 refine n_re ([(26, .int .i64 x8), (24, .bool ((x7 : Int) == 0)), (21, .int .i64 M), (16, .int .i64 x4), (14, .int .i64 x3), (12, .int .i64 (60 + (x2 : Int))), (9, .int .i64 (250 + (x1 : Int))), (6, .int .i64 (1 + (x0 : Int))), (2, .ptr 1 12 0 0 []), (0, numP)]) (numB L (N + 1 + 1 + 1 + 1 + 1 + 1 + 1 + 1 + 1) ++ [(1, ⟨37, 12, false, 0, [cfZ]⟩)]) [] trivial rfl mm mm ?_
 refine go1 ?_
 refine g_callR1 rfl hhq rfl (c9) [(0, 0)] [] ⟨rfl, trivial, rfl, lm, mm⟩ rfl rfl ?_
 refine go1 ?_
 refine g_callR1 rfl hhq rfl (c10) [(0, 0)] [] ⟨rfl, trivial, rfl, lm, mm⟩ rfl rfl ?_
 refine go1 ?_
 refine q_join (Nat × Int) (fun x => [(0, numP), (2, .ptr 1 12 0 0 []), (3, .ptr 2 12 0 0 [])]) (fun x => numB L x.1 ++ [(1, ⟨37, 12, false, 0, [cfZ]⟩), (2, ⟨37, 12, false, 0, [.st [.int .i64 (1 + (x0 : Int)), .int .i64 (250 + (x1 : Int)), .int .i64 (60 + (x2 : Int)), .int .i64 x3, .int .i64 x4, .int .i64 M, .bool ((x7 : Int) == 0), .int .i64 (100 + (x8 : Int)), .int .i64 x.2, .int .u64 x9, .int .i64 0, .int .i64 1]]⟩)]) (fun _ => 3) (fun x => x.1 ≤ N + 12 ∧ -1 ≤ x.2 ∧ x.2 ≤ 2000) (fun JQ hj => ?_) (fun x hx => ?_)
 ·(refine c_cond rfl ?_ ?_ <;> intro h)
  ·obtain ⟨y, hy, cy⟩ := next_b (G := G) L (N + 1 + 1 + 1 + 1 + 1 + 1 + 1 + 1 + 1 + 1 + 1) 900 (by omega) (by omega) (by omega)
   refine go1 ?_
   refine g_callR1 rfl hhq rfl (cy) [(0, 0)] [] ⟨rfl, trivial, rfl, lm, mm⟩ rfl rfl ?_
   refine go1 ?_
   exact hj.nrm (N + 1 + 1 + 1 + 1 + 1 + 1 + 1 + 1 + 1 + 1 + 1 + 1, 200 + (y : Int)) ⟨by dsimp only; omega, by dsimp only; omega, by dsimp only; omega⟩ (by dsimp only; exact (vm [(1, _), (2, _)] []))
  ·refine go1 ?_
   exact hj.nrm (N + 1 + 1 + 1 + 1 + 1 + 1 + 1 + 1 + 1 + 1 + 1, -1) ⟨by dsimp only; omega, by dsimp only; omega, by dsimp only; omega⟩ (by dsimp only; exact (vm [(1, _), (2, _)] []))
 ·obtain ⟨K, g⟩ := x
  dsimp only at hx
  obtain ⟨hK, hg1, hg2⟩ := hx
  obtain ⟨z, hz, cz⟩ := next_b (G := G) L K 6 (by omega) (by omega) (by omega)
  obtain ⟨w, hw, cw⟩ := next_b (G := G) L (K + 1) 40 (by omega) (by omega) (by omega)
  try dsimp only
  refine go1 ?_
  refine g_callR1 rfl hhq rfl (cz) [(0, 0)] [] ⟨rfl, trivial, rfl, lm, mm⟩ rfl rfl ?_
  refine go1 ?_
  (refine c_cond rfl ?_ ?_ <;> intro h)
  ·refine go1 ?_
   refine g_callR1 rfl hhq rfl (cw) [(0, 0)] [] ⟨rfl, trivial, rfl, lm, mm⟩ rfl rfl ?_
   refine go1 ?_
   refine go0 ?_
   refine ⟨_, _, _, ⟨_, ⟨⟨⟨1 + (x0 : Int), 250 + (x1 : Int), 40 + (w : Int), x3, x4, M, (x7 : Int) == 0, 100 + (x8 : Int), g, x9, 0, 1⟩, ⟨by dsimp only; omega, by dsimp only; omega, by dsimp only; omega, by dsimp only; omega, by dsimp only; omega, by dsimp only; omega, by dsimp only; omega, by dsimp only; omega, by unfold U64; dsimp only; omega, by dsimp only; omega, by dsimp only; omega⟩, (by show K + 1 + 1 ≤ _; omega), rfl⟩, rfl⟩, rfl, rfl⟩, ?_⟩; refine ⟨[_], [], [], rfl, rfl, trivial, rfl, ⟨?_, trivial⟩, ?_⟩
   ·exact rv
   ·exact mm
  ·refine go1 ?_
   refine go0 ?_
   refine ⟨_, _, _, ⟨_, ⟨⟨⟨1 + (x0 : Int), 250 + (x1 : Int), 60 + (x2 : Int), x3, x4, M, (x7 : Int) == 0, 100 + (x8 : Int), g, x9, 0, 1⟩, ⟨by dsimp only; omega, by dsimp only; omega, by dsimp only; omega, by dsimp only; omega, by dsimp only; omega, by dsimp only; omega, by dsimp only; omega, by dsimp only; omega, by unfold U64; dsimp only; omega, by dsimp only; omega, by dsimp only; omega⟩, (by show K + 1 ≤ _; omega), rfl⟩, rfl⟩, rfl, rfl⟩, ?_⟩; refine ⟨[_], [], [], rfl, rfl, trivial, rfl, ⟨?_, trivial⟩, ?_⟩
   ·exact rv
   ·exact mm
end
section
variable {G : GS}
attribute [local irreducible] vOpsN vOpsG vOpsD vOpGD NextD vC SeqQ BlockQ
structure EntOk (B : Nat) (e : Ent) : Prop where
 key : e.key.length = 32
 raw : e.raw.length ≤ 4096
 sender : e.sender.length ≤ 5000
 height : 0 ≤ e.height ∧ e.height < 4611686018427387904
 time : 0 ≤ e.time ∧ e.time < 4611686018427387904
 peers : e.peers.length ≤ B
 gas : 0 ≤ e.gas ∧ e.gas < 18446744073709551616
def atE (k : List UInt8) (l : List Ent) : Int := posK k (l.map (·.key)) 0
theorem at_m (l : List Ent) (key : List UInt8) (hl : l.length ≤ 1000000) (hk32 : key.length = 32) (hs : ∀ e ∈ l, e.key.length = 32) : SemC Tryz.prog G 114 [.sl l.length (l.map entM), keyM key] (.int .i64 (atE key l)) := by
 generalize hr : atE key l = R
 unfold atE at hr
 refine scq seat Tryz.func114 20 ?_
 refine go1 ?_
 refine c_loop Nat (fun k => [(9, .int .i64 k), (8, .int .i64 l.length), (7, .sl l.length (l.map entM)), (3, .ptr 0 32 0 0 [])]) (fun _ => [(0, ⟨25, 32, false, 0, [keyM key]⟩)]) 1 (fun k => k ≤ l.length ∧ posK key ((l.drop k).map (·.key)) k = R) (fun k => l.length - k) 0 ⟨Nat.zero_le _, by rw [List.drop_zero]; exact hr⟩ (vm [(0, _)] []) ?_
 rintro k ⟨hk, hR⟩
 try dsimp only
 refine go1 ?_
 (refine c_cond rfl ?_ ?_ <;> intro h)
 ·have hk' : k < l.length := by have := of_decide_eq_true h; omega
  have hel := ents_at hk'
  have h32 := hs _ (List.getElem_mem hk')
  rw [List.drop_eq_getElem_cons hk', List.map_cons, posK] at hR
  generalize l[k] = a at *
  have hel := SomF.mk hel
  have q1 := SomF.mk (eq_key (a := a.key) (b := key) (by rw [h32, hk32]))
  have s1 := SideF.mk (keySide a.key key)
  by_cases he : a.key = key
  ·rw [if_pos he] at hR
   rw [decide_eq_true he] at q1
   subst hR
   refine go1 ?_
   refine go0 ?_
   rfl
  ·rw [if_neg he] at hR
   rw [decide_eq_false he] at q1
   refine go1 ?_
   exact ⟨k + 1, ⟨by show k + 1 ≤ l.length; omega, hR⟩, by show l.length - (k + 1) < l.length - k; omega, (by dsimp only; exact (vm [(0, _)] []))⟩
 ·have hk' : k = l.length := by have := of_decide_eq_false h; omega
  subst hk'
  rw [List.drop_length, List.map_nil, posK] at hR
  subst hR
  refine go1 ?_
  refine go0 ?_
  rfl
theorem atE_spec (k : List UInt8) (l : List Ent) : atE k l = -1 ∨ ∃ j : Nat, atE k l = (j : Int) ∧ j < l.length := by
 rcases posK_spec k (l.map (·.key)) 0 with h | ⟨j, h, hj⟩
 ·exact .inl h
 ·exact .inr ⟨j, by unfold atE; rw [h, Nat.zero_add], by simpa using hj⟩
def lateS (now then_ limit : Int) : Bool := decide (0 < limit ∧ then_ < now ∧ limit < now - then_)
theorem late_m (now then_ limit : Int) (h1 : 0 ≤ now ∧ now < 4611686018427387904) (h2 : 0 ≤ then_ ∧ then_ < 4611686018427387904) (h3 : I64 limit) : SemC Tryz.prog G 181 [.int .i64 now, .int .i64 then_, .int .i64 limit] (.bool (lateS now then_ limit)) := by
 unfold I64 at h3
 generalize hr : lateS now then_ limit = R
 unfold lateS at hr
 refine scq seat Tryz.func181 24 ?_
 refine go1 ?_
 by_cases c1 : 0 < limit
 ·by_cases c2 : then_ < now
  ·(iterate 4 ((all_goals (refine go1 ?_)); (all_goals (first | ((with_reducible apply n_grd); (case hf => exact ⟨rfl, rfl, rfl⟩); (all_goals intro h); (all_goals (try simp only [decide_eq_true_eq, decide_eq_false_iff_not, Bool.not_true] at h)); (all_goals (try (exfalso; omega)))) | ((with_reducible apply c_cond); (case he => exact rfl); (all_goals intro h); (all_goals (try simp only [bx] at h)); (all_goals (try (exfalso; omega)))) | skip))))
   all_goals (refine go0 ?_)
   all_goals (rw [← hr]; exact congrArg MV.bool (decide_eq_decide.2 (by omega)))
  ·rw [decide_eq_false (by omega)] at hr
   subst hr
   (iterate 4 ((all_goals (refine go1 ?_)); (all_goals (first | ((with_reducible apply n_grd); (case hf => exact ⟨rfl, rfl, rfl⟩); (all_goals intro h); (all_goals (try simp only [decide_eq_true_eq, decide_eq_false_iff_not, Bool.not_true] at h)); (all_goals (try (exfalso; omega)))) | ((with_reducible apply c_cond); (case he => exact rfl); (all_goals intro h); (all_goals (try simp only [bx] at h)); (all_goals (try (exfalso; omega)))) | skip))))
   all_goals (refine go0 ?_)
   all_goals (first | rfl | exact congrArg MV.bool (decide_eq_false (by omega)))
 ·rw [decide_eq_false (by omega)] at hr
  subst hr
  (iterate 4 ((all_goals (refine go1 ?_)); (all_goals (first | ((with_reducible apply n_grd); (case hf => exact ⟨rfl, rfl, rfl⟩); (all_goals intro h); (all_goals (try simp only [decide_eq_true_eq, decide_eq_false_iff_not, Bool.not_true] at h)); (all_goals (try (exfalso; omega)))) | ((with_reducible apply c_cond); (case he => exact rfl); (all_goals intro h); (all_goals (try simp only [bx] at h)); (all_goals (try (exfalso; omega)))) | skip))))
  all_goals (refine go0 ?_)
  all_goals (first | rfl | exact congrArg MV.bool (decide_eq_false (by omega)))
structure StS where
 cfg : CfS
 app : AppS
 height : Int
 time : Int
 arr : Int
 ents : List Ent
 cache : List (List UInt8)
abbrev stM (s : StS) : MV := .st [cfM s.cfg, appM s.app, .int .i64 s.height, .int .i64 s.time, .int .i64 s.arr, .sl s.ents.length (s.ents.map entM), .sl s.cache.length (s.cache.map keyM)]
structure StOk (B : Nat) (s : StS) : Prop where
 cfg : CfOk s.cfg
 app : SmApp s.app
 height : 0 ≤ s.height ∧ s.height ≤ 1000000000000
 time : 0 ≤ s.time ∧ s.time ≤ 100 * B
 arr : 0 ≤ s.arr ∧ s.arr ≤ B
 ents : s.ents.length ≤ B
 entk : ∀ e ∈ s.ents, EntOk B e
 cache : s.cache.length ≤ 1024
 ck : Key32 s.cache
def pushSt (s : StS) (k : List UInt8) : StS := { s with cache := pushK k s.cache s.cfg.cache }
def dropSt (s : StS) (k : List UInt8) : StS := { s with cache := dropK k s.cache }
def forgetSt (s : StS) (k : List UInt8) : StS := if s.cfg.keep = true then s else dropSt s k
def leaveSt (s : StS) (k : List UInt8) : StS × Bool := if atE k s.ents < 0 then (s, false) else ({ s with ents := s.ents.take (atE k s.ents).toNat ++ s.ents.drop ((atE k s.ents).toNat + 1) }, true)
theorem pushSt_ok {B : Nat} {s : StS} {k : List UInt8} (h : StOk B s) (hk : k.length = 32) : StOk B (pushSt s k) := by
 have := pushK_ok (size := s.cfg.cache) hk h.ck
 exact ⟨h.cfg, h.app, h.height, h.time, h.arr, h.ents, h.entk, by have := this.2; have := h.cache; show (pushK k s.cache s.cfg.cache).length ≤ _; omega, this.1⟩
theorem dropSt_ok {B : Nat} {s : StS} {k : List UInt8} (h : StOk B s) : StOk B (dropSt s k) := by
 have := dropK_ok (k := k) h.ck
 exact ⟨h.cfg, h.app, h.height, h.time, h.arr, h.ents, h.entk, by have := this.2; have := h.cache; show (dropK k s.cache).length ≤ _; omega, this.1⟩
theorem forgetSt_ok {B : Nat} {s : StS} {k : List UInt8} (h : StOk B s) : StOk B (forgetSt s k) := by
 unfold forgetSt
 split
 ·exact h
 ·exact dropSt_ok h
theorem leaveSt_ok {B : Nat} {s : StS} {k : List UInt8} (h : StOk B s) : StOk B (leaveSt s k).1 := by
 unfold leaveSt
 split
 ·exact h
 ·refine ⟨h.cfg, h.app, h.height, h.time, h.arr, ?_, fun e he => ?_, h.cache, h.ck⟩
  ·have := h.ents
   dsimp only
   rw [List.length_append, List.length_take, List.length_drop]
   rcases atE_spec k s.ents with h0 | ⟨j, hj, hlt⟩
   ·omega
   ·rw [hj, Int.toNat_natCast]; omega
  ·exact (List.mem_append.1 he).elim (fun he => h.entk e (List.mem_of_mem_take he)) (fun he => h.entk e (List.mem_of_mem_drop he))
theorem pushSt_r {B : Nat} (s : StS) (k : List UInt8) (h : StOk B s) (hk : k.length = 32) : SemC Tryz.prog G 117 [stM s, keyM k] (stM (pushSt s k)) := by
 obtain ⟨⟨f1, f2, f3, f4, f5, f6, keep, f8, f9, f10, f11, f12⟩, ⟨⟨a1, a2⟩, ⟨a3, a4⟩, ⟨a5, a6⟩, a7, a8⟩, height, time, arr, ents, cache⟩ := s
 have h1 : cache.length ≤ 1024 := h.cache
 have h2 : 0 ≤ f4 ∧ f4 ≤ 1024 := h.cfg.cache
 have c1 := push_r (G := G) cache f4 k (by omega) (by unfold I64; omega) hk h.ck
 show SemC _ _ _ _ (stM ⟨⟨f1, f2, f3, f4, f5, f6, keep, f8, f9, f10, f11, f12⟩, ⟨⟨a1, a2⟩, ⟨a3, a4⟩, ⟨a5, a6⟩, a7, a8⟩, height, time, arr, ents, pushK k cache f4⟩)
 generalize pushK k cache f4 = nc at *
 clear h
 dsimp only [stM, cfM, appM, lgM]
 try generalize a1.map acM = b1 at *
 try generalize a1.length = d1 at *
 try generalize a3.map acM = b3 at *
 try generalize a3.length = d3 at *
 try generalize a5.map acM = b5 at *
 try generalize a5.length = d5 at *
 refine scq seat Tryz.func117 17 ?_
 refine go1 ?_
 refine g_call2 rfl hhq rfl (c1) rfl lm ?_
 refine go1 ?_
 (refine ret_c [_] rfl (by kernel_rfl) ?_; (refine go0 ?_); exact rfl)
theorem dropSt_r {B : Nat} (s : StS) (k : List UInt8) (h : StOk B s) (hk : k.length = 32) : SemC Tryz.prog G 122 [stM s, keyM k] (stM (dropSt s k)) := by
 obtain ⟨⟨f1, f2, f3, f4, f5, f6, keep, f8, f9, f10, f11, f12⟩, ⟨⟨a1, a2⟩, ⟨a3, a4⟩, ⟨a5, a6⟩, a7, a8⟩, height, time, arr, ents, cache⟩ := s
 have h1 : cache.length ≤ 1024 := h.cache
 have c1 := drop_r (G := G) cache k (by omega) hk h.ck
 show SemC _ _ _ _ (stM ⟨⟨f1, f2, f3, f4, f5, f6, keep, f8, f9, f10, f11, f12⟩, ⟨⟨a1, a2⟩, ⟨a3, a4⟩, ⟨a5, a6⟩, a7, a8⟩, height, time, arr, ents, dropK k cache⟩)
 generalize dropK k cache = nc at *
 clear h
 dsimp only [stM, cfM, appM, lgM]
 try generalize a1.map acM = b1 at *
 try generalize a1.length = d1 at *
 try generalize a3.map acM = b3 at *
 try generalize a3.length = d3 at *
 try generalize a5.map acM = b5 at *
 try generalize a5.length = d5 at *
 refine scq seat Tryz.func122 14 ?_
 refine go1 ?_
 refine g_call2 rfl hhq rfl (c1) rfl lm ?_
 refine go1 ?_
 (refine ret_c [_] rfl (by kernel_rfl) ?_; (refine go0 ?_); exact rfl)
theorem forgetSt_r {B : Nat} (s : StS) (k : List UInt8) (h : StOk B s) (hk : k.length = 32) : SemC Tryz.prog G 119 [stM s, keyM k] (stM (forgetSt s k)) := by
 have c1 := dropSt_r (G := G) s k h hk
 obtain ⟨⟨f1, f2, f3, f4, f5, f6, keep, f8, f9, f10, f11, f12⟩, ⟨⟨a1, a2⟩, ⟨a3, a4⟩, ⟨a5, a6⟩, a7, a8⟩, height, time, arr, ents, cache⟩ := s
 cases keep with
 | true =>
  show SemC _ _ _ _ (stM ⟨⟨f1, f2, f3, f4, f5, f6, true, f8, f9, f10, f11, f12⟩, ⟨⟨a1, a2⟩, ⟨a3, a4⟩, ⟨a5, a6⟩, a7, a8⟩, height, time, arr, ents, cache⟩)
  clear c1 h
  dsimp only [stM, cfM, appM, lgM]
  try generalize a1.map acM = b1 at *
  try generalize a1.length = d1 at *
  try generalize a3.map acM = b3 at *
  try generalize a3.length = d3 at *
  try generalize a5.map acM = b5 at *
  try generalize a5.length = d5 at *
  refine scq seat Tryz.func119 12 ?_
  refine go1 ?_
  (refine ret_c [_] rfl (by kernel_rfl) ?_; (refine go0 ?_); exact rfl)
 | false =>
  show SemC _ _ _ _ (stM ⟨⟨f1, f2, f3, f4, f5, f6, false, f8, f9, f10, f11, f12⟩, ⟨⟨a1, a2⟩, ⟨a3, a4⟩, ⟨a5, a6⟩, a7, a8⟩, height, time, arr, ents, dropK k cache⟩)
  change SemC _ _ _ _ (stM ⟨⟨f1, f2, f3, f4, f5, f6, false, f8, f9, f10, f11, f12⟩, ⟨⟨a1, a2⟩, ⟨a3, a4⟩, ⟨a5, a6⟩, a7, a8⟩, height, time, arr, ents, dropK k cache⟩) at c1
  generalize dropK k cache = nc at *
  clear h
  dsimp only [stM, cfM, appM, lgM] at c1
  dsimp only [stM, cfM, appM, lgM]
  try generalize a1.map acM = b1 at *
  try generalize a1.length = d1 at *
  try generalize a3.map acM = b3 at *
  try generalize a3.length = d3 at *
  try generalize a5.map acM = b5 at *
  try generalize a5.length = d5 at *
  refine scq seat Tryz.func119 12 ?_
  refine go1 ?_
  refine g_call2 rfl hhq rfl (src (c1)) rfl lm ?_
  refine go1 ?_
  (refine ret_c [_] rfl (by kernel_rfl) ?_; (refine go0 ?_); exact rfl)
theorem leaveSt_r {B : Nat} (s : StS) (k : List UInt8) (h : StOk B s) (hB : B ≤ 100000) (hk : k.length = 32) : SemC Tryz.prog G 123 [stM s, keyM k] (.tup [stM (leaveSt s k).1, .bool (leaveSt s k).2]) := by
 have hls := h.ents
 have hek := h.entk
 clear h
 unfold leaveSt
 obtain ⟨⟨f1, f2, f3, f4, f5, f6, keep, f8, f9, f10, f11, f12⟩, ⟨⟨a1, a2⟩, ⟨a3, a4⟩, ⟨a5, a6⟩, a7, a8⟩, height, time, arr, ents, cache⟩ := s
 change ents.length ≤ B at hls
 have c1 := at_m (G := G) ents k (by omega) hk (fun e he => (hek e he).key)
 clear hek
 dsimp only
 rcases atE_spec k ents with h0 | ⟨j, hj, hlt⟩
 ·rw [h0] at c1 ⊢
  rw [if_pos (by omega)]
  dsimp only [stM, cfM, appM, lgM]
  try generalize a1.map acM = b1 at *
  try generalize a1.length = d1 at *
  try generalize a3.map acM = b3 at *
  try generalize a3.length = d3 at *
  try generalize a5.map acM = b5 at *
  try generalize a5.length = d5 at *
  refine scq seat Tryz.func123 20 ?_
  refine go1 ?_
  refine g_call2 rfl hhq rfl (src (c1)) rfl lm ?_
  refine go1 ?_
  (refine ret_c [_, _] rfl (by kernel_rfl) ?_; (refine go0 ?_); exact rfl)
 ·rw [hj] at c1 ⊢
  rw [if_neg (by omega), Int.toNat_natCast]
  have c2 := without_r (G := G) ents j hlt (by omega)
  generalize ents.take j ++ ents.drop (j + 1) = ne at *
  dsimp only [stM, cfM, appM, lgM]
  try generalize a1.map acM = b1 at *
  try generalize a1.length = d1 at *
  try generalize a3.map acM = b3 at *
  try generalize a3.length = d3 at *
  try generalize a5.map acM = b5 at *
  try generalize a5.length = d5 at *
  refine scq seat Tryz.func123 20 ?_
  refine go1 ?_
  refine g_call2 rfl hhq rfl (src (c1)) rfl lm ?_
  refine go1 ?_
  refine g_call2 rfl hhq rfl (c2) rfl lm ?_
  refine go1 ?_
  (refine ret_c [_, _] rfl (by kernel_rfl) ?_; (refine go0 ?_); exact rfl)
def isPeerS (n : Int) : Bool := decide (1 ≤ n ∧ n ≤ 15)
theorem isPeer_m (n : Int) : SemC Tryz.prog G 125 [.int .i64 n] (.bool (isPeerS n)) := by
 generalize hr : isPeerS n = R
 unfold isPeerS at hr
 refine scq seat Tryz.func125 9 ?_
 refine go1 ?_
 (refine n_grd ⟨rfl, rfl, rfl⟩ ?_ ?_ <;> intro h)
 ·have k1 := of_decide_eq_true h
  refine go1 ?_
  refine go0 ?_
  rw [← hr]
  exact congrArg MV.bool (decide_eq_decide.2 (by omega))
 ·have k1 := of_decide_eq_false h
  refine go1 ?_
  refine go0 ?_
  rw [← hr]
  exact congrArg MV.bool (decide_eq_false (by omega)).symm
def heavyS (s : StS) (gas : Nat) : Bool := decide (0 ≤ s.cfg.blkG ∧ s.cfg.blkG < gas)
theorem heavy_m {B : Nat} (s : StS) (gas : Nat) (h : StOk B s) : SemC Tryz.prog G 120 [stM s, .int .u64 gas] (.bool (heavyS s gas)) := by
 have hg := h.cfg.blkG
 clear h
 generalize hr : heavyS s gas = R
 obtain ⟨⟨f1, f2, f3, f4, f5, f6, keep, f8, f9, f10, f11, f12⟩, ⟨⟨a1, a2⟩, ⟨a3, a4⟩, ⟨a5, a6⟩, a7, a8⟩, height, time, arr, ents, cache⟩ := s
 change decide (0 ≤ f9 ∧ f9 < gas) = R at hr
 change -1 ≤ f9 ∧ f9 ≤ 1125899906842624 at hg
 have hw : 0 ≤ f9 → EqF (IntKind.u64.wrap f9) f9 := fun h0 => EqF.mk (wrapu_in _ (by omega) (by omega))
 dsimp only [stM, cfM, appM, lgM]
 try generalize a1.map acM = b1 at *
 try generalize a1.length = d1 at *
 try generalize a3.map acM = b3 at *
 try generalize a3.length = d3 at *
 try generalize a5.map acM = b5 at *
 try generalize a5.length = d5 at *
 refine scq seat Tryz.func120 17 ?_
 refine go1 ?_
 (refine n_grd ⟨rfl, rfl, rfl⟩ ?_ ?_ <;> intro h)
 ·have k1 := of_decide_eq_true h
  have hw := hw k1
  refine go1 ?_
  refine go0 ?_
  rw [← hr]
  exact congrArg MV.bool (decide_eq_decide.2 (by omega))
 ·have k1 := of_decide_eq_false h
  refine go1 ?_
  refine go0 ?_
  rw [← hr]
  exact congrArg MV.bool (decide_eq_false (by omega)).symm
end
section
mutual
theorem cln_free : ∀ {v : MV}, clnV v = true → v.idFree = true
 | .int _ _, _ => rfl
 | .bool _, _ => rfl
 | .str _, _ => rfl
 | .nilp, _ => rfl
 | .arr .., _ => rfl
 | .sl .., _ => rfl
 | .st l, h => cln_frees (v := l) h
 | .nils, h => Bool.noConfusion h
 | .nilf, h => Bool.noConfusion h
 | .nili, h => Bool.noConfusion h
 | .ptr .., h => Bool.noConfusion h
 | .gp .., h => Bool.noConfusion h
 | .ep .., h => Bool.noConfusion h
 | .ms .., h => Bool.noConfusion h
 | .fn .., h => Bool.noConfusion h
 | .ifc .., h => Bool.noConfusion h
 | .tup _, h => Bool.noConfusion h
 | .undef, h => Bool.noConfusion h
theorem cln_frees : ∀ {v : List MV}, clnVs v = true → MV.idFrees v = true
 | [], _ => rfl
 | m :: l, h => by
  unfold clnVs at h
  cases hm : clnV m with
  | false => rw [hm] at h; exact Bool.noConfusion h
  | true =>
   rw [hm] at h
   unfold MV.idFrees
   rw [cln_free hm, cln_frees h]
   rfl
end
theorem nfree_free : ∀ {v : MV}, v.idFree = true → nfree v = true
 | .tup _, h => Bool.noConfusion h
 | .undef, _ => rfl
 | .int _ _, _ => rfl
 | .bool _, _ => rfl
 | .str _, _ => rfl
 | .nilp, _ => rfl
 | .arr .., _ => rfl
 | .sl .., _ => rfl
 | .st _l, h => h
 | .nils, _ => rfl
 | .nilf, _ => rfl
 | .nili, _ => rfl
 | .ptr .., h => Bool.noConfusion h
 | .gp .., h => h
 | .ep .., h => h
 | .ms .., h => Bool.noConfusion h
 | .fn .., h => h
 | .ifc .., h => h
theorem nfrees_free : ∀ {v : List MV}, MV.idFrees v = true → nfrees v = true
 | [], _ => rfl
 | m :: l, h => by
  unfold MV.idFrees at h
  rw [Bool.and_eq_true] at h
  unfold nfrees
  rw [nfree_free h.1, nfrees_free h.2]
  rfl
theorem nfree_tup : ∀ {vs : List MV}, MV.idFrees vs = true → nfree (tupM vs) = true
 | [], _ => rfl
 | [v], h => by
  have h2 : (v.idFree && MV.idFrees []) = true := h
  rw [Bool.and_eq_true] at h2
  exact nfree_free h2.1
 | a :: b :: l, h => nfrees_free h
mutual
def dnV : MV → MV
 | .nils => .sl 0 []
 | .st l => .st (dnVs l)
 | m => m
def dnVs : List MV → List MV
 | [] => []
 | m :: l => dnV m :: dnVs l
end
mutual
def cl2V : MV → Bool
 | .nils => true
 | .st l => cl2Vs l
 | m => clnV m
def cl2Vs : List MV → Bool
 | [] => true
 | m :: l => bif cl2V m then cl2Vs l else false
end
mutual
theorem dn_rel {σ : Nat → Option Nat} {fz : Fz} : ∀ {v : MV}, cl2V v = true → relV σ fz (dnV v) v ∧ (dnV v).idFree = true
 | .nils, _ => ⟨.inr ⟨rfl, rfl⟩, rfl⟩
 | .st l, h => ⟨.inr ⟨_, rfl, (dns_rel (v := l) h).1⟩, (dns_rel (σ := σ) (fz := fz) (v := l) h).2⟩
 | .int _ _, _ => ⟨relV_self _ rfl, rfl⟩
 | .bool _, _ => ⟨relV_self _ rfl, rfl⟩
 | .str _, _ => ⟨relV_self _ rfl, rfl⟩
 | .nilp, _ => ⟨relV_self _ rfl, rfl⟩
 | .arr .., _ => ⟨relV_self _ rfl, rfl⟩
 | .sl .., _ => ⟨relV_self _ rfl, rfl⟩
 | .nilf, h => Bool.noConfusion h
 | .nili, h => Bool.noConfusion h
 | .ptr .., h => Bool.noConfusion h
 | .gp .., h => Bool.noConfusion h
 | .ep .., h => Bool.noConfusion h
 | .ms .., h => Bool.noConfusion h
 | .fn .., h => Bool.noConfusion h
 | .ifc .., h => Bool.noConfusion h
 | .tup _, h => Bool.noConfusion h
 | .undef, h => Bool.noConfusion h
theorem dns_rel {σ : Nat → Option Nat} {fz : Fz} : ∀ {v : List MV}, cl2Vs v = true → relV.relVs σ fz (dnVs v) v ∧ MV.idFrees (dnVs v) = true
 | [], _ => ⟨trivial, rfl⟩
 | m :: l, h => by
  unfold cl2Vs at h
  cases hm : cl2V m with
  | false => rw [hm] at h; exact Bool.noConfusion h
  | true =>
   rw [hm] at h
   have h1 := dn_rel (σ := σ) (fz := fz) hm
   have h2 := dns_rel (σ := σ) (fz := fz) (v := l) h
   refine ⟨⟨h1.1, h2.1⟩, ?_⟩
   unfold dnVs MV.idFrees
   rw [h1.2, h2.2]
   rfl
end
section
variable {T : Tab} {rs : List ResultVar} {M : VM} {E : VE} {n : Nat}
theorem ret_x {P : MV → Prop} (vs : List MV) (hP : P (tupM vs)) (hc : clnVs vs = true) (h1 : vRets T M E rs (fun v => v = vs)) : vRetE T 0 rs (fun r M n => (P r ∧ nfree r = true) ∧ M = [] ∧ n = 0) .ret E M n :=
 vRets_mono (fun v hv => by subst hv; exact ⟨tupM v, [], 0, ⟨⟨hP, nfree_tup (cln_frees hc)⟩, rfl, rfl⟩, v, [], [], rfl, rfl, trivial, rfl, relVs_self v (cln_frees hc), trivial⟩) h1
theorem ret_y {P : MV → Prop} (vs : List MV) (h1 : vRets T M E rs (fun v => v = vs)) (hc : cl2Vs vs = true) (hP : P (tupM (dnVs vs))) : vRetE T 0 rs (fun r M n => (P r ∧ nfree r = true) ∧ M = [] ∧ n = 0) .ret E M n :=
 vRets_mono (fun v hv => by
  subst hv
  have k := dns_rel (σ := sigA 0 []) (fz := fzb M []) hc
  exact ⟨tupM (dnVs v), [], 0, ⟨⟨hP, nfree_tup k.2⟩, rfl, rfl⟩, dnVs v, [], [], rfl, rfl, trivial, rfl, k.1, trivial⟩) h1
theorem ret_r {res : MV} (vs : List MV) (hR : tupM vs = res) (hc : clnVs vs = true) (h1 : vRets T M E rs (fun v => v = vs)) : vRetR T 0 rs res [] 0 .ret E M n :=
 vRets_mono (fun v hv => by subst hv; exact ⟨v, [], [], hR, rfl, trivial, rfl, relVs_self v (cln_frees hc), trivial⟩) h1
end
section
variable {Pg : Program} {T : Tab} {N : Nat} {ents : List FuncId} {G : GS} {ops : Array Oper} {d : Tmp} {ty : TypeId} {pos : String} {after : Array Edge} {g : Option (Nat × Bool)} {rest : List Oper} {K : VK} {E : VE} {M : VM} {n : Nat}
 {f : Operand} {args : Array Operand} {ats : Array TypeId} {f0 : FuncId} {vs : List MV} {res : MV}
theorem g_callC (hc : SemR Pg G f0 vs [] 0 res [] 0) (hd : Nat.blt d N = true) (h2 : ents.contains f0 = true) (h1 : ∀ R : FuncId × List MV → Prop, R (f0, vs) → (vArgs E f args.toList).runP R) (hf : (nfree res && MV.idFrees vs) = true)
  (h : vOpsN Pg T N ents G ops rest K ((d, res) :: E) M n) : vOpsG Pg T N ents G ops ⟨some d, .call ⟨.value f, args, ats⟩, ty, pos, after, g⟩ rest K E M n := by
 rw [Bool.and_eq_true] at hf
 exact g_call2 hd h1 h2 hc hf.1 (relVs_self vs hf.2) h
theorem g_callXC {P : MV → Prop} (hc : SemX Pg G f0 vs P) (hd : Nat.blt d N = true) (h2 : ents.contains f0 = true) (h1 : ∀ R : FuncId × List MV → Prop, R (f0, vs) → (vArgs E f args.toList).runP R) (hf : MV.idFrees vs = true)
  (h : ∀ r, P r → vOpsN Pg T N ents G ops rest K ((d, r) :: E) M n) : vOpsG Pg T N ents G ops ⟨some d, .call ⟨.value f, args, ats⟩, ty, pos, after, g⟩ rest K E M n :=
 g_callX1 hd h1 h2 hc [] trivial (relVs_self vs hf) h
variable {n0 n' : Nat} {y : Code} {Q : Exit → VK}
theorem n_reQ (E' : VE) (M' : VM) (n' : Nat) (hm : VMatch n0 E' M' n' E M) (h : vC Pg T N ents G n0 y Q E' M' n') : vOpsN Pg T N ents G ops [] (SeqQ Pg T N ents G n0 y Q .normal) E M n := Rs.re _ _ _ hm h
end
theorem gor {p q : Prop} (h : q) (s : Box q → p := by intro hq; (repeat (first | ((with_reducible apply n_load); (case hp => exact rfl); (case hc => exact rfl); (case hm => exact rfl); (case hr => exact rfl); (case hk => kernel_rfl)) | ((with_reducible apply n_store); (case hp => exact rfl); (case hy => exact rfl); (case hc => exact rfl); (case hpe => exact Nat.zero_le _); (case hm => exact rfl); (case hs => exact rfl); (case hk => kernel_rfl)) | ((with_reducible apply n_box); (case hx => exact rfl); (case ht => exact rfl); (case hk => kernel_rfl)) | ((with_reducible apply n_alloc); (case ht => exact rfl); (case hz => exact rfl); (case hk => kernel_rfl)) | ((with_reducible apply n_val); (case hb => exact rfl); (case he => exact xhv)) | ((with_reducible apply c_seqR)) | ((with_reducible apply n_app)) | ((with_reducible apply n_app0)) | ((with_reducible apply e_val); (case ho => exact rfl); (case hb => exact rfl); (case he => exact xhv)) | ((with_reducible apply d_end); (case ho => exact (show okDraw _ _ = true by kernel_rfl))) | ((with_reducible apply n_none); (case hb => exact rfl); (case he => exact xhv)) | ((with_reducible apply n_mem); (case hb => exact rfl); (case he => exact xhv)) | ((with_reducible apply n_valY); (case hs => exact rfl); (case hv => exact rfl); (case hb => exact rfl); (case he => exact xhv)) | ((with_reducible apply n_guardN); (case hs => exact rfl); (case hv => exact rfl); (case hd => exact rfl)) | ((with_reducible apply n_guardU); (case hs => exact rfl); (case hv => exact rfl); (case hd => exact rfl)) | ((with_reducible apply g_val); (case hq => exact rfl); (case hv => exact rfl); (case he => exact xhv); (case hd => exact rfl)) | ((with_reducible apply g_none); (case hq => exact rfl); (case hv => exact rfl); (case he => exact xhv)) | ((with_reducible apply g_mem); (case hq => exact rfl); (case hv => exact rfl); (case he => exact xhv); (case hd => exact rfl)) | ((with_reducible apply c_seq)) | ((with_reducible apply seqQ_n)) | ((with_reducible apply c_region)) | ((with_reducible apply c_condT); (case he => exact rfl)) | ((with_reducible apply c_condF); (case he => exact rfl)) | ((with_reducible apply c_block)) | ((with_reducible apply c_skip)) | ((with_reducible apply c_exit)) | ((with_reducible apply c_ret)) | ((with_reducible apply seqQ_x)) | ((with_reducible apply seqQ_r)) | ((with_reducible apply blockQ_n)) | ((with_reducible apply blockQ_r)) | ((with_reducible apply blockQ_x); (case hb => exact rfl)) | ((with_reducible apply blockQ_y); (case hb => exact rfl)) | ((with_reducible apply loopQ_x)) | ((with_reducible apply loopQ_r)) | ((with_reducible apply c_label)) | (with_reducible refine joinF_r (by assumption) ?_) | (with_reducible refine joinF_x (by assumption) ?_) | ((with_reducible apply e_none); (case ho => exact rfl); (case hb => exact rfl); (case he => exact xhv)) | ((with_reducible apply e_valY); (case ho => exact rfl); (case hs => exact rfl); (case hv => exact rfl); (case hb => exact rfl); (case he => exact xhv)) | ((with_reducible apply e_mem); (case ho => exact rfl); (case hb => exact rfl); (case he => exact xhv)) | ((with_reducible apply d_next)) | ((with_reducible apply d_step); (case ho => exact rfl)) | ((with_reducible apply d_guardN); (case hs => exact rfl); (case hv => exact rfl); (case hd => exact rfl)) | ((with_reducible apply d_guardU); (case hs => exact rfl); (case hv => exact rfl); (case hd => exact rfl)) | ((with_reducible apply d_guardY); (case hs => exact rfl); (case hv => exact rfl)) | ((with_reducible apply d_go)) | ((with_reducible apply gd_val); (case hv => exact rfl); (case he => exact xhv); (case hd => exact rfl)) | ((with_reducible apply gd_none); (case hv => exact rfl); (case he => exact xhv)) | ((with_reducible apply gd_mem); (case hv => exact rfl); (case he => exact xhv); (case hd => exact rfl)) | ((with_reducible apply n_guardY); (case hs => exact rfl); (case hv => exact rfl)) | ((with_reducible apply n_go)))); exact hq.out) : p := s ⟨h⟩
end
section
variable {G : GS}
attribute [local irreducible] vOpsN vOpsG vOpsD vOpGD NextD vC SeqQ BlockQ
structure RpS where
 code : Int
 key : List MV
 prio : Int
 ev : Nat × List MV
 exp : Nat × List MV
 inv : Nat × List MV
 dn : Nat × List MV
 fl : Nat × List MV
 tx : Nat × List MV
 height : Int
 dig : List MV
def rpM (r : RpS) : MV := .st [.int .i64 r.code, .arr 32 1 r.key, .int .u64 r.prio, .sl r.ev.1 r.ev.2, .sl r.exp.1 r.exp.2, .sl r.inv.1 r.inv.2, .sl r.dn.1 r.dn.2, .sl r.fl.1 r.fl.2, .sl r.tx.1 r.tx.2, .int .i64 r.height, .arr 32 1 r.dig]
theorem StOk.mono {B B' : Nat} {s : StS} (h : StOk B s) (hb : B ≤ B') : StOk B' s :=
 ⟨h.cfg, h.app, h.height, ⟨h.time.1, by have := h.time.2; omega⟩, ⟨h.arr.1, by have := h.arr.2; omega⟩, Nat.le_trans h.ents hb, fun e he => let k := h.entk e he; ⟨k.key, k.raw, k.sender, k.height, k.time, Nat.le_trans k.peers hb, k.gas⟩, h.cache, h.ck⟩
theorem head_intsP : ∀ (l : List Int), headSize (l.map (MV.int .i64)) 1 = true
 | [] => rfl
 | _ :: _ => rfl
abbrev appZ : MV := .st [lgZ, lgZ, lgZ, .bool false, .int .u64 0]
abbrev stZ : MV := .st [cfZ, appZ, .int .i64 0, .int .i64 0, .int .i64 0, .nils, .nils]
theorem seen_x {B : Nat} (s : StS) (i peer : Int) (hi : i < s.ents.length) (hs : StOk B s) (hB : B ≤ 100000) : SemX Tryz.prog G 116 [stM s, .int .i64 i, .int .i64 peer] (fun r => ∃ s', r = stM s' ∧ StOk (B + 1) s') := by
 have c1 := isPeer_m (G := G) peer
 have hls := hs.ents
 unfold SemX
 refine seq' seat Tryz.func116 47 ?_
 refine go1 ?_
 (refine n_grd ⟨rfl, rfl, rfl⟩ ?_ ?_ <;> intro h)
 ·have h0 : 0 ≤ i := by have := of_decide_eq_false h; omega
  obtain ⟨k, rfl⟩ : ∃ k : Nat, i = k := ⟨i.toNat, by omega⟩
  have hk : k < s.ents.length := by omega
  have hel := SomF.mk (ents_at hk)
  have hep := hs.entk _ (List.getElem_mem hk)
  generalize hek : s.ents[k] = e at *
  have c2 := hasInt_m (G := G) e.peers peer (by have := hep.peers; omega)
  have hpl : e.peers.length ≤ 100000 := Nat.le_trans hep.peers hB
  have hnth : SomF (nthM (s.ents.map entM) (0 + k)) (entM e) := SomF.mk (by rw [nthM_eq, Nat.zero_add]; simp [hk, hek])
  generalize isPeerS peer = bp at *
  generalize decide (peer ∈ e.peers) = bi at *
  refine go1 ?_
  refine g_callC (src (c1)) rfl rfl hhq (by kernel_rfl) ?_
  refine go1 ?_
  (refine n_grd ⟨rfl, rfl, rfl⟩ ?_ ?_ <;> intro h)
  ·refine go1 ?_
   refine g_callC (src (c2)) rfl rfl hhq (by kernel_rfl) ?_
   refine go1 ?_
   (refine c_cond rfl ?_ ?_ <;> intro h)
   ·refine go1 ?_
    (refine ret_x [_] (⟨s, rfl, hs.mono (by omega)⟩) (by kernel_rfl) ?_; (refine go0 ?_); exact rfl)
   ·refine go1 ?_
    ((with_reducible apply g_mem); (case hq => exact rfl); (case hv => exact rfl); (case he => (intro R hR; refine sms hR ?_; refine And.intro ((head_ents _)) ?_; refine And.intro ⟨rfl, app_ok (by kernel_rfl) pf⟩ ?_; refine ⟨s.ents.map entM, sv (by rfl), s.ents.length, sv pf, ?_⟩; exact hR)); (case hd => exact rfl))
    refine go1 ?_
    ((with_reducible apply g_mem); (case hq => exact rfl); (case hv => exact rfl); (case he => (intro R hR; refine sms hR ?_; refine And.intro ((head_intsP _)) ?_; refine And.intro ⟨rfl, app_ok (by kernel_rfl) pf⟩ ?_; refine ⟨e.peers.map (MV.int .i64), sv (by rfl), e.peers.length, sv pf, ?_⟩; exact hR)); (case hd => exact rfl))
    refine go1 ?_
    obtain ⟨Z, hZ⟩ : ∃ Z, Z = e.peers ++ [peer] := ⟨_, rfl⟩
    have hZl : Z.length = e.peers.length + 1 := by rw [hZ]; simp
    ((with_reducible apply g_mem); (case hq => exact rfl); (case hv => exact rfl); (case he => (intro R hR; refine sms hR ?_; (refine And.intro (Nat.le_refl _) ?_; refine ⟨_, rfl, ?_⟩; refine And.intro ⟨(by simp), app_ok (by kernel_rfl) pf⟩ ?_; refine ⟨Z.map (MV.int .i64), sv (by rw [hZ]; simp; rfl), Z.length, sv pf, ?_⟩); exact hR)); (case hd => exact rfl))
    iterate 2 (refine gos ?_)
    refine n_re ([(41, .sl Z.length (Z.map (MV.int .i64))), (43, .ptr 20 41 (0 + k) (0 + 40) ([] ++ [9])), (7, .ms 20 41 0 s.ents.length), (6, .ptr 1 25 0 0 []), (3, .ptr 0 25 0 0 [])]) ([(20, ⟨144, 41, true, 0, s.ents.map entM⟩), (1, ⟨46, 25, false, 0, [stZ]⟩), (0, ⟨46, 25, false, 0, [stM s]⟩)]) [(33, Z.length)] mm rfl mm mm ?_
    obtain ⟨e1, e2, e3, e4, e5, e6, e7, e8, e9, e10⟩ := e
    have hst : EqF (setL (s.ents.map entM) (0 + k) (entM ⟨e1, e2, e3, e4, e5, e6, e7, e8, e9, Z⟩)) ((s.ents.set k ⟨e1, e2, e3, e4, e5, e6, e7, e8, e9, Z⟩).map entM) := EqF.mk (by rw [setL_eq, Nat.zero_add, List.map_set])
    have hok : StOk (B + 1) { s with ents := s.ents.set k ⟨e1, e2, e3, e4, e5, e6, e7, e8, e9, Z⟩ } := by
     have hm := hs.mono (B' := B + 1) (by omega)
     refine ⟨hm.cfg, hm.app, hm.height, hm.time, hm.arr, by dsimp only; rw [List.length_set]; exact hm.ents, fun x hx => ?_, hm.cache, hm.ck⟩
     rcases List.mem_or_eq_of_mem_set hx with hx | rfl
     ·exact hm.entk x hx
     ·exact ⟨hep.key, hep.raw, hep.sender, hep.height, hep.time, by have := hep.peers; dsimp only at *; omega, hep.gas⟩
    have hlen : (s.ents.set k ⟨e1, e2, e3, e4, e5, e6, e7, e8, e9, Z⟩).length = s.ents.length := List.length_set ..
    generalize s.ents.set k ⟨e1, e2, e3, e4, e5, e6, e7, e8, e9, Z⟩ = W at *
    iterate 3 (refine gos ?_)
    refine n_re ([(7, .ms 20 41 0 s.ents.length), (6, .ptr 1 25 0 0 []), (3, .ptr 0 25 0 0 [])]) ([(20, ⟨144, 41, true, 0, setL (s.ents.map entM) (0 + k) (entM ⟨e1, e2, e3, e4, e5, e6, e7, e8, e9, Z⟩)⟩), (1, ⟨46, 25, false, 0, [stZ]⟩), (0, ⟨46, 25, false, 0, [stM s]⟩)]) [] trivial rfl mm mm ?_
    rw [hst.out, ← hlen]
    refine n_re ([(7, .sl W.length (W.map entM)), (6, .ptr 1 25 0 0 []), (3, .ptr 0 25 0 0 [])]) ([(1, ⟨46, 25, false, 0, [stZ]⟩), (0, ⟨46, 25, false, 0, [stM s]⟩)]) [(20, W.length)] mm rfl mm mm ?_
    refine go1 ?_
    (refine ret_x [_] (⟨{ s with ents := W }, rfl, hok⟩) (by kernel_rfl) ?_; (refine go0 ?_); exact rfl)
  ·refine go1 ?_
   (refine ret_x [_] (⟨s, rfl, hs.mono (by omega)⟩) (by kernel_rfl) ?_; (refine go0 ?_); exact rfl)
 ·refine go1 ?_
  (refine ret_x [_] (⟨s, rfl, hs.mono (by omega)⟩) (by kernel_rfl) ?_; (refine go0 ?_); exact rfl)
end
section
variable {G : GS}
attribute [local irreducible] vOpsN vOpsG vOpsD vOpGD NextD vC SeqQ BlockQ
abbrev IntP : MV → Prop := fun r => ∃ v : Int, r = .int .i64 v ∧ I64 v
theorem twelve_at (a b c d e f g h i j k l : Int) (n : Nat) (hn : n < 12) (P : Int → Prop) (hP : P a ∧ P b ∧ P c ∧ P d ∧ P e ∧ P f ∧ P g ∧ P h ∧ P i ∧ P j ∧ P k ∧ P l) : ∃ v : Int, nthM [.int .i64 a, .int .i64 b, .int .i64 c, .int .i64 d, .int .i64 e, .int .i64 f, .int .i64 g, .int .i64 h, .int .i64 i, .int .i64 j, .int .i64 k, .int .i64 l] (0 + n) = some (.int .i64 v) ∧ P v := by
 obtain ⟨h1, h2, h3, h4, h5, h6, h7, h8, h9, h10, h11, h12⟩ := hP
 have h12 : n = 0 ∨ n = 1 ∨ n = 2 ∨ n = 3 ∨ n = 4 ∨ n = 5 ∨ n = 6 ∨ n = 7 ∨ n = 8 ∨ n = 9 ∨ n = 10 ∨ n = 11 := by omega
 rcases h12 with rfl | rfl | rfl | rfl | rfl | rfl | rfl | rfl | rfl | rfl | rfl | rfl <;> exact ⟨_, rfl, by assumption⟩
theorem least_x (k : Nat) (hk : k < 12) : SemX Tryz.prog G 155 [.int .i64 k] IntP := by
 obtain ⟨v, hv, hb⟩ := twelve_at 1 1 1 0 0 0 0 1 (-1) 0 0 1 k hk I64 (by simp [I64])
 have hv := SomF.mk hv
 unfold SemX
 refine seq' seat Tryz.func155 7 ?_
 refine go1 ?_
 (refine ret_x [_] (⟨v, rfl, hb⟩) (by kernel_rfl) ?_; (refine go0 ?_); exact rfl)
theorem greatest_x (k : Nat) (hk : k < 12) : SemX Tryz.prog G 156 [.int .i64 k] IntP := by
 obtain ⟨v, hv, hb⟩ := twelve_at 512 1048576 4096 1024 1073741824 1073741824 1 1048576 1125899906842624 0 7 8 k hk I64 (by simp [I64])
 have hv := SomF.mk hv
 unfold SemX
 refine seq' seat Tryz.func156 7 ?_
 refine go1 ?_
 (refine ret_x [_] (⟨v, rfl, hb⟩) (by kernel_rfl) ?_; (refine go0 ?_); exact rfl)
theorem value_x (c : CfS) (hc : CfOk c) (k : Nat) (hk : k < 12) : SemX Tryz.prog G 154 [cfM c, .int .i64 k] IntP := by
 have h1 := hc.maxTxs
 have h2 := hc.maxBytes
 have h3 := hc.maxTx
 have h4 := hc.cache
 have h5 := hc.ttlB
 have h6 := hc.ttlT
 have h7 := hc.blkB
 have h8 := hc.blkG
 have h9 := hc.self
 have h10 := hc.nodes
 obtain ⟨v, hv, hb⟩ := twelve_at c.maxTxs c.maxBytes c.maxTx c.cache c.ttlB c.ttlT (if c.keep = true then 1 else 0) c.blkB c.blkG 0 c.self c.nodes k hk I64 (by refine ⟨?_, ?_, ?_, ?_, ?_, ?_, ?_, ?_, ?_, ?_, ?_, ?_⟩ <;> unfold I64 <;> first | omega | (split <;> omega))
 clear h1 h2 h3 h4 h5 h6 h7 h8 h9 h10 hc
 obtain ⟨f1, f2, f3, f4, f5, f6, keep, f8, f9, f10, f11, f12⟩ := c
 dsimp only [cfM]
 unfold SemX
 cases keep with
 | true =>
  have hv := SomF.mk hv
  refine seq' seat Tryz.func154 33 ?_
  refine go1 ?_
  (refine ret_x [_] (⟨v, rfl, hb⟩) (by kernel_rfl) ?_; (refine go0 ?_); exact rfl)
 | false =>
  have hv := SomF.mk hv
  refine seq' seat Tryz.func154 33 ?_
  refine go1 ?_
  (refine ret_x [_] (⟨v, rfl, hb⟩) (by kernel_rfl) ?_; (refine go0 ?_); exact rfl)
theorem keys_x : SemX Tryz.prog G 153 [] (fun r => ∃ l, r = .sl 12 l) := by
 unfold SemX
 refine seq' seat Tryz.func153 2 ?_
 refine go1 ?_
 refine ⟨_, [], 0, ⟨⟨⟨_, rfl⟩, rfl⟩, rfl, rfl⟩, [_], [], [(1, 12)], rfl, rfl, ⟨?_, trivial⟩, rfl, ⟨.inr ⟨rfl, rfl, rfl, Nat.le_refl _, rfl⟩, trivial⟩, trivial⟩
 exact Nat.le_refl 12
theorem valid_x (c : CfS) (hc : CfOk c) : SemX Tryz.prog G 110 [cfM c] IntP := by
 have c0 := keys_x (G := G)
 have c1 := value_x (G := G) c hc
 have c2 := least_x (G := G)
 have c3 := greatest_x (G := G)
 have i0 : I64 0 := by simp [I64]
 have i1 : I64 1 := by simp [I64]
 unfold SemX
 refine seq' seat Tryz.func110 33 ?_
 refine go1 ?_
 refine g_callXC (c0) rfl rfl hhq (by kernel_rfl) ?_
 rintro _ ⟨l, rfl⟩
 refine go1 ?_
 refine c_loop Nat (fun k => [(6, .int .i64 k), (5, .int .i64 12), (1, .ptr 0 12 0 0 [])]) (fun _ => [(0, ⟨37, 12, false, 0, [cfM c]⟩)]) 1 (fun k => k ≤ 12) (fun k => 12 - k) 0 (Nat.zero_le _) (vm [(0, _)] []) ?_
 rintro k hk
 try dsimp only
 refine go1 ?_
 (refine c_cond rfl ?_ ?_ <;> intro h)
 ·have hk' : k < 12 := by have := of_decide_eq_true h; omega
  have d1 := c1 k hk'
  have d2 := c2 k hk'
  have d3 := c3 k hk'
  refine go1 ?_
  (refine n_grd ⟨rfl, rfl, rfl⟩ ?_ ?_ <;> intro h)
  ·refine go1 ?_
   refine g_callXC (d1) rfl rfl hhq (by kernel_rfl) ?_
   rintro _ ⟨v1, rfl, b1⟩
   refine go1 ?_
   refine g_callXC (d2) rfl rfl hhq (by kernel_rfl) ?_
   rintro _ ⟨v2, rfl, b2⟩
   refine go1 ?_
   (refine n_grd ⟨rfl, rfl, rfl⟩ ?_ ?_ <;> intro h)
   ·refine go1 ?_
    refine g_callXC (d1) rfl rfl hhq (by kernel_rfl) ?_
    rintro _ ⟨v3, rfl, b3⟩
    refine go1 ?_
    refine g_callXC (d3) rfl rfl hhq (by kernel_rfl) ?_
    rintro _ ⟨v4, rfl, b4⟩
    refine go1 ?_
    (refine c_cond rfl ?_ ?_ <;> intro h)
    ·refine go1 ?_
     (refine ret_x [_] (⟨1, rfl, i1⟩) (by kernel_rfl) ?_; (refine go0 ?_); exact rfl)
    ·refine go1 ?_
     exact ⟨k + 1, by show k + 1 ≤ 12; omega, by show 12 - (k + 1) < 12 - k; omega, (by dsimp only; exact (vm [(0, _)] []))⟩
   ·refine go1 ?_
    (refine ret_x [_] (⟨1, rfl, i1⟩) (by kernel_rfl) ?_; (refine go0 ?_); exact rfl)
  ·refine go1 ?_
   exact ⟨k + 1, by show k + 1 ≤ 12; omega, by show 12 - (k + 1) < 12 - k; omega, (by dsimp only; exact (vm [(0, _)] []))⟩
 ·refine go1 ?_
  (refine c_cond rfl ?_ ?_ <;> intro h)
  ·refine go1 ?_
   (refine ret_x [_] (⟨1, rfl, i1⟩) (by kernel_rfl) ?_; (refine go0 ?_); exact rfl)
  ·refine go1 ?_
   (refine ret_x [_] (⟨0, rfl, i0⟩) (by kernel_rfl) ?_; (refine go0 ?_); exact rfl)
structure RsS where
 room : Int
 gas : Nat
 free : Bool
def rsM (r : RsS) : MV := .st [.int .i64 r.room, .int .u64 r.gas, .bool r.free]
def RsOk (r : RsS) : Prop := (0 ≤ r.room ∧ r.room < 9223372036854775808) ∧ U64 r.gas
def limT (b g : Int) : RsS × Bool := if b < 0 ∨ g < -1 then (⟨0, 0, false⟩, false) else (⟨b, (max g 0).toNat, decide (g < 0)⟩, true)
theorem limT_ok {b g : Int} (hb : I64 b) (hg : I64 g) : RsOk (limT b g).1 := by
 unfold I64 at hb hg
 unfold limT
 split
 ·exact ⟨⟨by simp, by simp⟩, by simp [U64]⟩
 ·exact ⟨by dsimp only; omega, by unfold U64; dsimp only; omega⟩
theorem limits_c (b g : Int) (hb : I64 b) (hg : I64 g) : SemC Tryz.prog G 166 [.int .i64 b, .int .i64 g] (.tup [rsM (limT b g).1, .bool (limT b g).2]) := by
 unfold I64 at hb hg
 generalize hr : limT b g = R
 unfold limT at hr
 obtain ⟨m, hm⟩ : ∃ m : Nat, (max g 0).toNat = m := ⟨_, rfl⟩
 have hmx := EqF.mk (show (if (0 : Int) > g then 0 else g) = (m : Int) by rw [← hm]; split <;> omega)
 have hmu : m < 18446744073709551616 := by omega
 rw [hm] at hr
 refine scq seat Tryz.func166 20 ?_
 refine go1 ?_
 (refine n_grd ⟨rfl, rfl, rfl⟩ ?_ ?_ <;> intro h)
 ·have k1 := of_decide_eq_false h
  refine go1 ?_
  (refine c_cond rfl ?_ ?_ <;> intro h)
  ·have k2 := of_decide_eq_true h
   rw [if_pos (by omega)] at hr
   subst hr
   refine go1 ?_
   (refine ret_c [_, _] rfl (by kernel_rfl) ?_; (refine go0 ?_); exact rfl)
  ·have k2 := of_decide_eq_false h
   rw [if_neg (by omega)] at hr
   subst hr
   refine go1 ?_
   (refine ret_c [_, _] rfl (by kernel_rfl) ?_; (refine go0 ?_); exact rfl)
 ·have k1 := of_decide_eq_true h
  rw [if_pos (by omega)] at hr
  subst hr
  refine go1 ?_
  (refine ret_c [_, _] rfl (by kernel_rfl) ?_; (refine go0 ?_); exact rfl)
def takeT (r : RsS) (n : Nat) (gas : Nat) : RsS × Bool := if r.room < wireB n ∨ (r.free = false ∧ r.gas < gas) then (r, false) else (⟨r.room - wireB n, if r.free = true then r.gas else r.gas - gas, r.free⟩, true)
theorem takeT_ok {r : RsS} {n gas : Nat} (h : RsOk r) : RsOk (takeT r n gas).1 := by
 unfold takeT
 split
 ·exact h
 ·rename_i hx
  obtain ⟨h1, h2⟩ := h
  unfold U64 at h2
  refine ⟨by dsimp only; omega, ?_⟩
  unfold U64
  dsimp only
  split <;> omega
theorem take_c (r : RsS) (e : Ent) (gas : Nat) (hgas : e.gas = gas) (hr : RsOk r) (he : e.raw.length ≤ 1000000) (hg : U64 gas) : SemC Tryz.prog G 168 [rsM r, entM e] (.tup [rsM (takeT r e.raw.length gas).1, .bool (takeT r e.raw.length gas).2]) := by
 generalize hR : takeT r e.raw.length gas = R
 unfold takeT at hR
 obtain ⟨room, rgas, free⟩ := r
 obtain ⟨hr1, hr2⟩ := hr
 dsimp only at hr1 hr2 hR
 unfold U64 at hr2 hg
 have c1 := wireB_m (G := G) e.raw.length (by omega)
 have hw : wireB e.raw.length ≤ 2000000 := by have := wireB_le (n := e.raw.length) (by unfold U64; omega); omega
 generalize wireB e.raw.length = n at *
 obtain ⟨e1, e2, e3, e4, e5, e6, e7, e8, e9, e10⟩ := e
 dsimp only at hgas
 subst hgas
 dsimp only [rsM]
 refine scq seat Tryz.func168 43 ?_
 refine go1 ?_
 refine g_callC (src (c1)) rfl rfl hhq (by kernel_rfl) ?_
 refine go1 ?_
 (refine n_grd ⟨rfl, rfl, rfl⟩ ?_ ?_ <;> intro h)
 ·have k1 := of_decide_eq_false h
  cases free with
  | true =>
   rw [if_neg (by simp; omega)] at hR
   subst hR
   refine go1 ?_
   (refine ret_c [_, _] rfl (by kernel_rfl) ?_; (refine go0 ?_); exact rfl)
  | false =>
   refine go1 ?_
   (refine c_cond rfl ?_ ?_ <;> intro h)
   ·have k2 := of_decide_eq_true h
    dsimp only at k2
    rw [if_pos (.inr ⟨rfl, by omega⟩)] at hR
    subst hR
    refine go1 ?_
    (refine ret_c [_, _] rfl (by kernel_rfl) ?_; (refine go0 ?_); exact rfl)
   ·have k2 := of_decide_eq_false h
    dsimp only at k2
    rw [if_neg (by simp; omega), if_neg (by simp)] at hR
    subst hR
    have hmx := EqF.mk (show IntKind.u64.wrap ((rgas : Int) - gas) = ((rgas - gas : Nat) : Int) by rw [wu64]; omega)
    refine go1 ?_
    (refine ret_c [_, _] rfl (by kernel_rfl) ?_; (refine go0 ?_); exact rfl)
 ·have k1 := of_decide_eq_true h
  rw [if_pos (.inl (by omega))] at hR
  subst hR
  refine go1 ?_
  (refine ret_c [_, _] rfl (by kernel_rfl) ?_; (refine go0 ?_); exact rfl)
end
section
variable {G : GS}
attribute [local irreducible] vOpsN vOpsG vOpsD vOpGD NextD vC SeqQ BlockQ
def befK (b e : Ent) : Prop := b.prio < e.prio ∨ (b.prio = e.prio ∧ e.order < b.order)
instance (b e : Ent) : Decidable (befK b e) := by unfold befK; exact inferInstance
def insK (e : Ent) (out : List Ent) : Nat → Nat
 | 0 => 0
 | k + 1 => match out[k]? with
  | none => k + 1
  | some b => if befK b e then insK e out k else k + 1
theorem insK_le (e : Ent) (out : List Ent) : ∀ k, insK e out k ≤ k
 | 0 => Nat.le_refl 0
 | k + 1 => by
  have := insK_le e out k
  unfold insK
  split
  ·exact Nat.le_refl _
  ·split <;> omega
theorem insK_at {e b : Ent} {out : List Ent} {k : Nat} (h : out[k]? = some b) : insK e out (k + 1) = if befK b e then insK e out k else k + 1 := by
 show (match out[k]? with | none => k + 1 | some b => if befK b e then insK e out k else k + 1) = _
 rw [h]
def sortG : List Ent → List Ent → List Ent
 | [], out => out
 | e :: r, out => sortG r (out.take (insK e out out.length) ++ e :: out.drop (insK e out out.length))
def sortE (l : List Ent) : List Ent := sortG l []
theorem sortG_len : ∀ (l out : List Ent), (sortG l out).length = l.length + out.length
 | [], out => by simp [sortG]
 | e :: r, out => by
  have hk := insK_le e out out.length
  rw [sortG, sortG_len r, List.length_append, List.length_cons, List.length_take, List.length_drop, List.length_cons]
  omega
theorem sortG_mem : ∀ (l out : List Ent), ∀ x ∈ sortG l out, x ∈ l ∨ x ∈ out
 | [], out => fun x hx => .inr hx
 | e :: r, out => fun x hx => by
  rcases sortG_mem r _ x hx with h | h
  ·exact .inl (List.mem_cons_of_mem _ h)
  ·rcases List.mem_append.1 h with h | h
   ·exact .inr (List.mem_of_mem_take h)
   ·rcases List.mem_cons.1 h with rfl | h
    ·exact .inl (List.mem_cons_self ..)
    ·exact .inr (List.mem_of_mem_drop h)
theorem sortE_len (l : List Ent) : (sortE l).length = l.length := by unfold sortE; rw [sortG_len]; simp
theorem sortE_mem (l : List Ent) : ∀ x ∈ sortE l, x ∈ l := fun x hx => by
 rcases sortG_mem l [] x hx with h | h
 ·exact h
 ·exact absurd h (by simp)
theorem sorted_r (l : List Ent) (hl : l.length < 1000000) : SemR Tryz.prog G 167 [.sl l.length (l.map entM)] [] 0 (.sl l.length ((sortE l).map entM)) [] 0 := by
 have hlen := sortE_len l
 generalize hR : sortE l = R at *
 unfold sortE at hR
 refine srq seat Tryz.func167 66 ?_
 refine go1 ?_
 refine c_loop (Nat × List Ent) (fun x => [(9, .int .i64 x.1), (8, .int .i64 l.length), (7, .sl l.length (l.map entM)), (3, .sl x.2.length (x.2.map entM))]) (fun _ => []) 0 (fun x => x.1 ≤ l.length ∧ x.2.length = x.1 ∧ sortG (l.drop x.1) x.2 = R) (fun x => l.length - x.1) (0, []) ⟨Nat.zero_le _, rfl, by rw [List.drop_zero]; exact hR⟩ (by dsimp only; exact (vm [] [])) ?_
 rintro ⟨i, out⟩ ⟨hi, hol, hI⟩
 try dsimp only
 dsimp only at hi hol hI
 refine go1 ?_
 (refine c_cond rfl ?_ ?_ <;> intro h)
 ·have hi' : i < l.length := by have := of_decide_eq_true h; omega
  have hel := ents_at hi'
  rw [List.drop_eq_getElem_cons hi', sortG] at hI
  generalize l[i] = e at *
  have hel := SomF.mk hel
  have hKle := insK_le e out out.length
  obtain ⟨K, hK⟩ : ∃ K, insK e out out.length = K := ⟨_, rfl⟩
  rw [hK] at hKle hI
  refine go1 ?_
  refine q_joinB Nat (fun k => [(6, .int .i64 k), (5, .ptr 0 41 0 0 []), (9, .int .i64 i), (8, .int .i64 l.length), (7, .sl l.length (l.map entM)), (3, .sl out.length (out.map entM))]) (fun _ => [(0, ⟨144, 41, false, 0, [entM e]⟩)]) (fun _ => 1) (fun k => k = K) (fun JQ hj => ?_) (fun k hki => ?_)
  ·refine c_loop Nat (fun k => [(6, .int .i64 k), (5, .ptr 0 41 0 0 []), (9, .int .i64 i), (8, .int .i64 l.length), (7, .sl l.length (l.map entM)), (3, .sl out.length (out.map entM))]) (fun _ => [(0, ⟨144, 41, false, 0, [entM e]⟩)]) 1 (fun k => k ≤ out.length ∧ insK e out k = K) (fun k => k) out.length ⟨Nat.le_refl _, hK⟩ (vm [(0, _)] []) ?_
   rintro k ⟨hki, hKk⟩
   try dsimp only
   have hk1 : 0 < k → ∃ b, out[k - 1]? = some b ∧ SomF (idxL (out.map entM) out.length ((k : Int) - 1)) (entM b) := fun hk0 => by
    have hk' : k - 1 < out.length := by omega
    have := ents_at hk'
    rw [show ((k - 1 : Nat) : Int) = (k : Int) - 1 by omega] at this
    exact ⟨_, List.getElem?_eq_getElem hk', SomF.mk this⟩
   refine go1 ?_
   refine c_draw [(0, false), (1, false), (2, false), (3, false), (4, false), (5, false), (6, false), (7, false), (8, false), (9, false), (10, false), (11, false), (12, false), (13, false), (14, false), (15, false), (16, false), (17, false), (18, false), (19, false), (20, false), (21, false), (22, false), (23, false), (24, false), (25, false), (26, false), (27, false), (28, false), (29, false), (30, false), (31, false), (32, false), (33, false), (34, false)] ?_
   refine go1 ?_
   ((with_reducible apply d_guard); (case hs => exact rfl); (case hv => exact rfl); (case hd => exact rfl); (all_goals intro h))
   ·have hk0 : 0 < k := by have := of_decide_eq_true h; omega
    obtain ⟨b, hob, hrow⟩ := hk1 hk0
    obtain ⟨j, rfl⟩ : ∃ j, k = j + 1 := ⟨k - 1, by omega⟩
    clear hk1
    rw [Nat.add_sub_cancel] at hob
    rw [insK_at hob] at hKk
    have hT : (b.prio < e.prio ∨ (b.prio = e.prio ∧ e.order < b.order)) → insK e out j = K := fun hc => (if_pos (c := befK b e) hc).symm.trans hKk
    have hF : ¬ (b.prio < e.prio ∨ (b.prio = e.prio ∧ e.order < b.order)) → j + 1 = K := fun hc => (if_neg (c := befK b e) hc).symm.trans hKk
    clear hK hI hob hKk
    obtain ⟨b1, b2, b3, b4, b5, b6, b7, b8, b9, b10⟩ := b
    obtain ⟨e1, e2, e3, e4, e5, e6, e7, e8, e9, e10⟩ := e
    unfold entM at hrow ⊢
    dsimp only at hrow hT hF ⊢
    refine go1 ?_
    ((with_reducible apply d_guard); (case hs => exact rfl); (case hv => exact rfl); (case hd => exact rfl); (all_goals intro h))
    ·have q1 := of_decide_eq_false h
     refine go1 ?_
     ((with_reducible apply d_guard); (case hs => exact rfl); (case hv => exact rfl); (case hd => exact rfl); (all_goals intro h))
     ·have q2 := of_decide_eq_true h
      refine go1 ?_
      (refine c_cond rfl ?_ ?_ <;> intro h)
      ·have q3 := of_decide_eq_true h
       refine go1 ?_
       exact ⟨j, ⟨by show j ≤ out.length; omega, hT (by omega)⟩, by show j < j + 1; omega, (by dsimp only; exact (vm [(0, _)] []))⟩
      ·have q3 := of_decide_eq_false h
       refine go1 ?_
       exact hj.nrm (j + 1) (hF (by omega)) (vm [(0, _)] [])
     ·have q2 := of_decide_eq_false h
      refine go1 ?_
      exact hj.nrm (j + 1) (hF (by omega)) (vm [(0, _)] [])
    ·have q1 := of_decide_eq_true h
     refine go1 ?_
     exact ⟨j, ⟨by show j ≤ out.length; omega, hT (by omega)⟩, by show j < j + 1; omega, (by dsimp only; exact (vm [(0, _)] []))⟩
   ·have hk0 : k = 0 := by have := of_decide_eq_false h; omega
    refine go1 ?_
    exact hj.nrm k (by rw [← hKk, hk0]; rfl) (vm [(0, _)] [])
  ·subst hki
   obtain ⟨Z, hZ⟩ : ∃ Z, out.take k ++ e :: out.drop k = Z := ⟨_, rfl⟩
   have hki : k ≤ out.length := hKle
   have hZl : Z.length = out.length + 1 := by rw [← hZ]; simp; omega
   rw [hZ] at hI
   have fb1 := SomF.mk (bndHi (n := out.length) (k := k) (κ := .i64) hki)
   have fb2 := SomF.mk (bndLo (n := out.length) (k := k) (κ := .i64) hki)
   have fb3 := SideF.mk (head_ents out)
   clear hK
   try dsimp only
   refine go1 ?_
   refine c_draw [(0, false), (1, false), (2, false), (3, false), (4, false), (5, false), (6, false), (7, false), (8, false), (9, false), (10, false), (11, false), (12, false)] ?_
   refine go1 ?_
   ((with_reducible apply gd_mem); (case hv => exact rfl); (case he => (intro R hR; refine sms hR ?_; refine And.intro ((by show headSize (cutL _ 0 k) 41 = true; rw [cut_take]; exact head_ents _)) ?_; refine And.intro ⟨rfl, app_ok (by kernel_rfl) pf⟩ ?_; refine ⟨(out.take k).map entM, sv (by show [] ++ cutL _ 0 k = _; rw [List.nil_append, cut_take]), k, sv pf, ?_⟩; exact hR)); (case hd => exact rfl))
   refine go1 ?_
   ((with_reducible apply gd_mem); (case hv => exact rfl); (case he => (intro R hR; refine sms hR ?_; (refine And.intro (Nat.le_refl _) ?_; refine ⟨_, rfl, ?_⟩; refine And.intro ⟨(by simp <;> omega), app_ok (by kernel_rfl) pf⟩ ?_; refine ⟨(out.take k ++ [e]).map entM, sv (by rw [List.map_append]; rfl), k+1, sv pf, ?_⟩); exact hR)); (case hd => exact rfl))
   refine go1 ?_
   ((with_reducible apply gd_mem); (case hv => exact rfl); (case he => (intro R hR; refine sms hR ?_; refine And.intro ((by show headSize (cutL _ k out.length) 41 = true; rw [cut_drop]; exact head_ents _)) ?_; refine And.intro ⟨(by simp <;> omega), app_ok (by kernel_rfl) pf⟩ ?_; refine ⟨Z.map entM, sv (by rw [← hZ]; show _ ++ cutL _ k out.length = _; rw [cut_drop]; simp), Z.length, sv pf, ?_⟩; exact hR)); (case hd => exact rfl))
   refine go1 ?_
   exact ⟨(i + 1, Z), ⟨by dsimp only; omega, by dsimp only; omega, hI⟩, by dsimp only; omega, (by dsimp only; exact (vm [] [(12, Z.length)]))⟩
 ·have hi' : i = l.length := by have := of_decide_eq_false h; omega
  subst hi'
  rw [List.drop_length] at hI
  have hI : out = R := hI
  subst hI
  refine go1 ?_
  rw [← hol]
  (refine ret_r [_] rfl (by kernel_rfl) ?_; (refine go0 ?_); exact rfl)
end
section
variable {G : GS}
attribute [local irreducible] vOpsN vOpsG vOpsD vOpGD NextD vC SeqQ BlockQ
theorem selG_sub (p s t m : Int) : ∀ (O : List Ent) (c b : Int), ∀ e ∈ (selG p s t m O c b).1, e ∈ O
 | [], c, b => by simp [selG]
 | x :: O, c, b => by
  unfold selG
  split
  ·simp
  ·have ih := selG_sub p s t m O (c - 1) (b - x.raw.length)
   generalize selG p s t m O (c - 1) (b - x.raw.length) = r at *
   obtain ⟨v, c', b'⟩ := r
   intro e he
   rcases List.mem_cons.1 he with rfl | he
   ·exact List.mem_cons_self ..
   ·exact List.mem_cons_of_mem _ (ih e he)
theorem selG_len (p s t m : Int) : ∀ (O : List Ent) (c b : Int), (selG p s t m O c b).1.length ≤ O.length
 | [], c, b => by simp [selG]
 | x :: O, c, b => by
  unfold selG
  split
  ·simp
  ·have ih := selG_len p s t m O (c - 1) (b - x.raw.length)
   generalize selG p s t m O (c - 1) (b - x.raw.length) = r at *
   obtain ⟨v, c', b'⟩ := r
   simp only [List.length_cons]
   dsimp only at ih
   omega
theorem selS_ok (p s t m : Int) (l : List Ent) (hk : ∀ e ∈ l, e.key.length = 32) : Key32 (selS p s t m l).1 ∧ (selS p s t m l).1.length ≤ l.length := by
 have h1 := selG_sub p s t m (orderS l) l.length (bytesS l)
 have h2 := selG_len p s t m (orderS l) l.length (bytesS l)
 rw [order_len] at h2
 unfold selS
 generalize selG p s t m (orderS l) l.length (bytesS l) = r at *
 obtain ⟨v, c, b⟩ := r
 dsimp only at *
 split
 ·refine ⟨fun x hx => ?_, by simpa using h2⟩
  obtain ⟨e, he, rfl⟩ := List.mem_map.1 hx
  exact hk e ((order_perm l).mem_iff.1 (h1 e he))
 ·exact ⟨fun x hx => absurd hx (List.not_mem_nil), Nat.zero_le _⟩
abbrev k0 : List MV := u8s (List.replicate 32 0)
abbrev rpZ : MV := .st [.int .i64 0, .arr 32 1 k0, .int .u64 0, .nils, .nils, .nils, .nils, .nils, .nils, .int .i64 0, .arr 32 1 k0]
theorem pcheck_x {B : Nat} (s : StS) (raw : List UInt8) (peer : Int) (hraw : raw.length ≤ 1000000) (hs : StOk B s) (hB : B ≤ 100000) : SemX Tryz.prog G 73 [stM s, .sl raw.length (u8s raw), .int .i64 peer] (fun r => ∃ s' rp, r = .tup [stM s', rpM rp] ∧ StOk (B + 1) s') := by
 have hm1 := hs.mono (B' := B + 1) (by omega)
 have hmx := hs.cfg.maxTx
 have hmt := hs.cfg.maxTxs
 have hmb := hs.cfg.maxBytes
 have c1 := wireB_m (G := G) raw.length (by omega)
 have c2 := sha_m (G := G) raw (by omega)
 have hk32 : (shaS raw).length = 32 := shaS_len raw
 generalize shaS raw = key at *
 have c3 := at_m (G := G) s.ents key (by have := hs.ents; omega) hk32 (fun e he => (hs.entk e he).key)
 have c4 := has_m (G := G) s.cache key (by have := hs.cache; omega) hk32 hs.ck
 have c5 := pushSt_r (G := G) s key hs hk32
 have hpo := pushSt_ok (B := B) hs hk32
 have c6 : ∀ {i : Int}, i < s.ents.length → SemX Tryz.prog G 116 [stM (pushSt s key), .int .i64 i, .int .i64 peer] (fun r => ∃ s', r = stM s' ∧ StOk (B + 1) s') := fun hi => seen_x (pushSt s key) _ peer hi hpo hB
 have hi := atE_spec key s.ents
 have hil : atE key s.ents < s.ents.length := by omega
 generalize atE key s.ents = i at *
 unfold SemX
 refine seq' seat Tryz.func73 163 ?_
 refine go1 ?_
 (refine c_cond rfl ?_ ?_ <;> intro h)
 ·refine go1 ?_
  (refine ret_y [_, _] (by (refine go0 ?_); exact rfl) (by kernel_rfl) (⟨s, ⟨_, _, _, (_, _), (_, _), (_, _), (_, _), (_, _), (_, _), _, _⟩, rfl, hm1⟩))
 ·have hr := of_decide_eq_false h
  clear hi
  refine go1 ?_
  refine c_draw [(0, false), (1, false), (2, true), (3, false), (4, false), (5, false), (6, false)] ?_
  refine go1 ?_
  refine gd_call1 rfl hhq rfl [] (src (c1)) rfl [] trivial (relVs_self _ (by kernel_rfl)) rfl ?_
  refine go1 ?_
  (refine c_cond rfl ?_ ?_ <;> intro h)
  ·refine go1 ?_
   (refine ret_y [_, _] (by (refine go0 ?_); exact rfl) (by kernel_rfl) (⟨s, ⟨_, _, _, (_, _), (_, _), (_, _), (_, _), (_, _), (_, _), _, _⟩, rfl, hm1⟩))
  ·refine go1 ?_
   refine g_callC (src (c2)) rfl rfl hhq (by kernel_rfl) ?_
   refine go1 ?_
   refine g_callC (src (c3)) rfl rfl hhq (by kernel_rfl) ?_
   refine go1 ?_
   have hcase : (¬ 0 ≤ i ∧ ¬ 0 ≤ posK key s.cache 0) ∨ (0 ≤ i ∨ 0 ≤ posK key s.cache 0) := by omega
   rcases hcase with ⟨hc1, hc2⟩ | hc
   ·rw [decide_eq_false hc2] at c4
    (refine n_grd ⟨rfl, rfl, rfl⟩ ?_ ?_ <;> intro h)
    rotate_left
    ·exact absurd (of_decide_eq_true h) (by omega)
    refine go1 ?_
    refine g_callC (src (c4)) rfl rfl hhq (by kernel_rfl) ?_
    refine go1 ?_
    refine g_callC (src (c5)) rfl rfl hhq (by kernel_rfl) ?_
    clear c6 c5 c4 c3 c2 c1
    generalize pushSt s key = s1 at *
    have hm2 := hpo.mono (B' := B + 1) (by omega)
    have d1 := check_r (G := G) s1.app raw hpo.app hraw
    have hres : SmRes (checkS s1.app raw) := (txS_sm hpo.app.2.1).2
    generalize checkS s1.app raw = r at *
    have d2 := forgetSt_r (G := G) s1 key hpo hk32
    have hf2 := (forgetSt_ok (k := key) hpo).mono (B' := B + 1) (by omega)
    generalize forgetSt s1 key = sf at *
    have d3 := heavy_m (G := G) s1 r.gas hpo
    have hmt := hpo.cfg.maxTxs
    have hmb := hpo.cfg.maxBytes
    have d4 := rselect_r (G := G) s1.ents (by have := hpo.ents; omega) (fun e he => by have := (hpo.entk e he).raw; omega) r.prio raw.length s1.cfg.maxTxs s1.cfg.maxBytes (by omega) (by omega)
    have hsel := selS_ok r.prio raw.length s1.cfg.maxTxs s1.cfg.maxBytes s1.ents (fun e he => (hpo.entk e he).key)
    have d5 := dropSt_r (G := G) s1 key hpo hk32
    have hd5 := (dropSt_ok (k := key) hpo).mono (B' := B + 1) (by omega)
    generalize dropSt s1 key = sd at *
    unfold selM at d4
    generalize selS r.prio raw.length s1.cfg.maxTxs s1.cfg.maxBytes s1.ents = sel at *
    obtain ⟨ks, okk⟩ := sel
    dsimp only at d4 hsel
    refine gor ?_
    refine n_reQ ([(1, .sl raw.length (u8s raw)), (2, .int .i64 peer), (3, .ptr 0 25 0 0 []), (6, .ptr 1 25 0 0 []), (7, .ptr 2 73 0 0 []), (8, .ptr 3 32 0 0 [])]) ([(0, ⟨46, 25, false, 0, [stM s1]⟩), (1, ⟨46, 25, false, 0, [stZ]⟩), (2, ⟨107, 73, false, 0, [rpZ]⟩), (3, ⟨25, 32, false, 0, [keyM key]⟩)]) (4) (vm [(0, _), (1, _), (2, _), (3, _)] []) ?_
    refine go1 ?_
    refine g_callC (src (d1)) rfl rfl hhq (by kernel_rfl) ?_
    refine go1 ?_
    (refine c_cond rfl ?_ ?_ <;> intro h)
    ·refine go1 ?_
     refine c_draw [(0, false), (1, false), (2, true), (3, false), (4, false), (5, false), (6, false), (7, false)] ?_
     refine go1 ?_
     refine gd_call1 rfl hhq rfl [] (src (d2)) rfl [] trivial (relVs_self _ (by kernel_rfl)) rfl ?_
     refine go1 ?_
     (refine ret_y [_, _] (by (refine go0 ?_); exact rfl) (by kernel_rfl) (⟨sf, ⟨_, _, _, (_, _), (_, _), (_, _), (_, _), (_, _), (_, _), _, _⟩, rfl, hf2⟩))
    ·refine go1 ?_
     refine g_callC (src (d3)) rfl rfl hhq (by kernel_rfl) ?_
     refine go1 ?_
     (refine c_cond rfl ?_ ?_ <;> intro h)
     ·refine go1 ?_
      refine g_callC (src (d2)) rfl rfl hhq (by kernel_rfl) ?_
      refine go1 ?_
      (refine ret_y [_, _] (by (refine go0 ?_); exact rfl) (by kernel_rfl) (⟨sf, ⟨_, _, _, (_, _), (_, _), (_, _), (_, _), (_, _), (_, _), _, _⟩, rfl, hf2⟩))
     ·refine go1 ?_
      refine g_callC (d4) rfl rfl hhq (by kernel_rfl) ?_
      refine go1 ?_
      (refine c_cond rfl ?_ ?_ <;> intro h)
      ·refine go1 ?_
       refine g_callC (src (d5)) rfl rfl hhq (by kernel_rfl) ?_
       refine go1 ?_
       (refine ret_y [_, _] (by (refine go0 ?_); exact rfl) (by kernel_rfl) (⟨sd, ⟨_, _, _, (_, _), (_, _), (_, _), (_, _), (_, _), (_, _), _, _⟩, rfl, hd5⟩))
      ·obtain ⟨hk, hkl⟩ := hsel
       clear d1 d2 d3 d4 d5
       have hkb : ks.length ≤ 100000 := by have := hpo.ents; omega
       refine go1 ?_
       refine c_loop (Nat × StS) (fun x => [(102, .int .i64 x.1), (101, .int .i64 ks.length), (100, .sl ks.length (ks.map keyM)), (11, .sl ks.length (ks.map keyM)), (1, .sl raw.length (u8s raw)), (2, .int .i64 peer), (3, .ptr 0 25 0 0 []), (6, .ptr 1 25 0 0 []), (7, .ptr 2 73 0 0 []), (8, .ptr 3 32 0 0 []), (10, .ptr 4 5 0 0 [])]) (fun x => [(0, ⟨46, 25, false, 0, [stM x.2]⟩), (1, ⟨46, 25, false, 0, [stZ]⟩), (2, ⟨107, 73, false, 0, [rpZ]⟩), (3, ⟨25, 32, false, 0, [keyM key]⟩), (4, ⟨76, 5, false, 0, [resM r]⟩)]) 5 (fun x => x.1 ≤ ks.length ∧ StOk B x.2) (fun x => ks.length - x.1) (0, s1) ⟨Nat.zero_le _, hpo⟩ (by dsimp only; exact (vm [(0, _), (1, _), (2, _), (3, _), (4, _)] [])) ?_
       rintro ⟨k, s2⟩ ⟨hki, hs2⟩
       try dsimp only
       dsimp only at hki hs2
       refine go1 ?_
       (refine c_cond rfl ?_ ?_ <;> intro h)
       ·have hk' : k < ks.length := by have := of_decide_eq_true h; omega
        have hel := SomF.mk (keys_at hk')
        have hkk := hk _ (List.getElem_mem hk')
        generalize ks[k] = q at *
        have e1 := leaveSt_r (G := G) s2 q hs2 hB hkk
        have o1 := leaveSt_ok (k := q) hs2
        generalize leaveSt s2 q = lv at *
        obtain ⟨s3, b3⟩ := lv
        dsimp only at e1 o1
        have e2 := dropSt_r (G := G) s3 q o1 hkk
        have o2 := dropSt_ok (k := q) o1
        generalize dropSt s3 q = s4 at *
        refine go1 ?_
        refine g_callC (src (e1)) rfl rfl hhq (by kernel_rfl) ?_
        refine go1 ?_
        refine g_callC (src (e2)) rfl rfl hhq (by kernel_rfl) ?_
        refine go1 ?_
        exact ⟨(k + 1, s4), ⟨by dsimp only; omega, o2⟩, by dsimp only; omega, (by dsimp only; exact (vm [(0, _), (1, _), (2, _), (3, _), (4, _)] []))⟩
       ·have e3 := accept_m (G := G) s2.app raw hs2.app hraw
        have o3 : StOk B { s2 with app := acceptS s2.app raw } := ⟨hs2.cfg, acceptS_sm hs2.app, hs2.height, hs2.time, hs2.arr, hs2.ents, hs2.entk, hs2.cache, hs2.ck⟩
        generalize acceptS s2.app raw = a3 at *
        refine go1 ?_
        refine g_callC (src (e3)) rfl rfl hhq (by kernel_rfl) ?_
        refine gor ?_
        refine n_reQ ([(1, .sl raw.length (u8s raw)), (2, .int .i64 peer), (3, .ptr 0 25 0 0 []), (6, .ptr 1 25 0 0 []), (7, .ptr 2 73 0 0 []), (8, .ptr 3 32 0 0 []), (10, .ptr 4 5 0 0 []), (11, .sl ks.length (ks.map keyM))]) ([(0, ⟨46, 25, false, 0, [stM { s2 with app := a3 }]⟩), (1, ⟨46, 25, false, 0, [stZ]⟩), (2, ⟨107, 73, false, 0, [rpZ]⟩), (3, ⟨25, 32, false, 0, [keyM key]⟩), (4, ⟨76, 5, false, 0, [resM r]⟩)]) (5) (vm [(0, _), (1, _), (2, _), (3, _), (4, _)] []) ?_
        generalize { s2 with app := a3 } = s3 at *
        have e4 := isPeer_m (G := G) peer
        generalize isPeerS peer = bp at *
        refine go1 ?_
        refine c_draw [(0, false), (1, false), (2, false), (3, false), (4, false), (5, false), (6, false), (7, false), (8, false), (9, false), (10, false), (11, false), (12, false), (13, false), (14, false), (15, false), (16, false), (17, false), (18, false), (19, false), (20, false)] ?_
        refine go1 ?_
        ((with_reducible apply gd_mem); (case hv => exact rfl); (case he => (intro R hR; refine sms hR ?_; refine And.intro ((head_b raw)) ?_; refine And.intro ⟨rfl, app_ok (by kernel_rfl) pf⟩ ?_; refine ⟨u8s raw, sv (by show [] ++ u8s raw = _; rw [List.nil_append]), raw.length, sv pf, ?_⟩; exact hR)); (case hd => exact rfl))
        refine go1 ?_
        refine g_callC (src (e4)) rfl rfl hhq (by kernel_rfl) ?_
        refine q_joinN (List Int) (fun ps => [(3, .ptr 0 25 0 0 []), (6, .ptr 1 25 0 0 []), (7, .ptr 2 73 0 0 []), (8, .ptr 3 32 0 0 []), (10, .ptr 4 5 0 0 []), (11, .sl ks.length (ks.map keyM)), (15, .ptr 5 41 0 0 [])]) (fun ps => [(0, ⟨46, 25, false, 0, [stM s3]⟩), (1, ⟨46, 25, false, 0, [stZ]⟩), (2, ⟨107, 73, false, 0, [rpZ]⟩), (3, ⟨25, 32, false, 0, [keyM key]⟩), (4, ⟨76, 5, false, 0, [resM r]⟩), (5, ⟨144, 41, false, 0, [entM ⟨key, raw, r.sender, r.seq, r.gas, r.prio, s3.height, s3.time, s3.arr, ps⟩]⟩)]) (fun _ => 6) (fun ps => ps.length ≤ 1) (fun JQ hj => ?_) (fun ps hps => ?_)
        ·refine go1 ?_
         (refine c_cond rfl ?_ ?_ <;> intro h)
         ·refine go1 ?_
          exact hj.nrm [peer] (Nat.le_refl 1) (vm [(0, _), (1, _), (2, _), (3, _), (4, _), (5, _)] [(8, raw.length), (28, 1)])
         ·refine go1 ?_
          exact hj.nrm [] (Nat.zero_le 1) (vm [(0, _), (1, _), (2, _), (3, _), (4, _), (5, _)] [(8, raw.length)])
        ·generalize hen : (⟨key, raw, r.sender, r.seq, r.gas, r.prio, s3.height, s3.time, s3.arr, ps⟩ : Ent) = en
         have hs4 : StOk (B + 1) { s3 with ents := s3.ents ++ [en], arr := s3.arr + 1 } := by
          have hm := o3.mono (B' := B + 1) (by omega)
          have ha := o3.arr
          refine ⟨hm.cfg, hm.app, hm.height, hm.time, by dsimp only; omega, by have := o3.ents; dsimp only; rw [List.length_append, List.length_singleton]; omega, fun x hx => ?_, hm.cache, hm.ck⟩
          rcases List.mem_append.1 hx with hx | hx
          ·exact hm.entk x hx
          ·obtain rfl := List.mem_singleton.1 hx
           rw [← hen]
           have := o3.height
           have := o3.time
           have := hs.cfg.maxTx
           exact ⟨hk32, by dsimp only; omega, hres.2.1, by dsimp only; omega, by dsimp only; omega, by dsimp only; omega, by have := hres.2.2.2.1; unfold U64 at this; dsimp only; omega⟩
         have hen9 : s3.ents.length ≤ 100000 := by have := o3.ents; omega
         have hra := o3.arr
         obtain ⟨W, hW⟩ : ∃ W, W = s3.ents ++ [en] := ⟨_, rfl⟩
         have hWl : W.length = s3.ents.length + 1 := by rw [hW]; simp
         rw [← hW] at hs4
         try dsimp only
         refine go1 ?_
         refine c_draw [(0, false), (1, false), (2, false), (3, false), (4, false), (5, false), (6, false), (7, false), (8, false)] ?_
         refine go1 ?_
         ((with_reducible apply gd_mem); (case hv => exact rfl); (case he => (intro R hR; refine sms hR ?_; refine And.intro ((head_ents _)) ?_; refine And.intro ⟨rfl, app_ok (by kernel_rfl) pf⟩ ?_; refine ⟨s3.ents.map entM, sv (by rfl), s3.ents.length, sv pf, ?_⟩; exact hR)); (case hd => exact rfl))
         refine go1 ?_
         ((with_reducible apply gd_mem); (case hv => exact rfl); (case he => (intro R hR; refine sms hR ?_; (refine And.intro (Nat.le_refl _) ?_; refine ⟨_, rfl, ?_⟩; refine And.intro ⟨(by simp), app_ok (by kernel_rfl) pf⟩ ?_; refine ⟨W.map entM, sv (by rw [hW]; simp; rfl), W.length, sv pf, ?_⟩); exact hR)); (case hd => exact rfl))
         refine gor ?_
         refine n_reQ ([(3, .ptr 0 25 0 0 []), (6, .ptr 1 25 0 0 []), (7, .ptr 2 73 0 0 []), (8, .ptr 3 32 0 0 []), (10, .ptr 4 5 0 0 []), (11, .sl ks.length (ks.map keyM))]) ([(0, ⟨46, 25, false, 0, [stM { s3 with ents := W, arr := s3.arr + 1 }]⟩), (1, ⟨46, 25, false, 0, [stZ]⟩), (2, ⟨107, 73, false, 0, [rpZ]⟩), (3, ⟨25, 32, false, 0, [keyM key]⟩), (4, ⟨76, 5, false, 0, [resM r]⟩)]) (5) (vm [(0, _), (1, _), (2, _), (3, _), (4, _)] [(12, W.length)]) ?_
         generalize { s3 with ents := W, arr := s3.arr + 1 } = s5 at *
         refine go1 ?_
         refine c_draw [(0, false), (1, false), (2, false), (3, false), (4, false), (5, false), (6, false), (7, false)] ?_
         refine go1 ?_
         (refine ret_y [_, _] (by (refine go0 ?_); exact rfl) (by kernel_rfl) (⟨s5, ⟨_, _, _, (_, _), (_, _), (_, _), (_, _), (_, _), (_, _), _, _⟩, rfl, hs4⟩))
   ·clear c1 c2 c3
    by_cases hi0 : 0 ≤ i
    ·clear c4
     (refine n_grd ⟨rfl, rfl, rfl⟩ ?_ ?_ <;> intro h)
     ·exact absurd (of_decide_eq_false h) (by omega)
     refine go1 ?_
     refine g_callC (src (c5)) rfl rfl hhq (by kernel_rfl) ?_
     refine go1 ?_
     refine g_callXC (c6 hil) rfl rfl hhq (by kernel_rfl) ?_
     rintro _ ⟨s', rfl, hs'⟩
     refine go1 ?_
     (refine ret_y [_, _] (by (refine go0 ?_); exact rfl) (by kernel_rfl) (⟨s', ⟨_, _, _, (_, _), (_, _), (_, _), (_, _), (_, _), (_, _), _, _⟩, rfl, hs'⟩))
    ·rw [decide_eq_true (by omega)] at c4
     (refine n_grd ⟨rfl, rfl, rfl⟩ ?_ ?_ <;> intro h)
     rotate_left
     ·exact absurd (of_decide_eq_true h) (by omega)
     refine go1 ?_
     refine g_callC (src (c4)) rfl rfl hhq (by kernel_rfl) ?_
     refine go1 ?_
     refine g_callC (src (c5)) rfl rfl hhq (by kernel_rfl) ?_
     refine go1 ?_
     refine g_callXC (c6 hil) rfl rfl hhq (by kernel_rfl) ?_
     rintro _ ⟨s', rfl, hs'⟩
     refine go1 ?_
     (refine ret_y [_, _] (by (refine go0 ?_); exact rfl) (by kernel_rfl) (⟨s', ⟨_, _, _, (_, _), (_, _), (_, _), (_, _), (_, _), (_, _), _, _⟩, rfl, hs'⟩))
end
section
variable {G : GS}
attribute [local irreducible] vOpsN vOpsG vOpsD vOpGD NextD vC SeqQ BlockQ
def pruneS (l : List Ent) : List (List UInt8) → List (List UInt8)
 | [] => []
 | k :: r => if 0 ≤ atE k l then k :: pruneS l r else pruneS l r
theorem pruneS_ok (l : List Ent) : ∀ s, Key32 s → Key32 (pruneS l s) ∧ (pruneS l s).length ≤ s.length
 | [], h => ⟨h, Nat.le_refl _⟩
 | k :: r, h => by
  have ih := pruneS_ok l r fun x hx => h x (List.mem_cons_of_mem _ hx)
  unfold pruneS
  split
  ·exact ⟨fun x hx => (List.mem_cons.1 hx).elim (fun e => e ▸ h k (List.mem_cons_self ..)) (ih.1 x), by simp; omega⟩
  ·exact ⟨ih.1, by simp; omega⟩
theorem prune_r (s : List (List UInt8)) (l : List Ent) (hs : Key32 s) (hsl : s.length ≤ 1000000) (hl : l.length ≤ 1000000) (he : ∀ e ∈ l, e.key.length = 32) : SemR Tryz.prog G 133 [.sl s.length (s.map keyM), .sl l.length (l.map entM)] [] 0 (.sl (pruneS l s).length ((pruneS l s).map keyM)) [] 0 := by
 generalize hR : pruneS l s = R
 refine srq seat Tryz.func133 24 ?_
 refine go1 ?_
 refine c_loop (Nat × List (List UInt8)) (fun x => [(10, .int .i64 x.1), (9, .int .i64 s.length), (8, .sl s.length (s.map keyM)), (1, .sl l.length (l.map entM)), (5, .ms 0 32 0 x.2.length)]) (fun x => [(0, ⟨25, 32, true, 0, x.2.map keyM⟩)]) 1 (fun x => x.1 ≤ s.length ∧ x.2.length ≤ x.1 ∧ x.2 ++ pruneS l (s.drop x.1) = R) (fun x => s.length - x.1) (0, []) ⟨Nat.zero_le _, Nat.le_refl _, by dsimp only; rw [List.drop_zero]; exact hR⟩ (by dsimp only; exact (vm [] [])) ?_
 rintro ⟨k, out⟩ ⟨hk, hol, hI⟩
 try dsimp only
 dsimp only at hk hol hI
 refine go1 ?_
 (refine c_cond rfl ?_ ?_ <;> intro h)
 ·have hk' : k < s.length := by have := of_decide_eq_true h; omega
  have hel := SomF.mk (keys_at hk')
  have h32 := hs _ (List.getElem_mem hk')
  rw [List.drop_eq_getElem_cons hk', pruneS] at hI
  generalize s[k] = q at *
  have c1 := at_m (G := G) l q hl h32 he
  generalize atE q l = i at *
  obtain ⟨W, hW⟩ : ∃ W, W = out ++ [q] := ⟨_, rfl⟩
  have hWl : W.length = out.length + 1 := by rw [hW]; simp
  refine go1 ?_
  refine g_callC (src (c1)) rfl rfl hhq (by kernel_rfl) ?_
  refine go1 ?_
  (refine c_cond rfl ?_ ?_ <;> intro h)
  ·have h0 := of_decide_eq_true h
   rw [if_pos h0, show out ++ q :: pruneS l (s.drop (k + 1)) = W ++ pruneS l (s.drop (k + 1)) by rw [hW]; simp] at hI
   refine go1 ?_
   ((with_reducible apply g_mem); (case hq => exact rfl); (case hv => exact rfl); (case he => (intro R hR; refine sms hR ?_; (refine And.intro (Nat.le_refl _) ?_; refine ⟨_, rfl, ?_⟩; refine And.intro ⟨(by simp), app_ok (by kernel_rfl) pf⟩ ?_; refine ⟨W.map keyM, sv (by rw [hW]; simp; rfl), W.length, sv pf, ?_⟩); exact hR)); (case hd => exact rfl))
   refine go1 ?_
   exact ⟨(k + 1, W), ⟨by dsimp only; omega, by dsimp only; omega, hI⟩, by dsimp only; omega, (by dsimp only; exact (vm [(0, _)] []))⟩
  ·have h0 := of_decide_eq_false h
   rw [if_neg h0] at hI
   refine go1 ?_
   exact ⟨(k + 1, out), ⟨by dsimp only; omega, by dsimp only; omega, hI⟩, by dsimp only; omega, (by dsimp only; exact (vm [(0, _)] []))⟩
 ·have hk' : k = s.length := by have := of_decide_eq_false h; omega
  subst hk'
  rw [List.drop_length, pruneS, List.append_nil] at hI
  subst hI
  refine go1 ?_
  refine go0 ?_
  refine ⟨[_], [], [(0, out.length)], rfl, rfl, ?_, rfl, ⟨?_, trivial⟩, ?_⟩
  ·exact ⟨by show out.length ≤ (out.map keyM).length; simp, trivial⟩
  ·exact .inr ⟨rfl, rfl, rfl, Nat.le_of_eq (Nat.zero_add _), cut_all keyM out⟩
  ·exact mm
def nextE (peer : Int) (sent : List (List UInt8)) : List Ent → List UInt8 × Bool
 | [] => ([], false)
 | e :: r => if decide (peer ∈ e.peers) = false ∧ ¬ 0 ≤ posK e.key sent 0 then (e.raw, true) else nextE peer sent r
theorem nextE_ok (peer : Int) (sent : List (List UInt8)) : ∀ l : List Ent, (∀ e ∈ l, e.raw.length ≤ 4096) → (nextE peer sent l).1.length ≤ 4096
 | [], _ => by simp [nextE]
 | e :: r, h => by
  unfold nextE
  split
  ·exact h e (List.mem_cons_self ..)
  ·exact nextE_ok peer sent r fun x hx => h x (List.mem_cons_of_mem _ hx)
theorem next_e (l : List Ent) (peer : Int) (s : List (List UInt8)) (hs : Key32 s) (hsl : s.length ≤ 1000000) (hl : l.length ≤ 1000000) (he : ∀ e ∈ l, e.key.length = 32 ∧ e.peers.length < 1000000000 ∧ e.raw.length ≤ 1000000) : SemR Tryz.prog G 137 [.sl l.length (l.map entM), .int .i64 peer, .sl s.length (s.map keyM)] [] 0 (.tup [.sl (nextE peer s l).1.length (u8s (nextE peer s l).1), .bool (nextE peer s l).2]) [] 0 := by
 generalize hR : nextE peer s l = R
 refine srq seat Tryz.func137 33 ?_
 refine go1 ?_
 refine c_loop Nat (fun x => [(12, .int .i64 x), (11, .int .i64 l.length), (10, .sl l.length (l.map entM)), (1, .int .i64 peer), (2, .sl s.length (s.map keyM))]) (fun _ => []) 0 (fun x => x ≤ l.length ∧ nextE peer s (l.drop x) = R) (fun x => l.length - x) 0 ⟨Nat.zero_le _, by rw [List.drop_zero]; exact hR⟩ (vm [] []) ?_
 clear hR
 rintro k ⟨hk, hI⟩
 try dsimp only
 refine go1 ?_
 (refine c_cond rfl ?_ ?_ <;> intro h)
 ·have hk' : k < l.length := by have := of_decide_eq_true h; omega
  have hel := SomF.mk (ents_at hk')
  have hok := he _ (List.getElem_mem hk')
  rw [List.drop_eq_getElem_cons hk', nextE] at hI
  generalize l[k] = e at *
  have c1 := hasInt_m (G := G) e.peers peer hok.2.1
  have c2 := has_m (G := G) s e.key hsl hok.1 hs
  generalize decide (peer ∈ e.peers) = bp at *
  generalize posK e.key s 0 = i at *
  refine go1 ?_
  refine g_callC (src (c1)) rfl rfl hhq (by kernel_rfl) ?_
  refine go1 ?_
  cases bp with
  | true =>
   rw [if_neg (by simp)] at hI
   refine go1 ?_
   exact ⟨k + 1, ⟨by show k + 1 ≤ l.length; omega, hI⟩, by show l.length - (k + 1) < l.length - k; omega, (by dsimp only; exact (vm [] []))⟩
  | false =>
   by_cases h0 : 0 ≤ i
   ·rw [if_neg (fun hx => hx.2 h0)] at hI
    rw [decide_eq_true h0] at c2
    refine go1 ?_
    refine g_callC (src (c2)) rfl rfl hhq (by kernel_rfl) ?_
    refine go1 ?_
    exact ⟨k + 1, ⟨by show k + 1 ≤ l.length; omega, hI⟩, by show l.length - (k + 1) < l.length - k; omega, (by dsimp only; exact (vm [] []))⟩
   ·rw [if_pos ⟨rfl, h0⟩] at hI
    rw [decide_eq_false h0] at c2
    subst hI
    refine go1 ?_
    refine g_callC (src (c2)) rfl rfl hhq (by kernel_rfl) ?_
    refine go1 ?_
    ((with_reducible apply g_mem); (case hq => exact rfl); (case hv => exact rfl); (case he => (intro R hR; refine sms hR ?_; refine And.intro ((head_b e.raw)) ?_; refine And.intro ⟨rfl, app_ok (by kernel_rfl) pf⟩ ?_; refine ⟨u8s e.raw, sv (by show [] ++ u8s e.raw = _; rw [List.nil_append]), e.raw.length, sv pf, ?_⟩; exact hR)); (case hd => exact rfl))
    refine go1 ?_
    refine go0 ?_
    refine ⟨[_, _], [], [(18, e.raw.length)], rfl, rfl, ?_, rfl, ⟨?_, ?_, trivial⟩, ?_⟩
    ·exact ⟨by show e.raw.length ≤ (u8s e.raw).length; simp [u8s], trivial⟩
    ·exact rv
    ·exact rv
    ·exact mm
 ·have hk' : k = l.length := by have := of_decide_eq_false h; omega
  subst hk'
  rw [List.drop_length, nextE] at hI
  subst hI
  refine go1 ?_
  refine go0 ?_
  refine ⟨[_, _], [], [], rfl, rfl, trivial, rfl, ⟨?_, ?_, trivial⟩, ?_⟩
  ·exact rv
  ·exact rv
  ·exact mm
def buildG (price : Nat) : List Ent → RsS → LgS → List (List UInt8) → List (List UInt8)
 | [], _, _, out => out
 | e :: r, rs, l, out => if (takeT rs e.raw.length e.gas.toNat).2 = true ∧ (txS l price e.raw).2.code = 0 ∧ out.length < 512 then buildG price r (takeT rs e.raw.length e.gas.toNat).1 (txS l price e.raw).1 (out ++ [e.raw]) else buildG price r rs l out
def buildS (s : StS) (b g : Int) : List (List UInt8) := if (limT b g).2 = false then [] else buildG s.app.price (sortE s.ents) (limT b g).1 s.app.com []
theorem buildG_ok (price : Nat) : ∀ (l : List Ent) (rs : RsS) (lg : LgS) (out : List (List UInt8)), (∀ e ∈ l, e.raw.length ≤ 4096) → (∀ x ∈ out, x.length ≤ 4096) → out.length ≤ 512 → (∀ x ∈ buildG price l rs lg out, x.length ≤ 4096) ∧ (buildG price l rs lg out).length ≤ 512
 | [], rs, lg, out, _, ho, hl => ⟨ho, hl⟩
 | e :: r, rs, lg, out, h, ho, hl => by
  have hr : ∀ e ∈ r, e.raw.length ≤ 4096 := fun x hx => h x (List.mem_cons_of_mem _ hx)
  unfold buildG
  split
  ·rename_i hc
   exact buildG_ok price r _ _ _ hr (all_app ho fun b hb => by rw [List.mem_singleton.1 hb]; exact h e (List.mem_cons_self ..)) (by rw [List.length_append, List.length_singleton]; omega)
  ·exact buildG_ok price r _ _ _ hr ho hl
theorem buildS_ok {B : Nat} {s : StS} {b g : Int} (h : StOk B s) : (∀ x ∈ buildS s b g, x.length ≤ 4096) ∧ (buildS s b g).length ≤ 512 := by
 unfold buildS
 split
 ·exact ⟨by simp, by simp⟩
 ·exact buildG_ok _ _ _ _ _ (fun e he => (h.entk e (sortE_mem _ e he)).raw) (by simp) (by simp)
theorem ents_at2 {l : List Ent} {n k : Nat} (hn : l.length = n) (hk : k < l.length) : idxL (l.map entM) n (k : Int) = some (entM l[k]) := by subst hn; exact ents_at hk
theorem build_r {B : Nat} (s : StS) (b g : Int) (hs : StOk B s) (hB : B ≤ 100000) (hb : I64 b) (hg : I64 g) : SemR Tryz.prog G 127 [stM s, .int .i64 b, .int .i64 g] [] 0 (.sl (buildS s b g).length ((buildS s b g).map rawM)) [] 0 := by
 have hents := hs.ents
 have c0 := limits_c (G := G) b g hb hg
 have c1 := sorted_r (G := G) s.ents (by omega)
 have k0 := limT_ok hb hg
 have hSl := sortE_len s.ents
 have hSm := sortE_mem s.ents
 have hpr := hs.app.2.2.2
 have hlg := hs.app.1
 generalize hR : buildS s b g = R
 unfold buildS at hR
 generalize sortE s.ents = S at *
 generalize limT b g = lm at *
 obtain ⟨rs0, ok0⟩ := lm
 dsimp only at c0 k0 hR
 refine srq seat Tryz.func127 74 ?_
 refine go1 ?_
 refine g_callC (src (c0)) rfl rfl hhq (by kernel_rfl) ?_
 refine go1 ?_
 cases ok0 with
 | false =>
  rw [if_pos rfl] at hR
  subst hR
  refine go1 ?_
  refine go0 ?_
  refine ⟨[_], [], [], rfl, rfl, trivial, rfl, ⟨?_, trivial⟩, ?_⟩
  ·exact rv
  ·exact mm
 | true =>
  rw [if_neg (by simp)] at hR
  refine go1 ?_
  refine g_callC (c1) rfl rfl hhq (by kernel_rfl) ?_
  refine go1 ?_
  refine c_loop (Nat × RsS × LgS × List (List UInt8)) (fun x => [(32, .int .i64 x.1), (31, .int .i64 s.ents.length), (30, .sl s.ents.length (S.map entM)), (9, .ms 3 1 0 x.2.2.2.length), (10, .ptr 2 2 0 0 []), (7, .ptr 1 3 0 0 []), (3, .ptr 0 25 0 0 [])]) (fun x => [(0, ⟨46, 25, false, 0, [stM s]⟩), (1, ⟨246, 3, false, 0, [rsM x.2.1]⟩), (2, ⟨40, 2, false, 0, [lgM x.2.2.1]⟩), (3, ⟨64, 1, true, 0, x.2.2.2.map rawM⟩)]) 4 (fun x => x.1 ≤ s.ents.length ∧ RsOk x.2.1 ∧ SmLg x.2.2.1 ∧ x.2.2.2.length ≤ x.1 ∧ buildG s.app.price (S.drop x.1) x.2.1 x.2.2.1 x.2.2.2 = R) (fun x => s.ents.length - x.1) (0, rs0, s.app.com, []) ⟨Nat.zero_le _, k0, hlg, Nat.le_refl _, by dsimp only; rw [List.drop_zero]; exact hR⟩ (by dsimp only; exact (vm [(0, _), (1, _), (2, _)] [])) ?_
  clear hR c0 c1 k0 hlg
  rintro ⟨k, rs, lg, out⟩ ⟨hk, hrs, hlg, hol, hI⟩
  try dsimp only
  dsimp only at hk hrs hlg hol hI
  refine go1 ?_
  (refine c_cond rfl ?_ ?_ <;> intro h)
  ·have hk' : k < s.ents.length := by have := of_decide_eq_true h; omega
   have hel := SomF.mk (ents_at2 hSl (show k < S.length by omega))
   have hmem := hs.entk _ (hSm _ (List.getElem_mem (show k < S.length by omega)))
   rw [List.drop_eq_getElem_cons (show k < S.length by omega), buildG] at hI
   generalize S[k] = e at *
   obtain ⟨gs, hgs⟩ : ∃ gs : Nat, e.gas = gs := ⟨e.gas.toNat, by have := hmem.gas; omega⟩
   have hgu : U64 gs := by have := hmem.gas; unfold U64; omega
   have hraw := hmem.raw
   have d1 := take_c (G := G) rs e gs hgs hrs (by omega) hgu
   have d2 := tx_r (G := G) lg s.app.price e.raw hlg hpr (by omega)
   have o1 := takeT_ok (n := e.raw.length) (gas := gs) hrs
   have o2 := txS_sm (p := s.app.price) (raw := e.raw) hlg
   rw [show e.gas.toNat = gs by omega] at hI
   clear hmem
   generalize takeT rs e.raw.length gs = tk at *
   generalize txS lg s.app.price e.raw = tx at *
   obtain ⟨rs2, fits⟩ := tk
   obtain ⟨lg2, r⟩ := tx
   dsimp only at d1 d2 o1 o2 hI
   refine go1 ?_
   refine g_callC (src (d1)) rfl rfl hhq (by kernel_rfl) ?_
   refine go1 ?_
   refine g_callC (d2) rfl rfl hhq (by kernel_rfl) ?_
   refine go1 ?_
   cases fits with
   | false =>
    rw [if_neg (by simp)] at hI
    refine go1 ?_
    exact ⟨(k + 1, rs, lg, out), ⟨by dsimp only; omega, hrs, hlg, by dsimp only; omega, hI⟩, by dsimp only; omega, (by dsimp only; exact (vm [(0, _), (1, _), (2, _), (3, _)] []))⟩
   | true =>
    refine go1 ?_
    (refine n_grd ⟨rfl, rfl, rfl⟩ ?_ ?_ <;> intro h)
    ·have h1 : r.code = 0 := by have := of_decide_eq_true h; omega
     refine go1 ?_
     (refine c_cond rfl ?_ ?_ <;> intro h)
     ·have h2 := of_decide_eq_true h
      rw [if_pos ⟨rfl, h1, by omega⟩] at hI
      have hcut : cutL (u8s e.raw) 0 (0 + e.raw.length) = u8s e.raw := by rw [cut_u8, List.drop_zero, Nat.zero_add, Nat.sub_zero, List.take_length]
      have hsf := SideF.mk (show 0 + e.raw.length ≤ (u8s e.raw).length by simp [u8s])
      obtain ⟨W, hW⟩ : ∃ W, W = out ++ [e.raw] := ⟨_, rfl⟩
      have hWl : W.length = out.length + 1 := by rw [hW]; simp
      rw [← hW] at hI
      refine go1 ?_
      refine c_draw [(0, false), (1, false), (2, false), (3, false)] ?_
      refine go1 ?_
      ((with_reducible apply g_mem); (case hq => exact rfl); (case hv => exact rfl); (case he => (intro R hR; refine sms hR ?_; refine And.intro ((head_b e.raw)) ?_; refine And.intro ⟨rfl, app_ok (by kernel_rfl) pf⟩ ?_; refine ⟨u8s e.raw, sv (by show [] ++ u8s e.raw = _; rw [List.nil_append]), e.raw.length, sv pf, ?_⟩; exact hR)); (case hd => exact rfl))
      refine go1 ?_
      ((with_reducible apply g_mem); (case hq => exact rfl); (case hv => exact rfl); (case he => (intro R hR; refine sms hR ?_; (refine And.intro (Nat.le_refl _) ?_; refine ⟨_, rfl, ?_⟩; refine And.intro ⟨(by simp), app_ok (by kernel_rfl) pf⟩ ?_; refine ⟨W.map rawM, sv (by rw [hW, List.map_append]; show _ ++ [MV.sl e.raw.length (cutL (u8s e.raw) 0 (0 + e.raw.length))] = _; rw [hcut]; rfl), W.length, sv pf, ?_⟩); exact hR)); (case hd => exact rfl))
      refine go1 ?_
      exact ⟨(k + 1, rs2, lg2, W), ⟨by dsimp only; omega, o1, o2.1, by dsimp only; omega, hI⟩, by dsimp only; omega, (by dsimp only; exact (vm [(0, _), (1, _), (2, _), (3, _)] []))⟩
     ·have h2 := of_decide_eq_false h
      rw [if_neg (fun hx => h2 (by have := hx.2.2; omega))] at hI
      refine go1 ?_
      exact ⟨(k + 1, rs, lg, out), ⟨by dsimp only; omega, hrs, hlg, by dsimp only; omega, hI⟩, by dsimp only; omega, (by dsimp only; exact (vm [(0, _), (1, _), (2, _), (3, _)] []))⟩
    ·have h1 := of_decide_eq_false h
     rw [if_neg (fun hx => h1 (by have := hx.2.1; omega))] at hI
     refine go1 ?_
     exact ⟨(k + 1, rs, lg, out), ⟨by dsimp only; omega, hrs, hlg, by dsimp only; omega, hI⟩, by dsimp only; omega, (by dsimp only; exact (vm [(0, _), (1, _), (2, _), (3, _)] []))⟩
  ·have hk' : k = S.length := by have := of_decide_eq_false h; omega
   subst hk'
   rw [List.drop_length, buildG] at hI
   subst hI
   refine go1 ?_
   refine go0 ?_
   refine ⟨[_], [], [(3, out.length)], rfl, rfl, ?_, rfl, ⟨?_, trivial⟩, ?_⟩
   ·exact ⟨by show out.length ≤ (out.map rawM).length; simp, trivial⟩
   ·exact .inr ⟨rfl, rfl, rfl, Nat.le_of_eq (Nat.zero_add _), cut_all rawM out⟩
   ·exact mm
abbrev IntX (r : MV) : Prop := ∃ v : Int, r = .int .i64 v ∧ I64 v
theorem judge_x {B : Nat} (s : StS) (raws : List (List UInt8)) (b g : Int) (hs : StOk B s) (hb : I64 b) (hg : I64 g) (hn : raws.length ≤ 1000) (hr : ∀ x ∈ raws, x.length ≤ 4096) : SemX Tryz.prog G 134 [stM s, rawsM raws, .int .i64 b, .int .i64 g] IntX := by
 have c0 := limits_c (G := G) b g hb hg
 have k0 := limT_ok hb hg
 have c1 := rsum_m (G := G) raws (by omega) (fun x hx => by have := hr x hx; omega)
 have c2 := strict_r (G := G) s.app.com s.app.price raws hs.app.1 hs.app.2.2.2 (by omega) (fun x hx => by have := hr x hx; omega)
 have i0 : I64 0 := by simp [I64]
 have i1 : I64 1 := by simp [I64]
 have i3 : I64 3 := by simp [I64]
 have hst : I64 ((strictG s.app.price raws 0 s.app.com).2.2 : Int) := by
  have : ∀ (r : List (List UInt8)) (i : Nat) (l : LgS), SmLg l → (strictG s.app.price r i l).2.2 ≤ 1000 := by
   intro r
   induction r with
   | nil => intro i l _; simp [strictG]
   | cons x r ih =>
    intro i l hl
    have hsm := txS_sm (p := s.app.price) (raw := x) hl
    unfold strictG
    split
    ·exact hsm.2.1
    ·exact ih _ _ hsm.1
  have := this raws 0 s.app.com hs.app.1
  unfold I64; omega
 generalize strictG s.app.price raws 0 s.app.com = sg at *
 obtain ⟨lgs, ats, es⟩ := sg
 generalize limT b g = lm at *
 obtain ⟨rs0, ok0⟩ := lm
 dsimp only at c0 k0 c2 hst
 unfold rawsM at *
 unfold SemX
 refine seq' seat Tryz.func134 76 ?_
 refine go1 ?_
 refine g_callC (src (c0)) rfl rfl hhq (by kernel_rfl) ?_
 refine go1 ?_
 cases ok0 with
 | false =>
  refine go1 ?_
  (refine ret_x [_] (⟨1, rfl, i1⟩) (by kernel_rfl) ?_; (refine go0 ?_); exact rfl)
 | true =>
  refine go1 ?_
  (refine n_grd ⟨rfl, rfl, rfl⟩ ?_ ?_ <;> intro h)
  ·refine go1 ?_
   refine g_callC (src (c1)) rfl rfl hhq (by kernel_rfl) ?_
   refine go1 ?_
   (refine c_cond rfl ?_ ?_ <;> intro h)
   ·refine go1 ?_
    (refine ret_x [_] (⟨3, rfl, i3⟩) (by kernel_rfl) ?_; (refine go0 ?_); exact rfl)
   ·refine go1 ?_
    refine g_callC (c2) rfl rfl hhq (by kernel_rfl) ?_
    refine go1 ?_
    (refine c_cond rfl ?_ ?_ <;> intro h)
    ·refine go1 ?_
     (refine ret_x [_] (⟨(es : Int), rfl, hst⟩) (by kernel_rfl) ?_; (refine go0 ?_); exact rfl)
    ·refine go1 ?_
     refine c_loop (Nat × RsS) (fun x => [(54, .int .i64 x.1), (53, .int .i64 raws.length), (52, .sl raws.length (raws.map rawM)), (9, .ptr 0 3 0 0 [])]) (fun x => [(0, ⟨246, 3, false, 0, [rsM x.2]⟩)]) 1 (fun x => x.1 ≤ raws.length ∧ RsOk x.2) (fun x => raws.length - x.1) (0, rs0) ⟨Nat.zero_le _, k0⟩ (by dsimp only; exact (vm [(0, _)] [])) ?_
     clear c0 c1 c2 k0
     rintro ⟨k, rs⟩ ⟨hk, hrs⟩
     try dsimp only
     dsimp only at hk hrs
     refine go1 ?_
     (refine c_cond rfl ?_ ?_ <;> intro h)
     ·have hk' : k < raws.length := by have := of_decide_eq_true h; omega
      have hel := raws_at hk'
      have hbl := hr _ (List.getElem_mem hk')
      generalize raws[k] = raw at *
      replace hel : idxL (raws.map rawM) raws.length (k : Int) = some (.sl raw.length (u8s raw)) := hel
      have hel := SomF.mk hel
      have d0 := decodeTx_r (G := G) raw (by omega)
      have hsm := decodeTxS_sm (raw := raw)
      generalize decodeTxS raw = dt at *
      obtain ⟨t, et⟩ := dt
      dsimp only at d0 hsm
      have d1 := take_c (G := G) rs ⟨List.replicate 32 0, raw, [], 0, t.gas, 0, 0, 0, 0, []⟩ t.gas rfl hrs (by dsimp only; omega) hsm.2.2.1
      have o1 := takeT_ok (n := raw.length) (gas := t.gas) hrs
      generalize takeT rs raw.length t.gas = tk at *
      obtain ⟨rs2, fits⟩ := tk
      dsimp only at d1 o1
      refine go1 ?_
      refine g_callC (d0) rfl rfl hhq (by kernel_rfl) ?_
      refine go1 ?_
      refine g_call2 rfl hhq rfl (src (d1)) rfl lm ?_
      refine go1 ?_
      cases fits with
      | false =>
       refine go1 ?_
       (refine ret_x [_] (⟨3, rfl, i3⟩) (by kernel_rfl) ?_; (refine go0 ?_); exact rfl)
      | true =>
       refine go1 ?_
       exact ⟨(k + 1, rs2), ⟨by dsimp only; omega, o1⟩, by dsimp only; omega, (by dsimp only; exact (vm [(0, _)] []))⟩
     ·refine go1 ?_
      (refine ret_x [_] (⟨0, rfl, i0⟩) (by kernel_rfl) ?_; (refine go0 ?_); exact rfl)
  ·refine go1 ?_
   (refine ret_x [_] (⟨3, rfl, i3⟩) (by kernel_rfl) ?_; (refine go0 ?_); exact rfl)
theorem shrQ (m : Nat) (k : Nat) (j : Int) (hj : (min j.toNat IntKind.i64.bits) = k) : ((m : Int).fdiv (2 ^ (min j.toNat IntKind.i64.bits))) = ((m / 2 ^ k : Nat) : Int) := by
 rw [hj, Int.fdiv_eq_ediv_of_nonneg _ (Int.le_of_lt (Int.pow_pos (by omega))), Int.natCast_ediv, Int.natCast_pow]
 rfl
theorem appendLog_x (log raw : List UInt8) (hl : log.length ≤ 16777216) (hr : raw.length ≤ 5000000) : SemX Tryz.prog G 129 [.sl log.length (u8s log), .sl raw.length (u8s raw)] (fun r => ∃ (out : List UInt8) (e : Int), r = .tup [.sl out.length (u8s out), .int .i64 e] ∧ I64 e ∧ out.length ≤ 16777216) := by
 have c1 := sha_m (G := G) raw (by omega)
 have hq := shaS_len raw
 generalize shaS raw = q at *
 have i0 : I64 0 := by simp [I64]
 have i3 : I64 3 := by simp [I64]
 obtain ⟨n, hn⟩ : ∃ n, n = raw.length := ⟨_, rfl⟩
 have s1 := EqF.mk (shrQ n 24 24 rfl)
 have s2 := EqF.mk (shrQ n 16 16 rfl)
 have s3 := EqF.mk (shrQ n 8 8 rfl)
 have w0 := EqF.mk (cv8 n)
 have w1 := EqF.mk (cv8 (n / 2 ^ 24))
 have w2 := EqF.mk (cv8 (n / 2 ^ 16))
 have w3 := EqF.mk (cv8 (n / 2 ^ 8))
 obtain ⟨W1, hW1⟩ : ∃ W, W = log ++ [UInt8.ofNat (n / 2 ^ 24), UInt8.ofNat (n / 2 ^ 16), UInt8.ofNat (n / 2 ^ 8), UInt8.ofNat n] := ⟨_, rfl⟩
 have hl1 : W1.length = log.length + 4 := by rw [hW1]; simp
 obtain ⟨W2, hW2⟩ : ∃ W, W = W1 ++ q.take 4 := ⟨_, rfl⟩
 have hl2 : W2.length = log.length + 8 := by rw [hW2, List.length_append, List.length_take]; omega
 obtain ⟨W3, hW3⟩ : ∃ W, W = W2 ++ raw := ⟨_, rfl⟩
 have hl3 : W3.length = log.length + 8 + raw.length := by rw [hW3, List.length_append]; omega
 unfold SemX
 refine seq' seat Tryz.func129 46 ?_
 refine go1 ?_
 (refine n_grd ⟨rfl, rfl, rfl⟩ ?_ ?_ <;> intro h)
 ·have k1 := of_decide_eq_false h
  refine go1 ?_
  (refine c_cond rfl ?_ ?_ <;> intro h)
  ·refine go1 ?_
   (refine ret_y [_, _] (by (refine go0 ?_); exact rfl) (by kernel_rfl) (⟨[], 3, rfl, i3, Nat.zero_le _⟩))
  ·have k2 := of_decide_eq_false h
   refine go1 ?_
   refine g_callC (src (c1)) rfl rfl hhq (by kernel_rfl) ?_
   refine go1 ?_
   ((with_reducible apply g_mem); (case hq => exact rfl); (case hv => exact rfl); (case he => (intro R hR; refine sms hR ?_; refine And.intro ((head_b log)) ?_; refine And.intro ⟨rfl, app_ok (by kernel_rfl) pf⟩ ?_; refine ⟨u8s log, sv (by show [] ++ u8s log = _; rw [List.nil_append]), log.length, sv pf, ?_⟩; exact hR)); (case hd => exact rfl))
   simp only [← hn]
   refine go1 ?_
   ((with_reducible apply g_mem); (case hq => exact rfl); (case hv => exact rfl); (case he => (intro R hR; refine sms hR ?_; refine And.intro ((Nat.le_refl _)) ?_; refine ⟨_, rfl, ?_⟩; refine And.intro ⟨(by simp [u8s]), app_ok (by kernel_rfl) pf⟩ ?_; refine ⟨u8s W1, sv (by rw [hW1]; simp [u8s, setL, repM, cutL]), W1.length, sv pf, ?_⟩; exact hR)); (case hd => exact rfl))
   refine go1 ?_
   have hc4 : cutL (u8s q) 0 4 = u8s (q.take 4) := by simp [cutL, u8s, List.map_take]
   have hh4 : headSize (cutL (u8s q) 0 4) 1 = true := by rw [hc4]; exact head_b _
   ((with_reducible apply g_mem); (case hq => exact rfl); (case hv => exact rfl); (case he => (intro R hR; refine sms hR ?_; refine And.intro ((hh4)) ?_; refine And.intro ⟨(by simp [u8s]), app_ok (by kernel_rfl) pf⟩ ?_; refine ⟨u8s W2, sv (by rw [hW2]; simp [u8s, cutL, List.map_take]), W2.length, sv pf, ?_⟩; exact hR)); (case hd => exact rfl))
   refine go1 ?_
   ((with_reducible apply g_mem); (case hq => exact rfl); (case hv => exact rfl); (case he => (intro R hR; refine sms hR ?_; refine And.intro ((head_b raw)) ?_; refine And.intro ⟨(by simp [u8s]), app_ok (by kernel_rfl) pf⟩ ?_; refine ⟨u8s W3, sv (by rw [hW3]; simp [u8s]), W3.length, sv pf, ?_⟩; exact hR)); (case hd => exact rfl))
   refine gor ?_
   refine n_reQ ([(4, .sl W3.length (u8s W3)), (5, .int .i64 0)]) ([]) (0) (vm [] [(41, W3.length)]) ?_
   refine go1 ?_
   (refine ret_y [_, _] (by (refine go0 ?_); exact rfl) (by kernel_rfl) (⟨W3, 0, rfl, i0, by omega⟩))
 ·refine go1 ?_
  (refine ret_y [_, _] (by (refine go0 ?_); exact rfl) (by kernel_rfl) (⟨[], 3, rfl, i3, Nat.zero_le _⟩))
end
section
def bkF (b : BlkS) : List Fld := ⟨1, 2, 0, headS b.hd⟩ :: b.txs.map fun x => ⟨2, 2, 0, x⟩
def bkS (b : BlkS) : List UInt8 := msgS (bkF b)
structure BlkOk (b : BlkS) : Prop where
 hd : HdOk b.hd
 n : b.txs.length ≤ 1000
 len : ∀ x ∈ b.txs, x.length ≤ 4096
theorem bkF_ok {b : BlkS} (h : BlkOk b) : (∀ f ∈ bkF b, okF f ∧ f.bytes.length ≤ 4096) ∧ (bkF b).length ≤ 1001 := by
 refine ⟨fun f hf => ?_, ?_⟩
 ·rcases List.mem_cons.1 hf with rfl | hf
  ·have := headS_len h.hd
   exact ⟨okF_2 (by omega) (by omega) (by omega), by dsimp only; omega⟩
  ·obtain ⟨x, hx, rfl⟩ := List.mem_map.1 hf
   have := h.len x hx
   exact ⟨okF_2 (by omega) (by omega) (by omega), this⟩
 ·have := h.n
  unfold bkF
  rw [List.length_cons, List.length_map]
  omega
theorem bkS_len {b : BlkS} (h : BlkOk b) : (bkS b).length ≤ 4200000 := by
 have h1 := msgS_len_le 4096 _ (bkF_ok h).1
 have h2 := (bkF_ok h).2
 unfold bkS
 have : (bkF b).length * (4096 + 20) ≤ 1001 * (4096 + 20) := Nat.mul_le_mul_right _ h2
 omega
theorem bk_fields {b : BlkS} (h : BlkOk b) : fieldsS (bkS b) = (bkF b, 0, 0) := by
 have h1 := bkF_ok h
 have := fields_msg (bkF b) 1024 0 [] (fun f hf => (h1.1 f hf).1) (by omega)
 rw [List.nil_append] at this
 exact this
theorem hd_fields {h : HdS} (hk : HdOk h) : fieldsS (headS h) = (hdF h, 0, 0) := by
 have := fields_msg (hdF h) 1024 0 [] (fun f hf => (hdF_ok hk f hf).1) (by simp [hdF])
 rw [List.nil_append] at this
 exact this
theorem natP_of {x : Int} (h : 0 ≤ x) : ((natP x : Nat) : Int) = x := by unfold natP; omega
end
section
variable {G : GS}
attribute [local irreducible] vOpsN vOpsG vOpsD vOpGD NextD vC SeqQ BlockQ
theorem rform_r (b : BlkS) (h : BlkOk b) : SemR Tryz.prog G 113 [blkM b] [] 0 (.sl (bkS b).length (u8s (bkS b))) [] 0 := by
 have c1 := header_r (G := G) b.hd h.hd
 have hn := h.n
 have hF : ∃ F, bkF b = F ∧ F.length = b.txs.length + 1 ∧ F.take 1 = [⟨1, 2, 0, headS b.hd⟩] ∧ ∀ k (hk : k < b.txs.length), F.take (k + 1 + 1) = F.take (k + 1) ++ [⟨2, 2, 0, b.txs[k]⟩] := by
  refine ⟨_, rfl, by simp [bkF], rfl, fun k hk => ?_⟩
  have hk2 : k + 1 < (bkF b).length := by simp [bkF]; omega
  rw [List.take_succ_eq_append_getElem hk2]
  congr 2
  simp [bkF]
 have c2 := message_r (G := G) (bkF b) (fun f hf => ((bkF_ok h).1 f hf).1) (by have := bkS_len h; unfold bkS at this; omega) (by have := (bkF_ok h).2; omega)
 unfold bkS
 obtain ⟨F, hFe, hFl, hF1, hF2⟩ := hF
 rw [hFe] at c2 ⊢
 clear hFe h
 generalize msgS F = R at *
 obtain ⟨hd, txs⟩ := b
 dsimp only at *
 generalize headS hd = H at *
 refine srq seat Tryz.func113 26 ?_
 refine go1 ?_
 refine g_callC (c1) rfl rfl hhq (by kernel_rfl) ?_
 refine go1 ?_
 refine c_loop (Nat × List Fld) (fun x => [(14, .int .i64 x.1), (13, .int .i64 txs.length), (12, .sl txs.length (txs.map rawM)), (3, .ms 0 4 0 x.2.length)]) (fun x => [(0, ⟨128, 4, true, 0, x.2.map fldM⟩)]) 1 (fun x => x.1 ≤ txs.length ∧ x.2 = F.take (x.1 + 1)) (fun x => txs.length - x.1) (0, [⟨1, 2, 0, H⟩]) ⟨Nat.zero_le _, hF1.symm⟩ (by dsimp only; exact (vm [(0, _)] [])) ?_
 rintro ⟨k, W⟩ ⟨hk, hW⟩
 try dsimp only
 dsimp only at hk hW
 have hWl : W.length = k + 1 := by rw [hW, List.length_take]; omega
 refine go1 ?_
 (refine c_cond rfl ?_ ?_ <;> intro h)
 ·have hk' : k < txs.length := by have := of_decide_eq_true h; omega
  have hel := SomF.mk (raws_at hk')
  have hW2 := hF2 k hk'
  rw [← hW] at hW2
  generalize txs[k] = x at *
  refine go1 ?_
  obtain ⟨W2, hW3⟩ : ∃ W2 : List Fld, W2 = W ++ [⟨2, 2, 0, x⟩] := ⟨_, rfl⟩
  have hW2l : W2.length = k + 1 + 1 := by rw [hW3]; simp; omega
  ((with_reducible apply g_mem); (case hq => exact rfl); (case hv => exact rfl); (case he => (intro R hR; refine sms hR ?_; (refine And.intro (Nat.le_refl _) ?_; refine ⟨_, rfl, ?_⟩; refine And.intro ⟨(by simp), app_ok (by kernel_rfl) pf⟩ ?_; refine ⟨W2.map fldM, sv (by rw [hW3]; simp; rfl), W2.length, sv pf, ?_⟩); exact hR)); (case hd => exact rfl))
  refine go1 ?_
  exact ⟨(k + 1, W2), ⟨by dsimp only; omega, hW3.trans hW2.symm⟩, by dsimp only; omega, (by dsimp only; exact (vm [(0, _)] []))⟩
 ·have hk' : k = txs.length := by have := of_decide_eq_false h; omega
  subst hk'
  have hWF : W = F := by rw [hW, ← hFl, List.take_length]
  subst hWF
  refine go1 ?_
  refine g_callR1 rfl hhq rfl (c2) [] [(0, W.length)] ⟨rfl, mm, rfl, lm, mm⟩ rfl rfl ?_
  refine go1 ?_
  (refine ret_r [_] rfl (by kernel_rfl) ?_; (refine go0 ?_); exact rfl)
theorem rencode_x (b : BlkS) (hb : BlkOk b) : SemX Tryz.prog G 128 [blkM b] (fun r => ∃ (raw : List UInt8) (e : Int), r = .tup [.sl raw.length (u8s raw), .int .i64 e] ∧ I64 e ∧ (e = 0 → raw = bkS b ∧ (1 ≤ b.hd.height ∧ b.hd.height ≤ 1073741824) ∧ (1 ≤ b.hd.time ∧ b.hd.time ≤ 1099511627776) ∧ 0 ≤ b.hd.prop ∧ (bkS b).length ≤ 2097152)) := by
 have c1 := rform_r (G := G) b hb
 have hl := bkS_len hb
 have hn := hb.n
 clear hb
 generalize bkS b = R at *
 obtain ⟨⟨height, time, prop, par, txs, app, res⟩, l⟩ := b
 dsimp only at *
 have bad1 : ((1 : Int) = 0 → ([] : List UInt8) = R ∧ (1 ≤ height ∧ height ≤ 1073741824) ∧ (1 ≤ time ∧ time ≤ 1099511627776) ∧ 0 ≤ prop ∧ R.length ≤ 2097152) := fun h => absurd h (by decide)
 have bad3 : ((3 : Int) = 0 → ([] : List UInt8) = R ∧ (1 ≤ height ∧ height ≤ 1073741824) ∧ (1 ≤ time ∧ time ≤ 1099511627776) ∧ 0 ≤ prop ∧ R.length ≤ 2097152) := fun h => absurd h (by decide)
 have i1 : I64 1 := by simp [I64]
 have i3 : I64 3 := by simp [I64]
 have i0 : I64 0 := by simp [I64]
 unfold SemX
 refine seq' seat Tryz.func128 46 ?_
 refine go1 ?_
 (refine n_grd ⟨rfl, rfl, rfl⟩ ?_ ?_ <;> intro h)
 ·have k1 := of_decide_eq_false h
  refine go1 ?_
  (refine n_grd ⟨rfl, rfl, rfl⟩ ?_ ?_ <;> intro h)
  ·have k2 := of_decide_eq_false h
   refine go1 ?_
   (refine n_grd ⟨rfl, rfl, rfl⟩ ?_ ?_ <;> intro h)
   ·have k3 := of_decide_eq_false h
    refine go1 ?_
    (refine n_grd ⟨rfl, rfl, rfl⟩ ?_ ?_ <;> intro h)
    ·have k4 := of_decide_eq_false h
     refine go1 ?_
     (refine n_grd ⟨rfl, rfl, rfl⟩ ?_ ?_ <;> intro h)
     ·have k5 := of_decide_eq_false h
      refine go1 ?_
      (refine c_cond rfl ?_ ?_ <;> intro h)
      ·refine go1 ?_
       (refine ret_y [_, _] (by (refine go0 ?_); exact rfl) (by kernel_rfl) (⟨[], 1, rfl, i1, bad1⟩))
      ·refine go1 ?_
       (refine c_cond rfl ?_ ?_ <;> intro h)
       ·refine go1 ?_
        (refine ret_y [_, _] (by (refine go0 ?_); exact rfl) (by kernel_rfl) (⟨[], 3, rfl, i3, bad3⟩))
       ·refine go1 ?_
        refine g_callC (c1) rfl rfl hhq (by kernel_rfl) ?_
        refine go1 ?_
        (refine c_cond rfl ?_ ?_ <;> intro h)
        ·refine go1 ?_
         (refine ret_y [_, _] (by (refine go0 ?_); exact rfl) (by kernel_rfl) (⟨[], 3, rfl, i3, bad3⟩))
        ·have k6 := of_decide_eq_false h
         dsimp only at k1 k2 k3 k4 k5 k6
         refine go1 ?_
         (refine ret_y [_, _] (by (refine go0 ?_); exact rfl) (by kernel_rfl) (⟨R, 0, rfl, i0, fun _ => ⟨rfl, by omega, by omega, by omega, by omega⟩⟩))
     ·refine go1 ?_
      (refine ret_y [_, _] (by (refine go0 ?_); exact rfl) (by kernel_rfl) (⟨[], 1, rfl, i1, bad1⟩))
    ·refine go1 ?_
     (refine ret_y [_, _] (by (refine go0 ?_); exact rfl) (by kernel_rfl) (⟨[], 1, rfl, i1, bad1⟩))
   ·refine go1 ?_
    (refine ret_y [_, _] (by (refine go0 ?_); exact rfl) (by kernel_rfl) (⟨[], 1, rfl, i1, bad1⟩))
  ·refine go1 ?_
   (refine ret_y [_, _] (by (refine go0 ?_); exact rfl) (by kernel_rfl) (⟨[], 1, rfl, i1, bad1⟩))
 ·refine go1 ?_
  (refine ret_y [_, _] (by (refine go0 ?_); exact rfl) (by kernel_rfl) (⟨[], 1, rfl, i1, bad1⟩))
def hd0 : HdS := ⟨0, 0, 0, List.replicate 32 0, List.replicate 32 0, List.replicate 32 0, List.replicate 32 0⟩
theorem hd0_ok : HdOk hd0 := ⟨by simp [hd0, I64], by simp [hd0, I64], by simp [hd0, I64], by simp [hd0], by simp [hd0], by simp [hd0], by simp [hd0]⟩
end
section
variable {G : GS}
attribute [local irreducible] vOpsN vOpsG vOpsD vOpGD NextD vC SeqQ BlockQ
def keysM4 (ks : List (List UInt8)) : MV := .arr 4 32 (ks.map keyM)
theorem ks_get {ks : List (List UInt8)} {i : Nat} (hi : i < ks.length) : nthM (ks.map keyM) i = some (keyM ks[i]) := by
 rw [nthM_eq]; simp [hi]
theorem ks_set {ks : List (List UInt8)} {i j : Nat} (hi : i < ks.length) (hj : j < ks[i].length) (x : UInt8) : setPO (keysM4 ks) ([] ++ [i] ++ [j]) (0 + i * 32 + j * 1) (u8M x) = some (keysM4 (ks.set i (ks[i].set j x))) := by
 have h1 := key_set hj x
 show (match nthM (ks.map keyM) i with | some m => bif Nat.ble (i * 32) (0 + i * 32 + j * 1) && (u8M x).idFree then (match setPO m [j] (0 + i * 32 + j * 1 - i * 32) (u8M x) with | some m' => some (MV.arr 4 32 (setL (ks.map keyM) i m')) | none => none) else none | none => none) = _
 rw [ks_get hi]
 have e1 : Nat.ble (i * 32) (0 + i * 32 + j * 1) = true := by rw [Nat.ble_eq]; omega
 have e2 : 0 + i * 32 + j * 1 - i * 32 = 0 + j * 1 := by omega
 dsimp only
 rw [e1, e2]
 rw [show ([j] : List Nat) = [] ++ [j] from rfl, h1]
 show some (MV.arr 4 32 (setL (ks.map keyM) i (keyM (ks[i].set j x)))) = _
 rw [setL_eq]
 unfold keysM4
 rw [List.map_set]
theorem fld_some {l : List Fld} {k : Nat} (hk : k < l.length) : ∃ (num kind val : Nat) (bytes : List UInt8), l[k]? = some ⟨num, kind, val, bytes⟩ ∧ SomF (idxL (l.map fldM) l.length (k : Int)) (.st [.int .i64 num, .int .i64 kind, .int .u64 val, .sl bytes.length (u8s bytes)]) :=
 ⟨l[k].num, l[k].kind, l[k].val, l[k].bytes, by rw [List.getElem?_eq_getElem hk], SomF.mk (flds_at hk)⟩
structure Ks4 (ks : List (List UInt8)) : Prop where
 n : ks.length = 4
 k : ∀ x ∈ ks, x.length = 32
abbrev RH (b : List UInt8) (r : MV) : Prop := ∃ (h : HdS) (ok : Bool), r = .tup [hdM h, .bool ok] ∧ HdOk h ∧ (ok = true → headS h = b ∧ 0 ≤ h.height ∧ 0 ≤ h.time ∧ 0 ≤ h.prop)
theorem rhead_x (b : List UInt8) (hb : b.length ≤ 5000000) : SemX Tryz.prog G 173 [.sl b.length (u8s b)] (RH b) := by
  have c1 := fields_r (G := G) b (by omega)
  have hf := fields_ok b
  generalize fieldsS b = F at *
  obtain ⟨l, at_, e⟩ := F
  dsimp only at c1 hf
  have bad : ∀ h : HdS, HdOk h → RH b (.tup [hdM h, .bool false]) := fun h hk => ⟨h, false, rfl, hk, fun h => Bool.noConfusion h⟩
  have bad0 := bad hd0 hd0_ok
  unfold SemX
  refine seq' seat Tryz.func173 102 ?_
  refine go1 ?_
  refine g_callC (c1) rfl rfl hhq (by kernel_rfl) ?_
  refine go1 ?_
  (refine n_grd ⟨rfl, rfl, rfl⟩ ?_ ?_ <;> intro h)
  · have k0 : e = 0 := by simpa using h
    refine go1 ?_
    (refine c_cond rfl ?_ ?_ <;> intro h)
    · refine go1 ?_
      (refine ret_x [_, _] (bad0) (by kernel_rfl) ?_; (refine go0 ?_); exact rfl)
    · have k7 : l.length = 7 := by have h7 : (l.length : Int) = 7 := by simpa using h
                                   omega
      refine go1 ?_
      refine c_loop Nat (fun i => [(8, .int .i64 i), (7, .ptr 1 131 0 0 []), (4, .sl l.length (l.map fldM)), (2, .ptr 0 131 0 0 []), (0, .sl b.length (u8s b))]) (fun _ => [(0, ⟨27, 131, false, 0, [hdZ]⟩), (1, ⟨27, 131, false, 0, [hdZ]⟩)]) 2 (fun i => i ≤ 3 ∧ ∀ j < i, ∀ f, l[j]? = some f → f.val ≤ 9223372036854775807) (fun i => 3 - i) 0 ⟨Nat.zero_le _, fun j hj => absurd hj (by omega)⟩ (vm [(0, _), (1, _)] []) ?_
      rintro i ⟨hi, hI⟩
      try dsimp only
      refine go1 ?_
      (refine c_cond rfl ?_ ?_ <;> intro h)
      · have hi' : i < 3 := by have := of_decide_eq_true h; omega
        obtain ⟨num, kind, val, bytes, hf, hel⟩ := fld_some (l := l) (k := i) (by omega)
        refine go1 ?_
        (refine c_cond rfl ?_ ?_ <;> intro h)
        · refine go1 ?_
          (refine ret_x [_, _] (bad0) (by kernel_rfl) ?_; (refine go0 ?_); exact rfl)
        · have hv : val ≤ 9223372036854775807 := by have := of_decide_eq_false h; omega
          refine go1 ?_
          refine ⟨i + 1, ⟨by omega, fun j hj f hfj => ?_⟩, by dsimp only; omega, (by dsimp only; exact (vm [(0, _), (1, _)] []))⟩
          by_cases hji : j < i
          · exact hI j hji f hfj
          · rw [show j = i by omega, hf] at hfj
            cases hfj
            exact hv
      · have hi3 : i = 3 := by have := of_decide_eq_false h; omega
        subst hi3
        obtain ⟨n0, d0, v0, b0, e0, f0⟩ := fld_some (l := l) (k := 0) (by omega)
        obtain ⟨n1, d1, v1, b1, e1, f1⟩ := fld_some (l := l) (k := 1) (by omega)
        obtain ⟨n2, d2, v2, b2, e2, f2⟩ := fld_some (l := l) (k := 2) (by omega)
        have w0 : v0 ≤ 9223372036854775807 := hI 0 (by omega) _ e0
        have w1 : v1 ≤ 9223372036854775807 := hI 1 (by omega) _ e1
        have w2 : v2 ≤ 9223372036854775807 := hI 2 (by omega) _ e2
        replace f0 : SomF (idxL (l.map fldM) l.length (0 : Int)) _ := f0
        replace f1 : SomF (idxL (l.map fldM) l.length (1 : Int)) _ := f1
        replace f2 : SomF (idxL (l.map fldM) l.length (2 : Int)) _ := f2
        clear e0 e1 e2 hI
        refine go1 ?_
        refine c_draw [(0, false), (1, false), (2, false), (3, false), (4, false), (5, false), (6, false), (7, false), (8, false), (9, false), (10, false), (11, false), (12, false), (13, false), (14, false), (15, false), (16, false), (17, false), (18, false), (19, false), (20, false)] ?_
        refine go1 ?_
        obtain ⟨h1, hh1⟩ : ∃ h1 : HdS, h1 = ⟨v0, v1, v2, List.replicate 32 0, List.replicate 32 0, List.replicate 32 0, List.replicate 32 0⟩ := ⟨_, rfl⟩
        have h1k : HdOk h1 := by rw [hh1]; exact ⟨by simp [I64]; omega, by simp [I64]; omega, by simp [I64]; omega, by simp, by simp, by simp, by simp⟩
        have bad1 := bad h1 h1k
        rw [hh1] at bad1
        refine c_loop (Nat × List (List UInt8)) (fun x => [(55, .int .i64 x.1), (9, .ptr 2 128 0 0 []), (7, .ptr 1 131 0 0 []), (4, .sl l.length (l.map fldM)), (2, .ptr 0 131 0 0 []), (0, .sl b.length (u8s b))]) (fun x => [(0, ⟨27, 131, false, 0, [hdZ]⟩), (1, ⟨27, 131, false, 0, [.st [.int .i64 v0, .int .i64 v1, .int .i64 v2, keyZ, keyZ, keyZ, keyZ]]⟩), (2, ⟨188, 128, false, 0, [keysM4 x.2]⟩)]) 3 (fun x => x.1 ≤ 4 ∧ Ks4 x.2) (fun x => 4 - x.1) (0, List.replicate 4 (List.replicate 32 0)) ⟨Nat.zero_le _, ⟨rfl, by simp⟩⟩ (vm [(0, _), (1, _), (2, _)] []) ?_
        rintro ⟨i, ks⟩ ⟨hi, hks⟩
        try dsimp only
        dsimp only at hi hks
        refine go1 ?_
        (refine c_cond rfl ?_ ?_ <;> intro h)
        · have hi' : i < 4 := by have := of_decide_eq_true h; omega
          obtain ⟨num, kind, val, bytes, hf, hel⟩ := fld_some (l := l) (k := i + 3) (by omega)
          replace hel : SomF (idxL (l.map fldM) l.length ((i : Int) + 3)) _ := hel
          refine go1 ?_
          (refine c_cond rfl ?_ ?_ <;> intro h)
          · refine go1 ?_
            (refine ret_x [_, _] (bad1) (by kernel_rfl) ?_; (refine go0 ?_); exact rfl)
          · have hbl : bytes.length = 32 := by have : (bytes.length : Int) = 32 := by simpa using h
                                               omega
            refine go1 ?_
            refine c_loop (Nat × List (List UInt8)) (fun x => [(67, .int .i64 x.1), (10, .int .i64 i), (55, .int .i64 i), (9, .ptr 2 128 0 0 []), (7, .ptr 1 131 0 0 []), (4, .sl l.length (l.map fldM)), (2, .ptr 0 131 0 0 []), (0, .sl b.length (u8s b))]) (fun x => [(0, ⟨27, 131, false, 0, [hdZ]⟩), (1, ⟨27, 131, false, 0, [.st [.int .i64 v0, .int .i64 v1, .int .i64 v2, keyZ, keyZ, keyZ, keyZ]]⟩), (2, ⟨188, 128, false, 0, [keysM4 x.2]⟩)]) 3 (fun x => x.1 ≤ 32 ∧ Ks4 x.2) (fun x => 32 - x.1) (0, ks) ⟨Nat.zero_le _, hks⟩ (by dsimp only; exact (vm [(0, _), (1, _), (2, _)] [])) ?_
            rintro ⟨j, ks2⟩ ⟨hj, hk2⟩
            try dsimp only
            dsimp only at hj hk2
            refine go1 ?_
            (refine c_cond rfl ?_ ?_ <;> intro h)
            · have hj' : j < 32 := by have := of_decide_eq_true h; omega
              have hb1 := SomF.mk (idx_u8 (l := bytes) (k := j) (by omega))
              have hki : i < ks2.length := by rw [hk2.n]; exact hi'
              have hkl : ks2[i].length = 32 := hk2.k _ (List.getElem_mem hki)
              have hst := SomF.mk (ks_set hki (j := j) (by omega) bytes[j])
              have hk3 : Ks4 (ks2.set i (ks2[i].set j bytes[j])) := ⟨by rw [List.length_set]; exact hk2.n, fun x hx => by
                rcases List.mem_or_eq_of_mem_set hx with hx | rfl
                · exact hk2.k x hx
                · rw [List.length_set]; exact hkl⟩
              generalize ks2.set i (ks2[i].set j bytes[j]) = ks3 at *
              generalize bytes[j] = y at *
              refine go1 ?_
              refine c_draw [(0, false), (1, false), (2, false), (3, false), (4, false), (5, false), (6, false), (7, false), (8, false), (9, false), (10, false), (11, false), (12, false), (13, false)] ?_
              refine go1 ?_
              exact ⟨(j + 1, ks3), ⟨by dsimp only; omega, hk3⟩, by dsimp only; omega, (by dsimp only; exact (vm [(0, _), (1, _), (2, _)] []))⟩
            · refine go1 ?_
              exact ⟨(i + 1, ks2), ⟨by dsimp only; omega, hk2⟩, by dsimp only; omega, (by dsimp only; exact (vm [(0, _), (1, _), (2, _)] []))⟩
        · obtain ⟨kn, kk⟩ := hks
          match ks, kn, kk with
          | [k0, k1, k2, k3], _, kk =>
            have q0 := kk k0 (by simp)
            have q1 := kk k1 (by simp)
            have q2 := kk k2 (by simp)
            have q3 := kk k3 (by simp)
            have ho : HdOk ⟨v0, v1, v2, k0, k1, k2, k3⟩ := ⟨by simp [I64]; omega, by simp [I64]; omega, by simp [I64]; omega, q0, q1, q2, q3⟩
            have d1 := header_r (G := G) _ ho
            have d2 := sameB_m (G := G) (headS ⟨v0, v1, v2, k0, k1, k2, k3⟩) b
            have fin : (headS ⟨v0, v1, v2, k0, k1, k2, k3⟩ == b) = true → headS ⟨v0, v1, v2, k0, k1, k2, k3⟩ = b := fun h => by simpa using h
            have good : RH b (.tup [hdM ⟨v0, v1, v2, k0, k1, k2, k3⟩, .bool (headS ⟨v0, v1, v2, k0, k1, k2, k3⟩ == b)]) := ⟨_, _, rfl, ho, fun h => ⟨fin h, by dsimp only; omega, by dsimp only; omega, by dsimp only; omega⟩⟩
            clear fin
            generalize headS ⟨v0, v1, v2, k0, k1, k2, k3⟩ = H at *
            refine go1 ?_
            refine c_draw [(0, false), (1, false), (2, false), (3, false), (4, false), (5, false), (6, false), (7, false), (8, false), (9, false), (10, false), (11, false), (12, false), (13, false), (14, false), (15, false)] ?_
            refine go1 ?_
            refine c_draw [(0, false), (1, false), (2, true), (3, false), (4, true), (5, false), (6, false)] ?_
            refine go1 ?_
            refine gd_call1 rfl hhq rfl [] (d1) rfl [] trivial (relVs_self _ (by kernel_rfl)) rfl ?_
            refine go1 ?_
            refine gd_call1 rfl hhq rfl [] (src (d2)) rfl [] trivial (relVs_self _ (by kernel_rfl)) rfl ?_
            refine go1 ?_
            (refine ret_x [_, _] (good) (by kernel_rfl) ?_; (refine go0 ?_); exact rfl)
  · refine go1 ?_
    (refine ret_x [_, _] (bad0) (by kernel_rfl) ?_; (refine go0 ?_); exact rfl)
end
section
variable {G : GS}
attribute [local irreducible] vOpsN vOpsG vOpsD vOpGD NextD vC SeqQ BlockQ
theorem hd_back {h h0 : HdS} (hk : HdOk h) (h0k : HdOk h0) (e : headS h = headS h0) (p1 : 0 ≤ h.height) (p2 : 0 ≤ h.time) : h.height = natP h0.height ∧ h.time = natP h0.time := by
 have e1 := hd_fields hk
 rw [e, hd_fields h0k] at e1
 have e2 : hdF h0 = hdF h := congrArg (·.1) e1
 unfold hdF at e2
 have e3 : natP h0.height = natP h.height := by injection e2 with a; injection a
 have e4 : natP h0.time = natP h.time := by injection e2 with _ a; injection a with a; injection a
 rw [e3, e4, natP_of p1, natP_of p2]
 exact ⟨rfl, rfl⟩
abbrev blk0 : BlkS := ⟨hd0, []⟩
theorem blk0_ok : BlkOk blk0 := ⟨hd0_ok, Nat.zero_le _, fun x hx => by cases hx⟩
structure Good (b0 b : BlkS) : Prop where
 h1 : 1 ≤ b.hd.height ∧ b.hd.height ≤ 1073741824
 t1 : 1 ≤ b.hd.time ∧ b.hd.time ≤ 1099511627776
 p1 : 0 ≤ b.hd.prop
 h2 : b.hd.height = natP b0.hd.height
 t2 : b.hd.time = natP b0.hd.time
abbrev DC (b0 : BlkS) (r : MV) : Prop := ∃ (b : BlkS) (e : Int), r = .tup [blkM b, .int .i64 e] ∧ I64 e ∧ BlkOk b ∧ (e = 0 → Good b0 b)
theorem decode_x (b0 : BlkS) (h0 : BlkOk b0) : SemX Tryz.prog G 135 [.sl (bkS b0).length (u8s (bkS b0))] (DC b0) := by
 have c1 := fields_r (G := G) (bkS b0) (by have := bkS_len h0; omega)
 rw [bk_fields h0] at c1
 have hbl := headS_len h0.hd
 have c2 := rhead_x (G := G) (headS b0.hd) (by omega)
 have hl := bkS_len h0
 have i1 : I64 1 := by simp [I64]
 have i3 : I64 3 := by simp [I64]
 have i4 : I64 4 := by simp [I64]
 have bad : ∀ e : Int, I64 e → e ≠ 0 → DC b0 (.tup [blkM blk0, .int .i64 e]) := fun e he h => ⟨blk0, e, rfl, he, blk0_ok, fun h2 => absurd h2 h⟩
 have bad3 := bad 3 i3 (by decide)
 have bad4 := bad 4 i4 (by decide)
 have hn := h0.n
 have hlen := h0.len
 have hFl : (bkF b0).length = b0.txs.length + 1 := by simp [bkF]
 have hF0 : SomF (idxL ((bkF b0).map fldM) (b0.txs.length + 1) (0 : Int)) (.st [.int .i64 (1 : Nat), .int .i64 (2 : Nat), .int .u64 (0 : Nat), .sl (headS b0.hd).length (u8s (headS b0.hd))]) := SomF.mk (index_at (k := 0) (by omega) rfl)
 obtain ⟨R, hR⟩ : ∃ R, bkS b0 = R := ⟨_, rfl⟩
 rw [hR] at c1 hl ⊢
 obtain ⟨H, hH⟩ : ∃ H, headS b0.hd = H := ⟨_, rfl⟩
 rw [hFl] at c1
 rw [hH] at c2 hF0 hbl
 unfold SemX
 refine seq' seat Tryz.func135 76 ?_
 refine go1 ?_
 (refine c_cond rfl ?_ ?_ <;> intro h)
 ·refine go1 ?_
  (refine ret_y [_, _] (by (refine go0 ?_); exact rfl) (by kernel_rfl) (⟨blk0, 3, rfl, i3, blk0_ok, fun h => absurd h (by decide)⟩))
 ·refine go1 ?_
  refine g_callC (c1) rfl rfl hhq (by kernel_rfl) ?_
  refine go1 ?_
  refine g_callXC (c2) rfl rfl hhq (by kernel_rfl) ?_
  rintro _ ⟨hh, ok, rfl, hok, hfact⟩
  refine go1 ?_
  cases ok with
  | false =>
   refine go1 ?_
   (refine ret_y [_, _] (by (refine go0 ?_); exact rfl) (by kernel_rfl) (⟨blk0, 4, rfl, i4, blk0_ok, fun h => absurd h (by decide)⟩))
  | true =>
   obtain ⟨f1, f2, f3, f4⟩ := hfact rfl
   have e1 := hd_back hok h0.hd (f1.trans hH.symm) f2 f3
   have hb1 : BlkOk ⟨hh, b0.txs⟩ := ⟨hok, hn, hlen⟩
   have c3 := rform_r (G := G) ⟨hh, b0.txs⟩ hb1
   have c4 := rencode_x (G := G) ⟨hh, b0.txs⟩ hb1
   have fb1 : SomF (bounds (b0.txs.length + 1) (some (.int .i64 (1 : Int))) none) (1, b0.txs.length + 1) := SomF.mk (bndLo (n := b0.txs.length + 1) (k := 1) (κ := .i64) (by omega))
   obtain ⟨n, hn1⟩ : ∃ n, n = b0.txs.length := ⟨_, rfl⟩
   have hcut : cutL ((bkF b0).map fldM) 1 (n + 1) = b0.txs.map fun x => fldM ⟨2, 2, 0, x⟩ := by
    unfold cutL bkF
    rw [List.map_cons, List.drop_succ_cons, List.drop_zero, List.map_map, hn1, Nat.add_sub_cancel]
    exact List.take_of_length_le (by simp)
   have d3 := sameB_m (G := G) (bkS ⟨hh, b0.txs⟩) R
   clear hfact c1 c2
   generalize bkS ⟨hh, b0.txs⟩ = R2 at *
   rw [← hn1] at fb1 hF0
   simp only [← hn1]
   refine go1 ?_
   simp only [hcut, Nat.add_sub_cancel]
   refine c_loop (Nat × List (List UInt8)) (fun x => [(48, .int .i64 x.1), (47, .int .i64 n), (46, .sl n (b0.txs.map fun x => fldM ⟨2, 2, 0, x⟩)), (9, .ptr 1 132 0 0 []), (2, .ptr 0 132 0 0 []), (0, .sl R.length (u8s R))]) (fun x => [(0, ⟨29, 132, false, 0, [.st [hdZ, .nils]]⟩), (1, ⟨29, 132, false, 0, [.st [hdM hh, .ms 2 1 0 x.2.length]]⟩), (2, ⟨64, 1, true, 0, x.2.map rawM⟩)]) 3 (fun x => x.1 ≤ n ∧ x.2 = b0.txs.take x.1) (fun x => n - x.1) (0, []) ⟨Nat.zero_le _, rfl⟩ (by dsimp only; exact (vm [(0, _), (1, _)] [])) ?_
   rintro ⟨k, W⟩ ⟨hk, hW⟩
   try dsimp only
   dsimp only at hk hW
   have hWl : W.length = k := by rw [hW, List.length_take]; omega
   by_cases hkn : k < n
   ·have hk' : k < b0.txs.length := by omega
    have hel : SomF (idxL (b0.txs.map fun x => fldM ⟨2, 2, 0, x⟩) n (k : Int)) (fldM ⟨2, 2, 0, b0.txs[k]⟩) := SomF.mk (index_at hkn (by simp [hk']))
    obtain ⟨W2, hW2⟩ : ∃ W2, W2 = W ++ [b0.txs[k]] := ⟨_, rfl⟩
    have hW3 : W2 = b0.txs.take (k + 1) := by rw [hW2, hW, List.take_succ_eq_append_getElem hk']
    generalize b0.txs[k] = x at *
    have hW2l : W2.length = W.length + 1 := by rw [hW2]; simp
    replace hel : SomF (idxL (b0.txs.map fun x => fldM ⟨2, 2, 0, x⟩) n (k : Int)) (.st [.int .i64 (2 : Nat), .int .i64 (2 : Nat), .int .u64 (0 : Nat), .sl x.length (u8s x)]) := hel
    have hlt : decide ((k : Int) < n) = true := decide_eq_true (by omega)
    refine go1 ?_
    (refine c_cond rfl ?_ ?_ <;> intro h)
    ·refine go1 ?_
     ((with_reducible apply g_mem); (case hq => exact rfl); (case hv => exact rfl); (case he => (intro R hR; refine sms hR ?_; (refine And.intro (Nat.le_refl _) ?_; refine ⟨_, rfl, ?_⟩; refine And.intro ⟨(by simp), app_ok (by kernel_rfl) pf⟩ ?_; refine ⟨W2.map rawM, sv (by rw [hW2]; simp; rfl), W2.length, sv pf, ?_⟩); exact hR)); (case hd => exact rfl))
     refine go1 ?_
     exact ⟨(k + 1, W2), ⟨by dsimp only; omega, hW3⟩, by dsimp only; omega, (by dsimp only; exact (vm [(0, _), (1, _), (2, _)] []))⟩
    ·rw [hlt] at h
     cases h
   ·have hke : k = b0.txs.length := by omega
    have hWe : W = b0.txs := by rw [hW, hke, List.take_length]
    subst hWe
    iterate 1 (refine gos ?_)
    have hge : decide ((k : Int) < n) = false := decide_eq_false (by omega)
    clear hW
    refine n_re ([(48, .int .i64 k), (47, .int .i64 n), (9, .ptr 1 132 0 0 []), (2, .ptr 0 132 0 0 []), (0, .sl R.length (u8s R))]) ([(0, ⟨29, 132, false, 0, [.st [hdZ, .nils]]⟩), (1, ⟨29, 132, false, 0, [blkM ⟨hh, b0.txs⟩]⟩)]) [(2, b0.txs.length)] mm rfl mm mm ?_
    refine go1 ?_
    (refine c_cond rfl ?_ ?_ <;> intro h)
    ·rw [hge] at h
     cases h
    ·refine go1 ?_
     refine g_callC (c3) rfl rfl hhq (by kernel_rfl) ?_
     refine go1 ?_
     refine g_callC (src (d3)) rfl rfl hhq (by kernel_rfl) ?_
     refine go1 ?_
     (refine c_cond rfl ?_ ?_ <;> intro h)
     ·refine go1 ?_
      (refine ret_y [_, _] (by (refine go0 ?_); exact rfl) (by kernel_rfl) (⟨blk0, 4, rfl, i4, blk0_ok, fun h => absurd h (by decide)⟩))
     ·refine go1 ?_
      refine g_callXC (c4) rfl rfl hhq (by kernel_rfl) ?_
      rintro _ ⟨raw, e, rfl, he, hf⟩
      refine go1 ?_
      (refine c_cond rfl ?_ ?_ <;> intro h)
      ·have hne : e ≠ 0 := by simpa using h
       refine go1 ?_
       (refine ret_y [_, _] (by (refine go0 ?_); exact rfl) (by kernel_rfl) (⟨blk0, e, rfl, he, blk0_ok, fun h => absurd h hne⟩))
      ·have he0 : e = 0 := by simpa using h
       obtain ⟨_, g1, g2, g3, _⟩ := hf he0
       refine go1 ?_
       (refine ret_y [_, _] (by (refine go0 ?_); exact rfl) (by kernel_rfl) (⟨⟨hh, b0.txs⟩, 0, rfl, by simp [I64], hb1, fun _ => ⟨g1, g2, g3, e1.1, e1.2⟩⟩))
end
section
section
variable {T : Tab} {M : VM} {E : VE} {l : List ResultVar} {K : List MV → Prop}
theorem r_tmp {t : Nat} {v : MV} (hv : VE.get E t = some v) (h : vRets T M E l fun r => K (v :: r)) : vRets T M E (.tmp t :: l) K := by
 unfold vRets
 rw [hv]
 exact h
theorem r_cell {p ty c es k fo : Nat} {path : List Nat} {b : MB} {m r : MV} (hp : VE.get E p = some (.ptr c es k fo path)) (hc : VM.get M c = some b) (hm : nthM b.l k = some m) (hr : getP m path = some r) (hk : (okLd T ty b.es es r && okP m path fo) = true) (h : vRets T M E l fun x => K (r :: x)) : vRets T M E (.cell p ty :: l) K := by
 have h2 := he_loadP (Pg := default) (n := 0) (dst := none) (ty := 0) (pos := default) (after := #[]) (g := none) (x := .tmp p) (R := fun y : MV × Dl => vRets T M E l fun x => K (y.1 :: x)) hp hc hm hr hk h
 change (rd (VE.get E) (.tmp p) fun p => oLoad T (VM.get M) ty p).runP _ at h2
 unfold rd at h2
 rw [show evM (VE.get E) (Operand.tmp p) = some (.ptr c es k fo path) from hp] at h2
 unfold vRets
 rw [hp]
 exact h2
theorem rvq {rs : List ResultVar} {vs : List MV} (h : vRets T M E rs (fun v => v = vs) := by first | ((repeat (first | ((with_reducible apply r_cell); (case hp => exact rfl); (case hc => exact rfl); (case hm => exact rfl); (case hr => exact rfl); (case hk => kernel_rfl)) | ((with_reducible apply r_tmp); (case hv => exact rfl)))); exact rfl) | (refine go0 ?_; exact rfl)) : vRets T M E rs (fun v => v = vs) := h
end
end
section
variable {G : GS}
attribute [local irreducible] vOpsN vOpsG vOpsD vOpGD NextD vC SeqQ BlockQ
theorem remove_x {B : Nat} (s : StS) (raws : List (List UInt8)) (res : List ResS) (hs : StOk B s) (hB : B ≤ 100000) (hn : raws.length ≤ 100000) (hb : ∀ b ∈ raws, b.length ≤ 1000000) (hr : ∀ r ∈ res, SmRes r) (_hrn : res.length ≤ 100000) : SemX Tryz.prog G 169 [stM s, rawsM raws, .sl res.length (res.map resM)] (fun r => ∃ (s' : StS) (ks : List (List UInt8)), r = .tup [stM s', .sl ks.length (ks.map keyM)] ∧ StOk B s' ∧ Key32 ks) := by
 unfold rawsM
 unfold SemX
 refine seq' seat Tryz.func169 56 ?_
 refine go1 ?_
 refine c_loop (Nat × StS × List (List UInt8)) (fun x => [(9, .int .i64 x.1), (8, .ms 2 32 0 x.2.2.length), (1, .sl raws.length (raws.map rawM)), (2, .sl res.length (res.map resM)), (3, .ptr 0 25 0 0 []), (6, .ptr 1 25 0 0 [])]) (fun x => [(0, ⟨46, 25, false, 0, [stM x.2.1]⟩), (1, ⟨46, 25, false, 0, [stZ]⟩), (2, ⟨25, 32, true, 0, x.2.2.map keyM⟩)]) 3 (fun x => x.1 ≤ raws.length ∧ StOk B x.2.1 ∧ Key32 x.2.2 ∧ x.2.2.length ≤ x.1) (fun x => raws.length - x.1) (0, s, []) ⟨Nat.zero_le _, hs, by simp [Key32], Nat.le_refl _⟩ (by dsimp only; exact (vm [(0, _), (1, _)] [])) ?_
 rintro ⟨k, s1, ks⟩ ⟨hki, hs1, hk32, hkl⟩
 try dsimp only
 dsimp only at hki hs1 hk32 hkl
 refine go1 ?_
 (refine n_grd ⟨rfl, rfl, rfl⟩ ?_ ?_ <;> intro h)
 ·have hk1 : k < raws.length := by have := of_decide_eq_true h; omega
  refine go1 ?_
  (refine c_cond rfl ?_ ?_ <;> intro h)
  ·have hk2 : k < res.length := by have := of_decide_eq_true h; omega
   have f1 := raws_at hk1
   have f2 := res_at hk2
   have hb1 := hb _ (List.getElem_mem hk1)
   have hr1 := hr _ (List.getElem_mem hk2)
   generalize raws[k] = raw at *
   generalize res[k] = r at *
   have f1 := SomF.mk f1
   have f2 := SomF.mk f2
   have c1 := sha_m (G := G) raw (by omega)
   have hq := shaS_len raw
   generalize shaS raw = q at *
   have c2 := pushSt_r (G := G) s1 q hs1 hq
   have o2 := pushSt_ok (B := B) hs1 hq
   generalize pushSt s1 q = s2 at *
   have c3 := forgetSt_r (G := G) s1 q hs1 hq
   have o3 := forgetSt_ok (B := B) (k := q) hs1
   generalize forgetSt s1 q = s3 at *
   refine go1 ?_
   refine g_callC (src (c1)) rfl rfl hhq (by kernel_rfl) ?_
   refine go1 ?_
   refine q_join StS (fun y => [(10, .ptr 3 32 0 0 []), (9, .int .i64 k), (8, .ms 2 32 0 ks.length), (1, .sl raws.length (raws.map rawM)), (2, .sl res.length (res.map resM)), (3, .ptr 0 25 0 0 []), (6, .ptr 1 25 0 0 [])]) (fun y => [(0, ⟨46, 25, false, 0, [stM y]⟩), (1, ⟨46, 25, false, 0, [stZ]⟩), (2, ⟨25, 32, true, 0, ks.map keyM⟩), (3, ⟨25, 32, false, 0, [keyM q]⟩)]) (fun _ => 4) (fun y => StOk B y) (fun JQ hj => ?_) (fun s4 hs4 => ?_)
   ·(refine c_cond rfl ?_ ?_ <;> intro h)
    ·refine go1 ?_
     refine g_callC (src (c2)) rfl rfl hhq (by kernel_rfl) ?_
     refine go1 ?_
     exact hj.nrm s2 o2 (vm [(0, _), (1, _), (2, _), (3, _)] [])
    ·refine go1 ?_
     refine g_callC (src (c3)) rfl rfl hhq (by kernel_rfl) ?_
     refine go1 ?_
     exact hj.nrm s3 o3 (vm [(0, _), (1, _), (2, _), (3, _)] [])
   ·clear c1 c2 c3
    have c4 := leaveSt_r (G := G) s4 q hs4 hB hq
    have o4 := leaveSt_ok (B := B) (k := q) hs4
    generalize leaveSt s4 q = lv at *
    obtain ⟨s5, b5⟩ := lv
    dsimp only at c4 o4
    try dsimp only
    refine go1 ?_
    refine g_callC (src (c4)) rfl rfl hhq (by kernel_rfl) ?_
    refine go1 ?_
    (refine c_cond rfl ?_ ?_ <;> intro h)
    ·refine go1 ?_
     obtain ⟨W, hW⟩ : ∃ W, W = ks ++ [q] := ⟨_, rfl⟩
     have hWl : W.length = ks.length + 1 := by rw [hW]; simp
     have hW32 : Key32 W := by
      intro x hx
      rw [hW] at hx
      rcases List.mem_append.1 hx with hx | hx
      ·exact hk32 x hx
      ·rw [List.mem_singleton.1 hx]; exact hq
     ((with_reducible apply g_mem); (case hq => exact rfl); (case hv => exact rfl); (case he => (intro R hR; refine sms hR ?_; (refine And.intro (Nat.le_refl _) ?_; refine ⟨_, rfl, ?_⟩; refine And.intro ⟨(by simp), app_ok (by kernel_rfl) pf⟩ ?_; refine ⟨W.map keyM, sv (by rw [hW]; simp; rfl), W.length, sv pf, ?_⟩); exact hR)); (case hd => exact rfl))
     refine go1 ?_
     exact ⟨(k + 1, s5, W), ⟨by dsimp only; omega, o4, hW32, by dsimp only; omega⟩, by dsimp only; omega, (by dsimp only; exact (vm [(0, _), (1, _), (2, _)] []))⟩
    ·refine go1 ?_
     exact ⟨(k + 1, s5, ks), ⟨by dsimp only; omega, o4, hk32, by dsimp only; omega⟩, by dsimp only; omega, (by dsimp only; exact (vm [(0, _), (1, _), (2, _)] []))⟩
  ·refine go1 ?_
   refine go0 ?_
   refine ⟨_, _, _, ⟨⟨⟨s1, ks, rfl, hs1, hk32⟩, rfl⟩, rfl, rfl⟩, ?_⟩; refine ⟨[_, _], [], [(2, ks.length)], rfl, rfl, ?_, rfl, ⟨?_, ?_, trivial⟩, ?_⟩
   ·exact ⟨by show ks.length ≤ (ks.map keyM).length; simp, trivial⟩
   ·exact .inl ⟨rfl, rfl⟩
   ·exact rv
   ·exact mm
 ·refine go1 ?_
  refine go0 ?_
  refine ⟨_, _, _, ⟨⟨⟨s1, ks, rfl, hs1, hk32⟩, rfl⟩, rfl, rfl⟩, ?_⟩; refine ⟨[_, _], [], [(2, ks.length)], rfl, rfl, ?_, rfl, ⟨?_, ?_, trivial⟩, ?_⟩
  ·exact ⟨by show ks.length ≤ (ks.map keyM).length; simp, trivial⟩
  ·exact .inl ⟨rfl, rfl⟩
  ·exact rv
  ·exact mm
theorem gone_x {B : Nat} (c : CfS) (hc : CfOk c) (l : List Ent) (hl : l.length ≤ 100000) (he : ∀ e ∈ l, EntOk B e) (ht tm : Int) (h1 : 0 ≤ ht ∧ ht < 4611686018427387904) (h2 : 0 ≤ tm ∧ tm < 4611686018427387904) : SemX Tryz.prog G 179 [cfM c, .sl l.length (l.map entM), .int .i64 ht, .int .i64 tm] (fun r => ∃ ks : List (List UInt8), r = .sl ks.length (ks.map keyM) ∧ Key32 ks ∧ ks.length ≤ l.length) := by
 have b1 := hc.ttlB
 have b2 := hc.ttlT
 unfold SemX
 refine seq' seat Tryz.func179 39 ?_
 refine go1 ?_
 refine c_loop (Nat × List (List UInt8)) (fun x => [(14, .int .i64 x.1), (13, .int .i64 l.length), (12, .sl l.length (l.map entM)), (9, .ms 1 32 0 x.2.length), (2, .int .i64 ht), (3, .int .i64 tm), (4, .ptr 0 12 0 0 [])]) (fun x => [(0, ⟨37, 12, false, 0, [cfM c]⟩), (1, ⟨25, 32, true, 0, x.2.map keyM⟩)]) 2 (fun x => x.1 ≤ l.length ∧ Key32 x.2 ∧ x.2.length ≤ x.1) (fun x => l.length - x.1) (0, []) ⟨Nat.zero_le _, by simp [Key32], Nat.le_refl _⟩ (by dsimp only; exact (vm [(0, _)] [])) ?_
 rintro ⟨k, ks⟩ ⟨hki, hk32, hkl⟩
 try dsimp only
 dsimp only at hki hk32 hkl
 refine go1 ?_
 (refine c_cond rfl ?_ ?_ <;> intro h)
 ·have hk' : k < l.length := by have := of_decide_eq_true h; omega
  have hel := ents_at hk'
  have heo := he _ (List.getElem_mem hk')
  generalize l[k] = e at *
  have hel := SomF.mk hel
  have c1 := late_m (G := G) ht e.height c.ttlB h1 heo.height (by unfold I64; omega)
  have c2 := late_m (G := G) tm e.time c.ttlT h2 heo.time (by unfold I64; omega)
  generalize lateS ht e.height c.ttlB = l1 at *
  generalize lateS tm e.time c.ttlT = l2 at *
  have hkey := heo.key
  clear heo
  obtain ⟨W, hW⟩ : ∃ W, W = ks ++ [e.key] := ⟨_, rfl⟩
  have hWl : W.length = ks.length + 1 := by rw [hW]; simp
  have hW32 : Key32 W := by
   intro x hx
   rw [hW] at hx
   rcases List.mem_append.1 hx with hx | hx
   ·exact hk32 x hx
   ·rw [List.mem_singleton.1 hx]; exact hkey
  refine go1 ?_
  refine g_callC (src (c1)) rfl rfl hhq (by kernel_rfl) ?_
  refine go1 ?_
  (refine n_grd ⟨rfl, rfl, rfl⟩ ?_ ?_ <;> intro h)
  ·refine go1 ?_
   refine g_callC (src (c2)) rfl rfl hhq (by kernel_rfl) ?_
   refine go1 ?_
   (refine c_cond rfl ?_ ?_ <;> intro h)
   ·refine go1 ?_
    ((with_reducible apply g_mem); (case hq => exact rfl); (case hv => exact rfl); (case he => (intro R hR; refine sms hR ?_; (refine And.intro (Nat.le_refl _) ?_; refine ⟨_, rfl, ?_⟩; refine And.intro ⟨(by simp), app_ok (by kernel_rfl) pf⟩ ?_; refine ⟨W.map keyM, sv (by rw [hW]; simp; rfl), W.length, sv pf, ?_⟩); exact hR)); (case hd => exact rfl))
    refine go1 ?_
    exact ⟨(k + 1, W), ⟨by dsimp only; omega, hW32, by dsimp only; omega⟩, by dsimp only; omega, (by dsimp only; exact (vm [(0, _), (1, _)] []))⟩
   ·refine go1 ?_
    exact ⟨(k + 1, ks), ⟨by dsimp only; omega, hk32, by dsimp only; omega⟩, by dsimp only; omega, (by dsimp only; exact (vm [(0, _), (1, _)] []))⟩
  ·refine go1 ?_
   ((with_reducible apply g_mem); (case hq => exact rfl); (case hv => exact rfl); (case he => (intro R hR; refine sms hR ?_; (refine And.intro (Nat.le_refl _) ?_; refine ⟨_, rfl, ?_⟩; refine And.intro ⟨(by simp), app_ok (by kernel_rfl) pf⟩ ?_; refine ⟨W.map keyM, sv (by rw [hW]; simp; rfl), W.length, sv pf, ?_⟩); exact hR)); (case hd => exact rfl))
   refine go1 ?_
   exact ⟨(k + 1, W), ⟨by dsimp only; omega, hW32, by dsimp only; omega⟩, by dsimp only; omega, (by dsimp only; exact (vm [(0, _), (1, _)] []))⟩
 ·refine go1 ?_
  refine go0 ?_
  refine ⟨_, _, _, ⟨⟨⟨ks, rfl, hk32, by omega⟩, rfl⟩, rfl, rfl⟩, ?_⟩; refine ⟨[_], [], [(1, ks.length)], rfl, rfl, ?_, rfl, ⟨?_, trivial⟩, ?_⟩
  ·exact ⟨by show ks.length ≤ (ks.map keyM).length; simp, trivial⟩
  ·exact rv
  ·exact mm
theorem purge_x {B : Nat} (s : StS) (hs : StOk B s) (hB : B ≤ 100000) : SemX Tryz.prog G 170 [stM s] (fun r => ∃ (s' : StS) (ks : List (List UInt8)), r = .tup [stM s', .sl ks.length (ks.map keyM)] ∧ StOk B s' ∧ Key32 ks) := by
 have g1 := hs.ents
 have g2 := hs.height
 have g3 := hs.time
 have c0 := gone_x (G := G) s.cfg hs.cfg s.ents (by omega) hs.entk s.height s.time (by omega) (by omega)
 unfold SemX
 refine seq' seat Tryz.func170 34 ?_
 refine go1 ?_
 refine g_callXC (c0) rfl rfl hhq (by kernel_rfl) ?_
 rintro _ ⟨ks, rfl, hk, hkl⟩
 have hkb : ks.length ≤ 100000 := by omega
 refine go1 ?_
 refine c_loop (Nat × StS) (fun x => [(18, .int .i64 x.1), (17, .int .i64 ks.length), (16, .sl ks.length (ks.map keyM)), (4, .sl ks.length (ks.map keyM)), (1, .ptr 0 25 0 0 []), (2, .ptr 1 25 0 0 [])]) (fun x => [(0, ⟨46, 25, false, 0, [stM x.2]⟩), (1, ⟨46, 25, false, 0, [stZ]⟩)]) 2 (fun x => x.1 ≤ ks.length ∧ StOk B x.2) (fun x => ks.length - x.1) (0, s) ⟨Nat.zero_le _, hs⟩ (by dsimp only; exact (vm [(0, _), (1, _)] [])) ?_
 rintro ⟨k, s2⟩ ⟨hki, hs2⟩
 try dsimp only
 dsimp only at hki hs2
 refine go1 ?_
 (refine c_cond rfl ?_ ?_ <;> intro h)
 ·have hk' : k < ks.length := by have := of_decide_eq_true h; omega
  have hel := SomF.mk (keys_at hk')
  have hkk := hk _ (List.getElem_mem hk')
  generalize ks[k] = q at *
  have e1 := leaveSt_r (G := G) s2 q hs2 hB hkk
  have o1 := leaveSt_ok (k := q) hs2
  generalize leaveSt s2 q = lv at *
  obtain ⟨s3, b3⟩ := lv
  dsimp only at e1 o1
  have e2 := dropSt_r (G := G) s3 q o1 hkk
  have o2 := dropSt_ok (k := q) o1
  generalize dropSt s3 q = s4 at *
  refine go1 ?_
  refine g_callC (src (e1)) rfl rfl hhq (by kernel_rfl) ?_
  refine go1 ?_
  refine g_callC (src (e2)) rfl rfl hhq (by kernel_rfl) ?_
  refine go1 ?_
  exact ⟨(k + 1, s4), ⟨by dsimp only; omega, o2⟩, by dsimp only; omega, (by dsimp only; exact (vm [(0, _), (1, _)] []))⟩
 ·refine go1 ?_
  (refine ret_x [_, _] (⟨s2, ks, rfl, hs2, hk⟩) (by kernel_rfl) ?_; exact rvq)
theorem recheck_x {B : Nat} (s : StS) (hs : StOk B s) (hB : B ≤ 100000) : SemX Tryz.prog G 171 [stM s] (fun r => ∃ (s' : StS) (ks : List (List UInt8)), r = .tup [stM s', .sl ks.length (ks.map keyM)] ∧ StOk B s' ∧ Key32 ks) := by
 have g1 := hs.ents
 have c0 := reset_m (G := G) s.app
 have o0 : StOk B { s with app := resetS s.app } := ⟨hs.cfg, ⟨hs.app.1, hs.app.1, hs.app.2.2⟩, hs.height, hs.time, hs.arr, hs.ents, hs.entk, hs.cache, hs.ck⟩
 generalize resetS s.app = a0 at *
 unfold SemX
 refine seq' seat Tryz.func171 66 ?_
 refine go1 ?_
 refine g_callC (src (c0)) rfl rfl hhq (by kernel_rfl) ?_
 refine go1 ?_
 refine c_loop (Nat × AppS × List (List UInt8)) (fun x => [(17, .int .i64 x.1), (16, .int .i64 s.ents.length), (15, .sl s.ents.length (s.ents.map entM)), (4, .ms 2 32 0 x.2.2.length), (1, .ptr 0 25 0 0 []), (2, .ptr 1 25 0 0 [])]) (fun x => [(0, ⟨46, 25, false, 0, [stM { s with app := x.2.1 }]⟩), (1, ⟨46, 25, false, 0, [stZ]⟩), (2, ⟨25, 32, true, 0, x.2.2.map keyM⟩)]) 3 (fun x => x.1 ≤ s.ents.length ∧ StOk B { s with app := x.2.1 } ∧ Key32 x.2.2 ∧ x.2.2.length ≤ x.1) (fun x => s.ents.length - x.1) (0, a0, []) ⟨Nat.zero_le _, o0, by simp [Key32], Nat.le_refl _⟩ (by dsimp only; exact (vm [(0, _), (1, _)] [])) ?_
 rintro ⟨k, a, ks⟩ ⟨hki, hsa, hk32, hkl⟩
 try dsimp only
 dsimp only at hki hsa hk32 hkl
 refine go1 ?_
 (refine c_cond rfl ?_ ?_ <;> intro h)
 ·have hk' : k < s.ents.length := by have := of_decide_eq_true h; omega
  have hel := ents_at hk'
  have heo := hs.entk _ (List.getElem_mem hk')
  generalize s.ents[k] = e at *
  have hel := SomF.mk hel
  have c1 := check_r (G := G) a e.raw hsa.app (by have := heo.raw; omega)
  have c2 := accept_m (G := G) a e.raw hsa.app (by have := heo.raw; omega)
  have o2 : StOk B { s with app := acceptS a e.raw } := ⟨hs.cfg, acceptS_sm hsa.app, hs.height, hs.time, hs.arr, hs.ents, hs.entk, hs.cache, hs.ck⟩
  generalize acceptS a e.raw = a2 at *
  generalize checkS a e.raw = r at *
  have c3 := heavy_m (G := G) { s with app := a } r.gas hsa
  generalize heavyS { s with app := a } r.gas = hv at *
  have hkey := heo.key
  clear heo
  obtain ⟨W, hW⟩ : ∃ W, W = ks ++ [e.key] := ⟨_, rfl⟩
  have hWl : W.length = ks.length + 1 := by rw [hW]; simp
  have hW32 : Key32 W := by
   intro x hx
   rw [hW] at hx
   rcases List.mem_append.1 hx with hx | hx
   ·exact hk32 x hx
   ·rw [List.mem_singleton.1 hx]; exact hkey
  refine go1 ?_
  refine g_callC (src (c1)) rfl rfl hhq (by kernel_rfl) ?_
  refine go1 ?_
  (refine n_grd ⟨rfl, rfl, rfl⟩ ?_ ?_ <;> intro h)
  ·refine go1 ?_
   refine g_callC (src (c3)) rfl rfl hhq (by kernel_rfl) ?_
   refine go1 ?_
   (refine c_cond rfl ?_ ?_ <;> intro h)
   ·refine go1 ?_
    refine g_callC (src (c2)) rfl rfl hhq (by kernel_rfl) ?_
    refine go1 ?_
    exact ⟨(k + 1, a2, ks), ⟨by dsimp only; omega, o2, hk32, by dsimp only; omega⟩, by dsimp only; omega, (by dsimp only; exact (vm [(0, _), (1, _), (2, _)] []))⟩
   ·refine go1 ?_
    ((with_reducible apply g_mem); (case hq => exact rfl); (case hv => exact rfl); (case he => (intro R hR; refine sms hR ?_; (refine And.intro (Nat.le_refl _) ?_; refine ⟨_, rfl, ?_⟩; refine And.intro ⟨(by simp), app_ok (by kernel_rfl) pf⟩ ?_; refine ⟨W.map keyM, sv (by rw [hW]; simp; rfl), W.length, sv pf, ?_⟩); exact hR)); (case hd => exact rfl))
    refine go1 ?_
    exact ⟨(k + 1, a, W), ⟨by dsimp only; omega, hsa, hW32, by dsimp only; omega⟩, by dsimp only; omega, (by dsimp only; exact (vm [(0, _), (1, _), (2, _)] []))⟩
  ·refine go1 ?_
   ((with_reducible apply g_mem); (case hq => exact rfl); (case hv => exact rfl); (case he => (intro R hR; refine sms hR ?_; (refine And.intro (Nat.le_refl _) ?_; refine ⟨_, rfl, ?_⟩; refine And.intro ⟨(by simp), app_ok (by kernel_rfl) pf⟩ ?_; refine ⟨W.map keyM, sv (by rw [hW]; simp; rfl), W.length, sv pf, ?_⟩); exact hR)); (case hd => exact rfl))
   refine go1 ?_
   exact ⟨(k + 1, a, W), ⟨by dsimp only; omega, hsa, hW32, by dsimp only; omega⟩, by dsimp only; omega, (by dsimp only; exact (vm [(0, _), (1, _), (2, _)] []))⟩
 ·have hkb : ks.length ≤ 100000 := by omega
  clear c0 o0 hki hkl
  generalize { s with app := a } = s1 at *
  refine go1 ?_
  refine c_loop (Nat × StS) (fun x => [(50, .int .i64 x.1), (49, .int .i64 ks.length), (48, .sl ks.length (ks.map keyM)), (4, .sl ks.length (ks.map keyM)), (1, .ptr 0 25 0 0 []), (2, .ptr 1 25 0 0 [])]) (fun x => [(0, ⟨46, 25, false, 0, [stM x.2]⟩), (1, ⟨46, 25, false, 0, [stZ]⟩)]) 2 (fun x => x.1 ≤ ks.length ∧ StOk B x.2) (fun x => ks.length - x.1) (0, s1) ⟨Nat.zero_le _, hsa⟩ (by dsimp only; exact (vm [(0, _), (1, _)] [(2, ks.length)])) ?_
  rintro ⟨k, s2⟩ ⟨hki, hs2⟩
  try dsimp only
  dsimp only at hki hs2
  refine go1 ?_
  (refine c_cond rfl ?_ ?_ <;> intro h)
  ·have hk' : k < ks.length := by have := of_decide_eq_true h; omega
   have hel := SomF.mk (keys_at hk')
   have hkk := hk32 _ (List.getElem_mem hk')
   generalize ks[k] = q at *
   have e1 := leaveSt_r (G := G) s2 q hs2 hB hkk
   have o1 := leaveSt_ok (k := q) hs2
   generalize leaveSt s2 q = lv at *
   obtain ⟨s3, b3⟩ := lv
   dsimp only at e1 o1
   have e2 := forgetSt_r (G := G) s3 q o1 hkk
   have o2 := forgetSt_ok (k := q) o1
   generalize forgetSt s3 q = s4 at *
   refine go1 ?_
   refine g_callC (src (e1)) rfl rfl hhq (by kernel_rfl) ?_
   refine go1 ?_
   refine g_callC (src (e2)) rfl rfl hhq (by kernel_rfl) ?_
   refine go1 ?_
   exact ⟨(k + 1, s4), ⟨by dsimp only; omega, o2⟩, by dsimp only; omega, (by dsimp only; exact (vm [(0, _), (1, _)] []))⟩
  ·refine go1 ?_
   (refine ret_x [_, _] (⟨s2, ks, rfl, hs2, hk32⟩) (by kernel_rfl) ?_; exact rvq)
theorem update_x {B : Nat} (s : StS) (raws : List (List UInt8)) (res : List ResS) (hs : StOk B s) (hB : B ≤ 100000) (hn : raws.length ≤ 100000) (hb : ∀ b ∈ raws, b.length ≤ 1000000) (hr : ∀ r ∈ res, SmRes r) (hrn : res.length ≤ 100000) (ht tm : Int) (h1 : 0 ≤ ht ∧ ht ≤ 1000000000000) (h2 : 0 ≤ tm ∧ tm ≤ 100 * B) : SemX Tryz.prog G 132 [stM s, rawsM raws, .sl res.length (res.map resM), .int .i64 ht, .int .i64 tm] (fun r => ∃ s' rp, r = .tup [stM s', rpM rp] ∧ StOk B s') := by
 obtain ⟨t1, e1⟩ : ∃ t1, t1 = (if s.time < tm then tm else s.time) := ⟨_, rfl⟩
 have hst := hs.time
 have b1 : 0 ≤ t1 ∧ t1 ≤ 100 * B := by rw [e1]; split <;> omega
 have o0 : StOk B { s with height := ht, time := t1 } := ⟨hs.cfg, hs.app, h1, b1, hs.arr, hs.ents, hs.entk, hs.cache, hs.ck⟩
 have e1 := EqF.mk e1.symm
 have c0 : SemX Tryz.prog G 169 [stM { s with height := ht, time := t1 }, rawsM raws, .sl res.length (res.map resM)] _ := remove_x (G := G) _ raws res o0 hB hn hb hr hrn
 unfold SemX
 refine seq' seat Tryz.func132 44 ?_
 refine go1 ?_
 refine g_callXC (c0) rfl rfl hhq (by kernel_rfl) ?_
 rintro _ ⟨s1, k1, rfl, hs1, hk1⟩
 have c1 := purge_x (G := G) s1 hs1 hB
 refine go1 ?_
 refine g_callXC (c1) rfl rfl hhq (by kernel_rfl) ?_
 rintro _ ⟨s2, k2, rfl, hs2, hk2⟩
 have c2 := recheck_x (G := G) s2 hs2 hB
 refine go1 ?_
 refine g_callXC (c2) rfl rfl hhq (by kernel_rfl) ?_
 rintro _ ⟨s3, k3, rfl, hs3, hk3⟩
 refine go1 ?_
 refine c_draw [(0, false), (1, false), (2, false), (3, false)] ?_
 refine go1 ?_
 (refine ret_y [_, _] (rvq) (by kernel_rfl) (⟨s3, ⟨_, _, _, (_, _), (_, _), (_, _), (_, _), (_, _), (_, _), _, _⟩, rfl, hs3⟩))
def st0 : StS := ⟨⟨0, 0, 0, 0, 0, 0, false, 0, 0, 0, 0, 0⟩, app0, 0, 0, 0, [], []⟩
theorem start_x (c : CfS) (acs : List AcS) (hc : CfOk c) (hl : acs.length ≤ 100000) (hsm : ∀ a ∈ acs, SmAc a) : SemX Tryz.prog G 71 [cfM c, .sl acs.length (acs.map acM)] (fun r => ∃ (s : StS) (e : Int), r = .tup [stM s, .int .i64 e] ∧ ((e ≠ 0 ∧ s = st0) ∨ (e = 0 ∧ s.cfg = c ∧ s.height = 0 ∧ s.time = 0 ∧ StOk 0 s))) := by
 have c0 := valid_x (G := G) c hc
 have c1 := init_r (G := G) acs c.price hl hsm hc.price
 have k1 := initS_sm (acs := acs) hsm hc.price
 generalize initS acs c.price = ia at *
 obtain ⟨a, ea⟩ := ia
 dsimp only at c1 k1
 unfold SemX
 refine seq' seat Tryz.func71 29 ?_
 refine go1 ?_
 refine g_callXC (c0) rfl rfl hhq (by kernel_rfl) ?_
 rintro _ ⟨v, rfl, hv⟩
 refine go1 ?_
 (refine c_cond rfl ?_ ?_ <;> intro h)
 ·have hv0 : v ≠ 0 := by simpa using h
  refine go1 ?_
  (refine ret_y [_, _] (rvq) (by kernel_rfl) (⟨st0, v, rfl, .inl ⟨hv0, rfl⟩⟩))
 ·refine go1 ?_
  refine g_callC (c1) rfl rfl hhq (by kernel_rfl) ?_
  refine go1 ?_
  (refine c_cond rfl ?_ ?_ <;> intro h)
  ·have hv0 : (ea : Int) ≠ 0 := by simpa using h
   refine go1 ?_
   (refine ret_y [_, _] (rvq) (by kernel_rfl) (⟨st0, ea, rfl, .inl ⟨hv0, rfl⟩⟩))
  ·refine go1 ?_
   (refine ret_y [_, _] (rvq) (by kernel_rfl) (⟨⟨c, a, 0, 0, 0, [], []⟩, 0, rfl, .inr ⟨rfl, rfl, rfl, rfl, ⟨hc, k1, by simp, by simp, by simp, by simp, by simp, by simp, by simp [Key32]⟩⟩⟩))
end
section
section
variable {T : Tab} {rs : List ResultVar} {M : VM} {E : VE} {n : Nat}
theorem ret_w {P : MV → Prop} (vs rv : List MV) (bs : List (Nat × Nat)) (h1 : vRets T M E rs (fun v => v = vs)) (hb : okB M bs) (hm : relV.relVs (sigA 0 []) (fzb M bs) rv vs) (hf : nfree (tupM rv) = true) (hP : P (tupM rv)) : vRetE T 0 rs (fun r M n => (P r ∧ nfree r = true) ∧ M = [] ∧ n = 0) .ret E M n :=
 vRets_mono (fun v hv => by subst hv; exact ⟨tupM rv, [], 0, ⟨⟨hP, hf⟩, rfl, rfl⟩, rv, [], bs, rfl, rfl, hb, rfl, hm, trivial⟩) h1
end
end
section
variable {G : GS}
attribute [local irreducible] vOpsN vOpsG vOpsD vOpGD NextD vC SeqQ BlockQ
def kyO : Option (List (List UInt8)) → MV
 | none => .nils
 | some l => .sl l.length (l.map keyM)
structure NdS where
 st : StS
 tip : TipS
 blocks : List BlkS
 sent : List (Option (List (List UInt8)))
 held : Bool
 prop : BlkS
 log : List UInt8
abbrev ndM (n : NdS) : MV := .st [stM n.st, tipM n.tip, .sl n.blocks.length (n.blocks.map blkM), .sl n.sent.length (n.sent.map kyO), .bool n.held, blkM n.prop, .sl n.log.length (u8s n.log)]
def KyOk (B : Nat) : Option (List (List UInt8)) → Prop
 | none => True
 | some l => Key32 l ∧ l.length ≤ B
structure NdOk (B : Nat) (n : NdS) : Prop where
 st : StOk B n.st
 tip : TipOk n.tip
 th : 0 ≤ n.tip.height ∧ n.tip.height ≤ B
 tt : 0 ≤ n.tip.time ∧ n.tip.time ≤ 100 * B
 blocks : n.blocks.length ≤ B
 sent : n.sent.length = 15
 sk : ∀ l ∈ n.sent, KyOk B l
 prop : BlkOk n.prop
 ph : n.prop.hd.height ≤ B
 pt : n.prop.hd.time ≤ 100 * B
 log : n.log.length ≤ 16777216
theorem KyOk.mono {B B' : Nat} (hb : B ≤ B') : ∀ {l}, KyOk B l → KyOk B' l
 | none, _ => trivial
 | some _, h => ⟨h.1, Nat.le_trans h.2 hb⟩
theorem NdOk.mono {B B' : Nat} {n : NdS} (h : NdOk B n) (hb : B ≤ B') : NdOk B' n :=
 ⟨h.st.mono hb, h.tip, ⟨h.th.1, by have := h.th.2; omega⟩, ⟨h.tt.1, by have := h.tt.2; omega⟩, Nat.le_trans h.blocks hb, h.sent, fun l hl => (h.sk l hl).mono hb, h.prop, by have := h.ph; omega, by have := h.pt; omega, h.log⟩
abbrev ND (B : Nat) (r : MV) : Prop := ∃ n rp, r = .tup [ndM n, rpM rp] ∧ NdOk B n
abbrev tip0 : TipS := ⟨0, 0, List.replicate 32 0, List.replicate 32 0, List.replicate 32 0⟩
def nd0 : NdS := ⟨st0, tip0, [], [], false, blk0, []⟩
abbrev tipZ : MV := .st [.int .i64 0, .int .i64 0, keyZ, keyZ, keyZ]
abbrev blkZ : MV := .st [hdZ, .nils]
abbrev ndZ : MV := .st [stZ, tipZ, .nils, .nils, .bool false, blkZ, .nils]
theorem failed_x {B : Nat} (n : NdS) (e : Int) (hn : NdOk B n) : SemX Tryz.prog G 74 [ndM n, .int .i64 e] (ND B) := by
 unfold SemX
 refine seq' seat Tryz.func74 9 ?_
 refine go1 ?_
 (refine ret_y [_, _] (by (refine go0 ?_); exact rfl) (by kernel_rfl) (⟨n, ⟨_, _, _, (_, _), (_, _), (_, _), (_, _), (_, _), (_, _), _, _⟩, rfl, hn⟩))
theorem nlimits_x (c : CfS) (b g : Int) (hc : CfOk c) (hb : I64 b) (hg : I64 g) : SemX Tryz.prog G 126 [cfM c, .int .i64 b, .int .i64 g] (fun r => ∃ x y : Int, r = .tup [.int .i64 x, .int .i64 y] ∧ I64 x ∧ I64 y) := by
 have k1 := hc.blkB
 have k2 := hc.blkG
 have i1 : I64 c.blkB := by unfold I64; omega
 have i2 : I64 c.blkG := by unfold I64; omega
 have hx : I64 (if c.blkB < b then c.blkB else b) := by split <;> assumption
 have hy : I64 (if c.blkG < g then c.blkG else g) := by split <;> assumption
 unfold SemX
 refine seq' seat Tryz.func126 26 ?_
 refine go1 ?_
 (refine c_cond rfl ?_ ?_ <;> intro h)
 ·refine go1 ?_
  (refine ret_x [_, _] (⟨_, _, rfl, hx, hg⟩) (by kernel_rfl) ?_; (refine go0 ?_); exact rfl)
 ·refine go1 ?_
  (refine c_cond rfl ?_ ?_ <;> intro h)
  ·refine go1 ?_
   (refine ret_x [_, _] (⟨_, _, rfl, hx, i2⟩) (by kernel_rfl) ?_; (refine go0 ?_); exact rfl)
  ·refine go1 ?_
   (refine ret_x [_, _] (⟨_, _, rfl, hx, hy⟩) (by kernel_rfl) ?_; (refine go0 ?_); exact rfl)
theorem rdigS_len (l : List ResS) : (rdigS l).length = 32 := by
 unfold rdigS
 exact rootS_len _
theorem tip_ok0 {a b c : List UInt8} (ha : a.length = 32) (hb : b.length = 32) (hc : c.length = 32) : TipOk ⟨0, 0, a, b, c⟩ ∧ (⟨0, 0, a, b, c⟩ : TipS).height = 0 ∧ (⟨0, 0, a, b, c⟩ : TipS).time = 0 := ⟨⟨by simp [I64], by simp [I64], ha, hb, hc⟩, rfl, rfl⟩
theorem genT_ok (l : LgS) : TipOk (genT l) ∧ (genT l).height = 0 ∧ (genT l).time = 0 := by
 unfold genT
 exact tip_ok0 (shaS_len _) (digS_len _) (rdigS_len _)
theorem keysBy : ∀ x, some x = (Tryz.prog.info? 44).map (·.bytes) → x = 24 := fun _ h => Option.some.inj (h.trans (show (Tryz.prog.info? 44).map (·.bytes) = some 24 by kernel_rfl))
theorem new_x (c : CfS) (acs : List AcS) (hc : CfOk c) (hl : acs.length ≤ 100000) (hsm : ∀ a ∈ acs, SmAc a) : SemX Tryz.prog G 45 [cfM c, .sl acs.length (acs.map acM)] (fun r => ∃ (n : NdS) (e : Int), r = .tup [ndM n, .int .i64 e] ∧ ((e ≠ 0 ∧ n = nd0) ∨ (e = 0 ∧ NdOk 0 n))) := by
 have c0 := start_x (G := G) c acs hc hl hsm
 unfold SemX
 refine seq' seat Tryz.func45 25 ?_
 refine go1 ?_
 refine g_callXC (c0) rfl rfl hhq (by kernel_rfl) ?_
 rintro _ ⟨s, e, rfl, hs⟩
 refine go1 ?_
 (refine c_cond rfl ?_ ?_ <;> intro h)
 ·have he : e ≠ 0 := by simpa using h
  refine go1 ?_
  (refine ret_y [_, _] (by (refine go0 ?_); exact rfl) (by kernel_rfl) (⟨nd0, e, rfl, .inl ⟨he, rfl⟩⟩))
 ·have he : e = 0 := by simpa using h
  rcases hs with ⟨h1, _⟩ | ⟨_, _, h3, h4, hs⟩
  ·exact absurd he h1
  have c1 := rgen_m (G := G) s.app.com hs.app.1
  have hT := genT_ok s.app.com
  have hb2 := keysBy
  generalize genT s.app.com = tp at *
  refine go1 ?_
  refine c_draw [(0, false), (1, false), (2, false), (3, false), (4, true), (5, false), (6, false), (7, false), (8, false)] ?_
  refine go1 ?_
  refine gd_call1 rfl hhq rfl [] (src (c1)) rfl [] trivial (relVs_self _ (by kernel_rfl)) rfl ?_
  refine go1 ?_
  ((with_reducible apply gd_mem); (case hv => exact rfl); (case he => (intro R hR; refine sms hR ?_; refine And.intro (Nat.le_trans (Nat.mul_le_mul_left _ (Nat.le_of_eq (hb2 _ rfl))) (by decide)) ?_; exact hR)); (case hd => exact rfl))
  refine go1 ?_
  have hnd : NdOk 0 ⟨s, tp, [], List.replicate 15 none, false, blk0, []⟩ := ⟨hs, hT.1, by dsimp only; omega, by dsimp only; omega, Nat.zero_le _, by simp, by simp [KyOk], blk0_ok, by dsimp only [hd0]; omega, by dsimp only [hd0]; omega, Nat.zero_le _⟩
  (refine ret_w [_, _] [ndM ⟨s, tp, [], List.replicate 15 none, false, blk0, []⟩, .int .i64 0] [(18, 15)] (by (refine go0 ?_); exact rfl) ?_ ?_ (by kernel_rfl) (⟨_, _, rfl, .inr ⟨rfl, hnd⟩⟩))
  ·exact ⟨Nat.le_refl 15, trivial⟩
  ·exact lm
end
section
variable {G : GS}
attribute [local irreducible] vOpsN vOpsG vOpsD vOpGD NextD vC SeqQ BlockQ
theorem head_blks : ∀ (l : List BlkS), headSize (l.map blkM) 132 = true
 | [] => rfl
 | _ :: _ => rfl
theorem kyo_at {l : List (Option (List (List UInt8)))} {k : Nat} (hk : k < l.length) : idxL (l.map kyO) l.length (k : Int) = some (kyO l[k]) := index_at hk (by simp [hk])
abbrev ndW (s : MV) (tp : TipS) (bl : MV) (se : MV) (log : List UInt8) : MV := .st [s, tipM tp, bl, se, .bool false, blkZ, .sl log.length (u8s log)]
theorem tip_okc {h t : Int} {a b c : List UInt8} (h1 : I64 h) (h2 : I64 t) (ha : a.length = 32) (hb : b.length = 32) (hc : c.length = 32) : TipOk ⟨h, t, a, b, c⟩ ∧ (⟨h, t, a, b, c⟩ : TipS).height = h ∧ (⟨h, t, a, b, c⟩ : TipS).time = t := ⟨⟨h1, h2, ha, hb, hc⟩, rfl, rfl⟩
theorem advT_ok {b : BlkS} (l : LgS) (r : List ResS) (hb : HdOk b.hd) : TipOk (advT b l r) ∧ (advT b l r).height = b.hd.height ∧ (advT b l r).time = b.hd.time := by
 unfold advT hashS
 exact tip_okc hb.height hb.time (shaS_len _) (digS_len _) (rdigS_len _)
theorem commit_x {B : Nat} (n : NdS) (b : BlkS) (hn : NdOk B n) (hB : B ≤ 90000) (hb : BlkOk b) (hbh : b.hd.height ≤ B + 1) (hbt : b.hd.time ≤ 100 * (B + 1)) : SemX Tryz.prog G 76 [ndM n, blkM b] (ND (B + 1)) := by
 have c0 := rencode_x (G := G) b hb
 have hst := hn.st
 have hln := hn.log
 have hbl := hn.blocks
 have hF := finS_sm (raws := b.txs) hst.app
 have hbn := hb.n
 have hblen := hb.len
 have cF := fin_r (G := G) n.st.app b.txs hst.app (by omega) (fun x hx => by have := hblen x hx; omega)
 generalize finS n.st.app b.txs = f at *
 obtain ⟨a, rs, eF⟩ := f
 dsimp only at hF cF
 have cC := commit_m (G := G) a
 have hC := comS_sm hF.1
 generalize comS a = q at *
 obtain ⟨a2, eC⟩ := q
 dsimp only at cC hC
 have cA := radv_m (G := G) b a2.com rs hb.hd hC.1 (by have := hF.2.2; omega) hF.2.1
 have hA := advT_ok a2.com rs hb.hd
 generalize advT b a2.com rs = tp at *
 have cH := hash_m (G := G) b.hd hb.hd
 generalize hashS b.hd = hk at *
 have hm := hn.mono (B' := B + 1) (by omega)
 obtain ⟨W, hW⟩ : ∃ W, W = n.blocks ++ [b] := ⟨_, rfl⟩
 have hWl : W.length = n.blocks.length + 1 := by rw [hW]; simp
 unfold SemX
 refine seq' seat Tryz.func76 125 ?_
 refine go1 ?_
 refine g_callXC (c0) rfl rfl hhq (by kernel_rfl) ?_
 rintro _ ⟨raw, e, rfl, he, hf⟩
 refine go1 ?_
 (refine c_cond rfl ?_ ?_ <;> intro h)
 ·refine go1 ?_
  refine g_callXC (failed_x n e hm) rfl rfl hhq (by kernel_rfl) ?_
  rintro _ ⟨n2, rp, rfl, hn2⟩
  refine go1 ?_
  (refine ret_y [_, _] (rvq) (by kernel_rfl) (⟨n2, rp, rfl, hn2⟩))
 ·have he0 : e = 0 := by simpa using h
  obtain ⟨f1, f2, f3, f4, f5⟩ := hf he0
  have c1 := appendLog_x (G := G) n.log raw hln (by rw [f1]; omega)
  clear f1 f5
  refine go1 ?_
  refine g_callXC (c1) rfl rfl hhq (by kernel_rfl) ?_
  rintro _ ⟨log, e1, rfl, he1, hlog⟩
  refine go1 ?_
  (refine c_cond rfl ?_ ?_ <;> intro h)
  ·refine go1 ?_
   refine g_callXC (failed_x n e1 hm) rfl rfl hhq (by kernel_rfl) ?_
   rintro _ ⟨n2, rp, rfl, hn2⟩
   refine go1 ?_
   (refine ret_y [_, _] (rvq) (by kernel_rfl) (⟨n2, rp, rfl, hn2⟩))
  ·refine go1 ?_
   refine g_callC (cF) rfl rfl hhq (by kernel_rfl) ?_
   refine go1 ?_
   (refine c_cond rfl ?_ ?_ <;> intro h)
   ·refine go1 ?_
    refine g_callXC (failed_x n eF hm) rfl rfl hhq (by kernel_rfl) ?_
    rintro _ ⟨n2, rp, rfl, hn2⟩
    refine go1 ?_
    (refine ret_y [_, _] (rvq) (by kernel_rfl) (⟨n2, rp, rfl, hn2⟩))
   ·refine go1 ?_
    refine c_draw [(0, false), (1, false), (2, false), (3, false), (4, false), (5, false), (6, false), (7, false), (8, false), (9, false), (10, false), (11, false), (12, false)] ?_
    refine go1 ?_
    ((with_reducible apply gd_mem); (case hv => exact rfl); (case he => (intro R hR; refine sms hR ?_; refine And.intro ((head_blks _)) ?_; refine And.intro ⟨rfl, app_ok (by kernel_rfl) pf⟩ ?_; refine ⟨n.blocks.map blkM, sv (by rfl), n.blocks.length, sv pf, ?_⟩; exact hR)); (case hd => exact rfl))
    refine go1 ?_
    ((with_reducible apply gd_mem); (case hv => exact rfl); (case he => (intro R hR; refine sms hR ?_; (refine And.intro (Nat.le_refl _) ?_; refine ⟨_, rfl, ?_⟩; refine And.intro ⟨(by simp), app_ok (by kernel_rfl) pf⟩ ?_; refine ⟨W.map blkM, sv (by rw [hW]; simp; rfl), W.length, sv pf, ?_⟩); exact hR)); (case hd => exact rfl))
    refine go1 ?_
    refine g_callC (cC) rfl rfl hhq (by kernel_rfl) ?_
    refine go1 ?_
    refine g_callC (src (cA)) rfl rfl hhq (by kernel_rfl) ?_
    refine go1 ?_
    have o0 : StOk (B + 1) { n.st with app := a2 } := ⟨hm.st.cfg, hC, hm.st.height, hm.st.time, hm.st.arr, hm.st.ents, hm.st.entk, hm.st.cache, hm.st.ck⟩
    have cU : SemX Tryz.prog G 132 [stM { n.st with app := a2 }, rawsM b.txs, .sl rs.length (rs.map resM), .int .i64 b.hd.height, .int .i64 b.hd.time] _ := update_x (G := G) _ b.txs rs o0 (by omega) (by omega) (fun x hx => by have := hblen x hx; omega) hF.2.1 (by have := hF.2.2; omega) _ _ ⟨by omega, by omega⟩ ⟨by omega, by omega⟩
    refine g_callXC (cU) rfl rfl hhq (by kernel_rfl) ?_
    rintro _ ⟨s3, rp, rfl, hs3⟩
    refine go1 ?_
    have hslen := hn.sent
    have hsk := hn.sk
    have hse := hs3.ents
    have hsek := hs3.entk
    refine c_loop (Nat × List (Option (List (List UInt8)))) (fun x => [(105, .int .i64 x.1), (104, .int .i64 n.sent.length), (103, .sl n.sent.length (n.sent.map kyO)), (12, .ptr 5 25 0 0 []), (13, .ptr 6 73 0 0 []), (11, .ptr 4 259 0 0 []), (3, .ptr 1 132 0 0 []), (4, .ptr 2 259 0 0 []), (5, .ptr 3 73 0 0 [])])
     (fun x => [(1, ⟨29, 132, false, 0, [blkM b]⟩), (2, ⟨81, 259, false, 0, [ndZ]⟩), (3, ⟨107, 73, false, 0, [rpZ]⟩), (4, ⟨81, 259, false, 0, [ndW (stM s3) tp (.sl W.length (W.map blkM)) (.ms 7 1 0 x.2.length) log]⟩), (5, ⟨46, 25, false, 0, [stM s3]⟩), (6, ⟨107, 73, false, 0, [rpM rp]⟩), (7, ⟨44, 1, true, 0, x.2.map kyO⟩)]) 8
     (fun x => x.1 ≤ n.sent.length ∧ x.2.length = x.1 ∧ ∀ l ∈ x.2, KyOk (B + 1) l) (fun x => n.sent.length - x.1) (0, []) ⟨Nat.zero_le _, rfl, by simp⟩ (by dsimp only; exact (vm [(1, _), (2, _), (3, _), (4, _), (5, _), (6, _)] [(45, W.length)])) ?_
    clear c0 hf cF cC cA cU o0
    rintro ⟨k, Z⟩ ⟨hki, hZl, hZk⟩
    try dsimp only
    dsimp only at hki hZl hZk
    refine go1 ?_
    (refine c_cond rfl ?_ ?_ <;> intro h)
    ·have hk' : k < n.sent.length := by have := of_decide_eq_true h; omega
     have hel := SomF.mk (kyo_at hk')
     have hkl := hsk _ (List.getElem_mem hk')
     generalize n.sent[k] = l at *
     cases l with
     | none =>
      replace hkl : Key32 ([] : List (List UInt8)) ∧ ([] : List (List UInt8)).length ≤ B := ⟨by simp [Key32], Nat.zero_le _⟩
      have cP := prune_r (G := G) [] s3.ents hkl.1 (by simp) (by omega) (fun e he => (hsek e he).key)
      have hps := pruneS_ok s3.ents [] hkl.1
      generalize pruneS s3.ents [] = ps at *
      obtain ⟨Z2, hZ2⟩ : ∃ Z2, Z2 = Z ++ [some ps] := ⟨_, rfl⟩
      have hZ2l : Z2.length = Z.length + 1 := by rw [hZ2]; simp
      have hZ2k : ∀ l ∈ Z2, KyOk (B + 1) l := by
       intro l hl
       rw [hZ2] at hl
       rcases List.mem_append.1 hl with hl | hl
       ·exact hZk l hl
       ·rw [List.mem_singleton.1 hl]
        exact ⟨hps.1, Nat.le_trans hps.2 (by have := hkl.2; omega)⟩
      refine go1 ?_
      refine c_draw [(0, false), (1, false), (2, false), (3, false), (4, false), (5, true), (6, false), (7, false), (8, false), (9, false)] ?_
      refine go1 ?_
      refine gd_call1 rfl hhq rfl [] (cP) rfl [] trivial lm rfl ?_
      refine go1 ?_
      ((with_reducible apply gd_mem); (case hv => exact rfl); (case he => (intro R hR; refine sms hR ?_; (refine And.intro (Nat.le_refl _) ?_; refine ⟨_, rfl, ?_⟩; refine And.intro ⟨(by simp), app_ok (by kernel_rfl) pf⟩ ?_; refine ⟨Z2.map kyO, sv (by rw [hZ2, List.map_append]; rfl), Z2.length, sv pf, ?_⟩); exact hR)); (case hd => exact rfl))
      refine go1 ?_
      exact ⟨(k + 1, Z2), ⟨by dsimp only; omega, by dsimp only; omega, hZ2k⟩, by dsimp only; omega, (by dsimp only; exact (vm [(1, _), (2, _), (3, _), (4, _), (5, _), (6, _), (7, _)] []))⟩
     | some ks =>
      replace hkl : Key32 ks ∧ ks.length ≤ B := hkl
      have cP := prune_r (G := G) ks s3.ents hkl.1 (by have := hkl.2; omega) (by omega) (fun e he => (hsek e he).key)
      have hps := pruneS_ok s3.ents ks hkl.1
      generalize pruneS s3.ents ks = ps at *
      obtain ⟨Z2, hZ2⟩ : ∃ Z2, Z2 = Z ++ [some ps] := ⟨_, rfl⟩
      have hZ2l : Z2.length = Z.length + 1 := by rw [hZ2]; simp
      have hZ2k : ∀ l ∈ Z2, KyOk (B + 1) l := by
       intro l hl
       rw [hZ2] at hl
       rcases List.mem_append.1 hl with hl | hl
       ·exact hZk l hl
       ·rw [List.mem_singleton.1 hl]
        exact ⟨hps.1, Nat.le_trans hps.2 (by have := hkl.2; omega)⟩
      refine go1 ?_
      refine c_draw [(0, false), (1, false), (2, false), (3, false), (4, false), (5, true), (6, false), (7, false), (8, false), (9, false)] ?_
      refine go1 ?_
      refine gd_call1 rfl hhq rfl [] (cP) rfl [] trivial lm rfl ?_
      refine go1 ?_
      ((with_reducible apply gd_mem); (case hv => exact rfl); (case he => (intro R hR; refine sms hR ?_; (refine And.intro (Nat.le_refl _) ?_; refine ⟨_, rfl, ?_⟩; refine And.intro ⟨(by simp), app_ok (by kernel_rfl) pf⟩ ?_; refine ⟨Z2.map kyO, sv (by rw [hZ2, List.map_append]; rfl), Z2.length, sv pf, ?_⟩); exact hR)); (case hd => exact rfl))
      refine go1 ?_
      exact ⟨(k + 1, Z2), ⟨by dsimp only; omega, by dsimp only; omega, hZ2k⟩, by dsimp only; omega, (by dsimp only; exact (vm [(1, _), (2, _), (3, _), (4, _), (5, _), (6, _), (7, _)] []))⟩
    ·have hke : k = n.sent.length := by have := of_decide_eq_false h; omega
     have hnd : NdOk (B + 1) ⟨s3, tp, W, Z, false, blk0, log⟩ := ⟨hs3, hA.1, by dsimp only; omega, by dsimp only; omega, by dsimp only; omega, by dsimp only; omega, hZk, blk0_ok, by dsimp only [hd0]; omega, by dsimp only [hd0]; omega, hlog⟩
     refine go1 ?_
     refine g_callC (src (cH)) rfl rfl hhq (by kernel_rfl) ?_
     refine go1 ?_
     refine c_draw [(0, false), (1, false), (2, false), (3, false)] ?_
     refine go1 ?_
     (refine ret_w [_, _] [ndM ⟨s3, tp, W, Z, false, blk0, log⟩, rpM ⟨rp.code, rp.key, rp.prio, rp.ev, rp.exp, rp.inv, rp.dn, rp.fl, rp.tx, rp.height, u8s hk⟩] [(7, Z.length)] (rvq) ?_ ?_ (by kernel_rfl) (⟨_, _, rfl, hnd⟩))
     ·exact ⟨by show Z.length ≤ (Z.map kyO).length; simp, trivial⟩
     ·exact lm
end
section
variable {G : GS}
attribute [local irreducible] vOpsN vOpsG vOpsD vOpGD NextD vC SeqQ BlockQ
theorem chkS_h {t : TipS} {b : BlkS} {n m : Int} (h : chkS t b n m = 0) : b.hd.height = t.height + 1 := by
 by_cases h1 : b.hd.height = t.height + 1
 ·exact h1
 ·exfalso
  revert h
  unfold chkS
  split
  ·simp
  ·rw [if_pos (.inl h1)]; simp
theorem chkS_le (t : TipS) (b : BlkS) (n m : Int) : chkS t b n m ≤ 1000 := by
 unfold chkS
 (repeat' split) <;> omega
theorem foreign_x {B : Nat} (n : NdS) (b0 : BlkS) (hn : NdOk B n) (h0 : BlkOk b0) : SemX Tryz.prog G 78 [ndM n, .sl (bkS b0).length (u8s (bkS b0))] (fun r => ∃ (b : BlkS) (e : Int), r = .tup [blkM b, .int .i64 e] ∧ I64 e ∧ BlkOk b ∧ (e = 0 → Good b0 b ∧ b.hd.height = n.tip.height + 1)) := by
 have c0 := decode_x (G := G) b0 h0
 generalize bkS b0 = R at *
 have hcf := hn.st.cfg
 unfold SemX
 refine seq' seat Tryz.func78 30 ?_
 refine go1 ?_
 refine g_callXC (c0) rfl rfl hhq (by kernel_rfl) ?_
 rintro _ ⟨b, e, rfl, he, hb, hg⟩
 refine go1 ?_
 (refine c_cond rfl ?_ ?_ <;> intro h)
 ·have hne : e ≠ 0 := by simpa using h
  refine go1 ?_
  (refine ret_y [_, _] (rvq) (by kernel_rfl) (⟨b, e, rfl, he, hb, fun h => absurd h hne⟩))
 ·have he0 : e = 0 := by simpa using h
  have hbn := hb.n
  have c1 := rchk_m (G := G) n.tip b n.st.cfg.nodes n.st.cfg.blkB hn.tip hb.hd (by have := hcf.nodes; have := hcf.self; unfold I64; omega) (by have := hcf.blkB; unfold I64; omega) (by omega) (fun x hx => by have := hb.len x hx; omega)
  have hh := fun h => chkS_h (t := n.tip) (b := b) (n := n.st.cfg.nodes) (m := n.st.cfg.blkB) h
  have hl := chkS_le n.tip b n.st.cfg.nodes n.st.cfg.blkB
  generalize chkS n.tip b n.st.cfg.nodes n.st.cfg.blkB = q at *
  refine go1 ?_
  refine c_draw [(0, false), (1, false), (2, false), (3, false), (4, false), (5, false), (6, false), (7, false), (8, false), (9, false), (10, false), (11, false), (12, true), (13, false), (14, false)] ?_
  refine go1 ?_
  refine gd_call1 rfl hhq rfl [] (src (c1)) rfl [] trivial (relVs_self _ (by kernel_rfl)) rfl ?_
  refine go1 ?_
  (refine ret_y [_, _] (rvq) (by kernel_rfl) (⟨b, (q : Int), rfl, by unfold I64; omega, hb, fun h => ⟨hg he0, hh (by omega)⟩⟩))
theorem validate_x {B : Nat} (n : NdS) (b0 : BlkS) (hn : NdOk B n) (h0 : BlkOk b0) : SemX Tryz.prog G 77 [ndM n, .sl (bkS b0).length (u8s (bkS b0))] (ND B) := by
 have c0 := foreign_x (G := G) n b0 hn h0
 generalize bkS b0 = R at *
 have hcf := hn.st.cfg
 unfold SemX
 refine seq' seat Tryz.func77 50 ?_
 refine go1 ?_
 refine g_callXC (c0) rfl rfl hhq (by kernel_rfl) ?_
 rintro _ ⟨b, e, rfl, he, hb, _⟩
 refine go1 ?_
 (refine c_cond rfl ?_ ?_ <;> intro h)
 ·refine go1 ?_
  refine g_callXC (failed_x n e hn) rfl rfl hhq (by kernel_rfl) ?_
  rintro _ ⟨n2, rp, rfl, hn2⟩
  refine go1 ?_
  (refine ret_y [_, _] (rvq) (by kernel_rfl) (⟨n2, rp, rfl, hn2⟩))
 ·have cJ := judge_x (G := G) n.st b.txs n.st.cfg.blkB n.st.cfg.blkG hn.st (by have := hcf.blkB; unfold I64; omega) (by have := hcf.blkG; unfold I64; omega) hb.n hb.len
  have cH := hash_m (G := G) b.hd hb.hd
  generalize hashS b.hd = hk at *
  refine go1 ?_
  refine g_callXC (cJ) rfl rfl hhq (by kernel_rfl) ?_
  rintro _ ⟨v, rfl, hv⟩
  refine go1 ?_
  (refine c_cond rfl ?_ ?_ <;> intro h)
  ·refine go1 ?_
   refine g_callXC (failed_x n v hn) rfl rfl hhq (by kernel_rfl) ?_
   rintro _ ⟨n2, rp, rfl, hn2⟩
   refine go1 ?_
   (refine ret_y [_, _] (rvq) (by kernel_rfl) (⟨n2, rp, rfl, hn2⟩))
  ·refine go1 ?_
   refine c_draw [(0, false), (1, false), (2, false), (3, false), (4, false), (5, false), (6, true), (7, false), (8, false), (9, false)] ?_
   refine go1 ?_
   refine gd_call1 rfl hhq rfl [] (src (cH)) rfl [] trivial (relVs_self _ (by kernel_rfl)) rfl ?_
   refine go1 ?_
   (refine ret_y [_, _] (rvq) (by kernel_rfl) (⟨n, ⟨_, _, _, (_, _), (_, _), (_, _), (_, _), (_, _), (_, _), _, _⟩, rfl, hn⟩))
theorem flush_x {B : Nat} (n : NdS) (hn : NdOk B n) (hB : B ≤ 90000) : SemX Tryz.prog G 79 [ndM n] (ND B) := by
 have hb2 := keysBy
 have hse := hn.st.ents
 have cR := reset_m (G := G) n.st.app
 have hnd : NdOk B ⟨{ n.st with app := resetS n.st.app, ents := [], cache := [] }, n.tip, n.blocks, List.replicate 15 none, n.held, n.prop, n.log⟩ := ⟨⟨hn.st.cfg, ⟨hn.st.app.1, hn.st.app.1, hn.st.app.2.2⟩, hn.st.height, hn.st.time, hn.st.arr, Nat.zero_le _, fun e he => (nomatch he), Nat.zero_le _, by simp [Key32]⟩, hn.tip, hn.th, hn.tt, hn.blocks, by simp, by simp [KyOk], hn.prop, hn.ph, hn.pt, hn.log⟩
 generalize resetS n.st.app = a at *
 unfold SemX
 refine seq' seat Tryz.func79 37 ?_
 refine go1 ?_
 refine c_loop (Nat × List (List UInt8)) (fun x => [(11, .int .i64 x.1), (10, .int .i64 n.st.ents.length), (9, .sl n.st.ents.length (n.st.ents.map entM)), (4, .ptr 3 73 0 0 []), (1, .ptr 0 259 0 0 []), (2, .ptr 1 259 0 0 []), (3, .ptr 2 73 0 0 [])])
  (fun x => [(0, ⟨81, 259, false, 0, [ndM n]⟩), (1, ⟨81, 259, false, 0, [ndZ]⟩), (2, ⟨107, 73, false, 0, [rpZ]⟩), (3, ⟨107, 73, false, 0, [.st [.int .i64 0, .arr 32 1 k0, .int .u64 0, .nils, .nils, .nils, .nils, .ms 4 32 0 x.2.length, .nils, .int .i64 0, .arr 32 1 k0]]⟩), (4, ⟨25, 32, true, 0, x.2.map keyM⟩)]) 5
  (fun x => x.1 ≤ n.st.ents.length ∧ x.2.length = x.1) (fun x => n.st.ents.length - x.1) (0, []) ⟨Nat.zero_le _, rfl⟩ (by dsimp only; exact (vm [(0, _), (1, _), (2, _), (3, _)] [])) ?_
 rintro ⟨k, ks⟩ ⟨hki, hkl⟩
 try dsimp only
 dsimp only at hki hkl
 refine go1 ?_
 (refine c_cond rfl ?_ ?_ <;> intro h)
 ·have hk' : k < n.st.ents.length := by have := of_decide_eq_true h; omega
  have hel := ents_at hk'
  generalize n.st.ents[k] = e at *
  have hel := SomF.mk hel
  obtain ⟨K2, hK2⟩ : ∃ K2, K2 = ks ++ [e.key] := ⟨_, rfl⟩
  have hK2l : K2.length = ks.length + 1 := by rw [hK2]; simp
  refine go1 ?_
  ((with_reducible apply g_mem); (case hq => exact rfl); (case hv => exact rfl); (case he => (intro R hR; refine sms hR ?_; (refine And.intro (Nat.le_refl _) ?_; refine ⟨_, rfl, ?_⟩; refine And.intro ⟨(by simp), app_ok (by kernel_rfl) pf⟩ ?_; refine ⟨K2.map keyM, sv (by rw [hK2, List.map_append]; rfl), K2.length, sv pf, ?_⟩); exact hR)); (case hd => exact rfl))
  refine go1 ?_
  exact ⟨(k + 1, K2), ⟨by dsimp only; omega, by dsimp only; omega⟩, by dsimp only; omega, (by dsimp only; exact (vm [(0, _), (1, _), (2, _), (3, _), (4, _)] []))⟩
 ·refine go1 ?_
  refine g_callC (src (cR)) rfl rfl hhq (by kernel_rfl) ?_
  refine go1 ?_
  ((with_reducible apply g_mem); (case hq => exact rfl); (case hv => exact rfl); (case he => (intro R hR; refine sms hR ?_; refine And.intro (Nat.le_trans (Nat.mul_le_mul_left _ (Nat.le_of_eq (hb2 _ rfl))) (by decide)) ?_; exact hR)); (case hd => exact rfl))
  refine go1 ?_
  refine c_draw [(0, false), (1, false), (2, false), (3, false)] ?_
  refine go1 ?_
  (refine ret_w [_, _] [ndM ⟨{ n.st with app := a, ents := [], cache := [] }, n.tip, n.blocks, List.replicate 15 none, n.held, n.prop, n.log⟩, rpM ⟨0, k0, 0, (0, []), (0, []), (0, []), (0, []), (ks.length, ks.map keyM), (0, []), 0, k0⟩] [(4, ks.length), (18, 15)] (rvq) ?_ ?_ (by kernel_rfl) (⟨_, _, rfl, hnd⟩))
  ·exact ⟨by show ks.length ≤ (ks.map keyM).length; simp, Nat.le_refl 15, trivial⟩
  ·exact lm
end
section
variable {G : GS}
attribute [local irreducible] vOpsN vOpsG vOpsD vOpGD NextD vC SeqQ BlockQ
structure OpS where
 kind : Int
 n : Int
 bytes : Int
 gas : Int
 raw : List UInt8
abbrev opM (o : OpS) : MV := .st [.int .i64 o.kind, .int .i64 o.n, .int .i64 o.bytes, .int .i64 o.gas, .sl o.raw.length (u8s o.raw)]
theorem rem_nodes {a n : Int} (h1 : 0 ≤ a) (_h2 : a < 4611686018427387904) (h3 : 0 < n) (h4 : n < 4611686018427387904) : IntKind.i64.wrap (a.tmod n) = a % n := by
 rw [Int.tmod_eq_emod_of_nonneg h1]
 have := Int.emod_nonneg a (show n ≠ 0 by omega)
 have := Int.emod_lt_of_pos a h3
 exact wrap_in _ (by omega) (by omega)
theorem makeS_ok {t : TipS} {time prop : Int} {raws : List (List UInt8)} (ht : TipOk t) (h1 : -1000 ≤ t.height ∧ t.height < 4611686018427387904) (h2 : -1000 ≤ t.time ∧ t.time < 4611686018427387904) (h3 : I64 time) (h4 : I64 prop) (hn : raws.length ≤ 1000) (hr : ∀ x ∈ raws, x.length ≤ 4096) : BlkOk (makeS t time prop raws) := by
 unfold makeS
 unfold I64 at h3
 refine ⟨⟨by dsimp only; unfold I64; omega, ?_, h4, ht.hash, rootS_len _, ht.app, ht.res⟩, hn, hr⟩
 dsimp only
 unfold I64
 split <;> omega
theorem makeS_hd (t : TipS) (time prop : Int) (raws : List (List UInt8)) : (makeS t time prop raws).hd.height = t.height + 1 ∧ (makeS t time prop raws).hd.time = if t.time + 1 > time then t.time + 1 else time := ⟨rfl, rfl⟩
theorem propose_x {B : Nat} (n : NdS) (o : OpS) (hn : NdOk B n) (hB : B ≤ 90000) (ho1 : I64 o.bytes) (ho2 : I64 o.gas) : SemX Tryz.prog G 75 [ndM n, opM o] (ND (B + 1)) := by
 have hcf := hn.st.cfg
 have hm := hn.mono (B' := B + 1) (by omega)
 have hth := hn.th
 have htt := hn.tt
 have hst := hn.st.time
 have hns := hcf.nodes
 have hsf := hcf.self
 have hrem := EqF.mk (rem_nodes (a := n.tip.height + 1) (n := n.st.cfg.nodes) (by omega) (by omega) (by omega) (by omega))
 generalize (n.tip.height + 1) % n.st.cfg.nodes = rm at *
 unfold SemX
 refine seq' seat Tryz.func75 93 ?_
 refine go1 ?_
 (refine n_grd ⟨rfl, rfl, rfl⟩ ?_ ?_ <;> intro h)
 ·refine go1 ?_
  (refine c_cond rfl ?_ ?_ <;> intro h)
  ·refine go1 ?_
   refine g_callXC (failed_x n 1 hm) rfl rfl hhq (by kernel_rfl) ?_
   rintro _ ⟨n2, rp, rfl, hn2⟩
   refine go1 ?_
   (refine ret_y [_, _] (rvq) (by kernel_rfl) (⟨n2, rp, rfl, hn2⟩))
  ·refine go1 ?_
   refine c_draw [(0, false), (1, false), (2, false), (3, false), (4, false), (5, false), (6, false), (7, false), (8, false), (9, false)] ?_
   refine go1 ?_
   (refine c_cond rfl ?_ ?_ <;> intro h)
   ·refine go1 ?_
    refine g_callXC (failed_x n 36 hm) rfl rfl hhq (by kernel_rfl) ?_
    rintro _ ⟨n2, rp, rfl, hn2⟩
    refine go1 ?_
    (refine ret_y [_, _] (rvq) (by kernel_rfl) (⟨n2, rp, rfl, hn2⟩))
   ·refine go1 ?_
    (refine n_grd ⟨rfl, rfl, rfl⟩ ?_ ?_ <;> intro h)
    ·refine go1 ?_
     (refine c_cond rfl ?_ ?_ <;> intro h)
     ·refine go1 ?_
      refine g_callXC (failed_x n 3 hm) rfl rfl hhq (by kernel_rfl) ?_
      rintro _ ⟨n2, rp, rfl, hn2⟩
      refine go1 ?_
      (refine ret_y [_, _] (rvq) (by kernel_rfl) (⟨n2, rp, rfl, hn2⟩))
     ·have c1 := nlimits_x (G := G) n.st.cfg o.bytes o.gas hcf ho1 ho2
      refine go1 ?_
      refine g_callXC (c1) rfl rfl hhq (by kernel_rfl) ?_
      rintro _ ⟨x, y, rfl, hx, hy⟩
      have c2 := build_r (G := G) n.st x y hn.st (by omega) hx hy
      have hbo := buildS_ok (b := x) (g := y) hn.st
      generalize buildS n.st x y = raws at *
      have c3 := make_r (G := G) n.tip n.st.time n.st.cfg.self raws (by omega) (by omega) (by omega) (fun x hx => by have := hbo.1 x hx; omega)
      have hbk := makeS_ok (time := n.st.time) (prop := n.st.cfg.self) hn.tip (by omega) (by omega) (by unfold I64; omega) (by unfold I64; omega) (by omega) hbo.1
      have hbh := makeS_hd n.tip n.st.time n.st.cfg.self raws
      have hbt : (if n.tip.time + 1 > n.st.time then n.tip.time + 1 else n.st.time) ≤ 100 * (B + 1) := by split <;> omega
      rw [← hbh.2] at hbt
      replace hbh := hbh.1
      generalize makeS n.tip n.st.time n.st.cfg.self raws = b at *
      have c4 := hash_m (G := G) b.hd hbk.hd
      generalize hashS b.hd = hk at *
      have hnd : NdOk (B + 1) ⟨n.st, n.tip, n.blocks, n.sent, true, b, n.log⟩ := ⟨hm.st, hm.tip, hm.th, hm.tt, hm.blocks, hm.sent, hm.sk, hbk, by dsimp only; omega, by dsimp only; omega, hm.log⟩
      refine go1 ?_
      refine c_draw [(0, false), (1, false), (2, false), (3, false), (4, false), (5, false), (6, false), (7, false), (8, false), (9, false), (10, false), (11, true), (12, true), (13, false), (14, false)] ?_
      refine go1 ?_
      refine gd_call1 rfl hhq rfl [] (c2) rfl [] trivial (relVs_self _ (by kernel_rfl)) rfl ?_
      refine go1 ?_
      refine gd_call1 rfl hhq rfl [] (c3) rfl [] trivial (relVs_self _ (by kernel_rfl)) rfl ?_
      refine go1 ?_
      refine c_draw [(0, false), (1, false), (2, false), (3, false), (4, false)] ?_
      refine go1 ?_
      refine c_draw [(0, false), (1, false), (2, false), (3, false), (4, false), (5, false), (6, false), (7, false), (8, true), (9, false), (10, false), (11, false)] ?_
      refine go1 ?_
      refine gd_call1 rfl hhq rfl [] (src (c4)) rfl [] trivial (relVs_self _ (by kernel_rfl)) rfl ?_
      refine go1 ?_
      (refine ret_y [_, _] (rvq) (by kernel_rfl) (⟨⟨n.st, n.tip, n.blocks, n.sent, true, b, n.log⟩, ⟨_, _, _, (_, _), (_, _), (_, _), (_, _), (_, _), (_, _), _, _⟩, rfl, hnd⟩))
    ·refine go1 ?_
     refine g_callXC (failed_x n 3 hm) rfl rfl hhq (by kernel_rfl) ?_
     rintro _ ⟨n2, rp, rfl, hn2⟩
     refine go1 ?_
     (refine ret_y [_, _] (rvq) (by kernel_rfl) (⟨n2, rp, rfl, hn2⟩))
 ·refine go1 ?_
  refine g_callXC (failed_x n 1 hm) rfl rfl hhq (by kernel_rfl) ?_
  rintro _ ⟨n2, rp, rfl, hn2⟩
  refine go1 ?_
  (refine ret_y [_, _] (rvq) (by kernel_rfl) (⟨n2, rp, rfl, hn2⟩))
end
section
variable {G : GS}
attribute [local irreducible] vOpsN vOpsG vOpsD vOpGD NextD vC SeqQ BlockQ
theorem head_ky : ∀ (l : List (Option (List (List UInt8)))), headSize (l.map kyO) 1 = true
 | [] => rfl
 | none :: _ => rfl
 | some _ :: _ => rfl
theorem kyo_at2 {l : List (Option (List (List UInt8)))} {k : Nat} (hk : k < l.length) : idxL (l.map kyO) l.length (k : Int) = some (kyO l[k]) := index_at hk (by simp [hk])
theorem kyo_free1 : ∀ l : Option (List (List UInt8)), (kyO l).idFree = true
 | none => rfl
 | some _ => rfl
theorem kyo_free : ∀ l : List (Option (List (List UInt8))), MV.idFrees (l.map kyO) = true
 | [] => rfl
 | a :: l => by
  show ((kyO a).idFree && MV.idFrees (l.map kyO)) = true
  rw [kyo_free1 a, kyo_free l]
  rfl
theorem ky_rel {σ : Nat → Option Nat} {fz : Fz} {v : MV} {ks : List (List UInt8)} (hv : relV σ fz (kyO (some ks)) v) : ∀ (s : List (Option (List (List UInt8)))) (p : Nat), relV.relVs σ fz ((s.set p (some ks)).map kyO) ((s.map kyO).set p v)
 | [], _ => trivial
 | _a :: s, 0 => ⟨hv, relVs_self _ (kyo_free s)⟩
 | a :: s, p + 1 => ⟨relV_self _ (kyo_free1 a), ky_rel hv s p⟩
theorem send_x {B : Nat} (n : NdS) (peer : Int) (hn : NdOk B n) (hB : B ≤ 90000) (hp : 1 ≤ peer ∧ peer ≤ 15) : SemX Tryz.prog G 80 [ndM n, .int .i64 peer] (ND (B + 1)) := by
 have hm := hn.mono (B' := B + 1) (by omega)
 have hse := hn.st.ents
 have hsl := hn.sent
 obtain ⟨p, hpe⟩ : ∃ p : Nat, peer - 1 = p := ⟨(peer - 1).toNat, by omega⟩
 have hp15 : p < n.sent.length := by omega
 have hel : SomF (idxL (n.sent.map kyO) n.sent.length (peer - 1)) (kyO n.sent[p]) := by rw [hpe]; exact SomF.mk (kyo_at2 hp15)
 have hix : SomF (idx n.sent.length (peer - 1)) p := by rw [hpe]; exact SomF.mk (idx_at hp15)
 have hnt : SomF (nthM (n.sent.map kyO) (0 + p)) (kyO n.sent[p]) := SomF.mk (by rw [nthM_eq, Nat.zero_add]; simp [hp15])
 have hkl := hn.sk _ (List.getElem_mem hp15)
 have hne : SideF (n.sent.map kyO ≠ []) := SideF.mk (by intro h; rw [List.map_eq_nil_iff] at h; rw [h] at hsl; cases hsl)
 have heok : ∀ e ∈ n.st.ents, e.key.length = 32 ∧ e.peers.length < 1000000000 ∧ e.raw.length ≤ 1000000 := fun e he => by
  have := hn.st.entk e he
  exact ⟨this.key, by have := this.peers; omega, by have := this.raw; omega⟩
 generalize n.sent[p] = l at *
 cases l with
 | none =>
  replace hkl : Key32 ([] : List (List UInt8)) ∧ ([] : List (List UInt8)).length ≤ B := ⟨by simp [Key32], Nat.zero_le _⟩
  have c1 := next_e (G := G) n.st.ents peer [] hkl.1 (by simp) (by omega) heok
  have hrl := nextE_ok peer [] n.st.ents (fun e he => (hn.st.entk e he).raw)
  generalize nextE peer [] n.st.ents = nx at *
  obtain ⟨raw, ok⟩ := nx
  dsimp only at c1 hrl
  have c2 := sha_m (G := G) raw (by omega)
  have hq := shaS_len raw
  generalize shaS raw = q at *
  obtain ⟨K2, hK2⟩ : ∃ K2, K2 = [] ++ [q] := ⟨_, rfl⟩
  have hK2l : K2.length = 0 + 1 := by rw [hK2]; simp
  have hK2k : Key32 K2 ∧ K2.length ≤ B + 1 := by
   refine ⟨?_, by have := hkl.2; omega⟩
   intro x hx
   rw [hK2] at hx
   rcases List.mem_append.1 hx with hx | hx
   ·exact hkl.1 x hx
   ·rw [List.mem_singleton.1 hx]; exact hq
  obtain ⟨S2, hS2⟩ : ∃ S2, S2 = n.sent.set p (some K2) := ⟨_, rfl⟩
  have hS2l : S2.length = n.sent.length := by rw [hS2, List.length_set]
  have hnd : NdOk (B + 1) ⟨n.st, n.tip, n.blocks, S2, n.held, n.prop, n.log⟩ := ⟨hm.st, hm.tip, hm.th, hm.tt, hm.blocks, by dsimp only; omega, fun l hl => by
   dsimp only at hl
   rw [hS2] at hl
   rcases List.mem_or_eq_of_mem_set hl with hl | rfl
   ·exact hm.sk l hl
   ·exact hK2k, hm.prop, hm.ph, hm.pt, hm.log⟩
  unfold SemX
  refine seq' seat Tryz.func80 57 ?_
  refine go1 ?_
  refine c_draw [(0, false), (1, false), (2, false), (3, false), (4, false), (5, false), (6, false), (7, false), (8, false), (9, false), (10, true), (11, false), (12, false), (13, false), (14, false), (15, false)] ?_
  refine go1 ?_
  refine gd_call1 rfl hhq rfl [] (c1) rfl [] trivial lm rfl ?_
  refine go1 ?_
  cases ok with
  | false =>
   refine go1 ?_
   refine g_callXC (failed_x n 7 hm) rfl rfl hhq (by kernel_rfl) ?_
   rintro _ ⟨n2, rp, rfl, hn2⟩
   refine go1 ?_
   (refine ret_y [_, _] (rvq) (by kernel_rfl) (⟨n2, rp, rfl, hn2⟩))
  | true =>
   refine go1 ?_
   refine g_callC (src (c2)) rfl rfl hhq (by kernel_rfl) ?_
   refine go1 ?_
   ((with_reducible apply g_mem); (case hq => exact rfl); (case hv => exact rfl); (case he => (intro R hR; refine sms hR ?_; refine And.intro ((head_ky _)) ?_; refine And.intro ⟨rfl, app_ok (by kernel_rfl) pf⟩ ?_; refine ⟨n.sent.map kyO, sv (by rfl), n.sent.length, sv pf, ?_⟩; exact hR)); (case hd => exact rfl))
   refine gor ?_
   refine n_reQ ([(1, .int .i64 peer), (2, .ptr 0 259 0 0 []), (4, .ptr 1 259 0 0 []), (5, .ptr 2 73 0 0 []), (6, .sl raw.length (u8s raw)), (8, .ptr 3 32 0 0 []), (9, .ms 4 1 0 n.sent.length)]) ([(0, ⟨81, 259, false, 0, [ndM n]⟩), (1, ⟨81, 259, false, 0, [ndZ]⟩), (2, ⟨107, 73, false, 0, [rpZ]⟩), (3, ⟨25, 32, false, 0, [keyM q]⟩), (4, ⟨44, 1, false, 0, n.sent.map kyO⟩)]) (5) (vm [(0, _), (1, _), (2, _), (3, _), (4, _)] []) ?_
   refine c_seq ?_
   refine c_draw [(0, false), (1, false), (2, false), (3, false), (4, false), (5, false), (6, false), (7, false), (8, false), (9, false), (10, false), (11, false), (12, false), (13, false), (14, false)] ?_
   refine go1 ?_
   ((with_reducible apply gd_mem); (case hv => exact rfl); (case he => (intro R hR; refine sms hR ?_; (refine And.intro ⟨rfl, app_ok (by kernel_rfl) pf⟩ ?_; refine ⟨[], sv rfl, 0, sv pf, ?_⟩); exact hR)); (case hd => exact rfl))
   refine go1 ?_
   ((with_reducible apply gd_mem); (case hv => exact rfl); (case he => (intro R hR; refine sms hR ?_; (refine And.intro (Nat.le_refl _) ?_; refine ⟨_, rfl, ?_⟩; refine And.intro ⟨(by simp), app_ok (by kernel_rfl) pf⟩ ?_; refine ⟨K2.map keyM, sv (by rw [hK2, List.map_append]; rfl), K2.length, sv pf, ?_⟩); exact hR)); (case hd => exact rfl))
   iterate 4 (refine gos ?_)
   delta SeqQ
   rw [← hS2l]
   refine Rs.re [(2, .ptr 0 259 0 0 []), (4, .ptr 1 259 0 0 []), (5, .ptr 2 73 0 0 []), (6, .sl raw.length (u8s raw)), (8, .ptr 3 32 0 0 []), (9, .ms 4 1 0 S2.length)] [(4, ⟨44, 1, true, 0, S2.map kyO⟩), (0, ⟨81, 259, false, 0, [ndM n]⟩), (1, ⟨81, 259, false, 0, [ndZ]⟩), (2, ⟨107, 73, false, 0, [rpZ]⟩), (3, ⟨25, 32, false, 0, [keyM q]⟩)] 5 (VMatch.of [(0, 0), (1, 1), (2, 2), (3, 3), (4, 4)] [(17, K2.length)] mm ?_ rfl ⟨by show K2.length ≤ (K2.map keyM).length; simp, trivial⟩ rfl) ?_
   ·refine ⟨.inr ⟨_, _, rfl, rfl, rfl, rfl, .inr (.inr ⟨rfl, rfl, kyo_free S2⟩), .inl rfl, .inr ?_⟩, mm⟩
    rw [hS2]
    show relV.relVs _ _ _ (setL (n.sent.map kyO) (0 + p) (.ms 17 32 0 K2.length))
    rw [setL_eq, Nat.zero_add]
    refine ky_rel ?_ n.sent p
    exact .inr ⟨rfl, rfl, rfl, Nat.le_of_eq (Nat.zero_add _), cut_all keyM K2⟩
   iterate 1 (refine gos ?_)
   refine n_re ([(2, .ptr 0 259 0 0 []), (4, .ptr 1 259 0 0 []), (5, .ptr 2 73 0 0 []), (6, .sl raw.length (u8s raw)), (8, .ptr 3 32 0 0 []), (9, .sl S2.length (S2.map kyO))]) ([(0, ⟨81, 259, false, 0, [ndM n]⟩), (1, ⟨81, 259, false, 0, [ndZ]⟩), (2, ⟨107, 73, false, 0, [rpZ]⟩), (3, ⟨25, 32, false, 0, [keyM q]⟩)]) [(4, S2.length)] mm rfl mm mm ?_
   refine go1 ?_
   refine c_draw [(0, false), (1, false), (2, false), (3, false), (4, false), (5, false), (6, false)] ?_
   refine go1 ?_
   (refine ret_w [_, _] [ndM ⟨n.st, n.tip, n.blocks, S2, n.held, n.prop, n.log⟩, rpM ⟨0, u8s q, 0, (0, []), (0, []), (0, []), (0, []), (0, []), (1, [rawM raw]), 0, k0⟩] [(11, 1)] (rvq) ?_ ?_ (by kernel_rfl) (⟨_, _, rfl, hnd⟩))
   ·exact ⟨Nat.le_refl 1, trivial⟩
   ·exact lm
 | some ks =>
  replace hkl : Key32 ks ∧ ks.length ≤ B := hkl
  have c1 := next_e (G := G) n.st.ents peer ks hkl.1 (by have := hkl.2; omega) (by omega) heok
  have hrl := nextE_ok peer ks n.st.ents (fun e he => (hn.st.entk e he).raw)
  generalize nextE peer ks n.st.ents = nx at *
  obtain ⟨raw, ok⟩ := nx
  dsimp only at c1 hrl
  have c2 := sha_m (G := G) raw (by omega)
  have hq := shaS_len raw
  generalize shaS raw = q at *
  obtain ⟨K2, hK2⟩ : ∃ K2, K2 = ks ++ [q] := ⟨_, rfl⟩
  have hK2l : K2.length = ks.length + 1 := by rw [hK2]; simp
  have hK2k : Key32 K2 ∧ K2.length ≤ B + 1 := by
   refine ⟨?_, by have := hkl.2; omega⟩
   intro x hx
   rw [hK2] at hx
   rcases List.mem_append.1 hx with hx | hx
   ·exact hkl.1 x hx
   ·rw [List.mem_singleton.1 hx]; exact hq
  obtain ⟨S2, hS2⟩ : ∃ S2, S2 = n.sent.set p (some K2) := ⟨_, rfl⟩
  have hS2l : S2.length = n.sent.length := by rw [hS2, List.length_set]
  have hnd : NdOk (B + 1) ⟨n.st, n.tip, n.blocks, S2, n.held, n.prop, n.log⟩ := ⟨hm.st, hm.tip, hm.th, hm.tt, hm.blocks, by dsimp only; omega, fun l hl => by
   dsimp only at hl
   rw [hS2] at hl
   rcases List.mem_or_eq_of_mem_set hl with hl | rfl
   ·exact hm.sk l hl
   ·exact hK2k, hm.prop, hm.ph, hm.pt, hm.log⟩
  unfold SemX
  refine seq' seat Tryz.func80 57 ?_
  refine go1 ?_
  refine c_draw [(0, false), (1, false), (2, false), (3, false), (4, false), (5, false), (6, false), (7, false), (8, false), (9, false), (10, true), (11, false), (12, false), (13, false), (14, false), (15, false)] ?_
  refine go1 ?_
  refine gd_call1 rfl hhq rfl [] (c1) rfl [] trivial lm rfl ?_
  refine go1 ?_
  cases ok with
  | false =>
   refine go1 ?_
   refine g_callXC (failed_x n 7 hm) rfl rfl hhq (by kernel_rfl) ?_
   rintro _ ⟨n2, rp, rfl, hn2⟩
   refine go1 ?_
   (refine ret_y [_, _] (rvq) (by kernel_rfl) (⟨n2, rp, rfl, hn2⟩))
  | true =>
   refine go1 ?_
   refine g_callC (src (c2)) rfl rfl hhq (by kernel_rfl) ?_
   refine go1 ?_
   ((with_reducible apply g_mem); (case hq => exact rfl); (case hv => exact rfl); (case he => (intro R hR; refine sms hR ?_; refine And.intro ((head_ky _)) ?_; refine And.intro ⟨rfl, app_ok (by kernel_rfl) pf⟩ ?_; refine ⟨n.sent.map kyO, sv (by rfl), n.sent.length, sv pf, ?_⟩; exact hR)); (case hd => exact rfl))
   refine gor ?_
   refine n_reQ ([(1, .int .i64 peer), (2, .ptr 0 259 0 0 []), (4, .ptr 1 259 0 0 []), (5, .ptr 2 73 0 0 []), (6, .sl raw.length (u8s raw)), (8, .ptr 3 32 0 0 []), (9, .ms 4 1 0 n.sent.length)]) ([(0, ⟨81, 259, false, 0, [ndM n]⟩), (1, ⟨81, 259, false, 0, [ndZ]⟩), (2, ⟨107, 73, false, 0, [rpZ]⟩), (3, ⟨25, 32, false, 0, [keyM q]⟩), (4, ⟨44, 1, false, 0, n.sent.map kyO⟩)]) (5) (vm [(0, _), (1, _), (2, _), (3, _), (4, _)] []) ?_
   refine c_seq ?_
   refine c_draw [(0, false), (1, false), (2, false), (3, false), (4, false), (5, false), (6, false), (7, false), (8, false), (9, false), (10, false), (11, false), (12, false), (13, false), (14, false)] ?_
   refine go1 ?_
   ((with_reducible apply gd_mem); (case hv => exact rfl); (case he => (intro R hR; refine sms hR ?_; refine And.intro ((head_keys ks)) ?_; refine And.intro ⟨rfl, app_ok (by kernel_rfl) pf⟩ ?_; refine ⟨ks.map keyM, sv (by rfl), ks.length, sv pf, ?_⟩; exact hR)); (case hd => exact rfl))
   refine go1 ?_
   ((with_reducible apply gd_mem); (case hv => exact rfl); (case he => (intro R hR; refine sms hR ?_; (refine And.intro (Nat.le_refl _) ?_; refine ⟨_, rfl, ?_⟩; refine And.intro ⟨(by simp), app_ok (by kernel_rfl) pf⟩ ?_; refine ⟨K2.map keyM, sv (by rw [hK2, List.map_append]; rfl), K2.length, sv pf, ?_⟩); exact hR)); (case hd => exact rfl))
   iterate 4 (refine gos ?_)
   delta SeqQ
   rw [← hS2l]
   refine Rs.re [(2, .ptr 0 259 0 0 []), (4, .ptr 1 259 0 0 []), (5, .ptr 2 73 0 0 []), (6, .sl raw.length (u8s raw)), (8, .ptr 3 32 0 0 []), (9, .ms 4 1 0 S2.length)] [(4, ⟨44, 1, true, 0, S2.map kyO⟩), (0, ⟨81, 259, false, 0, [ndM n]⟩), (1, ⟨81, 259, false, 0, [ndZ]⟩), (2, ⟨107, 73, false, 0, [rpZ]⟩), (3, ⟨25, 32, false, 0, [keyM q]⟩)] 5 (VMatch.of [(0, 0), (1, 1), (2, 2), (3, 3), (4, 4)] [(17, K2.length)] mm ?_ rfl ⟨by show K2.length ≤ (K2.map keyM).length; simp, trivial⟩ rfl) ?_
   ·refine ⟨.inr ⟨_, _, rfl, rfl, rfl, rfl, .inr (.inr ⟨rfl, rfl, kyo_free S2⟩), .inl rfl, .inr ?_⟩, mm⟩
    rw [hS2]
    show relV.relVs _ _ _ (setL (n.sent.map kyO) (0 + p) (.ms 17 32 0 K2.length))
    rw [setL_eq, Nat.zero_add]
    refine ky_rel ?_ n.sent p
    exact .inr ⟨rfl, rfl, rfl, Nat.le_of_eq (Nat.zero_add _), cut_all keyM K2⟩
   iterate 1 (refine gos ?_)
   refine n_re ([(2, .ptr 0 259 0 0 []), (4, .ptr 1 259 0 0 []), (5, .ptr 2 73 0 0 []), (6, .sl raw.length (u8s raw)), (8, .ptr 3 32 0 0 []), (9, .sl S2.length (S2.map kyO))]) ([(0, ⟨81, 259, false, 0, [ndM n]⟩), (1, ⟨81, 259, false, 0, [ndZ]⟩), (2, ⟨107, 73, false, 0, [rpZ]⟩), (3, ⟨25, 32, false, 0, [keyM q]⟩)]) [(4, S2.length)] mm rfl mm mm ?_
   refine go1 ?_
   refine c_draw [(0, false), (1, false), (2, false), (3, false), (4, false), (5, false), (6, false)] ?_
   refine go1 ?_
   (refine ret_w [_, _] [ndM ⟨n.st, n.tip, n.blocks, S2, n.held, n.prop, n.log⟩, rpM ⟨0, u8s q, 0, (0, []), (0, []), (0, []), (0, []), (0, []), (1, [rawM raw]), 0, k0⟩] [(11, 1)] (rvq) ?_ ?_ (by kernel_rfl) (⟨_, _, rfl, hnd⟩))
   ·exact ⟨Nat.le_refl 1, trivial⟩
   ·exact lm
end
section
variable {G : GS}
attribute [local irreducible] vOpsN vOpsG vOpsD vOpGD NextD vC SeqQ BlockQ
abbrev opA (k n b g : Int) (raw : List UInt8) : MV := .st [.int .i64 k, .int .i64 n, .int .i64 b, .int .i64 g, .sl raw.length (u8s raw)]
theorem NdOk.with_st {B : Nat} {n : NdS} {s : StS} (h : NdOk B n) (hs : StOk B s) : NdOk B ⟨s, n.tip, n.blocks, n.sent, n.held, n.prop, n.log⟩ := ⟨hs, h.tip, h.th, h.tt, h.blocks, h.sent, h.sk, h.prop, h.ph, h.pt, h.log⟩
theorem do1_x {B : Nat} (n : NdS) (on ob og : Int) (raw : List UInt8) (hn : NdOk B n) (hB : B ≤ 80000) (hr : raw.length ≤ 4096) : SemX Tryz.prog G 47 [ndM n, opA 1 on ob og raw] (ND (B + 1)) := by
 have hm := hn.mono (B' := B + 1) (by omega)
 unfold SemX
 refine seq' seat Tryz.func47 157 ?_
 refine go1 ?_
 (refine n_grd ⟨rfl, rfl, rfl⟩ ?_ ?_ <;> intro h)
 all_goals
  refine go1 ?_
  refine g_callXC (pcheck_x (G := G) n.st raw 0 (by omega) hn.st (by omega)) rfl rfl hhq (by kernel_rfl) ?_
  rintro _ ⟨s2, rp, rfl, hs2⟩
  refine go1 ?_
  refine c_draw [(0, false), (1, false), (2, false), (3, false)] ?_
  refine go1 ?_
  (refine ret_y [_, _] (rvq) (by kernel_rfl) (⟨⟨s2, n.tip, n.blocks, n.sent, n.held, n.prop, n.log⟩, rp, rfl, hm.with_st hs2⟩))
theorem do2_x {B : Nat} (n : NdS) (on ob og : Int) (raw : List UInt8) (hn : NdOk B n) (hB : B ≤ 80000) (hr : raw.length ≤ 4096) : SemX Tryz.prog G 47 [ndM n, opA 2 on ob og raw] (ND (B + 1)) := by
 have hm := hn.mono (B' := B + 1) (by omega)
 unfold SemX
 refine seq' seat Tryz.func47 157 ?_
 refine go1 ?_
 (refine n_grd ⟨rfl, rfl, rfl⟩ ?_ ?_ <;> intro h)
 ·refine go1 ?_
  (refine c_cond rfl ?_ ?_ <;> intro h)
  ·refine go1 ?_
   refine g_callXC (failed_x n 1 hm) rfl rfl hhq (by kernel_rfl) ?_
   rintro _ ⟨n2, rp, rfl, hn2⟩
   refine go1 ?_
   (refine ret_y [_, _] (rvq) (by kernel_rfl) (⟨n2, rp, rfl, hn2⟩))
  ·refine go1 ?_
   refine g_callXC (pcheck_x (G := G) n.st raw on (by omega) hn.st (by omega)) rfl rfl hhq (by kernel_rfl) ?_
   rintro _ ⟨s2, rp, rfl, hs2⟩
   refine go1 ?_
   refine c_draw [(0, false), (1, false), (2, false), (3, false)] ?_
   refine go1 ?_
   (refine ret_y [_, _] (rvq) (by kernel_rfl) (⟨⟨s2, n.tip, n.blocks, n.sent, n.held, n.prop, n.log⟩, rp, rfl, hm.with_st hs2⟩))
 ·refine go1 ?_
  refine g_callXC (failed_x n 1 hm) rfl rfl hhq (by kernel_rfl) ?_
  rintro _ ⟨n2, rp, rfl, hn2⟩
  refine go1 ?_
  (refine ret_y [_, _] (rvq) (by kernel_rfl) (⟨n2, rp, rfl, hn2⟩))
theorem do3_x {B : Nat} (n : NdS) (on ob og : Int) (raw : List UInt8) (hn : NdOk B n) (hB : B ≤ 80000) (ht : -9223372036854775808 ≤ on ∧ on ≤ 100) : SemX Tryz.prog G 47 [ndM n, opA 3 on ob og raw] (ND (B + 1)) := by
 have hm := hn.mono (B' := B + 1) (by omega)
 have hst := hn.st.time
 unfold SemX
 refine seq' seat Tryz.func47 157 ?_
 refine go1 ?_
 (refine n_grd ⟨rfl, rfl, rfl⟩ ?_ ?_ <;> intro h)
 all_goals
  refine go1 ?_
  (refine n_grd ⟨rfl, rfl, rfl⟩ ?_ ?_ <;> intro h)
  ·have q1 := of_decide_eq_false h
   refine go1 ?_
   (refine c_cond rfl ?_ ?_ <;> intro h)
   ·refine go1 ?_
    refine g_callXC (failed_x n 1 hm) rfl rfl hhq (by kernel_rfl) ?_
    rintro _ ⟨n2, rp, rfl, hn2⟩
    refine go1 ?_
    (refine ret_y [_, _] (rvq) (by kernel_rfl) (⟨n2, rp, rfl, hn2⟩))
   ·refine go1 ?_
    refine c_draw [(0, false), (1, false), (2, false), (3, false)] ?_
    refine go1 ?_
    (refine ret_y [_, _] (rvq) (by kernel_rfl) (⟨⟨{ n.st with time := n.st.time + on }, n.tip, n.blocks, n.sent, n.held, n.prop, n.log⟩, ⟨_, _, _, (_, _), (_, _), (_, _), (_, _), (_, _), (_, _), _, _⟩, rfl, hm.with_st ⟨hm.st.cfg, hm.st.app, hm.st.height, by dsimp only; omega, hm.st.arr, hm.st.ents, hm.st.entk, hm.st.cache, hm.st.ck⟩⟩))
  ·refine go1 ?_
   refine g_callXC (failed_x n 1 hm) rfl rfl hhq (by kernel_rfl) ?_
   rintro _ ⟨n2, rp, rfl, hn2⟩
   refine go1 ?_
   (refine ret_y [_, _] (rvq) (by kernel_rfl) (⟨n2, rp, rfl, hn2⟩))
theorem do4_x {B : Nat} (n : NdS) (on ob og : Int) (raw : List UInt8) (hn : NdOk B n) (hB : B ≤ 80000) (h1 : I64 ob) (h2 : I64 og) : SemX Tryz.prog G 47 [ndM n, opA 4 on ob og raw] (ND (B + 1)) := by
 have hm := hn.mono (B' := B + 1) (by omega)
 unfold SemX
 refine seq' seat Tryz.func47 157 ?_
 refine go1 ?_
 (refine n_grd ⟨rfl, rfl, rfl⟩ ?_ ?_ <;> intro h)
 all_goals
  refine go1 ?_
  refine g_callXC (propose_x (G := G) n ⟨4, on, ob, og, raw⟩ hn (by omega) h1 h2) rfl rfl hhq (by kernel_rfl) ?_
  rintro _ ⟨n2, rp, rfl, hn2⟩
  refine go1 ?_
  (refine ret_y [_, _] (rvq) (by kernel_rfl) (⟨n2, rp, rfl, hn2⟩))
theorem do5_x {B : Nat} (n : NdS) (on ob og : Int) (raw : List UInt8) (hn : NdOk B n) (hB : B ≤ 80000)  : SemX Tryz.prog G 47 [ndM n, opA 5 on ob og raw] (ND (B + 1)) := by
 have hm := hn.mono (B' := B + 1) (by omega)
 obtain ⟨nst, ntip, nblocks, nsent, hh, nprop, nlog⟩ := n
 unfold SemX
 refine seq' seat Tryz.func47 157 ?_
 refine go1 ?_
 (refine n_grd ⟨rfl, rfl, rfl⟩ ?_ ?_ <;> intro h)
 all_goals
  cases hh with
  | false =>
   refine go1 ?_
   refine g_callXC (failed_x ⟨nst, ntip, nblocks, nsent, false, nprop, nlog⟩ 9 hm) rfl rfl hhq (by kernel_rfl) ?_
   rintro _ ⟨n2, rp, rfl, hn2⟩
   refine go1 ?_
   (refine ret_y [_, _] (rvq) (by kernel_rfl) (⟨n2, rp, rfl, hn2⟩))
  | true =>
   refine go1 ?_
   refine g_callXC (commit_x (G := G) ⟨nst, ntip, nblocks, nsent, true, nprop, nlog⟩ nprop hn (by omega) hn.prop (by have := hn.ph; dsimp only at this; omega) (by have := hn.pt; dsimp only at this; omega)) rfl rfl hhq (by kernel_rfl) ?_
   rintro _ ⟨n2, rp, rfl, hn2⟩
   refine go1 ?_
   (refine ret_y [_, _] (rvq) (by kernel_rfl) (⟨n2, rp, rfl, hn2⟩))
theorem do6_x {B : Nat} (n : NdS) (on ob og : Int) (raw : List UInt8) (hn : NdOk B n) (_hB : B ≤ 80000) (b0 : BlkS) (h0 : BlkOk b0) (hr : raw = bkS b0) : SemX Tryz.prog G 47 [ndM n, opA 6 on ob og raw] (ND (B + 1)) := by
 have hm := hn.mono (B' := B + 1) (by omega)
 have cV := validate_x (G := G) n b0 hn h0
 rw [← hr] at cV
 unfold SemX
 refine seq' seat Tryz.func47 157 ?_
 refine go1 ?_
 (refine n_grd ⟨rfl, rfl, rfl⟩ ?_ ?_ <;> intro h)
 all_goals
  refine go1 ?_
  refine g_callXC (cV) rfl rfl hhq (by kernel_rfl) ?_
  rintro _ ⟨n2, rp, rfl, hn2⟩
  refine go1 ?_
  (refine ret_y [_, _] (rvq) (by kernel_rfl) (⟨n2, rp, rfl, hn2.mono (by omega)⟩))
theorem do7_x {B : Nat} (n : NdS) (on ob og : Int) (raw : List UInt8) (hn : NdOk B n) (hB : B ≤ 80000) (b0 : BlkS) (h0 : BlkOk b0) (hr : raw = bkS b0) (hbt : b0.hd.time ≤ 100 * (B + 1)) : SemX Tryz.prog G 47 [ndM n, opA 7 on ob og raw] (ND (B + 1)) := by
 have hm := hn.mono (B' := B + 1) (by omega)
 have cV := foreign_x (G := G) n b0 hn h0
 rw [← hr] at cV
 have hth := hn.th
 unfold SemX
 refine seq' seat Tryz.func47 157 ?_
 refine go1 ?_
 (refine n_grd ⟨rfl, rfl, rfl⟩ ?_ ?_ <;> intro h)
 all_goals
  refine go1 ?_
  refine g_callXC (cV) rfl rfl hhq (by kernel_rfl) ?_
  rintro _ ⟨b, e, rfl, he, hb, hg⟩
  refine go1 ?_
  (refine c_cond rfl ?_ ?_ <;> intro h)
  ·refine go1 ?_
   refine g_callXC (failed_x n e hm) rfl rfl hhq (by kernel_rfl) ?_
   rintro _ ⟨n2, rp, rfl, hn2⟩
   refine go1 ?_
   (refine ret_y [_, _] (rvq) (by kernel_rfl) (⟨n2, rp, rfl, hn2⟩))
  ·have he0 : e = 0 := by simpa using h
   obtain ⟨g1, g2⟩ := hg he0
   have hbh : b.hd.height ≤ B + 1 := by omega
   have hbt2 : b.hd.time ≤ 100 * (B + 1) := by have := g1.t2; unfold natP at this; omega
   refine go1 ?_
   refine g_callXC (commit_x (G := G) n b hn (by omega) hb hbh hbt2) rfl rfl hhq (by kernel_rfl) ?_
   rintro _ ⟨n2, rp, rfl, hn2⟩
   refine go1 ?_
   (refine ret_y [_, _] (rvq) (by kernel_rfl) (⟨n2, rp, rfl, hn2⟩))
theorem do8_x {B : Nat} (n : NdS) (on ob og : Int) (raw : List UInt8) (hn : NdOk B n) (hB : B ≤ 80000)  : SemX Tryz.prog G 47 [ndM n, opA 8 on ob og raw] (ND (B + 1)) := by
 have hm := hn.mono (B' := B + 1) (by omega)
 unfold SemX
 refine seq' seat Tryz.func47 157 ?_
 refine go1 ?_
 (refine n_grd ⟨rfl, rfl, rfl⟩ ?_ ?_ <;> intro h)
 all_goals
  refine go1 ?_
  refine g_callXC (flush_x (G := G) n hn (by omega)) rfl rfl hhq (by kernel_rfl) ?_
  rintro _ ⟨n2, rp, rfl, hn2⟩
  refine go1 ?_
  (refine ret_y [_, _] (rvq) (by kernel_rfl) (⟨n2, rp, rfl, hn2.mono (by omega)⟩))
theorem do9_x {B : Nat} (n : NdS) (on ob og : Int) (raw : List UInt8) (hn : NdOk B n) (hB : B ≤ 80000)  : SemX Tryz.prog G 47 [ndM n, opA 9 on ob og raw] (ND (B + 1)) := by
 have hm := hn.mono (B' := B + 1) (by omega)
 unfold SemX
 refine seq' seat Tryz.func47 157 ?_
 refine go1 ?_
 (refine n_grd ⟨rfl, rfl, rfl⟩ ?_ ?_ <;> intro h)
 ·have q0 := of_decide_eq_true h
  refine go1 ?_
  (refine c_cond rfl ?_ ?_ <;> intro h)
  ·refine go1 ?_
   refine g_callXC (failed_x n 1 hm) rfl rfl hhq (by kernel_rfl) ?_
   rintro _ ⟨n2, rp, rfl, hn2⟩
   refine go1 ?_
   (refine ret_y [_, _] (rvq) (by kernel_rfl) (⟨n2, rp, rfl, hn2⟩))
  ·have q1 : on ≤ 15 := by simpa using h
   refine go1 ?_
   refine g_callXC (send_x (G := G) n on hn (by omega) ⟨q0, q1⟩) rfl rfl hhq (by kernel_rfl) ?_
   rintro _ ⟨n2, rp, rfl, hn2⟩
   refine go1 ?_
   (refine ret_y [_, _] (rvq) (by kernel_rfl) (⟨n2, rp, rfl, hn2⟩))
 ·refine go1 ?_
  refine g_callXC (failed_x n 1 hm) rfl rfl hhq (by kernel_rfl) ?_
  rintro _ ⟨n2, rp, rfl, hn2⟩
  refine go1 ?_
  (refine ret_y [_, _] (rvq) (by kernel_rfl) (⟨n2, rp, rfl, hn2⟩))
end
section
theorem inner_short {x : TrS} (h : x.to_.length ≤ 5) (ha : U64 x.amt) : okF (trF x) ∧ (trF x).bytes.length ≤ 50 := by
 have h1 := textF_ok (n := 1) (s := x.to_) (by omega) (by omega) 5 h (by omega)
 have h2 := numF_ok (n := 2) (v := x.amt) (by omega) (by omega) 5 ha
 have h3 := msgS_len_le 5 (textF 1 x.to_ ++ numF 2 x.amt) (all_app h1.1 h2.1)
 have h4 : (textF 1 x.to_ ++ numF 2 x.amt).length ≤ 2 := by rw [List.length_append]; omega
 have h5 : (textF 1 x.to_ ++ numF 2 x.amt).length * (5 + 20) ≤ 2 * (5 + 20) := Nat.mul_le_mul_right _ h4
 have h6 : (msgS (textF 1 x.to_ ++ numF 2 x.amt)).length ≤ 50 := by omega
 exact ⟨okF_2 (by omega) (by omega) (by show (msgS (textF 1 x.to_ ++ numF 2 x.amt)).length < _; omega), h6⟩
theorem form_short {t : TxS} (h : SmTx t) (hs : t.sender.length ≤ 20) (hm : t.memo.length ≤ 50) (hn : t.trs.length ≤ 3) (hx : ∀ x ∈ t.trs, x.to_.length ≤ 5) : (formS t).length ≤ 560 := by
 obtain ⟨_, q1, q2, q3, _, _, q4⟩ := h
 have h1 := textF_ok (n := 1) (s := t.sender) (by omega) (by omega) 50 (by omega) (by omega)
 have h2 := numF_ok (n := 2) (v := t.seq) (by omega) (by omega) 50 q1
 have h3 := numF_ok (n := 3) (v := t.gas) (by omega) (by omega) 50 q2
 have h4 := numF_ok (n := 4) (v := t.fee) (by omega) (by omega) 50 q3
 have h5 := textF_ok (n := 5) (s := t.memo) (by omega) (by omega) 50 hm (by omega)
 have h6 : ∀ f ∈ t.trs.map trF, okF f ∧ f.bytes.length ≤ 50 := by
  intro f hf
  obtain ⟨x, hxm, rfl⟩ := List.mem_map.1 hf
  exact inner_short (hx x hxm) (q4 x hxm).2
 have ha := all_app (all_app (all_app (all_app (all_app h1.1 h2.1) h3.1) h4.1) h5.1) h6
 have h7 := msgS_len_le 50 (formF t) ha
 have h8 : (formF t).length ≤ 8 := by
  unfold formF
  simp only [List.length_append, List.length_map]
  omega
 have h9 : (formF t).length * (50 + 20) ≤ 8 * (50 + 20) := Nat.mul_le_mul_right _ h8
 unfold formS
 omega
theorem encode_short {t : TxS} (h : SmTx t) (hm : t.memo.length ≤ 50) (hn : t.trs.length ≤ 3) (hx : ∀ x ∈ t.trs, x.to_.length ≤ 5) : (encodeS t).1.length ≤ 560 := by
 unfold encodeS
 split
 ·simp
 ·rename_i hv
  split
  ·simp
  ·refine form_short h ?_ hm hn hx
   unfold validTxS at hv
   split at hv
   ·simp at hv
   ·rename_i hname
    unfold nameS at hname
    simp at hname
    omega
theorem txG_short {L : List Int} {N : Nat} {acs : List AcS} {price : Nat} (h : ∀ a ∈ acs, SmAc a) : (encodeS (txG L N acs price).1).1.length ≤ 560 := by
 refine encode_short (txG_ok h).1 ?_ ?_ ?_
 ·exact memoV_len L (N + 2)
 ·unfold txG
  dsimp only
  rw [xsS_len]
  have := (nextN_eq L (tx3 L ((tx2 L (tx1 L N acs).2.2 (tx1 L N acs).2.1).2 + 1) ((150 + nextN L (N + 1) 6 * 40) * price % 18446744073709551616 * (1 + nextN L (tx2 L (tx1 L N acs).2.2 (tx1 L N acs).2.1).2 5) % 18446744073709551616)).2 3 (by omega)).2
  omega
 ·unfold txG
  dsimp only
  intro x hx
  obtain ⟨i, _, rfl⟩ := List.mem_map.1 hx
  exact nameV_len L _
theorem rawG_short {L : List Int} {N : Nat} {acs : List AcS} {price : Nat} (h : ∀ a ∈ acs, SmAc a) : (rawG L N acs price).1.length ≤ 560 := by
 have h2 := txG_short (L := L) (N := N) (price := price) h
 have h3 := rawB_ok L (txG L N acs price).2 (encodeS (txG L N acs price).1).1
 unfold rawG
 omega
theorem pickR_short {L : List Int} {N : Nat} {raw : List UInt8} {out : List (List UInt8)} (h : raw.length ≤ 560) (ho : ∀ b ∈ out, b.length ≤ 560) : (pickR L N raw out).1.length ≤ 560 := by
 unfold pickR
 split
 ·exact h
 ·split
  ·exact h
  ·dsimp only
   rw [List.getD_eq_getElem?_getD]
   cases hx : out[nextN L (N + 1) out.length]? with
   | none => simp
   | some x => exact ho x (List.mem_of_getElem? hx)
theorem rawsG_short (L : List Int) (price : Nat) : ∀ (i N : Nat) (l : LgS) (out : List (List UInt8)), SmLg l → (∀ b ∈ out, b.length ≤ 560) → ∀ b ∈ (rawsG L price i N l out).1, b.length ≤ 560
 | 0, N, l, out, _, ho => ho
 | i + 1, N, l, out, hl, ho => by
  have h2 := pickR_short (L := L) (N := (rawG L N l.acs price).2) (rawG_short (L := L) (N := N) (price := price) hl.2.2) ho
  exact rawsG_short L price i (pickR L (rawG L N l.acs price).2 (rawG L N l.acs price).1 out).2 (afterS l price (pickR L (rawG L N l.acs price).2 (rawG L N l.acs price).1 out).1) (out ++ [(pickR L (rawG L N l.acs price).2 (rawG L N l.acs price).1 out).1]) (txS_sm hl).1 (all_app ho fun b hb => by rw [List.mem_singleton.1 hb]; exact h2)
theorem raws_sum {L : List Int} {N : Nat} {a : AppS} (ha : SmApp a) : sumB (rawsS L N a 4).1 ≤ 2284 := by
 have h1 := rawsG_short L a.price (nextN L N 5) (N + 1) a.com [] ha.1 (by simp)
 have h2 := (rawsS_ok (L := L) (N := N) (n := 4) ha (by omega)).2.1
 have h3 := sumB_le 560 (rawsS L N a 4).1 (fun b hb => ⟨h1 b hb, by have := h1 b hb; unfold U64; omega⟩)
 have h4 : (rawsS L N a 4).1.length * (560 + 11) ≤ 4 * (560 + 11) := Nat.mul_le_mul_right _ h2
 omega
end
section
variable {G : GS}
attribute [local irreducible] vOpsN vOpsG vOpsD vOpGD NextD vC SeqQ BlockQ
def totR (l : List (List UInt8)) : Nat := (l.map fun b => b.length + 3).sum
theorem totR_take (l : List (List UInt8)) {k : Nat} (hk : k < l.length) : totR (l.take (k + 1)) = totR (l.take k) + (l[k].length + 3) := by
 unfold totR
 rw [List.take_succ_eq_append_getElem hk, List.map_append, List.sum_append]
 simp
theorem totR_le (B : Nat) : ∀ (l : List (List UInt8)), (∀ b ∈ l, b.length ≤ B) → totR l ≤ l.length * (B + 3)
 | [], _ => by simp [totR]
 | b :: l, h => by
  have h2 := h b (by simp)
  have ih := totR_le B l fun x hx => h x (by simp [hx])
  have e : totR (b :: l) = b.length + 3 + totR l := by simp [totR]
  rw [e, List.length_cons, Nat.add_mul]
  omega
theorem totR_cut (l : List (List UInt8)) (k : Nat) : totR (l.take k) ≤ totR l := by
 have : totR (l.take k) + totR (l.drop k) = totR l := by
  unfold totR
  rw [← List.sum_append, ← List.map_append, List.take_append_drop]
 omega
theorem totalR_m (l : List (List UInt8)) (hl : l.length ≤ 1000000) (hb : ∀ b ∈ l, b.length ≤ 4096) : SemC Tryz.prog G 112 [.sl l.length (l.map rawM)] (.int .i64 (totR l)) := by
 have hsum := totR_le 4096 l hb
 have hmax : l.length * (4096 + 3) ≤ 1000000 * 4099 := Nat.mul_le_mul_right _ hl
 refine scq seat Tryz.func112 19 ?_
 refine go1 ?_
 refine c_loop Nat (fun k => [(8, .int .i64 k), (7, .int .i64 l.length), (6, .sl l.length (l.map rawM)), (3, .int .i64 (totR (l.take k)))]) (fun _ => []) 0 (fun k => k ≤ l.length) (fun k => l.length - k) 0 (Nat.zero_le _) (by rw [List.take_zero]; exact (vm [] [])) ?_
 intro k hk
 try dsimp only
 refine go1 ?_
 (refine c_cond rfl ?_ ?_ <;> intro h)
 ·have hk' : k < l.length := by have := of_decide_eq_true h; omega
  have hel := raws_at hk'
  have hbl := hb _ (List.getElem_mem hk')
  have hsucc := totR_take l hk'
  have hc1 := totR_cut l k
  have hc2 := totR_cut l (k + 1)
  generalize l[k] = b at *
  replace hel : idxL (l.map rawM) l.length (k : Int) = some (.sl b.length (u8s b)) := hel
  have hel := SomF.mk hel
  refine go1 ?_
  exact ⟨k + 1, by show k + 1 ≤ l.length; omega, by show l.length - (k + 1) < l.length - k; omega, (by dsimp only; rw [hsucc]; exact (vm [] []))⟩
 ·have hk' : k = l.length := by have := of_decide_eq_false h; omega
  subst hk'
  rw [List.take_length]
  refine go1 ?_
  (refine ret_c [_] rfl (by kernel_rfl) ?_; (refine go0 ?_); exact rfl)
theorem hk_get {a b c : Int} {t u v x : MV} {k : List UInt8} {i : Nat} (h : i < k.length) : getPO (.st [.st [.int .i64 a, .int .i64 b, .int .i64 c, keyM k, t, u, v], x]) ([] ++ [0] ++ [3] ++ [i]) (0 + 0 + 3 + i * 1) = some (u8M (k.getD i 0)) := by
 show (bif Nat.ble 0 (0 + 0 + 3 + i * 1) then (bif Nat.ble 3 (0 + 0 + 3 + i * 1 - 0) then getPO (keyM k) ([] ++ [i]) (0 + 0 + 3 + i * 1 - 0 - 3) else none) else none) = _
 have e1 : Nat.ble 0 (0 + 0 + 3 + i * 1) = true := by rw [Nat.ble_eq]; omega
 have e2 : Nat.ble 3 (0 + 0 + 3 + i * 1 - 0) = true := by rw [Nat.ble_eq]; omega
 rw [e1, e2, show 0 + 0 + 3 + i * 1 - 0 - 3 = 0 + i * 1 by omega]
 exact key_get h
theorem hk_set {a b c : Int} {t u v x : MV} {k : List UInt8} {i : Nat} (h : i < k.length) (y : UInt8) : setPO (.st [.st [.int .i64 a, .int .i64 b, .int .i64 c, keyM k, t, u, v], x]) ([] ++ [0] ++ [3] ++ [i]) (0 + 0 + 3 + i * 1) (u8M y) = some (.st [.st [.int .i64 a, .int .i64 b, .int .i64 c, keyM (k.set i y), t, u, v], x]) := by
 show (bif Nat.ble 0 (0 + 0 + 3 + i * 1) then (match (bif Nat.ble 3 (0 + 0 + 3 + i * 1 - 0) then (match setPO (keyM k) ([] ++ [i]) (0 + 0 + 3 + i * 1 - 0 - 3) (u8M y) with | some m' => some (.st (setL [.int .i64 a, .int .i64 b, .int .i64 c, keyM k, t, u, v] 3 m')) | none => none) else none) with | some m' => some (MV.st (setL [.st [.int .i64 a, .int .i64 b, .int .i64 c, keyM k, t, u, v], x] 0 m')) | none => none) else none) = _
 have e1 : Nat.ble 0 (0 + 0 + 3 + i * 1) = true := by rw [Nat.ble_eq]; omega
 have e2 : Nat.ble 3 (0 + 0 + 3 + i * 1 - 0) = true := by rw [Nat.ble_eq]; omega
 rw [e1, e2, show 0 + 0 + 3 + i * 1 - 0 - 3 = 0 + i * 1 by omega, key_set h y]
 rfl
theorem inc8 (a : UInt8) : EqF (IntKind.u8.wrap ((a.toNat : Int) + 1)) ((UInt8.ofNat (a.toNat + 1)).toNat : Int) := EqF.mk (cv8 (a.toNat + 1))
abbrev ForP (B : Nat) (N : Nat) (r : MV) (N' : Nat) : Prop := N' ≤ N + 1000000 ∧ ∃ b0 : BlkS, BlkOk b0 ∧ r = .sl (bkS b0).length (u8s (bkS b0)) ∧ b0.hd.time ≤ 100 * (B + 1)
theorem foreignMk_n {B : Nat} (L : List Int) (N : Nat) (n : NdS) (hN : N < 900000000000000000) (hn : NdOk B n) (hB : B ≤ 900) : SemN G L 72 [numP, ndM n] N (ForP B N) := by
 have hse := hn.st.ents
 have hsek := hn.st.entk
 have hnl : n.st.ents.length ≤ 900 := by omega
 unfold SemN
 refine seq' seat Tryz.func72 151 ?_
 refine go1 ?_
 refine c_loop (Nat × Nat × List (List UInt8)) (fun x => [(17, .int .i64 x.1), (16, .int .i64 n.st.ents.length), (15, .sl n.st.ents.length (n.st.ents.map entM)), (6, .ms 3 1 0 x.2.2.length), (5, .ptr 2 12 0 0 []), (3, .ptr 1 259 0 0 []), (0, numP)]) (fun x => numB L x.2.1 ++ [(1, ⟨81, 259, false, 0, [ndM n]⟩), (2, ⟨37, 12, false, 0, [cfM n.st.cfg]⟩), (3, ⟨64, 1, true, 0, x.2.2.map rawM⟩)]) 4
  (fun x => x.1 ≤ n.st.ents.length ∧ x.2.1 ≤ N + x.1 ∧ x.2.2.length ≤ x.1 ∧ ∀ r ∈ x.2.2, r.length ≤ 4096) (fun x => n.st.ents.length - x.1) (0, N, []) ⟨Nat.zero_le _, Nat.le_refl _, Nat.le_refl _, by simp⟩ (by dsimp only; exact vm [(1, _), (2, _)] []) ?_
 rintro ⟨k, K, W⟩ ⟨h1, h2, h3, h4⟩
 try dsimp only
 dsimp only at h1 h2 h3 h4
 refine go1 ?_
 (refine c_cond rfl ?_ ?_ <;> intro h)
 ·have hk' : k < n.st.ents.length := by have := of_decide_eq_true h; omega
  have hel := ents_at hk'
  have hkl := (hsek _ (List.getElem_mem hk')).raw
  generalize n.st.ents[k] = e at *
  have hel := SomF.mk hel
  obtain ⟨m, hm, cm⟩ := next_b (G := G) L K 2 (by omega) (by omega) (by omega)
  obtain ⟨W2, hW2⟩ : ∃ W2, W2 = W ++ [e.raw] := ⟨_, rfl⟩
  have hW2l : W2.length = W.length + 1 := by rw [hW2]; simp
  refine go1 ?_
  refine g_callR1 rfl hhq rfl (cm) [(0, 0)] [] ⟨rfl, trivial, rfl, lm, mm⟩ rfl rfl ?_
  refine go1 ?_
  (refine c_cond rfl ?_ ?_ <;> intro h)
  ·refine go1 ?_
   ((with_reducible apply g_mem); (case hq => exact rfl); (case hv => exact rfl); (case he => (intro R hR; refine sms hR ?_; (refine And.intro (Nat.le_refl _) ?_; refine ⟨_, rfl, ?_⟩; refine And.intro ⟨(by simp), app_ok (by kernel_rfl) pf⟩ ?_; refine ⟨W2.map rawM, sv (by rw [hW2, List.map_append]; rfl), W2.length, sv pf, ?_⟩); exact hR)); (case hd => exact rfl))
   refine go1 ?_
   exact ⟨(k + 1, K + 1, W2), ⟨by dsimp only; omega, by dsimp only; omega, by dsimp only; omega, fun r hr => by
    dsimp only at hr
    rw [hW2] at hr
    rcases List.mem_append.1 hr with hr | hr
    ·exact h4 r hr
    ·rw [List.mem_singleton.1 hr]; exact hkl⟩, by dsimp only; omega, (by dsimp only; exact vm [(1, _), (2, _), (3, _)] [])⟩
  ·refine go1 ?_
   exact ⟨(k + 1, K + 1, W), ⟨by dsimp only; omega, by dsimp only; omega, by dsimp only; omega, h4⟩, by dsimp only; omega, (by dsimp only; exact vm [(1, _), (2, _), (3, _)] [])⟩
 ·have hke : k = n.st.ents.length := by have := of_decide_eq_false h; omega
  obtain ⟨m, hm, cm⟩ := next_b (G := G) L K 2 (by omega) (by omega) (by omega)
  have cR := raws_r (G := G) L (K + 1) n.st.app 3 (by omega) hn.st.app (by omega)
  have hR := rawsS_ok (L := L) (N := K + 1) (n := 3) hn.st.app (by omega)
  generalize rawsS L (K + 1) n.st.app 3 = RR at *
  obtain ⟨RR, K3⟩ := RR
  dsimp only at cR hR
  obtain ⟨W2, hW2⟩ : ∃ W2, W2 = W ++ RR := ⟨_, rfl⟩
  have hW2l : W2.length = W.length + RR.length := by rw [hW2]; simp
  have hW2k : ∀ r ∈ W2, r.length ≤ 4096 := fun r hr => by
   rw [hW2] at hr
   rcases List.mem_append.1 hr with hr | hr
   ·exact h4 r hr
   ·exact hR.1 r hr
  refine go1 ?_
  refine g_callR1 rfl hhq rfl (cm) [(0, 0)] [] ⟨rfl, trivial, rfl, lm, mm⟩ rfl rfl ?_
  refine q_joinN (Nat × List (List UInt8)) (fun x => [(6, .ms 3 1 0 x.2.length), (5, .ptr 2 12 0 0 []), (3, .ptr 1 259 0 0 []), (0, numP)]) (fun x => numB L x.1 ++ [(1, ⟨81, 259, false, 0, [ndM n]⟩), (2, ⟨37, 12, false, 0, [cfM n.st.cfg]⟩), (3, ⟨64, 1, true, 0, x.2.map rawM⟩)]) (fun _ => 4) (fun x => x.1 ≤ N + 1000 ∧ x.2.length ≤ 905 ∧ ∀ r ∈ x.2, r.length ≤ 4096) (fun JQ hj => ?_) (fun x hx => ?_)
  ·refine go1 ?_
   (refine c_cond rfl ?_ ?_ <;> intro h)
   ·refine go1 ?_
    refine g_callR1 rfl hhq rfl (cR) [(0, 0)] [] ⟨rfl, trivial, rfl, lm, mm⟩ rfl rfl ?_
    refine go1 ?_
    ((with_reducible apply g_mem); (case hq => exact rfl); (case hv => exact rfl); (case he => (intro R hR; refine sms hR ?_; refine And.intro ((head_raw RR)) ?_; refine And.intro ⟨(by simp), app_ok (by kernel_rfl) pf⟩ ?_; refine ⟨W2.map rawM, sv (by rw [hW2, List.map_append]), W2.length, sv pf, ?_⟩; exact hR)); (case hd => exact rfl))
    refine go1 ?_
    exact hj.nrm (K3, W2) ⟨by dsimp only; omega, by dsimp only; omega, hW2k⟩ (by dsimp only; exact vm [(1, _), (2, _), (3, _)] [])
   ·refine go1 ?_
    exact hj.nrm (K + 1, W) ⟨by dsimp only; omega, by dsimp only; omega, h4⟩ (by dsimp only; exact vm [(1, _), (2, _), (3, _)] [])
  ·clear cR hR hW2 hW2l hW2k cm hm h1 h2 h3 h4 hsek
   obtain ⟨K4, W4⟩ := x
   dsimp only at hx ⊢
   refine go1 ?_
   refine q_joinB (Nat × List (List UInt8)) (fun x => [(6, .sl x.2.length (x.2.map rawM)), (5, .ptr 2 12 0 0 []), (3, .ptr 1 259 0 0 []), (0, numP)]) (fun x => numB L x.1 ++ [(1, ⟨81, 259, false, 0, [ndM n]⟩), (2, ⟨37, 12, false, 0, [cfM n.st.cfg]⟩)]) (fun _ => 3) (fun x => x.1 ≤ N + 3000 ∧ x.2.length ≤ 905 ∧ ∀ r ∈ x.2, r.length ≤ 4096) (fun JQ hj => ?_) (fun x hx => ?_)
   ·refine c_loop (Nat × List (List UInt8)) (fun x => [(6, .sl x.2.length (x.2.map rawM)), (5, .ptr 2 12 0 0 []), (3, .ptr 1 259 0 0 []), (0, numP)]) (fun x => numB L x.1 ++ [(1, ⟨81, 259, false, 0, [ndM n]⟩), (2, ⟨37, 12, false, 0, [cfM n.st.cfg]⟩)]) 3 (fun x => x.1 + x.2.length ≤ N + 2000 ∧ x.2.length ≤ 905 ∧ ∀ r ∈ x.2, r.length ≤ 4096) (fun x => x.2.length) (K4, W4) ⟨by dsimp only; omega, hx.2.1, hx.2.2⟩ (by dsimp only; exact vm [(1, _), (2, _)] [(3, W4.length)]) ?_
    clear hx
    rintro ⟨K, W⟩ ⟨h1, h2, h3⟩
    try dsimp only
    dsimp only at h1 h2 h3
    obtain ⟨m, hm, cm⟩ := next_b (G := G) L K 8 (by omega) (by omega) (by omega)
    have cT := totalR_m (G := G) W (by omega) h3
    have hT := totR_le 4096 W h3
    generalize totR W = T at *
    refine go1 ?_
    refine c_draw [(0, false), (1, false), (2, false), (3, false), (4, false), (5, true), (6, false), (7, false), (8, false), (9, false), (10, true), (11, false), (12, false), (13, false), (14, false)] ?_
    refine go1 ?_
    ((with_reducible apply d_guard); (case hs => exact rfl); (case hv => exact rfl); (case hd => exact rfl); (all_goals intro h))
    ·have hW0 := of_decide_eq_true h
     refine go1 ?_
     refine gd_callR1 rfl hhq rfl [0] (cm) [(0, 0)] [] ⟨rfl, trivial, rfl, lm, mm⟩ rfl rfl rfl rfl ?_
     refine go1 ?_
     ((with_reducible apply d_guard); (case hs => exact rfl); (case hv => exact rfl); (case hd => exact rfl); (all_goals intro h))
     ·refine go1 ?_
      refine gd_call1 rfl hhq rfl [] (src (cT)) rfl [] trivial (relVs_self _ (by kernel_rfl)) rfl ?_
      refine go1 ?_
      (refine c_cond rfl ?_ ?_ <;> intro h)
      ·obtain ⟨j, hj1⟩ : ∃ j, W.length = j + 1 := ⟨W.length - 1, by omega⟩
       have fb : SomF (bounds W.length none (some (.int .i64 ((W.length : Int) - 1)))) (0, j) := by
        have := bndHi (n := W.length) (k := j) (κ := .i64) (by omega)
        rw [show (j : Int) = (W.length : Int) - 1 by omega] at this
        exact SomF.mk this
       have fh := SideF.mk (head_raw W)
       obtain ⟨W2, hW2⟩ : ∃ W2, W2 = W.take j := ⟨_, rfl⟩
       have hW2l : W2.length = j := by rw [hW2, List.length_take]; omega
       have he1 : EqF (cutL (W.map rawM) 0 j) (W2.map rawM) := EqF.mk (by rw [hW2]; unfold cutL; rw [List.drop_zero, Nat.sub_zero, List.map_take])
       have he2 : EqF (j - 0) W2.length := EqF.mk (by omega)
       refine go1 ?_
       exact ⟨(K + 1, W2), ⟨by dsimp only; omega, by dsimp only; omega, fun r hr => h3 r (List.mem_of_mem_take (by dsimp only at hr; rw [hW2] at hr; exact hr))⟩, by dsimp only; omega, (by dsimp only; exact vm [(1, _), (2, _)] [])⟩
      ·refine go1 ?_
       exact hj.nrm (K + 1, W) ⟨by dsimp only; omega, h2, h3⟩ (by dsimp only; exact vm [(1, _), (2, _)] [])
     ·refine go1 ?_
      exact hj.nrm (K + 1, W) ⟨by dsimp only; omega, h2, h3⟩ (by dsimp only; exact vm [(1, _), (2, _)] [])
    ·refine go1 ?_
     exact hj.nrm (K, W) ⟨by dsimp only; omega, h2, h3⟩ (by dsimp only; exact vm [(1, _), (2, _)] [])
   ·obtain ⟨K5, W5⟩ := x
    dsimp only at hx ⊢
    have hcf := hn.st.cfg
    have hth := hn.th
    have htt := hn.tt
    have hst := hn.st.time
    have hns := hcf.nodes
    have hsf := hcf.self
    obtain ⟨m5, hm5, c5⟩ := next_b (G := G) L K5 5 (by omega) (by omega) (by omega)
    have hmx : EqF (if n.st.cfg.nodes < 1 then 1 else n.st.cfg.nodes) n.st.cfg.nodes := EqF.mk (if_neg (by omega))
    have hrem : EqF ((n.tip.height + 1).tmod n.st.cfg.nodes) ((n.tip.height + 1) % n.st.cfg.nodes) := EqF.mk (Int.tmod_eq_emod_of_nonneg (by omega))
    have hrm : 0 ≤ (n.tip.height + 1) % n.st.cfg.nodes ∧ (n.tip.height + 1) % n.st.cfg.nodes < 9 := by
     have := Int.emod_nonneg (n.tip.height + 1) (show n.st.cfg.nodes ≠ 0 by omega)
     have := Int.emod_lt_of_pos (n.tip.height + 1) (show (0 : Int) < n.st.cfg.nodes by omega)
     omega
    generalize (n.tip.height + 1) % n.st.cfg.nodes = rm at *
    have cM := make_r (G := G) n.tip (n.st.time + m5) rm W5 (by omega) (by omega) (by omega) (fun x hx2 => by have := hx.2.2 x hx2; omega)
    have hbk := makeS_ok (time := n.st.time + m5) (prop := rm) hn.tip (by omega) (by omega) (by unfold I64; omega) (by unfold I64; omega) (by omega) hx.2.2
    have hbh := makeS_hd n.tip (n.st.time + m5) rm W5
    have hbt : (if n.tip.time + 1 > n.st.time + m5 then n.tip.time + 1 else n.st.time + m5) ≤ 100 * (B + 1) := by split <;> omega
    rw [← hbh.2] at hbt
    replace hbh := hbh.1
    generalize makeS n.tip (n.st.time + m5) rm W5 = b at *
    refine go1 ?_
    refine c_draw [(0, false), (1, false), (2, false), (3, false), (4, false), (5, false), (6, true), (7, false), (8, false), (9, false), (10, false), (11, false), (12, false), (13, false), (14, false), (15, false), (16, false), (17, true), (18, false), (19, false)] ?_
    refine go1 ?_
    refine gd_callR1 rfl hhq rfl [0] (c5) [(0, 0)] [] ⟨rfl, trivial, rfl, lm, mm⟩ rfl rfl rfl rfl ?_
    refine go1 ?_
    refine gd_call1 rfl hhq rfl [] (cM) rfl [] trivial (relVs_self _ (by kernel_rfl)) rfl ?_
    clear cM
    obtain ⟨⟨bh, bt, bp, bpar, btx, bap, bre⟩, btxs⟩ := b
    obtain ⟨⟨k1, k2, k3, k4, k5, k6, k7⟩, kn, kl⟩ := hbk
    dsimp only at k1 k2 k3 k4 k5 k6 k7 kn kl hbt hbh
    dsimp only [blkM, hdM]
    unfold I64 at k1 k2 k3
    obtain ⟨m14, hm14, c14⟩ := next_b (G := G) L (K5 + 1) 14 (by omega) (by omega) (by omega)
    refine go1 ?_
    refine g_callR1 rfl hhq rfl (c14) [(0, 0)] [] ⟨rfl, trivial, rfl, lm, mm⟩ rfl rfl ?_
    refine go1 ?_
    (refine c_cond rfl ?_ ?_ <;> intro h)
    ·obtain ⟨m3, hm3, c3⟩ := next_b (G := G) L (K5 + 1 + 1) 3 (by omega) (by omega) (by omega)
     refine go1 ?_
     refine c_draw [(0, false), (1, false), (2, false), (3, false), (4, true), (5, false), (6, false), (7, false), (8, false), (9, false)] ?_
     refine go1 ?_
     refine gd_callR1 rfl hhq rfl [0] (c3) [(0, 0)] [] ⟨rfl, trivial, rfl, lm, mm⟩ rfl rfl rfl rfl ?_
     have hb2 : BlkOk ⟨⟨bh + ((m3 : Int) - 1), bt, bp, bpar, btx, bap, bre⟩, btxs⟩ := ⟨⟨by unfold I64; dsimp only; omega, k2, k3, k4, k5, k6, k7⟩, kn, kl⟩
     have cF := rform_r (G := G) _ hb2
     refine go1 ?_
     refine g_call2 rfl hhq rfl (cF) rfl lm ?_
     refine go1 ?_
     refine ⟨_, _, _, ⟨K5 + 1 + 1 + 1, ⟨⟨by omega, _, hb2, rfl, hbt⟩, rfl⟩, rfl, rfl⟩, ?_⟩; refine ⟨[_], [], [], rfl, rfl, trivial, rfl, ⟨?_, trivial⟩, ?_⟩
     ·exact rv
     ·exact mm
    ·refine go1 ?_
     (refine c_cond rfl ?_ ?_ <;> intro h)
     ·obtain ⟨m32, hm32, c32⟩ := next_b (G := G) L (K5 + 1 + 1) 32 (by omega) (by omega) (by omega)
      have hi : m32 < bpar.length := by omega
      have g1 := SomF.mk (hk_get (a := bh) (b := bt) (c := bp) (t := keyM btx) (u := keyM bap) (v := keyM bre) (x := .sl btxs.length (btxs.map rawM)) hi)
      have g2 := SomF.mk (hk_set (a := bh) (b := bt) (c := bp) (t := keyM btx) (u := keyM bap) (v := keyM bre) (x := .sl btxs.length (btxs.map rawM)) hi (UInt8.ofNat ((bpar.getD m32 0).toNat + 1)))
      have g3 := inc8 (bpar.getD m32 0)
      have hpl : (bpar.set m32 (UInt8.ofNat ((bpar.getD m32 0).toNat + 1))).length = 32 := by rw [List.length_set]; exact k4
      generalize bpar.getD m32 0 = y at *
      generalize bpar.set m32 (UInt8.ofNat (y.toNat + 1)) = bpar2 at *
      refine go1 ?_
      refine g_callR1 rfl hhq rfl (c32) [(0, 0)] [] ⟨rfl, trivial, rfl, lm, mm⟩ rfl rfl ?_
      have hb2 : BlkOk ⟨⟨bh, bt, bp, bpar2, btx, bap, bre⟩, btxs⟩ := ⟨⟨k1, k2, k3, hpl, k5, k6, k7⟩, kn, kl⟩
      have cF := rform_r (G := G) _ hb2
      refine go1 ?_
      refine g_call2 rfl hhq rfl (cF) rfl lm ?_
      refine go1 ?_
      refine ⟨_, _, _, ⟨K5 + 1 + 1 + 1, ⟨⟨by omega, _, hb2, rfl, hbt⟩, rfl⟩, rfl, rfl⟩, ?_⟩; refine ⟨[_], [], [], rfl, rfl, trivial, rfl, ⟨?_, trivial⟩, ?_⟩
      ·exact rv
      ·exact mm
     ·refine go1 ?_
      (refine c_cond rfl ?_ ?_ <;> intro h)
      ·cases bap with
       | nil => exact absurd k6 (by simp)
       | cons y ys =>
        have g3 := inc8 y
        have hb2 : BlkOk ⟨⟨bh, bt, bp, bpar, btx, UInt8.ofNat (y.toNat + 1) :: ys, bre⟩, btxs⟩ := ⟨⟨k1, k2, k3, k4, k5, by simpa using k6, k7⟩, kn, kl⟩
        have cF := rform_r (G := G) _ hb2
        refine go1 ?_
        refine g_call2 rfl hhq rfl (cF) rfl lm ?_
        refine go1 ?_
        refine ⟨_, _, _, ⟨K5 + 1 + 1, ⟨⟨by omega, _, hb2, rfl, hbt⟩, rfl⟩, rfl, rfl⟩, ?_⟩; refine ⟨[_], [], [], rfl, rfl, trivial, rfl, ⟨?_, trivial⟩, ?_⟩
        ·exact rv
        ·exact mm
      ·refine go1 ?_
       (refine c_cond rfl ?_ ?_ <;> intro h)
       ·cases bre with
        | nil => exact absurd k7 (by simp)
        | cons y ys =>
         have g3 := inc8 y
         have hb2 : BlkOk ⟨⟨bh, bt, bp, bpar, btx, bap, UInt8.ofNat (y.toNat + 1) :: ys⟩, btxs⟩ := ⟨⟨k1, k2, k3, k4, k5, k6, by simpa using k7⟩, kn, kl⟩
         have cF := rform_r (G := G) _ hb2
         refine go1 ?_
         refine g_call2 rfl hhq rfl (cF) rfl lm ?_
         refine go1 ?_
         refine ⟨_, _, _, ⟨K5 + 1 + 1, ⟨⟨by omega, _, hb2, rfl, hbt⟩, rfl⟩, rfl, rfl⟩, ?_⟩; refine ⟨[_], [], [], rfl, rfl, trivial, rfl, ⟨?_, trivial⟩, ?_⟩
         ·exact rv
         ·exact mm
       ·refine go1 ?_
        (refine c_cond rfl ?_ ?_ <;> intro h)
        ·cases btx with
         | nil => exact absurd k5 (by simp)
         | cons y ys =>
          have g3 := inc8 y
          have hb2 : BlkOk ⟨⟨bh, bt, bp, bpar, UInt8.ofNat (y.toNat + 1) :: ys, bap, bre⟩, btxs⟩ := ⟨⟨k1, k2, k3, k4, by simpa using k5, k6, k7⟩, kn, kl⟩
          have cF := rform_r (G := G) _ hb2
          refine go1 ?_
          refine g_call2 rfl hhq rfl (cF) rfl lm ?_
          refine go1 ?_
          refine ⟨_, _, _, ⟨K5 + 1 + 1, ⟨⟨by omega, _, hb2, rfl, hbt⟩, rfl⟩, rfl, rfl⟩, ?_⟩; refine ⟨[_], [], [], rfl, rfl, trivial, rfl, ⟨?_, trivial⟩, ?_⟩
          ·exact rv
          ·exact mm
        ·refine go1 ?_
         (refine c_cond rfl ?_ ?_ <;> intro h)
         ·obtain ⟨m2, hm2, c2⟩ := next_b (G := G) L (K5 + 1 + 1) 2 (by omega) (by omega) (by omega)
          refine go1 ?_
          refine c_draw [(0, false), (1, false), (2, false), (3, false), (4, true), (5, false), (6, false), (7, false), (8, false)] ?_
          refine go1 ?_
          refine gd_callR1 rfl hhq rfl [0] (c2) [(0, 0)] [] ⟨rfl, trivial, rfl, lm, mm⟩ rfl rfl rfl rfl ?_
          have hb2 : BlkOk ⟨⟨bh, n.tip.time + (m2 : Int), bp, bpar, btx, bap, bre⟩, btxs⟩ := ⟨⟨k1, by unfold I64; dsimp only; omega, k3, k4, k5, k6, k7⟩, kn, kl⟩
          have cF := rform_r (G := G) _ hb2
          refine go1 ?_
          refine g_call2 rfl hhq rfl (cF) rfl lm ?_
          refine go1 ?_
          refine ⟨_, _, _, ⟨K5 + 1 + 1 + 1, ⟨⟨by omega, _, hb2, rfl, by dsimp only; omega⟩, rfl⟩, rfl, rfl⟩, ?_⟩; refine ⟨[_], [], [], rfl, rfl, trivial, rfl, ⟨?_, trivial⟩, ?_⟩
          ·exact rv
          ·exact mm
         ·refine go1 ?_
          (refine c_cond rfl ?_ ?_ <;> intro h)
          ·obtain ⟨m3, hm3, c3⟩ := next_b (G := G) L (K5 + 1 + 1) 3 (by omega) (by omega) (by omega)
           refine go1 ?_
           refine g_callR1 rfl hhq rfl (c3) [(0, 0)] [] ⟨rfl, trivial, rfl, lm, mm⟩ rfl rfl ?_
           have hb2 : BlkOk ⟨⟨bh, bt, (m3 : Int), bpar, btx, bap, bre⟩, btxs⟩ := ⟨⟨k1, k2, by unfold I64; dsimp only; omega, k4, k5, k6, k7⟩, kn, kl⟩
           have cF := rform_r (G := G) _ hb2
           refine go1 ?_
           refine g_call2 rfl hhq rfl (cF) rfl lm ?_
           refine go1 ?_
           refine ⟨_, _, _, ⟨K5 + 1 + 1 + 1, ⟨⟨by omega, _, hb2, rfl, hbt⟩, rfl⟩, rfl, rfl⟩, ?_⟩; refine ⟨[_], [], [], rfl, rfl, trivial, rfl, ⟨?_, trivial⟩, ?_⟩
           ·exact rv
           ·exact mm
          ·refine go1 ?_
           have hb2 : BlkOk ⟨⟨bh, bt, bp, bpar, btx, bap, bre⟩, btxs⟩ := ⟨⟨k1, k2, k3, k4, k5, k6, k7⟩, kn, kl⟩
           have cF := rform_r (G := G) _ hb2
           refine go1 ?_
           refine g_call2 rfl hhq rfl (cF) rfl lm ?_
           refine go1 ?_
           refine ⟨_, _, _, ⟨K5 + 1 + 1, ⟨⟨by omega, _, hb2, rfl, hbt⟩, rfl⟩, rfl, rfl⟩, ?_⟩; refine ⟨[_], [], [], rfl, rfl, trivial, rfl, ⟨?_, trivial⟩, ?_⟩
           ·exact rv
           ·exact mm
end
end Go.Proofs.YtoagomdghimlbaaGreat
