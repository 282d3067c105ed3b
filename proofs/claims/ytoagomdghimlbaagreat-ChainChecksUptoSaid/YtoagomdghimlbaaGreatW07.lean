/- Parts of a proof, one behind the other: PW, PX, PY, PZ, Pa. -/
import Derived.Test.YtoagomdghimlbaaGreatW06
set_option maxRecDepth 20000
set_option maxHeartbeats 16000000
namespace Go.Proofs.YtoagomdghimlbaaGreat
open Go.RowKit
section
variable {G : GS}
attribute [local irreducible] vOpsN vOpsG vOpsD vOpGD NextD vC SeqQ BlockQ
section
variable {T : Tab} {rs : List ResultVar} {M : VM} {E : VE} {n : Nat}
theorem ret_n {P : MV → Nat → Prop} {L : List Int} (vs rv : List MV) (k : Nat) (bs : List (Nat × Nat)) (h1 : vRets T M E rs (fun v => v = vs)) (hm : LMatch 1 rv (numB L k) 1 vs M [] bs) (hf : nfree (tupM rv) = true) (hP : P (tupM rv) k) : vRetE T 1 rs (fun r M n => ∃ k', (P r k' ∧ nfree r = true) ∧ M = numB L k' ∧ n = 1) .ret E M n :=
 vRets_mono (fun v hv => by subst hv; exact ⟨tupM rv, numB L k, 1, ⟨k, ⟨hP, hf⟩, rfl, rfl⟩, rv, [], bs, rfl, hm⟩) h1
end
structure OpC (B : Nat) (k on ob og : Int) (raw : List UInt8) : Prop where
 kr : 1 ≤ k ∧ k ≤ 9
 i1 : I64 on
 i2 : I64 ob
 i3 : I64 og
 k12 : k = 1 ∨ k = 2 → raw.length ≤ 4096
 k3 : k = 3 → on ≤ 100
 k67 : k = 6 ∨ k = 7 → ∃ b0 : BlkS, BlkOk b0 ∧ raw = bkS b0 ∧ b0.hd.time ≤ 100 * (B + 1)
abbrev kinds : List MV := [.int .i64 1, .int .i64 1, .int .i64 1, .int .i64 2, .int .i64 2, .int .i64 3, .int .i64 4, .int .i64 4, .int .i64 5, .int .i64 5, .int .i64 6, .int .i64 7, .int .i64 8, .int .i64 9, .int .i64 9]
theorem kind_at {k : Nat} (hk : k < 15) : ∃ v : Int, idxL kinds 15 (k : Int) = some (.int .i64 v) ∧ (v = 1 ∨ v = 2 ∨ v = 3 ∨ v = 4 ∨ v = 5 ∨ v = 6 ∨ v = 7 ∨ v = 8 ∨ v = 9) := by
 have h : ∀ k < 15, ∃ v : Int, kinds[k]? = some (.int .i64 v) ∧ (v = 1 ∨ v = 2 ∨ v = 3 ∨ v = 4 ∨ v = 5 ∨ v = 6 ∨ v = 7 ∨ v = 8 ∨ v = 9) := by
  intro k hk
  have : k = 0 ∨ k = 1 ∨ k = 2 ∨ k = 3 ∨ k = 4 ∨ k = 5 ∨ k = 6 ∨ k = 7 ∨ k = 8 ∨ k = 9 ∨ k = 10 ∨ k = 11 ∨ k = 12 ∨ k = 13 ∨ k = 14 := by omega
  rcases this with rfl | rfl | rfl | rfl | rfl | rfl | rfl | rfl | rfl | rfl | rfl | rfl | rfl | rfl | rfl <;> exact ⟨_, rfl, by decide⟩
 obtain ⟨v, h1, h2⟩ := h k hk
 exact ⟨v, index_at hk h1, h2⟩
abbrev OpP (B N : Nat) (r : MV) (N' : Nat) : Prop := N' ≤ N + 2000000 ∧ ∃ k on ob og raw, r = opA k on ob og raw ∧ OpC B k on ob og raw
theorem no12 {k : Int} {p : Prop} (h1 : ¬ k = 1) (h2 : ¬ k = 2) : k = 1 ∨ k = 2 → p := fun h => h.elim (fun h => absurd h h1) (fun h => absurd h h2)
theorem no67 {k : Int} {p : Prop} (h1 : ¬ k = 6) (h2 : ¬ k = 7) : k = 6 ∨ k = 7 → p := fun h => h.elim (fun h => absurd h h1) (fun h => absurd h h2)
theorem i64_s {x : Int} (h1 : -10000000 ≤ x) (h2 : x ≤ 10000000) : I64 x := by unfold I64; omega
theorem op_n {B : Nat} (L : List Int) (N : Nat) (n : NdS) (hN : N < 800000000000000000) (hn : NdOk B n) (hB : B ≤ 900) : SemN G L 46 [numP, ndM n] N (OpP B N) := by
 obtain ⟨m, hm, cm⟩ := next_b (G := G) L N 15 (by omega) (by omega) (by omega)
 obtain ⟨v, hv, hvs⟩ := kind_at hm
 have hv := SomF.mk hv
 have hse := hn.st.ents
 have hsek := hn.st.entk
 unfold SemN
 refine seq' seat Tryz.func46 92 ?_
 refine go1 ?_
 refine g_callR1 rfl hhq rfl (cm) [(0, 0)] [] ⟨rfl, trivial, rfl, lm, mm⟩ rfl rfl ?_
 refine n_re ([(9, .sl 15 kinds), (13, .int .i64 m), (3, .ptr 1 259 0 0 []), (4, .ptr 2 5 0 0 []), (0, numP)]) (numB L (N + 1) ++ [(1, ⟨81, 259, false, 0, [ndM n]⟩), (2, ⟨104, 5, false, 0, [.st [.int .i64 0, .int .i64 0, .int .i64 0, .int .i64 0, .nils]]⟩)]) [(3, 15)] mm rfl mm mm ?_
 rcases hvs with rfl | rfl | rfl | rfl | rfl | rfl | rfl | rfl | rfl
 ·have cR := raw_r (G := G) L (N + 1) n.st.app.chk n.st.cfg.price (by omega) hn.st.app.2.1 hn.st.cfg.price
  have hR := rawG_ok (L := L) (N := N + 1) (price := n.st.cfg.price) hn.st.app.2.1.2.2
  generalize rawG L (N + 1) n.st.app.chk.acs n.st.cfg.price = R1 at *
  obtain ⟨raw, K1⟩ := R1
  dsimp only at cR hR
  obtain ⟨m6, hm6, c6⟩ := next_b (G := G) L K1 6 (by omega) (by omega) (by omega)
  refine go1 ?_
  refine g_callR1 rfl hhq rfl (cR) [(0, 0)] [] ⟨rfl, trivial, rfl, lm, mm⟩ rfl rfl ?_
  refine go1 ?_
  (refine n_grd ⟨rfl, rfl, rfl⟩ ?_ ?_ <;> intro h)
  ·have hk0 : 0 < n.st.ents.length := by have := of_decide_eq_true h; omega
   obtain ⟨mk, hmk, ck⟩ := next_b (G := G) L (K1 + 1) n.st.ents.length hk0 (by omega) (by omega)
   have hel := ents_at hmk
   have hrl := (hsek _ (List.getElem_mem hmk)).raw
   generalize n.st.ents[mk] = e at *
   have hel := SomF.mk hel
   refine go1 ?_
   refine g_callR1 rfl hhq rfl (c6) [(0, 0)] [] ⟨rfl, trivial, rfl, lm, mm⟩ rfl rfl ?_
   refine go1 ?_
   (refine c_cond rfl ?_ ?_ <;> intro h)
   ·obtain ⟨m3, hm3, c3⟩ := next_b (G := G) L (K1 + 1 + 1) 3 (by omega) (by omega) (by omega)
    refine go1 ?_
    refine c_draw [(0, false), (1, false), (2, false), (3, false), (4, false), (5, true), (6, false), (7, false), (8, false), (9, false), (10, false)] ?_
    refine go1 ?_
    refine gd_callR1 rfl hhq rfl [0] (ck) [(0, 0)] [] ⟨rfl, trivial, rfl, lm, mm⟩ rfl rfl rfl rfl ?_
    refine go1 ?_
    refine g_callR1 rfl hhq rfl (c3) [(0, 0)] [] ⟨rfl, trivial, rfl, lm, mm⟩ rfl rfl ?_
    refine go1 ?_
    refine ret_n [_] [opA 1 (1 + (m3 : Int)) 0 0 e.raw] (K1 + 1 + 1 + 1) [] (by exact rvq) ⟨rfl, trivial, rfl, lm, mm⟩ (by kernel_rfl) ⟨by omega, _, _, _, _, _, rfl, ⟨⟨by decide, by decide⟩, i64_s (by omega) (by omega), i64_s (by decide) (by decide), i64_s (by decide) (by decide), fun _ => hrl, fun h => absurd h (by decide), no67 (by decide) (by decide)⟩⟩
   ·obtain ⟨m3, hm3, c3⟩ := next_b (G := G) L (K1 + 1) 3 (by omega) (by omega) (by omega)
    refine go1 ?_
    refine g_callR1 rfl hhq rfl (c3) [(0, 0)] [] ⟨rfl, trivial, rfl, lm, mm⟩ rfl rfl ?_
    refine go1 ?_
    refine ret_n [_] [opA 1 (1 + (m3 : Int)) 0 0 raw] (K1 + 1 + 1) [] (by exact rvq) ⟨rfl, trivial, rfl, lm, mm⟩ (by kernel_rfl) ⟨by omega, _, _, _, _, _, rfl, ⟨⟨by decide, by decide⟩, i64_s (by omega) (by omega), i64_s (by decide) (by decide), i64_s (by decide) (by decide), fun _ => hR.1, fun h => absurd h (by decide), no67 (by decide) (by decide)⟩⟩
  ·obtain ⟨m3, hm3, c3⟩ := next_b (G := G) L K1 3 (by omega) (by omega) (by omega)
   refine go1 ?_
   refine g_callR1 rfl hhq rfl (c3) [(0, 0)] [] ⟨rfl, trivial, rfl, lm, mm⟩ rfl rfl ?_
   refine go1 ?_
   refine ret_n [_] [opA 1 (1 + (m3 : Int)) 0 0 raw] (K1 + 1) [] (by exact rvq) ⟨rfl, trivial, rfl, lm, mm⟩ (by kernel_rfl) ⟨by omega, _, _, _, _, _, rfl, ⟨⟨by decide, by decide⟩, i64_s (by omega) (by omega), i64_s (by decide) (by decide), i64_s (by decide) (by decide), fun _ => hR.1, fun h => absurd h (by decide), no67 (by decide) (by decide)⟩⟩
 ·have cR := raw_r (G := G) L (N + 1) n.st.app.chk n.st.cfg.price (by omega) hn.st.app.2.1 hn.st.cfg.price
  have hR := rawG_ok (L := L) (N := N + 1) (price := n.st.cfg.price) hn.st.app.2.1.2.2
  generalize rawG L (N + 1) n.st.app.chk.acs n.st.cfg.price = R1 at *
  obtain ⟨raw, K1⟩ := R1
  dsimp only at cR hR
  obtain ⟨m6, hm6, c6⟩ := next_b (G := G) L K1 6 (by omega) (by omega) (by omega)
  refine go1 ?_
  refine g_callR1 rfl hhq rfl (cR) [(0, 0)] [] ⟨rfl, trivial, rfl, lm, mm⟩ rfl rfl ?_
  refine go1 ?_
  (refine n_grd ⟨rfl, rfl, rfl⟩ ?_ ?_ <;> intro h)
  ·have hk0 : 0 < n.st.ents.length := by have := of_decide_eq_true h; omega
   obtain ⟨mk, hmk, ck⟩ := next_b (G := G) L (K1 + 1) n.st.ents.length hk0 (by omega) (by omega)
   have hel := ents_at hmk
   have hrl := (hsek _ (List.getElem_mem hmk)).raw
   generalize n.st.ents[mk] = e at *
   have hel := SomF.mk hel
   refine go1 ?_
   refine g_callR1 rfl hhq rfl (c6) [(0, 0)] [] ⟨rfl, trivial, rfl, lm, mm⟩ rfl rfl ?_
   refine go1 ?_
   (refine c_cond rfl ?_ ?_ <;> intro h)
   ·obtain ⟨m3, hm3, c3⟩ := next_b (G := G) L (K1 + 1 + 1) 3 (by omega) (by omega) (by omega)
    refine go1 ?_
    refine c_draw [(0, false), (1, false), (2, false), (3, false), (4, false), (5, true), (6, false), (7, false), (8, false), (9, false), (10, false)] ?_
    refine go1 ?_
    refine gd_callR1 rfl hhq rfl [0] (ck) [(0, 0)] [] ⟨rfl, trivial, rfl, lm, mm⟩ rfl rfl rfl rfl ?_
    refine go1 ?_
    refine g_callR1 rfl hhq rfl (c3) [(0, 0)] [] ⟨rfl, trivial, rfl, lm, mm⟩ rfl rfl ?_
    refine go1 ?_
    refine ret_n [_] [opA 2 (1 + (m3 : Int)) 0 0 e.raw] (K1 + 1 + 1 + 1) [] (by exact rvq) ⟨rfl, trivial, rfl, lm, mm⟩ (by kernel_rfl) ⟨by omega, _, _, _, _, _, rfl, ⟨⟨by decide, by decide⟩, i64_s (by omega) (by omega), i64_s (by decide) (by decide), i64_s (by decide) (by decide), fun _ => hrl, fun h => absurd h (by decide), no67 (by decide) (by decide)⟩⟩
   ·obtain ⟨m3, hm3, c3⟩ := next_b (G := G) L (K1 + 1) 3 (by omega) (by omega) (by omega)
    refine go1 ?_
    refine g_callR1 rfl hhq rfl (c3) [(0, 0)] [] ⟨rfl, trivial, rfl, lm, mm⟩ rfl rfl ?_
    refine go1 ?_
    refine ret_n [_] [opA 2 (1 + (m3 : Int)) 0 0 raw] (K1 + 1 + 1) [] (by exact rvq) ⟨rfl, trivial, rfl, lm, mm⟩ (by kernel_rfl) ⟨by omega, _, _, _, _, _, rfl, ⟨⟨by decide, by decide⟩, i64_s (by omega) (by omega), i64_s (by decide) (by decide), i64_s (by decide) (by decide), fun _ => hR.1, fun h => absurd h (by decide), no67 (by decide) (by decide)⟩⟩
  ·obtain ⟨m3, hm3, c3⟩ := next_b (G := G) L K1 3 (by omega) (by omega) (by omega)
   refine go1 ?_
   refine g_callR1 rfl hhq rfl (c3) [(0, 0)] [] ⟨rfl, trivial, rfl, lm, mm⟩ rfl rfl ?_
   refine go1 ?_
   refine ret_n [_] [opA 2 (1 + (m3 : Int)) 0 0 raw] (K1 + 1) [] (by exact rvq) ⟨rfl, trivial, rfl, lm, mm⟩ (by kernel_rfl) ⟨by omega, _, _, _, _, _, rfl, ⟨⟨by decide, by decide⟩, i64_s (by omega) (by omega), i64_s (by decide) (by decide), i64_s (by decide) (by decide), fun _ => hR.1, fun h => absurd h (by decide), no67 (by decide) (by decide)⟩⟩
 ·obtain ⟨m9, hm9, c9⟩ := next_b (G := G) L (N + 1) 9 (by omega) (by omega) (by omega)
  refine go1 ?_
  refine g_callR1 rfl hhq rfl (c9) [(0, 0)] [] ⟨rfl, trivial, rfl, lm, mm⟩ rfl rfl ?_
  refine go1 ?_
  refine ret_n [_] [opA 3 (1 + (m9 : Int)) 0 0 []] (N + 1 + 1) [] (by exact rvq) ⟨rfl, trivial, rfl, lm, mm⟩ (by kernel_rfl) ⟨by omega, _, _, _, _, _, rfl, ⟨⟨by decide, by decide⟩, i64_s (by omega) (by omega), i64_s (by decide) (by decide), i64_s (by decide) (by decide), no12 (by decide) (by decide), fun _ => by omega, no67 (by decide) (by decide)⟩⟩
 ·obtain ⟨ma, hma, ca⟩ := next_b (G := G) L (N + 1) 700 (by omega) (by omega) (by omega)
  obtain ⟨mb, hmb, cb⟩ := next_b (G := G) L (N + 1 + 1) 1500 (by omega) (by omega) (by omega)
  obtain ⟨mc, hmc, cc⟩ := next_b (G := G) L (N + 1 + 1 + 1) 2 (by omega) (by omega) (by omega)
  refine go1 ?_
  refine g_callR1 rfl hhq rfl (ca) [(0, 0)] [] ⟨rfl, trivial, rfl, lm, mm⟩ rfl rfl ?_
  refine go1 ?_
  refine g_callR1 rfl hhq rfl (cb) [(0, 0)] [] ⟨rfl, trivial, rfl, lm, mm⟩ rfl rfl ?_
  refine go1 ?_
  refine g_callR1 rfl hhq rfl (cc) [(0, 0)] [] ⟨rfl, trivial, rfl, lm, mm⟩ rfl rfl ?_
  refine go1 ?_
  (refine c_cond rfl ?_ ?_ <;> intro h)
  ·refine go1 ?_
   refine ret_n [_] [opA 4 0 1048576 (-1) []] (N + 1 + 1 + 1 + 1) [] (by exact rvq) ⟨rfl, trivial, rfl, lm, mm⟩ (by kernel_rfl) ⟨by omega, _, _, _, _, _, rfl, ⟨⟨by decide, by decide⟩, i64_s (by decide) (by decide), i64_s (by decide) (by decide), i64_s (by decide) (by decide), no12 (by decide) (by decide), fun h => absurd h (by decide), no67 (by decide) (by decide)⟩⟩
  ·refine go1 ?_
   refine ret_n [_] [opA 4 0 (ma : Int) ((mb : Int) - 1) []] (N + 1 + 1 + 1 + 1) [] (by exact rvq) ⟨rfl, trivial, rfl, lm, mm⟩ (by kernel_rfl) ⟨by omega, _, _, _, _, _, rfl, ⟨⟨by decide, by decide⟩, i64_s (by decide) (by decide), i64_s (by omega) (by omega), i64_s (by omega) (by omega), no12 (by decide) (by decide), fun h => absurd h (by decide), no67 (by decide) (by decide)⟩⟩
 ·refine go1 ?_
  refine ret_n [_] [opA 5 0 0 0 []] (N + 1) [] (by exact rvq) ⟨rfl, trivial, rfl, lm, mm⟩ (by kernel_rfl) ⟨by omega, _, _, _, _, _, rfl, ⟨⟨by decide, by decide⟩, i64_s (by decide) (by decide), i64_s (by decide) (by decide), i64_s (by decide) (by decide), no12 (by decide) (by decide), fun h => absurd h (by decide), no67 (by decide) (by decide)⟩⟩
 ·have cF := foreignMk_n (G := G) L (N + 1) n (by omega) hn hB
  refine go1 ?_
  refine g_callN1 rfl hhq rfl (cF) rfl 0 [] ⟨rfl, trivial, rfl, lm, mm⟩ rfl ?_
  rintro _ K1 ⟨hK1, b0, hb0, rfl, hbt⟩
  refine go1 ?_
  refine ret_n [_] [opA 6 0 0 0 (bkS b0)] (K1) [] (by exact rvq) ⟨rfl, trivial, rfl, lm, mm⟩ (by kernel_rfl) ⟨by omega, _, _, _, _, _, rfl, ⟨⟨by decide, by decide⟩, i64_s (by decide) (by decide), i64_s (by decide) (by decide), i64_s (by decide) (by decide), no12 (by decide) (by decide), fun h => absurd h (by decide), fun _ => ⟨b0, hb0, rfl, hbt⟩⟩⟩
 ·have cF := foreignMk_n (G := G) L (N + 1) n (by omega) hn hB
  refine go1 ?_
  refine g_callN1 rfl hhq rfl (cF) rfl 0 [] ⟨rfl, trivial, rfl, lm, mm⟩ rfl ?_
  rintro _ K1 ⟨hK1, b0, hb0, rfl, hbt⟩
  refine go1 ?_
  refine ret_n [_] [opA 7 0 0 0 (bkS b0)] (K1) [] (by exact rvq) ⟨rfl, trivial, rfl, lm, mm⟩ (by kernel_rfl) ⟨by omega, _, _, _, _, _, rfl, ⟨⟨by decide, by decide⟩, i64_s (by decide) (by decide), i64_s (by decide) (by decide), i64_s (by decide) (by decide), no12 (by decide) (by decide), fun h => absurd h (by decide), fun _ => ⟨b0, hb0, rfl, hbt⟩⟩⟩
 ·refine go1 ?_
  refine ret_n [_] [opA 8 0 0 0 []] (N + 1) [] (by exact rvq) ⟨rfl, trivial, rfl, lm, mm⟩ (by kernel_rfl) ⟨by omega, _, _, _, _, _, rfl, ⟨⟨by decide, by decide⟩, i64_s (by decide) (by decide), i64_s (by decide) (by decide), i64_s (by decide) (by decide), no12 (by decide) (by decide), fun h => absurd h (by decide), no67 (by decide) (by decide)⟩⟩
 ·obtain ⟨m9, hm9, c9⟩ := next_b (G := G) L (N + 1) 3 (by omega) (by omega) (by omega)
  refine go1 ?_
  refine g_callR1 rfl hhq rfl (c9) [(0, 0)] [] ⟨rfl, trivial, rfl, lm, mm⟩ rfl rfl ?_
  refine go1 ?_
  refine ret_n [_] [opA 9 (1 + (m9 : Int)) 0 0 []] (N + 1 + 1) [] (by exact rvq) ⟨rfl, trivial, rfl, lm, mm⟩ (by kernel_rfl) ⟨by omega, _, _, _, _, _, rfl, ⟨⟨by decide, by decide⟩, i64_s (by omega) (by omega), i64_s (by decide) (by decide), i64_s (by decide) (by decide), no12 (by decide) (by decide), fun h => absurd h (by decide), no67 (by decide) (by decide)⟩⟩
end
section
variable {G : GS}
attribute [local irreducible] vOpsN vOpsG vOpsD vOpGD NextD vC SeqQ BlockQ
theorem do_x {B : Nat} (n : NdS) (k on ob og : Int) (raw : List UInt8) (hn : NdOk B n) (hB : B ≤ 800) (ho : OpC B k on ob og raw) : SemX Tryz.prog G 47 [ndM n, opA k on ob og raw] (ND (B + 1)) := by
 obtain ⟨kr, i1, i2, i3, k12, k3, k67⟩ := ho
 have h : k = 1 ∨ k = 2 ∨ k = 3 ∨ k = 4 ∨ k = 5 ∨ k = 6 ∨ k = 7 ∨ k = 8 ∨ k = 9 := by omega
 rcases h with rfl | rfl | rfl | rfl | rfl | rfl | rfl | rfl | rfl
 ·exact do1_x n on ob og raw hn (by omega) (k12 (.inl rfl))
 ·exact do2_x n on ob og raw hn (by omega) (k12 (.inr rfl))
 ·exact do3_x n on ob og raw hn (by omega) ⟨i1.1, k3 rfl⟩
 ·exact do4_x n on ob og raw hn (by omega) i2 i3
 ·exact do5_x n on ob og raw hn (by omega)
 ·obtain ⟨b0, h1, h2, h3⟩ := k67 (.inl rfl)
  exact do6_x n on ob og raw hn (by omega) b0 h1 h2
 ·obtain ⟨b0, h1, h2, h3⟩ := k67 (.inr rfl)
  exact do7_x n on ob og raw hn (by omega) b0 h1 h2 h3
 ·exact do8_x n on ob og raw hn (by omega)
 ·exact do9_x n on ob og raw hn (by omega)
structure NdW (n : NdS) : Prop where
 app : SmApp n.st.app
 tip : TipOk n.tip
 th : 0 ≤ n.tip.height ∧ n.tip.height ≤ 1000
 tt : 0 ≤ n.tip.time ∧ n.tip.time ≤ 100000
 st : 0 ≤ n.st.time ∧ n.st.time ≤ 100000
 bb : I64 n.st.cfg.blkB
theorem NdW.of {B : Nat} {n : NdS} (h : NdOk B n) (hB : B ≤ 100) : NdW n := by
 have h1 := h.th
 have h2 := h.tt
 have h3 := h.st.time
 have h4 := h.st.cfg.blkB
 exact ⟨h.st.app, h.tip, by omega, by omega, by omega, by unfold I64; omega⟩
theorem ndw0 : NdW nd0 := by
 have l0 : SmLg lg0 := ⟨by simp [lg0], by simp [lg0, U64], by simp [lg0]⟩
 refine ⟨⟨l0, l0, l0, by simp [nd0, st0, app0, U64]⟩, ⟨by simp [nd0, I64], by simp [nd0, I64], by simp [nd0], by simp [nd0], by simp [nd0]⟩, by simp [nd0], by simp [nd0], by simp [nd0, st0], by simp [nd0, st0, I64]⟩
abbrev PlP (N : Nat) (r : MV) (N' : Nat) : Prop := N' ≤ N + 100000000 ∧ ∃ (n : NdS) (acs : List AcS) (ops : Nat × List MV), r = .tup [ndM n, .sl acs.length (acs.map acM), .sl ops.1 ops.2] ∧ NdW n ∧ acs.length ≤ 4 ∧ ∀ a ∈ acs, SmAc a
theorem played_n (L : List Int) (N m : Nat) (hm : m ≤ 20) (hN : N < 100000000000000000) : SemN G L 25 [numP, .int .i64 m] N (PlP N) := by
 unfold SemN
 refine seq' seat Tryz.func25 52 ?_
 refine go1 ?_
 refine g_callN1 rfl hhq rfl (config_n (G := G) L N (by omega)) rfl 0 [] ⟨rfl, trivial, rfl, lm, mm⟩ rfl ?_
 rintro _ K1 ⟨c, hc, hK1, rfl⟩
 refine go1 ?_
 refine g_callN1 rfl hhq rfl (accounts_n (G := G) L K1 (by omega)) rfl 0 [] ⟨rfl, trivial, rfl, lm, mm⟩ rfl ?_
 rintro _ K2 ⟨acs, ha, hsm, hK2, rfl⟩
 have cN := new_x (G := G) c acs hc (by omega) hsm
 refine go1 ?_
 refine g_callXC (cN) rfl rfl hhq (by kernel_rfl) ?_
 rintro _ ⟨n, e, rfl, hne⟩
 refine go1 ?_
 (refine c_cond rfl ?_ ?_ <;> intro h)
 ·have he : e ≠ 0 := by simpa using h
  have hn0 : n = nd0 := hne.elim (fun h => h.2) (fun h => absurd h.1 he)
  subst hn0
  refine go1 ?_
  refine ret_n [_, _, _] [ndM nd0, .sl acs.length (acs.map acM), .sl 0 []] K2 [] (by (refine go0 ?_); exact rfl) ⟨rfl, trivial, rfl, lm, mm⟩ (by kernel_rfl) ⟨by omega, nd0, acs, (0, []), rfl, ndw0, ha, hsm⟩
 ·have he : e = 0 := by simpa using h
  have hn0 : NdOk 0 n := hne.elim (fun h => absurd he h.1) (fun h => h.2)
  obtain ⟨x0, hx0, cx⟩ := next_b (G := G) L K2 (m + 1) (by omega) (by omega) (by omega)
  refine go1 ?_
  refine g_callR1 rfl hhq rfl (cx) [(0, 0)] [] ⟨rfl, trivial, rfl, lm, mm⟩ rfl rfl ?_
  refine go1 ?_
  refine c_loop (Nat × Nat × NdS × List OpS) (fun x => [(12, .int .i64 x.1), (11, .ms 3 5 0 x.2.2.2.length), (9, .ptr 2 259 0 0 []), (8, .sl acs.length (acs.map acM)), (4, .ptr 1 259 0 0 []), (0, numP)]) (fun x => numB L x.2.1 ++ [(1, ⟨81, 259, false, 0, [ndZ]⟩), (2, ⟨81, 259, false, 0, [ndM x.2.2.1]⟩), (3, ⟨104, 5, true, 0, x.2.2.2.map opM⟩)]) 4
   (fun x => x.1 ≤ m ∧ x.2.1 + 2000000 * x.1 ≤ N + 50000000 ∧ NdOk (m - x.1) x.2.2.1 ∧ x.2.2.2.length ≤ 100 - x.1) (fun x => x.1) (x0, K2 + 1, n, []) ⟨by dsimp only; omega, by dsimp only; omega, hn0.mono (Nat.zero_le _), Nat.zero_le _⟩ (by dsimp only; exact vm [(1, _), (2, _)] []) ?_
  clear hn0 hne cN cx
  rintro ⟨i, K, n, W⟩ ⟨h1, h2, h3, h4⟩
  try dsimp only
  dsimp only at h1 h2 h3 h4
  refine go1 ?_
  (refine c_cond rfl ?_ ?_ <;> intro h)
  ·have hi : 0 < i := by have := of_decide_eq_true h; omega
   obtain ⟨j, rfl⟩ : ∃ j, i = j + 1 := ⟨i - 1, by omega⟩
   refine go1 ?_
   refine g_callN1 rfl hhq rfl (op_n (G := G) L K n (by omega) h3 (by omega)) rfl 0 [] ⟨rfl, trivial, rfl, lm, mm⟩ rfl ?_
   rintro _ K' ⟨hK', k, on, ob, og, raw, rfl, hoc⟩
   obtain ⟨W2, hW2⟩ : ∃ W2, W2 = W ++ [(⟨k, on, ob, og, raw⟩ : OpS)] := ⟨_, rfl⟩
   have hW2l : W2.length = W.length + 1 := by rw [hW2]; simp
   have cD := do_x (G := G) n k on ob og raw h3 (by omega) hoc
   rw [show m - (j + 1) + 1 = m - j by omega] at cD
   refine go1 ?_
   ((with_reducible apply g_mem); (case hq => exact rfl); (case hv => exact rfl); (case he => (intro R hR; refine sms hR ?_; (refine And.intro (Nat.le_refl _) ?_; refine ⟨_, rfl, ?_⟩; refine And.intro ⟨(by simp), app_ok (by kernel_rfl) pf⟩ ?_; refine ⟨W2.map opM, sv (by rw [hW2, List.map_append]; rfl), W2.length, sv pf, ?_⟩); exact hR)); (case hd => exact rfl))
   refine go1 ?_
   refine g_callXC (cD) rfl rfl hhq (by kernel_rfl) ?_
   rintro _ ⟨n2, rp, rfl, hn2⟩
   refine go1 ?_
   exact ⟨(j, K', n2, W2), ⟨by dsimp only; omega, by dsimp only; omega, hn2, by dsimp only; omega⟩, by dsimp only; omega, (by dsimp only; exact vm [(1, _), (2, _), (3, _)] [])⟩
  ·refine go1 ?_
   refine ret_n [_, _, _] [ndM n, .sl acs.length (acs.map acM), .sl W.length (W.map opM)] K [(3, W.length)] (by (refine go0 ?_); exact rfl) ⟨rfl, ⟨by show W.length ≤ (W.map opM).length; simp, trivial⟩, rfl, lm, mm⟩ (by kernel_rfl) ⟨by omega, n, acs, (W.length, W.map opM), rfl, NdW.of h3 (by omega), ha, hsm⟩
abbrev ScP (L : List Int) (r : MV) (M : VM) (k : Nat) : Prop := ∃ (N : Nat) (n : NdS) (acs : List AcS) (bl : Nat × List MV), N ≤ 100000000 ∧ r = .tup [tipM n.tip, .sl bl.1 bl.2, cfM n.st.cfg, .sl acs.length (acs.map acM), stM n.st, numP] ∧ M = numB L N ∧ k = 1 ∧ NdW n ∧ acs.length ≤ 4 ∧ ∀ a ∈ acs, SmAc a
end
section
variable {G : GS}
attribute [local irreducible] vOpsN vOpsG vOpsD vOpGD NextD vC SeqQ BlockQ
section
variable {T : Tab} {rs : List ResultVar} {M : VM} {E : VE} {n : Nat}
theorem ret_e {Φ : MV → VM → Nat → Prop} (vs rv : List MV) (M1 : VM) (n1 : Nat) (σ bs : List (Nat × Nat)) (h1 : vRets T M E rs (fun v => v = vs)) (hm : LMatch 0 rv M1 n1 vs M σ bs) (hΦ : Φ (tupM rv) M1 n1) : vRetE T 0 rs Φ .ret E M n :=
 vRets_mono (fun v hv => by subst hv; exact ⟨tupM rv, M1, n1, hΦ, rv, σ, bs, rfl, hm⟩) h1
end
theorem scene_e (L : List Int) : SemE Tryz.prog G 8 [intsM L] [] 0 (ScP L) := by
 refine seq' seat Tryz.func8 31 ?_
 refine go1 ?_
 refine g_callR1 rfl hhq rfl (from_r (G := G) L) [] [] ⟨rfl, trivial, rfl, lm, mm⟩ rfl rfl ?_
 refine go1 ?_
 refine g_callN1 rfl hhq rfl (played_n (G := G) L 0 14 (by omega) (by omega)) rfl 7 [] ⟨rfl, trivial, rfl, lm, mm⟩ rfl ?_
 rintro _ N1 ⟨hN1, n, acs, ops, rfl, hw, ha, hsm⟩
 refine go1 ?_
 refine c_draw [(0, false), (1, false), (2, false), (3, false), (4, false), (5, false), (6, false), (7, false), (8, false), (9, false), (10, false), (11, false), (12, false), (13, false), (14, false), (15, false), (16, false)] ?_
 refine go1 ?_
 refine ret_e [_, _, _, _, _, _] [tipM n.tip, .sl n.blocks.length (n.blocks.map blkM), cfM n.st.cfg, .sl acs.length (acs.map acM), stM n.st, numP] (numB L N1) 1 [(0, 7)] [] (by (refine go0 ?_); exact rfl) ⟨rfl, trivial, rfl, lm, mm⟩ ⟨N1, n, acs, (n.blocks.length, n.blocks.map blkM), by omega, rfl, rfl, rfl, hw, ha, hsm⟩
end
section
theorem roots_ne : rootS [[1]] ≠ rootS [[2]] := by decide +kernel
def lgK : LgS := ⟨[⟨[97, 110, 110], 9, 0⟩], 0⟩
def bK (t : TipS) : BlkS := makeS t 0 1 [[1]]
theorem chk_1 {t : TipS} (h1 : t.height = 0) (h2 : t.time = 0) : chkS t (bK t) 3 100 = 0 := by
 unfold chkS bK makeS
 dsimp only
 rw [h1, h2]
 have hw : sumB [[1]] = 3 := by decide +kernel
 simp [hw]
theorem chk_2 {t : TipS} (h1 : t.height = 0) (h2 : t.time = 0) : chkS t (bK t) 1 100 = 36 := by
 unfold chkS bK makeS
 dsimp only
 rw [h1, h2]
 simp
theorem chk_3 {t : TipS} (h1 : t.height = 0) (h2 : t.time = 0) : chkS t ⟨(bK t).hd, [[2]]⟩ 3 100 = 35 := by
 have := roots_ne
 unfold chkS bK makeS
 dsimp only
 rw [h1, h2]
 simp [this]
theorem chk_4 {t : TipS} (h1 : t.height = 0) (h2 : t.time = 0) : chkS t (bK t) 3 2 = 3 := by
 unfold chkS bK makeS
 dsimp only
 rw [h1, h2]
 have hw : sumB [[1]] = 3 := by decide +kernel
 simp [hw]
theorem chk_5 {t u : TipS} (h1 : t.height = 0) (hu : u.height = 1) : chkS u (bK t) 3 100 = 30 := by
 unfold chkS bK makeS
 dsimp only
 rw [h1, hu]
 simp
end
section
variable {G : GS}
attribute [local irreducible] vOpsN vOpsG vOpsD vOpGD NextD vC SeqQ BlockQ
theorem long27_m (k : List Int) (hk : k.length ≤ 140737488355328) : SemC Tryz.prog G 6 [.sl 1 [intsM k]] (.bool (decide (160 < k.length))) := by
 refine scq seat Tryz.func6 19 ?_
 refine go1 ?_
 refine c_loop Nat (fun j => [(8, .int .i64 j), (7, .int .i64 1), (6, .sl 1 [intsM k]), (3, .int .i64 ((j * k.length : Nat) : Int))]) (fun _ => []) 0 (fun j => j ≤ 1) (fun j => 1 - j) 0 (by omega) (by rw [Nat.zero_mul]; exact vm [] []) ?_
 intro j hj
 try dsimp only
 refine go1 ?_
 (refine c_cond rfl ?_ ?_ <;> intro h)
 ·have hj' : j = 0 := by have := of_decide_eq_true h; omega
  subst hj'
  have hel := SomF.mk (index_at (l := [intsM k]) (n := 1) (k := 0) (by omega) rfl)
  rw [Nat.zero_mul]
  refine go1 ?_
  exact ⟨1, by show 1 ≤ 1; omega, by show 1 - 1 < 1 - 0; omega, (by dsimp only; rw [Nat.one_mul]; exact vm [] [])⟩
 ·have hj' : j = 1 := by have := of_decide_eq_false h; omega
  subst hj'
  rw [Nat.one_mul]
  refine go1 ?_
  refine go0 ?_
  show MV.bool (decide ((160 : Int) < k.length)) = _
  congr 1
  exact decide_eq_decide.2 (by omega)
theorem lgK_sm : SmLg lgK := ⟨by simp [lgK], by simp [lgK, U64], by simp [lgK, SmAc, U64]⟩
theorem advT_parts (b : BlkS) (l : LgS) (r : List ResS) : (advT b l r).hash = hashS b.hd ∧ (advT b l r).app = digS l := by simp only [advT, and_self]
theorem genT_app (l : LgS) : (genT l).app = digS l := rfl
theorem resK_ok : ∀ x ∈ ([⟨4, [], 0, 0, 0⟩] : List ResS), SmRes x := fun x hx => by
 rw [List.mem_singleton.1 hx]
 simp [SmRes, U64]
theorem known27_m : SemC Tryz.prog G 7 [] (.bool true) := by
 have c1 := pgen_m (G := G) lgK lgK_sm
 have ht := genT_ok lgK
 have hta := genT_app lgK
 generalize genT lgK = t at *
 obtain ⟨ht, ht1, ht2⟩ := ht
 have c2 := pmake_r (G := G) t 0 1 [[1]] (by omega) (by omega) (by simp) (by simp)
 have hb := makeS_ok (t := t) (time := 0) (prop := 1) (raws := [[1]]) ht (by omega) (by omega) (by simp [I64]) (by simp [I64]) (by simp) (by simp)
 have k1 := chk_1 ht1 ht2
 have k2 := chk_2 ht1 ht2
 have k3 := chk_3 ht1 ht2
 have k4 := chk_4 ht1 ht2
 have k5 := fun u => chk_5 (t := t) (u := u) ht1
 have hh := makeS_hd t 0 1 [[1]]
 have hbt : (bK t).txs = [[1]] := rfl
 change (bK t).hd.height = _ ∧ (bK t).hd.time = _ at hh
 change BlkOk (bK t) at hb
 change SemR _ _ _ _ _ _ (blkM (bK t)) _ _ at c2
 generalize bK t = b at *
 rw [ht1, ht2] at hh
 rw [if_pos (by decide)] at hh
 obtain ⟨hh1, hh2⟩ := hh
 replace hh1 : b.hd.height = 1 := hh1
 replace hh2 : b.hd.time = 1 := hh2
 have cA := padv_m (G := G) t b lgK [⟨4, [], 0, 0, 0⟩] hb.hd lgK_sm (by simp) resK_ok
 have hu := advT_ok lgK [⟨4, [], 0, 0, 0⟩] hb.hd
 obtain ⟨hu1, hu2⟩ := advT_parts b lgK [⟨4, [], 0, 0, 0⟩]
 generalize advT b lgK [⟨4, [], 0, 0, 0⟩] = u at *
 obtain ⟨hu, hu3, _⟩ := hu
 have cH := hash_m (G := G) b.hd hb.hd
 rw [← hu1] at cH
 rw [← hu2] at hta
 have i3 : I64 3 := by simp [I64]
 have i1 : I64 1 := by simp [I64]
 have i2 : I64 2 := by simp [I64]
 have i100 : I64 100 := by simp [I64]
 have hb2 : BlkOk ⟨b.hd, [[2]]⟩ := ⟨hb.hd, by simp, by simp⟩
 have d1 := pchk_m (G := G) t b 3 100 ht hb.hd i3 i100 (by rw [hbt]; simp) (by rw [hbt]; simp)
 have d2 := pchk_m (G := G) t b 1 100 ht hb.hd i1 i100 (by rw [hbt]; simp) (by rw [hbt]; simp)
 have d3 := pchk_m (G := G) t ⟨b.hd, [[2]]⟩ 3 100 ht hb.hd i3 i100 (by simp) (by simp)
 have d4 := pchk_m (G := G) t b 3 2 ht hb.hd i3 i2 (by rw [hbt]; simp) (by rw [hbt]; simp)
 have d5 := pchk_m (G := G) u b 3 100 hu hb.hd i3 i100 (by rw [hbt]; simp) (by rw [hbt]; simp)
 rw [k1] at d1
 rw [k2] at d2
 rw [k3] at d3
 rw [k4] at d4
 rw [k5 u (by omega)] at d5
 have q1 : SomF (eqM (keyM u.hash) (keyM u.hash)) true := SomF.mk (by rw [eq_key rfl, decide_eq_true rfl])
 have q2 : SomF (eqM (keyM u.app) (keyM u.app)) true := SomF.mk (by rw [eq_key rfl, decide_eq_true rfl])
 have s1 := SideF.mk (keySide u.hash u.hash)
 have s2 := SideF.mk (keySide u.app u.app)
 obtain ⟨⟨bh, bt, bp, bpar, btx, bap, bre⟩, btxs⟩ := b
 obtain ⟨th, tt, thash, tapp, tres⟩ := t
 obtain ⟨uh, ut, uhash, uapp, ures⟩ := u
 dsimp only at *
 subst hbt hta ht1 ht2 hh1 hh2 hu3
 dsimp only [blkM, hdM, tipM] at *
 clear k1 k2 k3 k4 k5
 refine scq seat Tryz.func7 85 ?_
 refine go1 ?_
 refine g_call1 rfl hhq rfl (src (c1)) rfl [(2, 1)] mm lm ?_
 refine go1 ?_
 ((with_reducible apply g_mem); (case hq => exact rfl); (case hv => exact rfl); (case he => (intro R hR; refine sms hR ?_; refine And.intro (Nat.le_refl 1) ?_; refine ⟨[.int .u8 1], sv rfl, ?_⟩; exact hR)); (case hd => exact rfl))
 refine go1 ?_
 refine g_call1 rfl hhq rfl (c2) rfl [(11, 1)] mm lm ?_
 refine go1 ?_
 refine g_call1 rfl hhq rfl (src (cA)) rfl [(2, 1), (18, 1)] mm lm ?_
 refine go1 ?_
 ((with_reducible apply g_mem); (case hq => exact rfl); (case hv => exact rfl); (case he => (intro R hR; refine sms hR ?_; refine And.intro (Nat.le_refl 1) ?_; refine ⟨[.int .u8 2], sv rfl, ?_⟩; exact hR)); (case hd => exact rfl))
 refine go1 ?_
 refine c_draw [(0, false), (1, false), (2, false), (3, false), (4, false), (5, false), (6, false), (7, false), (8, false), (9, false), (10, false), (11, false), (12, false), (13, true), (14, false), (15, false), (16, false), (17, false), (18, false), (19, true), (20, false), (21, false), (22, false), (23, false), (24, false), (25, true), (26, false), (27, false), (28, false), (29, false), (30, false), (31, true), (32, false), (33, false), (34, false), (35, false), (36, false), (37, false), (38, false), (39, false), (40, false), (41, false), (42, false), (43, false), (44, true), (45, false), (46, false), (47, false), (48, false), (49, false), (50, false), (51, false), (52, false), (53, false), (54, false), (55, false), (56, false), (57, true), (58, false), (59, false), (60, false)] ?_
 refine go1 ?_
 refine gd_call1 rfl hhq rfl [] (src (d1)) rfl [] trivial (relVs_self _ (by kernel_rfl)) rfl ?_
 refine go1 ?_
 refine gd_call1 rfl hhq rfl [] (src (d2)) rfl [] trivial (relVs_self _ (by kernel_rfl)) rfl ?_
 refine go1 ?_
 refine gd_call1 rfl hhq rfl [25] (src (d3)) rfl [(25, 1)] mm lm rfl ?_
 refine go1 ?_
 refine gd_call1 rfl hhq rfl [] (src (d4)) rfl [] trivial (relVs_self _ (by kernel_rfl)) rfl ?_
 refine go1 ?_
 refine gd_call1 rfl hhq rfl [] (src (cH)) rfl [] trivial (relVs_self _ (by kernel_rfl)) rfl ?_
 refine go1 ?_
 refine gd_call1 rfl hhq rfl [] (src (d5)) rfl [] trivial (relVs_self _ (by kernel_rfl)) rfl ?_
 refine go1 ?_
 refine go0 ?_
 rfl
end
end Go.Proofs.YtoagomdghimlbaaGreat
