/- ChainMakes: whatever the input (of bulk at most 1048576), the law answers true, and its arguments read as before. Conditions: the bound on what the arguments hold. -/
import Derived.Deep.CondSized
import Derived.Test.YtoagomdghimlbaaGreatW07
set_option maxRecDepth 20000
set_option maxHeartbeats 16000000
namespace Go.Proofs.YtoagomdghimlbaaGreat
open Go.RowKit
section
open Go.ChangeShapes Go.WideShapes Go.ChangeAt Go.RowKit
theorem u8_lift : ∀ (l : List Int), (∀ y ∈ l, (Lit.int .u8 y).wf = true) → ∃ bs : List UInt8, l.map (MV.int .u8) = u8s bs ∧ bs.length = l.length
 | [], _ => ⟨[], rfl, rfl⟩
 | y :: l, h => by
  obtain ⟨bs, h1, h2⟩ := u8_lift l fun z hz => h z (by simp [hz])
  have hy := h y (by simp)
  have hy : 0 ≤ y ∧ y < 256 := by
   simp [Lit.wf, IntKind.min, IntKind.max, IntKind.signed, IntKind.bits] at hy
   omega
  refine ⟨UInt8.ofNat y.toNat :: bs, ?_, by simp [h2]⟩
  show MV.int .u8 y :: l.map (MV.int .u8) = MV.int .u8 ((UInt8.ofNat y.toNat).toNat : Int) :: u8s bs
  rw [h1, UInt8.toNat_ofNat']
  congr 2
  omega
theorem opn_u8s : Opn Tryz.prog 64 1 fun m => ∃ l, m = .sl l.length l ∧ (∀ x ∈ l, ∃ n, x = .int .u8 n ∧ (Lit.int .u8 n).wf = true) ∧ l.length ≤ 140737488355328 := Opn.slice Tryz.underlying64 (by kernel_rfl) (Nat.le_of_ble_eq_true (by kernel_rfl)) (by omega) (Opn.int Tryz.underlying5 (by kernel_rfl))
def okRaw (m : MV) : Prop := ∃ l, m = .sl l.length l ∧ (∀ x ∈ l, ∃ n, x = .int .u8 n ∧ (Lit.int .u8 n).wf = true) ∧ l.length ≤ 140737488355328
def okNum (k : IntKind) (m : MV) : Prop := ∃ n, m = .int k n ∧ (Lit.int k n).wf = true
def okKey (m : MV) : Prop := ∃ l : List Int, m = .arr 32 1 (l.map (.int .u8)) ∧ l.length = 32 ∧ ∀ y ∈ l, (Lit.int .u8 y).wf = true
theorem OpnL.cons {P : Program} {o n : Nat} {Q : MV → Prop} {f : Field} {fs : List Field} {qs : List (Nat × (MV → Prop))} (h1 : f.offset = o) (h2 : Opn P f.type n Q) (h3 : OpnL P (o + n) fs qs) : OpnL P o (f :: fs) ((n, Q) :: qs) := ⟨h1, h2, h3⟩
theorem OpnL.nil {P : Program} {o : Nat} : OpnL P o [] [] := trivial
theorem opn_key : Opn Tryz.prog 25 32 okKey := Opn.arr Tryz.underlying25 Tryz.underlying5 (by kernel_rfl) (by kernel_rfl)
theorem opn_i64 : Opn Tryz.prog 3 1 (okNum .i64) := opn_int
theorem opn_raw : Opn Tryz.prog 64 1 okRaw := opn_u8s
theorem AllQ.cons {q : Nat × (MV → Prop)} {qs : List (Nat × (MV → Prop))} : ∀ {l : List MV}, AllQ (q :: qs) l → ∃ m r, l = m :: r ∧ q.2 m ∧ AllQ qs r
 | [], h => h.elim
 | m :: r, h => ⟨m, r, rfl, h.1, h.2⟩
theorem AllQ.nil : ∀ {l : List MV}, AllQ [] l → l = []
 | [], _ => rfl
 | _ :: _, h => h.elim
theorem opn_raws : Opn Tryz.prog 23 1 fun m => ∃ l, m = .sl l.length l ∧ (∀ x ∈ l, okRaw x) ∧ l.length ≤ 140737488355328 := Opn.slice Tryz.underlying23 (by kernel_rfl) (Nat.le_of_ble_eq_true (by kernel_rfl)) (by omega) opn_raw
theorem bulk_mem : ∀ (l : List MV) (m : MV), m ∈ l → m.bulk ≤ MV.bulks l
 | [], m, h => by cases h
 | x :: l, m, h => by
  rcases List.mem_cons.1 h with rfl | h
  ·simp only [MV.bulks]; omega
  ·have := bulk_mem l m h
   simp only [MV.bulks]; omega
theorem raw_lift {m : MV} (h : okRaw m) : ∃ r : List UInt8, m = rawM r := by
 obtain ⟨l, rfl, h, hl⟩ := h
 obtain ⟨us, rfl, hu⟩ := lift_list l h
 obtain ⟨bs, e, hb⟩ := u8_lift us hu
 exact ⟨bs, by rw [e]; unfold rawM; simp [u8s, hb]⟩
theorem raw_bulk (r : List UInt8) : r.length ≤ (rawM r).bulk := by
 have h1 := bulks_len (u8s r)
 unfold rawM
 simp only [u8s, List.length_map] at h1
 simp only [MV.bulk, u8s]
 omega
def OkRaws (B : Nat) (l : List (List UInt8)) : Prop := l.length ≤ B ∧ ∀ r ∈ l, r.length ≤ B
theorem raws_lift0 {m : MV} (h : ∃ l, m = .sl l.length l ∧ (∀ x ∈ l, okRaw x) ∧ l.length ≤ 140737488355328) {B : Nat} (hB : m.bulk ≤ B) : ∃ rs : List (List UInt8), m = .sl rs.length (rs.map rawM) ∧ OkRaws B rs := by
 obtain ⟨l, rfl, h, hl⟩ := h
 have h2 : ∀ x ∈ l, ∃ r : List UInt8, x = rawM r ∧ True := fun x hx => by
  obtain ⟨r, e⟩ := raw_lift (h x hx)
  exact ⟨r, e, trivial⟩
 obtain ⟨rs, rfl, _⟩ := lift_list l h2
 have h3 := bulks_len (rs.map rawM)
 simp only [MV.bulk, List.length_map] at hB h3
 refine ⟨rs, by rw [List.length_map], by omega, fun r hr => ?_⟩
 have h4 := bulk_mem (rs.map rawM) (rawM r) (List.mem_map.2 ⟨r, hr, rfl⟩)
 have h5 := raw_bulk r
 omega
theorem raws_lift {m : MV} (h : ∃ l, m = .sl l.length l ∧ (∀ x ∈ l, okRaw x) ∧ l.length ≤ 140737488355328) {B : Nat} (hB : m.bulk ≤ B) : ∃ rs : List (List UInt8), m = rawsM rs ∧ OkRaws B rs := raws_lift0 h hB
theorem key_lift {m : MV} (h : okKey m) : ∃ k : List UInt8, m = keyM k ∧ k.length = 32 := by
 obtain ⟨l, rfl, hl, h⟩ := h
 obtain ⟨kb, e, hk⟩ := u8_lift l h
 exact ⟨kb, by unfold keyM; rw [e], by omega⟩
theorem num_lift {m : MV} (h : okNum .i64 m) : ∃ n : Int, m = .int .i64 n ∧ I64 n := by
 obtain ⟨n, rfl, h⟩ := h
 simp [Lit.wf, IntKind.min, IntKind.max, IntKind.signed, IntKind.bits] at h
 exact ⟨n, rfl, by unfold I64; omega⟩
def okRows (m : MV) : Prop := ∃ l, m = .sl l.length l ∧ (∀ x ∈ l, okRaw x) ∧ l.length ≤ 140737488355328
def qsH : List (Nat × (MV → Prop)) := [(1, okNum .i64), (1, okNum .i64), (1, okNum .i64), (32, okKey), (32, okKey), (32, okKey), (32, okKey)]
def okHead (m : MV) : Prop := ∃ l, m = .st l ∧ AllQ qsH l
theorem opn_head : Opn Tryz.prog 27 131 okHead := by
 refine Opn.struct (P := Tryz.prog) (qs := qsH) Tryz.underlying27 (by kernel_rfl) ?_
 unfold qsH
 refine .cons rfl opn_i64 ?_
 refine .cons rfl opn_i64 ?_
 refine .cons rfl opn_i64 ?_
 refine .cons rfl opn_key ?_
 refine .cons rfl opn_key ?_
 refine .cons rfl opn_key ?_
 refine .cons rfl opn_key ?_
 exact .nil
def qsB : List (Nat × (MV → Prop)) := [(131, okHead), (1, okRows)]
theorem opn_block : Opn Tryz.prog 29 132 fun m => ∃ l, m = .st l ∧ AllQ qsB l := by
 refine Opn.struct (P := Tryz.prog) (qs := qsB) Tryz.underlying29 (by kernel_rfl) ?_
 unfold qsB
 refine .cons rfl opn_head ?_
 refine .cons rfl opn_raws ?_
 exact .nil
def qsT : List (Nat × (MV → Prop)) := [(1, okNum .i64), (1, okNum .i64), (32, okKey), (32, okKey), (32, okKey)]
theorem opn_tip : Opn Tryz.prog 33 98 fun m => ∃ l, m = .st l ∧ AllQ qsT l := by
 refine Opn.struct (P := Tryz.prog) (qs := qsT) Tryz.underlying33 (by kernel_rfl) ?_
 unfold qsT
 refine .cons rfl opn_i64 ?_
 refine .cons rfl opn_i64 ?_
 refine .cons rfl opn_key ?_
 refine .cons rfl opn_key ?_
 refine .cons rfl opn_key ?_
 exact .nil
theorem head_lift {m : MV} (h : okHead m) : ∃ x : HdS, m = hdM x ∧ HdOk x := by
 obtain ⟨l, rfl, h⟩ := h
 unfold qsH at h
 obtain ⟨_, l1, rfl, h1, g1⟩ := h.cons
 obtain ⟨_, l2, rfl, h2, g2⟩ := g1.cons
 obtain ⟨_, l3, rfl, h3, g3⟩ := g2.cons
 obtain ⟨_, l4, rfl, h4, g4⟩ := g3.cons
 obtain ⟨_, l5, rfl, h5, g5⟩ := g4.cons
 obtain ⟨_, l6, rfl, h6, g6⟩ := g5.cons
 obtain ⟨_, l7, rfl, h7, g7⟩ := g6.cons
 obtain rfl := g7.nil
 obtain ⟨a1, rfl, b1⟩ := num_lift h1
 obtain ⟨a2, rfl, b2⟩ := num_lift h2
 obtain ⟨a3, rfl, b3⟩ := num_lift h3
 obtain ⟨a4, rfl, b4⟩ := key_lift h4
 obtain ⟨a5, rfl, b5⟩ := key_lift h5
 obtain ⟨a6, rfl, b6⟩ := key_lift h6
 obtain ⟨a7, rfl, b7⟩ := key_lift h7
 exact ⟨⟨a1, a2, a3, a4, a5, a6, a7⟩, rfl, b1, b2, b3, b4, b5, b6, b7⟩
theorem tip_lift {m : MV} (h : ∃ l, m = .st l ∧ AllQ qsT l) : ∃ x : TipS, m = tipM x ∧ TipOk x := by
 obtain ⟨l, rfl, h⟩ := h
 unfold qsT at h
 obtain ⟨_, l1, rfl, h1, g1⟩ := h.cons
 obtain ⟨_, l2, rfl, h2, g2⟩ := g1.cons
 obtain ⟨_, l3, rfl, h3, g3⟩ := g2.cons
 obtain ⟨_, l4, rfl, h4, g4⟩ := g3.cons
 obtain ⟨_, l5, rfl, h5, g5⟩ := g4.cons
 obtain rfl := g5.nil
 obtain ⟨a1, rfl, b1⟩ := num_lift h1
 obtain ⟨a2, rfl, b2⟩ := num_lift h2
 obtain ⟨a3, rfl, b3⟩ := key_lift h3
 obtain ⟨a4, rfl, b4⟩ := key_lift h4
 obtain ⟨a5, rfl, b5⟩ := key_lift h5
 exact ⟨⟨a1, a2, a3, a4, a5⟩, rfl, b1, b2, b3, b4, b5⟩
theorem block_lift {m : MV} (h : ∃ l, m = .st l ∧ AllQ qsB l) {B : Nat} (hB : m.bulk ≤ B) : ∃ x : BlkS, m = blkM x ∧ HdOk x.hd ∧ OkRaws B x.txs := by
 obtain ⟨l, rfl, h⟩ := h
 unfold qsB at h
 obtain ⟨_, l1, rfl, h1, g1⟩ := h.cons
 obtain ⟨_, l2, rfl, h2, g2⟩ := g1.cons
 obtain rfl := g2.nil
 obtain ⟨x, rfl, hx⟩ := head_lift h1
 simp only [MV.bulk, MV.bulks] at hB
 obtain ⟨rs, rfl, hr⟩ := raws_lift0 h2 (B := B) (by omega)
 exact ⟨⟨x, rs⟩, rfl, hx, hr⟩
end
section
variable {G : GS}
attribute [local irreducible] vOpsN vOpsG vOpsD vOpGD NextD vC SeqQ BlockQ
theorem makeS_hdok {t : TipS} {time prop : Int} {raws : List (List UInt8)} (ht : TipOk t) (h1 : -1000 ≤ t.height ∧ t.height < 4611686018427387904) (h2 : -1000 ≤ t.time ∧ t.time < 4611686018427387904) (h3 : I64 time) (h4 : I64 prop) : HdOk (makeS t time prop raws).hd := by
 unfold makeS
 unfold I64 at h3
 refine ⟨by dsimp only; unfold I64; omega, ?_, h4, ht.hash, rootS_len _, ht.app, ht.res⟩
 dsimp only
 unfold I64
 split <;> omega
theorem tip_self (a : TipS) (h : TipOk a) : SomF (eqM (tipM a) (tipM a)) true := SomF.mk (by rw [eq_tip h h, decide_eq_true rfl])
theorem makes_r (k : List Int) (time prop : Int) (raws : List (List UInt8)) (b : BlkS) (hk : k.length ≤ 140737488355328) (ht : I64 time) (hp : I64 prop) (hrn : raws.length < 1000000000) (hr : ∀ x ∈ raws, x.length < 300000000) (hb : HdOk b.hd) (hbn : b.txs.length < 1000000000) : SemR Tryz.prog G 3 [intsM k, .int .i64 time, .int .i64 prop, rawsM raws, blkM b] [] 0 (.bool true) [] 0 := by
 have cL := long27_m (G := G) k hk
 have cK := known27_m (G := G)
 unfold rawsM
 refine srq seat Tryz.func3 106 ?_
 refine go1 ?_
 refine g_call1 rfl hhq rfl (src (cL)) rfl [(3, 1)] mm lm ?_
 refine go1 ?_
 (refine n_grd ⟨rfl, rfl, rfl⟩ ?_ ?_ <;> intro h)
 ·refine go1 ?_
  (refine n_grd ⟨rfl, rfl, rfl⟩ ?_ ?_ <;> intro h)
  ·refine go1 ?_
   (refine c_cond rfl ?_ ?_ <;> intro h)
   ·refine go1 ?_
    refine g_callC (src (cK)) rfl rfl hhq (by kernel_rfl) ?_
    refine go1 ?_
    refine go0 ?_
    (refine ret_r [_] rfl (by kernel_rfl) ?_; (refine go0 ?_); exact rfl)
   ·have hb10 : b.txs.length ≤ 10 := by have := of_decide_eq_false h; omega
    rename_i hq
    have hr10 : raws.length ≤ 10 := by have := of_decide_eq_false hq; omega
    refine go1 ?_
    refine g_callE1 rfl hhq rfl (scene_e (G := G) k) [] [] ⟨rfl, trivial, rfl, lm, mm⟩ rfl ?_
    rintro _ _ _ ⟨N, n, acs, bl, hN, rfl, rfl, rfl, hw, ha, hsm⟩
    refine ⟨rfl, ?_⟩
    obtain ⟨w1, w2, w3, w4, w5, w6⟩ := hw
    have cR := raws_r (G := G) k N n.st.app 4 (by omega) w1 (by omega)
    have hR := rawsS_ok (L := k) (N := N) (n := 4) w1 (by omega)
    generalize rawsS k N n.st.app 4 = RR at *
    obtain ⟨m, K1⟩ := RR
    dsimp only at cR hR
    have cA := all_r (G := G) n.st.app.com n.st.app.price m w1.1 w1.2.2.2 (by omega) (fun x hx => by have := hR.1 x hx; omega)
    have hA := allG_sm n.st.app.price m n.st.app.com [] w1.1 (by simp)
    generalize allG n.st.app.price m n.st.app.com [] = AA at *
    obtain ⟨lg2, res⟩ := AA
    dsimp only at cA hA
    refine go1 ?_
    refine g_callR1 rfl hhq rfl (cR) [(0, 16)] [] ⟨rfl, trivial, rfl, lm, mm⟩ rfl rfl ?_
    refine go1 ?_
    refine g_callC (cA) rfl rfl hhq (by kernel_rfl) ?_
    refine go1 ?_
    refine c_loop Nat (fun j => [(66, .int .i64 j), (65, .int .i64 (2 : Nat)), (64, .sl 2 [.sl raws.length (raws.map rawM), .sl m.length (m.map rawM)]), (19, .sl res.length (res.map resM)), (15, .ptr 2 25 0 0 []), (11, .ptr 1 98 0 0 []), (9, .ptr 0 132 0 0 []), (1, .int .i64 time), (2, .int .i64 prop)]) (fun _ => [(0, ⟨29, 132, false, 0, [blkM b]⟩), (1, ⟨33, 98, false, 0, [tipM n.tip]⟩), (2, ⟨46, 25, false, 0, [stM n.st]⟩)]) 3 (fun j => j ≤ 2) (fun j => 2 - j) 0 (by omega) (by dsimp only; exact vm [(0, _), (1, _), (2, _)] [(53, 2)]) ?_
    clear cR cA cL
    intro j hj
    try dsimp only
    refine go1 ?_
    (refine c_cond rfl ?_ ?_ <;> intro h)
    ·have hj2 : j < 2 := by have := of_decide_eq_true h; omega
     obtain ⟨xs, hel, hx1, hx2⟩ : ∃ xs : List (List UInt8), SomF (idxL [.sl raws.length (raws.map rawM), .sl m.length (m.map rawM)] 2 (j : Int)) (.sl xs.length (xs.map rawM)) ∧ xs.length ≤ 10 ∧ ∀ x ∈ xs, x.length < 300000000 := by
      have h3 : j = 0 ∨ j = 1 := by omega
      rcases h3 with rfl | rfl
      ·exact ⟨raws, SomF.mk (index_at (by omega) rfl), hr10, hr⟩
      ·exact ⟨m, SomF.mk (index_at (by omega) rfl), by omega, fun x hx => by have := hR.1 x hx; omega⟩
     have cM1 := pmake_r (G := G) n.tip time prop xs (by omega) (by omega) (by omega) hx2
     have cM2 := make_r (G := G) n.tip time prop xs (by omega) (by omega) (by omega) hx2
     have hho := makeS_hdok (raws := xs) w2 (by omega) (by omega) ht hp
     have hbx : (makeS n.tip time prop xs).txs = xs := rfl
     generalize makeS n.tip time prop xs = bb at *
     have cS := sameBlock_m (G := G) bb bb hho hho (by rw [hbx]; omega) (by rw [hbx]; omega)
     rw [decide_eq_true rfl] at cS
     refine go1 ?_
     refine c_draw [(0, false), (1, false), (2, false), (3, false), (4, true), (5, false), (6, false), (7, false), (8, false), (9, true), (10, true), (11, false)] ?_
     refine go1 ?_
     refine gd_call1 rfl hhq rfl [] (cM1) rfl [] trivial lm rfl ?_
     refine go1 ?_
     refine gd_call1 rfl hhq rfl [] (cM2) rfl [] trivial lm rfl ?_
     refine go1 ?_
     refine gd_call1 rfl hhq rfl [] (src (cS)) rfl [] trivial lm rfl ?_
     refine go1 ?_
     exact ⟨j + 1, by omega, by dsimp only; omega, (by dsimp only; exact vm [(0, _), (1, _), (2, _)] [])⟩
    ·have cg1 := pgen_m (G := G) n.st.app.chk w1.2.1
     have cg2 := rgen_m (G := G) n.st.app.chk w1.2.1
     have hg := genT_ok n.st.app.chk
     generalize genT n.st.app.chk = tg at *
     have ca1 := padv_m (G := G) n.tip b n.st.app.chk res hb w1.2.1 (by have := hA.2.2; simp at this; omega) hA.2.1
     have ca2 := radv_m (G := G) b n.st.app.chk res hb w1.2.1 (by have := hA.2.2; simp at this; omega) hA.2.1
     have ha2 := advT_ok n.st.app.chk res hb
     generalize advT b n.st.app.chk res = ta at *
     have q1 := tip_self tg hg.1
     have q2 := tip_self ta ha2.1
     have s1 := SideF.mk (tipSide tg tg)
     have s2 := SideF.mk (tipSide ta ta)
     refine go1 ?_
     refine c_draw [(0, false), (1, true), (2, false), (3, true), (4, false), (5, false), (6, false), (7, false), (8, false), (9, false), (10, true), (11, false), (12, false), (13, false), (14, true), (15, false), (16, false), (17, false), (18, true), (19, false), (20, false)] ?_
     refine go1 ?_
     refine gd_call1 rfl hhq rfl [] (src (cg1)) rfl [] trivial (relVs_self _ (by kernel_rfl)) rfl ?_
     refine go1 ?_
     refine gd_call1 rfl hhq rfl [] (src (cg2)) rfl [] trivial (relVs_self _ (by kernel_rfl)) rfl ?_
     refine go1 ?_
     refine gd_call1 rfl hhq rfl [] (src (ca1)) rfl [] trivial lm rfl ?_
     refine go1 ?_
     refine gd_call1 rfl hhq rfl [] (src (ca2)) rfl [] trivial lm rfl ?_
     refine go1 ?_
     refine gd_call1 rfl hhq rfl [] (src (cK)) rfl [] trivial (relVs_self _ (by kernel_rfl)) rfl ?_
     refine go1 ?_
     (refine ret_r [_] rfl (by kernel_rfl) ?_; (refine go0 ?_); exact rfl)
  ·refine go1 ?_
   refine g_callC (src (cK)) rfl rfl hhq (by kernel_rfl) ?_
   refine go1 ?_
   refine go0 ?_
   (refine ret_r [_] rfl (by kernel_rfl) ?_; (refine go0 ?_); exact rfl)
 ·refine go1 ?_
  refine g_callC (src (cK)) rfl rfl hhq (by kernel_rfl) ?_
  refine go1 ?_
  refine go0 ?_
  (refine ret_r [_] rfl (by kernel_rfl) ?_; (refine go0 ?_); exact rfl)
end
section
theorem chainMakes_core (k : List Int) (hk : k.length ≤ 140737488355328) (t : Int) (ht : (Lit.int .i64 t).wf = true) (p : Int) (hp : (Lit.int .i64 p).wf = true) (rs : List (List UInt8)) (hr : OkRaws 1048576 rs) (b : BlkS) (hb : HdOk b.hd ∧ OkRaws 1048576 b.txs) : SemC Tryz.prog G0 3 [intsM k, .int .i64 t, .int .i64 p, rawsM rs, blkM b] (.bool true) := by
 simp [Lit.wf, IntKind.min, IntKind.max, IntKind.signed, IntKind.bits] at ht hp
 exact semC_of_semR (makes_r k t p rs b hk (by unfold I64; omega) (by unfold I64; omega) (by have := hr.1; omega) (fun x hx => by have := hr.2 x hx; omega) hb.1 (by have := hb.2.1; omega))
end
end Go.Proofs.YtoagomdghimlbaaGreat
namespace Go.Proofs.YtoagomdghimlbaaGreat.chainMakes
open Go.ChangeShapes Go.WideShapes Go.ChangeAt Go.RowKit Go.Proofs.YtoagomdghimlbaaGreat
set_option maxRecDepth 100000 in
theorem contract (H : Type) (enc : TypeId × Value → H) (W : World) (base : Nat) (args : Array Value) (ds gs : List (DataW H)) (before : List MemPlace)
  (hval : ∀ (j : Nat) t v, Tryz.f3.params[j]? = some t → args[j]? = some v → Value.okWide Tryz.prog W .any base t v)
  (hW : DataW.Whole enc Tryz.prog Tryz.f3.params.toList Rows.chainMakesSpec.vars false W args.toList ds gs before)
  (hw : (DataW.weightsEach Tryz.prog (Tryz.f3.params.toList ++ Rows.chainMakesSpec.plain.varTypes Tryz.prog) (ds ++ gs)).all (· ≤ reachBytes) = true) (hkk : Rows.uptoSmall H (ds ++ gs) = true) :
  Calls Tryz.prog 3 args W fun e W' => ∃ v, e = .returned v ∧ Rows.chainMakesSpec.post enc Tryz.prog Tryz.f3 false true false false W args v W' := by
 have hW' := hW
 obtain ⟨p, q, hA0, hV, rfl, hfz, hnd⟩ := hW
 have hA : DataW.TrodAll enc Tryz.prog W 0 (fun _ => true) true Tryz.f3.params.toList args.toList ds p := hA0
 rw [Tryz.params3] at hA hval hw
 obtain ⟨v0, vs0, d0, ds0, p0, q0, hargs, rfl, rfl, h0, r0⟩ := trodAll_cons hA
 obtain ⟨v1, vs1, d1, ds1, p1, q1, rfl, rfl, rfl, h1, r1⟩ := trodAll_cons r0
 obtain ⟨v2, vs2, d2, ds2, p2, q2, rfl, rfl, rfl, h2, r2⟩ := trodAll_cons r1
 obtain ⟨v3, vs3, d3, ds3, p3, q3, rfl, rfl, rfl, h3, r3⟩ := trodAll_cons r2
 obtain ⟨v4, vs4, d4, ds4, p4, q4, rfl, rfl, rfl, h4, r4⟩ := trodAll_cons r3
 obtain ⟨rfl, rfl, rfl⟩ := trodAll_nil r4
 obtain rfl : args = #[v0, v1, v2, v3, v4] := by cases args; simp_all
 obtain ⟨rfl, rfl⟩ := trodVars_none hV
 have k0 := h0
 have lt0 : ∀ x ∈ p0, x.block < W.heap.size := by obtain ⟨m, hm⟩ := k0; exact DataW.trod_lt m _ _ _ hm
 have k1 := h1
 have lt1 : ∀ x ∈ p1, x.block < W.heap.size := by obtain ⟨m, hm⟩ := k1; exact DataW.trod_lt m _ _ _ hm
 have k2 := h2
 have lt2 : ∀ x ∈ p2, x.block < W.heap.size := by obtain ⟨m, hm⟩ := k2; exact DataW.trod_lt m _ _ _ hm
 have k3 := h3
 have lt3 : ∀ x ∈ p3, x.block < W.heap.size := by obtain ⟨m, hm⟩ := k3; exact DataW.trod_lt m _ _ _ hm
 have k4 := h4
 have lt4 : ∀ x ∈ p4, x.block < W.heap.size := by obtain ⟨m, hm⟩ := k4; exact DataW.trod_lt m _ _ _ hm
 simp only [List.append_nil] at hW'
 have hkk : Rows.uptoBulkAll [d0, d1, d2, d3, d4] ≤ 1048576 := of_decide_eq_true hkk
 simp only [Rows.uptoBulkAll] at hkk
 have hw : (d0.weights Tryz.prog 22 ++ (d1.weights Tryz.prog 3 ++ (d2.weights Tryz.prog 3 ++ (d3.weights Tryz.prog 23 ++ (d4.weights Tryz.prog 29 ++ (DataW.weightsEach Tryz.prog (Rows.chainMakesSpec.plain.varTypes Tryz.prog) [])))))).all (· ≤ reachBytes) = true := hw
 simp only [List.all_append, Bool.and_eq_true] at hw
 obtain ⟨hw0, hw1, hw2, hw3, hw4, _⟩ := hw
 obtain ⟨A0, n0, cap0, rfl⟩ := okWide_slice Tryz.underlying22 (hval 0 22 v0 rfl rfl)
 obtain ⟨fuel0, hf0⟩ := h0
 obtain ⟨_, m0, hm0, hr0, hb0⟩ := opn_ints.2 enc W _ true fuel0 _ d0 p0 hf0 hw0
 obtain ⟨x0, rfl, hx0⟩ := ints_lift hm0
 obtain ⟨a1, rfl, rfl, rfl, wa1⟩ := open_int Tryz.underlying3 (hval 1 3 v1 rfl rfl) h1
 obtain ⟨a2, rfl, rfl, rfl, wa2⟩ := open_int Tryz.underlying3 (hval 2 3 v2 rfl rfl) h2
 obtain ⟨A3, n3, cap3, rfl⟩ := okWide_slice Tryz.underlying23 (hval 3 23 v3 rfl rfl)
 obtain ⟨fuel3, hf3⟩ := h3
 obtain ⟨_, m3, hm3, hr3, hb3⟩ := opn_raws.2 enc W _ true fuel3 _ d3 p3 hf3 hw3
 obtain ⟨x3, rfl, hx3⟩ := raws_lift hm3 (B := 1048576) (Nat.le_trans hb3 (by omega))
 obtain ⟨A4, rfl, _⟩ := okWide_struct Tryz.underlying29 (hval 4 29 v4 rfl rfl)
 obtain ⟨fuel4, hf4⟩ := h4
 obtain ⟨_, m4, hm4, hr4, hb4⟩ := opn_block.2 enc W _ true fuel4 _ d4 p4 hf4 hw4
 obtain ⟨x4, rfl, hx4⟩ := block_lift hm4 (B := 1048576) (Nat.le_trans hb4 (by omega))
 refine (chainMakes_core x0 hx0 a1 wa1 a2 wa2 x3 hx3 x4 hx4 W (allP W) [_, _, _, _, _] trivial (fun b o h => h) (.cons (.val [_] hr0) (.cons (.val [_] .int) (.cons (.val [_] .int) (.cons (.val [_] hr3) (.cons (.val _ hr4) .nil)))))).mono fun e W' ⟨v, he, hv, bel⟩ => ?_
 subst he
 obtain rfl := hv.bool_
 exact ⟨_, rfl, _, _, _, [], _, [], hW', trodAll_mk1 (shut_bool Tryz.underlying4 _), (trodAll_cons_mk (Below.trod laidOut (by kernel_rfl) (of_decide_eq_true (by kernel_rfl)) k0 bel lt0) (trodAll_cons_mk (shut_int Tryz.underlying3 wa1) (trodAll_cons_mk (shut_int Tryz.underlying3 wa2) (trodAll_cons_mk (Below.trod laidOut (by kernel_rfl) (of_decide_eq_true (by kernel_rfl)) k3 bel lt3) (trodAll_cons_mk (Below.trod laidOut (by kernel_rfl) (of_decide_eq_true (by kernel_rfl)) k4 bel lt4) trodAll_mk0))))), rfl, bel.frame _, fun h => by cases h⟩
set_option maxRecDepth 100000 in
theorem lifted (os : Os) (started : os.Started) (H : Type) (enc : TypeId × Value → H) (F : Stop.Interp) :
  ReturnsInHanded {} Tryz.checked os 3 .any ((Rows.OpenSpec.upto Rows.chainMakesSpec).pre6 enc Tryz.prog Tryz.f3 Rows.chainMakesUptoRow.domain false) (((Rows.OpenSpec.upto Rows.chainMakesSpec).at F).post enc Tryz.prog Tryz.f3 false true false false) := by
 refine returnsInHanded_of_cond_sized (C := Tryz.checked) (s := Rows.OpenSpec.upto Rows.chainMakesSpec) (k := Rows.uptoSmall) rfl own started (by kernel_rfl) Tryz.func3
  (OpenSpec.witness (enc := enc) (C := Tryz.checked) (s := Rows.OpenSpec.upto Rows.chainMakesSpec) (k := Rows.uptoSmall) rfl false ⟨#[], #[.slice none 0 0, .int .i64 0, .int .i64 0, .slice none 0 0, .agg #[.int .i64 0, .int .i64 0, .int .i64 0, .int .u8 0, .int .u8 0, .int .u8 0, .int .u8 0, .int .u8 0, .int .u8 0, .int .u8 0, .int .u8 0, .int .u8 0, .int .u8 0, .int .u8 0, .int .u8 0, .int .u8 0, .int .u8 0, .int .u8 0, .int .u8 0, .int .u8 0, .int .u8 0, .int .u8 0, .int .u8 0, .int .u8 0, .int .u8 0, .int .u8 0, .int .u8 0, .int .u8 0, .int .u8 0, .int .u8 0, .int .u8 0, .int .u8 0, .int .u8 0, .int .u8 0, .int .u8 0, .int .u8 0, .int .u8 0, .int .u8 0, .int .u8 0, .int .u8 0, .int .u8 0, .int .u8 0, .int .u8 0, .int .u8 0, .int .u8 0, .int .u8 0, .int .u8 0, .int .u8 0, .int .u8 0, .int .u8 0, .int .u8 0, .int .u8 0, .int .u8 0, .int .u8 0, .int .u8 0, .int .u8 0, .int .u8 0, .int .u8 0, .int .u8 0, .int .u8 0, .int .u8 0, .int .u8 0, .int .u8 0, .int .u8 0, .int .u8 0, .int .u8 0, .int .u8 0, .int .u8 0, .int .u8 0, .int .u8 0, .int .u8 0, .int .u8 0, .int .u8 0, .int .u8 0, .int .u8 0, .int .u8 0, .int .u8 0, .int .u8 0, .int .u8 0, .int .u8 0, .int .u8 0, .int .u8 0, .int .u8 0, .int .u8 0, .int .u8 0, .int .u8 0, .int .u8 0, .int .u8 0, .int .u8 0, .int .u8 0, .int .u8 0, .int .u8 0, .int .u8 0, .int .u8 0, .int .u8 0, .int .u8 0, .int .u8 0, .int .u8 0, .int .u8 0, .int .u8 0, .int .u8 0, .int .u8 0, .int .u8 0, .int .u8 0, .int .u8 0, .int .u8 0, .int .u8 0, .int .u8 0, .int .u8 0, .int .u8 0, .int .u8 0, .int .u8 0, .int .u8 0, .int .u8 0, .int .u8 0, .int .u8 0, .int .u8 0, .int .u8 0, .int .u8 0, .int .u8 0, .int .u8 0, .int .u8 0, .int .u8 0, .int .u8 0, .int .u8 0, .int .u8 0, .int .u8 0, .int .u8 0, .int .u8 0, .int .u8 0, .int .u8 0, .slice none 0 0]], []⟩ 8 (by kernel_rfl) (by kernel_rfl) (by kernel_rfl)
   (x := ([.nil, .lit (.int .i64 0), .lit (.int .i64 0), .nil, .agg [.agg [.lit (.int .i64 0), .lit (.int .i64 0), .lit (.int .i64 0), .agg [.lit (.int .u8 0), .lit (.int .u8 0), .lit (.int .u8 0), .lit (.int .u8 0), .lit (.int .u8 0), .lit (.int .u8 0), .lit (.int .u8 0), .lit (.int .u8 0), .lit (.int .u8 0), .lit (.int .u8 0), .lit (.int .u8 0), .lit (.int .u8 0), .lit (.int .u8 0), .lit (.int .u8 0), .lit (.int .u8 0), .lit (.int .u8 0), .lit (.int .u8 0), .lit (.int .u8 0), .lit (.int .u8 0), .lit (.int .u8 0), .lit (.int .u8 0), .lit (.int .u8 0), .lit (.int .u8 0), .lit (.int .u8 0), .lit (.int .u8 0), .lit (.int .u8 0), .lit (.int .u8 0), .lit (.int .u8 0), .lit (.int .u8 0), .lit (.int .u8 0), .lit (.int .u8 0), .lit (.int .u8 0)], .agg [.lit (.int .u8 0), .lit (.int .u8 0), .lit (.int .u8 0), .lit (.int .u8 0), .lit (.int .u8 0), .lit (.int .u8 0), .lit (.int .u8 0), .lit (.int .u8 0), .lit (.int .u8 0), .lit (.int .u8 0), .lit (.int .u8 0), .lit (.int .u8 0), .lit (.int .u8 0), .lit (.int .u8 0), .lit (.int .u8 0), .lit (.int .u8 0), .lit (.int .u8 0), .lit (.int .u8 0), .lit (.int .u8 0), .lit (.int .u8 0), .lit (.int .u8 0), .lit (.int .u8 0), .lit (.int .u8 0), .lit (.int .u8 0), .lit (.int .u8 0), .lit (.int .u8 0), .lit (.int .u8 0), .lit (.int .u8 0), .lit (.int .u8 0), .lit (.int .u8 0), .lit (.int .u8 0), .lit (.int .u8 0)], .agg [.lit (.int .u8 0), .lit (.int .u8 0), .lit (.int .u8 0), .lit (.int .u8 0), .lit (.int .u8 0), .lit (.int .u8 0), .lit (.int .u8 0), .lit (.int .u8 0), .lit (.int .u8 0), .lit (.int .u8 0), .lit (.int .u8 0), .lit (.int .u8 0), .lit (.int .u8 0), .lit (.int .u8 0), .lit (.int .u8 0), .lit (.int .u8 0), .lit (.int .u8 0), .lit (.int .u8 0), .lit (.int .u8 0), .lit (.int .u8 0), .lit (.int .u8 0), .lit (.int .u8 0), .lit (.int .u8 0), .lit (.int .u8 0), .lit (.int .u8 0), .lit (.int .u8 0), .lit (.int .u8 0), .lit (.int .u8 0), .lit (.int .u8 0), .lit (.int .u8 0), .lit (.int .u8 0), .lit (.int .u8 0)], .agg [.lit (.int .u8 0), .lit (.int .u8 0), .lit (.int .u8 0), .lit (.int .u8 0), .lit (.int .u8 0), .lit (.int .u8 0), .lit (.int .u8 0), .lit (.int .u8 0), .lit (.int .u8 0), .lit (.int .u8 0), .lit (.int .u8 0), .lit (.int .u8 0), .lit (.int .u8 0), .lit (.int .u8 0), .lit (.int .u8 0), .lit (.int .u8 0), .lit (.int .u8 0), .lit (.int .u8 0), .lit (.int .u8 0), .lit (.int .u8 0), .lit (.int .u8 0), .lit (.int .u8 0), .lit (.int .u8 0), .lit (.int .u8 0), .lit (.int .u8 0), .lit (.int .u8 0), .lit (.int .u8 0), .lit (.int .u8 0), .lit (.int .u8 0), .lit (.int .u8 0), .lit (.int .u8 0), .lit (.int .u8 0)]], .nil]], [], [])) (by kernel_rfl) rfl (by kernel_rfl)) ?_
 intro W base args ds gs before hval hW _ hk hw _
 exact contract H enc W base args ds gs before hval hW hw hk
theorem said : Rows.ChainMakesUptoSaid :=
 OpenClaim.holds_of_cond 3 Tryz.f3 rfl rfl rfl rfl rfl rfl rfl ⟨rfl, rfl, rfl, rfl, rfl⟩ rfl rfl rfl rfl rfl (by kernel_rfl) Tryz.func3 (by kernel_rfl)
  (of_decide_eq_true (by kernel_rfl)) (by unfold Func.isWrapper; first | (rw [if_pos (by decide +kernel)]; kernel_rfl) | (rw [if_neg (by decide +kernel)]; exact ⟨rfl, rfl⟩))
  (fun os started H enc _ F => lifted os started H enc F)
end Go.Proofs.YtoagomdghimlbaaGreat.chainMakes
