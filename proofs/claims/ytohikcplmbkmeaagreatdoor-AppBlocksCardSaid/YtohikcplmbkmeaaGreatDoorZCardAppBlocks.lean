/- AppBlocks: the row and the card: whatever the arguments, the law answers true and its arguments read as before. Conditions: none but what the row lists (the laid tables). -/
import Derived.Test.YtohikcplmbkmeaaGreatDoorW06
set_option maxRecDepth 20000
set_option maxHeartbeats 16000000
set_option linter.unusedVariables false
set_option linter.unusedSimpArgs false
namespace Go.Proofs.YtohikcplmbkmeaaGreatDoor
open Go.RowKit
section
open Go.ChangeShapes Go.WideShapes Go.ChangeAt Go.RowKit
def fRaw (m : MV) : Prop := ∃ l, m = .sl l.length l ∧ (∀ x ∈ l, ∃ n, x = .int .u8 n ∧ (Lit.int .u8 n).wf = true) ∧ l.length ≤ 140737488355328
theorem opn_rawsF : Opn Tryz.prog 42 1 fun m => ∃ l, m = .sl l.length l ∧ (∀ x ∈ l, fRaw x) ∧ l.length ≤ 140737488355328 := Opn.slice Tryz.underlying42 (by kernel_rfl) (Nat.le_of_ble_eq_true (by kernel_rfl)) (by omega) opn_bytes
theorem raws_full {m : MV} (h : ∃ l, m = .sl l.length l ∧ (∀ x ∈ l, fRaw x) ∧ l.length ≤ 140737488355328) : ∃ rs : List (List UInt8), m = rawsM rs ∧ rs.length ≤ 140737488355328 ∧ ∀ r ∈ rs, r.length ≤ 140737488355328 := by
 obtain ⟨l, rfl, h, hl⟩ := h
 obtain ⟨rs, rfl, hr⟩ := lift_list (f := rawM) (R := fun r => r.length ≤ 140737488355328) l fun x hx => by
  obtain ⟨r, e, hr⟩ := bytes_lift (h x hx)
  exact ⟨r, e, hr⟩
 rw [List.length_map] at hl
 exact ⟨rs, by unfold rawsM; rw [List.length_map], hl, hr⟩
def fStr (m : MV) : Prop := ∃ s, m = .str s ∧ s.length ≤ 140737488355328
def fU64 (m : MV) : Prop := ∃ n, m = .int .u64 n ∧ (Lit.int .u64 n).wf = true
def qsAc : List (Nat × (MV → Prop)) := [(1, fStr), (1, fU64), (1, fU64)]
def fAc (m : MV) : Prop := ∃ l, m = .st l ∧ AllQ qsAc l
theorem opnL_cons {P : Program} {o n : Nat} {Q : MV → Prop} {f : Field} {fs : List Field} {qs : List (Nat × (MV → Prop))} (h1 : f.offset = o) (h2 : Opn P f.type n Q) (h3 : OpnL P (o + n) fs qs) : OpnL P o (f :: fs) ((n, Q) :: qs) := ⟨h1, h2, h3⟩
theorem opn_ac : Opn Tryz.prog 91 3 fAc := by
 refine Opn.struct (P := Tryz.prog) (qs := qsAc) Tryz.underlying91 (by kernel_rfl) ?_
 unfold qsAc
 refine opnL_cons rfl (Opn.str Tryz.underlying9 (by kernel_rfl)) ?_
 refine opnL_cons rfl (Opn.int Tryz.underlying23 (by kernel_rfl)) ?_
 refine opnL_cons rfl (Opn.int Tryz.underlying23 (by kernel_rfl)) ?_
 exact trivial
theorem opn_accs : Opn Tryz.prog 22 1 fun m => ∃ l, m = .sl l.length l ∧ (∀ x ∈ l, fAc x) ∧ l.length ≤ 140737488355328 := Opn.slice Tryz.underlying22 (by kernel_rfl) (Nat.le_of_ble_eq_true (by kernel_rfl)) (by omega) opn_ac
theorem u64_lift {m : MV} (h : fU64 m) : ∃ n : Nat, m = .int .u64 n ∧ U64 n := by
 obtain ⟨n, rfl, h⟩ := h
 simp [Lit.wf, IntKind.min, IntKind.max, IntKind.signed, IntKind.bits] at h
 exact ⟨n.toNat, by rw [Int.toNat_of_nonneg (by omega)], by unfold U64; omega⟩
theorem ac_lift {m : MV} (h : fAc m) : ∃ a : AcS, m = acM a ∧ a.name.length ≤ 140737488355328 ∧ U64 a.bal ∧ U64 a.seq := by
 obtain ⟨l, rfl, h⟩ := h
 unfold qsAc at h
 match l, h with
 | [x, y, z], h =>
  obtain ⟨⟨s, rfl, hs⟩, h2, h3, _⟩ := h
  obtain ⟨b, rfl, hb⟩ := u64_lift h2
  obtain ⟨q, rfl, hq⟩ := u64_lift h3
  exact ⟨⟨s, b, q⟩, rfl, hs, hb, hq⟩
theorem accs_full {m : MV} (h : ∃ l, m = .sl l.length l ∧ (∀ x ∈ l, fAc x) ∧ l.length ≤ 140737488355328) : ∃ rs : List AcS, m = .sl rs.length (rs.map acM) ∧ rs.length ≤ 140737488355328 ∧ ∀ a ∈ rs, a.name.length ≤ 140737488355328 ∧ U64 a.bal ∧ U64 a.seq := by
 obtain ⟨l, rfl, h, hl⟩ := h
 obtain ⟨rs, rfl, hr⟩ := lift_list (f := acM) (R := fun a => a.name.length ≤ 140737488355328 ∧ U64 a.bal ∧ U64 a.seq) l fun x hx => ac_lift (h x hx)
 rw [List.length_map] at hl
 exact ⟨rs, by rw [List.length_map], hl, hr⟩
theorem nat_of_u64 {n : Int} (h : (Lit.int .u64 n).wf = true) : ∃ k : Nat, n = k ∧ U64 k := by
 simp [Lit.wf, IntKind.min, IntKind.max, IntKind.signed, IntKind.bits] at h
 exact ⟨n.toNat, by rw [Int.toNat_of_nonneg (by omega)], by unfold U64; omega⟩
end
section
attribute [local irreducible] vOpsN vOpsG vOpsD vOpGD NextD vC SeqQ BlockQ
theorem code_ne (e : Nat) : ((e : Int) != (e : Int)) = false := by simp
theorem blocks_core (k : List Int) (hk : k.length ≤ 140737488355328) (raws : List (List UInt8)) (hr : raws.length ≤ 140737488355328) (hb : ∀ b ∈ raws, b.length ≤ 140737488355328) : SemC Tryz.prog GU 5 [intsM k, rawsM raws] (.bool true) := by
 have cl := long_m k hk
 by_cases h1 : 160 < k.length
 ·rw [decide_eq_true h1] at cl
  unfold intsM rawsM at *
  refine scq seat Tryz.func5 120 ?_
  refine go1 ?_
  refine g_call1 rfl (fun _ h => h) rfl (semR_of_semC (cl)) rfl [(2, 1)] mm lm ?_
  refine go1 ?_
  refine g_call2 rfl (fun _ h => h) rfl (semR_of_semC (known_m)) rfl lm ?_
  refine go1 ?_
  refine go0 ?_
  rfl
 rw [decide_eq_false h1] at cl
 by_cases h2 : 8 < raws.length
 ·unfold intsM rawsM at *
  refine scq seat Tryz.func5 120 ?_
  refine go1 ?_
  refine g_call1 rfl (fun _ h => h) rfl (semR_of_semC (cl)) rfl [(2, 1)] mm lm ?_
  refine go1 ?_
  ((with_reducible apply c_cond); (case he => exact rfl); (all_goals intro h))
  ·have _h := h
   refine go1 ?_
   refine g_call2 rfl (fun _ h => h) rfl (semR_of_semC (known_m)) rfl lm ?_
   refine go1 ?_
   refine go0 ?_
   rfl
  ·exact absurd (of_decide_eq_false h) (by omega)
 have cm := made_e (G := GU) k
 unfold intsM rawsM at *
 refine scq seat Tryz.func5 120 ?_
 refine go1 ?_
 refine g_call1 rfl (fun _ h => h) rfl (semR_of_semC (cl)) rfl [(2, 1)] mm lm ?_
 refine go1 ?_
 ((with_reducible apply c_cond); (case he => exact rfl); (all_goals intro h))
 ·exact absurd (of_decide_eq_true h) (by omega)
 refine go1 ?_
 refine g_callE1 rfl (fun _ h => h) rfl (cm) [] [] ⟨rfl, trivial, rfl, lm, mm⟩ rfl ?_
 rintro _ _ _ ⟨N, a, ms, hN, rfl, rfl, rfl, ha, hrl, hrb⟩
 refine ⟨rfl, ?_⟩
 have hsa := ha.sm
 clear ha cm cl
 have hmb : ∀ b ∈ ms ++ raws, b.length ≤ 140737488355328 := by
  intro b hb'
  rcases List.mem_append.1 hb' with h | h
  ·have := hrb b h; omega
  ·exact hb b h
 obtain ⟨⟨a1, b1⟩, ⟨a2, b2⟩, ⟨a3, b3⟩, op, price⟩ := a
 unfold appM lgM rawsM at *
 dsimp only at *
 refine go1 ?_
 refine c_loop (Nat × Nat × AppS) (fun x => [(9, .int .i64 x.1), (8, .ptr 2 8 0 0 []), (7, numP), (6, .sl ms.length (ms.map rawM)), (5, .ptr 1 8 0 0 []), (1, .sl raws.length (raws.map rawM))]) (fun x => numB k x.2.1 ++ [(1, ⟨35, 8, false, 0, [.st [.st [.sl x.2.2.com.acs.length (x.2.2.com.acs.map acM), .int .u64 x.2.2.com.col], .st [.sl x.2.2.chk.acs.length (x.2.2.chk.acs.map acM), .int .u64 x.2.2.chk.col], .st [.sl x.2.2.nxt.acs.length (x.2.2.nxt.acs.map acM), .int .u64 x.2.2.nxt.col], .bool x.2.2.opn, .int .u64 x.2.2.price]]⟩), (2, ⟨35, 8, false, 0, [.st [.st [.sl x.2.2.com.acs.length (x.2.2.com.acs.map acM), .int .u64 x.2.2.com.col], .st [.sl x.2.2.chk.acs.length (x.2.2.chk.acs.map acM), .int .u64 x.2.2.chk.col], .st [.sl x.2.2.nxt.acs.length (x.2.2.nxt.acs.map acM), .int .u64 x.2.2.nxt.col], .bool x.2.2.opn, .int .u64 x.2.2.price]]⟩)]) 3 (fun x => x.1 ≤ 4 ∧ x.2.1 ≤ 1000 + 1000 * x.1 ∧ SmApp x.2.2) (fun x => 4 - x.1) (0, N, ⟨⟨a1, b1⟩, ⟨a2, b2⟩, ⟨a3, b3⟩, op, price⟩) ⟨by dsimp only; omega, by dsimp only; omega, hsa⟩ (by dsimp only; exact vm [(0, _), (1, _), (2, _)] []) ?_
 clear hsa hb hrb
 clear a1 b1 a2 b2 a3 b3 op price
 rintro ⟨i, K, ⟨⟨a1, b1⟩, ⟨a2, b2⟩, ⟨a3, b3⟩, op, price⟩⟩ ⟨hi, hK, hsa⟩
 try dsimp only
 dsimp only at hi hK hsa
 refine go1 ?_
 ((with_reducible apply c_cond); (case he => exact rfl); (all_goals intro h))
 rotate_left
 ·have _h := h
  refine go1 ?_
  refine g_call2 rfl (fun _ h => h) rfl (semR_of_semC (known_m)) rfl lm ?_
  refine go1 ?_
  refine go0 ?_
  rfl
 have hi' : i < 4 := by have := of_decide_eq_true h; omega
 have cn := next_n (G := GU) k K 3 (by omega) (by omega) (by omega)
 have bn := (nextN_eq k K 3 (by omega)).2
 generalize nextN k K 3 = x at *
 by_cases hx : x = 0
 ·subst hx
  have q1 := pcommit_r _ hsa
  have q2 := commit_m (G := GU) ⟨⟨a1, b1⟩, ⟨a2, b2⟩, ⟨a3, b3⟩, op, price⟩
  have hs2 := comS_sm hsa
  have q3 := sameApp_m (G := GU) _ hs2
  generalize comS ⟨⟨a1, b1⟩, ⟨a2, b2⟩, ⟨a3, b3⟩, op, price⟩ = F at *
  obtain ⟨⟨⟨c1, d1⟩, ⟨c2, d2⟩, ⟨c3, d3⟩, cop, cpr⟩, e⟩ := F
  unfold appM lgM at *
  dsimp only at *
  refine go1 ?_
  refine g_callR1 rfl (fun _ h => h) rfl (cn) [(0, 0)] [] ⟨rfl, trivial, rfl, lm, mm⟩ rfl rfl ?_
  refine go1 ?_
  refine g_call2 rfl (fun _ h => h) rfl (q1) rfl lm ?_
  refine go1 ?_
  refine g_call2 rfl (fun _ h => h) rfl (q2) rfl lm ?_
  refine go1 ?_
  rw [code_ne]
  refine go1 ?_
  refine g_call2 rfl (fun _ h => h) rfl (semR_of_semC (q3)) rfl lm ?_
  refine go1 ?_
  by_cases he : e = 0
  ·subst he
   refine go1 ?_
   refine c_draw [(0, false), (1, false), (2, false), (3, false)] ?_
   refine go1 ?_
   exact ⟨(i + 1, K + 1, ⟨⟨c1, d1⟩, ⟨c2, d2⟩, ⟨c3, d3⟩, cop, cpr⟩), ⟨by dsimp only; omega, by dsimp only; omega, hs2⟩, by dsimp only; omega, (by dsimp only; exact vm [(0, _), (1, _), (2, _)] [])⟩
  ·have hz : ((e : Int) == 0) = false := beq_eq_false_iff_ne.2 (by omega)
   rw [hz]
   refine go1 ?_
   exact ⟨(i + 1, K + 1, ⟨⟨a1, b1⟩, ⟨a2, b2⟩, ⟨a3, b3⟩, op, price⟩), ⟨by dsimp only; omega, by dsimp only; omega, hsa⟩, by dsimp only; omega, (by dsimp only; exact vm [(0, _), (1, _), (2, _)] [])⟩
 ·have hz : ((x : Int) == 0) = false := beq_eq_false_iff_ne.2 (by omega)
  have cr := raws_r (G := GU) k (K + 1) ⟨⟨a1, b1⟩, ⟨a2, b2⟩, ⟨a3, b3⟩, op, price⟩ 4 (by omega) hsa (by omega)
  have kr := rawsS_ok (L := k) (N := K + 1) (n := 4) hsa (by omega)
  generalize rawsS k (K + 1) ⟨⟨a1, b1⟩, ⟨a2, b2⟩, ⟨a3, b3⟩, op, price⟩ 4 = rw' at *
  obtain ⟨rs, K2⟩ := rw'
  unfold appM lgM at cr
  dsimp only at cr kr
  refine go1 ?_
  refine g_callR1 rfl (fun _ h => h) rfl (cn) [(0, 0)] [] ⟨rfl, trivial, rfl, lm, mm⟩ rfl rfl ?_
  refine go1 ?_
  rw [hz]
  refine go1 ?_
  refine g_callR1 rfl (fun _ h => h) rfl (cr) [(0, 0)] [] ⟨rfl, trivial, rfl, lm, mm⟩ rfl rfl ?_
  refine go1 ?_
  refine q_join (List (List UInt8)) (fun X => [(14, .sl X.length (X.map rawM)), (9, .int .i64 i), (8, .ptr 2 8 0 0 []), (7, numP), (6, .sl ms.length (ms.map rawM)), (5, .ptr 1 8 0 0 []), (1, .sl raws.length (raws.map rawM))]) (fun _ => numB k K2 ++ [(1, ⟨35, 8, false, 0, [.st [.st [.sl a1.length (a1.map acM), .int .u64 b1], .st [.sl a2.length (a2.map acM), .int .u64 b2], .st [.sl a3.length (a3.map acM), .int .u64 b3], .bool op, .int .u64 price]]⟩), (2, ⟨35, 8, false, 0, [.st [.st [.sl a1.length (a1.map acM), .int .u64 b1], .st [.sl a2.length (a2.map acM), .int .u64 b2], .st [.sl a3.length (a3.map acM), .int .u64 b3], .bool op, .int .u64 price]]⟩)]) (fun _ => 3) (fun X => X.length ≤ 1000000 ∧ ∀ b ∈ X, b.length ≤ 140737488355328) (fun JQ hj => ?_) (fun X hX => ?_)
  ·((with_reducible apply c_cond); (case he => exact rfl); (all_goals intro h))
   ·refine go1 ?_
    ((with_reducible apply g_mem); (case hq => exact rfl); (case hv => exact rfl); (case he => (intro R hR; refine sms hR ?_; refine And.intro ((head_raw _)) ?_; refine And.intro ⟨rfl, app_ok (by kernel_rfl) pf⟩ ?_; refine ⟨ms.map rawM, sv (by show [] ++ ms.map rawM = _; rw [List.nil_append]), ms.length, sv pf, ?_⟩; exact hR)); (case hd => exact rfl))
    refine go1 ?_
    ((with_reducible apply g_mem); (case hq => exact rfl); (case hv => exact rfl); (case he => (intro R hR; refine sms hR ?_; refine And.intro ((head_raw _)) ?_; refine And.intro ⟨(by simp), app_ok (by kernel_rfl) pf⟩ ?_; refine ⟨(ms ++ raws).map rawM, sv (by rw [List.map_append]), (ms ++ raws).length, sv pf, ?_⟩; exact hR)); (case hd => exact rfl))
    refine go1 ?_
    exact hj.nrm (ms ++ raws) ⟨by rw [List.length_append]; omega, hmb⟩ (by exact vm [(0, _), (1, _), (2, _)] [(18, (ms ++ raws).length)])
   ·refine go1 ?_
    exact hj.nrm rs ⟨by omega, fun b hb => by have := kr.1 b hb; omega⟩ (vm [(0, _), (1, _), (2, _)] [])
  ·obtain ⟨hX1, hX2⟩ := hX
   try dsimp only
   have q1 := pfin_r _ X hsa hX1 hX2
   have q2 := fin_r (G := GU) _ X hsa hX1 hX2
   have q3 := pproc_m _ X hsa hX1 hX2
   have q4 := rproc_m (G := GU) _ X hsa hX1 hX2
   have hs2 := finS_sm (raws := X) hsa
   have q5 := sameApp_m (G := GU) _ hs2.1
   have q6 := sameRes_m (G := GU) (finS ⟨⟨a1, b1⟩, ⟨a2, b2⟩, ⟨a3, b3⟩, op, price⟩ X).2.1 (by have := hs2.2.2; omega)
   replace hs2 := hs2.1
   generalize procS ⟨⟨a1, b1⟩, ⟨a2, b2⟩, ⟨a3, b3⟩, op, price⟩ X = pb at *
   generalize finS ⟨⟨a1, b1⟩, ⟨a2, b2⟩, ⟨a3, b3⟩, op, price⟩ X = F at *
   obtain ⟨⟨⟨c1, d1⟩, ⟨c2, d2⟩, ⟨c3, d3⟩, cop, cpr⟩, R, e⟩ := F
   unfold appM lgM rawsM at *
   dsimp only at *
   have hK2 : K2 ≤ K + 200 := by omega
   clear cr cn kr
   refine go1 ?_
   refine g_call2 rfl (fun _ h => h) rfl (q1) rfl lm ?_
   refine go1 ?_
   refine g_call2 rfl (fun _ h => h) rfl (q2) rfl lm ?_
   refine go1 ?_
   refine c_draw [(0, false), (1, false), (2, true), (3, false), (4, false), (5, true), (6, false), (7, false), (8, false), (9, false), (10, false), (11, false), (12, false), (13, false), (14, false), (15, true), (16, false), (17, false), (18, false), (19, false), (20, false), (21, true), (22, false), (23, false)] ?_
   refine go1 ?_
   refine gd_call1 rfl (fun _ h => h) rfl [] (semR_of_semC (q3)) rfl [] trivial lm rfl ?_
   refine go1 ?_
   refine gd_call1 rfl (fun _ h => h) rfl [] (semR_of_semC (q4)) rfl [] trivial lm rfl ?_
   refine go1 ?_
   rw [bne_self_eq_false]
   refine go1 ?_
   rw [code_ne]
   refine go1 ?_
   refine gd_call1 rfl (fun _ h => h) rfl [] (semR_of_semC (q5)) rfl [] trivial lm rfl ?_
   refine go1 ?_
   refine gd_call1 rfl (fun _ h => h) rfl [] (semR_of_semC (q6)) rfl [] trivial lm rfl ?_
   refine go1 ?_
   by_cases he : e = 0
   ·subst he
    refine go1 ?_
    refine c_draw [(0, false), (1, false), (2, false), (3, false)] ?_
    refine go1 ?_
    exact ⟨(i + 1, K2, ⟨⟨c1, d1⟩, ⟨c2, d2⟩, ⟨c3, d3⟩, cop, cpr⟩), ⟨by dsimp only; omega, by dsimp only; omega, hs2⟩, by dsimp only; omega, (by dsimp only; exact vm [(0, _), (1, _), (2, _)] [])⟩
   ·have hz2 : ((e : Int) == 0) = false := beq_eq_false_iff_ne.2 (by omega)
    rw [hz2]
    refine go1 ?_
    exact ⟨(i + 1, K2, ⟨⟨a1, b1⟩, ⟨a2, b2⟩, ⟨a3, b3⟩, op, price⟩), ⟨by dsimp only; omega, by dsimp only; omega, hsa⟩, by dsimp only; omega, (by dsimp only; exact vm [(0, _), (1, _), (2, _)] [])⟩
end
end Go.Proofs.YtohikcplmbkmeaaGreatDoor
namespace Go.Proofs.YtohikcplmbkmeaaGreatDoor.appBlocks
open Go.Proofs.YtohikcplmbkmeaaGreatDoor
theorem r1 : (Rows.appBlocksRow.inPlace == Tryz.prog.inPlace 5) = true := by kernel_rfl
theorem r2 : (Rows.appBlocksRow.unfollowed == Tryz.prog.unfollowed 5) = true := by kernel_rfl
theorem r3 : (Rows.appBlocksRow.recurses == Tryz.prog.recurses 5) = true := by kernel_rfl
theorem r4 : (Rows.appBlocksRow.named == Tryz.prog.varsNamed 5) = true := by kernel_rfl
set_option maxRecDepth 100000 in
theorem closed : joinedFacts Tryz.prog 5 Tryz.f5 (OpenSpec.ofChange Rows.appBlocksSpec).bare Rows.appBlocksRow = true := by
 simp only [joinedFacts, Bool.and_eq_true]
 and_intros
 all_goals first
  | (with_reducible exact r1)
  | (with_reducible exact r2)
  | (with_reducible exact r3)
  | (with_reducible exact r4)
  | kernel_rfl
end Go.Proofs.YtohikcplmbkmeaaGreatDoor.appBlocks
namespace Go.Proofs.YtohikcplmbkmeaaGreatDoor.appBlocks
open Go.ChangeShapes Go.WideShapes Go.ChangeAt Go.RowKit Go.Proofs.YtohikcplmbkmeaaGreatDoor
set_option maxRecDepth 100000 in
theorem contract (H : Type) (enc : TypeId × Value → H) (W : World) (base : Nat) (args : Array Value) (ds gs : List (DataW H)) (before : List MemPlace)
  (hval : ∀ (j : Nat) t v, Tryz.f5.params[j]? = some t → args[j]? = some v → Value.okWide Tryz.prog W .any base t v)
  (hW : DataW.Whole enc Tryz.prog Tryz.f5.params.toList Rows.appBlocksSpec.vars false W args.toList ds gs before)
  (hw : (DataW.weightsEach Tryz.prog (Tryz.f5.params.toList ++ (OpenSpec.ofChange Rows.appBlocksSpec).bare.plain.varTypes Tryz.prog) (ds ++ gs)).all (· ≤ reachBytes) = true)
  (hL : laidMetH Tryz.prog Rows.appBlocksRow.laid W) (hopen : W.ShapedOpen Tryz.prog) :
  Calls Tryz.prog 5 args W fun e W' => ∃ v, e = .returned v ∧ Rows.appBlocksSpec.post enc Tryz.prog Tryz.f5 false true false false W args v W' := by
 have hW' := hW
 obtain ⟨p, q, hA0, hV, rfl, hfz, hnd⟩ := hW
 have hA : DataW.TrodAll enc Tryz.prog W 0 (fun _ => true) true Tryz.f5.params.toList args.toList ds p := hA0
 rw [Tryz.params5] at hA hval hw
 obtain ⟨v0, vs0, d0, ds0, p0, q0, hargs, rfl, rfl, h0, r0⟩ := trodAll_cons hA
 obtain ⟨v1, vs1, d1, ds1, p1, q1, rfl, rfl, rfl, h1, r1⟩ := trodAll_cons r0
 obtain ⟨rfl, rfl, rfl⟩ := trodAll_nil r1
 obtain rfl : args = #[v0, v1] := by cases args; simp_all
 obtain ⟨rfl, rfl⟩ := trodVars_none hV
 have k0 := h0
 have lt0 : ∀ x ∈ p0, x.block < W.heap.size := by obtain ⟨m, hm⟩ := k0; exact DataW.trod_lt m _ _ _ hm
 have k1 := h1
 have lt1 : ∀ x ∈ p1, x.block < W.heap.size := by obtain ⟨m, hm⟩ := k1; exact DataW.trod_lt m _ _ _ hm
 simp only [List.append_nil] at hW'
 have hw : (d0.weights Tryz.prog 24 ++ (d1.weights Tryz.prog 42 ++ (DataW.weightsEach Tryz.prog ((OpenSpec.ofChange Rows.appBlocksSpec).bare.plain.varTypes Tryz.prog) []))).all (· ≤ reachBytes) = true := hw
 simp only [List.all_append, Bool.and_eq_true] at hw
 obtain ⟨hw0, hw1, _⟩ := hw
 obtain ⟨A0, n0, cap0, rfl⟩ := okWide_slice Tryz.underlying24 (hval 0 24 v0 rfl rfl)
 obtain ⟨fuel0, hf0⟩ := h0
 obtain ⟨_, m0, hm0, hr0, hb0⟩ := opn_ints.2 enc W _ true fuel0 _ d0 p0 hf0 hw0
 obtain ⟨x0, rfl, hx0⟩ := ints_lift hm0
 obtain ⟨A1, n1, cap1, rfl⟩ := okWide_slice Tryz.underlying42 (hval 1 42 v1 rfl rfl)
 obtain ⟨fuel1, hf1⟩ := h1
 obtain ⟨_, m1, hm1, hr1, hb1⟩ := opn_rawsF.2 enc W _ true fuel1 _ d1 p1 hf1 hw1
 obtain ⟨x1, rfl, hx1, hy1⟩ := raws_full hm1
 refine (blocks_core x0 hx0 x1 hx1 hy1 W (allP W) [_, _] (libOK_of (show laidMet Tryz.prog laidL W from hL) hopen) (fun b o h => h) (.cons (.val [_] hr0) (.cons (.val [_] hr1) .nil))).mono fun e W' ⟨v, he, hv, bel⟩ => ?_
 subst he
 obtain rfl := hv.bool_
 exact ⟨_, rfl, _, _, _, [], _, [], hW', trodAll_mk1 (shut_bool Tryz.underlying4 _), (trodAll_cons_mk (Below.trod laidOut (by kernel_rfl) (of_decide_eq_true (by kernel_rfl)) k0 bel lt0) (trodAll_cons_mk (Below.trod laidOut (by kernel_rfl) (of_decide_eq_true (by kernel_rfl)) k1 bel lt1) trodAll_mk0)), rfl, bel.frame _, fun h => by cases h⟩
theorem reads (os : Os) {H : Type} (enc : TypeId × Value → H) : ∃ places, DataW.whole enc Tryz.prog ((laidW os).forCall (fun _ _ => 0) ⟨#[], #[.slice none 0 0, .slice none 0 0], []⟩).memory Tryz.f5.params.toList Rows.appBlocksSpec.vars false #[Value.slice none 0 0, Value.slice none 0 0].toList 8 = some ([.nil, .nil], [], places) :=
 ⟨[], by kernel_rfl⟩
set_option maxRecDepth 100000 in
theorem lifted (os : Os) (started : os.Started) (H : Type) (enc : TypeId × Value → H) (F : Stop.Interp) :
  ReturnsInHanded {} Tryz.checked os 5 .any ((OpenSpec.ofChange Rows.appBlocksSpec).preRow enc Tryz.prog Tryz.f5 Rows.appBlocksRow.domain false Rows.appBlocksRow.laid) (((OpenSpec.ofChange Rows.appBlocksSpec).at F).post enc Tryz.prog Tryz.f5 false true false false) := by
 obtain ⟨places, hx⟩ := reads os enc
 refine returnsInHanded_of_row (C := Tryz.checked) (s := OpenSpec.ofChange Rows.appBlocksSpec) own started (by kernel_rfl) Tryz.func5
  (witness_zip (enc := enc) (C := Tryz.checked) (laidW os) (World.laidAll_os _ _ _) #[.slice none 0 0, .slice none 0 0] (shapedW os _) (by kernel_rfl)
   (OpenSpec.preRow_of_cond 8 hx (by kernel_rfl) (fun k hk => by cases hk) (by kernel_rfl) (laid_met os _))) ?_
 intro W base args ds gs before hval hW _ _ hw hL hopen _
 exact contract H enc W base args ds gs before hval hW hw hL hopen
theorem said : Rows.AppBlocksSaid :=
 OpenClaim.holds_of_cond 5 Tryz.f5 rfl rfl rfl rfl rfl rfl rfl ⟨rfl, rfl, rfl, rfl, rfl⟩ rfl rfl rfl rfl rfl (by kernel_rfl) Tryz.func5 closed
  (of_decide_eq_true (by kernel_rfl)) (by unfold Func.isWrapper; first | (rw [if_pos (by decide +kernel)]; kernel_rfl) | (rw [if_neg (by decide +kernel)]; exact ⟨rfl, rfl⟩))
  (fun os started H enc _ F => by rw [OpenClaim.pre_eq_preRow]; exact lifted os started H enc F)
theorem plain (f : FuncId) (fn : Func) (hf : Tryz.pinned.checked.prog.funcNamed "mempool/mempoollaw15.AppBlocks" = some f) (hfn : Tryz.pinned.checked.prog.funcs[f]? = some fn) :
  true = Tryz.pinned.checked.prog.looks [] ∧ ∀ (j : Nat) t, fn.params[j]? = some t → Tryz.pinned.checked.prog.wantsStandIn t = false := by
 obtain rfl : f = 5 := Option.some.inj ((show Tryz.prog.funcNamed "mempool/mempoollaw15.AppBlocks" = some 5 by kernel_rfl).symm.trans hf) |>.symm
 obtain rfl : fn = Tryz.f5 := (Option.some.inj (Tryz.func5.symm.trans hfn)).symm
 refine ⟨by kernel_rfl, fun j t ht => ?_⟩
 have key : (Tryz.f5.params.all fun t => Tryz.prog.wantsStandIn t == false) = true := by kernel_rfl
 have := Array.all_eq_true_iff_forall_mem.1 key t (Array.mem_of_getElem? ht)
 show Tryz.prog.wantsStandIn t = false
 simpa using this
theorem card : Rows.AppBlocksCardSaid :=
 Claim7.holds_tied_plain_at .later [] _ _ _ _ said (fun _ h => by cases h) (by kernel_rfl) (fun _ h => by cases h) appBlocks_row_tie rfl ⟨rfl, rfl⟩ (by kernel_rfl) rfl plain (by kernel_rfl)
end Go.Proofs.YtohikcplmbkmeaaGreatDoor.appBlocks
