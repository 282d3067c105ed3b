/- Parts of a proof, one behind the other: LT, LO, LU. -/
import Derived.Test.YtbiaaogbohfimaaGreatDoorW08
set_option maxRecDepth 20000
set_option maxHeartbeats 16000000
set_option linter.unusedVariables false
set_option linter.unusedSimpArgs false
namespace Go.Proofs.YtbiaaogbohfimaaGreatDoor
open Go.RowKit
section
attribute [local irreducible] vOpsN vOpsG vOpsD vOpGD NextD vC SeqQ BlockQ
attribute [local irreducible] Int.decLt Int.decLe
theorem dec92 {s : List UInt8} {i w : Nat} (hi : i < s.length) (h : Utf8.decode ⟨s.toArray⟩ i = (92, w)) : w = 1 := by
 have hlaw := decN_rune (s.length - i) (s.getD i 0).toNat (s.getD (i + 1) 0).toNat (s.getD (i + 2) 0).toNat (s.getD (i + 3) 0).toNat (UInt8.toNat_lt _) (UInt8.toNat_lt _) (UInt8.toNat_lt _) (UInt8.toNat_lt _)
 rw [← runeS_N, ← dec_at, h] at hlaw
 by_cases h0 : runeS s i = 0
 ·have := hlaw.1 h0
  simp at this
 ·have hne : s.drop i ≠ [] := fun e => by have := congrArg List.length e; simp at this; omega
  have hr : isRune ((s.drop i).take (runeS s i)) := by
   rw [runeS_drop] at h0 ⊢
   exact rune_take hne h0
  have hle := runeS_lenI hi
  obtain ⟨v, e1, e2, _, _⟩ := enc_dec (r := (s.drop i).drop (runeS s i)) hr
  rw [List.take_append_drop, dec_drop hi, h] at e1
  have hl : ((s.drop i).take (runeS s i)).length = runeS s i := by rw [List.length_take, List.length_drop]; omega
  rw [hl] at e1
  injection e1 with q1 q2
  subst q1
  rw [← e2] at hl
  have : (encN 92).length = 1 := by decide +kernel
  omega
theorem bnd_lo {n k : Nat} {c : Int} {κ : IntKind} (hc : c = k) (h : k ≤ n) : bounds n (some (.int κ c)) none = some (k, n) := by subst hc; exact bndLo h
theorem drop_nil {B : List UInt8} {j : Nat} : B.drop j = [] ↔ B.length ≤ j := List.drop_eq_nil_iff
theorem punq_m (s : List UInt8) (hs : s.length ≤ 2000000) : SemC Tryz.prog GX 8 [.str s] (.tup [.str (unqS s).1, .bool (unqS s).2]) := by
 by_cases h2 : s.length < 2
 ·rw [unq_short (.inl h2)]
  refine scq seat Tryz.func8 65 ?_
  (iterate 10 ((all_goals (refine go1 ?_)); (all_goals (first | (refine n_guard rfl rfl (fun h => ?_) rfl (fun h => ?_); all_goals ((try simp only [pl] at h); (try (exfalso; omega)))) | (refine c_cond rfl (fun h => ?_) (fun h => ?_); all_goals ((try simp only [pl] at h); (try (exfalso; omega)))) | skip))))
  all_goals (refine go0 ?_; rfl)
 have f1 : SomF (idxS s (0 : Int)) (s.getD 0 0) := ⟨idxS_of 0 rfl (by omega)⟩
 have f2 : SomF (idxS s ((s.length : Int) - 1)) (s.getD (s.length - 1) 0) := ⟨idxS_of (s.length - 1) (by omega) (by omega)⟩
 by_cases hq : s.getD 0 0 ≠ 34 ∨ s.getD (s.length - 1) 0 ≠ 34
 ·rw [unq_short (.inr hq)]
  have hq' : ¬ ((s.getD 0 0).toNat = 34 ∧ (s.getD (s.length - 1) 0).toNat = 34) := fun ⟨a, b⟩ => by
   rcases hq with h | h
   ·exact h (UInt8.toNat_inj.1 a)
   ·exact h (UInt8.toNat_inj.1 b)
  generalize s.getD 0 0 = a at *
  generalize s.getD (s.length - 1) 0 = b at *
  refine scq seat Tryz.func8 65 ?_
  (iterate 10 ((all_goals (refine go1 ?_)); (all_goals (first | (refine n_guard rfl rfl (fun h => ?_) rfl (fun h => ?_); all_goals ((try simp only [pl] at h); (try (exfalso; omega)))) | (refine c_cond rfl (fun h => ?_) (fun h => ?_); all_goals ((try simp only [pl] at h); (try (exfalso; omega)))) | skip))))
  all_goals (refine go0 ?_; rfl)
 have q1 : s.getD 0 0 = 34 := Decidable.byContradiction fun h => hq (.inl h)
 have q2 : s.getD (s.length - 1) 0 = 34 := Decidable.byContradiction fun h => hq (.inr h)
 have hB := body_of (by omega) q1 q2
 have fb := SomF.mk (bnd_at (n := s.length) (lo := 1) (hi := s.length - 1) (a := (1 : Int)) (c := (s.length : Int) - 1) (κ := .i64) (κ' := .i64) rfl (by omega) (by omega) (by omega))
 rw [show s.length - 2 = s.length - 1 - 1 by omega] at hB
 rw [q1] at f1
 rw [q2] at f2
 have hl : s.length = ((s.drop 1).take (s.length - 1 - 1)).length + 2 := by rw [List.length_take, List.length_drop]; omega
 refine scq seat Tryz.func8 65 ?_
 (iterate 8 ((all_goals (refine go1 ?_)); (all_goals (first | (refine n_guard rfl rfl (fun h => ?_) rfl (fun h => ?_); all_goals ((try simp only [pl] at h); (try (simp at h; done)); (try (exfalso; omega)))) | (refine c_cond rfl (fun h => ?_) (fun h => ?_); all_goals ((try simp only [pl] at h); (try (simp at h; done)); (try (exfalso; omega)))) | skip))))
 refine c_loop (Nat × List (List UInt8) × Bool) (fun x => [(5, .str (((s.drop 1).take (s.length - 1 - 1)).drop x.1)), (4, .ptr 0 2 0 0 []), (0, .str s)]) (fun x => [(0, bldB (selfP x.2.2) (.ms 1 1 0 x.2.1.flatten.length)), (1, rowU 0 x.2.1.flatten)]) 2 (fun x => Rd s (x.1 + 1) x.2.1 ∧ x.1 ≤ ((s.drop 1).take (s.length - 1 - 1)).length ∧ x.2.1.length ≤ x.1) (fun x => s.length - x.1) (0, [], false) ⟨rd_begin (by omega), Nat.zero_le _, Nat.le_refl _⟩ (by dsimp only; exact (vm [(0, _)] [])) ?_
 rintro ⟨j, L, fl⟩ ⟨hR, hj, hLj⟩
 try dsimp only
 dsimp only at hR hj hLj
 clear fb f1 f2 q1 q2 hq
 generalize (s.drop 1).take (s.length - 1 - 1) = B at *
 have hfl := rd_len hR.1
 by_cases hjB : j < B.length
 ·obtain ⟨v, w, d, e1, e2, e3, e4, e5, e6, e7, e8⟩ := next_piece hjB
  have hdg : Lib.decodeGo ⟨(B.drop j).toArray⟩ = (v, w) := (decGo_drop hjB).trans e1
  have c0 := semC_up (decGo_s (B.drop j))
  rw [hdg] at c0
  dsimp only at c0
  have hne : B.drop j ≠ [] := fun e => by rw [drop_nil] at e; omega
  have hRd : ∀ k, (B.drop j).drop k = B.drop (j + k) := fun k => List.drop_drop
  have hRl : (B.drop j).length = B.length - j := List.length_drop
  have hW : ∀ x : List UInt8, (L ++ [x]).flatten = L.flatten ++ x := fun x => by simp
  have hLn : ∀ x : List UInt8, (L ++ [x]).length = L.length + 1 := fun x => by simp
  have cw := fun (x : Nat) (hx : x < 2147483648) => writeRune_r (G := GX) fl L.flatten x (by omega) hx
  clear e2 e3 e4 e5
  by_cases hv : v = 92
  ·subst hv
   obtain rfl := dec92 hjB e1
   have cx := pescape_x (B.drop (j + 1)) (by rw [List.length_drop]; omega)
   have hbad := prg_bad hB hR hjB hdg
   have hesc := fun x m => prg_esc (c := encN x) (m := m) hB hR hjB hdg (enc_rune x)
   have hl1 : (B.drop (j + 1)).length = B.length - (j + 1) := List.length_drop
   rw [← hRd 1] at cx hbad hesc hl1
   generalize B.drop j = R at *
   have fb := SomF.mk (bndLo (κ := .i64) (n := R.length) (k := 1) (by omega))
   have fe : EqF ((R.drop 1).take (R.length - 1)) (R.drop 1) := ⟨List.take_of_length_le (by rw [List.length_drop]; omega)⟩
   have hp1 : 1 ≤ R.length := by omega
   generalize L.flatten = W at *
   cases fl
   all_goals
    unfold bldB selfP rowU at *
    dsimp only at cw ⊢
    (iterate 4 ((all_goals (refine go1 ?_)); (all_goals (first | (refine g_call3 rfl (fun _ h => h) rfl (semR_of_semC (c0)) rfl rfl ?_) | (refine n_guard rfl rfl (fun h => ?_) rfl (fun h => ?_); all_goals ((try simp only [pl] at h); (try (exact absurd h hne)); (try (exfalso; omega)))) | (refine c_cond rfl (fun h => ?_) (fun h => ?_); all_goals ((try simp only [pl] at h); (try (exact absurd h hne)); (try (exfalso; omega)))) | skip))))
    (iterate 2 ((all_goals (refine go1 ?_)); (all_goals (first | (refine g_call3 rfl (fun _ h => h) rfl (semR_of_semC (c0)) rfl rfl ?_) | (refine n_guard rfl rfl (fun h => ?_) rfl (fun h => ?_); all_goals ((try simp only [pl] at h); (try (exact absurd h hne)); (try (exfalso; omega)))) | (refine c_cond rfl (fun h => ?_) (fun h => ?_); all_goals ((try simp only [pl] at h); (try (exact absurd h hne)); (try (exfalso; omega)))) | skip))))
    refine g_callX1 rfl (fun _ h => h) rfl (cx) [] trivial lm ?_
    rintro r ⟨x, m, ok, rfl, hE⟩
    cases ok
    ·rw [hbad fun d z hd e => by have := (hE.2.2 d z hd e).1; cases this]
     (iterate 4 ((all_goals (refine go1 ?_)); (all_goals (first | (refine n_guard rfl rfl (fun h => ?_) rfl (fun h => ?_); all_goals ((try simp only [pl] at h); (try (exfalso; omega)))) | (refine c_cond rfl (fun h => ?_) (fun h => ?_); all_goals ((try simp only [pl] at h); (try (exfalso; omega)))) | skip))))
     all_goals (refine go0 ?_; rfl)
    ·obtain ⟨hm1, hm2⟩ := hE.2.1 rfl
     have hn := hesc x m (by omega) fun d z hd e => ⟨(hE.2.2 d z hd e).2.1, (hE.2.2 d z hd e).2.2⟩
     have cx2 := cw x hE.1
     have fb2 := SomF.mk (bnd_lo (n := R.length) (k := 1 + m) (c := ((1 : Nat) : Int) + (m : Int)) (κ := .i64) (by omega) (by omega))
     have fe2 : EqF ((R.drop (1 + m)).take (R.length - (1 + m))) (B.drop (j + 1 + m)) := ⟨by rw [List.take_of_length_le (by rw [List.length_drop]; omega), hRd, Nat.add_assoc]⟩
     clear cw hesc hbad fb fe cx
     (iterate 4 ((all_goals (refine go1 ?_)); (all_goals (first | (refine n_guard rfl rfl (fun h => ?_) rfl (fun h => ?_); all_goals ((try simp only [pl] at h); (try (exfalso; omega)))) | (refine c_cond rfl (fun h => ?_) (fun h => ?_); all_goals ((try simp only [pl] at h); (try (exfalso; omega)))) | skip))))
     refine yc (cx2) [(0, 0), (1, 1)] ?_
     refine go1 ?_
     exact ⟨(j + 1 + m, L ++ [encN x], true), ⟨hn, by dsimp only; omega, by dsimp only; rw [hLn]; omega⟩, by dsimp only; omega, by dsimp only; rw [hW]; exact vm [(0, _), (1, _)] []⟩
  ·have hn := prg_rune hB hR hjB hdg hv e8
   have cx2 := cw v (by omega)
   generalize B.drop j = R at *
   have fb := SomF.mk (bndLo (κ := .i64) (n := R.length) (k := w) (by omega))
   have fe : EqF ((R.drop w).take (R.length - w)) (B.drop (j + w)) := ⟨by rw [List.take_of_length_le (by rw [List.length_drop]; omega), hRd]⟩
   have hp1 : 1 ≤ R.length := by omega
   generalize L.flatten = W at *
   clear cw
   cases fl
   all_goals
    unfold bldB selfP rowU at *
    dsimp only at cx2 ⊢
    (iterate 4 ((all_goals (refine go1 ?_)); (all_goals (first | (refine g_call3 rfl (fun _ h => h) rfl (semR_of_semC (c0)) rfl rfl ?_) | (refine n_guard rfl rfl (fun h => ?_) rfl (fun h => ?_); all_goals ((try simp only [pl] at h); (try (exact absurd h hne)); (try (exfalso; omega)))) | (refine c_cond rfl (fun h => ?_) (fun h => ?_); all_goals ((try simp only [pl] at h); (try (exact absurd h hne)); (try (exfalso; omega)))) | skip))))
    (iterate 3 ((all_goals (refine go1 ?_)); (all_goals (first | (refine g_call3 rfl (fun _ h => h) rfl (semR_of_semC (c0)) rfl rfl ?_) | (refine n_guard rfl rfl (fun h => ?_) rfl (fun h => ?_); all_goals ((try simp only [pl] at h); (try (exact absurd h hne)); (try (exfalso; omega)))) | (refine c_cond rfl (fun h => ?_) (fun h => ?_); all_goals ((try simp only [pl] at h); (try (exact absurd h hne)); (try (exfalso; omega)))) | skip))))
    refine yc (cx2) [(0, 0), (1, 1)] ?_
    refine go1 ?_
    exact ⟨(j + w, L ++ [encN v], true), ⟨hn, by dsimp only; omega, by dsimp only; rw [hLn]; omega⟩, by dsimp only; omega, by dsimp only; rw [hW]; exact vm [(0, _), (1, _)] []⟩
 ·have hd := hR.done (by omega)
  have hne : B.drop j = [] := by rw [drop_nil]; omega
  rw [hne]
  have c1 := string_r (G := GX) fl 0 L.flatten
  have c2 := string_r (G := GX) fl (Nat.max 0 L.flatten.length) L.flatten
  have cq := pquote_m fmt_c L.flatten (by omega)
  generalize L.flatten = W at *
  generalize quoteS W = Q at *
  by_cases hQ : Q = s
  ·rw [hd.1 hQ]
   subst hQ
   clear hd hR hB
   cases fl
   all_goals
    unfold bldB selfP rowU at *
    dsimp only at c1 c2 ⊢
    (iterate 3 ((all_goals (refine go1 ?_)); (all_goals (first | (refine n_guard rfl rfl (fun h => ?_) rfl (fun h => ?_); all_goals ((try simp only [pl] at h); (try (simp at h; done)); (try (exfalso; omega)))) | (refine c_cond rfl (fun h => ?_) (fun h => ?_); all_goals ((try simp only [pl] at h); (try (simp at h; done)); (try (exfalso; omega)))) | skip))))
    refine yc (c1) [(0, 0), (1, 1)] ?_
    (iterate 3 ((all_goals (refine go1 ?_)); (all_goals (first | (refine g_call3 rfl (fun _ h => h) rfl (semR_of_semC (cq)) rfl rfl ?_) | (refine n_guard rfl rfl (fun h => ?_) rfl (fun h => ?_); all_goals ((try simp only [pl] at h); (try (simp at h; done)); (try (exfalso; omega)))) | (refine c_cond rfl (fun h => ?_) (fun h => ?_); all_goals ((try simp only [pl] at h); (try (simp at h; done)); (try (exfalso; omega)))) | skip))))
    refine yc (c2) [(0, 0), (1, 1)] ?_
    refine go1 ?_
    refine go0 ?_
    rfl
  ·rw [hd.2 hQ]
   clear hd hR hB
   cases fl
   all_goals
    unfold bldB selfP rowU at *
    dsimp only at c1 c2 ⊢
    (iterate 3 ((all_goals (refine go1 ?_)); (all_goals (first | (refine n_guard rfl rfl (fun h => ?_) rfl (fun h => ?_); all_goals ((try simp only [pl] at h); (try (simp at h; done)); (try (exfalso; omega)))) | (refine c_cond rfl (fun h => ?_) (fun h => ?_); all_goals ((try simp only [pl] at h); (try (simp at h; done)); (try (exfalso; omega)))) | skip))))
    refine yc (c1) [(0, 0), (1, 1)] ?_
    (iterate 3 ((all_goals (refine go1 ?_)); (all_goals (first | (refine g_call3 rfl (fun _ h => h) rfl (semR_of_semC (cq)) rfl rfl ?_) | (refine n_guard rfl rfl (fun h => ?_) rfl (fun h => ?_); all_goals ((try simp only [pl] at h); (try (exact absurd h hQ)); (try (exfalso; omega)))) | (refine c_cond rfl (fun h => ?_) (fun h => ?_); all_goals ((try simp only [pl] at h); (try (exact absurd h hQ)); (try (exfalso; omega)))) | skip))))
    refine go1 ?_
    refine go0 ?_
    rfl
end
section
variable {G : GS}
attribute [local irreducible] vOpsN vOpsG vOpsD vOpGD NextD vC SeqQ BlockQ
attribute [local irreducible] Int.decLt Int.decLe
theorem runq_m (s : List UInt8) (hs : s.length ≤ 2000000) : SemC Tryz.prog G 9 [.str s] (.tup [.str (unqS s).1, .bool (unqS s).2]) := by
 by_cases hs0 : s = []
 ·subst hs0
  rw [unq_short (s := []) (.inl (by decide))]
  have c1 := runes_m (G := G) [] (by decide)
  have c2 := rquote_m (G := G) [] (by decide)
  rw [show (runesS []).2 = true by decide +kernel] at c1
  rw [show quoteS [] = [34, 34] by decide +kernel] at c2
  generalize (runesS []).1 = N at *
  refine scq seat Tryz.func9 55 ?_
  refine go1 ?_
  refine c_loop Unit (fun _ => [(5, .int .i64 1), (4, .str []), (0, .str [])]) (fun _ => []) 0 (fun _ => True) (fun _ => 0) () trivial (vm [] []) ?_
  intro _ _
  try dsimp only
  (iterate 3 ((all_goals (refine go1 ?_)); (all_goals (first | (refine g_call3 rfl (fun _ h => h) rfl (semR_of_semC (c1)) rfl rfl ?_) | (refine n_guard rfl rfl (fun h => ?_) rfl (fun h => ?_); all_goals ((try simp only [pl] at h); (try (simp at h; done)); (try (exfalso; omega)))) | (refine c_cond rfl (fun h => ?_) (fun h => ?_); all_goals ((try simp only [pl] at h); (try (simp at h; done)); (try (exfalso; omega)))) | skip))))
  (iterate 4 ((all_goals (refine go1 ?_)); (all_goals (first | (refine g_call3 rfl (fun _ h => h) rfl (semR_of_semC (c2)) rfl rfl ?_) | (refine n_guard rfl rfl (fun h => ?_) rfl (fun h => ?_); all_goals ((try simp only [pl] at h); (try (simp at h; done)); (try (exfalso; omega)))) | (refine c_cond rfl (fun h => ?_) (fun h => ?_); all_goals ((try simp only [pl] at h); (try (simp at h; done)); (try (exfalso; omega)))) | skip))))
  all_goals (refine go0 ?_; rfl)
 have hs1 := pos_ne hs0
 refine scq seat Tryz.func9 55 ?_
 refine go1 ?_
 refine c_loop (Nat × List (List UInt8)) (fun x => [(5, .int .i64 x.1), (4, .str x.2.flatten), (0, .str s)]) (fun _ => []) 0 (fun x => Rd s x.1 x.2 ∧ x.2.length ≤ x.1) (fun x => s.length - x.1) (1, []) ⟨rd_begin (by omega), by decide⟩ (by dsimp only; exact (vm [] [])) ?_
 rintro ⟨i, L⟩ ⟨hR, hl⟩
 try dsimp only
 dsimp only at hR hl
 have hfl := rd_len hR.1
 have hi0 := hR.2.1
 by_cases hi : i + 1 < s.length
 ·have cE := rescape_m (G := G) (s.drop i)
  have cr := rune_m (G := G) s i (by omega) (by omega)
  have fb := SomF.mk (bndLo (κ := .i64) (n := s.length) (k := i) (by omega))
  have fe : EqF ((s.drop i).take (s.length - i)) (s.drop i) := ⟨List.take_of_length_le (by rw [List.length_drop]; omega)⟩
  have g1 := fun c k => ref_form (c := c) (k := k) hR hi
  have g2 := ref_bad hR hi
  have g3 := fun k => ref_rune (k := k) hR hi
  have g0 := esc_zero (t := s.drop i)
  generalize escS (s.drop i) = ck at *
  obtain ⟨c, k⟩ := ck
  dsimp only at cE g0
  by_cases hk : k = 0
  ·subst hk
   have h0 := g0 rfl
   simp only [Prod.mk.injEq, and_true] at h0
   subst h0
   clear g0 g1
   generalize hr : runeS s i = r at *
   by_cases hr0 : r = 0
   ·subst hr0
    rw [g2 rfl rfl]
    (iterate 3 ((all_goals (refine go1 ?_)); (all_goals (first | (refine g_call3 rfl (fun _ h => h) rfl (semR_of_semC (cE)) rfl rfl ?_) | (refine g_call3 rfl (fun _ h => h) rfl (semR_of_semC (cr)) rfl rfl ?_) | (refine n_guard rfl rfl (fun h => ?_) rfl (fun h => ?_); all_goals ((try simp only [pl] at h); (try (exfalso; omega)))) | (refine c_cond rfl (fun h => ?_) (fun h => ?_); all_goals ((try simp only [pl] at h); (try (exfalso; omega)))) | skip))))
    (iterate 4 ((all_goals (refine go1 ?_)); (all_goals (first | (refine g_call3 rfl (fun _ h => h) rfl (semR_of_semC (cE)) rfl rfl ?_) | (refine g_call3 rfl (fun _ h => h) rfl (semR_of_semC (cr)) rfl rfl ?_) | (refine n_guard rfl rfl (fun h => ?_) rfl (fun h => ?_); all_goals ((try simp only [pl] at h); (try (exfalso; omega)))) | (refine c_cond rfl (fun h => ?_) (fun h => ?_); all_goals ((try simp only [pl] at h); (try (exfalso; omega)))) | skip))))
    all_goals (refine go0 ?_; rfl)
   ·have hn := g3 r rfl rfl hr0
    have hle := hn.2.1
    have fb2 := SomF.mk (bnd_at (n := s.length) (lo := i) (hi := i + r) (a := (i : Int)) (c := (i : Int) + r) (κ := .i64) (κ' := .i64) rfl (by omega) (by omega) hle)
    have fe2 : EqF ((s.drop i).take (i + r - i)) ((s.drop i).take r) := ⟨by rw [Nat.add_sub_cancel_left]⟩
    have hdl : ((s.drop i).take r).length ≤ r := by rw [List.length_take]; omega
    clear g2 g3
    (iterate 3 ((all_goals (refine go1 ?_)); (all_goals (first | (refine g_call3 rfl (fun _ h => h) rfl (semR_of_semC (cE)) rfl rfl ?_) | (refine g_call3 rfl (fun _ h => h) rfl (semR_of_semC (cr)) rfl rfl ?_) | (refine n_guard rfl rfl (fun h => ?_) rfl (fun h => ?_); all_goals ((try simp only [pl] at h); (try (exfalso; omega)))) | (refine c_cond rfl (fun h => ?_) (fun h => ?_); all_goals ((try simp only [pl] at h); (try (exfalso; omega)))) | skip))))
    (iterate 6 ((all_goals (refine go1 ?_)); (all_goals (first | (refine g_call3 rfl (fun _ h => h) rfl (semR_of_semC (cE)) rfl rfl ?_) | (refine g_call3 rfl (fun _ h => h) rfl (semR_of_semC (cr)) rfl rfl ?_) | (refine n_guard rfl rfl (fun h => ?_) rfl (fun h => ?_); all_goals ((try simp only [pl] at h); (try (exfalso; omega)))) | (refine c_cond rfl (fun h => ?_) (fun h => ?_); all_goals ((try simp only [pl] at h); (try (exfalso; omega)))) | skip))))
    all_goals exact ⟨(i + r, L ++ [(s.drop i).take r]), ⟨hn, by dsimp only; rw [List.length_append, List.length_singleton]; omega⟩, by dsimp only; omega, by dsimp only; rw [List.flatten_append, List.flatten_cons, List.flatten_nil, List.append_nil]; exact vm [] []⟩
  ·have hn := g1 c k rfl hk
   have hle := hn.2.1
   have hcl := rune_le4 (hn.1 c (by simp))
   clear g0 g1 g2 g3
   (iterate 3 ((all_goals (refine go1 ?_)); (all_goals (first | (refine g_call3 rfl (fun _ h => h) rfl (semR_of_semC (cE)) rfl rfl ?_) | (refine g_call3 rfl (fun _ h => h) rfl (semR_of_semC (cr)) rfl rfl ?_) | (refine n_guard rfl rfl (fun h => ?_) rfl (fun h => ?_); all_goals ((try simp only [pl] at h); (try (exfalso; omega)))) | (refine c_cond rfl (fun h => ?_) (fun h => ?_); all_goals ((try simp only [pl] at h); (try (exfalso; omega)))) | skip))))
   (iterate 6 ((all_goals (refine go1 ?_)); (all_goals (first | (refine g_call3 rfl (fun _ h => h) rfl (semR_of_semC (cE)) rfl rfl ?_) | (refine g_call3 rfl (fun _ h => h) rfl (semR_of_semC (cr)) rfl rfl ?_) | (refine n_guard rfl rfl (fun h => ?_) rfl (fun h => ?_); all_goals ((try simp only [pl] at h); (try (exfalso; omega)))) | (refine c_cond rfl (fun h => ?_) (fun h => ?_); all_goals ((try simp only [pl] at h); (try (exfalso; omega)))) | skip))))
   all_goals exact ⟨(i + k, L ++ [c]), ⟨hn, by dsimp only; rw [List.length_append, List.length_singleton]; omega⟩, by dsimp only; omega, by dsimp only; rw [List.flatten_append, List.flatten_cons, List.flatten_nil, List.append_nil]; exact vm [] []⟩
 ·have hd := hR.done (by omega)
  have c1 := runes_m (G := G) L.flatten (by omega)
  have c2 := rquote_m (G := G) L.flatten (by omega)
  rw [runes_flat hR.1] at c1
  generalize (runesS L.flatten).1 = N at *
  clear hR
  generalize L.flatten = T at *
  generalize quoteS T = Q at *
  by_cases hq : Q = s
  ·rw [hd.1 hq]
   subst hq
   (iterate 3 ((all_goals (refine go1 ?_)); (all_goals (first | (refine g_call3 rfl (fun _ h => h) rfl (semR_of_semC (c1)) rfl rfl ?_) | (refine n_guard rfl rfl (fun h => ?_) rfl (fun h => ?_); all_goals ((try simp only [pl] at h); (try (exfalso; omega)))) | (refine c_cond rfl (fun h => ?_) (fun h => ?_); all_goals ((try simp only [pl] at h); (try (exfalso; omega)))) | skip))))
   (iterate 6 ((all_goals (refine go1 ?_)); (all_goals (first | (refine g_call3 rfl (fun _ h => h) rfl (semR_of_semC (c2)) rfl rfl ?_) | (refine n_guard rfl rfl (fun h => ?_) rfl (fun h => ?_); all_goals ((try simp only [pl] at h); (try (simp at h; done)); (try (exfalso; omega)))) | (refine c_cond rfl (fun h => ?_) (fun h => ?_); all_goals ((try simp only [pl] at h); (try (simp at h; done)); (try (exfalso; omega)))) | skip))))
   all_goals (refine go0 ?_; rfl)
  ·rw [hd.2 hq]
   (iterate 3 ((all_goals (refine go1 ?_)); (all_goals (first | (refine g_call3 rfl (fun _ h => h) rfl (semR_of_semC (c1)) rfl rfl ?_) | (refine n_guard rfl rfl (fun h => ?_) rfl (fun h => ?_); all_goals ((try simp only [pl] at h); (try (exfalso; omega)))) | (refine c_cond rfl (fun h => ?_) (fun h => ?_); all_goals ((try simp only [pl] at h); (try (exfalso; omega)))) | skip))))
   (iterate 6 ((all_goals (refine go1 ?_)); (all_goals (first | (refine g_call3 rfl (fun _ h => h) rfl (semR_of_semC (c2)) rfl rfl ?_) | (refine n_guard rfl rfl (fun h => ?_) rfl (fun h => ?_); all_goals ((try simp only [pl] at h); (try (exact absurd h hq)); (try (exfalso; omega)))) | (refine c_cond rfl (fun h => ?_) (fun h => ?_); all_goals ((try simp only [pl] at h); (try (exact absurd h hq)); (try (exfalso; omega)))) | skip))))
   all_goals (refine go0 ?_; rfl)
end
section
attribute [local irreducible] vOpsN vOpsG vOpsD vOpGD NextD vC SeqQ BlockQ
attribute [local irreducible] Int.decLt Int.decLe
def wordsL : List MV := [.str [34], .str [92], .str [92, 110], .str [92, 117, 123], .str [125], .str [48], .str [49, 102], .str [55, 102], .str [102, 102, 102, 100], .str [10], .str [0], .str [127], .str [239, 191, 189], .str [226, 130], .str [195, 169], .str [240, 159, 152, 128], .str [97], .str [32], .str [92, 34], .str [92, 92]]
theorem words_at {k : Nat} (h : k < 20) : ∃ x : List UInt8, nthM wordsL (0 + k) = some (.str x) ∧ x.length ≤ 4 := by
 have key : ∀ k, k < 20 → (match nthM wordsL (0 + k) with | some (.str x) => decide (x.length ≤ 4) | _ => false) = true := by decide +kernel
 have := key k h
 split at this
 ·rename_i x hx; exact ⟨x, hx, of_decide_eq_true this⟩
 ·cases this
def listL (s t u : List UInt8) : List (List UInt8) := [s, t, u, [34] ++ u ++ [34], [34] ++ s ++ [34], quoteS u, quoteS (s ++ t)]
theorem quotes_core (hK : SemC Tryz.prog GX 6 [] (.bool true)) (s t words : List UInt8) (hs : s.length ≤ 140737488355328) (ht : t.length ≤ 140737488355328) (hw : words.length ≤ 140737488355328) : SemC Tryz.prog GX 3 [.str s, .str t, .sl words.length (u8s words)] (.bool true) := by
 by_cases hbig : 600 < s.length + t.length ∨ 40 < words.length
 ·refine scq seat Tryz.func3 90 ?_
  (iterate 6 ((all_goals (refine go1 ?_)); (all_goals (first | (refine g_call3 rfl (fun _ h => h) rfl (semR_of_semC (hK)) rfl rfl ?_) | (refine n_guard rfl rfl (fun h => ?_) rfl (fun h => ?_); all_goals ((try simp only [pl] at h); (try (exfalso; omega)))) | (refine c_cond rfl (fun h => ?_) (fun h => ?_); all_goals ((try simp only [pl] at h); (try (exfalso; omega)))) | skip))))
  all_goals (refine go0 ?_; rfl)
 ·refine scq seat Tryz.func3 90 ?_
  (iterate 5 ((all_goals (refine go1 ?_)); (all_goals (first | (refine n_guard rfl rfl (fun h => ?_) rfl (fun h => ?_); all_goals ((try simp only [pl] at h); (try (exfalso; omega)))) | (refine c_cond rfl (fun h => ?_) (fun h => ?_); all_goals ((try simp only [pl] at h); (try (exfalso; omega)))) | skip))))
  refine c_loop (Nat × List UInt8) (fun x => [(30, .int .i64 x.1), (29, .int .i64 words.length), (28, .sl words.length (u8s words)), (7, .str x.2), (1, .str t), (0, .str s)]) (fun _ => []) 0 (fun x => x.1 ≤ words.length ∧ x.2.length ≤ 4 * x.1) (fun x => words.length - x.1) (0, []) ⟨Nat.zero_le _, Nat.le_refl _⟩ (by dsimp only; exact (vm [] [])) ?_
  rintro ⟨k, u⟩ ⟨hk1, hu⟩
  try dsimp only
  dsimp only at hk1 hu
  by_cases hkw : k < words.length
  ·have hel : SomF (idxL (u8s words) words.length (k : Int)) (.int .u8 ((words.getD k 0).toNat : Int)) := ⟨index_at hkw (by unfold u8s; rw [List.getElem?_map, List.getElem?_eq_getElem hkw, List.getD_eq_getElem?_getD, List.getElem?_eq_getElem hkw]; rfl)⟩
   have hc := UInt8.toNat_lt (words.getD k 0)
   generalize (words.getD k 0).toNat = c at *
   have hm : c % 20 < 20 := Nat.mod_lt _ (by decide)
   obtain ⟨x, hx, hxl⟩ := words_at hm
   have e1 : EqF ((c : Int).tmod 20) ((c % 20 : Nat) : Int) := ⟨by rw [Int.tmod_eq_emod_of_nonneg (by omega)]; omega⟩
   have f1 := SomF.mk (idx_at hm)
   have f2 := SomF.mk hx
   unfold wordsL at f2
   clear hx
   generalize c % 20 = m at *
   (iterate 4 ((all_goals (refine go1 ?_)); (all_goals (first | (refine n_guard rfl rfl (fun h => ?_) rfl (fun h => ?_); all_goals ((try simp only [pl] at h); (try (exfalso; omega)))) | (refine c_cond rfl (fun h => ?_) (fun h => ?_); all_goals ((try simp only [pl] at h); (try (exfalso; omega)))) | skip))))
   exact ⟨(k + 1, u ++ x), ⟨by dsimp only; omega, by dsimp only; rw [List.length_append]; omega⟩, by dsimp only; omega, (by dsimp only; exact (vm [] []))⟩
  ·obtain rfl : k = words.length := by omega
   have hu4 : u.length ≤ 160 := by omega
   have c1 := rquote_m (G := GX) u (by omega)
   have c2 := rquote_m (G := GX) (s ++ t) (by rw [List.length_append]; omega)
   have hq1 := quote_len u
   have hq2 := quote_len (s ++ t)
   rw [List.length_append] at hq2
   (iterate 3 ((all_goals (refine go1 ?_)); (all_goals (first | (refine n_guard rfl rfl (fun h => ?_) rfl (fun h => ?_); all_goals ((try simp only [pl] at h); (try (exfalso; omega)))) | (refine c_cond rfl (fun h => ?_) (fun h => ?_); all_goals ((try simp only [pl] at h); (try (exfalso; omega)))) | skip))))
   refine g_val rfl rfl (by intro R hR; refine sms hR ?_; refine And.intro (by show 1 + u.length ≤ _; omega) ?_; refine ⟨_, rfl, ?_⟩; exact hR) rfl ?_
   refine go1 ?_
   refine g_val rfl rfl (by intro R hR; refine sms hR ?_; refine And.intro (by rw [List.length_append]; show 1 + u.length + 1 ≤ _; omega) ?_; refine ⟨_, rfl, ?_⟩; exact hR) rfl ?_
   refine go1 ?_
   refine g_val rfl rfl (by intro R hR; refine sms hR ?_; refine And.intro (by show 1 + s.length ≤ _; omega) ?_; refine ⟨_, rfl, ?_⟩; exact hR) rfl ?_
   refine go1 ?_
   refine g_val rfl rfl (by intro R hR; refine sms hR ?_; refine And.intro (by rw [List.length_append]; show 1 + s.length + 1 ≤ _; omega) ?_; refine ⟨_, rfl, ?_⟩; exact hR) rfl ?_
   refine go1 ?_
   refine yv (c1) ?_
   refine go1 ?_
   refine yv (c2) ?_
   refine go1 ?_
   have hll : ∀ x ∈ listL s t u, x.length ≤ 10000 := by
    intro x hx
    simp only [listL, List.mem_cons, List.not_mem_nil, or_false] at hx
    rcases hx with rfl | rfl | rfl | rfl | rfl | rfl | rfl
    all_goals (try simp only [List.length_append, List.length_singleton]); omega
   refine c_loop Nat (fun k => [(59, .int .i64 k), (58, .int .i64 (7 : Nat)), (57, .sl 7 ((listL s t u).map MV.str))]) (fun _ => []) 0 (fun k => k ≤ 7) (fun k => 7 - k) 0 (Nat.zero_le _) (vm [] [(14, 7)]) ?_
   intro k hk7
   try dsimp only
   by_cases hk8 : k < 7
   ·obtain ⟨x, hx, hxl⟩ : ∃ x, idxL ((listL s t u).map MV.str) 7 (k : Int) = some (.str x) ∧ x.length ≤ 10000 := by
     have h7 : k < (listL s t u).length := hk8
     exact ⟨(listL s t u)[k], index_at hk8 (by rw [List.getElem?_map, List.getElem?_eq_getElem h7]; rfl), hll _ (List.getElem_mem h7)⟩
    have fx := SomF.mk hx
    have d1 := punq_m x (by omega)
    have d2 := runq_m (G := GX) x (by omega)
    have d3 := pquote_m fmt_c x (by omega)
    have d4 := rquote_m (G := GX) x (by omega)
    clear hx hll c1 c2 hq1 hq2
    generalize (unqS x).1 = a at *
    generalize (unqS x).2 = b at *
    generalize quoteS x = q at *
    generalize (listL s t u).map MV.str = LL at *
    (iterate 12 ((all_goals (refine go1 ?_)); (all_goals (first | (refine g_call3 rfl (fun _ h => h) rfl (semR_of_semC (d1)) rfl rfl ?_) | (refine g_call3 rfl (fun _ h => h) rfl (semR_of_semC (d2)) rfl rfl ?_) | (refine g_call3 rfl (fun _ h => h) rfl (semR_of_semC (d3)) rfl rfl ?_) | (refine g_call3 rfl (fun _ h => h) rfl (semR_of_semC (d4)) rfl rfl ?_) | (refine n_guard rfl rfl (fun h => ?_) rfl (fun h => ?_); all_goals ((try simp only [pl] at h); (try (simp at h; done)); (try (exfalso; omega)))) | (refine c_cond rfl (fun h => ?_) (fun h => ?_); all_goals ((try simp only [pl] at h); (try (simp at h; done)); (try (exfalso; omega)))) | skip))))
    all_goals exact ⟨k + 1, by dsimp only; omega, by dsimp only; omega, (by dsimp only; exact (vm [] []))⟩
   ·(iterate 4 ((all_goals (refine go1 ?_)); (all_goals (first | (refine g_call3 rfl (fun _ h => h) rfl (semR_of_semC (hK)) rfl rfl ?_) | (refine n_guard rfl rfl (fun h => ?_) rfl (fun h => ?_); all_goals ((try simp only [pl] at h); (try (exfalso; omega)))) | (refine c_cond rfl (fun h => ?_) (fun h => ?_); all_goals ((try simp only [pl] at h); (try (exfalso; omega)))) | skip))))
    all_goals (refine go0 ?_; rfl)
theorem runes_len (l : List Int) : (runesBytes l).data.toList.length ≤ 4 * l.length := by
 have := runesBytes_size_le l
 rw [← ByteArray.size_data] at this
 simpa using this
theorem rnsM_ints : ∀ l : List Int, rnsM (l.map (MV.int .i32)) = some l
 | [] => rfl
 | n :: l => by
  show (match rnsM (l.map (MV.int .i32)) with | some r => some (n :: r) | none => none) = _
  rw [rnsM_ints l]
theorem unquotes_core (hK : SemC Tryz.prog GX 6 [] (.bool true)) (s : List UInt8) (l : List Int) (hs : s.length ≤ 140737488355328) (hl : l.length ≤ 140737488355328) : SemC Tryz.prog GX 4 [.str s, .sl l.length (l.map (MV.int .i32))] (.bool true) := by
 by_cases hbig : 400 < s.length ∨ 100 < l.length
 ·refine scq seat Tryz.func4 77 ?_
  (iterate 6 ((all_goals (refine go1 ?_)); (all_goals (first | (refine g_call3 rfl (fun _ h => h) rfl (semR_of_semC (hK)) rfl rfl ?_) | (refine n_guard rfl rfl (fun h => ?_) rfl (fun h => ?_); all_goals ((try simp only [pl] at h); (try (exfalso; omega)))) | (refine c_cond rfl (fun h => ?_) (fun h => ?_); all_goals ((try simp only [pl] at h); (try (exfalso; omega)))) | skip))))
  all_goals (refine go0 ?_; rfl)
 ·have fr := SomF.mk (rnsM_ints l)
  have hrl := runes_len l
  refine scq seat Tryz.func4 77 ?_
  (iterate 5 ((all_goals (refine go1 ?_)); (all_goals (first | (refine n_guard rfl rfl (fun h => ?_) rfl (fun h => ?_); all_goals ((try simp only [pl] at h); (try (exfalso; omega)))) | (refine c_cond rfl (fun h => ?_) (fun h => ?_); all_goals ((try simp only [pl] at h); (try (exfalso; omega)))) | skip))))
  have hll : ∀ x ∈ [s, (runesBytes l).data.toList], x.length ≤ 400 := by
   intro x hx
   simp only [List.mem_cons, List.not_mem_nil, or_false] at hx
   rcases hx with rfl | rfl
   all_goals omega
  refine c_loop Nat (fun k => [(27, .int .i64 k), (26, .int .i64 (2 : Nat)), (25, .sl 2 ([s, (runesBytes l).data.toList].map MV.str))]) (fun _ => []) 0 (fun k => k ≤ 2) (fun k => 2 - k) 0 (Nat.zero_le _) (vm [] [(12, 2)]) ?_
  intro k hk2
  try dsimp only
  clear fr
  by_cases hk8 : k < 2
  ·obtain ⟨x, hx, hxl⟩ : ∃ x, idxL ([s, (runesBytes l).data.toList].map MV.str) 2 (k : Int) = some (.str x) ∧ x.length ≤ 400 := by
    have h7 : k < [s, (runesBytes l).data.toList].length := hk8
    exact ⟨[s, (runesBytes l).data.toList][k], index_at hk8 (by rw [List.getElem?_map, List.getElem?_eq_getElem h7]; rfl), hll _ (List.getElem_mem h7)⟩
   have fx := SomF.mk hx
   have hvis := quote_vis x
   have d1 := pquote_m fmt_c x (by omega)
   have hql := quote_len x
   have d2 := punq_m (quoteS x) (by omega)
   rw [unq_quote] at d2
   have hfl := fixf_len x
   have d3 := pquote_m fmt_c (fixS x).flatten (by omega)
   rw [quote_fix] at d3
   have d4 := runes_m (G := GX) x (by omega)
   have hval := valid_fix (s := x)
   clear hx hll
   generalize ([s, (runesBytes l).data.toList].map MV.str) = LL at *
   generalize (fixS x).flatten = T at *
   generalize quoteS x = q at *
   generalize (runesS x).1 = N at *
   generalize (runesS x).2 = V at *
   (iterate 4 ((all_goals (refine go1 ?_)); (all_goals (first | (refine g_call3 rfl (fun _ h => h) rfl (semR_of_semC (d1)) rfl rfl ?_) | (refine n_guard rfl rfl (fun h => ?_) rfl (fun h => ?_); all_goals ((try simp only [pl] at h); (try (exfalso; omega)))) | (refine c_cond rfl (fun h => ?_) (fun h => ?_); all_goals ((try simp only [pl] at h); (try (exfalso; omega)))) | skip))))
   refine c_loop Nat (fun i => [(8, .int .i64 i), (7, .str q), (6, .str x), (27, .int .i64 k), (26, .int .i64 (2 : Nat)), (25, .sl 2 LL)]) (fun _ => []) 0 (fun i => i ≤ q.length) (fun i => q.length - i) 0 (Nat.zero_le _) (vm [] []) ?_
   intro i hi
   try dsimp only
   by_cases hi' : i < q.length
   ·have hb := hvis (q.getD i 0) (by rw [List.getD_eq_getElem?_getD, List.getElem?_eq_getElem hi']; exact List.getElem_mem hi')
    have f1 : SomF (idxS q (i : Int)) (q.getD i 0) := ⟨idxS_at hi'⟩
    clear hvis
    generalize q.getD i 0 = b at *
    (iterate 5 ((all_goals (refine go1 ?_)); (all_goals (first | (refine n_guard rfl rfl (fun h => ?_) rfl (fun h => ?_); all_goals ((try simp only [pl] at h); (try (exfalso; omega)))) | (refine c_cond rfl (fun h => ?_) (fun h => ?_); all_goals ((try simp only [pl] at h); (try (exfalso; omega)))) | skip))))
    all_goals exact ⟨i + 1, by dsimp only; omega, by dsimp only; omega, (by dsimp only; exact (vm [] []))⟩
   ·clear hvis
    cases V with
    | true =>
     obtain rfl := hval rfl
     (iterate 12 ((all_goals (refine go1 ?_)); (all_goals (first | (refine g_call3 rfl (fun _ h => h) rfl (semR_of_semC (d2)) rfl rfl ?_) | (refine g_call3 rfl (fun _ h => h) rfl (semR_of_semC (d4)) rfl rfl ?_) | (refine g_call3 rfl (fun _ h => h) rfl (semR_of_semC (d3)) rfl rfl ?_) | (refine n_guard rfl rfl (fun h => ?_) rfl (fun h => ?_); all_goals ((try simp only [pl] at h); (try (simp at h; done)); (try (exfalso; omega)))) | (refine c_cond rfl (fun h => ?_) (fun h => ?_); all_goals ((try simp only [pl] at h); (try (simp at h; done)); (try (exfalso; omega)))) | skip))))
     all_goals exact ⟨k + 1, by dsimp only; omega, by dsimp only; omega, (by dsimp only; exact (vm [] []))⟩
    | false =>
     (iterate 12 ((all_goals (refine go1 ?_)); (all_goals (first | (refine g_call3 rfl (fun _ h => h) rfl (semR_of_semC (d2)) rfl rfl ?_) | (refine g_call3 rfl (fun _ h => h) rfl (semR_of_semC (d4)) rfl rfl ?_) | (refine g_call3 rfl (fun _ h => h) rfl (semR_of_semC (d3)) rfl rfl ?_) | (refine n_guard rfl rfl (fun h => ?_) rfl (fun h => ?_); all_goals ((try simp only [pl] at h); (try (simp at h; done)); (try (exfalso; omega)))) | (refine c_cond rfl (fun h => ?_) (fun h => ?_); all_goals ((try simp only [pl] at h); (try (simp at h; done)); (try (exfalso; omega)))) | skip))))
     all_goals exact ⟨k + 1, by dsimp only; omega, by dsimp only; omega, (by dsimp only; exact (vm [] []))⟩
  ·(iterate 4 ((all_goals (refine go1 ?_)); (all_goals (first | (refine g_call3 rfl (fun _ h => h) rfl (semR_of_semC (hK)) rfl rfl ?_) | (refine n_guard rfl rfl (fun h => ?_) rfl (fun h => ?_); all_goals ((try simp only [pl] at h); (try (exfalso; omega)))) | (refine c_cond rfl (fun h => ?_) (fun h => ?_); all_goals ((try simp only [pl] at h); (try (exfalso; omega)))) | skip))))
   all_goals (refine go0 ?_; rfl)
end
end Go.Proofs.YtbiaaogbohfimaaGreatDoor
