/- Parts of a proof, one behind the other: WA, WB, WC, WJ, WK, WD, WE, WL, WN, WO, WP, WQ, Z3, Z1, Shelf2, WR, WU, WV, WX, WY, WZ, Z2, Z4, Z5. -/
import Derived.Test.YtohikcplmbkmeaaGreatDoorW05
set_option maxRecDepth 20000
set_option maxHeartbeats 16000000
set_option linter.unusedVariables false
set_option linter.unusedSimpArgs false
namespace Go.Proofs.YtohikcplmbkmeaaGreatDoor
open Go.RowKit
section
variable {G : GS}
attribute [local irreducible] vOpsN vOpsG vOpsD vOpGD NextD vC SeqQ BlockQ
theorem totS_sum : ∀ (l : List AcS) (s : Nat), sumG (l.map (·.bal)) s = totS l s
 | [], _ => rfl
 | a :: r, s => by
  rw [List.map_cons, sumG, totS, totS_sum r]
theorem totS_col (l : List AcS) {c : Nat} (hc : U64 c) : sumG (c :: l.map (·.bal)) 0 = totS l c := by
 unfold U64 at hc
 rw [sumG, show addS 0 c = (c, true) by unfold addS; rw [if_pos (by omega), Nat.zero_add], if_pos rfl, totS_sum]
theorem u64s_pushB (f : Nat) (l : List AcS) {k : Nat} (hk : k < l.length) : u64s (f :: (l.take (k + 1)).map (·.bal)) = u64s (f :: (l.take k).map (·.bal)) ++ [.int .u64 (l[k].bal : Int)] := by
 rw [List.take_succ_eq_append_getElem hk, List.map_append, ← List.cons_append]
 unfold u64s
 rw [List.map_append]
 rfl
theorem less_eq : ∀ (x y : List UInt8), Op.bytesLess x y = decide (x < y)
 | [], [] => by simp [Op.bytesLess]
 | _ :: _, [] => by simp [Op.bytesLess]
 | [], _ :: _ => by simp [Op.bytesLess]
 | a :: x, b :: y => by
  rw [Op.bytesLess, less_eq x y]
  simp only [List.cons_lt_cons_iff]
  by_cases h1 : a < b <;> by_cases h2 : a = b <;> by_cases h3 : x < y <;> simp [h1, h2, h3]
theorem less_irr (x : List UInt8) : Op.bytesLess x x = false := by rw [less_eq]; simp [List.lt_irrefl]
theorem less_trans {x y z : List UInt8} (h : Op.bytesLess x y = true) (k : Op.bytesLess y z = true) : Op.bytesLess x z = true := by
 rw [less_eq, decide_eq_true_eq] at h k ⊢
 exact List.lt_trans h k
theorem less_asym {x y : List UInt8} (h : Op.bytesLess x y = true) : Op.bytesLess y x = false := by
 cases hk : Op.bytesLess y x with
 | false => rfl
 | true => have := less_trans h hk; rw [less_irr] at this; cases this
theorem less_tot {x y : List UInt8} (h : Op.bytesLess x y = false) (hne : x ≠ y) : Op.bytesLess y x = true := by
 rw [less_eq, decide_eq_false_iff_not, List.not_lt] at h
 rw [less_eq, decide_eq_true_eq]
 exact Std.lt_of_le_of_ne h (Ne.symm hne)
theorem ptotal_m (l : List AcS) (col : Nat) (hc : U64 col) (hl : l.length ≤ 100000) (hs : ∀ a ∈ l, U64 a.bal) : SemC Tryz.prog G 74 [.st [.sl l.length (l.map acM), .int .u64 col]] (.tup [.int .u64 (totS l col).1, .bool (totS l col).2]) := by
 have cs := psum_u (G := G) (col :: l.map (·.bal)) (by simp; omega) (by
  intro a ha
  rcases List.mem_cons.1 ha with rfl | ha
  ·exact hc
  ·obtain ⟨x, hx, rfl⟩ := List.mem_map.1 ha
   exact hs x hx)
 rw [totS_col l hc] at cs
 generalize totS l col = p at *
 obtain ⟨v, b⟩ := p
 dsimp only at cs ⊢
 have hzl : (col :: l.map (·.bal)).length = l.length + 1 := by simp
 refine scq seat Tryz.func74 27 ?_
 refine go1 ?_
 refine c_loop Nat (fun k => [(13, .int .i64 k), (12, .int .i64 l.length), (11, .sl l.length (l.map acM)), (4, .ms 0 1 0 (k + 1))]) (fun k => [(0, ⟨23, 1, true, 0, u64s (col :: (l.take k).map (·.bal))⟩)]) 1 (fun k => k ≤ l.length) (fun k => l.length - k) 0 (Nat.zero_le _) (by rw [List.take_zero]; exact (vm [(0, _)] [])) ?_
 intro k hk
 try dsimp only
 refine go1 ?_
 ((with_reducible apply c_cond); (case he => exact rfl); (all_goals intro h))
 ·have hk' : k < l.length := by have := of_decide_eq_true h; omega
  have hel := acs_at hk'
  have hsucc := u64s_pushB col l hk'
  have hll : (u64s (col :: (l.take k).map (·.bal))).length = k + 1 := by simp [u64s]; omega
  generalize l[k] = x at *
  obtain ⟨nm, bal, seq⟩ := x
  dsimp only at hsucc
  replace hel : idxL (l.map acM) l.length (k : Int) = some (.st [.str nm, .int .u64 bal, .int .u64 seq]) := hel
  have hel := SomF.mk hel
  refine go1 ?_
  ((with_reducible apply g_mem); (case hq => exact rfl); (case hv => exact rfl); (case he => (intro R hR; refine sms hR ?_; (refine And.intro (Nat.le_refl _) ?_; refine ⟨_, rfl, ?_⟩; refine And.intro ⟨hll, app_ok (by kernel_rfl) pf⟩ ?_; refine ⟨u64s (col :: (l.take (k + 1)).map (·.bal)), sv (by rw [hsucc]; rfl), k + 1 + 1, sv pf, ?_⟩); exact hR)); (case hd => exact rfl))
  refine go1 ?_
  exact ⟨k + 1, by show k + 1 ≤ l.length; omega, by show l.length - (k + 1) < l.length - k; omega, (by dsimp only; exact (vm [(0, _)] []))⟩
 ·have hk' : k = l.length := by have := of_decide_eq_false h; omega
  subst hk'
  rw [List.take_length]
  generalize col :: l.map (·.bal) = Z at *
  rw [← hzl]
  refine go1 ?_
  refine g_call1 rfl (fun _ h => h) rfl (semR_of_semC cs) rfl [(0, Z.length)] ⟨(by show Z.length ≤ (u64s Z).length; simp [u64s]), trivial⟩ lm ?_
  refine go1 ?_
  refine go0 ?_
  rfl
theorem isNaN_m (s : List UInt8) : SemC Tryz.prog G 126 [.str s] (.bool false) := by
 have e1 := EqF.mk (show (!(s == s)) = false by simp)
 refine scq seat Tryz.func126 6 ?_
 refine goe1 ?_
 refine go0 ?_
 try simp
 try rfl
def cmpN (a b : List UInt8) : Int := if Op.bytesLess a b = true then -1 else if (!(Op.bytesLess a b || a == b)) = true then 1 else 0
theorem compare_m (a b : List UInt8) : SemC Tryz.prog G 77 [.str a, .str b] (.int .i64 (cmpN a b)) := by
 have c1 := isNaN_m (G := G) a
 have c2 := isNaN_m (G := G) b
 unfold cmpN
 by_cases h1 : Op.bytesLess a b = true
 ·rw [if_pos h1]
  refine scq seat Tryz.func77 20 ?_
  refine go1 ?_
  refine g_call2 rfl (fun _ h => h) rfl (semR_of_semC (c1)) rfl lm ?_
  refine go1 ?_
  refine g_call2 rfl (fun _ h => h) rfl (semR_of_semC (c2)) rfl lm ?_
  refine go1 ?_
  ((with_reducible apply c_cond); (case he => exact rfl); (all_goals intro h))
  ·refine go1 ?_
   refine go0 ?_
   rfl
  ·exact absurd h1 (by rw [h]; simp)
 ·rw [if_neg h1]
  by_cases h2 : (!(Op.bytesLess a b || a == b)) = true
  ·rw [if_pos h2]
   refine scq seat Tryz.func77 20 ?_
   refine go1 ?_
   refine g_call2 rfl (fun _ h => h) rfl (semR_of_semC (c1)) rfl lm ?_
   refine go1 ?_
   refine g_call2 rfl (fun _ h => h) rfl (semR_of_semC (c2)) rfl lm ?_
   refine go1 ?_
   ((with_reducible apply c_cond); (case he => exact rfl); (all_goals intro h))
   ·exact absurd h h1
   refine go1 ?_
   ((with_reducible apply c_cond); (case he => exact rfl); (all_goals intro h))
   ·refine go1 ?_
    refine go0 ?_
    rfl
   ·exact absurd h2 (by rw [h]; simp)
  ·rw [if_neg h2]
   refine scq seat Tryz.func77 20 ?_
   refine go1 ?_
   refine g_call2 rfl (fun _ h => h) rfl (semR_of_semC (c1)) rfl lm ?_
   refine go1 ?_
   refine g_call2 rfl (fun _ h => h) rfl (semR_of_semC (c2)) rfl lm ?_
   refine go1 ?_
   ((with_reducible apply c_cond); (case he => exact rfl); (all_goals intro h))
   ·exact absurd h h1
   refine go1 ?_
   ((with_reducible apply c_cond); (case he => exact rfl); (all_goals intro h))
   ·exact absurd h h2
   ·refine go1 ?_
    refine go0 ?_
    rfl
theorem cmpN_lt (a b : List UInt8) : cmpN a b < 0 ↔ Op.bytesLess a b = true := by
 unfold cmpN
 split
 ·rename_i h; simp [h]
 ·rename_i h; split <;> simp [h]
theorem cmpN_0 {a b : List UInt8} (h : cmpN a b = 0) : a = b := by
 unfold cmpN at h
 split at h
 ·exact absurd h (by decide)
 ·rename_i h1
  split at h
  ·exact absurd h (by decide)
  ·rename_i h2
   simpa [h1] using h2
theorem cmpN_self (a : List UInt8) : cmpN a a = 0 := by
 unfold cmpN
 simp [less_irr]
theorem place1_m (a : AcS) (s : List UInt8) : SemC Tryz.prog G 195 [acM a, .str s] (.int .i64 (cmpN a.name s)) := by
 have c1 := compare_m (G := G) a.name s
 unfold acM
 refine scq seat Tryz.func195 9 ?_
 refine go1 ?_
 refine g_call2 rfl (fun _ h => h) rfl (semR_of_semC (c1)) rfl lm ?_
 refine go1 ?_
 refine go0 ?_
 rfl
theorem pvalidL_m (L : LgS) (hL : SmLg L) : SemC Tryz.prog G 85 [lgM L] (.int .i64 (validLS L)) := by
 obtain ⟨l, col⟩ := L
 obtain ⟨hl, hcol, hsm⟩ := hL
 dsimp only at hl hcol hsm
 have ct := ptotal_m (G := G) l col hcol (by omega) (fun a ha => (hsm a ha).2.1)
 generalize hQ : validLS ⟨l, col⟩ = Q
 unfold validLS at hQ
 dsimp only at hQ
 unfold lgM
 dsimp only
 by_cases hn : 256 < l.length
 ·rw [if_pos hn] at hQ
  subst hQ
  refine scq seat Tryz.func85 62 ?_
  refine go1 ?_
  (iterate 6 ((all_goals (refine go1 ?_)); (all_goals (first | ((first | ((with_reducible apply n_grd); (case hf => exact ⟨rfl, rfl, rfl⟩)) | ((with_reducible apply c_cond); (case he => exact rfl))); (all_goals intro h); (all_goals (try simp only [bx] at h)); (all_goals (try (exfalso; omega)))) | skip))))
  all_goals (refine go0 ?_)
  all_goals rfl
 rw [if_neg hn] at hQ
 generalize hv : vlG none l = v at *
 generalize totS l col = p at *
 obtain ⟨tot, ok⟩ := p
 dsimp only at ct hQ
 refine scq seat Tryz.func85 62 ?_
 refine go1 ?_
 (iterate 3 ((all_goals (refine go1 ?_)); (all_goals (first | ((first | ((with_reducible apply n_grd); (case hf => exact ⟨rfl, rfl, rfl⟩)) | ((with_reducible apply c_cond); (case he => exact rfl))); (all_goals intro h); (all_goals (try simp only [bx] at h)); (all_goals (try (exfalso; omega)))) | skip))))
 refine c_loop Nat (fun k => [(14, .int .i64 k), (13, .int .i64 l.length), (12, .sl l.length (l.map acM)), (1, .ptr 0 2 0 0 [])]) (fun _ => [(0, ⟨33, 2, false, 0, [.st [.sl l.length (l.map acM), .int .u64 col]]⟩)]) 1 (fun k => k ≤ l.length ∧ vlG (prevN l k) (l.drop k) = v) (fun k => l.length - k) 0 ⟨Nat.zero_le _, by rw [List.drop_zero]; exact hv⟩ (vm [(0, _)] []) ?_
 clear hv
 rintro k ⟨hk, hR⟩
 try dsimp only
 refine go1 ?_
 ((with_reducible apply c_cond); (case he => exact rfl); (all_goals intro h))
 ·have hk' : k < l.length := by have := of_decide_eq_true h; omega
  have hel := acs_at hk'
  have hpn : prevN l (k + 1) = some l[k].name := by show (l[k]?).map _ = _; simp [hk']
  have c1 := pname_m (G := G) l[k].name (by have := (hsm _ (List.getElem_mem hk')).1; omega)
  rw [List.drop_eq_getElem_cons hk', vlG_cons] at hR
  rw [← hpn] at hR
  have hnmk : prevN l (k + 1) = some l[k].name := hpn
  rw [hnmk] at hR
  generalize hak : l[k] = a at *
  obtain ⟨nm, bal, seq⟩ := a
  replace hel : idxL (l.map acM) l.length (k : Int) = some (.st [.str nm, .int .u64 bal, .int .u64 seq]) := hel
  have hel := SomF.mk hel
  dsimp only at hR c1
  by_cases hnm : nameS nm = false
  ·rw [hnm] at c1
   rw [if_pos hnm] at hR
   subst hR
   rw [if_pos (by omega)] at hQ
   subst hQ
   refine go1 ?_
   (iterate 6 ((all_goals (refine go1 ?_)); (all_goals (first | (refine g_call3 rfl (fun _ h => h) rfl (semR_of_semC (c1)) rfl rfl ?_) | ((first | ((with_reducible apply n_grd); (case hf => exact ⟨rfl, rfl, rfl⟩)) | ((with_reducible apply c_cond); (case he => exact rfl))); (all_goals intro h); (all_goals (try simp only [bx] at h)); (all_goals (try (exfalso; omega)))) | skip))))
   all_goals (refine go0 ?_)
   all_goals rfl
  rw [if_neg hnm] at hR
  have hnm : nameS nm = true := by simpa using hnm
  rw [hnm] at c1
  cases k with
  | zero =>
   dsimp only [prevN] at hR
   have hR : vlG (prevN l (0 + 1)) (l.drop (0 + 1)) = v := by rw [hnmk]; exact hR
   refine go1 ?_
   (iterate 3 ((all_goals (refine go1 ?_)); (all_goals (first | (refine g_call3 rfl (fun _ h => h) rfl (semR_of_semC (c1)) rfl rfl ?_) | ((first | ((with_reducible apply n_grd); (case hf => exact ⟨rfl, rfl, rfl⟩)) | ((with_reducible apply c_cond); (case he => exact rfl))); (all_goals intro h); (all_goals (try simp only [bx] at h)); (all_goals (try (exfalso; omega)))) | skip))))
   refine c_draw [(0, false), (1, false), (2, false), (3, false), (4, false), (5, false), (6, false), (7, false), (8, false), (9, false), (10, false), (11, false), (12, false), (13, false), (14, false)] ?_
   refine go1 ?_
   refine c_draw [(0, false), (1, false), (2, false), (3, false), (4, false), (5, false), (6, false), (7, false), (8, false), (9, false), (10, false), (11, false), (12, false), (13, false), (14, false)] ?_
   refine go1 ?_
   exact ⟨0 + 1, ⟨by show 0 + 1 ≤ l.length; omega, hR⟩, by show l.length - (0 + 1) < l.length - 0; omega, (by dsimp only; exact (vm [(0, _)] []))⟩
  | succ j =>
   have hj : j < l.length := by omega
   have hep := acs_at hj
   have hpj : prevN l (j + 1) = some l[j].name := by show (l[j]?).map _ = _; simp [hj]
   rw [hpj] at hR
   generalize l[j] = b at *
   obtain ⟨nb, bb, sb⟩ := b
   replace hep : idxL (l.map acM) l.length (((j + 1 : Nat) : Int) - 1) = some (.st [.str nb, .int .u64 bb, .int .u64 sb]) := by rw [show ((j + 1 : Nat) : Int) - 1 = (j : Int) by omega]; exact hep
   have hep := SomF.mk hep
   dsimp only at hR
   refine go1 ?_
   (iterate 3 ((all_goals (refine go1 ?_)); (all_goals (first | (refine g_call3 rfl (fun _ h => h) rfl (semR_of_semC (c1)) rfl rfl ?_) | ((first | ((with_reducible apply n_grd); (case hf => exact ⟨rfl, rfl, rfl⟩)) | ((with_reducible apply c_cond); (case he => exact rfl))); (all_goals intro h); (all_goals (try simp only [bx] at h)); (all_goals (try (exfalso; omega)))) | skip))))
   refine c_draw [(0, false), (1, false), (2, false), (3, false), (4, false), (5, false), (6, false), (7, false), (8, false), (9, false), (10, false), (11, false), (12, false), (13, false), (14, false)] ?_
   refine go1 ?_
   ((with_reducible apply d_guard); (case hs => exact rfl); (case hv => exact rfl); (case hd => exact rfl); (all_goals intro h))
   rotate_left
   ·exact absurd (of_decide_eq_false h) (by omega)
   by_cases hd : nb = nm
   ·subst hd
    rw [if_pos rfl] at hR
    subst hR
    rw [if_pos (by omega)] at hQ
    subst hQ
    refine goe1 ?_
    (iterate 4 ((all_goals (refine go1 ?_)); (all_goals (first | ((first | ((with_reducible apply n_grd); (case hf => exact ⟨rfl, rfl, rfl⟩)) | ((with_reducible apply c_cond); (case he => exact rfl))); (all_goals intro h); (all_goals (try simp only [bx] at h)); (all_goals (try (exfalso; omega)))) | skip))))
    all_goals (refine go0 ?_)
    all_goals rfl
   rw [if_neg hd] at hR
   refine go1 ?_
   ((with_reducible apply c_cond); (case he => exact rfl); (all_goals intro h))
   ·exact absurd (eq_of_beq h) hd
   refine go1 ?_
   refine c_draw [(0, false), (1, false), (2, false), (3, false), (4, false), (5, false), (6, false), (7, false), (8, false), (9, false), (10, false), (11, false), (12, false), (13, false), (14, false)] ?_
   refine go1 ?_
   ((with_reducible apply d_guard); (case hs => exact rfl); (case hv => exact rfl); (case hd => exact rfl); (all_goals intro h))
   rotate_left
   ·exact absurd (of_decide_eq_false h) (by omega)
   refine go1 ?_
   ((with_reducible apply c_cond); (case he => exact rfl); (all_goals intro h))
   ·rw [if_pos h] at hR
    subst hR
    rw [if_pos (by omega)] at hQ
    subst hQ
    refine go1 ?_
    refine go0 ?_
    rfl
   ·rw [if_neg (by rw [h]; simp)] at hR
    refine go1 ?_
    exact ⟨j + 1 + 1, ⟨by show j + 1 + 1 ≤ l.length; omega, by rw [hnmk]; exact hR⟩, by show l.length - (j + 1 + 1) < l.length - (j + 1); omega, (by dsimp only; exact (vm [(0, _)] []))⟩
 ·have hk' : k = l.length := by have := of_decide_eq_false h; omega
  subst hk'
  rw [List.drop_length, vlG_nil] at hR
  subst hR
  rw [if_neg (by simp)] at hQ
  cases ok with
  | true =>
   rw [if_neg (by simp)] at hQ
   subst hQ
   refine go1 ?_
   (iterate 6 ((all_goals (refine go1 ?_)); (all_goals (first | (refine g_call3 rfl (fun _ h => h) rfl (semR_of_semC (ct)) rfl rfl ?_) | ((first | ((with_reducible apply n_grd); (case hf => exact ⟨rfl, rfl, rfl⟩)) | ((with_reducible apply c_cond); (case he => exact rfl))); (all_goals intro h); (all_goals (try simp only [bx] at h)); (all_goals (try (exfalso; omega)))) | skip))))
   all_goals (refine go0 ?_)
   all_goals rfl
  | false =>
   rw [if_pos rfl] at hQ
   subst hQ
   refine go1 ?_
   (iterate 6 ((all_goals (refine go1 ?_)); (all_goals (first | (refine g_call3 rfl (fun _ h => h) rfl (semR_of_semC (ct)) rfl rfl ?_) | ((first | ((with_reducible apply n_grd); (case hf => exact ⟨rfl, rfl, rfl⟩)) | ((with_reducible apply c_cond); (case he => exact rfl))); (all_goals intro h); (all_goals (try simp only [bx] at h)); (all_goals (try (exfalso; omega)))) | skip))))
   all_goals (refine go0 ?_)
   all_goals rfl
end
section
def SrtA (l : List AcS) : Prop := l.Pairwise fun a b => Op.bytesLess a.name b.name = true
def posA (nm : List UInt8) (l : List AcS) : Nat := (l.takeWhile fun a => Op.bytesLess a.name nm).length
theorem posA_cons (nm : List UInt8) (a : AcS) (r : List AcS) : posA nm (a :: r) = if Op.bytesLess a.name nm = true then posA nm r + 1 else 0 := by
 unfold posA
 rw [List.takeWhile_cons]
 split <;> simp [*]
theorem posA_le (nm : List UInt8) : ∀ l, posA nm l ≤ l.length
 | [] => Nat.le_refl _
 | a :: r => by
  rw [posA_cons]
  have := posA_le nm r
  split
  ·simp; omega
  ·exact Nat.zero_le _
theorem posA_lt {nm : List UInt8} : ∀ {l : List AcS}, SrtA l → ∀ {k : Nat} (hk : k < l.length), Op.bytesLess l[k].name nm = true ↔ k < posA nm l
 | [], _, _, hk => absurd hk (Nat.not_lt_zero _)
 | a :: r, hs, k, hk => by
  have hs' := List.pairwise_cons.1 hs
  rw [posA_cons]
  cases k with
  | zero =>
   rw [List.getElem_cons_zero]
   split
   ·rename_i h; simp [h]
   ·rename_i h; simp [h]
  | succ k =>
   rw [List.getElem_cons_succ]
   have hk' : k < r.length := by simpa using hk
   have ih := posA_lt (nm := nm) hs'.2 hk'
   split
   ·rw [ih]; omega
   ·rename_i h
    refine ⟨fun h2 => absurd (less_trans (hs'.1 _ (List.getElem_mem hk')) h2) h, fun h2 => absurd h2 (Nat.not_lt_zero _)⟩
theorem getS_pos {nm : List UInt8} : ∀ {l : List AcS}, SrtA l → ((getS l nm).2 = true ∧ l[posA nm l]? = some (getS l nm).1 ∧ (getS l nm).1.name = nm) ∨ ((getS l nm).2 = false ∧ ∀ a ∈ l, a.name ≠ nm)
 | [], _ => .inr ⟨rfl, by simp⟩
 | a :: r, hs => by
  have hs' := List.pairwise_cons.1 hs
  by_cases h : a.name = nm
  ·have e : getS (a :: r) nm = (a, true) := by unfold getS; rw [List.find?_cons_of_pos (by simp [h])]
   rw [e, posA_cons, h, less_irr]
   exact .inl ⟨rfl, rfl, by first | rfl | exact h⟩
  ·have e : getS (a :: r) nm = getS r nm := by unfold getS; rw [List.find?_cons_of_neg (by simp [h])]
   rw [e, posA_cons]
   rcases getS_pos (nm := nm) hs'.2 with ⟨h1, h2, h3⟩ | ⟨h1, h2⟩
   ·have hlt : Op.bytesLess a.name nm = true := by
     have := hs'.1 _ (List.mem_of_getElem? h2)
     rwa [h3] at this
    rw [if_pos hlt]
    exact .inl ⟨h1, by rw [List.getElem?_cons_succ]; exact h2, h3⟩
   ·exact .inr ⟨h1, fun x hx => (List.mem_cons.1 hx).elim (fun e => e ▸ h) (h2 x)⟩
theorem has_pos {nm : List UInt8} {l : List AcS} (hs : SrtA l) (hk : posA nm l < l.length) : (cmpN l[posA nm l].name nm == 0) = (getS l nm).2 := by
 rcases getS_pos (nm := nm) hs with ⟨h1, h2, h3⟩ | ⟨h1, h2⟩
 ·rw [List.getElem?_eq_getElem hk] at h2
  simp only [Option.some.injEq] at h2
  rw [h2, h3, cmpN_self, h1]
  rfl
 ·rw [h1, beq_eq_false_iff_ne]
  exact fun h => h2 _ (List.getElem_mem hk) (cmpN_0 h)
theorem has_end {nm : List UInt8} {l : List AcS} (hs : SrtA l) (hk : ¬ posA nm l < l.length) : (getS l nm).2 = false := by
 rcases getS_pos (nm := nm) hs with ⟨h1, h2, h3⟩ | ⟨h1, h2⟩
 ·rw [List.getElem?_eq_none (Nat.le_of_not_lt hk)] at h2; cases h2
 ·exact h1
theorem findS_no {nm : List UInt8} : ∀ {l : List AcS} {i : Nat}, (∀ a ∈ l, a.name ≠ nm) → findS nm l i = -1
 | [], _, _ => rfl
 | a :: r, i, h => by rw [findS, if_neg (h a (List.mem_cons_self ..))]; exact findS_no fun x hx => h x (List.mem_cons_of_mem _ hx)
theorem findS_pos {nm : List UInt8} : ∀ {l : List AcS} {i : Nat}, SrtA l → (getS l nm).2 = true → findS nm l i = ((i + posA nm l : Nat) : Int)
 | [], _, _, h => by cases h
 | a :: r, i, hs, h => by
  have hs' := List.pairwise_cons.1 hs
  rw [findS, posA_cons]
  by_cases e : a.name = nm
  ·rw [if_pos e, e, less_irr]; rfl
  ·have e2 : getS (a :: r) nm = getS r nm := by unfold getS; rw [List.find?_cons_of_neg (by simp [e])]
   rw [e2] at h
   have hlt : Op.bytesLess a.name nm = true := by
    rcases getS_pos (nm := nm) hs'.2 with ⟨_, h2, h3⟩ | ⟨h1, _⟩
    ·have := hs'.1 _ (List.mem_of_getElem? h2)
     rwa [h3] at this
    ·rw [h1] at h; cases h
   rw [if_neg e, if_pos hlt, findS_pos (nm := nm) hs'.2 h]
   congr 1
   omega
theorem putS_set {a : AcS} {l : List AcS} (hs : SrtA l) (h : (getS l a.name).2 = true) : putS a l = l.set (posA a.name l) a := by
 unfold putS
 rw [findS_pos hs h, Nat.zero_add, if_pos (by omega)]
 rfl
theorem putS_ins {a : AcS} {l : List AcS} (hs : SrtA l) (h : (getS l a.name).2 = false) : putS a l = l.take (posA a.name l) ++ a :: l.drop (posA a.name l) := by
 unfold putS
 have hno : ∀ x ∈ l, x.name ≠ a.name := by
  rcases getS_pos (nm := a.name) hs with ⟨h1, _, _⟩ | ⟨_, h2⟩
  ·rw [h1] at h; cases h
  ·exact h2
 rw [findS_no hno, if_neg (by decide)]
 refine insA_at a l _ (posA_le _ _) (fun j hj hlt => (posA_lt hs hj).2 hlt) (fun hk => ?_)
 cases hb : Op.bytesLess l[posA a.name l].name a.name with
 | false => rfl
 | true => exact absurd ((posA_lt hs hk).1 hb) (Nat.lt_irrefl _)
theorem srt_set {a : AcS} : ∀ {l : List AcS}, SrtA l → (getS l a.name).2 = true → SrtA (l.set (posA a.name l) a)
 | [], _, h => by cases h
 | b :: r, hs, h => by
  have hs' := List.pairwise_cons.1 hs
  rw [posA_cons]
  by_cases e : b.name = a.name
  ·rw [e, less_irr, if_neg (by simp), List.set_cons_zero]
   exact List.pairwise_cons.2 ⟨fun x hx => by rw [← e]; exact hs'.1 x hx, hs'.2⟩
  ·have e2 : getS (b :: r) a.name = getS r a.name := by unfold getS; rw [List.find?_cons_of_neg (by simp [e])]
   rw [e2] at h
   have hlt : Op.bytesLess b.name a.name = true := by
    rcases getS_pos (nm := a.name) hs'.2 with ⟨_, h2, h3⟩ | ⟨h1, _⟩
    ·have := hs'.1 _ (List.mem_of_getElem? h2)
     rwa [h3] at this
    ·rw [h1] at h; cases h
   rw [if_pos hlt, List.set_cons_succ]
   refine List.pairwise_cons.2 ⟨fun x hx => ?_, srt_set hs'.2 h⟩
   rcases List.mem_or_eq_of_mem_set hx with hx | rfl
   ·exact hs'.1 x hx
   ·exact hlt
theorem srt_insA {a : AcS} : ∀ {l : List AcS}, SrtA l → (∀ x ∈ l, x.name ≠ a.name) → SrtA (insA a l)
 | [], _, _ => List.pairwise_singleton _ _
 | b :: r, hs, h => by
  have hs' := List.pairwise_cons.1 hs
  rw [insA]
  split
  ·rename_i hlt
   refine List.pairwise_cons.2 ⟨fun x hx => ?_, srt_insA hs'.2 fun x hx => h x (List.mem_cons_of_mem _ hx)⟩
   rcases mem_insA hx with rfl | hx
   ·exact hlt
   ·exact hs'.1 x hx
  ·rename_i hlt
   have hab : Op.bytesLess a.name b.name = true := less_tot (by simpa using hlt) (h b (List.mem_cons_self ..))
   refine List.pairwise_cons.2 ⟨fun x hx => ?_, hs⟩
   rcases List.mem_cons.1 hx with rfl | hx
   ·exact hab
   ·exact less_trans hab (hs'.1 x hx)
theorem srt_put {a : AcS} {l : List AcS} (hs : SrtA l) : SrtA (putS a l) := by
 cases h : (getS l a.name).2 with
 | true => rw [putS_set hs h]; exact srt_set hs h
 | false =>
  have hno : ∀ x ∈ l, x.name ≠ a.name := by
   rcases getS_pos (nm := a.name) hs with ⟨h1, _, _⟩ | ⟨_, h2⟩
   ·rw [h1] at h; cases h
   ·exact h2
  unfold putS
  rw [findS_no hno, if_neg (by decide)]
  exact srt_insA hs hno
theorem vl_srt : ∀ {l : List AcS} {q : List UInt8}, vlG (some q) l = 0 → (∀ a ∈ l, Op.bytesLess q a.name = true) ∧ SrtA l
 | [], _, _ => ⟨by simp, List.Pairwise.nil⟩
 | a :: r, q, h => by
  rw [vlG_cons] at h
  dsimp only at h
  split at h
  ·exact absurd h (by decide)
  ·split at h
   ·exact absurd h (by decide)
   ·rename_i hne
    split at h
    ·exact absurd h (by decide)
    ·rename_i hn2
     have hqa : Op.bytesLess q a.name = true := by
      cases hb : Op.bytesLess q a.name with
      | true => rfl
      | false => rw [hb] at hn2; exact absurd (by simpa using hn2) hne
     obtain ⟨h1, h2⟩ := vl_srt h
     refine ⟨fun x hx => ?_, List.pairwise_cons.2 ⟨h1, h2⟩⟩
     rcases List.mem_cons.1 hx with rfl | hx
     ·exact hqa
     ·exact less_trans hqa (h1 x hx)
theorem valid_srt {l : LgS} (h : validLS l = 0) : SrtA l.acs ∧ l.acs.length ≤ 256 := by
 unfold validLS at h
 split at h
 ·exact absurd h (by decide)
 ·rename_i hn
  split at h
  ·rename_i h1; exact absurd h h1
  ·rename_i h1
   have h1 := Decidable.not_not.1 h1
   refine ⟨?_, by omega⟩
   generalize l.acs = z at h1
   cases z with
   | nil => exact List.Pairwise.nil
   | cons a r =>
    rw [vlG_cons] at h1
    dsimp only at h1
    split at h1
    ·exact absurd h1 (by decide)
    ·exact List.pairwise_cons.2 (vl_srt h1)
end
section
variable {G : GS}
attribute [local irreducible] vOpsN vOpsG vOpsD vOpGD NextD vC SeqQ BlockQ
theorem head_acs (l : List AcS) : headSize (l.map acM) 3 = true := by
 cases l with
 | nil => rfl
 | cons a r => rfl
theorem clone_acs (l : List AcS) (hl : l.length < 536870912) : SemR Tryz.prog G 78 [.sl l.length (l.map acM)] [] 0 (.sl l.length (l.map acM)) [] 0 := by
 refine srq seat Tryz.func78 8 ?_
 refine go1 ?_
 ((with_reducible apply g_nil); (case hq => exact rfl); (case hd => exact rfl); intro b hb)
 cases b with
 | true =>
  have h0 := hb rfl
  have h1 : l = [] := List.length_eq_zero_iff.1 h0
  subst h1
  refine go1 ?_
  refine go0 ?_
  refine ⟨[_], [], [], rfl, rfl, trivial, rfl, ⟨?_, trivial⟩, ?_⟩
  ·exact .inr ⟨rfl, rfl⟩
  ·exact mm
 | false =>
  refine go1 ?_
  ((with_reducible apply g_mem); (case hq => exact rfl); (case hv => exact rfl); (case he => (intro R hR; refine sms hR ?_; refine And.intro ((head_acs l)) ?_; refine And.intro ⟨rfl, app_ok (by kernel_rfl) pf⟩ ?_; refine ⟨l.map acM, sv (by show [] ++ l.map acM = _; rw [List.nil_append]), l.length, sv pf, ?_⟩; exact hR)); (case hd => exact rfl))
  refine go1 ?_
  refine ⟨[_], [], [(5, l.length)], rfl, rfl, ?_, rfl, ⟨?_, trivial⟩, ?_⟩
  ·exact ⟨by show l.length ≤ (l.map acM).length; simp, trivial⟩
  ·exact .inr ⟨rfl, rfl, rfl, Nat.le_of_eq (Nat.zero_add _), cut_all acM l⟩
  ·exact mm
theorem ownL_r (l : LgS) (hl : l.acs.length < 536870912) : SemR Tryz.prog G 46 [lgM l] [] 0 (lgM l) [] 0 := by
 obtain ⟨acs, col⟩ := l
 have c1 := clone_acs (G := G) acs hl
 unfold lgM
 dsimp only at hl ⊢
 refine srq seat Tryz.func46 8 ?_
 refine go1 ?_
 refine g_call2 rfl (fun _ h => h) rfl (c1) rfl lm ?_
 refine go1 ?_
 refine go0 ?_
 refine ⟨[_], [], [], rfl, rfl, trivial, rfl, ⟨?_, trivial⟩, ?_⟩
 ·exact .inr ⟨_, rfl, lm⟩
 ·exact mm
def rowA (l : List AcS) : MB := ⟨91, 3, true, 0, l.map acM⟩
theorem clone_row (l : List AcS) (hl : l.length < 536870912) : SemR Tryz.prog G 78 [.sl l.length (l.map acM)] [] 0 (.ms 0 3 0 l.length) [(0, rowA l)] 1 := by
 unfold rowA
 refine srq seat Tryz.func78 8 ?_
 refine go1 ?_
 ((with_reducible apply g_nil); (case hq => exact rfl); (case hd => exact rfl); intro b hb)
 cases b with
 | true =>
  have h0 := hb rfl
  have h1 : l = [] := List.length_eq_zero_iff.1 h0
  subst h1
  refine go1 ?_
  refine go0 ?_
  refine ⟨[_], [], [], rfl, rfl, trivial, rfl, ⟨?_, trivial⟩, ?_⟩
  ·exact rv
  ·exact mm
 | false =>
  refine go1 ?_
  ((with_reducible apply g_mem); (case hq => exact rfl); (case hv => exact rfl); (case he => (intro R hR; refine sms hR ?_; refine And.intro ((head_acs l)) ?_; refine And.intro ⟨rfl, app_ok (by kernel_rfl) pf⟩ ?_; refine ⟨l.map acM, sv (by show [] ++ l.map acM = _; rw [List.nil_append]), l.length, sv pf, ?_⟩; exact hR)); (case hd => exact rfl))
  refine go1 ?_
  refine ⟨[_], [(0, 5)], [], rfl, rfl, trivial, rfl, ⟨?_, trivial⟩, ?_⟩
  ·exact rv
  ·exact mm
theorem ownL_row (l : LgS) (hl : l.acs.length < 536870912) : SemR Tryz.prog G 46 [lgM l] [] 0 (.st [.ms 0 3 0 l.acs.length, .int .u64 l.col]) [(0, rowA l.acs)] 1 := by
 obtain ⟨acs, col⟩ := l
 have c1 := clone_row (G := G) acs hl
 unfold lgM
 unfold rowA at c1 ⊢
 dsimp only at hl c1 ⊢
 refine srq seat Tryz.func46 8 ?_
 refine go1 ?_
 refine g_callR1 rfl (fun _ h => h) rfl (c1) [] [] ⟨rfl, trivial, rfl, lm, mm⟩ rfl rfl ?_
 refine go1 ?_
 refine go0 ?_
 refine ⟨[_], [(0, 4)], [], rfl, rfl, trivial, rfl, ⟨?_, trivial⟩, ?_⟩
 ·exact .inr ⟨_, rfl, lm⟩
 ·exact mm
theorem shrD1 (m : Nat) : ((m : Int).fdiv (2 ^ (min (1 : Int).toNat IntKind.u64.bits))) = ((m / 2 : Nat) : Int) := by
 rw [show (2 : Int) ^ (min (1 : Int).toNat IntKind.u64.bits) = 2 by rfl, Int.fdiv_eq_ediv_of_nonneg _ (by decide)]
 omega
theorem acAt {l : List AcS} {k : Nat} (h : k < l.length) : nthM (l.map acM) (0 + k) = some (acM l[k]) := by rw [nthM_eq, Nat.zero_add, List.getElem?_map, List.getElem?_eq_getElem h]; rfl
theorem search_m (l : List AcS) (nm : List UInt8) (hl : l.length ≤ 100000) (hs : SrtA l) : SemC Tryz.prog G 194 [.sl l.length (l.map acM), .str nm, .fn 195 []] (.tup [.int .i64 (posA nm l), .bool (getS l nm).2]) := by
 refine scq seat Tryz.func194 49 ?_
 refine go1 ?_
 refine c_loop (Nat × Nat) (fun x => [(9, .int .i64 x.1), (10, .int .i64 x.2), (8, .int .i64 l.length), (2, .fn 195 []), (1, .str nm), (0, .sl l.length (l.map acM))]) (fun _ => []) 0 (fun x => x.1 ≤ posA nm l ∧ posA nm l ≤ x.2 ∧ x.2 ≤ l.length) (fun x => x.2 - x.1) (0, l.length) ⟨Nat.zero_le _, posA_le _ _, Nat.le_refl _⟩ (vm [] []) ?_
 rintro ⟨i, j⟩ ⟨h1, h2, h3⟩
 try dsimp only
 dsimp only at h1 h2 h3
 refine go1 ?_
 ((with_reducible apply c_cond); (case he => exact rfl); (all_goals intro h))
 ·have hij : i < j := by have := of_decide_eq_true h; omega
  have k2 := EqF.mk (show (((i : Int) + (j : Int)).fdiv (2 ^ (min (1 : Int).toNat IntKind.u64.bits))) = (((i + j) / 2 : Nat) : Int) by rw [← Int.natCast_add]; exact shrD1 (i + j))
  have k4 := EqF.mk (show IntKind.i64.wrap (((i + j) / 2 : Nat) : Int) = (((i + j) / 2 : Nat) : Int) by rw [IntKind.wrap_i64]; omega)
  have hm : (i + j) / 2 < l.length := by omega
  have hmi : i ≤ (i + j) / 2 ∧ (i + j) / 2 < j := by omega
  have hel := acs_at hm
  have c1 := place1_m (G := G) l[(i + j) / 2] nm
  have hpl := posA_lt hs hm (nm := nm)
  have hcl := cmpN_lt l[(i + j) / 2].name nm
  generalize cmpN l[(i + j) / 2].name nm = cv at *
  generalize l[(i + j) / 2] = a at *
  obtain ⟨an, ab, aq⟩ := a
  unfold acM at c1
  dsimp only at c1 hpl hcl
  replace hel : idxL (l.map acM) l.length (((i + j) / 2 : Nat) : Int) = some (.st [.str an, .int .u64 ab, .int .u64 aq]) := hel
  have hel := SomF.mk hel
  refine go1 ?_
  refine g_call2 rfl (fun _ h => h) rfl (semR_of_semC (c1)) rfl lm ?_
  refine go1 ?_
  ((with_reducible apply c_cond); (case he => exact rfl); (all_goals intro h))
  ·have hlt : (i + j) / 2 < posA nm l := hpl.1 (hcl.1 (of_decide_eq_true h))
   refine go1 ?_
   exact ⟨((i + j) / 2 + 1, j), ⟨by dsimp only; omega, h2, h3⟩, by dsimp only; omega, (by dsimp only; exact (vm [] []))⟩
  ·have hlt : ¬ (i + j) / 2 < posA nm l := fun hh => of_decide_eq_false h (hcl.2 (hpl.2 hh))
   refine go1 ?_
   exact ⟨(i, (i + j) / 2), ⟨h1, by dsimp only; omega, by dsimp only; omega⟩, by dsimp only; omega, (by dsimp only; exact (vm [] []))⟩
 ·have hij : ¬ i < j := by have := of_decide_eq_false h; omega
  have hi : i = posA nm l := by omega
  subst hi
  clear h1 h2 h3 hij
  by_cases hp : posA nm l < l.length
  ·have hel := acs_at hp
   have c1 := place1_m (G := G) l[posA nm l] nm
   have hhas := has_pos hs hp
   rw [← hhas]
   generalize cmpN l[posA nm l].name nm = cv at *
   generalize l[posA nm l] = a at *
   obtain ⟨an, ab, aq⟩ := a
   unfold acM at c1
   dsimp only at c1
   replace hel : idxL (l.map acM) l.length ((posA nm l : Nat) : Int) = some (.st [.str an, .int .u64 ab, .int .u64 aq]) := hel
   generalize posA nm l = pp at *
   have hel := SomF.mk hel
   refine go1 ?_
   rw [show decide ((pp : Int) < (l.length : Int)) = true from decide_eq_true (by omega)]
   refine go1 ?_
   refine g_call2 rfl (fun _ h => h) rfl (semR_of_semC (c1)) rfl lm ?_
   refine go1 ?_
   refine go0 ?_
   rfl
  ·have hhas := has_end hs hp
   rw [hhas]
   generalize posA nm l = pp at *
   refine go1 ?_
   rw [show decide ((pp : Int) < (l.length : Int)) = false from decide_eq_false (by omega)]
   refine go1 ?_
   refine go0 ?_
   rfl
theorem aplace_m (l : LgS) (nm : List UInt8) (hl : l.acs.length ≤ 100000) (hs : SrtA l.acs) : SemC Tryz.prog G 133 [lgM l, .str nm] (.tup [.int .i64 (posA nm l.acs), .bool (getS l.acs nm).2]) := by
 obtain ⟨acs, col⟩ := l
 dsimp only at hl hs ⊢
 have c1 := search_m (G := G) acs nm hl hs
 generalize (getS acs nm).2 = hh at *
 generalize posA nm acs = pp at *
 unfold lgM
 dsimp only
 refine scq seat Tryz.func133 12 ?_
 refine go1 ?_
 refine g_call2 rfl (fun _ h => h) rfl (semR_of_semC (c1)) rfl lm ?_
 refine go1 ?_
 refine go0 ?_
 rfl
theorem search_r (l : List AcS) (nm : List UInt8) (hl : l.length ≤ 100000) (hs : SrtA l) : SemR Tryz.prog G 194 [.ms 0 3 0 l.length, .str nm, .fn 195 []] [(0, rowA l)] 1 (.tup [.int .i64 (posA nm l), .bool (getS l nm).2]) [(0, rowA l)] 1 := by
 unfold rowA
 refine srq seat Tryz.func194 49 ?_
 refine go1 ?_
 refine c_loop (Nat × Nat) (fun x => [(9, .int .i64 x.1), (10, .int .i64 x.2), (8, .int .i64 l.length), (2, .fn 195 []), (1, .str nm), (0, .ms 0 3 0 l.length)]) (fun _ => [(0, ⟨91, 3, true, 0, l.map acM⟩)]) 1 (fun x => x.1 ≤ posA nm l ∧ posA nm l ≤ x.2 ∧ x.2 ≤ l.length) (fun x => x.2 - x.1) (0, l.length) ⟨Nat.zero_le _, posA_le _ _, Nat.le_refl _⟩ (vm [] []) ?_
 rintro ⟨i, j⟩ ⟨h1, h2, h3⟩
 try dsimp only
 dsimp only at h1 h2 h3
 refine go1 ?_
 ((with_reducible apply c_cond); (case he => exact rfl); (all_goals intro h))
 ·have hij : i < j := by have := of_decide_eq_true h; omega
  have k2 := EqF.mk (show (((i : Int) + (j : Int)).fdiv (2 ^ (min (1 : Int).toNat IntKind.u64.bits))) = (((i + j) / 2 : Nat) : Int) by rw [← Int.natCast_add]; exact shrD1 (i + j))
  have k4 := EqF.mk (show IntKind.i64.wrap (((i + j) / 2 : Nat) : Int) = (((i + j) / 2 : Nat) : Int) by rw [IntKind.wrap_i64]; omega)
  have hm : (i + j) / 2 < l.length := by omega
  have hmi : i ≤ (i + j) / 2 ∧ (i + j) / 2 < j := by omega
  have hel := acAt hm
  have c1 := place1_m (G := G) l[(i + j) / 2] nm
  have hpl := posA_lt hs hm (nm := nm)
  have hcl := cmpN_lt l[(i + j) / 2].name nm
  generalize cmpN l[(i + j) / 2].name nm = cv at *
  generalize l[(i + j) / 2] = a at *
  obtain ⟨an, ab, aq⟩ := a
  unfold acM at c1
  dsimp only at c1 hpl hcl
  replace hel : nthM (l.map acM) (0 + (i + j) / 2) = some (.st [.str an, .int .u64 ab, .int .u64 aq]) := hel
  have hel := SomF.mk hel
  refine go1 ?_
  refine g_call2 rfl (fun _ h => h) rfl (semR_of_semC (c1)) rfl lm ?_
  refine go1 ?_
  ((with_reducible apply c_cond); (case he => exact rfl); (all_goals intro h))
  ·have hlt : (i + j) / 2 < posA nm l := hpl.1 (hcl.1 (of_decide_eq_true h))
   refine go1 ?_
   exact ⟨((i + j) / 2 + 1, j), ⟨by dsimp only; omega, h2, h3⟩, by dsimp only; omega, (by dsimp only; exact (vm [] []))⟩
  ·have hlt : ¬ (i + j) / 2 < posA nm l := fun hh => of_decide_eq_false h (hcl.2 (hpl.2 hh))
   refine go1 ?_
   exact ⟨(i, (i + j) / 2), ⟨h1, by dsimp only; omega, by dsimp only; omega⟩, by dsimp only; omega, (by dsimp only; exact (vm [] []))⟩
 ·have hij : ¬ i < j := by have := of_decide_eq_false h; omega
  have hi : i = posA nm l := by omega
  subst hi
  clear h1 h2 h3 hij
  by_cases hp : posA nm l < l.length
  ·have hel := acAt hp
   have c1 := place1_m (G := G) l[posA nm l] nm
   have hhas := has_pos hs hp
   rw [← hhas]
   generalize cmpN l[posA nm l].name nm = cv at *
   generalize l[posA nm l] = a at *
   obtain ⟨an, ab, aq⟩ := a
   unfold acM at c1
   dsimp only at c1
   replace hel : nthM (l.map acM) (0 + posA nm l) = some (.st [.str an, .int .u64 ab, .int .u64 aq]) := hel
   generalize posA nm l = pp at *
   have hel := SomF.mk hel
   refine go1 ?_
   rw [show decide ((pp : Int) < (l.length : Int)) = true from decide_eq_true (by omega)]
   refine go1 ?_
   refine g_call2 rfl (fun _ h => h) rfl (semR_of_semC (c1)) rfl lm ?_
   refine go1 ?_
   refine go0 ?_
   refine ⟨[_, _], [], [], rfl, rfl, trivial, rfl, ⟨?_, ?_, trivial⟩, ?_⟩
   ·exact rv
   ·exact rv
   ·exact mm
  ·have hhas := has_end hs hp
   rw [hhas]
   generalize posA nm l = pp at *
   refine go1 ?_
   rw [show decide ((pp : Int) < (l.length : Int)) = false from decide_eq_false (by omega)]
   refine go1 ?_
   refine go0 ?_
   refine ⟨[_, _], [], [], rfl, rfl, trivial, rfl, ⟨?_, ?_, trivial⟩, ?_⟩
   ·exact rv
   ·exact rv
   ·exact mm
theorem aplace_r (l : List AcS) (col : Int) (nm : List UInt8) (hl : l.length ≤ 100000) (hs : SrtA l) : SemR Tryz.prog G 133 [.st [.ms 0 3 0 l.length, .int .u64 col], .str nm] [(0, rowA l)] 1 (.tup [.int .i64 (posA nm l), .bool (getS l nm).2]) [(0, rowA l)] 1 := by
 have c1 := search_r (G := G) l nm hl hs
 generalize (getS l nm).2 = hh at *
 generalize posA nm l = pp at *
 unfold rowA at *
 refine srq seat Tryz.func133 12 ?_
 refine go1 ?_
 refine g_callR1 rfl (fun _ h => h) rfl (c1) [(0, 0)] [] ⟨rfl, trivial, rfl, lm, mm⟩ rfl rfl ?_
 refine go1 ?_
 refine ⟨[_, _], [], [], rfl, rfl, trivial, rfl, ⟨?_, ?_, trivial⟩, ?_⟩
 ·exact rv
 ·exact rv
 ·exact mm
end
section
open Go.RowKit Go.Lib
variable {G : GS}
attribute [local irreducible] vOpsN vOpsG vOpsD vOpGD NextD vC SeqQ BlockQ
theorem pair_ins {α β : Type} {R : α → β → Prop} {x0 : α} {p0 : β} (h0 : R x0 p0) : ∀ (i : Nat) {L : List α} {Q : List β}, Q.length = L.length → (∀ (j : Nat) x p, L[j]? = some x → Q[j]? = some p → R x p) → ∀ (j : Nat) x p, (L.take i ++ x0 :: L.drop i)[j]? = some x → (Q.take i ++ p0 :: Q.drop i)[j]? = some p → R x p
 | 0, L, Q, hl, h, j, x, p, hx, hp => by
  cases j with
  | zero => simp at hx hp; subst hx; subst hp; exact h0
  | succ j => exact h j x p (by simpa using hx) (by simpa using hp)
 | i + 1, [], [], hl, h, j, x, p, hx, hp => by
  cases j with
  | zero => simp at hx hp; subst hx; subst hp; exact h0
  | succ j => simp at hx
 | i + 1, [], q :: Q, hl, _, _, _, _, _, _ => by simp at hl
 | i + 1, y :: L, [], hl, _, _, _, _, _, _ => by simp at hl
 | i + 1, y :: L, q :: Q, hl, h, j, x, p, hx, hp => by
  cases j with
  | zero => exact h 0 x p (by simpa using hx) (by simpa using hp)
  | succ j => exact pair_ins h0 i (by simpa using hl) (fun k u v hu hv => h (k + 1) u v (by simpa using hu) (by simpa using hv)) j x p (by simpa using hx) (by simpa using hp)
theorem flat3_len {Q : List (List Value)} : (∀ p ∈ Q, p.length = 3) → Q.flatten.length = Q.length * 3 := by
 induction Q with
 | nil => intro _; rfl
 | cons q Q ih =>
  intro h
  rw [List.flatten_cons, List.length_append, ih fun p hp => h p (List.mem_cons_of_mem _ hp), h q (List.mem_cons_self ..), List.length_cons]
  omega
theorem flat3_take : ∀ (i : Nat) {Q : List (List Value)}, (∀ p ∈ Q, p.length = 3) → (Q.take i).flatten = Q.flatten.take (i * 3) ∧ (Q.drop i).flatten = Q.flatten.drop (i * 3)
 | 0, Q, _ => by simp
 | i + 1, [], _ => by simp
 | i + 1, q :: Q, h => by
  have hq := h q (List.mem_cons_self ..)
  obtain ⟨h1, h2⟩ := flat3_take i (Q := Q) fun p hp => h p (List.mem_cons_of_mem _ hp)
  rw [List.take_succ_cons, List.drop_succ_cons, List.flatten_cons, List.flatten_cons, h1, h2, show (i + 1) * 3 = q.length + i * 3 by omega, List.take_length_add_append, List.drop_length_add_append]
  exact ⟨rfl, rfl⟩
theorem flat3_one {w : World} {P : Prot} {adr : Adr} {L : List MV} {Q : List (List Value)} (hl : Q.length = L.length) (h : ∀ (j : Nat) x p, L[j]? = some x → Q[j]? = some p → Rep w P adr x p) : ∀ v ∈ Q.flatten, v.oneCell' = true := by
 intro v hv
 obtain ⟨p, hp, hvp⟩ := List.mem_flatten.1 hv
 obtain ⟨j, hj⟩ := List.getElem?_of_mem hp
 have hjl := (List.getElem?_eq_some_iff.1 hj).1
 exact (h j _ p (List.getElem?_eq_getElem (by omega)) hj).one v hvp
theorem below_row {B g : Nat} {w0 w : World} (hb : Below B w0 w) (hBg : B ≤ g) (cs : Array Value) : Below B w0 (w.setRow g cs) :=
 ⟨hb.os, hb.tape, hb.output, by rw [setRow_size]; exact hb.size, fun k hk => (setRow_other _ _ _ _ (by omega)).trans (hb.block k hk)⟩
theorem since_row {ex : Fp} {w : World} {g : Nat} (c : Array Value) (hx : ex g) : Since ex w (w.setRow g c) := ⟨rfl, rfl, rfl, by simp, fun b _ hne => setRow_other _ _ _ _ fun e => hne (e ▸ hx)⟩
theorem cell_row {w : World} {g : Nat} {cur : Array Value} {ty : TypeId} (hg : w.heap[g]? = some (.cells cur ty (0, 0))) {cs : List Value} (hp : cs <+: cur.toList) {j : Nat} {v : Value} (hj : cs[j]? = some v) : w.cell? ⟨g, j, none⟩ = some v := by
 have h1 : cur[j]? = some v := by rw [← Array.getElem?_toList]; exact prefix_get hp hj
 unfold World.cell?
 rw [hg]
 exact h1
theorem one_get {b0 : MB} {c : Nat} {b : MB} (h : VM.get [(2, b0)] c = some b) : fput (fun _ => none) 2 b0 c = some b := by
 rw [VM.get_cons] at h
 by_cases e : c = 2
 ·subst e
  rw [fput_same]
  exact h
 ·rw [if_neg (Ne.symm e)] at h
  cases h
theorem drew_inv {w : World} {P : Prot} {adr : Adr} {m : FM} (h : InvM w P adr m) : InvM w.drew P adr m ∧ Keep w w.drew P P adr adr := by
 have k : Keep w w.drew P P adr adr := ⟨fun _ _ h => h, fun _ _ _ => rfl, fun _ _ h => h, fun _ _ cur _ _ h => ⟨cur, h, rfl⟩⟩
 refine ⟨⟨fun c b hc => ?_, h.inj, h.prot⟩, k⟩
 rcases h.blk c b hc with h1 | ⟨g, h1, h2⟩
 ·exact .inl h1
 ·exact .inr ⟨g, h1, h2.keep k rfl fun _ h => h⟩
theorem insert_lt (l : List AcS) (a : AcS) (i : Nat) (hi : i < l.length) (hl : l.length ≤ 100000) : SemR Tryz.prog G 139 [.ms 0 3 0 l.length, .int .i64 i, .ms 1 3 0 1] [(0, rowA l), (1, rowA [a])] 2 (.ms 2 3 0 (l.length + 1)) [(2, rowA (l.take i ++ a :: l.drop i))] 3 := by
 intro w P adr vals hg hI hn hL hargs
 cases hargs with | cons a1 hargs => cases hargs with | cons a2 hargs => cases hargs with | cons a3 hargs =>
 cases hargs
 have e2 := a2.int_
 subst e2
 rcases a1.ms_ with ⟨_, _, h0⟩ | ⟨g, o, cap, hg1, rfl, ho, hcap, hcm, cur0, ty0, hw0, hsz0⟩
 ·omega
 rcases a3.ms_ with ⟨_, _, h0⟩ | ⟨gv, ov, capv, hg3, rfl, hov, hcapv, _, _⟩
 ·omega
 have ho : o = 0 := by simpa using ho (.inr rfl)
 subst ho
 have hov : ov = 0 := by simpa using hov (.inr rfl)
 subst hov
 have hsz0 := hsz0 rfl
 -- what memory holds
 rcases hI.blk 0 (rowA l) rfl with ⟨_, h2, _⟩ | ⟨g', h1, h2⟩
 ·have : (rowA l).l.length = 0 := by rw [h2]; rfl
  rw [show (rowA l).l.length = l.length from List.length_map _] at this
  omega
 rw [hg1] at h1
 injection h1 with h1
 subst h1
 obtain ⟨cur, Q, hw, hQl, hQ3, hQr, hQp⟩ := h2.ofR rfl
 rcases hI.blk 1 (rowA [a]) rfl with ⟨_, h3, _⟩ | ⟨g', h1, h3⟩
 ·cases h3
 rw [hg3] at h1
 injection h1 with h1
 subst h1
 obtain ⟨curv, V, hwv, hVl, hV3, hVr, hVp⟩ := h3.ofR rfl
 have hne : gv ≠ g := fun e => absurd (hI.inj 1 0 _ _ g rfl rfl (by rw [← e]; exact hg3) hg1) (by decide)
 rw [hw0] at hw
 injection hw with hw
 injection hw with hw ht
 subst hw
 subst ht
 have hQl : Q.length = (l.map acM).length := hQl
 have hVl : V.length = 1 := hVl
 obtain ⟨p, rfl⟩ : ∃ p, V = [p] := by
  match V, hVl with
  | [p], _ => exact ⟨p, rfl⟩
 have hp3 : p.length = 3 := hV3 p (by simp)
 have hpr : Rep w P noAdr (acM a) p := hVr 0 _ _ rfl rfl
 rw [List.flatten_cons, List.flatten_nil, List.append_nil] at hVp
 have hQr : ∀ (j : Nat) x p, (l.map acM)[j]? = some x → Q[j]? = some p → Rep w P noAdr x p := hQr
 have hQ3 : ∀ p ∈ Q, p.length = 3 := hQ3
 have hcl : Q.flatten.length = l.length * 3 := by rw [flat3_len hQ3, hQl, List.length_map]
 have h1c := flat3_one hQl hQr
 have h1v : ∀ v ∈ p, v.oneCell' = true := hpr.one
 have hvs : ∀ j v, p[j]? = some v → w.cell? ⟨gv, j, none⟩ = some v := fun j v hj => cell_row hwv hVp hj
 -- the row behind it
 have hQn : ∀ (j : Nat) x q, ((l.take i ++ a :: l.drop i).map acM)[j]? = some x → (Q.take i ++ p :: Q.drop i)[j]? = some q → Rep w P noAdr x q := by
  rw [List.map_append, List.map_cons, List.map_take, List.map_drop]
  exact pair_ins hpr i hQl hQr
 have hQn3 : ∀ q ∈ Q.take i ++ p :: Q.drop i, q.length = 3 := by
  intro q hq
  rcases List.mem_append.1 hq with h | h
  ·exact hQ3 q (List.mem_of_mem_take h)
  ·rcases List.mem_cons.1 h with rfl | h
   ·exact hp3
   ·exact hQ3 q (List.mem_of_mem_drop h)
 have hQnl : (Q.take i ++ p :: Q.drop i).length = ((l.take i ++ a :: l.drop i).map acM).length := by
  simp only [List.length_append, List.length_cons, List.length_take, List.length_drop, List.length_map]
  rw [hQl, List.length_map]
 have hQnf : (Q.take i ++ p :: Q.drop i).flatten = Q.flatten.take (i * 3) ++ p ++ Q.flatten.drop (i * 3) := by
  rw [List.flatten_append, List.flatten_cons, (flat3_take i hQ3).1, (flat3_take i hQ3).2, List.append_assoc]
 have h2n := hn 2 (Nat.le_refl _)
 by_cases hroom : cap < l.length + 1
 ·refine (ins_grow g 0 l.length cap i gv 0 capv Q.flatten p w hi hcap hroom (by omega) hcl hp3 (fun j v hj => by rw [Nat.zero_add]; exact cell_row hw0 hQp hj) (fun j v hj => by rw [Nat.zero_add]; exact hvs j v hj) h1c h1v).mono ?_
  rintro e w' ⟨C, hC1, hC2, ROW, hR, hRp, rfl, R1, R0, rfl⟩
  have hb : Below w.heap.size w ((((w.alloc (.cells R0 91)).drew.setRow w.heap.size R1).drew).setRow w.heap.size ROW) :=
   below_row (below_row (Below.alloc1 w _).drew (Nat.le_refl _) _).drew (Nat.le_refl _) _
  have hgn : ((((w.alloc (.cells R0 91)).drew.setRow w.heap.size R1).drew).setRow w.heap.size ROW).heap[w.heap.size]? = some (.cells ROW 91 (0, 0)) :=
   setRow_heap _ _ R1 ROW _ _ (setRow_heap _ _ R0 R1 _ _ (heap_alloc_new w _))
  generalize ((((w.alloc (.cells R0 91)).drew.setRow w.heap.size R1).drew).setRow w.heap.size ROW) = w' at *
  have hI0 : InvM w P adr (fun _ => none) := hI.sub fun c b hc => nomatch hc
  obtain ⟨k1, k2⟩ := hI0.new (b := rowA (l.take i ++ a :: l.drop i)) h2n rfl hb hgn hQnl hQn3 (fun j x q hx hq => hQn j x q hx hq) (by rw [hQnf]; exact hRp) (Nat.zero_le _)
  refine ⟨_, rfl, P, fput adr 2 w.heap.size, k1.sub fun c b hc => ?_, .val [_] (.ms w.heap.size 0 C (fput_same _ _ _) (fun _ => by simp) hC1 hC2 ⟨ROW, _, hgn, fun _ => hR⟩), k2, fun c hc => fput_ne _ _ (by omega), fun c hc => ?_, fun c g hc => ?_, fun b o hb => .inl hb, (Since.of_below hb).weak fun _ e => e.elim⟩
  ·exact one_get hc
  ·rw [fput_ne _ _ (by omega)]; exact hn c (by omega)
  ·by_cases e : c = 2
   ·subst e
    rw [fput_same] at hc
    injection hc with hc
    exact .inl (by omega)
   ·rw [fput_ne _ _ e] at hc
    exact .inr ⟨c, hc⟩
 ·refine (ins_shift g l.length cap i gv capv Q.flatten p cur0 curv _ w hi (by omega) hcm hne hw0 hsz0 hwv hcl hp3 hQp hvs h1c h1v).mono ?_
  rintro e w' ⟨ROW, hR, hRp, rfl, R1, rfl⟩
  rw [setRow_setRow]
  obtain ⟨hI1, hk1⟩ := drew_inv hI
  have hI2 : InvM w.drew P adr (fput (fun _ => none) 0 (rowA l)) := hI1.sub fun c b hc => by
   by_cases e : c = 0
   ·subst e; rw [fput_same] at hc; exact hc
   ·rw [fput_ne _ _ e] at hc; cases hc
  have hpg : ∀ o, ¬ P g o := fun o ho => absurd (h2.pe o ho) (Nat.not_lt_zero _)
  have hsz : ROW.size = cur0.size := by rw [hR, hsz0]
  obtain ⟨k1, k2⟩ := hI2.write (c := 0) (g := g) (b := rowA l) (b' := rowA (l.take i ++ a :: l.drop i)) (cur := cur0) (cur' := ROW) (by show (l.map acM).length ≤ ((l.take i ++ a :: l.drop i).map acM).length; simp; omega) (fput_same _ _ _) hg1 rfl rfl rfl hw0 hsz (fun o ho => absurd ho (hpg o)) hQnl hQn3 (fun j x q hx hq => (hQn j x q hx hq).keep hk1.free) (by rw [hQnf]; exact hRp)
  have e0 : fput (fput (fun _ => none) 0 (rowA l)) 0 (rowA (l.take i ++ a :: l.drop i)) = fput (fun _ => none) 0 (rowA (l.take i ++ a :: l.drop i)) := by
   funext x
   by_cases e : x = 0
   ·subst e; rw [fput_same, fput_same]
   ·rw [fput_ne _ _ e, fput_ne _ _ e, fput_ne _ _ e]
  rw [e0] at k1
  obtain ⟨k3, k4⟩ := k1.rename (d := 2) hg1 h2n rfl
  have hkk := (hk1.trans k2).trans k4
  refine ⟨_, rfl, P, fput adr 2 g, k3.sub fun c b hc => ?_, .val [_] (.ms g 0 cap (fput_same _ _ _) (fun _ => by simp) (by omega) hcm ⟨ROW, _, setRow_heap _ _ cur0 ROW _ _ hw0, fun _ => hR⟩), hkk, fun c hc => fput_ne _ _ (by omega), fun c hc => ?_, fun c g' hc => ?_, fun b o hb => .inl hb, ?_⟩
  ·have := one_get hc
   by_cases e : c = 2
   ·subst e; rw [fput_same] at this ⊢; exact this
   ·rw [fput_ne _ _ e] at this; cases this
  ·rw [fput_ne _ _ (by omega)]; exact hn c (by omega)
  ·by_cases e : c = 2
   ·subst e
    rw [fput_same] at hc
    injection hc with hc
    exact .inr ⟨0, by rw [← hc]; exact hg1⟩
   ·rw [fput_ne _ _ e] at hc
    exact .inr ⟨c, hc⟩
  ·have hs := since_row (w := w.drew) (ex := fun b => ∃ c0, adr c0 = some b) (g := g) ROW ⟨0, hg1⟩
   exact ⟨hs.os, hs.tape, hs.output, hs.size, hs.block⟩
end
section
open Go.RowKit Go.Lib
variable {G : GS}
attribute [local irreducible] vOpsN vOpsG vOpsD vOpGD NextD vC SeqQ BlockQ
theorem insert_end (l : List AcS) (a : AcS) (hl : l.length ≤ 100000) : SemR Tryz.prog G 139 [.ms 0 3 0 l.length, .int .i64 l.length, .ms 1 3 0 1] [(0, rowA l), (1, rowA [a])] 2 (.ms 2 3 0 (l.length + 1)) [(2, rowA (l ++ [a]))] 3 := by
 have hb := SomF.mk (bndLo (κ := .i64) (Nat.le_refl l.length))
 unfold rowA
 refine srq seat Tryz.func139 95 ?_
 refine go1 ?_
 ((with_reducible apply c_cond); (case he => exact rfl); (all_goals intro h))
 ·refine go1 ?_
  ((with_reducible apply g_mem); (case hq => exact rfl); (case hv => exact rfl); (case he => (intro R hR; refine sms hR ?_; (refine And.intro (Nat.le_refl _) ?_; refine ⟨_, rfl, ?_⟩; refine And.intro ⟨(by simp), app_ok (by kernel_rfl) pf⟩ ?_; refine ⟨(l ++ [a]).map acM, sv (by rw [List.map_append]; rfl), l.length + 1, sv pf, ?_⟩); exact hR)); (case hd => exact rfl))
  refine go1 ?_
  refine ⟨[_], [(2, 19)], [], rfl, rfl, trivial, rfl, ⟨?_, trivial⟩, ?_⟩
  ·exact rv
  ·exact mm
 ·rw [beq_self_eq_true] at h
  cases h
theorem insert_r (l : List AcS) (a : AcS) (i : Nat) (hi : i ≤ l.length) (hl : l.length ≤ 100000) : SemR Tryz.prog G 139 [.ms 0 3 0 l.length, .int .i64 i, .ms 1 3 0 1] [(0, rowA l), (1, rowA [a])] 2 (.ms 2 3 0 (l.length + 1)) [(2, rowA (l.take i ++ a :: l.drop i))] 3 := by
 by_cases h : i < l.length
 ·exact insert_lt l a i h hl
 ·have e : i = l.length := by omega
  subst e
  rw [List.take_length, List.drop_length]
  exact insert_end l a hl
end
section
def addK (s : List UInt8) (ks : List (List UInt8)) : List (List UInt8) := if s ∈ ks then ks else ks ++ [s]
def freshK (acs : List AcS) : List TrS → List (List UInt8) → List (List UInt8)
 | [], ks => ks
 | x :: r, ks => freshK acs r (if (getS acs x.to_).2 = true then ks else addK x.to_ ks)
theorem getS_any (l : List AcS) (nm : List UInt8) : (getS l nm).2 = l.any (fun a => decide (a.name = nm)) := by
 induction l with
 | nil => rfl
 | cons a r ih =>
  rw [List.any_cons]
  by_cases h : a.name = nm
  ·have e : getS (a :: r) nm = (a, true) := by unfold getS; rw [List.find?_cons_of_pos (by simp [h])]
   rw [e]; simp [h]
  ·have e : getS (a :: r) nm = getS r nm := by unfold getS; rw [List.find?_cons_of_neg (by simp [h])]
   rw [e, ih]; simp [h]
theorem put_len {a : AcS} {l : List AcS} (hs : SrtA l) : (putS a l).length = l.length + (if (getS l a.name).2 = true then 0 else 1) := by
 cases h : (getS l a.name).2 with
 | true => rw [putS_set hs h]; simp
 | false =>
  rw [putS_ins hs h]
  have := posA_le a.name l
  simp
  omega
theorem put_has {a : AcS} {l : List AcS} (hs : SrtA l) (nm : List UInt8) : (getS (putS a l) nm).2 = ((getS l nm).2 || decide (a.name = nm)) := by
 cases h : (getS l a.name).2 with
 | true =>
  rw [putS_set hs h, getS_any, getS_any]
  rcases getS_pos (nm := a.name) hs with ⟨_, h2, h3⟩ | ⟨h1, _⟩
  ·obtain ⟨hk, h2⟩ := List.getElem?_eq_some_iff.1 h2
   have e1 : l.set (posA a.name l) a = l.take (posA a.name l) ++ a :: l.drop (posA a.name l + 1) := List.set_eq_take_append_cons_drop.trans (if_pos hk)
   have e2 : l = l.take (posA a.name l) ++ l[posA a.name l] :: l.drop (posA a.name l + 1) := by
    conv => lhs; rw [← List.take_append_drop (posA a.name l) l, List.drop_eq_getElem_cons hk]
   rw [e1]
   conv => rhs; rw [e2]
   rw [h2]
   simp only [List.any_append, List.any_cons, h3]
   cases decide (a.name = nm) <;> simp
  ·rw [h1] at h; cases h
 | false =>
  rw [putS_ins hs h, getS_any, getS_any]
  conv => rhs; rw [← List.take_append_drop (posA a.name l) l]
  simp only [List.any_append, List.any_cons]
  cases decide (a.name = nm) <;> simp
theorem payB_name (x : TrS) {acs : List AcS} (hs : SrtA acs) : (payB x acs).name = x.to_ := by
 unfold payB
 rcases getS_pos (nm := x.to_) hs with ⟨h1, _, h3⟩ | ⟨h1, _⟩
 ·rw [if_pos h1]; exact h3
 ·rw [if_neg (by rw [h1]; simp)]
theorem pay_srt {x : TrS} {acs : List AcS} (hs : SrtA acs) : SrtA (payS acs x) := srt_put hs
theorem pays_len (z : List AcS) : ∀ (trs : List TrS) (cur : List AcS) (ks : List (List UInt8)), SrtA cur → (∀ nm, (getS cur nm).2 = ((getS z nm).2 || decide (nm ∈ ks))) → (trs.foldl payS cur).length + ks.length = cur.length + (freshK z trs ks).length
 | [], cur, ks, _, _ => rfl
 | x :: r, cur, ks, hs, hk => by
  rw [List.foldl_cons, freshK]
  have hn := payB_name x hs
  have hl : (payS cur x).length = cur.length + (if (getS cur x.to_).2 = true then 0 else 1) := by
   unfold payS
   rw [put_len hs]
   dsimp only
   rw [hn]
  have hh : ∀ nm, (getS (payS cur x) nm).2 = ((getS cur nm).2 || decide (x.to_ = nm)) := fun nm => by
   unfold payS
   rw [put_has hs]
   dsimp only
   rw [hn]
  have hx := hk x.to_
  by_cases hz : (getS z x.to_).2 = true
  ·rw [if_pos hz]
   rw [hz, Bool.true_or] at hx
   rw [if_pos hx] at hl
   have ih := pays_len z r (payS cur x) ks (pay_srt hs) (fun nm => by
    rw [hh, hk]
    by_cases e : x.to_ = nm
    ·subst e; rw [hz]; simp
    ·simp [e])
   omega
  ·rw [if_neg hz]
   have hz' : (getS z x.to_).2 = false := by simpa using hz
   rw [hz', Bool.false_or] at hx
   unfold addK
   by_cases hm : x.to_ ∈ ks
   ·rw [if_pos hm]
    rw [if_pos (by rw [hx]; simpa using hm)] at hl
    have ih := pays_len z r (payS cur x) ks (pay_srt hs) (fun nm => by
     rw [hh, hk]
     by_cases e : x.to_ = nm
     ·subst e; simp [hm]
     ·simp [e])
    omega
   ·rw [if_neg hm]
    rw [if_neg (by rw [hx]; simpa using hm)] at hl
    have ih := pays_len z r (payS cur x) (ks ++ [x.to_]) (pay_srt hs) (fun nm => by
     rw [hh, hk, Bool.or_assoc]
     congr 1
     by_cases e : x.to_ = nm
     ·subst e; simp
     ·simp [e, Ne.symm e])
    rw [List.length_append, List.length_singleton] at ih
    omega
theorem done_len {l : LgS} {t : TxS} {sum : Nat} (hs : SrtA l.acs) (hp : (getS l.acs t.sender).2 = true) : (doneS l t sum).acs.length = l.acs.length + (freshK l.acs t.trs []).length := by
 have hn : (doneA l t sum).name = t.sender := by
  rcases getS_pos (nm := t.sender) hs with ⟨_, _, h3⟩ | ⟨h1, _⟩
  ·exact h3
  ·rw [h1] at hp; cases hp
 have h1 : (putS (doneA l t sum) l.acs).length = l.acs.length := by rw [put_len hs, hn, if_pos hp, Nat.add_zero]
 have h2 := pays_len l.acs t.trs (putS (doneA l t sum) l.acs) [] (srt_put hs) (fun nm => by
  rw [put_has hs, hn]
  by_cases e : t.sender = nm
  ·subst e; rw [hp]; simp
  ·simp [e])
 rw [h1, List.length_nil, Nat.add_zero] at h2
 exact h2
theorem freshK_len (z : List AcS) : ∀ (trs : List TrS) (ks : List (List UInt8)), (freshK z trs ks).length ≤ ks.length + trs.length
 | [], _ => Nat.le_refl _
 | x :: r, ks => by
  rw [freshK]
  have ih := freshK_len z r
  have h2 : (addK x.to_ ks).length ≤ ks.length + 1 := by unfold addK; split <;> simp
  split
  ·have := ih ks; simp; omega
  ·have := ih (addK x.to_ ks); simp; omega
theorem findM_no {s : List UInt8} : ∀ {ks : List (List UInt8)} {i : Nat}, s ∉ ks → findM s (ks.map MV.str) i = some none
 | [], _, _ => rfl
 | x :: r, i, h => by
  rw [List.mem_cons, not_or] at h
  rw [List.map_cons, findM, beq_eq_false_iff_ne.2 h.1]
  exact findM_no h.2
theorem findM_yes {s : List UInt8} : ∀ {ks : List (List UInt8)} {i : Nat}, s ∈ ks → ∃ j, findM s (ks.map MV.str) i = some (some (i + j)) ∧ j < ks.length
 | x :: r, i, h => by
  rw [List.map_cons, findM]
  by_cases e : s = x
  ·exact ⟨0, by rw [beq_iff_eq.2 e]; rfl, by simp⟩
  ·rw [beq_eq_false_iff_ne.2 e]
   obtain ⟨j, hj, hl⟩ := findM_yes (i := i + 1) ((List.mem_cons.1 h).resolve_left e)
   exact ⟨j + 1, by rw [show i + (j + 1) = i + 1 + j by omega]; exact hj, by simpa using hl⟩
end
section
variable {G : GS}
attribute [local irreducible] vOpsN vOpsG vOpsD vOpGD NextD vC SeqQ BlockQ
def namesM (ks : List (List UInt8)) : MV := .mpv (ks.map .str) (List.replicate ks.length (.st []))
theorem set_units (n i : Nat) : setL (List.replicate n (MV.st [])) i (.st []) = List.replicate n (.st []) := by
 rw [setL_eq]
 apply List.ext_getElem
 ·simp
 ·intro k h1 h2
  simp [List.getElem_set]
theorem mapLen_of {Pg : Program} {E : VE} {M : VM} {o : Oper} {x : Operand} {t k e : TypeId} {c : Nat} {b : MB} {ks vs : List MV} (ho : o.op = .call ⟨.builtin .len, #[x], #[t]⟩) (hx : evM (VE.get E) x = some (.mp c)) (hc : VM.get M c = some b) (hb : b.l = [.mpv ks vs]) (hu : Pg.underlying t = some (.map k e)) (hl : vs.length = ks.length) : mapLen Pg E M o = some ks.length := by
 unfold mapLen
 rw [ho]
 dsimp only
 rw [hx]
 dsimp only
 rw [hc]
 dsimp only
 rw [hb]
 dsimp only
 rw [hu]
 dsimp only
 rw [if_pos hl]
theorem fresh_m (l : LgS) (t : TxS) (hl : l.acs.length ≤ 100000) (hs : SrtA l.acs) (ht : SmTx t) : SemC Tryz.prog G 137 [lgM l, txM t] (.int .i64 (freshK l.acs t.trs []).length) := by
 obtain ⟨snd, seq, gas, fee, memo, trs⟩ := t
 obtain ⟨h1, h2, h3, h4, h5, h6, h7⟩ := ht
 dsimp only at h1 h2 h3 h4 h5 h6 h7
 have cp := fun nm => aplace_m (G := G) l nm hl hs
 obtain ⟨acs, col⟩ := l
 dsimp only at hl hs cp ⊢
 generalize hR : freshK acs trs [] = R
 unfold lgM at cp
 unfold lgM txM
 dsimp only at cp ⊢
 refine scq seat Tryz.func137 34 ?_
 refine go1 ?_
 refine c_loop (Nat × List (List UInt8)) (fun x => [(14, .int .i64 x.1), (13, .int .i64 trs.length), (12, .sl trs.length (trs.map trM)), (5, .mp 2), (2, .ptr 0 2 0 0 [])]) (fun x => [(0, ⟨33, 2, false, 0, [.st [.sl acs.length (acs.map acM), .int .u64 col]]⟩), (2, ⟨132, 0, false, 0, [namesM x.2]⟩)]) 3 (fun x => x.1 ≤ trs.length ∧ x.2.length ≤ x.1 ∧ freshK acs (trs.drop x.1) x.2 = R) (fun x => trs.length - x.1) (0, []) ⟨Nat.zero_le _, Nat.le_refl _, by rw [List.drop_zero]; exact hR⟩ (by dsimp only; exact (vm [(0, _), (2, _)] [])) ?_
 clear hR
 rintro ⟨k, ks⟩ ⟨hk, hks, hR⟩
 unfold namesM
 try dsimp only
 dsimp only at hk hks hR
 refine go1 ?_
 ((with_reducible apply c_cond); (case he => exact rfl); (all_goals intro h))
 ·have hk' : k < trs.length := by have := of_decide_eq_true h; omega
  have hel := trs_at hk'
  rw [List.drop_eq_getElem_cons hk', freshK] at hR
  have c1 := cp trs[k].to_
  generalize trs[k] = x at *
  obtain ⟨to_, amt⟩ := x
  dsimp only at c1 hR
  replace hel : idxL (trs.map trM) trs.length (k : Int) = some (.st [.str to_, .int .u64 amt]) := hel
  have hel := SomF.mk hel
  generalize posA to_ acs = pp at *
  cases hb : (getS acs to_).2 with
  | true =>
   rw [hb] at c1 hR
   rw [if_pos rfl] at hR
   refine go1 ?_
   refine g_call2 rfl (fun _ h => h) rfl (semR_of_semC (c1)) rfl lm ?_
   refine go1 ?_
   exact ⟨(k + 1, ks), ⟨by dsimp only; omega, by dsimp only; omega, hR⟩, by dsimp only; omega, (by dsimp only; exact (vm [(0, _), (2, _)] []))⟩
  | false =>
   rw [hb] at c1 hR
   rw [if_neg (by simp)] at hR
   unfold addK at hR
   by_cases hm : to_ ∈ ks
   ·rw [if_pos hm] at hR
    obtain ⟨j, hj, hjl⟩ := findM_yes (i := 0) hm
    have hj := SomF.mk hj
    have hz := SideF.mk (show (List.replicate ks.length (MV.st [])).length = (ks.map MV.str).length by simp)
    have hv := EqF.mk (show [MV.mpv (ks.map MV.str) (setL (List.replicate ks.length (MV.st [])) (0 + j) (.st []))] = [MV.mpv (ks.map MV.str) (List.replicate ks.length (.st []))] by rw [set_units])
    refine go1 ?_
    refine g_call2 rfl (fun _ h => h) rfl (semR_of_semC (c1)) rfl lm ?_
    refine go1 ?_
    exact ⟨(k + 1, ks), ⟨by dsimp only; omega, by dsimp only; omega, hR⟩, by dsimp only; omega, (by dsimp only; exact (vm [(0, _), (2, _)] []))⟩
   ·rw [if_neg hm] at hR
    have hj := SomF.mk (findM_no (i := 0) hm)
    have hz := SideF.mk (show (List.replicate ks.length (MV.st [])).length = (ks.map MV.str).length by simp)
    have hv := EqF.mk (show [MV.mpv (ks.map MV.str ++ [.str to_]) (List.replicate ks.length (MV.st []) ++ [.st []])] = [MV.mpv ((ks ++ [to_]).map MV.str) (List.replicate (ks ++ [to_]).length (.st []))] by rw [List.map_append, List.length_append, List.length_singleton, List.replicate_succ']; rfl)
    refine go1 ?_
    refine g_call2 rfl (fun _ h => h) rfl (semR_of_semC (c1)) rfl lm ?_
    refine go1 ?_
    exact ⟨(k + 1, ks ++ [to_]), ⟨by dsimp only; omega, by simp; omega, hR⟩, by dsimp only; omega, (by dsimp only; exact (vm [(0, _), (2, _)] []))⟩
 ·have hk' : k = trs.length := by have := of_decide_eq_false h; omega
  subst hk'
  rw [List.drop_length, freshK] at hR
  subst hR
  refine go1 ?_
  refine g_lenM (k := ks.length) ?_ rfl ?_
  ·refine Eq.trans (mapLen_of (ks := ks.map MV.str) (vs := List.replicate ks.length (.st [])) (b := ⟨132, 0, false, 0, [.mpv (ks.map MV.str) (List.replicate ks.length (.st []))]⟩) (c := 2) (k := 9) (e := 134) (t := 132) (x := .tmp 32) ?_ ?_ ?_ rfl (by kernel_rfl) (by simp)) (congrArg some (List.length_map _))
   all_goals rfl
  refine go1 ?_
  refine go0 ?_
  rfl
end
section
variable {G : GS}
attribute [local irreducible] vOpsN vOpsG vOpsD vOpGD NextD vC SeqQ BlockQ
theorem pfault_m (l : LgS) (price : Nat) (t : TxS) (size : Nat) (hl : SmLg l) (hs : SrtA l.acs) (ht : SmTx t) (hp : U64 price) (hz : size ≤ 1000000000) : SemC Tryz.prog G 87 [lgM l, .int .u64 price, txM t, .int .i64 size] (.int .i64 (faultS l price t size)) := by
 have cc := pcost_m (G := G) t ht
 have cf := fresh_m (G := G) l t (by have := hl.1; omega) hs ht
 have c1 := aplace_m (G := G) l t.sender (by have := hl.1; omega) hs
 have hdl : (getS l.acs t.sender).2 = true → (doneS l t (costS t).1).acs.length = l.acs.length + (freshK l.acs t.trs []).length := done_len hs
 have hfl := freshK_len l.acs t.trs []
 have hpos := getS_pos (nm := t.sender) hs
 have hple := posA_le t.sender l.acs
 generalize hr : faultS l price t size = R
 unfold faultS at hr
 generalize doneS l t (costS t).1 = D at *
 generalize costS t = cst at *
 obtain ⟨cv, cb⟩ := cst
 obtain ⟨acs, col⟩ := l
 obtain ⟨snd, seq, gas, fee, memo, trs⟩ := t
 obtain ⟨h1, h2, h3, h4, h5, h6, h7⟩ := ht
 obtain ⟨hl1, hl2, hl3⟩ := hl
 obtain ⟨dacs, dcol⟩ := D
 dsimp only at h1 h2 h3 h4 h5 h6 h7 hl1 hl2 hl3 hr cc cf c1 hdl hpos hs hple
 dsimp only [List.length_nil] at hfl
 have cu := pused_m (G := G) (size : Int) (trs.length : Int) (by omega) (by omega)
 have cn := pneed_m (G := G) gas price h3 hp
 have hul : usedS (size : Int) (trs.length : Int) < 18446744073709551616 := by unfold usedS limS; omega
 generalize usedS (size : Int) (trs.length : Int) = us at *
 generalize mulS gas price = mu at *
 obtain ⟨mv, mb⟩ := mu
 generalize (freshK acs trs []).length = fr at *
 generalize posA snd acs = pp at *
 generalize getS acs snd = g at *
 obtain ⟨⟨gn, gb, gs⟩, gok⟩ := g
 dsimp only at c1 cn hr hdl hpos
 unfold txM lgM at *
 dsimp only at *
 cases gok with
 | false =>
  rw [if_pos rfl] at hr
  refine scq seat Tryz.func87 83 ?_
  refine go1 ?_
  refine g_call2 rfl (fun _ h => h) rfl (semR_of_semC (c1)) rfl lm ?_
  refine go1 ?_
  refine go0 ?_
  refine congrArg (MV.int .i64) ?_
  (repeat' split at hr) <;> omega
 | true =>
  rw [if_neg (by simp)] at hr
  have hdl := hdl rfl
  have hel : acs[pp]? = some ⟨gn, gb, gs⟩ := by
   rcases hpos with ⟨_, h, _⟩ | ⟨h, _⟩
   ·exact h
   ·cases h
  have hppl : pp < acs.length := (List.getElem?_eq_some_iff.1 hel).1
  have hel : idxL (acs.map acM) acs.length (pp : Int) = some (.st [.str gn, .int .u64 gb, .int .u64 gs]) := by
   have h := acs_at hppl
   rw [(List.getElem?_eq_some_iff.1 hel).2] at h
   exact h
  have hel := SomF.mk hel
  clear hpos
  refine scq seat Tryz.func87 83 ?_
  refine go1 ?_
  refine g_call2 rfl (fun _ h => h) rfl (semR_of_semC (c1)) rfl lm ?_
  refine go1 ?_
  ((with_reducible apply c_cond); (case he => exact rfl); (all_goals intro h))
  ·have k0 : ¬ (gs : Int) = (seq : Int) := by simpa using h
   have k1 : gs ≠ seq := by omega
   refine go1 ?_
   refine go0 ?_
   refine congrArg (MV.int .i64) ?_
   (repeat' split at hr) <;> omega
  have k0 : (gs : Int) = (seq : Int) := by simpa using h
  have k1 : gs = seq := by omega
  refine go1 ?_
  ((with_reducible apply c_cond); (case he => exact rfl); (all_goals intro h))
  ·have k2 : (gs : Int) = 18446744073709551615 := by simpa using h
   refine go1 ?_
   refine go0 ?_
   refine congrArg (MV.int .i64) ?_
   (repeat' split at hr) <;> omega
  have k2 : ¬ (gs : Int) = 18446744073709551615 := by simpa using h
  refine go1 ?_
  refine c_draw [(0, false), (1, false), (2, false), (3, false), (4, false), (5, false), (6, true), (7, false), (8, false)] ?_
  refine go1 ?_
  refine gd_call1 rfl (fun _ h => h) rfl [] (semR_of_semC (cu)) rfl [] trivial lm rfl ?_
  refine go1 ?_
  ((with_reducible apply c_cond); (case he => exact rfl); (all_goals intro h))
  ·have k3 := of_decide_eq_true h
   refine go1 ?_
   refine go0 ?_
   refine congrArg (MV.int .i64) ?_
   (repeat' split at hr) <;> omega
  have k3 := of_decide_eq_false h
  refine go1 ?_
  refine g_call2 rfl (fun _ h => h) rfl (semR_of_semC (cn)) rfl lm ?_
  refine go1 ?_
  cases mb with
  | false =>
   rw [if_neg (by omega), if_neg (by omega), if_neg (by omega), if_pos rfl] at hr
   refine go1 ?_
   refine go0 ?_
   refine congrArg (MV.int .i64) ?_
   (repeat' split at hr) <;> omega
  | true =>
   rw [if_neg (by omega), if_neg (by omega), if_neg (by omega), if_neg (by simp)] at hr
   refine go1 ?_
   ((with_reducible apply c_cond); (case he => exact rfl); (all_goals intro h))
   ·have k4 := of_decide_eq_true h
    rw [if_pos (by omega)] at hr
    refine go1 ?_
    refine go0 ?_
    refine congrArg (MV.int .i64) ?_
    (repeat' split at hr) <;> omega
   have k4 := of_decide_eq_false h
   rw [if_neg (by omega)] at hr
   refine go1 ?_
   refine g_call2 rfl (fun _ h => h) rfl (semR_of_semC (cc)) rfl lm ?_
   refine go1 ?_
   cases cb with
   | false =>
    rw [if_pos rfl] at hr
    refine go1 ?_
    refine go0 ?_
    refine congrArg (MV.int .i64) ?_
    (repeat' split at hr) <;> omega
   | true =>
    rw [if_neg (by simp)] at hr
    refine go1 ?_
    ((with_reducible apply c_cond); (case he => exact rfl); (all_goals intro h))
    ·have k5 := of_decide_eq_true h
     refine go1 ?_
     refine go0 ?_
     refine congrArg (MV.int .i64) ?_
     (repeat' split at hr) <;> omega
    have k5 := of_decide_eq_false h
    refine go1 ?_
    refine c_draw [(0, false), (1, false), (2, false), (3, false), (4, false), (5, true), (6, false), (7, false), (8, false)] ?_
    refine go1 ?_
    refine gd_call1 rfl (fun _ h => h) rfl [] (semR_of_semC (cf)) rfl [] trivial lm rfl ?_
    refine go1 ?_
    ((with_reducible apply c_cond); (case he => exact rfl); (all_goals intro h))
    ·have k6 := of_decide_eq_true h
     refine go1 ?_
     refine go0 ?_
     refine congrArg (MV.int .i64) ?_
     (repeat' split at hr) <;> omega
    have k6 := of_decide_eq_false h
    refine go1 ?_
    refine go0 ?_
    refine congrArg (MV.int .i64) ?_
    (repeat' split at hr) <;> omega
end
section
variable {G : GS}
attribute [local irreducible] vOpsN vOpsG vOpsD vOpGD NextD vC SeqQ BlockQ
theorem ac_get {l : List AcS} {k : Nat} {nm : List UInt8} {b s : Nat} (h : l[k]? = some ⟨nm, b, s⟩) : nthM (l.map acM) (0 + k) = some (.st [.str nm, .int .u64 b, .int .u64 s]) := by rw [nthM_eq, Nat.zero_add, List.getElem?_map, h]; rfl
theorem ac_set (l : List AcS) (k : Nat) (nm : List UInt8) (b s : Nat) : setL (l.map acM) (0 + k) (.st [.str nm, .int .u64 b, .int .u64 s]) = (l.set k ⟨nm, b, s⟩).map acM := by rw [setL_eq, Nat.zero_add, List.map_set]; rfl
theorem done_pay {acs : List AcS} {a : AcS} {nm : List UInt8} (hs : SrtA acs) (h : (getS acs nm) = (a, true)) : a.name = nm ∧ acs[posA nm acs]? = some a := by
 rcases getS_pos (nm := nm) hs with ⟨_, h2, h3⟩ | ⟨h1, _⟩
 ·rw [h] at h2 h3; exact ⟨h3, h2⟩
 ·rw [h] at h1; cases h1
theorem pay_yes {z : List AcS} {x : TrS} {b : AcS} (hs : SrtA z) (h : getS z x.to_ = (b, true)) : payS z x = z.set (posA x.to_ z) ⟨b.name, (b.bal + x.amt) % 18446744073709551616, b.seq⟩ := by
 obtain ⟨h1, _⟩ := done_pay hs h
 have hp : payB x z = b := by unfold payB; rw [h]; rfl
 unfold payS
 rw [hp, putS_set hs (by dsimp only; rw [h1, h])]
 dsimp only
 rw [h1]
theorem pay_no {z : List AcS} {x : TrS} (hs : SrtA z) (h : (getS z x.to_).2 = false) : payS z x = z.take (posA x.to_ z) ++ ⟨x.to_, (0 + x.amt) % 18446744073709551616, 0⟩ :: z.drop (posA x.to_ z) := by
 have hp : payB x z = ⟨x.to_, 0, 0⟩ := by unfold payB; rw [h]; rfl
 unfold payS
 rw [hp, putS_ins hs (by exact h)]
theorem ins_get (z : List AcS) (a : AcS) {p : Nat} (hp : p ≤ z.length) : (z.take p ++ a :: z.drop p)[p]? = some a := by
 have h : (z.take p).length = p := by simp [Nat.min_eq_left hp]
 rw [List.getElem?_append_right (by omega), h, Nat.sub_self]
 rfl
theorem ins_set (z : List AcS) (a b : AcS) {p : Nat} (hp : p ≤ z.length) : (z.take p ++ a :: z.drop p).set p b = z.take p ++ b :: z.drop p := by
 have h : (z.take p).length = p := by simp [Nat.min_eq_left hp]
 rw [List.set_append_right _ _ (by omega), h, Nat.sub_self]
 rfl
theorem carry_r (l : LgS) (t : TxS) (hl : SmLg l) (hs : SrtA l.acs) (ht : SmTx t) (hgot : (getS l.acs t.sender).2 = true) : SemR Tryz.prog G 89 [.st [.ms 0 3 0 l.acs.length, .int .u64 l.col], txM t] [(0, rowA l.acs)] 1 (lgM (doneS l t (costS t).1)) [] 1 := by
 have cc := pcost_m (G := G) t ht
 have hcu := costS_u64 t
 obtain ⟨acs, col⟩ := l
 obtain ⟨snd, seq, gas, fee, memo, trs⟩ := t
 obtain ⟨h1, h2, h3, h4, h5, h6, h7⟩ := ht
 obtain ⟨hl1, hl2, hl3⟩ := hl
 dsimp only at h1 h2 h3 h4 h5 h6 h7 hl1 hl2 hl3 hs hgot ⊢
 have cp := fun (z : List AcS) nm (hz : SrtA z) (hzl : z.length ≤ 100000) => aplace_r (G := G) z col nm hzl hz
 generalize costS ⟨snd, seq, gas, fee, memo, trs⟩ = cst at *
 obtain ⟨cv, cb⟩ := cst
 dsimp only at cc hcu ⊢
 obtain ⟨⟨⟨gn, gb, gs⟩, gok⟩, hg⟩ : ∃ g, getS acs snd = g := ⟨_, rfl⟩
 rw [hg] at hgot
 dsimp only at hgot
 subst hgot
 obtain ⟨hgn, hel⟩ := done_pay hs hg
 have hsm : SmAc ⟨gn, gb, gs⟩ := by have := getS_sm (acs := acs) (name := snd) hl3; rwa [hg] at this
 obtain ⟨q1, q2, q3⟩ := hsm
 dsimp only at hgn q1 q2 q3
 unfold U64 at q2 q3 hcu h4 hl2
 have hppl : posA snd acs < acs.length := (List.getElem?_eq_some_iff.1 hel).1
 have hdA : doneA ⟨acs, col⟩ ⟨snd, seq, gas, fee, memo, trs⟩ cv = ⟨gn, (gb + (18446744073709551616 - cv)) % 18446744073709551616, (gs + 1) % 18446744073709551616⟩ := by unfold doneA; dsimp only; rw [hg]
 have hz0 : putS ⟨gn, (gb + (18446744073709551616 - cv)) % 18446744073709551616, (gs + 1) % 18446744073709551616⟩ acs = acs.set (posA snd acs) ⟨gn, (gb + (18446744073709551616 - cv)) % 18446744073709551616, (gs + 1) % 18446744073709551616⟩ := by
  rw [putS_set hs (by dsimp only; rw [hgn, hg])]
  dsimp only
  rw [hgn]
 have hsm0 : ∀ a ∈ putS ⟨gn, (gb + (18446744073709551616 - cv)) % 18446744073709551616, (gs + 1) % 18446744073709551616⟩ acs, SmAc a := fun a h => (mem_putS h).elim (fun e => e ▸ ⟨q1, mod_u64, mod_u64⟩) (hl3 a)
 have hs0 : SrtA (putS ⟨gn, (gb + (18446744073709551616 - cv)) % 18446744073709551616, (gs + 1) % 18446744073709551616⟩ acs) := srt_put hs
 have e1 := EqF.mk (show IntKind.u64.wrap ((gb : Int) - (cv : Int)) = (((gb + (18446744073709551616 - cv)) % 18446744073709551616 : Nat) : Int) by rw [wu64]; omega)
 have e2 := EqF.mk (show IntKind.u64.wrap ((gs : Int) + 1) = (((gs + 1) % 18446744073709551616 : Nat) : Int) by rw [wu64]; omega)
 have e3 := EqF.mk (show IntKind.u64.wrap ((col : Int) + (fee : Int)) = (((col + fee) % 18446744073709551616 : Nat) : Int) by rw [wu64]; omega)
 unfold doneS
 rw [hdA]
 dsimp only
 generalize (gb + (18446744073709551616 - cv)) % 18446744073709551616 = nb at *
 generalize (gs + 1) % 18446744073709551616 = ns at *
 generalize (col + fee) % 18446744073709551616 = nc at *
 have r1 := SomF.mk (ac_get hel)
 have t1 := ac_set acs (posA snd acs) gn nb gs
 have r2 := ac_get (show (acs.set (posA snd acs) ⟨gn, nb, gs⟩)[posA snd acs]? = some ⟨gn, nb, gs⟩ by rw [List.getElem?_set_self hppl])
 have t2 := ac_set (acs.set (posA snd acs) ⟨gn, nb, gs⟩) (posA snd acs) gn nb ns
 rw [List.set_set, ← hz0, ← t1] at t2
 rw [← t1] at r2
 have r2 := SomF.mk r2
 have hz0l : (putS ⟨gn, nb, ns⟩ acs).length = acs.length := by rw [hz0, List.length_set]
 have c1 := cp acs snd hs (by omega)
 rw [hg] at c1
 generalize hR : trs.foldl payS (putS ⟨gn, nb, ns⟩ acs) = R
 generalize putS ⟨gn, nb, ns⟩ acs = z0 at *
 generalize posA snd acs = pp0 at *
 clear hz0 hdA hel hg t1
 unfold rowA at cp c1 ⊢
 unfold lgM txM at *
 dsimp only at *
 refine srq seat Tryz.func89 88 ?_
 refine go1 ?_
 refine g_call2 rfl (fun _ h => h) rfl (semR_of_semC (cc)) rfl lm ?_
 refine go1 ?_
 refine g_callR1 rfl (fun _ h => h) rfl (c1) [(0, 0)] [] ⟨rfl, trivial, rfl, lm, mm⟩ rfl rfl ?_
 refine go1 ?_
 refine c_loop (Nat × List AcS × List MV × Nat × Bool) (fun x => [(47, .int .i64 x.1), (46, .int .i64 trs.length), (45, .sl trs.length (trs.map trM)), (4, .ptr 3 2 0 0 []), (3, .ptr 2 6 0 0 []), (2, .ptr 1 2 0 0 [])]) (fun x => match x.2.2.2.2 with
  | true => [(1, ⟨33, 2, false, 0, [.st [.ms 4 3 0 x.2.2.2.1, .int .u64 col]]⟩), (4, ⟨91, 3, true, 0, x.2.2.1⟩), (2, ⟨98, 6, false, 0, [.st [.str snd, .int .u64 seq, .int .u64 gas, .int .u64 fee, .str memo, .sl trs.length (trs.map trM)]]⟩), (3, ⟨33, 2, false, 0, [.st [.nils, .int .u64 0]]⟩)]
  | false => [(1, ⟨33, 2, false, 0, [.st [.ms 0 3 0 x.2.2.2.1, .int .u64 col]]⟩), (0, ⟨91, 3, true, 0, x.2.2.1⟩), (2, ⟨98, 6, false, 0, [.st [.str snd, .int .u64 seq, .int .u64 gas, .int .u64 fee, .str memo, .sl trs.length (trs.map trM)]]⟩), (3, ⟨33, 2, false, 0, [.st [.nils, .int .u64 0]]⟩)]) 5 (fun x => x.1 ≤ trs.length ∧ x.2.1.length ≤ acs.length + x.1 ∧ SrtA x.2.1 ∧ (∀ a ∈ x.2.1, SmAc a) ∧ (trs.drop x.1).foldl payS x.2.1 = R ∧ x.2.2.1 = x.2.1.map acM ∧ x.2.2.2.1 = x.2.1.length) (fun x => trs.length - x.1) (0, z0, _, acs.length, false) ⟨Nat.zero_le _, by dsimp only; omega, hs0, hsm0, by dsimp only; rw [List.drop_zero]; exact hR, t2, hz0l.symm⟩ (by dsimp only; exact (vm [(1, _), (2, _), (3, _)] [])) ?_
 clear hR t2 r1 r2 c1 hz0l hs0 hsm0
 rintro ⟨k, z, Z, m, f⟩ ⟨hk, hzn, hz, hzs, hRk, hZ, hm⟩
 dsimp only at hk hzn hz hzs hRk hZ hm
 subst hZ
 subst hm
 try dsimp only
 refine go1 ?_
 ((with_reducible apply c_cond); (case he => exact rfl); (all_goals intro h))
 ·have hk' : k < trs.length := by have := of_decide_eq_true h; omega
  have hel := trs_at hk'
  have hx := h7 _ (List.getElem_mem hk')
  have hps := payS_sm hx hzs
  rw [List.drop_eq_getElem_cons hk', List.foldl_cons] at hRk
  generalize trs[k] = x at *
  obtain ⟨to_, amt⟩ := x
  obtain ⟨hx1, hx2⟩ := hx
  dsimp only at hx1 hx2
  unfold U64 at hx2
  replace hel : idxL (trs.map trM) trs.length (k : Int) = some (.st [.str to_, .int .u64 amt]) := hel
  have helx := SomF.mk hel
  clear hel
  have cq := cp z to_ hz (by omega)
  obtain ⟨⟨⟨bn, bb, bs⟩, bok⟩, hg⟩ : ∃ g, getS z to_ = g := ⟨_, rfl⟩
  have hgs := getS_sm (name := to_) hzs
  rw [hg] at cq hgs
  obtain ⟨hgs1, hgs2, hgs3⟩ := hgs
  dsimp only at cq hgs1 hgs2 hgs3
  unfold U64 at hgs2 hgs3
  cases bok with
  | true =>
   obtain ⟨hbn, hel⟩ := done_pay hz hg
   have hz2 := pay_yes (x := ⟨to_, amt⟩) hz hg
   dsimp only at hbn hel hz2
   have hzs2 : SrtA (payS z ⟨to_, amt⟩) := pay_srt hz
   have hppl : posA to_ z < z.length := (List.getElem?_eq_some_iff.1 hel).1
   have hzl : (payS z ⟨to_, amt⟩).length = z.length := by rw [hz2, List.length_set]
   have r1 := SomF.mk (ac_get hel)
   have s1 := ac_set z (posA to_ z) bn ((bb + amt) % 18446744073709551616) bs
   rw [← hz2] at s1
   have w1 := EqF.mk (show IntKind.u64.wrap ((bb : Int) + (amt : Int)) = (((bb + amt) % 18446744073709551616 : Nat) : Int) by rw [wu64]; omega)
   generalize (bb + amt) % 18446744073709551616 = sm at *
   generalize payS z ⟨to_, amt⟩ = z' at *
   generalize posA to_ z = pp at *
   clear hz2 hg
   cases f with
   | true =>
    dsimp only
    refine go1 ?_
    refine g_callR1 rfl (fun _ h => h) rfl (cq) [(0, 4)] [] ⟨rfl, trivial, rfl, lm, mm⟩ rfl rfl ?_
    refine go1 ?_
    refine c_draw [(0, false), (1, false), (2, false), (3, false), (4, false), (5, false), (6, false), (7, false), (8, false), (9, false), (10, false), (11, false)] ?_
    refine go1 ?_
    exact ⟨(k + 1, z', _, z.length, true), ⟨by dsimp only; omega, by dsimp only; omega, hzs2, hps.1, hRk, s1, hzl.symm⟩, by dsimp only; omega, (by dsimp only; exact (vm [(1, _), (4, _), (2, _), (3, _)] []))⟩
   | false =>
    dsimp only
    refine go1 ?_
    refine g_callR1 rfl (fun _ h => h) rfl (cq) [(0, 0)] [] ⟨rfl, trivial, rfl, lm, mm⟩ rfl rfl ?_
    refine go1 ?_
    refine c_draw [(0, false), (1, false), (2, false), (3, false), (4, false), (5, false), (6, false), (7, false), (8, false), (9, false), (10, false), (11, false)] ?_
    refine go1 ?_
    exact ⟨(k + 1, z', _, z.length, false), ⟨by dsimp only; omega, by dsimp only; omega, hzs2, hps.1, hRk, s1, hzl.symm⟩, by dsimp only; omega, (by dsimp only; exact (vm [(1, _), (2, _), (3, _)] []))⟩
  | false =>
   replace hg : (getS z to_).2 = false := by rw [hg]
   have hz2 := pay_no (x := ⟨to_, amt⟩) hz hg
   dsimp only at hz2
   have hzs2 : SrtA (payS z ⟨to_, amt⟩) := pay_srt hz
   have hppl : posA to_ z ≤ z.length := posA_le _ _
   have hzl : (payS z ⟨to_, amt⟩).length = z.length + 1 := by rw [hz2]; simp; omega
   have r1 := SomF.mk (ac_get (ins_get z ⟨to_, 0, 0⟩ hppl))
   have s1 := ac_set (z.take (posA to_ z) ++ ⟨to_, 0, 0⟩ :: z.drop (posA to_ z)) (posA to_ z) to_ ((0 + amt) % 18446744073709551616) 0
   rw [ins_set _ _ _ hppl, ← hz2] at s1
   have w1 := EqF.mk (show IntKind.u64.wrap ((0 : Nat) + (amt : Int)) = (((0 + amt) % 18446744073709551616 : Nat) : Int) by rw [wu64]; omega)
   have ci := insert_r (G := G) z ⟨to_, 0, 0⟩ (posA to_ z) hppl (by omega)
   unfold rowA at ci
   generalize (0 + amt) % 18446744073709551616 = sm at *
   generalize z.take (posA to_ z) ++ ⟨to_, 0, 0⟩ :: z.drop (posA to_ z) = zi at *
   generalize payS z ⟨to_, amt⟩ = z' at *
   generalize posA to_ z = pp at *
   clear hz2 hg
   cases f with
   | true =>
    dsimp only
    refine go1 ?_
    refine g_callR1 rfl (fun _ h => h) rfl (cq) [(0, 4)] [] ⟨rfl, trivial, rfl, lm, mm⟩ rfl rfl ?_
    refine go1 ?_
    refine g_callR1 rfl (fun _ h => h) rfl (ci) [(0, 4), (1, _)] [] ⟨rfl, trivial, rfl, lm, mm⟩ rfl rfl ?_
    refine go1 ?_
    refine c_draw [(0, false), (1, false), (2, false), (3, false), (4, false), (5, false), (6, false), (7, false), (8, false), (9, false), (10, false), (11, false)] ?_
    refine go1 ?_
    exact ⟨(k + 1, z', _, z.length + 1, true), ⟨by dsimp only; omega, by dsimp only; omega, hzs2, hps.1, hRk, s1, hzl.symm⟩, by dsimp only; omega, (by dsimp only; exact (vm [(1, _), (4, _), (2, _), (3, _)] []))⟩
   | false =>
    dsimp only
    refine go1 ?_
    refine g_callR1 rfl (fun _ h => h) rfl (cq) [(0, 0)] [] ⟨rfl, trivial, rfl, lm, mm⟩ rfl rfl ?_
    refine go1 ?_
    refine g_callR1 rfl (fun _ h => h) rfl (ci) [(0, 0), (1, _)] [] ⟨rfl, trivial, rfl, lm, mm⟩ rfl rfl ?_
    refine go1 ?_
    refine c_draw [(0, false), (1, false), (2, false), (3, false), (4, false), (5, false), (6, false), (7, false), (8, false), (9, false), (10, false), (11, false)] ?_
    refine go1 ?_
    exact ⟨(k + 1, z', _, z.length + 1, true), ⟨by dsimp only; omega, by dsimp only; omega, hzs2, hps.1, hRk, s1, hzl.symm⟩, by dsimp only; omega, (by dsimp only; exact (vm [(1, _), (4, _), (2, _), (3, _)] []))⟩
 ·have hk' : k = trs.length := by have := of_decide_eq_false h; omega
  subst hk'
  rw [List.drop_length, List.foldl_nil] at hRk
  subst hRk
  cases f with
  | true =>
   dsimp only
   refine go1 ?_
   refine go0 ?_
   refine ⟨[_], [], [(4, z.length)], rfl, rfl, ?_, rfl, ⟨?_, trivial⟩, ?_⟩
   ·exact ⟨by show z.length ≤ (z.map acM).length; simp, trivial⟩
   ·exact .inr ⟨_, rfl, lm⟩
   ·exact mm
  | false =>
   dsimp only
   refine go1 ?_
   refine go0 ?_
   refine ⟨[_], [], [(0, z.length)], rfl, rfl, ?_, rfl, ⟨?_, trivial⟩, ?_⟩
   ·exact ⟨by show z.length ≤ (z.map acM).length; simp, trivial⟩
   ·exact .inr ⟨_, rfl, lm⟩
   ·exact mm
end
section
attribute [local irreducible] vOpsN vOpsG vOpsD vOpGD NextD vC SeqQ BlockQ
theorem fault_there {l : LgS} {p : Nat} {t : TxS} {n : Nat} (h : faultS l p t n = 0) : (getS l.acs t.sender).2 = true := by
 unfold faultS at h
 cases hb : (getS l.acs t.sender).2 with
 | true => rfl
 | false => rw [hb, if_pos rfl] at h; exact absurd h (by decide)
theorem ptx_r (l : LgS) (price : Nat) (raw : List UInt8) (hl : SmLg l) (hp : U64 price) (hraw : raw.length ≤ 140737488355328) : SemR Tryz.prog GU 51 [lgM l, .int .u64 price, .sl raw.length (u8s raw)] [] 0 (.tup [lgM (txS l price raw).1, resM (txS l price raw).2]) [] 0 := by
 have cv := pvalidL_m (G := GU) l hl
 have cd := pdecode_r raw hraw
 have hsm := decodeTxS_sm (raw := raw)
 have cp := pprio_m (G := GU) (decodeTxS raw).1.fee (decodeTxS raw).1.gas hsm.2.2.2.1 hsm.2.2.1
 have co := ownL_row (G := GU) l (by have := hl.1; omega)
 have cf := fun (hv : validLS l = 0) (he : (decodeTxS raw).2 = 0) => pfault_m (G := GU) l price _ raw.length hl (valid_srt hv).1 hsm hp (by have := dec_len he; omega)
 have cdn := fun (hv : validLS l = 0) (hf : faultS l price (decodeTxS raw).1 raw.length = 0) => carry_r (G := GU) l _ hl (valid_srt hv).1 hsm (fault_there hf)
 generalize hr : txS l price raw = R
 obtain ⟨⟨Racs, Rcol⟩, ⟨Rcode, Rsnd, Rseq, Rgas, Rprio⟩⟩ := R
 unfold txS at hr
 generalize decodeTxS raw = d at *
 obtain ⟨t, e⟩ := d
 dsimp only at *
 generalize validLS l = vl at *
 generalize costS t = cst at *
 obtain ⟨cstv, cstb⟩ := cst
 dsimp only at *
 generalize doneS l t cstv = D at *
 generalize faultS l price t raw.length = fe at *
 obtain ⟨snd, seq, gas, fee, memo, trs⟩ := t
 dsimp only at *
 generalize prioS fee gas = pr at *
 obtain ⟨acs, col⟩ := l
 obtain ⟨dacs, dcol⟩ := D
 obtain ⟨h1, h2, h3, h4, h5, h6, h7⟩ := hsm
 obtain ⟨hl1, hl2, hl3⟩ := hl
 dsimp only at h1 h2 h3 h4 h5 h6 h7 hl1 hl2 hl3
 unfold rowA at *
 unfold lgM txM at *
 unfold resM
 dsimp only at *
 by_cases hv : vl = 0
 ·subst hv
  replace cf := cf rfl
  rw [if_neg (by simp)] at hr
  by_cases he : e = 0
  ·subst he
   replace cf := cf rfl
   rw [if_neg (by simp)] at hr
   have hr2 := hr
   simp only [Prod.mk.injEq, ResS.mk.injEq] at hr2
   obtain ⟨hD, rfl, rfl, rfl, rfl, rfl⟩ := hr2
   clear hr
   refine srq seat Tryz.func51 55 ?_
   refine go1 ?_
   refine g_callR1 rfl (fun _ h => h) rfl (co) [] [] ⟨rfl, trivial, rfl, lm, mm⟩ rfl rfl ?_
   refine go1 ?_
   refine g_call2 rfl (fun _ h => h) rfl (semR_of_semC (cv)) rfl lm ?_
   refine go1 ?_
   refine g_call2 rfl (fun _ h => h) rfl (cd) rfl lm ?_
   refine go1 ?_
   refine c_draw [(0, false), (1, false), (2, false), (3, false), (4, false), (5, true), (6, false), (7, false), (8, false), (9, false), (10, false), (11, false), (12, false), (13, false), (14, false), (15, false), (16, true), (17, false), (18, false), (19, false)] ?_
   refine go1 ?_
   refine gd_call1 rfl (fun _ h => h) rfl [] (semR_of_semC (cf)) rfl [] trivial lm rfl ?_
   refine go1 ?_
   refine gd_call1 rfl (fun _ h => h) rfl [] (semR_of_semC (cp)) rfl [] trivial lm rfl ?_
   refine go1 ?_
   ((with_reducible apply c_cond); (case he => exact rfl); (all_goals intro h))
   ·have hfe : fe = 0 := by
     have : (fe : Int) = 0 := by simpa using h
     omega
    subst hfe
    rw [if_neg (by simp)] at hD
    simp only [LgS.mk.injEq] at hD
    obtain ⟨rfl, rfl⟩ := hD
    have cdn := cdn rfl rfl
    refine go1 ?_
    refine g_callR1 rfl (fun _ h => h) rfl (cdn) [(0, 4)] [] ⟨rfl, trivial, rfl, lm, mm⟩ rfl rfl ?_
    refine go1 ?_
    refine c_draw [(0, false), (1, false), (2, false), (3, false)] ?_
    refine go1 ?_
    refine go0 ?_
    refine ⟨[_, _], [], [], rfl, rfl, trivial, rfl, ⟨?_, ?_, trivial⟩, ?_⟩
    ·exact rv
    ·exact rv
    ·exact mm
   ·have hfe : fe ≠ 0 := fun e => by subst e; simp at h
    rw [if_pos hfe] at hD
    simp only [LgS.mk.injEq] at hD
    obtain ⟨rfl, rfl⟩ := hD
    refine go1 ?_
    refine c_draw [(0, false), (1, false), (2, false), (3, false)] ?_
    refine go1 ?_
    refine go0 ?_
    refine ⟨[_, _], [], [(4, acs.length)], rfl, rfl, ?_, rfl, ⟨?_, ?_, trivial⟩, ?_⟩
    ·exact ⟨by show acs.length ≤ (acs.map acM).length; simp, trivial⟩
    ·exact .inr ⟨_, rfl, lm⟩
    ·exact rv
    ·exact mm
  ·rw [if_pos he] at hr
   simp only [Prod.mk.injEq, LgS.mk.injEq, ResS.mk.injEq] at hr
   obtain ⟨⟨rfl, rfl⟩, rfl, rfl, rfl, rfl, rfl⟩ := hr
   refine srq seat Tryz.func51 55 ?_
   refine go1 ?_
   refine g_callR1 rfl (fun _ h => h) rfl (co) [] [] ⟨rfl, trivial, rfl, lm, mm⟩ rfl rfl ?_
   refine go1 ?_
   refine g_call2 rfl (fun _ h => h) rfl (semR_of_semC (cv)) rfl lm ?_
   refine go1 ?_
   refine g_call2 rfl (fun _ h => h) rfl (cd) rfl lm ?_
   refine go1 ?_
   ((with_reducible apply c_cond); (case he => exact rfl); (all_goals intro h))
   ·refine go1 ?_
    refine go0 ?_
    refine ⟨[_, _], [], [(4, acs.length)], rfl, rfl, ?_, rfl, ⟨?_, ?_, trivial⟩, ?_⟩
    ·exact ⟨by show acs.length ≤ (acs.map acM).length; simp, trivial⟩
    ·exact .inr ⟨_, rfl, lm⟩
    ·exact rv
    ·exact mm
   ·exact absurd (by simpa using h) he
 ·rw [if_pos hv] at hr
  simp only [Prod.mk.injEq, LgS.mk.injEq, ResS.mk.injEq] at hr
  obtain ⟨⟨rfl, rfl⟩, rfl, rfl, rfl, rfl, rfl⟩ := hr
  refine srq seat Tryz.func51 55 ?_
  refine go1 ?_
  refine g_callR1 rfl (fun _ h => h) rfl (co) [] [] ⟨rfl, trivial, rfl, lm, mm⟩ rfl rfl ?_
  refine go1 ?_
  refine g_call2 rfl (fun _ h => h) rfl (semR_of_semC (cv)) rfl lm ?_
  refine go1 ?_
  ((with_reducible apply c_cond); (case he => exact rfl); (all_goals intro h))
  ·refine go1 ?_
   refine go0 ?_
   refine ⟨[_, _], [], [(4, acs.length)], rfl, rfl, ?_, rfl, ⟨?_, ?_, trivial⟩, ?_⟩
   ·exact ⟨by show acs.length ≤ (acs.map acM).length; simp, trivial⟩
   ·exact .inr ⟨_, rfl, lm⟩
   ·exact rv
   ·exact mm
  ·exact absurd (by simpa using h) hv
end
section
attribute [local irreducible] vOpsN vOpsG vOpsD vOpGD NextD vC SeqQ BlockQ
theorem pall_r (l : LgS) (p : Nat) (raws : List (List UInt8)) (hl : SmLg l) (hp : U64 p) (hn : raws.length ≤ 1000000) (hb : ∀ b ∈ raws, b.length ≤ 140737488355328) : SemR Tryz.prog GU 54 [lgM l, .int .u64 p, rawsM raws] [] 0 (.tup [lgM (allG p raws l []).1, .sl (allG p raws l []).2.length ((allG p raws l []).2.map resM)]) [] 0 := by
 generalize hr : allG p raws l [] = R
 obtain ⟨⟨Racs, Rcol⟩, Rout⟩ := R
 have co := ownL_r (G := GU) l (by have := hl.1; omega)
 obtain ⟨acs0, col0⟩ := l
 unfold rawsM lgM at *
 dsimp only
 refine srq seat Tryz.func54 36 ?_
 refine go1 ?_
 refine g_call2 rfl (fun _ h => h) rfl (co) rfl lm ?_
 refine go1 ?_
 refine c_loop (Nat × LgS × List ResS) (fun x => [(17, .int .i64 x.1), (16, .int .i64 raws.length), (15, .sl raws.length (raws.map rawM)), (8, .ms 2 5 0 x.2.2.length), (6, .ptr 1 2 0 0 []), (3, .ptr 0 2 0 0 []), (1, .int .u64 p)]) (fun x => [(0, ⟨33, 2, false, 0, [.st [.sl x.2.1.acs.length (x.2.1.acs.map acM), .int .u64 x.2.1.col]]⟩), (1, ⟨33, 2, false, 0, [.st [.nils, .int .u64 0]]⟩), (2, ⟨48, 5, true, 0, x.2.2.map resM⟩)]) 3 (fun x => x.1 ≤ raws.length ∧ x.2.2.length = x.1 ∧ SmLg x.2.1 ∧ allG p (raws.drop x.1) x.2.1 x.2.2 = (⟨Racs, Rcol⟩, Rout)) (fun x => raws.length - x.1) (0, ⟨acs0, col0⟩, []) ⟨Nat.zero_le _, rfl, hl, by dsimp only; rw [List.drop_zero]; exact hr⟩ (by dsimp only; exact (vm [(0, _), (1, _)] [])) ?_
 clear hr hl
 rintro ⟨k, ⟨acs, col⟩, out⟩ ⟨hk, hout, hsl, hR⟩
 try dsimp only
 dsimp only at hk hout hR
 refine go1 ?_
 ((with_reducible apply c_cond); (case he => exact rfl); (all_goals intro h))
 ·have hk' : k < raws.length := by have := of_decide_eq_true h; omega
  have hel := raws_at hk'
  have hbl := hb _ (List.getElem_mem hk')
  rw [List.drop_eq_getElem_cons hk', allG] at hR
  generalize raws[k] = raw at *
  replace hel : idxL (raws.map rawM) raws.length (k : Int) = some (.sl raw.length (u8s raw)) := hel
  have hel := SomF.mk hel
  have c1 := ptx_r ⟨acs, col⟩ p raw hsl hp hbl
  have hs2 := txS_sm (p := p) (raw := raw) hsl
  generalize txS ⟨acs, col⟩ p raw = y at *
  obtain ⟨⟨nacs, ncol⟩, ⟨ec, esn, esq, egs, epr⟩⟩ := y
  unfold lgM resM at c1
  dsimp only at c1 hR hs2
  refine go1 ?_
  refine g_call2 rfl (fun _ h => h) rfl (c1) rfl lm ?_
  refine go1 ?_
  refine c_draw [(0, false), (1, false), (2, false), (3, false), (4, false), (5, false), (6, false)] ?_
  refine go1 ?_
  ((with_reducible apply gd_mem); (case hv => exact rfl); (case he => (intro R hR; refine sms hR ?_; (refine And.intro (Nat.le_refl _) ?_; refine ⟨_, rfl, ?_⟩; refine And.intro ⟨(by simp), app_ok (by kernel_rfl) pf⟩ ?_; refine ⟨(out ++ [(⟨ec, esn, esq, egs, epr⟩ : ResS)]).map resM, sv (by simp; rfl), out.length + 1, sv pf, ?_⟩); exact hR)); (case hd => exact rfl))
  refine go1 ?_
  exact ⟨(k + 1, ⟨nacs, ncol⟩, out ++ [⟨ec, esn, esq, egs, epr⟩]), ⟨by dsimp only; omega, by dsimp only; rw [List.length_append, List.length_singleton]; omega, hs2.1, hR⟩, by dsimp only; omega, (by dsimp only; rw [List.length_append, List.length_singleton]; exact (vm [(0, _), (1, _), (2, _)] []))⟩
 ·have hk' : k = raws.length := by have := of_decide_eq_false h; omega
  subst hk'
  rw [List.drop_length, allG] at hR
  simp only [Prod.mk.injEq, LgS.mk.injEq] at hR
  obtain ⟨⟨rfl, rfl⟩, rfl⟩ := hR
  refine go1 ?_
  refine go0 ?_
  refine ⟨[_, _], [], [(2, out.length)], rfl, rfl, ?_, rfl, ⟨?_, ?_, trivial⟩, ?_⟩
  ·exact ⟨by show out.length ≤ (out.map resM).length; simp, trivial⟩
  ·exact .inl ⟨rfl, rfl⟩
  ·exact .inr ⟨rfl, rfl, rfl, Nat.le_of_eq (Nat.zero_add _), cut_all resM out⟩
  ·exact mm
theorem pstrict_r (l : LgS) (p : Nat) (raws : List (List UInt8)) (hl : SmLg l) (hp : U64 p) (hn : raws.length ≤ 1000000) (hb : ∀ b ∈ raws, b.length ≤ 140737488355328) : SemR Tryz.prog GU 56 [lgM l, .int .u64 p, rawsM raws] [] 0 (.tup [lgM (strictG p raws 0 l).1, .int .i64 (strictG p raws 0 l).2.1, .int .i64 (strictG p raws 0 l).2.2]) [] 0 := by
 generalize hr : strictG p raws 0 l = R
 obtain ⟨⟨Racs, Rcol⟩, Rat, Re⟩ := R
 have co := ownL_r (G := GU) l (by have := hl.1; omega)
 obtain ⟨acs0, col0⟩ := l
 unfold rawsM lgM at *
 dsimp only
 refine srq seat Tryz.func56 37 ?_
 refine go1 ?_
 refine g_call2 rfl (fun _ h => h) rfl (co) rfl lm ?_
 refine go1 ?_
 refine c_loop (Nat × LgS) (fun x => [(16, .int .i64 x.1), (15, .int .i64 raws.length), (14, .sl raws.length (raws.map rawM)), (6, .ptr 1 2 0 0 []), (3, .ptr 0 2 0 0 []), (1, .int .u64 p)]) (fun x => [(0, ⟨33, 2, false, 0, [.st [.sl acs0.length (acs0.map acM), .int .u64 col0]]⟩), (1, ⟨33, 2, false, 0, [.st [.sl x.2.acs.length (x.2.acs.map acM), .int .u64 x.2.col]]⟩)]) 2 (fun x => x.1 ≤ raws.length ∧ SmLg x.2 ∧ strictG p (raws.drop x.1) x.1 x.2 = (⟨Racs, Rcol⟩, Rat, Re)) (fun x => raws.length - x.1) (0, ⟨acs0, col0⟩) ⟨Nat.zero_le _, hl, by dsimp only; rw [List.drop_zero]; exact hr⟩ (by dsimp only; exact (vm [(0, _), (1, _)] [])) ?_
 clear hr hl
 rintro ⟨k, ⟨acs, col⟩⟩ ⟨hk, hsl, hR⟩
 try dsimp only
 dsimp only at hk hR
 refine go1 ?_
 ((with_reducible apply c_cond); (case he => exact rfl); (all_goals intro h))
 ·have hk' : k < raws.length := by have := of_decide_eq_true h; omega
  have hel := raws_at hk'
  have hbl := hb _ (List.getElem_mem hk')
  rw [List.drop_eq_getElem_cons hk', strictG] at hR
  generalize raws[k] = raw at *
  replace hel : idxL (raws.map rawM) raws.length (k : Int) = some (.sl raw.length (u8s raw)) := hel
  have hel := SomF.mk hel
  have c1 := ptx_r ⟨acs, col⟩ p raw hsl hp hbl
  have hs2 := txS_sm (p := p) (raw := raw) hsl
  generalize txS ⟨acs, col⟩ p raw = y at *
  obtain ⟨⟨nacs, ncol⟩, ⟨ec, esn, esq, egs, epr⟩⟩ := y
  unfold lgM resM at c1
  dsimp only at c1 hR hs2
  refine go1 ?_
  refine g_call2 rfl (fun _ h => h) rfl (c1) rfl lm ?_
  refine go1 ?_
  ((with_reducible apply c_cond); (case he => exact rfl); (all_goals intro h))
  ·have he : ec ≠ 0 := fun e => by subst e; simp at h
   rw [if_pos he] at hR
   simp only [lg0, Prod.mk.injEq, LgS.mk.injEq] at hR
   obtain ⟨⟨rfl, rfl⟩, rfl, rfl⟩ := hR
   refine go1 ?_
   refine c_draw [(0, false), (1, false), (2, false), (3, false), (4, false), (5, false), (6, false)] ?_
   refine go1 ?_
   refine go0 ?_
   refine ⟨[_, _, _], [], [], rfl, rfl, trivial, rfl, ⟨?_, ?_, ?_, trivial⟩, ?_⟩
   ·exact .inr ⟨_, rfl, lm⟩
   ·exact rv
   ·exact rv
   ·exact mm
  ·have he : ec = 0 := by
    have : ¬ (ec : Int) ≠ 0 := by simpa using h
    omega
   rw [if_neg (by simp [he])] at hR
   refine go1 ?_
   exact ⟨(k + 1, ⟨nacs, ncol⟩), ⟨by dsimp only; omega, hs2.1, hR⟩, by dsimp only; omega, (by dsimp only; exact (vm [(0, _), (1, _)] []))⟩
 ·have hk' : k = raws.length := by have := of_decide_eq_false h; omega
  subst hk'
  rw [List.drop_length, strictG] at hR
  simp only [Prod.mk.injEq, LgS.mk.injEq] at hR
  obtain ⟨⟨rfl, rfl⟩, rfl, rfl⟩ := hR
  refine go1 ?_
  refine go0 ?_
  refine ⟨[_, _, _], [], [], rfl, rfl, trivial, rfl, ⟨?_, ?_, ?_, trivial⟩, ?_⟩
  ·exact .inl ⟨rfl, rfl⟩
  ·exact rv
  ·exact rv
  ·exact mm
end
section
attribute [local irreducible] vOpsN vOpsG vOpsD vOpGD NextD vC SeqQ BlockQ
theorem ownApp_m (a : AppS) (ha : SmApp a) : SemC Tryz.prog GU 50 [appM a] (appM a) := by
 have c1 := ownL_r (G := GU) a.com (by have := ha.1.1; omega)
 have c2 := ownL_r (G := GU) a.chk (by have := ha.2.1.1; omega)
 have c3 := ownL_r (G := GU) a.nxt (by have := ha.2.2.1.1; omega)
 obtain ⟨⟨a1, b1⟩, ⟨a2, b2⟩, ⟨a3, b3⟩, op, price⟩ := a
 unfold appM lgM at *
 dsimp only at *
 refine scq seat Tryz.func50 16 ?_
 refine go1 ?_
 refine c_draw [(0, false), (1, false), (2, true), (3, false), (4, false), (5, true), (6, false), (7, false), (8, true), (9, false), (10, false), (11, false), (12, false), (13, false), (14, false)] ?_
 refine go1 ?_
 refine gd_call1 rfl (fun _ h => h) rfl [] (c1) rfl [] trivial lm rfl ?_
 refine go1 ?_
 refine gd_call1 rfl (fun _ h => h) rfl [] (c2) rfl [] trivial lm rfl ?_
 refine go1 ?_
 refine gd_call1 rfl (fun _ h => h) rfl [] (c3) rfl [] trivial lm rfl ?_
 refine go1 ?_
 refine go0 ?_
 rfl
theorem pcheck_m (a : AppS) (raw : List UInt8) (ha : SmApp a) (hraw : raw.length ≤ 140737488355328) : SemC Tryz.prog GU 21 [appM a, .sl raw.length (u8s raw)] (resM (checkS a raw)) := by
 have c1 := ptx_r a.chk a.price raw ha.2.1 ha.2.2.2 hraw
 unfold checkS
 obtain ⟨⟨a1, b1⟩, ⟨a2, b2⟩, ⟨a3, b3⟩, op, price⟩ := a
 dsimp only at *
 generalize txS ⟨a2, b2⟩ price raw = y at *
 obtain ⟨⟨nacs, ncol⟩, ⟨ec, esn, esq, egs, epr⟩⟩ := y
 unfold appM lgM resM at *
 dsimp only at *
 refine scq seat Tryz.func21 17 ?_
 refine go1 ?_
 refine g_call2 rfl (fun _ h => h) rfl (c1) rfl lm ?_
 refine go1 ?_
 refine go0 ?_
 rfl
theorem paccept_m (a : AppS) (raw : List UInt8) (ha : SmApp a) (hraw : raw.length ≤ 140737488355328) : SemC Tryz.prog GU 20 [appM a, .sl raw.length (u8s raw)] (appM (acceptS a raw)) := by
 have c0 := ownApp_m a ha
 have c1 := ptx_r a.chk a.price raw ha.2.1 ha.2.2.2 hraw
 unfold acceptS
 obtain ⟨⟨a1, b1⟩, ⟨a2, b2⟩, ⟨a3, b3⟩, op, price⟩ := a
 dsimp only at *
 generalize txS ⟨a2, b2⟩ price raw = y at *
 obtain ⟨⟨nacs, ncol⟩, ⟨ec, esn, esq, egs, epr⟩⟩ := y
 unfold appM lgM resM at *
 dsimp only at *
 refine scq seat Tryz.func20 19 ?_
 refine go1 ?_
 refine g_call2 rfl (fun _ h => h) rfl (semR_of_semC (c0)) rfl lm ?_
 refine go1 ?_
 refine g_call2 rfl (fun _ h => h) rfl (c1) rfl lm ?_
 refine go1 ?_
 refine go0 ?_
 rfl
theorem preset_m (a : AppS) (ha : SmApp a) : SemC Tryz.prog GU 24 [appM a] (appM (resetS a)) := by
 have c0 := ownApp_m a ha
 have c1 := ownL_r (G := GU) a.com (by have := ha.1.1; omega)
 unfold resetS
 obtain ⟨⟨a1, b1⟩, ⟨a2, b2⟩, ⟨a3, b3⟩, op, price⟩ := a
 unfold appM lgM at *
 dsimp only at *
 refine scq seat Tryz.func24 11 ?_
 refine go1 ?_
 refine g_call2 rfl (fun _ h => h) rfl (semR_of_semC (c0)) rfl lm ?_
 refine go1 ?_
 refine g_call2 rfl (fun _ h => h) rfl (c1) rfl lm ?_
 refine go1 ?_
 refine go0 ?_
 rfl
theorem pcommit_r (a : AppS) (ha : SmApp a) : SemR Tryz.prog GU 28 [appM a] [] 0 (.tup [appM (comS a).1, .int .i64 (comS a).2]) [] 0 := by
 have c1 := ownL_r (G := GU) a.nxt (by have := ha.2.2.1.1; omega)
 unfold comS
 obtain ⟨⟨a1, b1⟩, ⟨a2, b2⟩, ⟨a3, b3⟩, op, price⟩ := a
 dsimp only at *
 have hA : ∀ op : Bool, appM ⟨⟨a1, b1⟩, ⟨a2, b2⟩, ⟨a3, b3⟩, op, price⟩ = .st [.st [.sl a1.length (a1.map acM), .int .u64 b1], .st [.sl a2.length (a2.map acM), .int .u64 b2], .st [.sl a3.length (a3.map acM), .int .u64 b3], .bool op, .int .u64 price] := fun _ => rfl
 rw [hA]
 unfold lgM at c1
 dsimp only at c1
 cases op with
 | false =>
  rw [if_pos rfl]
  refine srq seat Tryz.func28 17 ?_
  refine go1 ?_
  refine go0 ?_
  refine ⟨[_, _], [], [], rfl, rfl, trivial, rfl, ⟨?_, ?_, trivial⟩, ?_⟩
  ·exact rel_app0
  ·exact rv
  ·exact mm
 | true =>
  rw [if_neg (by simp)]
  refine srq seat Tryz.func28 17 ?_
  refine go1 ?_
  refine c_draw [(0, false), (1, false), (2, true), (3, false), (4, false), (5, true), (6, false), (7, false), (8, false), (9, false), (10, false)] ?_
  refine go1 ?_
  refine gd_call1 rfl (fun _ h => h) rfl [] (c1) rfl [] trivial lm rfl ?_
  refine go1 ?_
  refine gd_call1 rfl (fun _ h => h) rfl [] (c1) rfl [] trivial lm rfl ?_
  refine go1 ?_
  refine go0 ?_
  refine ⟨[_, _], [], [], rfl, rfl, trivial, rfl, ⟨?_, ?_, trivial⟩, ?_⟩
  ·exact .inr ⟨_, rfl, ⟨rel_lg, rel_lg, rel_lg0, ⟨rfl, rfl⟩, ⟨rfl, rfl⟩, trivial⟩⟩
  ·exact rv
  ·exact mm
theorem pfin_r (a : AppS) (raws : List (List UInt8)) (ha : SmApp a) (hn : raws.length ≤ 1000000) (hb : ∀ b ∈ raws, b.length ≤ 140737488355328) : SemR Tryz.prog GU 31 [appM a, rawsM raws] [] 0 (.tup [appM (finS a raws).1, .sl (finS a raws).2.1.length ((finS a raws).2.1.map resM), .int .i64 (finS a raws).2.2]) [] 0 := by
 have c0 := ownApp_m a ha
 have c1 := pall_r a.com a.price raws ha.1 ha.2.2.2 hn hb
 unfold finS
 obtain ⟨⟨a1, b1⟩, ⟨a2, b2⟩, ⟨a3, b3⟩, op, price⟩ := a
 dsimp only at *
 generalize allG price raws ⟨a1, b1⟩ [] = y at *
 obtain ⟨⟨nacs, ncol⟩, out⟩ := y
 unfold rawsM at *
 have hA : ∀ op : Bool, appM ⟨⟨a1, b1⟩, ⟨a2, b2⟩, ⟨a3, b3⟩, op, price⟩ = .st [.st [.sl a1.length (a1.map acM), .int .u64 b1], .st [.sl a2.length (a2.map acM), .int .u64 b2], .st [.sl a3.length (a3.map acM), .int .u64 b3], .bool op, .int .u64 price] := fun _ => rfl
 rw [hA] at c0 ⊢
 unfold lgM at c1
 dsimp only at c1
 cases op with
 | true =>
  rw [if_pos rfl]
  refine srq seat Tryz.func31 33 ?_
  refine go1 ?_
  refine go0 ?_
  refine ⟨[_, _, _], [], [], rfl, rfl, trivial, rfl, ⟨?_, ?_, ?_, trivial⟩, ?_⟩
  ·exact rel_app0
  ·exact .inr ⟨rfl, rfl⟩
  ·exact rv
  ·exact mm
 | false =>
  rw [if_neg (by simp)]
  by_cases hl : 512 < raws.length
  ·rw [if_pos hl]
   refine srq seat Tryz.func31 33 ?_
   refine go1 ?_
   (iterate 4 ((all_goals (refine go1 ?_)); (all_goals (first | ((first | ((with_reducible apply n_grd); (case hf => exact ⟨rfl, rfl, rfl⟩)) | ((with_reducible apply c_cond); (case he => exact rfl))); (all_goals intro h); (all_goals (try simp only [bx] at h)); (all_goals (try (exfalso; omega)))) | skip))))
   all_goals (refine go0 ?_)
   refine ⟨[_, _, _], [], [], rfl, rfl, trivial, rfl, ⟨?_, ?_, ?_, trivial⟩, ?_⟩
   ·exact rel_app0
   ·exact .inr ⟨rfl, rfl⟩
   ·exact rv
   ·exact mm
  ·rw [if_neg hl]
   dsimp only
   show SemR _ _ _ _ _ _ (.tup [.st [.st [.sl a1.length (a1.map acM), .int .u64 b1], .st [.sl a2.length (a2.map acM), .int .u64 b2], .st [.sl nacs.length (nacs.map acM), .int .u64 ncol], .bool true, .int .u64 price], _, _]) _ _
   refine srq seat Tryz.func31 33 ?_
   refine go1 ?_
   ((with_reducible apply c_cond); (case he => exact rfl); (all_goals intro h))
   ·exact absurd (of_decide_eq_true h) (by omega)
   refine go1 ?_
   refine g_call2 rfl (fun _ h => h) rfl (semR_of_semC (c0)) rfl lm ?_
   refine go1 ?_
   refine g_call2 rfl (fun _ h => h) rfl (c1) rfl lm ?_
   refine go1 ?_
   refine go0 ?_
   refine ⟨[_, _, _], [], [], rfl, rfl, trivial, rfl, ⟨?_, ?_, ?_, trivial⟩, ?_⟩
   ·exact rv
   ·exact rv
   ·exact rv
   ·exact mm
def procS (a : AppS) (raws : List (List UInt8)) : Bool := (strictG a.price raws 0 a.com).2.2 == 0
theorem pproc_m (a : AppS) (raws : List (List UInt8)) (ha : SmApp a) (hn : raws.length ≤ 1000000) (hb : ∀ b ∈ raws, b.length ≤ 140737488355328) : SemC Tryz.prog GU 33 [appM a, rawsM raws] (.bool (procS a raws)) := by
 have c1 := pstrict_r a.com a.price raws ha.1 ha.2.2.2 hn hb
 unfold procS
 obtain ⟨⟨a1, b1⟩, ⟨a2, b2⟩, ⟨a3, b3⟩, op, price⟩ := a
 dsimp only at *
 generalize strictG price raws 0 ⟨a1, b1⟩ = y at *
 obtain ⟨⟨nacs, ncol⟩, at_, e⟩ := y
 have he : ((e : Nat) == 0) = ((e : Int) == 0) := by
  cases e with
  | zero => rfl
  | succ n => rw [beq_eq_false_iff_ne.2 (by omega), beq_eq_false_iff_ne.2 (by omega)]
 unfold appM lgM rawsM at *
 dsimp only at *
 rw [he]
 refine scq seat Tryz.func33 20 ?_
 refine go1 ?_
 refine g_call2 rfl (fun _ h => h) rfl (c1) rfl lm ?_
 refine go1 ?_
 refine go0 ?_
 rfl
end
section
variable {G : GS}
attribute [local irreducible] vOpsN vOpsG vOpsD vOpGD NextD vC SeqQ BlockQ
section
variable {T : Tab} {rs : List ResultVar} {M : VM} {E : VE} {n : Nat}
theorem retn_a {P : MV → Nat → Prop} {L : List Int} (vs rv : List MV) (k : Nat) (bs : List (Nat × Nat)) (h1 : vRets T M E rs (fun v => v = vs)) (hm : LMatch 1 rv (numB L k) 1 vs M [] bs) (hf : nfree (tupM rv) = true) (hP : P (tupM rv) k) : vRetE T 1 rs (fun r M n => ∃ k', (P r k' ∧ nfree r = true) ∧ M = numB L k' ∧ n = 1) .ret E M n :=
 vRets_mono (fun v hv => by subst hv; exact ⟨tupM rv, numB L k, 1, ⟨k, ⟨hP, hf⟩, rfl, rfl⟩, rv, [], bs, rfl, hm⟩) h1
end
theorem rproc_m (a : AppS) (raws : List (List UInt8)) (ha : SmApp a) (hn : raws.length ≤ 1000000) (hb : ∀ b ∈ raws, b.length ≤ 140737488355328) : SemC Tryz.prog G 34 [appM a, rawsM raws] (.bool (procS a raws)) := by
 have c1 := strict_r (G := G) a.com a.price raws ha.1 ha.2.2.2 hn hb
 unfold procS
 obtain ⟨⟨a1, b1⟩, ⟨a2, b2⟩, ⟨a3, b3⟩, op, price⟩ := a
 dsimp only at *
 generalize strictG price raws 0 ⟨a1, b1⟩ = y at *
 obtain ⟨⟨nacs, ncol⟩, at_, e⟩ := y
 have he : ((e : Nat) == 0) = ((e : Int) == 0) := by
  cases e with
  | zero => rfl
  | succ n => rw [beq_eq_false_iff_ne.2 (by omega), beq_eq_false_iff_ne.2 (by omega)]
 unfold appM lgM rawsM at *
 dsimp only at *
 rw [he]
 refine scq seat Tryz.func34 20 ?_
 refine go1 ?_
 refine g_call2 rfl (fun _ h => h) rfl (c1) rfl lm ?_
 refine go1 ?_
 refine go0 ?_
 rfl
structure MadeA (a : AppS) : Prop where
 sm : SmApp a
 opn : a.opn = false
 price : a.price ≤ 2
 com : a.com = lg0 ∨ ∃ acs : List AcS, acs.length ≤ 4 ∧ (genS acs).2 = 0 ∧ a.com = (genS acs).1
theorem made_init {acs : List AcS} {p : Nat} (h : ∀ a ∈ acs, SmAc a) (hl : acs.length ≤ 4) (hp : p ≤ 2) : MadeA (initS acs p).1 := by
 have hs := initS_sm (p := p) h (by unfold U64; omega)
 unfold initS at *
 split
 ·rename_i hne
  rw [if_pos hne] at hs
  exact ⟨hs, rfl, by simp [app0], .inl rfl⟩
 ·rename_i hne
  rw [if_neg hne] at hs
  exact ⟨hs, rfl, hp, .inr ⟨acs, hl, Decidable.not_not.1 hne, rfl⟩⟩
theorem made_accept {a : AppS} {raw : List UInt8} (h : MadeA a) : MadeA (acceptS a raw) := ⟨acceptS_sm h.sm, h.opn, h.price, h.com⟩
theorem app_n (L : List Int) (N : Nat) (hN : N < 1000000000000000000) : SemN G L 48 [numP] N fun r N' => ∃ a : AppS, MadeA a ∧ N' ≤ N + 100 ∧ r = appM a := by
 unfold SemN
 refine semE_of_vc seat Tryz.func48 rfl rfl (Nat.le_of_ble_eq_true rfl) (Nat.le_of_ble_eq_true rfl) (N := 33) rfl rfl ?_
 refine go1 ?_
 refine g_callN1 rfl (fun _ h => h) rfl (accounts_n (G := G) L N (by omega)) rfl 0 [] ⟨rfl, trivial, rfl, lm, mm⟩ rfl ?_
 rintro _ K1 ⟨acs, ha, hsm, hK1, rfl⟩
 obtain ⟨x0, hx0, cx⟩ := next_b (G := G) L K1 3 (by omega) (by omega) (by omega)
 have ci := init_r (G := G) acs x0 (by omega) hsm (by unfold U64; omega)
 have hmi := made_init (p := x0) hsm ha (by omega)
 generalize initS acs x0 = y at *
 obtain ⟨a, e⟩ := y
 dsimp only at ci hmi
 refine go1 ?_
 refine g_callR1 rfl (fun _ h => h) rfl (cx) [(0, 0)] [] ⟨rfl, trivial, rfl, lm, mm⟩ rfl rfl ?_
 refine go1 ?_
 refine g_call2 rfl (fun _ h => h) rfl (ci) rfl lm ?_
 obtain ⟨⟨a1, b1⟩, ⟨a2, b2⟩, ⟨a3, b3⟩, op, price⟩ := a
 unfold appM lgM
 dsimp only
 refine go1 ?_
 ((with_reducible apply c_cond); (case he => exact rfl); (all_goals intro h))
 ·refine go1 ?_
  refine retn_a [_] [appM ⟨⟨a1, b1⟩, ⟨a2, b2⟩, ⟨a3, b3⟩, op, price⟩] (K1 + 1) [] (by exact rvq) ⟨rfl, trivial, rfl, lm, mm⟩ (by kernel_rfl) ⟨_, hmi, by omega, rfl⟩
 obtain ⟨x1, hx1, cx1⟩ := next_b (G := G) L (K1 + 1) 3 (by omega) (by omega) (by omega)
 refine go1 ?_
 refine g_callR1 rfl (fun _ h => h) rfl (cx1) [(0, 0)] [] ⟨rfl, trivial, rfl, lm, mm⟩ rfl rfl ?_
 refine go1 ?_
 refine c_loop (Nat × Nat × AppS) (fun x => [(5, .int .i64 x.1), (3, .ptr 2 8 0 0 []), (2, .ptr 1 8 0 0 []), (0, numP)]) (fun x => numB L x.2.1 ++ [(1, ⟨35, 8, false, 0, [.st [.st [.nils, .int .u64 0], .st [.nils, .int .u64 0], .st [.nils, .int .u64 0], .bool false, .int .u64 0]]⟩), (2, ⟨35, 8, false, 0, [.st [.st [.sl x.2.2.com.acs.length (x.2.2.com.acs.map acM), .int .u64 x.2.2.com.col], .st [.sl x.2.2.chk.acs.length (x.2.2.chk.acs.map acM), .int .u64 x.2.2.chk.col], .st [.sl x.2.2.nxt.acs.length (x.2.2.nxt.acs.map acM), .int .u64 x.2.2.nxt.col], .bool x.2.2.opn, .int .u64 x.2.2.price]]⟩)]) 3 (fun x => x.1 ≤ 2 ∧ x.2.1 + 24 * x.1 ≤ N + 80 ∧ MadeA x.2.2) (fun x => x.1) (x1, K1 + 1 + 1, ⟨⟨a1, b1⟩, ⟨a2, b2⟩, ⟨a3, b3⟩, op, price⟩) ⟨by dsimp only; omega, by dsimp only; omega, hmi⟩ (by dsimp only; exact vm [(1, _), (2, _)] []) ?_
 clear hmi ci
 rintro ⟨i, K, ⟨⟨c1, d1⟩, ⟨c2, d2⟩, ⟨c3, d3⟩, op, price⟩⟩ ⟨h1, h2, h3⟩
 try dsimp only
 dsimp only at h1 h2
 refine go1 ?_
 ((with_reducible apply c_cond); (case he => exact rfl); (all_goals intro h))
 ·have hi : 0 < i := by have := of_decide_eq_true h; omega
  obtain ⟨j, rfl⟩ : ∃ j, i = j + 1 := ⟨i - 1, by omega⟩
  have hcast : ((j + 1 : Nat) : Int) - 1 = (j : Int) := by omega
  have cr := raw_r (G := G) L K ⟨c2, d2⟩ price (by omega) h3.sm.2.1 (by have := h3.price; unfold U64; dsimp only at this; omega)
  have kr := rawG_ok (L := L) (N := K) (price := price) h3.sm.2.1.2.2
  dsimp only at cr kr
  generalize rawG L K c2 price = rw' at *
  obtain ⟨raw, K2⟩ := rw'
  dsimp only at cr kr
  have ca := accept_m (G := G) ⟨⟨c1, d1⟩, ⟨c2, d2⟩, ⟨c3, d3⟩, op, price⟩ raw h3.sm (by omega)
  have h4 := made_accept (raw := raw) h3
  generalize acceptS ⟨⟨c1, d1⟩, ⟨c2, d2⟩, ⟨c3, d3⟩, op, price⟩ raw = a' at *
  obtain ⟨⟨e1, f1⟩, ⟨e2, f2⟩, ⟨e3, f3⟩, op', price'⟩ := a'
  unfold appM lgM at ca
  unfold lgM at cr
  dsimp only at ca cr
  refine go1 ?_
  refine c_draw [(0, false), (1, false), (2, false), (3, false), (4, false), (5, false), (6, true), (7, true), (8, false)] ?_
  refine go1 ?_
  refine gd_callR1 rfl (fun _ h => h) rfl [0] (cr) [(0, 0)] [] ⟨rfl, trivial, rfl, lm, mm⟩ rfl rfl rfl rfl ?_
  refine go1 ?_
  refine gd_call1 rfl (fun _ h => h) rfl [] (semR_of_semC (ca)) rfl [] trivial lm rfl ?_
  refine go1 ?_
  rw [hcast]
  exact ⟨(j, K2, ⟨⟨e1, f1⟩, ⟨e2, f2⟩, ⟨e3, f3⟩, op', price'⟩), ⟨by dsimp only; omega, by dsimp only; omega, h4⟩, by dsimp only; omega, (by dsimp only; exact vm [(1, _), (2, _)] [])⟩
 ·refine go1 ?_
  refine retn_a [_] [appM ⟨⟨c1, d1⟩, ⟨c2, d2⟩, ⟨c3, d3⟩, op, price⟩] K [] (by exact rvq) ⟨rfl, trivial, rfl, lm, mm⟩ (by kernel_rfl) ⟨_, h3, by omega, rfl⟩
end
section
variable {G : GS}
attribute [local irreducible] vOpsN vOpsG vOpsD vOpGD NextD vC SeqQ BlockQ
theorem eq_ac (a : List UInt8) (b s : Int) : eqM (.st [.str a, .int .u64 b, .int .u64 s]) (.st [.str a, .int .u64 b, .int .u64 s]) = some true := by
 simp [eqM, eqMs]
theorem eq_res (a : List UInt8) (c s g p : Int) : eqM (.st [.int .i64 c, .str a, .int .u64 s, .int .u64 g, .int .u64 p]) (.st [.int .i64 c, .str a, .int .u64 s, .int .u64 g, .int .u64 p]) = some true := by
 simp [eqM, eqMs]
theorem confS (f : Nat) (a : List UInt8) : confM tab (f + 1) 9 (.str a) = true := by rw [confM.eq_def]; rfl
theorem confU (f : Nat) (n : Int) : confM tab (f + 1) 23 (.int .u64 n) = true := by rw [confM.eq_def]; rfl
theorem confE (f : Nat) (n : Int) : confM tab (f + 1) 36 (.int .i64 n) = true := by rw [confM.eq_def]; rfl
theorem confMs_cons {T : Tab} {f o t : Nat} {fs : List (Nat × TypeId)} {m : MV} {l : List MV} {sz : Nat} {d : TD} (ht : Tab.find T t = some d) (hs : m.size = d.size) (hm : confM T f t m = true) (h : confMs T f fs (o + d.size) l sz = true) : confMs T f ((o, t) :: fs) o (m :: l) sz = true := by
 rw [confMs.eq_def]
 dsimp only
 rw [ht]
 dsimp only
 rw [hs, hm, h, Nat.beq_refl, Nat.beq_refl]
 rfl
theorem confMs_nil {T : Tab} {f n : Nat} : confMs T f [] n [] n = true := by rw [confMs.eq_def]; exact Nat.beq_refl n
theorem conf_ac (a : List UInt8) (b s : Int) : confM tab 9 91 (.st [.str a, .int .u64 b, .int .u64 s]) = true := by
 have h1 : Tab.find tab 91 = some (.struct [(0, 9), (1, 23), (2, 23)] 3) := by kernel_rfl
 rw [confM.eq_def]
 simp only [h1]
 exact confMs_cons (d := .str) (by kernel_rfl) rfl (confS 7 a) (confMs_cons (d := .int .u64) (by kernel_rfl) rfl (confU 7 b) (confMs_cons (d := .int .u64) (by kernel_rfl) rfl (confU 7 s) confMs_nil))
theorem conf_res (a : List UInt8) (c s g p : Int) : confM tab 9 48 (.st [.int .i64 c, .str a, .int .u64 s, .int .u64 g, .int .u64 p]) = true := by
 have h1 : Tab.find tab 48 = some (.struct [(0, 36), (1, 9), (2, 23), (3, 23), (4, 23)] 5) := by kernel_rfl
 rw [confM.eq_def]
 simp only [h1]
 exact confMs_cons (d := .int .i64) (by kernel_rfl) rfl (confE 7 c) (confMs_cons (d := .str) (by kernel_rfl) rfl (confS 7 a) (confMs_cons (d := .int .u64) (by kernel_rfl) rfl (confU 7 s) (confMs_cons (d := .int .u64) (by kernel_rfl) rfl (confU 7 g) (confMs_cons (d := .int .u64) (by kernel_rfl) rfl (confU 7 p) confMs_nil))))
theorem acSide (a : List UInt8) (b s : Int) : eqT Tryz.prog tab 91 = true ∧ confM tab 9 91 (.st [.str a, .int .u64 b, .int .u64 s]) = true ∧ confM tab 9 91 (.st [.str a, .int .u64 b, .int .u64 s]) = true := ⟨by kernel_rfl, conf_ac a b s, conf_ac a b s⟩
theorem resSide (a : List UInt8) (c s g p : Int) : eqT Tryz.prog tab 48 = true ∧ confM tab 9 48 (.st [.int .i64 c, .str a, .int .u64 s, .int .u64 g, .int .u64 p]) = true ∧ confM tab 9 48 (.st [.int .i64 c, .str a, .int .u64 s, .int .u64 g, .int .u64 p]) = true := ⟨by kernel_rfl, conf_res a c s g p, conf_res a c s g p⟩
theorem sameLg_m (l : LgS) (hl : l.acs.length < 1000000000) : SemC Tryz.prog G 26 [lgM l, lgM l] (.bool true) := by
 obtain ⟨acs, col⟩ := l
 unfold lgM
 dsimp only at *
 refine scq seat Tryz.func26 38 ?_
 refine goe1 ?_
 refine c_loop Nat (fun k => [(23, .int .i64 k), (22, .int .i64 acs.length), (3, .ptr 1 2 0 0 []), (2, .ptr 0 2 0 0 [])]) (fun _ => [(0, ⟨33, 2, false, 0, [.st [.sl acs.length (acs.map acM), .int .u64 col]]⟩), (1, ⟨33, 2, false, 0, [.st [.sl acs.length (acs.map acM), .int .u64 col]]⟩)]) 2 (fun k => k ≤ acs.length) (fun k => acs.length - k) 0 (Nat.zero_le _) (vm [(0, _), (1, _)] []) ?_
 intro k hk
 try dsimp only
 refine go1 ?_
 ((with_reducible apply c_cond); (case he => exact rfl); (all_goals intro h))
 ·have hk' : k < acs.length := by have := of_decide_eq_true h; omega
  have hel := acs_at hk'
  generalize acs[k] = a at *
  obtain ⟨nm, bal, seq⟩ := a
  replace hel : idxL (acs.map acM) acs.length (k : Int) = some (.st [.str nm, .int .u64 bal, .int .u64 seq]) := hel
  have hel := SomF.mk hel
  have he := SomF.mk (eq_ac nm bal seq)
  have hsd := SideF.mk (acSide nm bal seq)
  refine go1 ?_
  refine c_draw [(0, false), (1, false), (2, false), (3, false), (4, false), (5, false), (6, false), (7, false), (8, false), (9, false), (10, false)] ?_
  refine go1 ?_
  ((with_reducible apply c_cond); (case he => exact rfl); (all_goals intro h))
  ·exact absurd h (by simp)
  refine go1 ?_
  exact ⟨k + 1, by show k + 1 ≤ acs.length; omega, by show acs.length - (k + 1) < acs.length - k; omega, (by dsimp only; exact (vm [(0, _), (1, _)] []))⟩
 ·refine go1 ?_
  refine go0 ?_
  rfl
theorem sameRes_m (l : List ResS) (hl : l.length < 1000000000) : SemC Tryz.prog G 35 [.sl l.length (l.map resM), .sl l.length (l.map resM)] (.bool true) := by
 refine scq seat Tryz.func35 26 ?_
 refine goe1 ?_
 refine c_loop Nat (fun k => [(13, .int .i64 k), (12, .int .i64 l.length), (1, .sl l.length (l.map resM)), (0, .sl l.length (l.map resM))]) (fun _ => []) 0 (fun k => k ≤ l.length) (fun k => l.length - k) 0 (Nat.zero_le _) (vm [] []) ?_
 intro k hk
 try dsimp only
 refine go1 ?_
 ((with_reducible apply c_cond); (case he => exact rfl); (all_goals intro h))
 ·have hk' : k < l.length := by have := of_decide_eq_true h; omega
  have hel := res_at hk'
  generalize l[k] = a at *
  obtain ⟨c, sn, sq, gs, pr⟩ := a
  replace hel : idxL (l.map resM) l.length (k : Int) = some (.st [.int .i64 c, .str sn, .int .u64 sq, .int .u64 gs, .int .u64 pr]) := hel
  have hel := SomF.mk hel
  have he := SomF.mk (eq_res sn c sq gs pr)
  have hsd := SideF.mk (resSide sn c sq gs pr)
  refine go1 ?_
  refine c_draw [(0, false), (1, false), (2, false), (3, false), (4, false), (5, false), (6, false), (7, false), (8, false)] ?_
  refine go1 ?_
  ((with_reducible apply c_cond); (case he => exact rfl); (all_goals intro h))
  ·exact absurd h (by simp)
  refine go1 ?_
  exact ⟨k + 1, by show k + 1 ≤ l.length; omega, by show l.length - (k + 1) < l.length - k; omega, (by dsimp only; exact (vm [] []))⟩
 ·refine go1 ?_
  refine go0 ?_
  rfl
theorem sameApp_m (a : AppS) (ha : SmApp a) : SemC Tryz.prog G 17 [appM a, appM a] (.bool true) := by
 have c1 := sameLg_m (G := G) a.com (by have := ha.1.1; omega)
 have c2 := sameLg_m (G := G) a.chk (by have := ha.2.1.1; omega)
 have c3 := sameLg_m (G := G) a.nxt (by have := ha.2.2.1.1; omega)
 obtain ⟨⟨a1, b1⟩, ⟨a2, b2⟩, ⟨a3, b3⟩, op, price⟩ := a
 unfold appM lgM at *
 dsimp only at *
 cases op
 all_goals (
  refine scq seat Tryz.func17 38 ?_
  refine goe1 ?_
  refine g_call2 rfl (fun _ h => h) rfl (semR_of_semC (c1)) rfl lm ?_
  refine goe1 ?_
  refine g_call2 rfl (fun _ h => h) rfl (semR_of_semC (c2)) rfl lm ?_
  refine goe1 ?_
  refine g_call2 rfl (fun _ h => h) rfl (semR_of_semC (c3)) rfl lm ?_
  refine goe1 ?_
  refine go0 ?_
  rfl)
end
end Go.Proofs.YtohikcplmbkmeaaGreatDoor
namespace Go.Proofs
open Go.Shelf
def Tryz.sortAcc_ren : Go.Shelf.Ren := ⟨fun | 6 => 75 | 15 => 125 | 14 => 124 | 28 => 188 | 29 => 189 | 20 => 180 | 21 => 181 | 22 => 182 | 23 => 183 | 24 => 184 | 25 => 185 | 26 => 186 | 27 => 187 | 46 => 242 | 47 => 243 | 48 => 244 | 49 => 245 | 50 => 246 | 57 => 271 | n => n, fun | 22 => 22 | 24 => 91 | 25 => 140 | 3 => 3 | 39 => 190 | 0 => 0 | 53 => 178 | 55 => 23 | 4 => 4 | 46 => 239 | 45 => 238 | 50 => 196 | 5 => 5 | 9 => 9 | 66 => 296 | 70 => 227 | 76 => 331 | 77 => 283 | n => n, fun | n => n⟩
theorem Tryz.sortAcc : Go.Proofs.SlLaysF0.n6 Tryz.prog Tryz.sortAcc_ren := {
 mixed := by kernel_rfl
 f6 := ⟨Tryz.f75.name, by decide, Tryz.func75.trans (congrArg some (by kernel_rfl))⟩
 f14 := ⟨Tryz.f124.name, by decide, Tryz.func124.trans (congrArg some (by kernel_rfl))⟩
 f15 := Tryz.func125.trans (congrArg some (by kernel_rfl))
 f20 := ⟨Tryz.f180.name, by decide, Tryz.func180.trans (congrArg some (by kernel_rfl))⟩
 f21 := ⟨Tryz.f181.name, by decide, Tryz.func181.trans (congrArg some (by kernel_rfl))⟩
 f22 := ⟨Tryz.f182.name, by decide, Tryz.func182.trans (congrArg some (by kernel_rfl))⟩
 f23 := ⟨Tryz.f183.name, by decide, Tryz.func183.trans (congrArg some (by kernel_rfl))⟩
 f24 := ⟨Tryz.f184.name, by decide, Tryz.func184.trans (congrArg some (by kernel_rfl))⟩
 f25 := ⟨Tryz.f185.name, by decide, Tryz.func185.trans (congrArg some (by kernel_rfl))⟩
 f26 := ⟨Tryz.f186.name, by decide, Tryz.func186.trans (congrArg some (by kernel_rfl))⟩
 f27 := ⟨Tryz.f187.name, by decide, Tryz.func187.trans (congrArg some (by kernel_rfl))⟩
 f28 := Tryz.func188.trans (congrArg some (by kernel_rfl))
 f29 := Tryz.func189.trans (congrArg some (by kernel_rfl))
 f46 := ⟨Tryz.f242.name, by decide, Tryz.func242.trans (congrArg some (by kernel_rfl))⟩
 f47 := Tryz.func243.trans (congrArg some (by kernel_rfl))
 f48 := Tryz.func244.trans (congrArg some (by kernel_rfl))
 f49 := ⟨Tryz.f245.name, by decide, Tryz.func245.trans (congrArg some (by kernel_rfl))⟩
 f50 := ⟨Tryz.f246.name, by decide, Tryz.func246.trans (congrArg some (by kernel_rfl))⟩
 f57 := ⟨Tryz.f271.name, by decide, Tryz.func271.trans (congrArg some (by kernel_rfl))⟩
 t0 := Tryz.underlying0
 a0 := Tryz.isAgg0
 z0 := Tryz.sizeOf0
 v0 := Tryz.zeroValue0
 t3 := Tryz.underlying3
 a3 := Tryz.isAgg3
 z3 := Tryz.sizeOf3
 v3 := Tryz.zeroValue3
 t4 := Tryz.underlying4
 a4 := Tryz.isAgg4
 z4 := Tryz.sizeOf4
 v4 := Tryz.zeroValue4
 t5 := Tryz.underlying5
 a5 := Tryz.isAgg5
 z5 := Tryz.sizeOf5
 v5 := Tryz.zeroValue5
 t9 := Tryz.underlying9
 a9 := Tryz.isAgg9
 z9 := Tryz.sizeOf9
 v9 := Tryz.zeroValue9
 t22 := Tryz.underlying22
 a22 := Tryz.isAgg22
 z22 := Tryz.sizeOf22
 v22 := Tryz.zeroValue22
 t25 := Tryz.underlying140
 a25 := Tryz.isAgg140
 z25 := Tryz.sizeOf140
 v25 := Tryz.zeroValue140
 t39 := Tryz.underlying190
 a39 := Tryz.isAgg190
 z39 := Tryz.sizeOf190
 v39 := Tryz.zeroValue190
 t45 := Tryz.underlying238
 a45 := Tryz.isAgg238
 z45 := Tryz.sizeOf238
 v45 := Tryz.zeroValue238
 t46 := Tryz.underlying239
 a46 := Tryz.isAgg239
 z46 := Tryz.sizeOf239
 v46 := Tryz.zeroValue239
 t50 := Tryz.underlying196
 a50 := Tryz.isAgg196
 z50 := Tryz.sizeOf196
 v50 := Tryz.zeroValue196
 t53 := Tryz.underlying178
 a53 := Tryz.isAgg178
 z53 := Tryz.sizeOf178
 v53 := Tryz.zeroValue178
 t55 := Tryz.underlying23
 a55 := Tryz.isAgg23
 z55 := Tryz.sizeOf23
 v55 := Tryz.zeroValue23
 t66 := Tryz.underlying296
 a66 := Tryz.isAgg296
 z66 := Tryz.sizeOf296
 v66 := Tryz.zeroValue296
 t70 := Tryz.underlying227
 a70 := Tryz.isAgg227
 z70 := Tryz.sizeOf227
 v70 := Tryz.zeroValue227
 t76 := Tryz.underlying331
 a76 := Tryz.isAgg331
 z76 := Tryz.sizeOf331
 v76 := Tryz.zeroValue331
 t77 := Tryz.underlying283
 a77 := Tryz.isAgg283
 z77 := Tryz.sizeOf283
 v77 := Tryz.zeroValue283 }
end Go.Proofs
namespace Go.Proofs.YtohikcplmbkmeaaGreatDoor
open Go.RowKit
section
def genK : List AcS → List (List UInt8) → Nat
 | [], _ => 0
 | a :: r, ks => if nameS a.name = false then 10 else if a.name ∈ ks then 8 else genK r (ks ++ [a.name])
theorem find_ge {nm : List UInt8} {l : List AcS} (hs : SrtA l) : (0 ≤ findS nm l 0) ↔ (getS l nm).2 = true := by
 rcases getS_pos (nm := nm) hs with ⟨h1, _, _⟩ | ⟨h1, h2⟩
 ·rw [findS_pos hs h1, h1]; simp
 ·rw [findS_no h2, h1]; simp
theorem genG_2 : ∀ (r l : List AcS) (ks : List (List UInt8)), SrtA l → (∀ nm, (getS l nm).2 = decide (nm ∈ ks)) → (genG r l).2 = genK r ks
 | [], _, _, _, _ => rfl
 | a :: r, l, ks, hs, hk => by
  rw [genG, genK]
  by_cases h1 : nameS a.name = false
  ·rw [if_pos h1, if_pos h1]
  ·rw [if_neg h1, if_neg h1]
   by_cases h2 : a.name ∈ ks
   ·rw [if_pos h2, if_pos ((find_ge hs).2 (by rw [hk]; simpa using h2))]
   ·rw [if_neg h2, if_neg (fun h => h2 (by have := (find_ge hs).1 h; rw [hk] at this; simpa using this))]
    refine genG_2 r _ _ (srt_put hs) fun nm => ?_
    rw [put_has hs, hk]
    by_cases e : a.name = nm
    ·subst e; simp
    ·simp [e, Ne.symm e]
theorem genG_1 : ∀ (r l : List AcS), SrtA l → (genG r l).2 = 0 → SrtA (genG r l).1 ∧ (genG r l).1.Perm (l ++ r)
 | [], l, hs, _ => by rw [genG, List.append_nil]; exact ⟨hs, List.Perm.refl _⟩
 | a :: r, l, hs, h => by
  rw [genG] at h ⊢
  by_cases h1 : nameS a.name = false
  ·rw [if_pos h1] at h; exact absurd h (by decide)
  ·rw [if_neg h1] at h ⊢
   by_cases h2 : 0 ≤ findS a.name l 0
   ·rw [if_pos h2] at h; exact absurd h (by decide)
   ·rw [if_neg h2] at h ⊢
    obtain ⟨h3, h4⟩ := genG_1 r (putS a l) (srt_put hs) h
    refine ⟨h3, h4.trans ?_⟩
    have hno : (getS l a.name).2 = false := by
     cases hb : (getS l a.name).2 with
     | false => rfl
     | true => exact absurd ((find_ge hs).2 hb) h2
    have hp : (putS a l).Perm (a :: l) := by
     rw [putS_ins hs hno]
     have := List.perm_middle (a := a) (l₁ := l.take (posA a.name l)) (l₂ := l.drop (posA a.name l))
     rwa [List.take_append_drop] at this
    refine (hp.append_right r).trans ?_
    exact (List.perm_middle (a := a) (l₁ := l) (l₂ := r)).symm
theorem genK_names : ∀ (r : List AcS) (ks : List (List UInt8)), genK r ks = 0 → r.Pairwise (fun a b => a.name ≠ b.name) ∧ ∀ a ∈ r, a.name ∉ ks
 | [], _, _ => ⟨List.Pairwise.nil, by simp⟩
 | a :: r, ks, h => by
  rw [genK] at h
  split at h
  ·exact absurd h (by decide)
  ·split at h
   ·exact absurd h (by decide)
   ·rename_i hm
    obtain ⟨h1, h2⟩ := genK_names r _ h
    refine ⟨List.pairwise_cons.2 ⟨fun b hb e => h2 b hb (by rw [← e]; simp), h1⟩, fun b hb => ?_⟩
    rcases List.mem_cons.1 hb with rfl | hb
    ·exact hm
    ·exact fun hk => h2 b hb (List.mem_append_left _ hk)
theorem srt_uniq : ∀ {l m : List AcS}, SrtA l → SrtA m → l.Perm m → l = m
 | [], m, _, _, h => (List.nil_perm.1 h).symm
 | a :: r, [], _, _, h => absurd (List.perm_nil.1 h) (by simp)
 | a :: r, b :: s, hl, hm, h => by
  have h1 := List.pairwise_cons.1 hl
  have h2 := List.pairwise_cons.1 hm
  have hab : a = b := by
   rcases List.mem_cons.1 (h.subset (List.mem_cons_self ..)) with e | ha
   ·exact e
   ·rcases List.mem_cons.1 (h.symm.subset (List.mem_cons_self ..)) with e | hb
    ·exact e.symm
    ·have k1 := h2.1 a ha
     have k2 := h1.1 b hb
     rw [less_asym k1] at k2
     cases k2
  subst hab
  rw [srt_uniq h1.2 h2.2 h.cons_inv]
theorem srt_of_sorted {l m : List AcS} (hp : l.Perm m) (hd : m.Pairwise (fun a b => a.name ≠ b.name)) (hs : l.Pairwise (fun a b => Op.bytesLess b.name a.name = false)) : SrtA l := by
 have hd' : l.Pairwise (fun a b => a.name ≠ b.name) := hp.symm.pairwise hd (fun h e => h e.symm)
 exact hs.imp₂ (fun a b h1 h2 => less_tot h1 (Ne.symm h2)) hd'
def balS (l : List AcS) : Nat := (l.map (·.bal)).sum
theorem totS_2 : ∀ (l : List AcS) (s : Nat), (totS l s).2 = true ↔ (l = [] ∨ s + balS l < 18446744073709551616)
 | [], s => by simp [totS]
 | a :: r, s => by
  rw [totS]
  have ih := totS_2 r (addS s a.bal).1
  have e : balS (a :: r) = a.bal + balS r := by simp [balS]
  unfold addS at *
  by_cases h : s + a.bal < 18446744073709551616
  ·rw [if_pos h] at *
   rw [if_pos rfl, ih, e]
   dsimp only
   constructor
   ·rintro (rfl | h2)
    ·right; simp [balS]; omega
    ·right; omega
   ·rintro (h2 | h2)
    ·cases h2
    ·right; omega
  ·rw [if_neg h, if_neg (by simp), e]
   simp
   omega
theorem totS_perm {l m : List AcS} (h : l.Perm m) : (totS l 0).2 = (totS m 0).2 := by
 have hs : balS l = balS m := (h.map _).sum_nat
 have hn : l = [] ↔ m = [] := ⟨fun e => by subst e; exact List.nil_perm.1 h, fun e => by subst e; exact List.perm_nil.1 h⟩
 have h1 := totS_2 l 0
 have h2 := totS_2 m 0
 rw [hs, hn] at h1
 have := h1.trans h2.symm
 cases ha : (totS l 0).2 <;> cases hb : (totS m 0).2 <;> simp_all
end
section
open Go.RowKit Go.Lib Go.Shelf Go.Sort
instance : Inhabited AcS := ⟨ac0⟩
def encA (a : AcS) : List Value := [.string ⟨a.name.toArray⟩, .int .u64 a.bal, .int .u64 a.seq]
theorem isNaN_run (x : ByteArray) (w : World) : Calls Tryz.prog 126 #[.string x] w fun e w' => e = .returned (.bool false) ∧ w' = w := by
 go_enter Tryz.func126, Tryz.ntmps126
 go_wp2
 go_ret
 exact ⟨by simp, rfl⟩
theorem compare_run (x y : List UInt8) (w : World) : Calls Tryz.prog 77 #[.string ⟨x.toArray⟩, .string ⟨y.toArray⟩] w fun e w' => e = .returned (.int .i64 (cmpN x y)) ∧ w' = w := by
 have ex : (⟨x.toArray⟩ : ByteArray).toList = x := by rw [Lib.toList_data]
 have ey : (⟨y.toArray⟩ : ByteArray).toList = y := by rw [Lib.toList_data]
 have hgt : ∀ w, (binOp .gtr 9 (.string ⟨x.toArray⟩) (.string ⟨y.toArray⟩)).run Tryz.prog w = .ok (.bool (!(Op.bytesLess x y || x == y))) w := fun w => by simp [binOp, Op.stringOp, ex, ey]
 unfold cmpN
 by_cases h1 : Op.bytesLess x y = true
 ·rw [if_pos h1]
  go_enter Tryz.func77, Tryz.ntmps77
  go_wp2_with (go_at_call 126; refine (isNaN_run _ _).mono ?_; rintro e w' ⟨rfl, rfl⟩)
  go_ret
  exact ⟨rfl, rfl⟩
 ·rw [if_neg h1]
  have h1 : Op.bytesLess x y = false := by simpa using h1
  by_cases h2 : x = y
  ·subst h2
   rw [h1, beq_self_eq_true, Bool.or_true, Bool.not_true] at hgt
   rw [if_neg (by simp)]
   go_enter Tryz.func77, Tryz.ntmps77
   go_wp2_with (first | (go_at_call 126; refine (isNaN_run _ _).mono ?_; rintro e w' ⟨rfl, rfl⟩) | simp only [hgt, Result.andThen_ok])
   go_ret
   exact ⟨rfl, rfl⟩
  ·have h3 : (x == y) = false := beq_eq_false_iff_ne.2 h2
   rw [h1, h3, Bool.or_false, Bool.not_false] at hgt
   rw [if_pos (by simp [h1, h2])]
   go_enter Tryz.func77, Tryz.ntmps77
   go_wp2_with (first | (go_at_call 126; refine (isNaN_run _ _).mono ?_; rintro e w' ⟨rfl, rfl⟩) | simp only [hgt, Result.andThen_ok])
   go_ret
   exact ⟨rfl, rfl⟩
theorem gen1_run (a b : AcS) (W : World) : Calls Tryz.prog 76 #[.agg (encA a).toArray, .agg (encA b).toArray] W fun e w' => e = .returned (.int .i64 (cmpN a.name b.name)) ∧ ∃ q os', w' = grow (W.drewN q) os' := by
 have hcon := fun W' => compare_run a.name b.name W'
 unfold encA
 generalize cmpN a.name b.name = r at hcon ⊢
 go_enter Tryz.func76, Tryz.ntmps76
 go_wp2_with (go_at_call 77; refine (hcon _).mono ?_; rintro e w' ⟨rfl, rfl⟩)
 go_ret
 exact ⟨rfl, 0, _, by rw [alloc_eq_grow, alloc_eq_grow, grow_grow]; rfl⟩
end
section
open Go.RowKit Go.Lib Go.Shelf Go.Sort
variable {G : GS}
theorem encA_len (a : AcS) : (encA a).length = 3 := rfl
theorem enc_rep {w : World} {P : Prot} {adr : Adr} {a : AcS} {p : List Value} (h : Rep w P adr (acM a) p) : p = encA a := by
 unfold acM at h
 cases h with
 | st parts hp hr =>
  match parts, hp with
  | [p1, p2, p3], _ =>
   have h1 := hr 0 _ p1 rfl rfl
   have h2 := hr 1 _ p2 rfl rfl
   have h3 := hr 2 _ p3 rfl rfl
   cases h1
   cases h2
   cases h3
   rfl
theorem rep_enc (w : World) (P : Prot) (adr : Adr) (a : AcS) : Rep w P adr (acM a) (encA a) := by
 have h : Rep w P adr (.st [.str a.name, .int .u64 a.bal, .int .u64 a.seq]) ([[.string ⟨a.name.toArray⟩], [.int .u64 a.bal], [.int .u64 a.seq]] : List (List Value)).flatten := .st _ rfl (fun j m p hm hp => by
  match j with
  | 0 => simp at hm hp; subst hm; subst hp; exact .str
  | 1 => simp at hm hp; subst hm; subst hp; exact .int
  | 2 => simp at hm hp; subst hm; subst hp; exact .int
  | j + 3 => simp at hm)
 exact h
theorem parts_enc {w : World} {P : Prot} {adr : Adr} : ∀ {l : List AcS} {Q : List (List Value)}, Q.length = (l.map acM).length → (∀ (j : Nat) x p, (l.map acM)[j]? = some x → Q[j]? = some p → Rep w P adr x p) → Q = l.map encA
 | [], [], _, _ => rfl
 | [], _ :: _, h, _ => by simp at h
 | _ :: _, [], h, _ => by simp at h
 | a :: l, q :: Q, h, hr => by
  rw [enc_rep (hr 0 _ q rfl rfl), List.map_cons, parts_enc (l := l) (Q := Q) (by simpa using h) fun j x p hx hp => hr (j + 1) x p (by simpa using hx) (by simpa using hp)]
theorem flat_get : ∀ (l : List AcS) (j : Nat), j < l.length * 3 → (l.map encA).flatten[j]? = (encA (l.getD (j / 3) ac0))[j % 3]?
 | [], j, h => by simp at h
 | a :: l, j, h => by
  rw [List.map_cons, List.flatten_cons]
  by_cases hj : j < 3
  ·rw [List.getElem?_append_left (by rw [encA_len]; exact hj), show j / 3 = 0 by omega, show j % 3 = j by omega]
   rfl
  ·have h' : j - 3 < l.length * 3 := by simp at h; omega
   rw [List.getElem?_append_right (by rw [encA_len]; omega), encA_len, flat_get l (j - 3) h', show j / 3 = (j - 3) / 3 + 1 by omega, show (j - 3) % 3 = j % 3 by omega]
   rfl
theorem flatK_list (d : Array AcS) : (Go.Sort.flatK encA 3 d).toList = (d.toList.map encA).flatten := by
 apply List.ext_getElem?
 intro j
 have hl : (d.toList.map encA).flatten.length = d.size * 3 := by
  rw [flat3_len (fun p hp => by obtain ⟨a, _, rfl⟩ := List.mem_map.1 hp; rfl), List.length_map, Array.length_toList]
 by_cases hj : j < d.size * 3
 ·rw [flat_get _ _ (by rw [Array.length_toList]; exact hj), Array.getElem?_toList, Array.getElem?_eq_getElem (by rw [size_flatK]; exact hj)]
  have h1 := get_flatK encA 3 d j hj
  rw [getElem!_pos _ _ (by rw [size_flatK]; exact hj)] at h1
  rw [h1]
  have h2 : d[j / 3]! = d.toList.getD (j / 3) ac0 := by
   rw [getElem!_pos _ _ (by omega), List.getD_eq_getElem?_getD, Array.getElem?_toList, Array.getElem?_eq_getElem (by omega)]
   rfl
  rw [h2, List.getElem?_eq_getElem (by rw [encA_len]; omega), getElem!_pos _ _ (by rw [encA_len]; omega)]
 ·rw [List.getElem?_eq_none (by rw [Array.length_toList, size_flatK]; omega), List.getElem?_eq_none (by rw [hl]; omega)]
theorem put_cells {w : World} {g : Nat} {cur : Array Value} {ty : TypeId} (hg : w.heap[g]? = some (.cells cur ty (0, 0))) (F : Array Value) (hF : F.size ≤ cur.size) :
  ∃ row : Array Value, row.size = cur.size ∧ F.toList <+: row.toList ∧ putRow id w g 0 F = w.setRow g row := by
 refine ⟨putCells id 0 F cur, by simp [putCells], ?_, ?_⟩
 ·rw [List.prefix_iff_eq_take]
  apply List.ext_getElem?
  intro j
  rw [List.getElem?_take, Array.length_toList]
  split
  ·rename_i hj
   rw [Array.getElem?_toList, Array.getElem?_toList, Array.getElem?_eq_getElem hj, Array.getElem?_eq_getElem (by simp [putCells]; omega)]
   simp [putCells, hj]
  ·rename_i hj
   rw [List.getElem?_eq_none (by rw [Array.length_toList]; omega)]
 ·unfold putRow
  rw [mapBlock_congr w g _ (fun _ => putCells id 0 F cur) (fun c e fr h => by rw [hg] at h; injection h with h; injection h with h; rw [h])]
  unfold mapBlock World.setRow
  congr 1
def SortsA (P : Program) (f g1 : FuncId) : Prop := ∀ (g cap : Nat) (d : Array AcS) (w : World), HoldsK encA 3 w g 0 d → g < w.heap.size → d.size < 4611686018427387904 →
 Calls P f #[.slice (some ⟨g, 0, none⟩) d.size cap, .func (.func g1) #[] #[]] w fun e w' => e = .returned (.tuple #[]) ∧ ∃ d' n os, PermIn 0 d.size d d' ∧ SortedIn (ltOf fun x y : AcS => cmpN x.name y.name) 0 d.size d' ∧ w' = sortWorldK encA 3 w g 0 n d' os
theorem ltOf_less (a b : AcS) : ltOf (fun x y : AcS => cmpN x.name y.name) a b = Op.bytesLess a.name b.name := by
 unfold ltOf
 have := cmpN_lt a.name b.name
 cases h : Op.bytesLess a.name b.name with
 | true => exact decide_eq_true (this.2 h)
 | false => exact decide_eq_false fun hh => by rw [this.1 hh] at h; cases h
theorem sorted_list {l : List AcS} {d' : Array AcS} (hp : PermIn 0 l.toArray.size l.toArray d') (hs : SortedIn (ltOf fun x y : AcS => cmpN x.name y.name) 0 l.toArray.size d') : d'.toList.Perm l ∧ d'.toList.Pairwise (fun a b => Op.bytesLess b.name a.name = false) := by
 obtain ⟨h1, _, h3⟩ := hp
 have e1 : d'.extract 0 l.toArray.size = d' := by rw [← h1]; exact Array.extract_size
 have e2 : l.toArray.extract 0 l.toArray.size = l.toArray := Array.extract_size
 rw [e1, e2] at h3
 refine ⟨h3, List.pairwise_iff_getElem.2 fun i j hi hj hij => ?_⟩
 rw [Array.length_toList] at hi hj
 have := hs i j (Nat.zero_le _) hij (by omega)
 rw [ltOf_less, getElem!_pos d' j hj, getElem!_pos d' i hi] at this
 exact this
theorem fn_val {w : World} {P : Prot} {adr : Adr} {f : FuncId} {v : Value} (h : RepV w P adr (.fn f []) v) : v = .func (.func f) #[] #[] := by
 cases h with
 | val cs h =>
  cases h with
  | fn parts hp hr =>
   match parts, hp with
   | [], _ => rfl
theorem sort_some (hS : SortsA Tryz.prog 75 76) (l l' : List AcS) (hn0 : l ≠ []) (hl : l.length ≤ 100000) (hd : l.Pairwise (fun a b => a.name ≠ b.name)) (hs : SrtA l') (hp : l'.Perm l) :
    SemR Tryz.prog G 75 [.ms 0 3 0 l.length, .fn 76 []] [(0, rowA l)] 1 (.tup []) [(0, rowA l')] 1 := by
  have hlen0 : 0 < l.length := List.length_pos_iff.2 hn0
  intro w P adr vals hg hI hn hL hargs
  cases hargs with | cons a1 hargs => cases hargs with | cons a2 hargs =>
  cases hargs
  have e2 := fn_val a2
  subst e2
  rcases a1.ms_ with ⟨_, _, h0⟩ | ⟨g, o, cap, hg1, rfl, ho, hcap, hcm, cur0, ty0, hw0, hsz0⟩
  · omega
  have ho : o = 0 := by simpa using ho (.inr rfl)
  subst ho
  have hsz0 := hsz0 rfl
  rcases hI.blk 0 (rowA l) rfl with ⟨_, h2, _⟩ | ⟨g', h1, h2⟩
  · have : (rowA l).l.length = 0 := by rw [h2]; rfl
    rw [show (rowA l).l.length = l.length from List.length_map _] at this
    omega
  rw [hg1] at h1
  injection h1 with h1
  subst h1
  obtain ⟨cur, Q, hw, hQl, hQ3, hQr, hQp⟩ := h2.ofR rfl
  rw [hw0] at hw
  injection hw with hw
  injection hw with hw ht
  subst hw
  subst ht
  have hQe : Q = l.map encA := parts_enc hQl hQr
  subst hQe
  have hpg : ∀ o, ¬ P g o := fun o ho => absurd (h2.pe o ho) (Nat.not_lt_zero _)
  have hH : HoldsK encA 3 w g 0 l.toArray := fun j hj => by
    rw [size_flatK] at hj
    have h1 : (Go.Sort.flatK encA 3 l.toArray).toList[j]? = some (Go.Sort.flatK encA 3 l.toArray)[j]! := by
      rw [Array.getElem?_toList, Array.getElem?_eq_getElem (by rw [size_flatK]; exact hj), getElem!_pos _ _ (by rw [size_flatK]; exact hj)]
    rw [flatK_list] at h1
    refine ⟨?_, by simp [World.frozen?, hw0]⟩
    rw [Nat.zero_add]
    exact cell_row hw0 hQp h1
  have hlt : g < w.heap.size := (Array.getElem?_eq_some_iff.1 hw0).1
  refine (hS g cap l.toArray w hH hlt (by simp; omega)).mono ?_
  rintro e w' ⟨rfl, d', m, os, hpm, hst, rfl⟩
  obtain ⟨k1, k2⟩ := sorted_list hpm hst
  have hl' : d'.toList = l' := srt_uniq (srt_of_sorted k1 hd k2) hs (k1.trans hp.symm)
  have hds : d'.size = l.length := hpm.1
  obtain ⟨row, hr1, hr2, hr3⟩ := put_cells (w := Sort.ahead w m) (g := g) hw0 (Go.Sort.flatK encA 3 d') (by rw [size_flatK, hds, hsz0]; exact Nat.mul_le_mul_right 3 hcap)
  unfold sortWorldK putRowK
  rw [hr3]
  rw [flatK_list, hl'] at hr2
  have hka : Keep w (Sort.ahead w m) P P adr adr := ⟨fun _ _ h => h, fun _ _ _ => rfl, fun _ _ h => h, fun _ _ cur _ _ h => ⟨cur, h, rfl⟩⟩
  have hIa : InvM (Sort.ahead w m) P adr (fput (fun _ => none) 0 (rowA l)) := by
    refine ⟨fun c b hc => ?_, fun c c' b b' g hc hc' => hI.inj c c' b b' g ?_ ?_, hI.prot⟩
    · by_cases e : c = 0
      · subst e
        rw [fput_same] at hc
        injection hc with hc
        subst hc
        exact .inr ⟨g, hg1, h2.keep hka rfl fun _ h => h⟩
      · rw [fput_ne _ _ e] at hc; cases hc
    all_goals
      first
        | (by_cases e : c = 0
           · subst e; rw [fput_same] at hc; exact hc
           · rw [fput_ne _ _ e] at hc; cases hc)
        | (by_cases e : c' = 0
           · subst e; rw [fput_same] at hc'; exact hc'
           · rw [fput_ne _ _ e] at hc'; cases hc')
  have hl3 : l'.length = l.length := hp.length_eq
  obtain ⟨j1, j2⟩ := hIa.write (c := 0) (g := g) (b := rowA l) (b' := rowA l') (cur := cur0) (cur' := row) (by show (l.map acM).length ≤ (l'.map acM).length; simp; omega) (fput_same _ _ _) hg1 rfl rfl rfl hw0 hr1 (fun o ho => absurd ho (hpg o)) (parts := l'.map encA) (by show (l'.map encA).length = (l'.map acM).length; simp) (fun p hp => by obtain ⟨a, _, rfl⟩ := List.mem_map.1 hp; rfl) (fun j x p hx hp => by
    have hx : (l'.map acM)[j]? = some x := hx
    rw [List.getElem?_map] at hx hp
    cases hj : l'[j]? with
    | none => rw [hj] at hx; cases hx
    | some a =>
      rw [hj] at hx hp
      injection hx with hx
      injection hp with hp
      subst hx hp
      exact rep_enc _ _ _ _) hr2
  have hb : Below ((Sort.ahead w m).setRow g row).heap.size ((Sort.ahead w m).setRow g row) (grow ((Sort.ahead w m).setRow g row) os) :=
    ⟨rfl, rfl, rfl, by simp, fun k hk => by
      show ((((Sort.ahead w m).setRow g row).heap ++ os))[k]? = _
      rw [Array.getElem?_append_left hk]⟩
  have e0 : fput (fput (fun _ => none) 0 (rowA l)) 0 (rowA l') = fput (fun _ => none) 0 (rowA l') := by
    funext x
    by_cases e : x = 0
    · subst e; rw [fput_same, fput_same]
    · rw [fput_ne _ _ e, fput_ne _ _ e, fput_ne _ _ e]
  rw [e0] at j1
  have hkb := Keep.below' (adr := adr) j1.prot hb
  have j3 : InvM (grow ((Sort.ahead w m).setRow g row) os) P adr (fput (fun _ => none) 0 (rowA l')) := by
    refine ⟨fun c b hc => ?_, j1.inj, fun b o h => Nat.lt_of_lt_of_le (j1.prot b o h) hb.size⟩
    rcases j1.blk c b hc with h | ⟨g', h, h'⟩
    · exact .inl h
    · exact .inr ⟨g', h, h'.keep hkb (hb.block _ h'.lt) fun _ h => h⟩
  refine ⟨_, rfl, P, adr, j3.sub fun c b hc => ?_, .tup [] rfl (fun j m u hm => by simp at hm), (hka.trans j2).trans hkb, fun _ _ => rfl, hn, fun c g hc => .inr ⟨c, hc⟩, fun b o ho => .inl ho, ?_⟩
  · rw [VM.get_cons] at hc
    by_cases e : c = 0
    · subst e
      rw [fput_same]
      exact hc
    · rw [if_neg (Ne.symm e)] at hc
      cases hc
  · have hs := since_row (w := Sort.ahead w m) (ex := fun b => ∃ c0, adr c0 = some b) (g := g) row ⟨0, hg1⟩
    refine ⟨rfl, rfl, rfl, Nat.le_trans hs.size hb.size, fun b hb1 hne => ?_⟩
    have hb2 : b < ((Sort.ahead w m).setRow g row).heap.size := Nat.lt_of_lt_of_le hb1 hs.size
    exact (hb.block b hb2).trans (hs.block b hb1 hne)
end
section
variable {G : GS}
attribute [local irreducible] vOpsN vOpsG vOpsD vOpGD NextD vC SeqQ BlockQ
theorem len64_0 : SemC Tryz.prog G 189 [.int .u64 0] (.int .i64 0) := by
 refine scq seat Tryz.func189 25 ?_
 refine go1 ?_
 refine go0 ?_
 rfl
theorem len_0 : SemC Tryz.prog G 125 [.int .u64 0] (.int .i64 0) := by
 have c1 := len64_0 (G := G)
 refine scq seat Tryz.func125 8 ?_
 refine go1 ?_
 refine g_call2 rfl (fun _ h => h) rfl (semR_of_semC (c1)) rfl lm ?_
 refine go1 ?_
 refine go0 ?_
 rfl
theorem ins_0 : SemR Tryz.prog G 180 [.ms 0 3 0 0, .int .i64 0, .int .i64 0, .fn 76 []] [(0, rowA [])] 1 (.tup []) [(0, rowA [])] 1 := by
 unfold rowA
 refine srq seat Tryz.func180 53 ?_
 refine go1 ?_
 refine c_loop Unit (fun _ => [(8, .int .i64 1), (2, .int .i64 0)]) (fun _ => [(0, ⟨91, 3, true, 0, ([] : List AcS).map acM⟩)]) 1 (fun _ => True) (fun _ => 0) () trivial (vm [] []) ?_
 rintro ⟨⟩ -
 try dsimp only
 refine go1 ?_
 refine ⟨[], [], [], rfl, rfl, trivial, rfl, trivial, ?_⟩
 ·exact mm
theorem pdq_0 : SemR Tryz.prog G 124 [.ms 0 3 0 0, .int .i64 0, .int .i64 0, .int .i64 0, .fn 76 []] [(0, rowA [])] 1 (.tup []) [(0, rowA [])] 1 := by
 have c1 := ins_0 (G := G)
 unfold rowA at *
 refine srq seat Tryz.func124 148 ?_
 refine go1 ?_
 refine c_loop Unit (fun _ => [(0, .ms 0 3 0 0), (1, .int .i64 0), (2, .int .i64 0), (4, .fn 76 [])]) (fun _ => [(0, ⟨91, 3, true, 0, ([] : List AcS).map acM⟩)]) 1 (fun _ => True) (fun _ => 0) () trivial (vm [] []) ?_
 rintro ⟨⟩ -
 try dsimp only
 refine go1 ?_
 refine g_callR1 rfl (fun _ h => h) rfl (c1) [(0, 0)] [] ⟨rfl, trivial, rfl, lm, mm⟩ rfl rfl ?_
 refine go1 ?_
 refine ⟨[], [], [], rfl, rfl, trivial, rfl, trivial, ?_⟩
 ·exact mm
theorem sort_none : SemR Tryz.prog G 75 [.ms 0 3 0 0, .fn 76 []] [(0, rowA [])] 1 (.tup []) [(0, rowA [])] 1 := by
 have c1 := pdq_0 (G := G)
 have c2 := len_0 (G := G)
 unfold rowA at *
 refine srq seat Tryz.func75 14 ?_
 refine go1 ?_
 refine g_call2 rfl (fun _ h => h) rfl (semR_of_semC (c2)) rfl lm ?_
 refine go1 ?_
 refine g_callR1 rfl (fun _ h => h) rfl (c1) [(0, 0)] [] ⟨rfl, trivial, rfl, lm, mm⟩ rfl rfl ?_
 refine go1 ?_
 refine ⟨[], [], [], rfl, rfl, trivial, rfl, trivial, ?_⟩
 ·exact mm
theorem sort_r (hS : SortsA Tryz.prog 75 76) (l l' : List AcS) (hl : l.length ≤ 100000) (hd : l.Pairwise (fun a b => a.name ≠ b.name)) (hs : SrtA l') (hp : l'.Perm l) :
  SemR Tryz.prog G 75 [.ms 0 3 0 l.length, .fn 76 []] [(0, rowA l)] 1 (.tup []) [(0, rowA l')] 1 := by
 by_cases h : l = []
 ·subst h
  have e := List.perm_nil.1 hp
  subst e
  exact sort_none
 ·exact sort_some hS l l' h hl hd hs hp
end
section
variable {G : GS}
attribute [local irreducible] vOpsN vOpsG vOpsD vOpGD NextD vC SeqQ BlockQ
theorem ptotal_r (l : List AcS) (col : Nat) (hc : U64 col) (hl : l.length ≤ 100000) (hs : ∀ a ∈ l, U64 a.bal) : SemR Tryz.prog G 74 [.st [.ms 0 3 0 l.length, .int .u64 col]] [(0, rowA l)] 1 (.tup [.int .u64 (totS l col).1, .bool (totS l col).2]) [(0, rowA l)] 1 := by
 have cs := psum_u (G := G) (col :: l.map (·.bal)) (by simp; omega) (by
  intro a ha
  rcases List.mem_cons.1 ha with rfl | ha
  ·exact hc
  ·obtain ⟨x, hx, rfl⟩ := List.mem_map.1 ha
   exact hs x hx)
 rw [totS_col l hc] at cs
 generalize totS l col = p at *
 obtain ⟨v, b⟩ := p
 dsimp only at cs ⊢
 have hzl : (col :: l.map (·.bal)).length = l.length + 1 := by simp
 unfold rowA
 refine srq seat Tryz.func74 27 ?_
 refine go1 ?_
 refine c_loop Nat (fun k => [(13, .int .i64 k), (12, .int .i64 l.length), (11, .ms 0 3 0 l.length), (4, .ms 1 1 0 (k + 1))]) (fun k => [(0, ⟨91, 3, true, 0, l.map acM⟩), (1, ⟨23, 1, true, 0, u64s (col :: (l.take k).map (·.bal))⟩)]) 2 (fun k => k ≤ l.length) (fun k => l.length - k) 0 (Nat.zero_le _) (by rw [List.take_zero]; exact (vm [(1, _)] [])) ?_
 intro k hk
 try dsimp only
 refine go1 ?_
 ((with_reducible apply c_cond); (case he => exact rfl); (all_goals intro h))
 ·have hk' : k < l.length := by have := of_decide_eq_true h; omega
  have hel := acAt hk'
  have hsucc := u64s_pushB col l hk'
  have hll : (u64s (col :: (l.take k).map (·.bal))).length = k + 1 := by simp [u64s]; omega
  generalize l[k] = x at *
  obtain ⟨nm, bal, seq⟩ := x
  dsimp only at hsucc
  replace hel : nthM (l.map acM) (0 + k) = some (.st [.str nm, .int .u64 bal, .int .u64 seq]) := hel
  have hel := SomF.mk hel
  refine go1 ?_
  ((with_reducible apply g_mem); (case hq => exact rfl); (case hv => exact rfl); (case he => (intro R hR; refine sms hR ?_; (refine And.intro (Nat.le_refl _) ?_; refine ⟨_, rfl, ?_⟩; refine And.intro ⟨hll, app_ok (by kernel_rfl) pf⟩ ?_; refine ⟨u64s (col :: (l.take (k + 1)).map (·.bal)), sv (by rw [hsucc]; rfl), k + 1 + 1, sv pf, ?_⟩); exact hR)); (case hd => exact rfl))
  refine go1 ?_
  exact ⟨k + 1, by show k + 1 ≤ l.length; omega, by show l.length - (k + 1) < l.length - k; omega, (by dsimp only; exact (vm [(1, _)] []))⟩
 ·have hk' : k = l.length := by have := of_decide_eq_false h; omega
  subst hk'
  rw [List.take_length]
  have hlen : l.length = l.length := rfl
  generalize hZ : col :: l.map (·.bal) = Z at *
  rw [← hzl]
  refine go1 ?_
  refine g_call1 rfl (fun _ h => h) rfl (semR_of_semC cs) rfl [(1, Z.length)] ⟨(by show Z.length ≤ (u64s Z).length; simp [u64s]), trivial⟩ lm ?_
  refine go1 ?_
  refine ⟨[_, _], [], [], rfl, rfl, trivial, rfl, ⟨?_, ?_, trivial⟩, ?_⟩
  ·exact rv
  ·exact rv
  ·exact mm
theorem pgen0_r (hS : SortsA Tryz.prog 75 76) (l : List AcS) (hl : l.length ≤ 100000) (hsm : ∀ a ∈ l, SmAc a) : SemR Tryz.prog G 45 [.sl l.length (l.map acM)] [] 0 (.tup [lgM (genS l).1, .int .i64 (genS l).2]) [] 0 := by
 generalize hQ : genS l = Q
 obtain ⟨⟨Ql, Qc⟩, Qe⟩ := Q
 unfold genS at hQ
 unfold lgM
 dsimp only
 by_cases hn : 256 < l.length
 ·rw [if_pos hn] at hQ
  simp only [lg0, Prod.mk.injEq, LgS.mk.injEq] at hQ
  obtain ⟨⟨rfl, rfl⟩, rfl⟩ := hQ
  refine srq seat Tryz.func45 57 ?_
  refine go1 ?_
  ((with_reducible apply c_cond); (case he => exact rfl); (all_goals intro h))
  ·have _h0 := h
   refine go1 ?_
   refine go0 ?_
   refine ⟨[_, _], [], [], rfl, rfl, trivial, rfl, ⟨?_, ?_, trivial⟩, ?_⟩
   ·exact .inr ⟨_, rfl, lm⟩
   ·exact rv
   ·exact mm
  ·exact absurd (of_decide_eq_false h) (by omega)
 rw [if_neg hn] at hQ
 have hg2 : (genG l []).2 = genK l [] := genG_2 l [] [] List.Pairwise.nil (fun nm => by simp [getS])
 have hg1 := genG_1 l [] List.Pairwise.nil
 have hgn := genK_names l []
 generalize hv : genG l [] = v at *
 obtain ⟨vl, ve⟩ := v
 dsimp only at hQ hg1 hg2
 subst hg2
 have ct := ptotal_r (G := G) l 0 (by unfold U64; omega) hl (fun a ha => (hsm a ha).2.1)
 have co := ownL_row (G := G) ⟨l, 0⟩ (by dsimp only; omega)
 unfold lgM at co
 dsimp only at co
 generalize hK : genK l [] = e at *
 refine srq seat Tryz.func45 57 ?_
 refine go1 ?_
 ((with_reducible apply c_cond); (case he => exact rfl); (all_goals intro h))
 ·exact absurd (of_decide_eq_true h) (by omega)
 refine go1 ?_
 refine c_loop (Nat × List (List UInt8)) (fun x => [(19, .int .i64 x.1), (18, .int .i64 l.length), (17, .sl l.length (l.map acM)), (4, .mp 1), (2, .ptr 0 2 0 0 []), (0, .sl l.length (l.map acM))]) (fun x => [(0, ⟨33, 2, false, 0, [.st [.nils, .int .u64 0]]⟩), (1, ⟨132, 0, false, 0, [namesM x.2]⟩)]) 2 (fun x => x.1 ≤ l.length ∧ x.2.length ≤ x.1 ∧ genK (l.drop x.1) x.2 = e) (fun x => l.length - x.1) (0, []) ⟨Nat.zero_le _, Nat.zero_le _, by rw [List.drop_zero]; exact hK⟩ (by dsimp only; exact (vm [(0, _), (1, _)] [])) ?_
 rintro ⟨k, ks⟩ ⟨hk, hks, hR⟩
 unfold namesM
 try dsimp only
 dsimp only at hk hks hR
 refine go1 ?_
 ((with_reducible apply c_cond); (case he => exact rfl); (all_goals intro h))
 ·have hk' : k < l.length := by have := of_decide_eq_true h; omega
  have hel := acs_at hk'
  have hsa := hsm _ (List.getElem_mem hk')
  have c1 := pname_m (G := G) l[k].name (by have := hsa.1; omega)
  rw [List.drop_eq_getElem_cons hk', genK] at hR
  generalize l[k] = a at *
  obtain ⟨nm, bal, seq⟩ := a
  replace hel : idxL (l.map acM) l.length (k : Int) = some (.st [.str nm, .int .u64 bal, .int .u64 seq]) := hel
  have hel := SomF.mk hel
  dsimp only at hR c1
  by_cases hnm : nameS nm = false
  ·rw [hnm] at c1
   rw [if_pos hnm] at hR
   subst hR
   rw [if_pos (by omega)] at hQ
   simp only [lg0, Prod.mk.injEq, LgS.mk.injEq] at hQ
   obtain ⟨⟨rfl, rfl⟩, rfl⟩ := hQ
   refine go1 ?_
   refine g_call2 rfl (fun _ h => h) rfl (semR_of_semC (c1)) rfl lm ?_
   refine go1 ?_
   refine go0 ?_
   refine ⟨[_, _], [], [], rfl, rfl, trivial, rfl, ⟨?_, ?_, trivial⟩, ?_⟩
   ·exact .inr ⟨_, rfl, lm⟩
   ·exact rv
   ·exact mm
  rw [if_neg hnm] at hR
  have hnm : nameS nm = true := by simpa using hnm
  rw [hnm] at c1
  have hz := SideF.mk (show (List.replicate ks.length (MV.st [])).length = (ks.map MV.str).length by simp)
  by_cases hm : nm ∈ ks
  ·rw [if_pos hm] at hR
   subst hR
   rw [if_pos (by omega)] at hQ
   simp only [lg0, Prod.mk.injEq, LgS.mk.injEq] at hQ
   obtain ⟨⟨rfl, rfl⟩, rfl⟩ := hQ
   obtain ⟨j, hj, hjl⟩ := findM_yes (i := 0) hm
   have hj := SomF.mk hj
   have hu := SomF.mk (show nthM (List.replicate ks.length (MV.st [])) (0 + j) = some (MV.st []) by rw [nthM_eq, Nat.zero_add]; simp [hjl])
   refine go1 ?_
   refine g_call2 rfl (fun _ h => h) rfl (semR_of_semC (c1)) rfl lm ?_
   refine go1 ?_
   refine go0 ?_
   refine ⟨[_, _], [], [], rfl, rfl, trivial, rfl, ⟨?_, ?_, trivial⟩, ?_⟩
   ·exact .inr ⟨_, rfl, lm⟩
   ·exact rv
   ·exact mm
  ·rw [if_neg hm] at hR
   have hj := SomF.mk (findM_no (i := 0) hm)
   have hv := EqF.mk (show [MV.mpv (ks.map MV.str ++ [.str nm]) (List.replicate ks.length (MV.st []) ++ [.st []])] = [MV.mpv ((ks ++ [nm]).map MV.str) (List.replicate (ks ++ [nm]).length (.st []))] by rw [List.map_append, List.length_append, List.length_singleton, List.replicate_succ']; rfl)
   refine go1 ?_
   refine g_call2 rfl (fun _ h => h) rfl (semR_of_semC (c1)) rfl lm ?_
   refine go1 ?_
   exact ⟨(k + 1, ks ++ [nm]), ⟨by dsimp only; omega, by simp; omega, hR⟩, by dsimp only; omega, (by dsimp only; exact (vm [(0, _), (1, _)] []))⟩
 ·have hk' : k = l.length := by have := of_decide_eq_false h; omega
  subst hk'
  rw [List.drop_length, genK] at hR
  subst hR
  rw [if_neg (by simp)] at hQ
  obtain ⟨hs1, hs2⟩ := hg1 rfl
  rw [List.nil_append] at hs2
  have hd := (hgn rfl).1
  have cs := sort_r (G := G) hS l vl hl hd hs1 hs2
  rw [← totS_perm hs2.symm] at hQ
  have hvl := hs2.length_eq
  unfold rowA at co ct cs
  generalize totS l 0 = p at *
  obtain ⟨tot, ok⟩ := p
  dsimp only at ct hQ
  refine go1 ?_
  refine g_callR1 rfl (fun _ h => h) rfl (co) [] [] ⟨rfl, trivial, rfl, lm, mm⟩ rfl rfl ?_
  refine go1 ?_
  refine g_callR1 rfl (fun _ h => h) rfl (ct) [(0, 5)] [] ⟨rfl, trivial, rfl, lm, mm⟩ rfl rfl ?_
  refine go1 ?_
  cases ok with
  | false =>
   rw [if_pos rfl] at hQ
   simp only [lg0, Prod.mk.injEq, LgS.mk.injEq] at hQ
   obtain ⟨⟨rfl, rfl⟩, rfl⟩ := hQ
   refine go1 ?_
   refine go0 ?_
   refine ⟨[_, _], [], [], rfl, rfl, trivial, rfl, ⟨?_, ?_, trivial⟩, ?_⟩
   ·exact .inr ⟨_, rfl, lm⟩
   ·exact rv
   ·exact mm
  | true =>
   rw [if_neg (by simp)] at hQ
   simp only [Prod.mk.injEq, LgS.mk.injEq] at hQ
   obtain ⟨⟨rfl, rfl⟩, rfl⟩ := hQ
   refine go1 ?_
   refine g_callR1 rfl (fun _ h => h) rfl (cs) [(0, 5)] [] ⟨rfl, trivial, rfl, lm, mm⟩ rfl rfl ?_
   refine go1 ?_
   refine go0 ?_
   rw [← hvl]
   refine ⟨[_, _], [], [(5, vl.length)], rfl, rfl, ?_, rfl, ⟨?_, ?_, trivial⟩, ?_⟩
   ·exact ⟨by show vl.length ≤ (vl.map acM).length; simp, trivial⟩
   ·exact .inr ⟨_, rfl, lm⟩
   ·exact rv
   ·exact mm
end
section
attribute [local irreducible] vOpsN vOpsG vOpsD vOpGD NextD vC SeqQ BlockQ
theorem pinit0_r (hS : SortsA Tryz.prog 75 76) (l : List AcS) (p : Nat) (hl : l.length ≤ 100000) (hsm : ∀ a ∈ l, SmAc a) (hp : U64 p) : SemR Tryz.prog GU 15 [.sl l.length (l.map acM), .int .u64 p] [] 0 (.tup [appM (initS l p).1, .int .i64 (initS l p).2]) [] 0 := by
 have c1 := pgen0_r (G := GU) hS l hl hsm
 have hgs := genS_sm hsm
 have co := ownL_r (G := GU) (genS l).1 (by have := hgs.1; omega)
 unfold initS
 generalize genS l = y at *
 obtain ⟨⟨nacs, ncol⟩, e⟩ := y
 unfold lgM at c1 co
 dsimp only at *
 by_cases he : e = 0
 ·rw [if_neg (by simpa using he)]
  show SemR _ _ _ _ _ _ (.tup [.st [.st [.sl nacs.length (nacs.map acM), .int .u64 ncol], .st [.sl nacs.length (nacs.map acM), .int .u64 ncol], .st [.sl 0 [], .int .u64 (0 : Nat)], .bool false, .int .u64 p], _]) _ _
  refine srq seat Tryz.func15 22 ?_
  refine go1 ?_
  refine g_call2 rfl (fun _ h => h) rfl (c1) rfl lm ?_
  refine go1 ?_
  ((with_reducible apply c_cond); (case he => exact rfl); (all_goals intro h))
  ·exact absurd he (fun he => by subst he; simp at h)
  refine go1 ?_
  refine c_draw [(0, false), (1, false), (2, true), (3, false), (4, false), (5, false), (6, false)] ?_
  refine go1 ?_
  refine gd_call1 rfl (fun _ h => h) rfl [] (co) rfl [] trivial lm rfl ?_
  refine go1 ?_
  refine go0 ?_
  refine ⟨[_, _], [], [], rfl, rfl, trivial, rfl, ⟨?_, ?_, trivial⟩, ?_⟩
  ·exact .inr ⟨_, rfl, ⟨rel_lg, rel_lg, rel_lg0, ⟨rfl, rfl⟩, ⟨rfl, rfl⟩, trivial⟩⟩
  ·exact rv
  ·exact mm
 ·rw [if_pos he]
  dsimp only
  refine srq seat Tryz.func15 22 ?_
  refine go1 ?_
  refine g_call2 rfl (fun _ h => h) rfl (c1) rfl lm ?_
  refine go1 ?_
  ((with_reducible apply c_cond); (case he => exact rfl); (all_goals intro h))
  ·refine go1 ?_
   refine go0 ?_
   refine ⟨[_, _], [], [], rfl, rfl, trivial, rfl, ⟨?_, ?_, trivial⟩, ?_⟩
   ·exact rel_app0
   ·exact rv
   ·exact mm
  ·exfalso
   have : ¬ (e : Int) ≠ 0 := by simpa using h
   omega
end
section
open Go.RowKit Go.Lib Go.Shelf Go.Sort
theorem swoA : SWO (ltOf fun x y : AcS => cmpN x.name y.name) where
 irrefl x := by rw [ltOf_less]; exact less_irr _
 trans x y z h1 h2 := by rw [ltOf_less] at *; exact less_trans h1 h2
 ntrans x y z h1 h2 := by
  rw [ltOf_less] at *
  cases h : Op.bytesLess x.name z.name with
  | false => rfl
  | true =>
   exfalso
   by_cases e : z.name = y.name
   ·rw [e, h1] at h; cases h
   ·have h3 := less_tot h2 (Ne.symm e)
    rw [less_trans h h3] at h1
    cases h1
theorem sortsA : SortsA Tryz.prog 75 76 := by
 intro g cap d w hH hg hd
 have eg : ∀ args w, (callFunc 76 args).run Tryz.prog w = .ok (.enter 76 args) w := enters_of Tryz.func76 (by kernel_rfl) rfl
 exact AnyQ.slices_SortFunc Tryz.sortAcc 3 Tryz.isAgg91 Tryz.sizeOf91 encA (fun _ => rfl) (fun x v hv => by simp [encA] at hv; rcases hv with rfl | rfl | rfl <;> rfl) (fun x y => cmpN x.name y.name) swoA 76 #[] g 0 cap d w eg (fun _ _ _ _ x y => gen1_run x y _) hH hg hd
theorem pinit_r (l : List AcS) (p : Nat) (hl : l.length ≤ 100000) (hsm : ∀ a ∈ l, SmAc a) (hp : U64 p) : SemR Tryz.prog GU 15 [.sl l.length (l.map acM), .int .u64 p] [] 0 (.tup [appM (initS l p).1, .int .i64 (initS l p).2]) [] 0 := pinit0_r sortsA l p hl hsm hp
end
section
variable {G : GS}
attribute [local irreducible] vOpsN vOpsG vOpsD vOpGD NextD vC SeqQ BlockQ
section
variable {T : Tab} {rs : List ResultVar} {M : VM} {E : VE} {n : Nat}
theorem rete_a {Φ : MV → VM → Nat → Prop} (vs rv : List MV) (M1 : VM) (n1 : Nat) (σ bs : List (Nat × Nat)) (h1 : vRets T M E rs (fun v => v = vs)) (hm : LMatch 0 rv M1 n1 vs M σ bs) (hP : Φ (tupM rv) M1 n1) : vRetE T 0 rs Φ .ret E M n :=
 vRets_mono (fun v hv => by subst hv; exact ⟨tupM rv, M1, n1, hP, rv, σ, bs, rfl, hm⟩) h1
end
abbrev MadeP (L : List Int) (r : MV) (M : VM) (k : Nat) : Prop := ∃ (N : Nat) (a : AppS) (raws : List (List UInt8)), N ≤ 1000 ∧ r = .tup [appM a, rawsM raws, numP] ∧ M = numB L N ∧ k = 1 ∧ MadeA a ∧ raws.length ≤ 5 ∧ ∀ b ∈ raws, b.length ≤ 4096
theorem made_e (L : List Int) : SemE Tryz.prog G 18 [intsM L] [] 0 (MadeP L) := by
 refine semE_of_vc seat Tryz.func18 rfl rfl (Nat.le_of_ble_eq_true rfl) (Nat.le_of_ble_eq_true rfl) (N := 16) rfl rfl ?_
 refine go1 ?_
 refine g_callR1 rfl (fun _ h => h) rfl (from_r (G := G) L) [] [] ⟨rfl, trivial, rfl, lm, mm⟩ rfl rfl ?_
 refine go1 ?_
 refine g_callN1 rfl (fun _ h => h) rfl (app_n (G := G) L 0 (by omega)) rfl 4 [] ⟨rfl, trivial, rfl, lm, mm⟩ rfl ?_
 rintro _ N1 ⟨a, ha, hN1, rfl⟩
 have cr := raws_r (G := G) L N1 a 5 (by omega) ha.sm (by omega)
 have kr := rawsS_ok (L := L) (N := N1) (n := 5) ha.sm (by omega)
 generalize rawsS L N1 a 5 = rw' at *
 obtain ⟨raws, N2⟩ := rw'
 dsimp only at cr kr
 obtain ⟨⟨a1, b1⟩, ⟨a2, b2⟩, ⟨a3, b3⟩, op, price⟩ := a
 unfold appM lgM at *
 dsimp only at *
 refine go1 ?_
 refine c_draw [(0, false), (1, false), (2, false), (3, true), (4, false), (5, false), (6, false), (7, false)] ?_
 refine go1 ?_
 refine gd_callR1 rfl (fun _ h => h) rfl [4] (cr) [(0, 4)] [] ⟨rfl, trivial, rfl, lm, mm⟩ rfl rfl rfl rfl ?_
 refine go1 ?_
 refine rete_a [_, _, _] [appM ⟨⟨a1, b1⟩, ⟨a2, b2⟩, ⟨a3, b3⟩, op, price⟩, rawsM raws, numP] (numB L N2) 1 [(0, 4)] [] (by (refine go0 ?_); exact rfl) ⟨rfl, trivial, rfl, lm, mm⟩ ⟨N2, _, raws, by omega, rfl, rfl, rfl, ha, kr.2.1, kr.1⟩
end
section
attribute [local irreducible] vOpsN vOpsG vOpsD vOpGD NextD vC SeqQ BlockQ
def accK : List AcS := [⟨[97, 110, 110], 1000, 0⟩]
def txK : TxS := ⟨[97, 110, 110], 0, 300, 0, [], [⟨[98, 111, 98], 5⟩]⟩
def rawK : List UInt8 := [10, 3, 97, 110, 110, 24, 172, 2, 50, 7, 10, 3, 98, 111, 98, 16, 5]
theorem k1 : (initS accK 0).2 = 0 := by kernel_rfl
theorem k2 : encodeS txK = (rawK, 0) := by kernel_rfl
theorem k3 : (checkS (initS accK 0).1 rawK).code = 0 := by kernel_rfl
theorem k4 : (checkS (acceptS (initS accK 0).1 rawK) rawK).code = 14 := by kernel_rfl
theorem k5 : procS (acceptS (initS accK 0).1 rawK) [rawK] = true := by kernel_rfl
theorem k6 : (finS (acceptS (initS accK 0).1 rawK) [rawK]).2.2 = 0 := by kernel_rfl
theorem k7 : (finS (acceptS (initS accK 0).1 rawK) [rawK]).2.1.length = 1 := by kernel_rfl
theorem k8 : (finS (finS (acceptS (initS accK 0).1 rawK) [rawK]).1 []).2.2 = 9 := by kernel_rfl
theorem k9 : (comS (finS (acceptS (initS accK 0).1 rawK) [rawK]).1).2 = 0 := by kernel_rfl
theorem k10 : (comS (finS (acceptS (initS accK 0).1 rawK) [rawK]).1).1.com.acs.length = 2 := by kernel_rfl
theorem k11 : resetS (acceptS (initS accK 0).1 rawK) = (initS accK 0).1 := by kernel_rfl
theorem accK_sm : ∀ a ∈ accK, SmAc a := by
 intro a ha
 rw [List.mem_singleton.1 ha]
 exact ⟨by decide, by unfold U64; decide, by unfold U64; decide⟩
theorem txK_sm : SmTx txK := by
 refine ⟨by decide, by unfold U64; decide, by unfold U64; decide, by unfold U64; decide, by decide, by decide, ?_⟩
 intro x hx
 rw [List.mem_singleton.1 hx]
 exact ⟨by decide, by unfold U64; decide⟩
theorem known_core {a b c d c' : AppS} {r1 r2 : ResS} {rs rs' : List ResS} (h1 : r1.code = 0) (h2 : r2.code = 14) (h3 : rs.length = 1) (h4 : d.com.acs.length = 2)
  (c1 : SemR Tryz.prog GU 15 [.sl 1 (accK.map acM), .int .u64 0] [] 0 (.tup [appM a, .int .i64 0]) [] 0)
  (c2 : SemR Tryz.prog GU 44 [txM txK] [] 0 (.tup [.sl rawK.length (u8s rawK), .int .i64 0]) [] 0)
  (c3 : SemC Tryz.prog GU 20 [appM a, .sl rawK.length (u8s rawK)] (appM b))
  (c4 : SemR Tryz.prog GU 31 [appM b, rawsM [rawK]] [] 0 (.tup [appM c, .sl rs.length (rs.map resM), .int .i64 0]) [] 0)
  (c5 : SemR Tryz.prog GU 31 [appM c, rawsM []] [] 0 (.tup [appM c', .sl rs'.length (rs'.map resM), .int .i64 9]) [] 0)
  (c6 : SemR Tryz.prog GU 28 [appM c] [] 0 (.tup [appM d, .int .i64 0]) [] 0)
  (c7 : SemC Tryz.prog GU 21 [appM a, .sl rawK.length (u8s rawK)] (resM r1))
  (c8 : SemC Tryz.prog GU 21 [appM b, .sl rawK.length (u8s rawK)] (resM r2))
  (c9 : SemC Tryz.prog GU 33 [appM b, rawsM [rawK]] (.bool true))
  (c10 : SemC Tryz.prog GU 24 [appM b] (appM a))
  (c11 : SemC Tryz.prog GU 17 [appM a, appM a] (.bool true)) :
  SemC Tryz.prog GU 12 [] (.bool true) := by
 obtain ⟨⟨a1, x1⟩, ⟨a2, x2⟩, ⟨a3, x3⟩, ao, ap⟩ := a
 obtain ⟨⟨b1, y1⟩, ⟨b2, y2⟩, ⟨b3, y3⟩, bo, bp⟩ := b
 obtain ⟨⟨e1, z1⟩, ⟨e2, z2⟩, ⟨e3, z3⟩, eo, ep⟩ := c
 obtain ⟨⟨d1, w1⟩, ⟨d2, w2⟩, ⟨d3, w3⟩, do_, dp⟩ := d
 obtain ⟨⟨g1, v1⟩, ⟨g2, v2⟩, ⟨g3, v3⟩, go_, gp⟩ := c'
 obtain ⟨q1, q2, q3, q4, q5⟩ := r1
 obtain ⟨p1, p2, p3, p4, p5⟩ := r2
 dsimp only at h1 h2 h4
 subst h1
 subst h2
 unfold appM lgM resM rawsM at *
 dsimp only at *
 rw [h3] at c4
 rw [h4] at c6
 refine scq seat Tryz.func12 101 ?_
 refine go1 ?_
 refine g_call1 rfl (fun _ h => h) rfl (c1) rfl [(2, 1)] mm lm ?_
 refine go1 ?_
 refine g_call1 rfl (fun _ h => h) rfl (c2) rfl [(10, 1)] mm lm ?_
 refine go1 ?_
 refine g_call2 rfl (fun _ h => h) rfl (semR_of_semC (c3)) rfl lm ?_
 refine go1 ?_
 refine g_call1 rfl (fun _ h => h) rfl (c4) rfl [(23, 1)] mm lm ?_
 refine go1 ?_
 refine g_call2 rfl (fun _ h => h) rfl (c5) rfl lm ?_
 refine go1 ?_
 refine g_call2 rfl (fun _ h => h) rfl (c6) rfl lm ?_
 refine go1 ?_
 refine c_draw [(0, false), (1, false), (2, false), (3, false), (4, false), (5, true), (6, false), (7, false), (8, false), (9, false), (10, false), (11, false), (12, true), (13, false), (14, false), (15, false), (16, false), (17, false), (18, false), (19, false), (20, true), (21, false), (22, false), (23, false), (24, false), (25, false), (26, false), (27, false), (28, false), (29, false), (30, false), (31, false), (32, false), (33, false), (34, false), (35, false), (36, false), (37, false), (38, false), (39, false), (40, false), (41, false), (42, false), (43, false), (44, false), (45, false), (46, false), (47, false), (48, true), (49, false), (50, true), (51, false), (52, false)] ?_
 refine go1 ?_
 refine gd_call1 rfl (fun _ h => h) rfl [] (semR_of_semC (c7)) rfl [] trivial lm rfl ?_
 refine go1 ?_
 refine gd_call1 rfl (fun _ h => h) rfl [] (semR_of_semC (c8)) rfl [] trivial lm rfl ?_
 refine go1 ?_
 refine gd_call1 rfl (fun _ h => h) rfl [67] (semR_of_semC (c9)) rfl [(67, 1)] mm lm rfl ?_
 refine go1 ?_
 refine gd_call1 rfl (fun _ h => h) rfl [] (semR_of_semC (c10)) rfl [] trivial lm rfl ?_
 refine go1 ?_
 refine gd_call1 rfl (fun _ h => h) rfl [] (semR_of_semC (c11)) rfl [] trivial lm rfl ?_
 refine go1 ?_
 refine go0 ?_
 rfl
theorem known_m : SemC Tryz.prog GU 12 [] (.bool true) := by
 have hsa := initS_sm (p := 0) accK_sm (by unfold U64; decide)
 have hra : rawK.length ≤ 140737488355328 := by decide
 have hsb := acceptS_sm (raw := rawK) hsa
 have hr1 : ∀ b ∈ [rawK], b.length ≤ 140737488355328 := by intro b hb; rw [List.mem_singleton.1 hb]; exact hra
 have hsc := (finS_sm (raws := [rawK]) hsb).1
 have c1 := pinit_r accK 0 (by decide) accK_sm (by unfold U64; decide)
 have c2 := encode_r (G := GU) txK txK_sm
 have c4 := pfin_r _ [rawK] hsb (by decide) hr1
 have c5 := pfin_r _ [] hsc (by decide) (by simp)
 have c6 := pcommit_r _ hsc
 have c9 := pproc_m _ [rawK] hsb (by decide) hr1
 have c10 := preset_m _ hsb
 rw [k1] at c1
 rw [k2] at c2
 rw [k6] at c4
 rw [k8] at c5
 rw [k9] at c6
 rw [k5] at c9
 rw [k11] at c10
 exact known_core k3 k4 k7 k10 c1 c2 (paccept_m _ rawK hsa hra) c4 c5 c6 (pcheck_m _ rawK hsa hra) (pcheck_m _ rawK hsb hra) c9 c10 (sameApp_m _ hsa)
set_option maxHeartbeats 140737488355328 in
theorem long_m (k : List Int) (hk : k.length ≤ 140737488355328) : SemC Tryz.prog GU 10 [.sl 1 [intsM k]] (.bool (decide (160 < k.length))) := by
 refine scq seat Tryz.func10 19 ?_
 refine go1 ?_
 refine c_loop Nat (fun j => [(8, .int .i64 j), (7, .int .i64 1), (6, .sl 1 [intsM k]), (3, .int .i64 ((j * k.length : Nat) : Int))]) (fun j => []) 0 (fun j => j ≤ 1) (fun j => 1 - j) 0 (by omega) (by rw [Nat.zero_mul]; exact (vm [] [])) ?_
 intro j hj
 try dsimp only
 refine go1 ?_
 ((with_reducible apply c_cond); (case he => exact rfl); (all_goals intro h))
 ·have hj' : j = 0 := by have := of_decide_eq_true h; omega
  subst hj'
  rw [Nat.zero_mul]
  unfold intsM
  refine go1 ?_
  exact ⟨1, by show 1 ≤ 1; omega, by show 1 - 1 < 1 - 0; omega, (by dsimp only; rw [Nat.one_mul]; exact (vm [] []))⟩
 ·have hj' : j = 1 := by have := of_decide_eq_false h; omega
  subst hj'
  rw [Nat.one_mul]
  refine go1 ?_
  refine go0 ?_
  show MV.bool (decide ((k.length : Int) > 160)) = _
  congr 1
  exact decide_eq_decide.2 (by omega)
def smallS (l : List AcS) : Nat := l.length + (l.map (·.name.length)).sum
end
end Go.Proofs.YtohikcplmbkmeaaGreatDoor
