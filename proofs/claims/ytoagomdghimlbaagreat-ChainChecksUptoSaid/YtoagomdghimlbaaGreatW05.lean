/- Parts of a proof, one behind the other: G3, G4, G5, G6, G7, G8, G9, GA, GB, GC, GD, GE, GF, N1, PA, PB, Q1, Q2, Q3, Q4. -/
import Derived.Test.YtoagomdghimlbaaGreatW04
set_option maxRecDepth 20000
set_option maxHeartbeats 16000000
namespace Go.Proofs.YtoagomdghimlbaaGreat
open Go.RowKit
section
variable {G : GS}
attribute [local irreducible] vOpsN vOpsG vOpsD vOpGD NextD vC SeqQ BlockQ
def vlG : Option (List UInt8) → List AcS → Nat
 | _, [] => 0
 | p, a :: r => if nameS a.name = false then 10 else match p with
  | none => vlG (some a.name) r
  | some q => if q = a.name then 8 else if (!(Op.bytesLess q a.name || q == a.name)) = true then 1 else vlG (some a.name) r
theorem vlG_nil (p : Option (List UInt8)) : vlG p [] = 0 := by cases p <;> rfl
theorem vlG_cons (p : Option (List UInt8)) (a : AcS) (r : List AcS) : vlG p (a :: r) = if nameS a.name = false then 10 else match p with
  | none => vlG (some a.name) r
  | some q => if q = a.name then 8 else if (!(Op.bytesLess q a.name || q == a.name)) = true then 1 else vlG (some a.name) r := by cases p <;> rfl
def prevN (l : List AcS) : Nat → Option (List UInt8)
 | 0 => none
 | j + 1 => (l[j]?).map (·.name)
def validLS (l : LgS) : Nat := if 256 < l.acs.length then 3 else if vlG none l.acs ≠ 0 then vlG none l.acs else if (totS l.acs l.col).2 = false then 6 else 0
def SmLg (l : LgS) : Prop := l.acs.length ≤ 50000 ∧ U64 l.col ∧ ∀ a ∈ l.acs, SmAc a
theorem validL_m (L : LgS) (hL : SmLg L) : SemC Tryz.prog G 50 [lgM L] (.int .i64 (validLS L)) := by
 obtain ⟨l, col⟩ := L
 obtain ⟨hl, hcol, hsm⟩ := hL
 dsimp only at hl hcol hsm
 have ct := total_m (G := G) l col hcol (by omega) (fun a ha => (hsm a ha).2.1)
 generalize hQ : validLS ⟨l, col⟩ = Q
 unfold validLS at hQ
 dsimp only at hQ
 unfold lgM
 dsimp only
 by_cases hn : 256 < l.length
 ·rw [if_pos hn] at hQ
  subst hQ
  refine scq seat Tryz.func50 59 ?_
  refine go1 ?_
  (iterate 6 ((all_goals (refine go1 ?_)); (all_goals (first | ((with_reducible apply n_grd); (case hf => exact ⟨rfl, rfl, rfl⟩); (all_goals intro h); (all_goals (try simp only [bx] at h)); (all_goals (try (exfalso; omega)))) | ((with_reducible apply c_cond); (case he => exact rfl); (all_goals intro h); (all_goals (try simp only [decide_eq_true_eq, decide_eq_false_iff_not] at h)); (all_goals (try (exfalso; omega)))) | skip))))
  all_goals (refine go0 ?_)
  all_goals rfl
 rw [if_neg hn] at hQ
 generalize hv : vlG none l = v at *
 generalize totS l col = p at *
 obtain ⟨tot, ok⟩ := p
 dsimp only at ct hQ
 refine scq seat Tryz.func50 59 ?_
 refine go1 ?_
 (iterate 3 ((all_goals (refine go1 ?_)); (all_goals (first | ((with_reducible apply n_grd); (case hf => exact ⟨rfl, rfl, rfl⟩); (all_goals intro h); (all_goals (try simp only [bx] at h)); (all_goals (try (exfalso; omega)))) | ((with_reducible apply c_cond); (case he => exact rfl); (all_goals intro h); (all_goals (try simp only [decide_eq_true_eq, decide_eq_false_iff_not] at h)); (all_goals (try (exfalso; omega)))) | skip))))
 refine c_loop Nat (fun k => [(14, .int .i64 k), (13, .int .i64 l.length), (12, .sl l.length (l.map acM)), (1, .ptr 0 2 0 0 [])]) (fun _ => [(0, ⟨40, 2, false, 0, [.st [.sl l.length (l.map acM), .int .u64 col]]⟩)]) 1 (fun k => k ≤ l.length ∧ vlG (prevN l k) (l.drop k) = v) (fun k => l.length - k) 0 ⟨Nat.zero_le _, by rw [List.drop_zero]; exact hv⟩ (vm [(0, _)] []) ?_
 clear hv
 rintro k ⟨hk, hR⟩
 try dsimp only
 refine go1 ?_
 (refine c_cond rfl ?_ ?_ <;> intro h)
 ·have hk' : k < l.length := by have := of_decide_eq_true h; omega
  have hel := acs_at hk'
  have hpn : prevN l (k + 1) = some l[k].name := by show (l[k]?).map _ = _; simp [hk']
  have c1 := name_m (G := G) l[k].name (by have := (hsm _ (List.getElem_mem hk')).1; omega)
  rw [List.drop_eq_getElem_cons hk', vlG_cons] at hR
  rw [← hpn] at hR
  have hnmk : prevN l (k + 1) = some l[k].name := hpn
  rw [hnmk] at hR
  generalize hak : l[k] = a at *
  obtain ⟨nm, bal, seq⟩ := a
  replace hel : idxL (l.map acM) l.length (k : Int) = some (.st [.str nm, .int .u64 bal, .int .u64 seq]) := hel
  have hel := SomF.mk hel
  dsimp only at hR c1
  by_cases hnm : nameS nm = false
  ·rw [hnm] at c1
   rw [if_pos hnm] at hR
   subst hR
   rw [if_pos (by omega)] at hQ
   subst hQ
   refine go1 ?_
   (iterate 6 ((all_goals (refine go1 ?_)); (all_goals (first | (refine g_call3 rfl hhq rfl (src (c1)) rfl rfl ?_) | ((first | ((with_reducible apply n_grd); (case hf => exact ⟨rfl, rfl, rfl⟩)) | ((with_reducible apply c_cond); (case he => exact rfl))); (all_goals intro h); (all_goals (try simp only [bx] at h)); (all_goals (try (exfalso; omega)))) | skip))))
   all_goals (refine go0 ?_)
   all_goals rfl
  rw [if_neg hnm] at hR
  have hnm : nameS nm = true := by simpa using hnm
  rw [hnm] at c1
  cases k with
  | zero =>
   dsimp only [prevN] at hR
   have hR : vlG (prevN l (0 + 1)) (l.drop (0 + 1)) = v := by rw [hnmk]; exact hR
   refine go1 ?_
   (iterate 3 ((all_goals (refine go1 ?_)); (all_goals (first | (refine g_call3 rfl hhq rfl (src (c1)) rfl rfl ?_) | ((first | ((with_reducible apply n_grd); (case hf => exact ⟨rfl, rfl, rfl⟩)) | ((with_reducible apply c_cond); (case he => exact rfl))); (all_goals intro h); (all_goals (try simp only [bx] at h)); (all_goals (try (exfalso; omega)))) | skip))))
   refine c_draw [(0, false), (1, false), (2, false), (3, false), (4, false), (5, false), (6, false), (7, false), (8, false), (9, false), (10, false), (11, false), (12, false), (13, false)] ?_
   refine go1 ?_
   refine c_draw [(0, false), (1, false), (2, false), (3, false), (4, false), (5, false), (6, false), (7, false), (8, false), (9, false), (10, false), (11, false), (12, false), (13, false)] ?_
   refine go1 ?_
   exact ⟨0 + 1, ⟨by show 0 + 1 ≤ l.length; omega, hR⟩, by show l.length - (0 + 1) < l.length - 0; omega, (by dsimp only; exact (vm [(0, _)] []))⟩
  | succ j =>
   have hj : j < l.length := by omega
   have hep := acs_at hj
   have hpj : prevN l (j + 1) = some l[j].name := by show (l[j]?).map _ = _; simp [hj]
   rw [hpj] at hR
   generalize l[j] = b at *
   obtain ⟨nb, bb, sb⟩ := b
   replace hep : idxL (l.map acM) l.length (((j + 1 : Nat) : Int) - 1) = some (.st [.str nb, .int .u64 bb, .int .u64 sb]) := by rw [show ((j + 1 : Nat) : Int) - 1 = (j : Int) by omega]; exact hep
   have hep := SomF.mk hep
   dsimp only at hR
   refine go1 ?_
   (iterate 3 ((all_goals (refine go1 ?_)); (all_goals (first | (refine g_call3 rfl hhq rfl (src (c1)) rfl rfl ?_) | ((first | ((with_reducible apply n_grd); (case hf => exact ⟨rfl, rfl, rfl⟩)) | ((with_reducible apply c_cond); (case he => exact rfl))); (all_goals intro h); (all_goals (try simp only [bx] at h)); (all_goals (try (exfalso; omega)))) | skip))))
   refine c_draw [(0, false), (1, false), (2, false), (3, false), (4, false), (5, false), (6, false), (7, false), (8, false), (9, false), (10, false), (11, false), (12, false), (13, false)] ?_
   refine go1 ?_
   ((with_reducible apply d_guard); (case hs => exact rfl); (case hv => exact rfl); (case hd => exact rfl); (all_goals intro h))
   rotate_left
   ·exact absurd (of_decide_eq_false h) (by omega)
   by_cases hd : nb = nm
   ·subst hd
    rw [if_pos rfl] at hR
    subst hR
    rw [if_pos (by omega)] at hQ
    subst hQ
    refine goe1 ?_
    (iterate 4 ((all_goals (refine go1 ?_)); (all_goals (first | ((first | ((with_reducible apply n_grd); (case hf => exact ⟨rfl, rfl, rfl⟩)) | ((with_reducible apply c_cond); (case he => exact rfl))); (all_goals intro h); (all_goals (try simp only [bx] at h)); (all_goals (try (exfalso; omega)))) | skip))))
    all_goals (refine go0 ?_)
    all_goals rfl
   rw [if_neg hd] at hR
   refine go1 ?_
   (refine c_cond rfl ?_ ?_ <;> intro h)
   ·exact absurd (eq_of_beq h) hd
   refine go1 ?_
   refine c_draw [(0, false), (1, false), (2, false), (3, false), (4, false), (5, false), (6, false), (7, false), (8, false), (9, false), (10, false), (11, false), (12, false), (13, false)] ?_
   refine go1 ?_
   ((with_reducible apply d_guard); (case hs => exact rfl); (case hv => exact rfl); (case hd => exact rfl); (all_goals intro h))
   rotate_left
   ·exact absurd (of_decide_eq_false h) (by omega)
   refine go1 ?_
   (refine c_cond rfl ?_ ?_ <;> intro h)
   ·rw [if_pos h] at hR
    subst hR
    rw [if_pos (by omega)] at hQ
    subst hQ
    refine go1 ?_
    refine go0 ?_
    rfl
   ·rw [if_neg (by rw [h]; simp)] at hR
    refine go1 ?_
    exact ⟨j + 1 + 1, ⟨by show j + 1 + 1 ≤ l.length; omega, by rw [hnmk]; exact hR⟩, by show l.length - (j + 1 + 1) < l.length - (j + 1); omega, (by dsimp only; exact (vm [(0, _)] []))⟩
 ·have hk' : k = l.length := by have := of_decide_eq_false h; omega
  subst hk'
  rw [List.drop_length, vlG_nil] at hR
  subst hR
  rw [if_neg (by simp)] at hQ
  cases ok with
  | true =>
   rw [if_neg (by simp)] at hQ
   subst hQ
   refine go1 ?_
   (iterate 6 ((all_goals (refine go1 ?_)); (all_goals (first | (refine g_call3 rfl hhq rfl (src (ct)) rfl rfl ?_) | ((first | ((with_reducible apply n_grd); (case hf => exact ⟨rfl, rfl, rfl⟩)) | ((with_reducible apply c_cond); (case he => exact rfl))); (all_goals intro h); (all_goals (try simp only [bx] at h)); (all_goals (try (exfalso; omega)))) | skip))))
   all_goals (refine go0 ?_)
   all_goals rfl
  | false =>
   rw [if_pos rfl] at hQ
   subst hQ
   refine go1 ?_
   (iterate 6 ((all_goals (refine go1 ?_)); (all_goals (first | (refine g_call3 rfl hhq rfl (src (ct)) rfl rfl ?_) | ((first | ((with_reducible apply n_grd); (case hf => exact ⟨rfl, rfl, rfl⟩)) | ((with_reducible apply c_cond); (case he => exact rfl))); (all_goals intro h); (all_goals (try simp only [bx] at h)); (all_goals (try (exfalso; omega)))) | skip))))
   all_goals (refine go0 ?_)
   all_goals rfl
def genG : List AcS → List AcS → List AcS × Nat
 | [], l => (l, 0)
 | a :: r, l => if nameS a.name = false then ([], 10) else if 0 ≤ findS a.name l 0 then ([], 8) else genG r (putS a l)
def lg0 : LgS := ⟨[], 0⟩
def genS (acs : List AcS) : LgS × Nat := if 256 < acs.length then (lg0, 3) else if (genG acs []).2 ≠ 0 then (lg0, (genG acs []).2) else if (totS (genG acs []).1 0).2 = false then (lg0, 6) else (⟨(genG acs []).1, 0⟩, 0)
theorem mem_insA {a x : AcS} : ∀ {l : List AcS}, x ∈ insA a l → x = a ∨ x ∈ l
 | [], h => by rw [insA] at h; simp at h; exact .inl h
 | b :: r, h => by
  rw [insA] at h
  split at h
  ·rcases List.mem_cons.1 h with rfl | h
   ·exact .inr (by simp)
   ·rcases mem_insA h with h | h
    ·exact .inl h
    ·exact .inr (by simp [h])
  ·rcases List.mem_cons.1 h with rfl | h
   ·exact .inl rfl
   ·exact .inr h
theorem mem_putS {a x : AcS} {l : List AcS} (h : x ∈ putS a l) : x = a ∨ x ∈ l := by
 unfold putS at h
 split at h
 ·rcases List.mem_or_eq_of_mem_set h with h | h
  ·exact .inr h
  ·exact .inl h
 ·exact mem_insA h
theorem genG_sm : ∀ (r l : List AcS), (∀ a ∈ r, SmAc a) → (∀ a ∈ l, SmAc a) → (∀ a ∈ (genG r l).1, SmAc a) ∧ (genG r l).1.length ≤ l.length + r.length
 | [], l, _, h => ⟨h, by simp [genG]⟩
 | a :: r, l, h1, h2 => by
  rw [genG]
  split
  ·exact ⟨by simp, by simp⟩
  ·split
   ·exact ⟨by simp, by simp⟩
   ·have := genG_sm r (putS a l) (fun x hx => h1 x (by simp [hx])) (fun x hx => (mem_putS hx).elim (fun e => e ▸ h1 a (by simp)) (h2 x))
    have h3 := putS_len a l
    refine ⟨this.1, ?_⟩
    rw [List.length_cons]
    omega
theorem genS_sm {acs : List AcS} (h : ∀ a ∈ acs, SmAc a) : SmLg (genS acs).1 := by
 have h0 : SmLg lg0 := ⟨by simp [lg0], by simp [lg0, U64], by simp [lg0]⟩
 have := genG_sm acs [] h (by simp)
 unfold genS
 split
 ·exact h0
 split
 ·exact h0
 split
 ·exact h0
 ·refine ⟨?_, by simp [U64], this.1⟩
  have h2 := this.2
  simp only [List.length_nil] at h2
  dsimp only
  omega
theorem gen_r (l : List AcS) (hl : l.length ≤ 100000) (hsm : ∀ a ∈ l, SmAc a) : SemR Tryz.prog G 157 [.sl l.length (l.map acM)] [] 0 (.tup [lgM (genS l).1, .int .i64 (genS l).2]) [] 0 := by
 generalize hQ : genS l = Q
 obtain ⟨⟨Ql, Qc⟩, Qe⟩ := Q
 unfold genS at hQ
 unfold lgM
 dsimp only
 by_cases hn : 256 < l.length
 ·rw [if_pos hn] at hQ
  simp only [lg0, Prod.mk.injEq, LgS.mk.injEq] at hQ
  obtain ⟨⟨rfl, rfl⟩, rfl⟩ := hQ
  refine srq seat Tryz.func157 46 ?_
  refine go1 ?_
  (iterate 4 ((all_goals (refine go1 ?_)); (all_goals (first | ((with_reducible apply n_grd); (case hf => exact ⟨rfl, rfl, rfl⟩); (all_goals intro h); (all_goals (try simp only [bx] at h)); (all_goals (try (exfalso; omega)))) | ((with_reducible apply c_cond); (case he => exact rfl); (all_goals intro h); (all_goals (try simp only [decide_eq_true_eq, decide_eq_false_iff_not] at h)); (all_goals (try (exfalso; omega)))) | skip))))
  all_goals (refine go0 ?_; (refine ⟨[_, _], [], [], rfl, rfl, trivial, rfl, ⟨?_, ?_, trivial⟩, ?_⟩; (exact .inr ⟨_, rfl, lm⟩); exact rv; exact mm))
 rw [if_neg hn] at hQ
 have hsmg := genG_sm l [] hsm (by simp)
 generalize hv : genG l [] = v at *
 obtain ⟨vl, ve⟩ := v
 dsimp only at hQ hsmg
 have hvl : vl.length ≤ 256 := by have := hsmg.2; simp only [List.length_nil] at this; omega
 have ct := total_m (G := G) vl 0 (by unfold U64; omega) (by omega) (fun a ha => (hsmg.1 a ha).2.1)
 clear hsmg
 generalize totS vl 0 = p at *
 obtain ⟨tot, ok⟩ := p
 dsimp only at ct hQ
 refine srq seat Tryz.func157 46 ?_
 refine go1 ?_
 (iterate 3 ((all_goals (refine go1 ?_)); (all_goals (first | ((with_reducible apply n_grd); (case hf => exact ⟨rfl, rfl, rfl⟩); (all_goals intro h); (all_goals (try simp only [bx] at h)); (all_goals (try (exfalso; omega)))) | ((with_reducible apply c_cond); (case he => exact rfl); (all_goals intro h); (all_goals (try simp only [decide_eq_true_eq, decide_eq_false_iff_not] at h)); (all_goals (try (exfalso; omega)))) | skip))))
 refine c_loop (Nat × List AcS) (fun x => [(15, .int .i64 x.1), (14, .int .i64 l.length), (13, .sl l.length (l.map acM)), (4, .ptr 1 2 0 0 []), (2, .ptr 0 2 0 0 [])]) (fun x => [(0, ⟨40, 2, false, 0, [.st [.nils, .int .u64 0]]⟩), (1, ⟨40, 2, false, 0, [.st [.sl x.2.length (x.2.map acM), .int .u64 0]]⟩)]) 2 (fun x => x.1 ≤ l.length ∧ x.2.length ≤ x.1 ∧ (∀ a ∈ x.2, SmAc a) ∧ genG (l.drop x.1) x.2 = (vl, ve)) (fun x => l.length - x.1) (0, []) ⟨Nat.zero_le _, Nat.zero_le _, by simp, by rw [List.drop_zero]; exact hv⟩ (by dsimp only; exact (vm [(0, _), (1, _)] [])) ?_
 clear hv
 rintro ⟨k, z⟩ ⟨hk, hz, hzs, hR⟩
 try dsimp only
 dsimp only at hk hz hzs hR
 refine go1 ?_
 (refine c_cond rfl ?_ ?_ <;> intro h)
 ·have hk' : k < l.length := by have := of_decide_eq_true h; omega
  have hel := acs_at hk'
  have hsa := hsm _ (List.getElem_mem hk')
  have c1 := name_m (G := G) l[k].name (by have := hsa.1; omega)
  have c2 := find_m (G := G) z l[k].name (by omega)
  have c3 := put_r (G := G) l[k] z (by omega)
  have hpl := putS_len l[k] z
  have hpm : ∀ x ∈ putS l[k] z, SmAc x := fun x hx => (mem_putS hx).elim (fun e => e ▸ hsa) (hzs x)
  rw [List.drop_eq_getElem_cons hk', genG] at hR
  generalize putS l[k] z = z2 at *
  generalize l[k] = a at *
  obtain ⟨nm, bal, seq⟩ := a
  replace hel : idxL (l.map acM) l.length (k : Int) = some (.st [.str nm, .int .u64 bal, .int .u64 seq]) := hel
  have hel := SomF.mk hel
  dsimp only at hR c1 c2
  unfold acM at c3
  dsimp only at c3
  by_cases hnm : nameS nm = false
  ·rw [hnm] at c1
   rw [if_pos hnm] at hR
   simp only [Prod.mk.injEq] at hR
   obtain ⟨rfl, rfl⟩ := hR
   rw [if_pos (by omega)] at hQ
   simp only [lg0, Prod.mk.injEq, LgS.mk.injEq] at hQ
   obtain ⟨⟨rfl, rfl⟩, rfl⟩ := hQ
   refine go1 ?_
   (iterate 4 ((all_goals (refine go1 ?_)); (all_goals (first | (refine g_call3 rfl hhq rfl (src (c1)) rfl rfl ?_) | ((first | ((with_reducible apply n_grd); (case hf => exact ⟨rfl, rfl, rfl⟩)) | ((with_reducible apply c_cond); (case he => exact rfl))); (all_goals intro h); (all_goals (try simp only [bx] at h)); (all_goals (try (exfalso; omega)))) | skip))))
   all_goals (refine go0 ?_; (refine ⟨[_, _], [], [], rfl, rfl, trivial, rfl, ⟨?_, ?_, trivial⟩, ?_⟩; (exact .inr ⟨_, rfl, lm⟩); exact rv; exact mm))
  rw [if_neg hnm] at hR
  have hnm : nameS nm = true := by simpa using hnm
  rw [hnm] at c1
  generalize findS nm z 0 = fi at *
  by_cases hfi : 0 ≤ fi
  ·rw [if_pos hfi] at hR
   simp only [Prod.mk.injEq] at hR
   obtain ⟨rfl, rfl⟩ := hR
   rw [if_pos (by omega)] at hQ
   simp only [lg0, Prod.mk.injEq, LgS.mk.injEq] at hQ
   obtain ⟨⟨rfl, rfl⟩, rfl⟩ := hQ
   refine go1 ?_
   (iterate 6 ((all_goals (refine go1 ?_)); (all_goals (first | (refine g_call3 rfl hhq rfl (src (c1)) rfl rfl ?_) | (refine g_call3 rfl hhq rfl (src (c2)) rfl rfl ?_) | ((with_reducible apply n_grd); (case hf => exact ⟨rfl, rfl, rfl⟩); (all_goals intro h); (all_goals (try simp only [bx] at h)); (all_goals (try (exfalso; omega)))) | ((with_reducible apply c_cond); (case he => exact rfl); (all_goals intro h); (all_goals (try simp only [decide_eq_true_eq, decide_eq_false_iff_not] at h)); (all_goals (try (exfalso; omega)))) | skip))))
   all_goals (refine go0 ?_; (refine ⟨[_, _], [], [], rfl, rfl, trivial, rfl, ⟨?_, ?_, trivial⟩, ?_⟩; (exact .inr ⟨_, rfl, lm⟩); exact rv; exact mm))
  rw [if_neg hfi] at hR
  refine go1 ?_
  (iterate 7 ((all_goals (refine go1 ?_)); (all_goals (first | (refine g_call3 rfl hhq rfl (src (c1)) rfl rfl ?_) | (refine g_call3 rfl hhq rfl (src (c2)) rfl rfl ?_) | (refine g_call3 rfl hhq rfl (c3) rfl rfl ?_) | ((with_reducible apply n_grd); (case hf => exact ⟨rfl, rfl, rfl⟩); (all_goals intro h); (all_goals (try simp only [bx] at h)); (all_goals (try (exfalso; omega)))) | ((with_reducible apply c_cond); (case he => exact rfl); (all_goals intro h); (all_goals (try simp only [decide_eq_true_eq, decide_eq_false_iff_not] at h)); (all_goals (try (exfalso; omega)))) | skip))))
  exact ⟨(k + 1, z2), ⟨by show k + 1 ≤ l.length; omega, by show z2.length ≤ k + 1; omega, hpm, hR⟩, by show l.length - (k + 1) < l.length - k; omega, (by dsimp only; exact (vm [(0, _), (1, _)] []))⟩
 ·have hk' : k = l.length := by have := of_decide_eq_false h; omega
  subst hk'
  rw [List.drop_length, genG] at hR
  simp only [Prod.mk.injEq] at hR
  obtain ⟨rfl, rfl⟩ := hR
  rw [if_neg (by simp)] at hQ
  cases ok with
  | true =>
   rw [if_neg (by simp)] at hQ
   simp only [Prod.mk.injEq, LgS.mk.injEq] at hQ
   obtain ⟨⟨rfl, rfl⟩, rfl⟩ := hQ
   refine go1 ?_
   (iterate 4 ((all_goals (refine go1 ?_)); (all_goals (first | (refine g_call3 rfl hhq rfl (src (ct)) rfl rfl ?_) | ((first | ((with_reducible apply n_grd); (case hf => exact ⟨rfl, rfl, rfl⟩)) | ((with_reducible apply c_cond); (case he => exact rfl))); (all_goals intro h); (all_goals (try simp only [bx] at h)); (all_goals (try (exfalso; omega)))) | skip))))
   all_goals (refine go0 ?_; (refine ⟨[_, _], [], [], rfl, rfl, trivial, rfl, ⟨?_, ?_, trivial⟩, ?_⟩; (exact .inr ⟨_, rfl, lm⟩); exact rv; exact mm))
  | false =>
   rw [if_pos rfl] at hQ
   simp only [lg0, Prod.mk.injEq, LgS.mk.injEq] at hQ
   obtain ⟨⟨rfl, rfl⟩, rfl⟩ := hQ
   refine go1 ?_
   (iterate 4 ((all_goals (refine go1 ?_)); (all_goals (first | (refine g_call3 rfl hhq rfl (src (ct)) rfl rfl ?_) | ((first | ((with_reducible apply n_grd); (case hf => exact ⟨rfl, rfl, rfl⟩)) | ((with_reducible apply c_cond); (case he => exact rfl))); (all_goals intro h); (all_goals (try simp only [bx] at h)); (all_goals (try (exfalso; omega)))) | skip))))
   all_goals (refine go0 ?_; (refine ⟨[_, _], [], [], rfl, rfl, trivial, rfl, ⟨?_, ?_, trivial⟩, ?_⟩; (exact .inr ⟨_, rfl, lm⟩); exact rv; exact mm))
end
section
variable {G : GS}
attribute [local irreducible] vOpsN vOpsG vOpsD vOpGD NextD vC SeqQ BlockQ
def fldZ (f : Fld) : MV := .st [.int .i64 f.num, .int .i64 f.kind, .int .u64 f.val, .nils]
theorem relF_Z {σ : Nat → Option Nat} {fz : Fz} {f : Fld} (h : f.bytes = []) : relV σ fz (fldM f) (fldZ f) := by
 unfold fldM fldZ
 rw [h]
 exact .inr ⟨_, rfl, ⟨rfl, rfl⟩, ⟨rfl, rfl⟩, ⟨rfl, rfl⟩, .inr ⟨rfl, rfl⟩, trivial⟩
def IsF (v : MV) (f : Fld) : Prop := v = fldM f ∨ (v = fldZ f ∧ f.bytes = [])
inductive AreF : List MV → List Fld → Prop
 | nil : AreF [] []
 | cons {v : MV} {f : Fld} {vs : List MV} {l : List Fld} (h : IsF v f) (t : AreF vs l) : AreF (v :: vs) (f :: l)
theorem AreF.get {vs : List MV} {l : List Fld} (h : AreF vs l) : ∀ {k : Nat} (hk : k < l.length), ∃ v, vs[k]? = some v ∧ IsF v l[k] := by
 induction h with
 | nil => intro k hk; simp at hk
 | cons h t ih =>
  intro k hk
  cases k with
  | zero => exact ⟨_, rfl, h⟩
  | succ k => simpa using ih (by simpa using hk)
theorem message_v (l : List Fld) (vs : List MV) (hvs : AreF vs l) (hl : ∀ f ∈ l, okF f) (hm : (msgS l).length < 200000000) (hll : l.length < 1000000) : SemR Tryz.prog G 66 [.sl l.length vs] [] 0 (.sl (msgS l).length (u8s (msgS l))) [] 0 := by
 refine srq seat Tryz.func66 20 ?_
 refine go1 ?_
 refine c_loop Nat (fun k => [(8, .int .i64 k), (7, .int .i64 l.length), (6, .sl l.length vs), (3, .ms 0 1 0 (msgS (l.take k)).length)]) (fun k => [(0, ⟨5, 1, true, 0, u8s (msgS (l.take k))⟩)]) 1 (fun k => k ≤ l.length) (fun k => l.length - k) 0 (Nat.zero_le _) (by rw [List.take_zero]; exact (vm [] [])) ?_
 intro k hk
 try dsimp only
 refine go1 ?_
 (refine c_cond rfl ?_ ?_ <;> intro h)
 ·have hk' : k < l.length := by have := of_decide_eq_true h; omega
  have hs := msgS_succ l hk'
  have hle := msgS_take l (k + 1)
  have hfo := hl _ (List.getElem_mem hk')
  have hfb := fieldS_bytes hfo
  obtain ⟨v, hv1, hv2⟩ := hvs.get hk'
  have hel : idxL vs l.length (k : Int) = some v := index_at hk' hv1
  generalize l[k] = f at *
  have hlen : (msgS (l.take (k + 1))).length = (msgS (l.take k)).length + (fieldS f).length := by rw [hs, List.length_append]
  have c1 := field_r (G := G) (msgS (l.take k)) f hfo (by omega)
  rw [← hs] at c1
  unfold rowB at c1
  generalize msgS (l.take k) = p at *
  obtain ⟨num, kind, val, bytes⟩ := f
  rcases hv2 with rfl | ⟨rfl, hv2⟩
  ·replace hel : idxL vs l.length (k : Int) = some (.st [.int .i64 num, .int .i64 kind, .int .u64 val, .sl bytes.length (u8s bytes)]) := hel
   have hel := SomF.mk hel
   refine go1 ?_
   refine g_callR1 rfl hhq rfl (c1) [] [(0, p.length)] ⟨rfl, mm, rfl, lm, mm⟩ rfl rfl ?_
   refine go1 ?_
   exact ⟨k + 1, by show k + 1 ≤ l.length; omega, by show l.length - (k + 1) < l.length - k; omega, (by dsimp only; exact (vm [(0, _)] []))⟩
  ·replace hel : idxL vs l.length (k : Int) = some (.st [.int .i64 num, .int .i64 kind, .int .u64 val, .nils]) := hel
   have hel := SomF.mk hel
   refine go1 ?_
   refine g_callR1 rfl hhq rfl c1 [] [(0, p.length)] ⟨rfl, mm, rfl, ⟨rv, relF_Z hv2, trivial⟩, mm⟩ rfl rfl ?_
   refine go1 ?_
   exact ⟨k + 1, by show k + 1 ≤ l.length; omega, by show l.length - (k + 1) < l.length - k; omega, (by dsimp only; exact (vm [(0, _)] []))⟩
 ·have hk' : k = l.length := by have := of_decide_eq_false h; omega
  subst hk'
  rw [List.take_length]
  generalize msgS l = p at *
  refine go1 ?_
  refine ⟨[_], [], [(0, p.length)], rfl, rfl, ?_, rfl, ⟨?_, trivial⟩, ?_⟩
  ·exact ⟨by show p.length ≤ (u8s p).length; simp [u8s], trivial⟩
  ·exact rv
  ·exact mm
theorem leaf_v (l : List Fld) (vs : List MV) (hvs : AreF vs l) (hl : ∀ f ∈ l, okF f) (hm : (msgS l).length < 200000000) (hll : l.length < 1000000) : SemR Tryz.prog G 61 [.sl l.length vs] [] 0 (.sl (msgS l).length (u8s (msgS l))) [] 0 := by
 refine srq seat Tryz.func61 20 ?_
 refine go1 ?_
 refine c_loop Nat (fun k => [(8, .int .i64 k), (7, .int .i64 l.length), (6, .sl l.length vs), (3, .ms 0 1 0 (msgS (l.take k)).length)]) (fun k => [(0, ⟨5, 1, true, 0, u8s (msgS (l.take k))⟩)]) 1 (fun k => k ≤ l.length) (fun k => l.length - k) 0 (Nat.zero_le _) (by rw [List.take_zero]; exact (vm [] [])) ?_
 intro k hk
 try dsimp only
 refine go1 ?_
 (refine c_cond rfl ?_ ?_ <;> intro h)
 ·have hk' : k < l.length := by have := of_decide_eq_true h; omega
  have hs := msgS_succ l hk'
  have hle := msgS_take l (k + 1)
  have hfo := hl _ (List.getElem_mem hk')
  have hfb := fieldS_bytes hfo
  obtain ⟨v, hv1, hv2⟩ := hvs.get hk'
  have hel : idxL vs l.length (k : Int) = some v := index_at hk' hv1
  generalize l[k] = f at *
  have hlen : (msgS (l.take (k + 1))).length = (msgS (l.take k)).length + (fieldS f).length := by rw [hs, List.length_append]
  have c1 := pfield_r (G := G) (msgS (l.take k)) f hfo (by omega)
  rw [← hs] at c1
  unfold rowB at c1
  generalize msgS (l.take k) = p at *
  obtain ⟨num, kind, val, bytes⟩ := f
  rcases hv2 with rfl | ⟨rfl, hv2⟩
  ·replace hel : idxL vs l.length (k : Int) = some (.st [.int .i64 num, .int .i64 kind, .int .u64 val, .sl bytes.length (u8s bytes)]) := hel
   have hel := SomF.mk hel
   refine go1 ?_
   refine g_callR1 rfl hhq rfl (c1) [] [(0, p.length)] ⟨rfl, mm, rfl, lm, mm⟩ rfl rfl ?_
   refine go1 ?_
   exact ⟨k + 1, by show k + 1 ≤ l.length; omega, by show l.length - (k + 1) < l.length - k; omega, (by dsimp only; exact (vm [(0, _)] []))⟩
  ·replace hel : idxL vs l.length (k : Int) = some (.st [.int .i64 num, .int .i64 kind, .int .u64 val, .nils]) := hel
   have hel := SomF.mk hel
   refine go1 ?_
   refine g_callR1 rfl hhq rfl c1 [] [(0, p.length)] ⟨rfl, mm, rfl, ⟨rv, relF_Z hv2, trivial⟩, mm⟩ rfl rfl ?_
   refine go1 ?_
   exact ⟨k + 1, by show k + 1 ≤ l.length; omega, by show l.length - (k + 1) < l.length - k; omega, (by dsimp only; exact (vm [(0, _)] []))⟩
 ·have hk' : k = l.length := by have := of_decide_eq_false h; omega
  subst hk'
  rw [List.take_length]
  generalize msgS l = p at *
  refine go1 ?_
  refine ⟨[_], [], [(0, p.length)], rfl, rfl, ?_, rfl, ⟨?_, trivial⟩, ?_⟩
  ·exact ⟨by show p.length ≤ (u8s p).length; simp [u8s], trivial⟩
  ·exact rv
  ·exact mm
end
section
variable {G : GS}
attribute [local irreducible] vOpsN vOpsG vOpsD vOpGD NextD vC SeqQ BlockQ
def acL (a : AcS) : List Fld := [⟨1, 2, 0, a.name⟩, ⟨2, 0, a.bal, []⟩, ⟨3, 0, a.seq, []⟩]
def leafA (a : AcS) : List UInt8 := msgS (acL a)
def digS (l : LgS) : List UInt8 := rootS (l.acs.map leafA ++ [msgS [⟨4, 0, l.col, []⟩]])
theorem okF_0 {n v : Nat} (h1 : 1 ≤ n) (h2 : n ≤ 536870911) (hv : U64 v) : okF ⟨n, 0, v, []⟩ := ⟨h1, h2, .inl ⟨rfl, rfl, hv⟩⟩
theorem okF_2 {n : Nat} {b : List UInt8} (h1 : 1 ≤ n) (h2 : n ≤ 536870911) (hb : b.length < 18446744073709551616) : okF ⟨n, 2, 0, b⟩ := ⟨h1, h2, .inr ⟨rfl, rfl, hb⟩⟩
theorem acL_ok {a : AcS} (h : SmAc a) : ∀ f ∈ acL a, okF f ∧ f.bytes.length ≤ 5000 := by
 intro f hf
 unfold acL at hf
 simp only [List.mem_cons, List.not_mem_nil, or_false] at hf
 rcases hf with rfl | rfl | rfl
 ·exact ⟨okF_2 (by omega) (by omega) (by have := h.1; omega), h.1⟩
 ·exact ⟨okF_0 (by omega) (by omega) h.2.1, by simp⟩
 ·exact ⟨okF_0 (by omega) (by omega) h.2.2, by simp⟩
theorem leafA_len {a : AcS} (h : SmAc a) : (leafA a).length ≤ 15060 := by
 have h1 := msgS_len_le 5000 _ (acL_ok h)
 have h2 : (acL a).length = 3 := rfl
 rw [h2] at h1
 unfold leafA
 omega
theorem col_ok {c : Nat} (h : U64 c) : (∀ f ∈ [(⟨4, 0, c, []⟩ : Fld)], okF f ∧ f.bytes.length ≤ 0) := by
 intro f hf
 rw [List.mem_singleton.1 hf]
 exact ⟨okF_0 (by omega) (by omega) h, by simp⟩
theorem col_len {c : Nat} (h : U64 c) : (msgS [(⟨4, 0, c, []⟩ : Fld)]).length ≤ 20 := msgS_len_le 0 _ (col_ok h)
theorem rawM_map_succ {l : List AcS} {k : Nat} (hk : k < l.length) : ((l.take (k + 1)).map leafA).map rawM = ((l.take k).map leafA).map rawM ++ [rawM (leafA l[k])] := by
 rw [List.take_succ_eq_append_getElem hk, List.map_append, List.map_append]; rfl
theorem digL_m (L : LgS) (hL : SmLg L) : SemC Tryz.prog G 35 [lgM L] (keyM (digS L)) := by
 obtain ⟨l, col⟩ := L
 obtain ⟨hl, hcol, hsm⟩ := hL
 dsimp only at hl hcol hsm
 unfold digS lgM
 dsimp only
 have hcl := col_len hcol
 have cm := message_v (G := G) [⟨4, 0, col, []⟩] [.st [.int .i64 4, .int .i64 0, .int .u64 col, .nils]] (.cons (.inr ⟨rfl, rfl⟩) .nil) (fun f hf => (col_ok hcol f hf).1) (by omega) (by simp)
 have cr := rroot_m (G := G) _ (l.map leafA ++ [msgS [⟨4, 0, col, []⟩]]) (Nat.le_refl _) (by simp only [List.length_append, List.length_map, List.length_singleton]; omega) (by
  intro b hb
  rcases List.mem_append.1 hb with hb | hb
  ·obtain ⟨a, ha, rfl⟩ := List.mem_map.1 hb
   have := leafA_len (hsm a ha); omega
  ·rw [List.mem_singleton.1 hb]; omega)
 generalize msgS [⟨4, 0, col, []⟩] = mc at *
 have hzl : (l.map leafA ++ [mc]).length = l.length + 1 := by simp
 generalize hz : l.map leafA ++ [mc] = Z at *
 generalize rootS Z = root at *
 refine scq seat Tryz.func35 38 ?_
 refine go1 ?_
 refine c_loop Nat (fun k => [(9, .int .i64 k), (8, .int .i64 l.length), (7, .sl l.length (l.map acM)), (3, .ms 2 1 0 k), (2, .ptr 1 32 0 0 []), (1, .ptr 0 2 0 0 [])]) (fun k => [(0, ⟨40, 2, false, 0, [.st [.sl l.length (l.map acM), .int .u64 col]]⟩), (1, ⟨25, 32, false, 0, [keyM (List.replicate 32 0)]⟩), (2, ⟨64, 1, true, 0, ((l.take k).map leafA).map rawM⟩)]) 3 (fun k => k ≤ l.length) (fun k => l.length - k) 0 (Nat.zero_le _) (by rw [List.take_zero]; exact (vm [(0, _), (1, _)] [])) ?_
 intro k hk
 try dsimp only
 refine go1 ?_
 (refine c_cond rfl ?_ ?_ <;> intro h)
 ·have hk' : k < l.length := by have := of_decide_eq_true h; omega
  have hel := acs_at hk'
  have hsa := hsm _ (List.getElem_mem hk')
  have hsucc := rawM_map_succ hk'
  have hll : (((l.take k).map leafA).map rawM).length = k := by simp; omega
  generalize l[k] = a at *
  have hln := leafA_len hsa
  have hok := acL_ok hsa
  have hnl := hsa.1
  unfold leafA acL at hln hok
  have hlf : leafA a = msgS [⟨1, 2, 0, a.name⟩, ⟨2, 0, a.bal, []⟩, ⟨3, 0, a.seq, []⟩] := rfl
  rw [hlf] at hsucc
  obtain ⟨nm, bal, seq⟩ := a
  dsimp only at hln hok hsucc hnl
  have c1 := message_v (G := G) [⟨1, 2, 0, nm⟩, ⟨2, 0, bal, []⟩, ⟨3, 0, seq, []⟩] [.st [.int .i64 1, .int .i64 2, .int .u64 0, .sl nm.length (u8s nm)], .st [.int .i64 2, .int .i64 0, .int .u64 bal, .nils], .st [.int .i64 3, .int .i64 0, .int .u64 seq, .nils]] (.cons (.inl rfl) (.cons (.inr ⟨rfl, rfl⟩) (.cons (.inr ⟨rfl, rfl⟩) .nil))) (fun f hf => (hok f hf).1) (by omega) (by simp)
  replace hel : idxL (l.map acM) l.length (k : Int) = some (.st [.str nm, .int .u64 bal, .int .u64 seq]) := hel
  have hel := SomF.mk hel
  generalize msgS [⟨1, 2, 0, nm⟩, ⟨2, 0, bal, []⟩, ⟨3, 0, seq, []⟩] = mk at *
  clear hok
  refine go1 ?_
  refine g_call1 rfl hhq rfl (c1) rfl [(19, 3)] mm lm ?_
  refine go1 ?_
  ((with_reducible apply g_mem); (case hq => exact rfl); (case hv => exact rfl); (case he => (intro R hR; refine sms hR ?_; (refine And.intro (Nat.le_refl _) ?_; refine ⟨_, rfl, ?_⟩; refine And.intro ⟨hll, app_ok (by kernel_rfl) pf⟩ ?_; refine ⟨((l.take (k + 1)).map leafA).map rawM, sv (by rw [hsucc]; rfl), k + 1, sv pf, ?_⟩); exact hR)); (case hd => exact rfl))
  refine go1 ?_
  exact ⟨k + 1, by show k + 1 ≤ l.length; omega, by show l.length - (k + 1) < l.length - k; omega, (by dsimp only; exact (vm [(0, _), (1, _), (2, _)] []))⟩
 ·have hk' : k = l.length := by have := of_decide_eq_false h; omega
  subst hk'
  rw [List.take_length]
  refine go1 ?_
  refine g_call1 rfl hhq rfl (cm) rfl [(8, 1)] mm lm ?_
  refine go1 ?_
  ((with_reducible apply g_mem); (case hq => exact rfl); (case hv => exact rfl); (case he => (intro R hR; refine sms hR ?_; (refine And.intro (Nat.le_refl _) ?_; refine ⟨_, rfl, ?_⟩; refine And.intro ⟨(by simp), app_ok (by kernel_rfl) pf⟩ ?_; refine ⟨Z.map rawM, sv (by rw [← hz]; simp; rfl), Z.length, sv pf, ?_⟩); exact hR)); (case hd => exact rfl))
  refine go1 ?_
  refine g_call1 rfl hhq rfl (src (cr)) rfl [(10, Z.length)] mm lm ?_
  refine go1 ?_
  refine go0 ?_
  rfl
theorem pdigL_m (L : LgS) (hL : SmLg L) : SemC Tryz.prog G 32 [lgM L] (keyM (digS L)) := by
 obtain ⟨l, col⟩ := L
 obtain ⟨hl, hcol, hsm⟩ := hL
 dsimp only at hl hcol hsm
 unfold digS lgM
 dsimp only
 have hcl := col_len hcol
 have cm := leaf_v (G := G) [⟨4, 0, col, []⟩] [.st [.int .i64 4, .int .i64 0, .int .u64 col, .nils]] (.cons (.inr ⟨rfl, rfl⟩) .nil) (fun f hf => (col_ok hcol f hf).1) (by omega) (by simp)
 have cr := proot_m (G := G) _ (l.map leafA ++ [msgS [⟨4, 0, col, []⟩]]) (Nat.le_refl _) (by simp only [List.length_append, List.length_map, List.length_singleton]; omega) (by
  intro b hb
  rcases List.mem_append.1 hb with hb | hb
  ·obtain ⟨a, ha, rfl⟩ := List.mem_map.1 hb
   have := leafA_len (hsm a ha); omega
  ·rw [List.mem_singleton.1 hb]; omega)
 generalize msgS [⟨4, 0, col, []⟩] = mc at *
 have hzl : (l.map leafA ++ [mc]).length = l.length + 1 := by simp
 generalize hz : l.map leafA ++ [mc] = Z at *
 generalize rootS Z = root at *
 refine scq seat Tryz.func32 39 ?_
 refine go1 ?_
 refine c_loop Nat (fun k => [(9, .int .i64 k), (8, .int .i64 l.length), (7, .sl l.length (l.map acM)), (3, .ms 2 1 0 k), (2, .ptr 1 32 0 0 []), (1, .ptr 0 2 0 0 [])]) (fun k => [(0, ⟨40, 2, false, 0, [.st [.sl l.length (l.map acM), .int .u64 col]]⟩), (1, ⟨25, 32, false, 0, [keyM (List.replicate 32 0)]⟩), (2, ⟨64, 1, true, 0, ((l.take k).map leafA).map rawM⟩)]) 3 (fun k => k ≤ l.length) (fun k => l.length - k) 0 (Nat.zero_le _) (by rw [List.take_zero]; exact (vm [(0, _), (1, _)] [])) ?_
 intro k hk
 try dsimp only
 refine go1 ?_
 (refine c_cond rfl ?_ ?_ <;> intro h)
 ·have hk' : k < l.length := by have := of_decide_eq_true h; omega
  have hel := acs_at hk'
  have hsa := hsm _ (List.getElem_mem hk')
  have hsucc := rawM_map_succ hk'
  have hll : (((l.take k).map leafA).map rawM).length = k := by simp; omega
  generalize l[k] = a at *
  have hln := leafA_len hsa
  have hok := acL_ok hsa
  have hnl := hsa.1
  unfold leafA acL at hln hok
  have hlf : leafA a = msgS [⟨1, 2, 0, a.name⟩, ⟨2, 0, a.bal, []⟩, ⟨3, 0, a.seq, []⟩] := rfl
  rw [hlf] at hsucc
  obtain ⟨nm, bal, seq⟩ := a
  dsimp only at hln hok hsucc hnl
  have c1 := leaf_v (G := G) [⟨1, 2, 0, nm⟩, ⟨2, 0, bal, []⟩, ⟨3, 0, seq, []⟩] [.st [.int .i64 1, .int .i64 2, .int .u64 0, .sl nm.length (u8s nm)], .st [.int .i64 2, .int .i64 0, .int .u64 bal, .nils], .st [.int .i64 3, .int .i64 0, .int .u64 seq, .nils]] (.cons (.inl rfl) (.cons (.inr ⟨rfl, rfl⟩) (.cons (.inr ⟨rfl, rfl⟩) .nil))) (fun f hf => (hok f hf).1) (by omega) (by simp)
  replace hel : idxL (l.map acM) l.length (k : Int) = some (.st [.str nm, .int .u64 bal, .int .u64 seq]) := hel
  have hel := SomF.mk hel
  generalize msgS [⟨1, 2, 0, nm⟩, ⟨2, 0, bal, []⟩, ⟨3, 0, seq, []⟩] = mk at *
  clear hok
  refine go1 ?_
  refine g_call1 rfl hhq rfl (c1) rfl [(19, 3)] mm lm ?_
  refine go1 ?_
  ((with_reducible apply g_mem); (case hq => exact rfl); (case hv => exact rfl); (case he => (intro R hR; refine sms hR ?_; (refine And.intro (Nat.le_refl _) ?_; refine ⟨_, rfl, ?_⟩; refine And.intro ⟨hll, app_ok (by kernel_rfl) pf⟩ ?_; refine ⟨((l.take (k + 1)).map leafA).map rawM, sv (by rw [hsucc]; rfl), k + 1, sv pf, ?_⟩); exact hR)); (case hd => exact rfl))
  refine go1 ?_
  exact ⟨k + 1, by show k + 1 ≤ l.length; omega, by show l.length - (k + 1) < l.length - k; omega, (by dsimp only; exact (vm [(0, _), (1, _), (2, _)] []))⟩
 ·have hk' : k = l.length := by have := of_decide_eq_false h; omega
  subst hk'
  rw [List.take_length]
  refine go1 ?_
  refine g_call1 rfl hhq rfl (cm) rfl [(8, 1)] mm lm ?_
  refine go1 ?_
  ((with_reducible apply g_mem); (case hq => exact rfl); (case hv => exact rfl); (case he => (intro R hR; refine sms hR ?_; (refine And.intro (Nat.le_refl _) ?_; refine ⟨_, rfl, ?_⟩; refine And.intro ⟨(by simp), app_ok (by kernel_rfl) pf⟩ ?_; refine ⟨Z.map rawM, sv (by rw [← hz]; simp; rfl), Z.length, sv pf, ?_⟩); exact hR)); (case hd => exact rfl))
  refine go1 ?_
  refine g_call1 rfl hhq rfl (src (cr)) rfl [(10, Z.length)] mm lm ?_
  refine go1 ?_
  refine go0 ?_
  rfl
end
section
variable {G : GS}
attribute [local irreducible] vOpsN vOpsG vOpsD vOpGD NextD vC SeqQ BlockQ
structure ResS where
 code : Nat
 sender : List UInt8
 seq : Nat
 gas : Nat
 prio : Nat
 deriving DecidableEq
def resM (r : ResS) : MV := .st [.int .i64 r.code, .str r.sender, .int .u64 r.seq, .int .u64 r.gas, .int .u64 r.prio]
def SmRes (r : ResS) : Prop := r.code ≤ 1000 ∧ r.sender.length ≤ 5000 ∧ U64 r.seq ∧ U64 r.gas ∧ U64 r.prio
def reL (r : ResS) : List Fld := [⟨1, 0, r.code, []⟩, ⟨2, 0, r.gas, []⟩]
def leafR (r : ResS) : List UInt8 := msgS (reL r)
def rdigS (l : List ResS) : List UInt8 := rootS (l.map leafR)
theorem res_at {l : List ResS} {k : Nat} (hk : k < l.length) : idxL (l.map resM) l.length (k : Int) = some (resM l[k]) := index_at hk (by simp [hk])
theorem reL_ok {r : ResS} (h : SmRes r) : ∀ f ∈ reL r, okF f ∧ f.bytes.length ≤ 0 := by
 intro f hf
 unfold reL at hf
 simp only [List.mem_cons, List.not_mem_nil, or_false] at hf
 have hc : U64 r.code := by have := h.1; unfold U64; omega
 rcases hf with rfl | rfl
 ·exact ⟨okF_0 (by omega) (by omega) hc, by simp⟩
 ·exact ⟨okF_0 (by omega) (by omega) h.2.2.2.1, by simp⟩
theorem leafR_len {r : ResS} (h : SmRes r) : (leafR r).length ≤ 40 := by
 have h1 := msgS_len_le 0 _ (reL_ok h)
 have h2 : (reL r).length = 2 := rfl
 rw [h2] at h1
 unfold leafR
 omega
theorem rawR_map_succ {l : List ResS} {k : Nat} (hk : k < l.length) : ((l.take (k + 1)).map leafR).map rawM = ((l.take k).map leafR).map rawM ++ [rawM (leafR l[k])] := by
 rw [List.take_succ_eq_append_getElem hk, List.map_append, List.map_append]; rfl
theorem rdig_m (l : List ResS) (hl : l.length ≤ 50000) (hsm : ∀ r ∈ l, SmRes r) : SemC Tryz.prog G 37 [.sl l.length (l.map resM)] (keyM (rdigS l)) := by
 have cr := rroot_m (G := G) _ (l.map leafR) (Nat.le_refl _) (by simp only [List.length_map]; omega) (by
  intro b hb
  obtain ⟨a, ha, rfl⟩ := List.mem_map.1 hb
  have := leafR_len (hsm a ha); omega)
 have hzl : (l.map leafR).length = l.length := by simp
 unfold rdigS
 generalize rootS (l.map leafR) = root at *
 refine scq seat Tryz.func37 27 ?_
 refine go1 ?_
 refine c_loop Nat (fun k => [(8, .int .i64 k), (7, .int .i64 l.length), (6, .sl l.length (l.map resM)), (3, .ms 1 1 0 k), (2, .ptr 0 32 0 0 [])]) (fun k => [(0, ⟨25, 32, false, 0, [keyM (List.replicate 32 0)]⟩), (1, ⟨64, 1, true, 0, ((l.take k).map leafR).map rawM⟩)]) 2 (fun k => k ≤ l.length) (fun k => l.length - k) 0 (Nat.zero_le _) (by rw [List.take_zero]; exact (vm [(0, _)] [])) ?_
 intro k hk
 try dsimp only
 refine go1 ?_
 (refine c_cond rfl ?_ ?_ <;> intro h)
 ·
  have hk' : k < l.length := by have := of_decide_eq_true h; omega
  have hel := res_at hk'
  have hsa := hsm _ (List.getElem_mem hk')
  have hsucc := rawR_map_succ hk'
  have hll : (((l.take k).map leafR).map rawM).length = k := by simp; omega
  generalize l[k] = a at *
  have hln := leafR_len hsa
  have hok := reL_ok hsa
  unfold leafR reL at hln hok
  have hlf : leafR a = msgS [⟨1, 0, a.code, []⟩, ⟨2, 0, a.gas, []⟩] := rfl
  rw [hlf] at hsucc
  obtain ⟨code, snd, seq, gas, prio⟩ := a
  obtain ⟨h1, h2, h3, h4, h5⟩ := hsa
  dsimp only at hln hok hsucc h1 h2 h3 h4 h5
  replace hel : idxL (l.map resM) l.length (k : Int) = some (.st [.int .i64 code, .str snd, .int .u64 seq, .int .u64 gas, .int .u64 prio]) := hel
  have hel := SomF.mk hel
  have hw := EqF.mk (show IntKind.u64.wrap (code : Int) = (code : Int) from wrapu_in _ (by omega) (by omega))
  have c1 := message_v (G := G) [⟨1, 0, code, []⟩, ⟨2, 0, gas, []⟩] [.st [.int .i64 1, .int .i64 0, .int .u64 code, .nils], .st [.int .i64 2, .int .i64 0, .int .u64 gas, .nils]] (.cons (.inr ⟨rfl, rfl⟩) (.cons (.inr ⟨rfl, rfl⟩) .nil)) (fun f hf => (hok f hf).1) (by omega) (by simp)
  generalize msgS [⟨1, 0, code, []⟩, ⟨2, 0, gas, []⟩] = mk at *
  clear hok
  refine go1 ?_
  refine g_call1 rfl hhq rfl (c1) rfl [(15, 2)] mm lm ?_
  refine go1 ?_
  ((with_reducible apply g_mem); (case hq => exact rfl); (case hv => exact rfl); (case he => (intro R hR; refine sms hR ?_; (refine And.intro (Nat.le_refl _) ?_; refine ⟨_, rfl, ?_⟩; refine And.intro ⟨hll, app_ok (by kernel_rfl) pf⟩ ?_; refine ⟨((l.take (k + 1)).map leafR).map rawM, sv (by rw [hsucc]; rfl), k + 1, sv pf, ?_⟩); exact hR)); (case hd => exact rfl))
  refine go1 ?_
  exact ⟨k + 1, by show k + 1 ≤ l.length; omega, by show l.length - (k + 1) < l.length - k; omega, (by dsimp only; exact (vm [(0, _), (1, _)] []))⟩
 ·have hk' : k = l.length := by have := of_decide_eq_false h; omega
  subst hk'
  rw [List.take_length]
  generalize l.map leafR = Z at *
  rw [← hzl]
  refine go1 ?_
  refine g_call1 rfl hhq rfl (src (cr)) rfl [(1, Z.length)] mm lm ?_
  refine go1 ?_
  refine go0 ?_
  rfl
theorem prdig_m (l : List ResS) (hl : l.length ≤ 50000) (hsm : ∀ r ∈ l, SmRes r) : SemC Tryz.prog G 34 [.sl l.length (l.map resM)] (keyM (rdigS l)) := by
 have cr := proot_m (G := G) _ (l.map leafR) (Nat.le_refl _) (by simp only [List.length_map]; omega) (by
  intro b hb
  obtain ⟨a, ha, rfl⟩ := List.mem_map.1 hb
  have := leafR_len (hsm a ha); omega)
 have hzl : (l.map leafR).length = l.length := by simp
 unfold rdigS
 generalize rootS (l.map leafR) = root at *
 refine scq seat Tryz.func34 37 ?_
 refine go1 ?_
 refine c_loop Nat (fun k => [(10, .int .i64 k), (9, .int .i64 l.length), (8, .sl l.length (l.map resM)), (3, .ms 1 1 0 k), (2, .ptr 0 32 0 0 [])]) (fun k => [(0, ⟨25, 32, false, 0, [keyM (List.replicate 32 0)]⟩), (1, ⟨64, 1, true, 0, ((l.take k).map leafR).map rawM⟩)]) 2 (fun k => k ≤ l.length) (fun k => l.length - k) 0 (Nat.zero_le _) (by rw [List.take_zero]; exact (vm [(0, _)] [])) ?_
 intro k hk
 try dsimp only
 refine go1 ?_
 (refine c_cond rfl ?_ ?_ <;> intro h)
 ·
  have hk' : k < l.length := by have := of_decide_eq_true h; omega
  have hel := res_at hk'
  have hsa := hsm _ (List.getElem_mem hk')
  have hsucc := rawR_map_succ hk'
  have hll : (((l.take k).map leafR).map rawM).length = k := by simp; omega
  generalize l[k] = a at *
  have hln := leafR_len hsa
  have hok := reL_ok hsa
  unfold leafR reL at hln hok
  have hlf : leafR a = msgS [⟨1, 0, a.code, []⟩, ⟨2, 0, a.gas, []⟩] := rfl
  rw [hlf] at hsucc
  obtain ⟨code, snd, seq, gas, prio⟩ := a
  obtain ⟨h1, h2, h3, h4, h5⟩ := hsa
  dsimp only at hln hok hsucc h1 h2 h3 h4 h5
  replace hel : idxL (l.map resM) l.length (k : Int) = some (.st [.int .i64 code, .str snd, .int .u64 seq, .int .u64 gas, .int .u64 prio]) := hel
  have hel := SomF.mk hel
  have hw := EqF.mk (show IntKind.u64.wrap (code : Int) = (code : Int) from wrapu_in _ (by omega) (by omega))
  have c1 := pfield_r (G := G) [] ⟨1, 0, code, []⟩ (hok _ (by simp)).1 (by simp)
  have c2 := pfield_r (G := G) ([] ++ fieldS ⟨1, 0, code, []⟩) ⟨2, 0, gas, []⟩ (hok _ (by simp)).1 (by have := fieldS_len (hok ⟨1, 0, code, []⟩ (by simp)).1; simp at this ⊢; omega)
  have he : msgS [⟨1, 0, code, []⟩, ⟨2, 0, gas, []⟩] = [] ++ fieldS ⟨1, 0, code, []⟩ ++ fieldS ⟨2, 0, gas, []⟩ := by simp [msgS]
  rw [he] at hsucc hln
  unfold rowB at c1 c2
  generalize [] ++ fieldS ⟨1, 0, code, []⟩ ++ fieldS ⟨2, 0, gas, []⟩ = mk at *
  generalize [] ++ fieldS ⟨1, 0, code, []⟩ = m1 at *
  clear hok he hlf
  refine go1 ?_
  refine g_callR1 rfl hhq rfl c1 [] [] ⟨rfl, trivial, rfl, ⟨.inr ⟨rfl, rfl⟩, relF_Z rfl, trivial⟩, trivial⟩ rfl rfl ?_
  refine go1 ?_
  refine g_callR1 rfl hhq rfl c2 [] [(11, m1.length)] ⟨rfl, mm, rfl, ⟨rv, relF_Z rfl, trivial⟩, trivial⟩ rfl rfl ?_
  iterate 3 (refine gos ?_)
  refine n_re ([(28, .sl mk.length (u8s mk)), (10, .int .i64 k), (9, .int .i64 l.length), (8, .sl l.length (l.map resM)), (3, .ms 1 1 0 k), (2, .ptr 0 32 0 0 [])]) ([(0, ⟨25, 32, false, 0, [keyM (List.replicate 32 0)]⟩), (1, ⟨64, 1, true, 0, ((l.take k).map leafR).map rawM⟩)]) [(21, mk.length)] mm rfl mm mm ?_
  refine go1 ?_
  ((with_reducible apply g_mem); (case hq => exact rfl); (case hv => exact rfl); (case he => (intro R hR; refine sms hR ?_; (refine And.intro (Nat.le_refl _) ?_; refine ⟨_, rfl, ?_⟩; refine And.intro ⟨hll, app_ok (by kernel_rfl) pf⟩ ?_; refine ⟨((l.take (k + 1)).map leafR).map rawM, sv (by rw [hsucc]; rfl), k + 1, sv pf, ?_⟩); exact hR)); (case hd => exact rfl))
  refine go1 ?_
  exact ⟨k + 1, by show k + 1 ≤ l.length; omega, by show l.length - (k + 1) < l.length - k; omega, (by dsimp only; exact (vm [(0, _), (1, _)] []))⟩
 ·have hk' : k = l.length := by have := of_decide_eq_false h; omega
  subst hk'
  rw [List.take_length]
  generalize l.map leafR = Z at *
  rw [← hzl]
  refine go1 ?_
  refine g_call1 rfl hhq rfl (src (cr)) rfl [(1, Z.length)] mm lm ?_
  refine go1 ?_
  refine go0 ?_
  rfl
end
section
variable {G : GS}
attribute [local irreducible] vOpsN vOpsG vOpsD vOpGD NextD vC SeqQ BlockQ
def costS (t : TxS) : Nat × Bool := sumG (t.fee :: t.trs.map (·.amt)) 0
theorem sumG_u64 : ∀ (l : List Nat) (s : Nat), U64 s → U64 (sumG l s).1
 | [], _, h => h
 | x :: r, s, _ => by
  rw [sumG]
  split
  ·exact sumG_u64 r _ addS_u64
  ·show (0 : Nat) < _; omega
theorem costS_u64 (t : TxS) : U64 (costS t).1 := sumG_u64 _ _ (by unfold U64; omega)
theorem u64s_push (f : Nat) (l : List TrS) {k : Nat} (hk : k < l.length) : u64s (f :: (l.take (k + 1)).map (·.amt)) = u64s (f :: (l.take k).map (·.amt)) ++ [.int .u64 (l[k].amt : Int)] := by
 rw [List.take_succ_eq_append_getElem hk, List.map_append, ← List.cons_append]
 unfold u64s
 rw [List.map_append]
 rfl
theorem cost_m (t : TxS) (ht : SmTx t) : SemC Tryz.prog G 54 [txM t] (.tup [.int .u64 (costS t).1, .bool (costS t).2]) := by
 obtain ⟨snd, seq, gas, fee, memo, trs⟩ := t
 obtain ⟨h1, h2, h3, h4, h5, h6, h7⟩ := ht
 dsimp only at h1 h2 h3 h4 h5 h6 h7
 have cs := sum_m (G := G) (fee :: trs.map (·.amt)) (by simp; omega) (by
  intro a ha
  rcases List.mem_cons.1 ha with rfl | ha
  ·exact h4
  ·obtain ⟨x, hx, rfl⟩ := List.mem_map.1 ha
   exact (h7 x hx).2)
 unfold costS
 dsimp only
 generalize sumG (fee :: trs.map (·.amt)) 0 = p at *
 obtain ⟨v, b⟩ := p
 dsimp only at cs ⊢
 unfold txM
 dsimp only
 have hzl : (fee :: trs.map (·.amt)).length = trs.length + 1 := by simp
 refine scq seat Tryz.func54 27 ?_
 refine go1 ?_
 refine c_loop Nat (fun k => [(13, .int .i64 k), (12, .int .i64 trs.length), (11, .sl trs.length (trs.map trM)), (4, .ms 0 1 0 (k + 1))]) (fun k => [(0, ⟨35, 1, true, 0, u64s (fee :: (trs.take k).map (·.amt))⟩)]) 1 (fun k => k ≤ trs.length) (fun k => trs.length - k) 0 (Nat.zero_le _) (by rw [List.take_zero]; exact (vm [(0, _)] [])) ?_
 intro k hk
 try dsimp only
 refine go1 ?_
 (refine c_cond rfl ?_ ?_ <;> intro h)
 ·have hk' : k < trs.length := by have := of_decide_eq_true h; omega
  have hel := trs_at hk'
  have hsucc := u64s_push fee trs hk'
  have hll : (u64s (fee :: (trs.take k).map (·.amt))).length = k + 1 := by simp [u64s]; omega
  generalize trs[k] = x at *
  obtain ⟨to_, amt⟩ := x
  dsimp only at hsucc
  replace hel : idxL (trs.map trM) trs.length (k : Int) = some (.st [.str to_, .int .u64 amt]) := hel
  have hel := SomF.mk hel
  refine go1 ?_
  ((with_reducible apply g_mem); (case hq => exact rfl); (case hv => exact rfl); (case he => (intro R hR; refine sms hR ?_; (refine And.intro (Nat.le_refl _) ?_; refine ⟨_, rfl, ?_⟩; refine And.intro ⟨hll, app_ok (by kernel_rfl) pf⟩ ?_; refine ⟨u64s (fee :: (trs.take (k + 1)).map (·.amt)), sv (by rw [hsucc]; rfl), k + 1 + 1, sv pf, ?_⟩); exact hR)); (case hd => exact rfl))
  refine go1 ?_
  exact ⟨k + 1, by show k + 1 ≤ trs.length; omega, by show trs.length - (k + 1) < trs.length - k; omega, (by dsimp only; exact (vm [(0, _)] []))⟩
 ·have hk' : k = trs.length := by have := of_decide_eq_false h; omega
  subst hk'
  rw [List.take_length]
  generalize fee :: trs.map (·.amt) = Z at *
  rw [← hzl]
  refine go1 ?_
  refine g_call1 rfl hhq rfl (semR_of_semC cs) rfl [(0, Z.length)] ⟨(by show Z.length ≤ (u64s Z).length; simp [u64s]), trivial⟩ lm ?_
  refine go1 ?_
  refine go0 ?_
  rfl
def payB (x : TrS) (acs : List AcS) : AcS := if (getS acs x.to_).2 then (getS acs x.to_).1 else ⟨x.to_, 0, 0⟩
def payS (acs : List AcS) (x : TrS) : List AcS := putS ⟨(payB x acs).name, ((payB x acs).bal + x.amt) % 18446744073709551616, (payB x acs).seq⟩ acs
def doneA (l : LgS) (t : TxS) (sum : Nat) : AcS := ⟨(getS l.acs t.sender).1.name, ((getS l.acs t.sender).1.bal + (18446744073709551616 - sum)) % 18446744073709551616, ((getS l.acs t.sender).1.seq + 1) % 18446744073709551616⟩
def doneS (l : LgS) (t : TxS) (sum : Nat) : LgS := ⟨t.trs.foldl payS (putS (doneA l t sum) l.acs), (l.col + t.fee) % 18446744073709551616⟩
theorem mod_u64 {n : Nat} : U64 (n % 18446744073709551616) := Nat.mod_lt _ (by omega)
theorem getS_sm {acs : List AcS} {name : List UInt8} (h : ∀ a ∈ acs, SmAc a) : SmAc (getS acs name).1 := by
 unfold getS
 split
 ·rename_i a ha
  exact h a (List.mem_of_find?_eq_some ha)
 ·exact ⟨by simp [ac0], by simp [ac0, U64], by simp [ac0, U64]⟩
theorem payB_sm {x : TrS} {acs : List AcS} (hx : SmTr x) (h : ∀ a ∈ acs, SmAc a) : SmAc (payB x acs) := by
 unfold payB
 split
 ·exact getS_sm h
 ·exact ⟨hx.1, by simp [U64], by simp [U64]⟩
theorem payS_sm {x : TrS} {acs : List AcS} (hx : SmTr x) (h : ∀ a ∈ acs, SmAc a) : (∀ a ∈ payS acs x, SmAc a) ∧ (payS acs x).length ≤ acs.length + 1 := by
 have hb := payB_sm hx h
 exact ⟨fun a ha => (mem_putS ha).elim (fun e => e ▸ ⟨hb.1, mod_u64, hb.2.2⟩) (h a), putS_len _ _⟩
theorem pays_sm : ∀ (l : List TrS) (acs : List AcS), (∀ x ∈ l, SmTr x) → (∀ a ∈ acs, SmAc a) → (∀ a ∈ l.foldl payS acs, SmAc a) ∧ (l.foldl payS acs).length ≤ acs.length + l.length
 | [], acs, _, h => ⟨h, by simp⟩
 | x :: r, acs, hl, h => by
  have h1 := payS_sm (hl x (by simp)) h
  have h2 := pays_sm r (payS acs x) (fun y hy => hl y (by simp [hy])) h1.1
  exact ⟨h2.1, by have := h2.2; simp only [List.foldl_cons, List.length_cons]; omega⟩
theorem doneS_sm {l : LgS} {t : TxS} {sum : Nat} (hl : SmLg l) (ht : SmTx t) : (∀ a ∈ (doneS l t sum).acs, SmAc a) ∧ (doneS l t sum).acs.length ≤ l.acs.length + 1 + t.trs.length ∧ U64 (doneS l t sum).col := by
 have ha : SmAc (doneA l t sum) := ⟨(getS_sm hl.2.2).1, mod_u64, mod_u64⟩
 have h1 := pays_sm t.trs (putS (doneA l t sum) l.acs) ht.2.2.2.2.2.2 fun a h => (mem_putS h).elim (fun e => e ▸ ha) (hl.2.2 a)
 have h2 := putS_len (doneA l t sum) l.acs
 exact ⟨h1.1, by have := h1.2; unfold doneS; dsimp only; omega, mod_u64⟩
theorem done_r (l : LgS) (t : TxS) (sum : Nat) (hl : SmLg l) (ht : SmTx t) (hs : U64 sum) : SemR Tryz.prog G 55 [lgM l, txM t, .int .u64 sum] [] 0 (lgM (doneS l t sum)) [] 0 := by
 have hda : SmAc (doneA l t sum) := ⟨(getS_sm hl.2.2).1, mod_u64, mod_u64⟩
 have hgs : SmAc (getS l.acs t.sender).1 := getS_sm hl.2.2
 obtain ⟨acs, col⟩ := l
 obtain ⟨snd, seq, gas, fee, memo, trs⟩ := t
 obtain ⟨h1, h2, h3, h4, h5, h6, h7⟩ := ht
 obtain ⟨hl1, hl2, hl3⟩ := hl
 dsimp only at h1 h2 h3 h4 h5 h6 h7 hl1 hl2 hl3 hgs
 have c1 := get_m (G := G) acs col snd (by omega)
 have c2 := put_r (G := G) (doneA ⟨acs, col⟩ ⟨snd, seq, gas, fee, memo, trs⟩ sum) acs (by omega)
 have hp1 := putS_len (doneA ⟨acs, col⟩ ⟨snd, seq, gas, fee, memo, trs⟩ sum) acs
 have hp2 : ∀ a ∈ putS (doneA ⟨acs, col⟩ ⟨snd, seq, gas, fee, memo, trs⟩ sum) acs, SmAc a := fun a h => (mem_putS h).elim (fun e => e ▸ hda) (hl3 a)
 unfold doneS
 dsimp only
 generalize putS (doneA ⟨acs, col⟩ ⟨snd, seq, gas, fee, memo, trs⟩ sum) acs = z0 at *
 unfold doneA at c2
 dsimp only at c2
 generalize getS acs snd = g at *
 obtain ⟨⟨gn, gb, gs⟩, gok⟩ := g
 obtain ⟨hg1, hg2, hg3⟩ := hgs
 unfold U64 at hg2 hg3 hl2 h4 hs
 dsimp only at c1 c2 hg1 hg2 hg3
 unfold acM at c1 c2
 dsimp only at c1 c2
 have e1 := EqF.mk (show IntKind.u64.wrap ((gb : Int) - (sum : Int)) = (((gb + (18446744073709551616 - sum)) % 18446744073709551616 : Nat) : Int) by rw [wu64]; omega)
 have e2 := EqF.mk (show IntKind.u64.wrap ((gs : Int) + 1) = (((gs + 1) % 18446744073709551616 : Nat) : Int) by rw [wu64]; omega)
 have e3 := EqF.mk (show IntKind.u64.wrap ((col : Int) + (fee : Int)) = (((col + fee) % 18446744073709551616 : Nat) : Int) by rw [wu64]; omega)
 generalize (gb + (18446744073709551616 - sum)) % 18446744073709551616 = nb at *
 generalize (gs + 1) % 18446744073709551616 = ns at *
 generalize (col + fee) % 18446744073709551616 = nc at *
 unfold lgM txM
 dsimp only
 generalize hR : trs.foldl payS z0 = R
 refine srq seat Tryz.func55 71 ?_
 refine go1 ?_
 (iterate 6 ((all_goals (refine go1 ?_)); (all_goals (first | (refine g_call3 rfl hhq rfl (src (c1)) rfl rfl ?_) | (refine g_call3 rfl hhq rfl (c2) rfl rfl ?_) | ((first | ((with_reducible apply n_grd); (case hf => exact ⟨rfl, rfl, rfl⟩)) | ((with_reducible apply c_cond); (case he => exact rfl))); (all_goals intro h); (all_goals (try simp only [bx] at h)); (all_goals (try (exfalso; omega)))) | skip))))
 refine c_loop (Nat × List AcS) (fun x => [(37, .int .i64 x.1), (36, .int .i64 trs.length), (35, .sl trs.length (trs.map trM)), (9, .sl x.2.length (x.2.map acM)), (6, .ptr 2 2 0 0 []), (4, .ptr 1 6 0 0 []), (3, .ptr 0 2 0 0 [])]) (fun x => [(0, ⟨40, 2, false, 0, [.st [.sl acs.length (acs.map acM), .int .u64 col]]⟩), (1, ⟨114, 6, false, 0, [.st [.str snd, .int .u64 seq, .int .u64 gas, .int .u64 fee, .str memo, .sl trs.length (trs.map trM)]]⟩), (2, ⟨40, 2, false, 0, [.st [.nils, .int .u64 0]]⟩)]) 3 (fun x => x.1 ≤ trs.length ∧ x.2.length ≤ acs.length + 1 + x.1 ∧ (∀ a ∈ x.2, SmAc a) ∧ (trs.drop x.1).foldl payS x.2 = R) (fun x => trs.length - x.1) (0, z0) ⟨Nat.zero_le _, by dsimp only; omega, hp2, by dsimp only; rw [List.drop_zero]; exact hR⟩ (by dsimp only; exact (vm [(0, _), (1, _), (2, _)] [])) ?_
 clear hR hp1 hp2 c1 c2
 rintro ⟨k, z⟩ ⟨hk, hz, hzs, hRk⟩
 try dsimp only
 dsimp only at hk hz hzs hRk
 refine go1 ?_
 (refine c_cond rfl ?_ ?_ <;> intro h)
 ·have hk' : k < trs.length := by have := of_decide_eq_true h; omega
  have hel := trs_at hk'
  have hx := h7 _ (List.getElem_mem hk')
  have hps := payS_sm hx hzs
  rw [List.drop_eq_getElem_cons hk', List.foldl_cons] at hRk
  have c3 := find_m (G := G) z trs[k].to_ (by omega)
  have c4 := put_r (G := G) ⟨(payB trs[k] z).name, ((payB trs[k] z).bal + trs[k].amt) % 18446744073709551616, (payB trs[k] z).seq⟩ z (by omega)
  have hpb := payB_sm hx hzs
  have hsp := findS_spec trs[k].to_ z 0
  unfold payS at hps hRk
  have hpay : payB trs[k] z = if (getS z trs[k].to_).2 then (getS z trs[k].to_).1 else ⟨trs[k].to_, 0, 0⟩ := rfl
  generalize putS ⟨(payB trs[k] z).name, ((payB trs[k] z).bal + trs[k].amt) % 18446744073709551616, (payB trs[k] z).seq⟩ z = z2 at *
  generalize payB trs[k] z = pb at *
  generalize trs[k] = x at *
  obtain ⟨to_, amt⟩ := x
  obtain ⟨pn, pbal, pseq⟩ := pb
  obtain ⟨hx1, hx2⟩ := hx
  obtain ⟨hpb1, hpb2, hpb3⟩ := hpb
  unfold U64 at hx2 hpb2
  dsimp only at c3 c4 hsp hpay hx1 hx2 hpb2
  unfold acM at c4
  dsimp only at c4
  replace hel : idxL (trs.map trM) trs.length (k : Int) = some (.st [.str to_, .int .u64 amt]) := hel
  have hel := SomF.mk hel
  have e4 := EqF.mk (show IntKind.u64.wrap ((pbal : Int) + (amt : Int)) = (((pbal + amt) % 18446744073709551616 : Nat) : Int) by rw [wu64]; omega)
  generalize hnb : (pbal + amt) % 18446744073709551616 = nb2 at *
  rcases hsp with ⟨f1, f2⟩ | ⟨j, a, f1, f2, f3⟩
  ·rw [f1] at c3
   have hg : getS z to_ = (ac0, false) := by unfold getS; rw [f2]
   rw [hg, if_neg (by simp)] at hpay
   simp only [AcS.mk.injEq] at hpay
   obtain ⟨rfl, rfl, rfl⟩ := hpay
   have e5 := EqF.mk (show IntKind.u64.wrap ((0 : Int) + (amt : Int)) = (nb2 : Int) by rw [wu64]; omega)
   refine go1 ?_
   (iterate 8 ((all_goals (refine go1 ?_)); (all_goals (first | (refine g_call3 rfl hhq rfl (src (c3)) rfl rfl ?_) | (refine g_call3 rfl hhq rfl (c4) rfl rfl ?_) | ((first | ((with_reducible apply n_grd); (case hf => exact ⟨rfl, rfl, rfl⟩)) | ((with_reducible apply c_cond); (case he => exact rfl))); (all_goals intro h); (all_goals (try simp only [bx] at h)); (all_goals (try (exfalso; omega)))) | skip))))
   exact ⟨(k + 1, z2), ⟨by dsimp only; omega, by dsimp only; omega, hps.1, hRk⟩, by dsimp only; omega, (by dsimp only; exact (vm [(0, _), (1, _), (2, _)] []))⟩
  ·rw [f1, Nat.zero_add] at c3
   have hg : getS z to_ = (a, true) := by unfold getS; rw [f3]
   rw [hg, if_pos rfl] at hpay
   dsimp only at hpay
   obtain ⟨hj, ha⟩ := List.getElem?_eq_some_iff.1 f2
   have hel2 := acs_at hj
   rw [ha, ← hpay] at hel2
   replace hel2 : idxL (z.map acM) z.length (j : Int) = some (.st [.str pn, .int .u64 pbal, .int .u64 pseq]) := hel2
   have hel2 := SomF.mk hel2
   clear f1 f2 f3 ha hpay
   refine go1 ?_
   (iterate 8 ((all_goals (refine go1 ?_)); (all_goals (first | (refine g_call3 rfl hhq rfl (src (c3)) rfl rfl ?_) | (refine g_call3 rfl hhq rfl (c4) rfl rfl ?_) | ((first | ((with_reducible apply n_grd); (case hf => exact ⟨rfl, rfl, rfl⟩)) | ((with_reducible apply c_cond); (case he => exact rfl))); (all_goals intro h); (all_goals (try simp only [bx] at h)); (all_goals (try (exfalso; omega)))) | skip))))
   exact ⟨(k + 1, z2), ⟨by dsimp only; omega, by dsimp only; omega, hps.1, hRk⟩, by dsimp only; omega, (by dsimp only; exact (vm [(0, _), (1, _), (2, _)] []))⟩
 ·have hk' : k = trs.length := by have := of_decide_eq_false h; omega
  subst hk'
  rw [List.drop_length] at hRk
  have hRk : z = R := hRk
  subst hRk
  refine go1 ?_
  refine go0 ?_
  refine ⟨[_], [], [], rfl, rfl, trivial, rfl, ⟨?_, trivial⟩, ?_⟩
  ·exact .inl ⟨rfl, rfl⟩
  ·exact mm
end
section
variable {G : GS}
attribute [local irreducible] vOpsN vOpsG vOpsD vOpGD NextD vC SeqQ BlockQ
def faultS (l : LgS) (price : Nat) (t : TxS) (size : Nat) : Nat :=
 if (getS l.acs t.sender).2 = false then 13 else if (getS l.acs t.sender).1.seq ≠ t.seq then 14 else if t.seq = 18446744073709551615 then 6 else if t.gas < usedS size t.trs.length then 15 else
 if (mulS t.gas price).2 = false then 6 else if t.fee < (mulS t.gas price).1 then 16 else if (costS t).2 = false then 6 else if (getS l.acs t.sender).1.bal < (costS t).1 then 17 else
 if 256 < (doneS l t (costS t).1).acs.length then 3 else 0
theorem fault_m (l : LgS) (price : Nat) (t : TxS) (size : Nat) (hl : SmLg l) (ht : SmTx t) (hp : U64 price) (hz : size ≤ 1000000000) : SemC Tryz.prog G 52 [lgM l, .int .u64 price, txM t, .int .i64 size] (.int .i64 (faultS l price t size)) := by
 have cd := done_r (G := G) l t (costS t).1 hl ht (costS_u64 t)
 have cc := cost_m (G := G) t ht
 have hds := doneS_sm (sum := (costS t).1) hl ht
 generalize hr : faultS l price t size = R
 unfold faultS at hr
 generalize doneS l t (costS t).1 = D at *
 generalize costS t = cst at *
 obtain ⟨cv, cb⟩ := cst
 obtain ⟨acs, col⟩ := l
 obtain ⟨snd, seq, gas, fee, memo, trs⟩ := t
 obtain ⟨h1, h2, h3, h4, h5, h6, h7⟩ := ht
 obtain ⟨hl1, hl2, hl3⟩ := hl
 obtain ⟨dacs, dcol⟩ := D
 dsimp only at h1 h2 h3 h4 h5 h6 h7 hl1 hl2 hl3 hds hr cd cc
 have c1 := get_m (G := G) acs col snd (by omega)
 have cu := used_m (G := G) (size : Int) (trs.length : Int) (by omega) (by omega)
 have cn := need_m (G := G) gas price h3 hp
 have hul : usedS (size : Int) (trs.length : Int) < 18446744073709551616 := by unfold usedS limS; omega
 generalize usedS (size : Int) (trs.length : Int) = us at *
 generalize mulS gas price = mu at *
 obtain ⟨mv, mb⟩ := mu
 generalize getS acs snd = g at *
 obtain ⟨⟨gn, gb, gs⟩, gok⟩ := g
 dsimp only at c1 cn hr hds
 unfold acM at c1
 unfold txM lgM at *
 dsimp only at *
 cases gok with
 | false =>
  rw [if_pos rfl] at hr
  refine scq seat Tryz.func52 79 ?_
  refine go1 ?_
  refine g_call2 rfl hhq rfl (src (c1)) rfl lm ?_
  refine go1 ?_
  refine go0 ?_
  refine congrArg (MV.int .i64) ?_
  (repeat' split at hr) <;> omega
 | true =>
  rw [if_neg (by simp)] at hr
  refine scq seat Tryz.func52 79 ?_
  refine go1 ?_
  refine g_call2 rfl hhq rfl (src (c1)) rfl lm ?_
  refine go1 ?_
  (refine c_cond rfl ?_ ?_ <;> intro h)
  ·have k0 : ¬ (gs : Int) = (seq : Int) := by simpa using h
   have k1 : gs ≠ seq := by omega
   refine go1 ?_
   refine go0 ?_
   refine congrArg (MV.int .i64) ?_
   (repeat' split at hr) <;> omega
  have k0 : (gs : Int) = (seq : Int) := by simpa using h
  have k1 : gs = seq := by omega
  refine go1 ?_
  (refine c_cond rfl ?_ ?_ <;> intro h)
  ·have k2 : (seq : Int) = 18446744073709551615 := by simpa using h
   refine go1 ?_
   refine go0 ?_
   refine congrArg (MV.int .i64) ?_
   (repeat' split at hr) <;> omega
  have k2 : ¬ (seq : Int) = 18446744073709551615 := by simpa using h
  refine go1 ?_
  refine c_draw [(0, false), (1, false), (2, false), (3, false), (4, false), (5, false), (6, true), (7, false), (8, false)] ?_
  refine go1 ?_
  refine gd_call1 rfl hhq rfl [] (src (cu)) rfl [] trivial lm rfl ?_
  refine go1 ?_
  (refine c_cond rfl ?_ ?_ <;> intro h)
  ·have k3 := of_decide_eq_true h
   refine go1 ?_
   refine go0 ?_
   refine congrArg (MV.int .i64) ?_
   (repeat' split at hr) <;> omega
  have k3 := of_decide_eq_false h
  refine go1 ?_
  refine g_call2 rfl hhq rfl (src (cn)) rfl lm ?_
  refine go1 ?_
  refine g_call2 rfl hhq rfl (src (cc)) rfl lm ?_
  refine go1 ?_
  cases mb with
  | false =>
   rw [if_neg (by omega), if_neg (by omega), if_neg (by omega), if_pos rfl] at hr
   refine go1 ?_
   refine go0 ?_
   refine congrArg (MV.int .i64) ?_
   (repeat' split at hr) <;> omega
  | true =>
   rw [if_neg (by omega), if_neg (by omega), if_neg (by omega), if_neg (by simp)] at hr
   refine go1 ?_
   (refine c_cond rfl ?_ ?_ <;> intro h)
   ·have k4 := of_decide_eq_true h
    rw [if_pos (by omega)] at hr
    refine go1 ?_
    refine go0 ?_
    refine congrArg (MV.int .i64) ?_
    (repeat' split at hr) <;> omega
   have k4 := of_decide_eq_false h
   rw [if_neg (by omega)] at hr
   cases cb with
   | false =>
    rw [if_pos rfl] at hr
    refine go1 ?_
    refine go0 ?_
    refine congrArg (MV.int .i64) ?_
    (repeat' split at hr) <;> omega
   | true =>
    rw [if_neg (by simp)] at hr
    refine go1 ?_
    (refine c_cond rfl ?_ ?_ <;> intro h)
    ·have k5 := of_decide_eq_true h
     refine go1 ?_
     refine go0 ?_
     refine congrArg (MV.int .i64) ?_
     (repeat' split at hr) <;> omega
    have k5 := of_decide_eq_false h
    refine go1 ?_
    refine g_call2 rfl hhq rfl (cd) rfl lm ?_
    refine go1 ?_
    (refine c_cond rfl ?_ ?_ <;> intro h)
    ·have k6 := of_decide_eq_true h
     refine go1 ?_
     refine go0 ?_
     refine congrArg (MV.int .i64) ?_
     (repeat' split at hr) <;> omega
    have k6 := of_decide_eq_false h
    refine go1 ?_
    refine go0 ?_
    refine congrArg (MV.int .i64) ?_
    (repeat' split at hr) <;> omega
def txS (l : LgS) (price : Nat) (raw : List UInt8) : LgS × ResS :=
 if validLS l ≠ 0 then (l, ⟨1, [], 0, 0, 0⟩) else if (decodeTxS raw).2 ≠ 0 then (l, ⟨(decodeTxS raw).2, [], 0, 0, 0⟩) else
 let t := (decodeTxS raw).1
 let e := faultS l price t raw.length
 (if e ≠ 0 then l else doneS l t (costS t).1, ⟨e, t.sender, t.seq, t.gas, prioS t.fee t.gas⟩)
theorem decodeTxS_sm {raw : List UInt8} : SmTx (decodeTxS raw).1 := by
 unfold decodeTxS
 split
 ·exact tx0_sm
 ·rename_i h
  split
  ·exact tx0_sm
  ·split
   ·exact tx0_sm
   ·exact rd_sm (by omega)
theorem tx_r (l : LgS) (price : Nat) (raw : List UInt8) (hl : SmLg l) (hp : U64 price) (hraw : raw.length ≤ 1000000) : SemR Tryz.prog G 28 [lgM l, .int .u64 price, .sl raw.length (u8s raw)] [] 0 (.tup [lgM (txS l price raw).1, resM (txS l price raw).2]) [] 0 := by
 have cv := validL_m (G := G) l hl
 have cd := decodeTx_r (G := G) raw hraw
 have hsm := decodeTxS_sm (raw := raw)
 have cc := cost_m (G := G) _ hsm
 have cf := fault_m (G := G) l price _ raw.length hl hsm hp (by omega)
 have cp := prio_m (G := G) (decodeTxS raw).1.fee (decodeTxS raw).1.gas hsm.2.2.2.1 hsm.2.2.1
 have cdn := done_r (G := G) l _ (costS (decodeTxS raw).1).1 hl hsm (costS_u64 _)
 generalize hr : txS l price raw = R
 obtain ⟨⟨Racs, Rcol⟩, ⟨Rcode, Rsnd, Rseq, Rgas, Rprio⟩⟩ := R
 unfold txS at hr
 generalize decodeTxS raw = d at *
 obtain ⟨t, e⟩ := d
 dsimp only at *
 generalize validLS l = vl at *
 generalize costS t = cst at *
 obtain ⟨cstv, cstb⟩ := cst
 dsimp only at *
 generalize doneS l t cstv = D at *
 generalize faultS l price t raw.length = fe at *
 obtain ⟨snd, seq, gas, fee, memo, trs⟩ := t
 dsimp only at *
 generalize prioS fee gas = pr at *
 obtain ⟨acs, col⟩ := l
 obtain ⟨dacs, dcol⟩ := D
 obtain ⟨h1, h2, h3, h4, h5, h6, h7⟩ := hsm
 obtain ⟨hl1, hl2, hl3⟩ := hl
 dsimp only at h1 h2 h3 h4 h5 h6 h7 hl1 hl2 hl3
 unfold lgM txM at *
 unfold resM
 dsimp only at *
 by_cases hv : vl = 0
 ·subst hv
  rw [if_neg (by simp)] at hr
  by_cases he : e = 0
  ·subst he
   rw [if_neg (by simp)] at hr
   have hr2 := hr
   simp only [Prod.mk.injEq, ResS.mk.injEq] at hr2
   obtain ⟨hD, rfl, rfl, rfl, rfl, rfl⟩ := hr2
   clear hr
   refine srq seat Tryz.func28 61 ?_
   refine go1 ?_
   refine g_call2 rfl hhq rfl (src (cv)) rfl lm ?_
   refine go1 ?_
   refine g_call2 rfl hhq rfl (cd) rfl lm ?_
   refine go1 ?_
   refine c_draw [(0, false), (1, false), (2, false), (3, false), (4, false), (5, true), (6, false), (7, false), (8, false), (9, false), (10, false), (11, false), (12, false), (13, false), (14, false), (15, false), (16, true), (17, false), (18, false), (19, false)] ?_
   refine go1 ?_
   refine gd_call1 rfl hhq rfl [] (src (cf)) rfl [] trivial lm rfl ?_
   refine go1 ?_
   refine gd_call1 rfl hhq rfl [] (src (cp)) rfl [] trivial lm rfl ?_
   refine go1 ?_
   (refine c_cond rfl ?_ ?_ <;> intro h)
   ·have hfe : fe ≠ 0 := fun e => by subst e; simp at h
    rw [if_pos hfe] at hD
    simp only [LgS.mk.injEq] at hD
    obtain ⟨rfl, rfl⟩ := hD
    refine go1 ?_
    refine c_draw [(0, false), (1, false), (2, false), (3, false)] ?_
    refine go1 ?_
    refine go0 ?_
    refine ⟨[_, _], [], [], rfl, rfl, trivial, rfl, ⟨?_, ?_, trivial⟩, ?_⟩
    ·exact rv
    ·exact rv
    ·exact mm
   ·have hfe : fe = 0 := by
     have : ¬ (fe : Int) ≠ 0 := by simpa using h
     omega
    subst hfe
    rw [if_neg (by simp)] at hD
    simp only [LgS.mk.injEq] at hD
    obtain ⟨rfl, rfl⟩ := hD
    refine go1 ?_
    refine g_call2 rfl hhq rfl (src (cc)) rfl lm ?_
    refine go1 ?_
    refine c_draw [(0, false), (1, false), (2, false), (3, true), (4, false), (5, false), (6, false)] ?_
    refine go1 ?_
    refine gd_call1 rfl hhq rfl [] (cdn) rfl [] trivial lm rfl ?_
    refine go1 ?_
    refine go0 ?_
    refine ⟨[_, _], [], [], rfl, rfl, trivial, rfl, ⟨?_, ?_, trivial⟩, ?_⟩
    ·exact rv
    ·exact rv
    ·exact mm
  ·rw [if_pos he] at hr
   simp only [Prod.mk.injEq, LgS.mk.injEq, ResS.mk.injEq] at hr
   obtain ⟨⟨rfl, rfl⟩, rfl, rfl, rfl, rfl, rfl⟩ := hr
   refine srq seat Tryz.func28 61 ?_
   refine go1 ?_
   refine g_call2 rfl hhq rfl (src (cv)) rfl lm ?_
   refine go1 ?_
   refine g_call2 rfl hhq rfl (cd) rfl lm ?_
   refine go1 ?_
   (refine c_cond rfl ?_ ?_ <;> intro h)
   ·refine go1 ?_
    refine go0 ?_
    refine ⟨[_, _], [], [], rfl, rfl, trivial, rfl, ⟨?_, ?_, trivial⟩, ?_⟩
    ·exact rv
    ·exact rv
    ·exact mm
   ·exfalso
    have : ¬ (e : Int) ≠ 0 := by simpa using h
    omega
 ·rw [if_pos hv] at hr
  simp only [Prod.mk.injEq, LgS.mk.injEq, ResS.mk.injEq] at hr
  obtain ⟨⟨rfl, rfl⟩, rfl, rfl, rfl, rfl, rfl⟩ := hr
  refine srq seat Tryz.func28 61 ?_
  refine go1 ?_
  refine g_call2 rfl hhq rfl (src (cv)) rfl lm ?_
  refine go1 ?_
  (refine c_cond rfl ?_ ?_ <;> intro h)
  ·refine go1 ?_
   refine go0 ?_
   refine ⟨[_, _], [], [], rfl, rfl, trivial, rfl, ⟨?_, ?_, trivial⟩, ?_⟩
   ·exact rv
   ·exact rv
   ·exact mm
  ·exfalso
   have : ¬ (vl : Int) ≠ 0 := by simpa using h
   omega
end
section
variable {G : GS}
attribute [local irreducible] vOpsN vOpsG vOpsD vOpGD NextD vC SeqQ BlockQ
theorem trsS_le : ∀ l : List TrS, trsS l ≤ 100
 | [] => by simp [trsS]
 | x :: r => by
  have := trsS_le r
  unfold trsS
  split
  ·omega
  ·split <;> omega
theorem validTxS_le (t : TxS) : validTxS t ≤ 100 := by
 have := trsS_le t.trs
 unfold validTxS
 (repeat' split) <;> omega
theorem decodeTxS_le (raw : List UInt8) : (decodeTxS raw).2 ≤ 100 := by
 unfold decodeTxS
 split
 ·simp
 ·split
  ·simp
  ·split
   ·exact validTxS_le _
   ·simp
theorem faultS_le (l : LgS) (p : Nat) (t : TxS) (n : Nat) : faultS l p t n ≤ 100 := by
 unfold faultS
 (repeat' split) <;> omega
theorem faultS_0 {l : LgS} {p : Nat} {t : TxS} {n : Nat} (h : faultS l p t n = 0) : (doneS l t (costS t).1).acs.length ≤ 256 := by
 unfold faultS at h
 (repeat' split at h) <;> omega
theorem prioS_u64 {f g : Nat} (hf : U64 f) : U64 (prioS f g) := by
 unfold prioS mulDivS U64 at *
 split
 ·omega
 ·rename_i hg
  by_cases hc : g = 0 ∨ g ≤ f * 1000 / 18446744073709551616
  ·simp [hc]
  ·simp only [hc, if_false, if_true]
   show f * 1000 / g < _
   rw [Nat.div_lt_iff_lt_mul (by omega)]
   have : f * 1000 < g * 18446744073709551616 := (Nat.div_lt_iff_lt_mul (by omega)).1 (by omega)
   omega
theorem txS_sm {l : LgS} {p : Nat} {raw : List UInt8} (hl : SmLg l) : SmLg (txS l p raw).1 ∧ SmRes (txS l p raw).2 := by
 have hd := decodeTxS_sm (raw := raw)
 have h1 := decodeTxS_le raw
 have h2 := faultS_le l p (decodeTxS raw).1 raw.length
 have hz : ∀ c, c ≤ 100 → SmRes ⟨c, [], 0, 0, 0⟩ := fun c hc => ⟨by dsimp only; omega, by simp, by simp [U64], by simp [U64], by simp [U64]⟩
 unfold txS
 split
 ·exact ⟨hl, hz 1 (by omega)⟩
 ·split
  ·exact ⟨hl, hz _ h1⟩
  ·refine ⟨?_, by dsimp only; omega, hd.1, hd.2.1, hd.2.2.1, prioS_u64 hd.2.2.2.1⟩
   dsimp only
   split
   ·exact hl
   ·rename_i h3
    have h4 := faultS_0 (Decidable.not_not.1 h3)
    have h5 := doneS_sm (sum := (costS (decodeTxS raw).1).1) hl hd
    exact ⟨by omega, h5.2.2, h5.1⟩
def allG (p : Nat) : List (List UInt8) → LgS → List ResS → LgS × List ResS
 | [], l, out => (l, out)
 | raw :: r, l, out => allG p r (txS l p raw).1 (out ++ [(txS l p raw).2])
theorem allG_sm (p : Nat) : ∀ (r : List (List UInt8)) (l : LgS) (out : List ResS), SmLg l → (∀ x ∈ out, SmRes x) → SmLg (allG p r l out).1 ∧ (∀ x ∈ (allG p r l out).2, SmRes x) ∧ (allG p r l out).2.length = out.length + r.length
 | [], l, out, h1, h2 => ⟨h1, h2, rfl⟩
 | raw :: r, l, out, h1, h2 => by
  have h3 := txS_sm (p := p) (raw := raw) h1
  have := allG_sm p r (txS l p raw).1 (out ++ [(txS l p raw).2]) h3.1 (all_app h2 fun x hx => by rw [List.mem_singleton.1 hx]; exact h3.2)
  refine ⟨this.1, this.2.1, ?_⟩
  have h4 := this.2.2
  rw [allG, h4, List.length_append, List.length_singleton, List.length_cons]
  omega
theorem all_r (l : LgS) (p : Nat) (raws : List (List UInt8)) (hl : SmLg l) (hp : U64 p) (hn : raws.length ≤ 1000000) (hb : ∀ b ∈ raws, b.length ≤ 1000000) : SemR Tryz.prog G 10 [lgM l, .int .u64 p, rawsM raws] [] 0 (.tup [lgM (allG p raws l []).1, .sl (allG p raws l []).2.length ((allG p raws l []).2.map resM)]) [] 0 := by
 generalize hr : allG p raws l [] = R
 obtain ⟨⟨Racs, Rcol⟩, Rout⟩ := R
 obtain ⟨acs0, col0⟩ := l
 unfold rawsM lgM
 dsimp only
 refine srq seat Tryz.func10 34 ?_
 refine go1 ?_
 refine c_loop (Nat × LgS × List ResS) (fun x => [(15, .int .i64 x.1), (14, .int .i64 raws.length), (13, .sl raws.length (raws.map rawM)), (8, .ms 2 5 0 x.2.2.length), (6, .ptr 1 2 0 0 []), (3, .ptr 0 2 0 0 []), (1, .int .u64 p)]) (fun x => [(0, ⟨40, 2, false, 0, [.st [.sl x.2.1.acs.length (x.2.1.acs.map acM), .int .u64 x.2.1.col]]⟩), (1, ⟨40, 2, false, 0, [.st [.nils, .int .u64 0]]⟩), (2, ⟨76, 5, true, 0, x.2.2.map resM⟩)]) 3 (fun x => x.1 ≤ raws.length ∧ x.2.2.length = x.1 ∧ SmLg x.2.1 ∧ allG p (raws.drop x.1) x.2.1 x.2.2 = (⟨Racs, Rcol⟩, Rout)) (fun x => raws.length - x.1) (0, ⟨acs0, col0⟩, []) ⟨Nat.zero_le _, rfl, hl, by dsimp only; rw [List.drop_zero]; exact hr⟩ (by dsimp only; exact (vm [(0, _), (1, _)] [])) ?_
 clear hr hl
 rintro ⟨k, ⟨acs, col⟩, out⟩ ⟨hk, hout, hsl, hR⟩
 try dsimp only
 dsimp only at hk hout hR
 refine go1 ?_
 (refine c_cond rfl ?_ ?_ <;> intro h)
 ·have hk' : k < raws.length := by have := of_decide_eq_true h; omega
  have hel := raws_at hk'
  have hbl := hb _ (List.getElem_mem hk')
  rw [List.drop_eq_getElem_cons hk', allG] at hR
  generalize raws[k] = raw at *
  replace hel : idxL (raws.map rawM) raws.length (k : Int) = some (.sl raw.length (u8s raw)) := hel
  have hel := SomF.mk hel
  have c1 := tx_r (G := G) ⟨acs, col⟩ p raw hsl hp hbl
  have hs2 := txS_sm (p := p) (raw := raw) hsl
  generalize txS ⟨acs, col⟩ p raw = y at *
  obtain ⟨⟨nacs, ncol⟩, ⟨ec, esn, esq, egs, epr⟩⟩ := y
  unfold lgM resM at c1
  dsimp only at c1 hR hs2
  refine go1 ?_
  refine g_call2 rfl hhq rfl (c1) rfl lm ?_
  refine go1 ?_
  ((with_reducible apply g_mem); (case hq => exact rfl); (case hv => exact rfl); (case he => (intro R hR; refine sms hR ?_; (refine And.intro (Nat.le_refl _) ?_; refine ⟨_, rfl, ?_⟩; refine And.intro ⟨(by simp), app_ok (by kernel_rfl) pf⟩ ?_; refine ⟨(out ++ [(⟨ec, esn, esq, egs, epr⟩ : ResS)]).map resM, sv (by simp; rfl), out.length + 1, sv pf, ?_⟩); exact hR)); (case hd => exact rfl))
  refine go1 ?_
  exact ⟨(k + 1, ⟨nacs, ncol⟩, out ++ [⟨ec, esn, esq, egs, epr⟩]), ⟨by dsimp only; omega, by dsimp only; rw [List.length_append, List.length_singleton]; omega, hs2.1, hR⟩, by dsimp only; omega, (by dsimp only; rw [List.length_append, List.length_singleton]; exact (vm [(0, _), (1, _), (2, _)] []))⟩
 ·have hk' : k = raws.length := by have := of_decide_eq_false h; omega
  subst hk'
  rw [List.drop_length, allG] at hR
  simp only [Prod.mk.injEq, LgS.mk.injEq] at hR
  obtain ⟨⟨rfl, rfl⟩, rfl⟩ := hR
  refine go1 ?_
  refine go0 ?_
  refine ⟨[_, _], [], [(2, out.length)], rfl, rfl, ?_, rfl, ⟨?_, ?_, trivial⟩, ?_⟩
  ·exact ⟨by show out.length ≤ (out.map resM).length; simp, trivial⟩
  ·exact .inl ⟨rfl, rfl⟩
  ·exact .inr ⟨rfl, rfl, rfl, Nat.le_of_eq (Nat.zero_add _), cut_all resM out⟩
  ·exact mm
def strictG (p : Nat) : List (List UInt8) → Nat → LgS → LgS × Nat × Nat
 | [], _, l => (l, 0, 0)
 | raw :: r, i, l => if (txS l p raw).2.code ≠ 0 then (lg0, i, (txS l p raw).2.code) else strictG p r (i + 1) (txS l p raw).1
theorem strict_r (l : LgS) (p : Nat) (raws : List (List UInt8)) (hl : SmLg l) (hp : U64 p) (hn : raws.length ≤ 1000000) (hb : ∀ b ∈ raws, b.length ≤ 1000000) : SemR Tryz.prog G 172 [lgM l, .int .u64 p, rawsM raws] [] 0 (.tup [lgM (strictG p raws 0 l).1, .int .i64 (strictG p raws 0 l).2.1, .int .i64 (strictG p raws 0 l).2.2]) [] 0 := by
 generalize hr : strictG p raws 0 l = R
 obtain ⟨⟨Racs, Rcol⟩, Rat, Re⟩ := R
 obtain ⟨acs0, col0⟩ := l
 unfold rawsM lgM
 dsimp only
 refine srq seat Tryz.func172 37 ?_
 refine go1 ?_
 refine c_loop (Nat × LgS) (fun x => [(15, .int .i64 x.1), (14, .int .i64 raws.length), (13, .sl raws.length (raws.map rawM)), (6, .ptr 1 2 0 0 []), (3, .ptr 0 2 0 0 []), (1, .int .u64 p)]) (fun x => [(0, ⟨40, 2, false, 0, [.st [.sl x.2.acs.length (x.2.acs.map acM), .int .u64 x.2.col]]⟩), (1, ⟨40, 2, false, 0, [.st [.nils, .int .u64 0]]⟩)]) 2 (fun x => x.1 ≤ raws.length ∧ SmLg x.2 ∧ strictG p (raws.drop x.1) x.1 x.2 = (⟨Racs, Rcol⟩, Rat, Re)) (fun x => raws.length - x.1) (0, ⟨acs0, col0⟩) ⟨Nat.zero_le _, hl, by dsimp only; rw [List.drop_zero]; exact hr⟩ (by dsimp only; exact (vm [(0, _), (1, _)] [])) ?_
 clear hr hl
 rintro ⟨k, ⟨acs, col⟩⟩ ⟨hk, hsl, hR⟩
 try dsimp only
 dsimp only at hk hR
 refine go1 ?_
 (refine c_cond rfl ?_ ?_ <;> intro h)
 ·have hk' : k < raws.length := by have := of_decide_eq_true h; omega
  have hel := raws_at hk'
  have hbl := hb _ (List.getElem_mem hk')
  rw [List.drop_eq_getElem_cons hk', strictG] at hR
  generalize raws[k] = raw at *
  replace hel : idxL (raws.map rawM) raws.length (k : Int) = some (.sl raw.length (u8s raw)) := hel
  have hel := SomF.mk hel
  have c1 := tx_r (G := G) ⟨acs, col⟩ p raw hsl hp hbl
  have hs2 := txS_sm (p := p) (raw := raw) hsl
  generalize txS ⟨acs, col⟩ p raw = y at *
  obtain ⟨⟨nacs, ncol⟩, ⟨ec, esn, esq, egs, epr⟩⟩ := y
  unfold lgM resM at c1
  dsimp only at c1 hR hs2
  refine go1 ?_
  refine g_call2 rfl hhq rfl (c1) rfl lm ?_
  refine go1 ?_
  (refine c_cond rfl ?_ ?_ <;> intro h)
  ·have he : ec ≠ 0 := fun e => by subst e; simp at h
   rw [if_pos he] at hR
   simp only [lg0, Prod.mk.injEq, LgS.mk.injEq] at hR
   obtain ⟨⟨rfl, rfl⟩, rfl, rfl⟩ := hR
   refine go1 ?_
   refine c_draw [(0, false), (1, false), (2, false), (3, false), (4, false), (5, false), (6, false)] ?_
   refine go1 ?_
   refine go0 ?_
   refine ⟨[_, _, _], [], [], rfl, rfl, trivial, rfl, ⟨?_, ?_, ?_, trivial⟩, ?_⟩
   ·exact .inr ⟨_, rfl, lm⟩
   ·exact rv
   ·exact rv
   ·exact mm
  ·have he : ec = 0 := by
    have : ¬ (ec : Int) ≠ 0 := by simpa using h
    omega
   rw [if_neg (by simp [he])] at hR
   refine go1 ?_
   exact ⟨(k + 1, ⟨nacs, ncol⟩), ⟨by dsimp only; omega, hs2.1, hR⟩, by dsimp only; omega, (by dsimp only; exact (vm [(0, _), (1, _)] []))⟩
 ·have hk' : k = raws.length := by have := of_decide_eq_false h; omega
  subst hk'
  rw [List.drop_length, strictG] at hR
  simp only [Prod.mk.injEq, LgS.mk.injEq] at hR
  obtain ⟨⟨rfl, rfl⟩, rfl, rfl⟩ := hR
  refine go1 ?_
  refine go0 ?_
  refine ⟨[_, _, _], [], [], rfl, rfl, trivial, rfl, ⟨?_, ?_, ?_, trivial⟩, ?_⟩
  ·exact .inl ⟨rfl, rfl⟩
  ·exact rv
  ·exact rv
  ·exact mm
end
section
variable {G : GS}
attribute [local irreducible] vOpsN vOpsG vOpsD vOpGD NextD vC SeqQ BlockQ
structure AppS where
 com : LgS
 chk : LgS
 nxt : LgS
 opn : Bool
 price : Nat
def appM (a : AppS) : MV := .st [lgM a.com, lgM a.chk, lgM a.nxt, .bool a.opn, .int .u64 a.price]
def SmApp (a : AppS) : Prop := SmLg a.com ∧ SmLg a.chk ∧ SmLg a.nxt ∧ U64 a.price
def app0 : AppS := ⟨lg0, lg0, lg0, false, 0⟩
theorem lg0_sm : SmLg lg0 := ⟨by simp [lg0], by simp [lg0, U64], by simp [lg0]⟩
theorem app0_sm : SmApp app0 := ⟨lg0_sm, lg0_sm, lg0_sm, by simp [app0, U64]⟩
abbrev lgZ : MV := .st [.nils, .int .u64 0]
theorem rel_lg0 {σ : Nat → Option Nat} {fz : Fz} : relV σ fz (lgM lg0) lgZ := .inr ⟨_, rfl, ⟨.inr ⟨rfl, rfl⟩, ⟨rfl, rfl⟩, trivial⟩⟩
theorem rel_lg {σ : Nat → Option Nat} {fz : Fz} {n : Nat} {l : List MV} {c : Int} : relV σ fz (.st [.sl n l, .int .u64 c]) (.st [.sl n l, .int .u64 c]) := .inl ⟨rfl, rfl⟩
def initS (acs : List AcS) (price : Nat) : AppS × Nat := if (genS acs).2 ≠ 0 then (app0, (genS acs).2) else (⟨(genS acs).1, (genS acs).1, lg0, false, price⟩, 0)
theorem initS_sm {acs : List AcS} {p : Nat} (h : ∀ a ∈ acs, SmAc a) (hp : U64 p) : SmApp (initS acs p).1 := by
 unfold initS
 split
 ·exact app0_sm
 ·exact ⟨genS_sm h, genS_sm h, lg0_sm, hp⟩
abbrev apZ : MV := .st [lgZ, lgZ, lgZ, .bool false, .int .u64 0]
theorem rel_app0 {σ : Nat → Option Nat} {fz : Fz} : relV σ fz (appM app0) apZ := .inr ⟨_, rfl, ⟨rel_lg0, rel_lg0, rel_lg0, ⟨rfl, rfl⟩, ⟨rfl, rfl⟩, trivial⟩⟩
theorem init_r (l : List AcS) (p : Nat) (hl : l.length ≤ 100000) (hsm : ∀ a ∈ l, SmAc a) (_hp : U64 p) : SemR Tryz.prog G 111 [.sl l.length (l.map acM), .int .u64 p] [] 0 (.tup [appM (initS l p).1, .int .i64 (initS l p).2]) [] 0 := by
 have c1 := gen_r (G := G) l hl hsm
 unfold initS
 generalize genS l = g at *
 obtain ⟨⟨acs, col⟩, e⟩ := g
 unfold lgM at c1
 dsimp only at c1 ⊢
 by_cases he : e = 0
 ·subst he
  rw [if_neg (by simp)]
  refine srq seat Tryz.func111 21 ?_
  refine go1 ?_
  refine g_call2 rfl hhq rfl (c1) rfl lm ?_
  refine go1 ?_
  refine go0 ?_
  refine ⟨[_, _], [], [], rfl, rfl, trivial, rfl, ⟨?_, ?_, trivial⟩, ?_⟩
  ·exact .inr ⟨_, rfl, ⟨rel_lg, rel_lg, rel_lg0, ⟨rfl, rfl⟩, ⟨rfl, rfl⟩, trivial⟩⟩
  ·exact rv
  ·exact mm
 ·rw [if_pos he]
  refine srq seat Tryz.func111 21 ?_
  refine go1 ?_
  refine g_call2 rfl hhq rfl (c1) rfl lm ?_
  refine go1 ?_
  (refine c_cond rfl ?_ ?_ <;> intro h)
  ·refine go1 ?_
   refine go0 ?_
   refine ⟨[_, _], [], [], rfl, rfl, trivial, rfl, ⟨?_, ?_, trivial⟩, ?_⟩
   ·exact rel_app0
   ·exact rv
   ·exact mm
  ·exfalso
   have : ¬ (e : Int) ≠ 0 := by simpa using h
   omega
def checkS (a : AppS) (raw : List UInt8) : ResS := (txS a.chk a.price raw).2
def acceptS (a : AppS) (raw : List UInt8) : AppS := ⟨a.com, (txS a.chk a.price raw).1, a.nxt, a.opn, a.price⟩
theorem acceptS_sm {a : AppS} {raw : List UInt8} (h : SmApp a) : SmApp (acceptS a raw) := ⟨h.1, (txS_sm h.2.1).1, h.2.2⟩
theorem check_r (a : AppS) (raw : List UInt8) (ha : SmApp a) (hraw : raw.length ≤ 1000000) : SemC Tryz.prog G 118 [appM a, .sl raw.length (u8s raw)] (resM (checkS a raw)) := by
 have c1 := tx_r (G := G) a.chk a.price raw ha.2.1 ha.2.2.2 hraw
 unfold checkS
 obtain ⟨⟨a1, b1⟩, ⟨a2, b2⟩, ⟨a3, b3⟩, op, price⟩ := a
 dsimp only at *
 generalize txS ⟨a2, b2⟩ price raw = y at *
 obtain ⟨⟨nacs, ncol⟩, ⟨ec, esn, esq, egs, epr⟩⟩ := y
 unfold appM lgM resM at *
 dsimp only at *
 refine scq seat Tryz.func118 17 ?_
 refine go1 ?_
 refine g_call2 rfl hhq rfl (c1) rfl lm ?_
 refine go1 ?_
 refine go0 ?_
 rfl
theorem accept_m (a : AppS) (raw : List UInt8) (ha : SmApp a) (hraw : raw.length ≤ 1000000) : SemC Tryz.prog G 124 [appM a, .sl raw.length (u8s raw)] (appM (acceptS a raw)) := by
 have c1 := tx_r (G := G) a.chk a.price raw ha.2.1 ha.2.2.2 hraw
 unfold acceptS
 obtain ⟨⟨a1, b1⟩, ⟨a2, b2⟩, ⟨a3, b3⟩, op, price⟩ := a
 dsimp only at *
 generalize txS ⟨a2, b2⟩ price raw = y at *
 obtain ⟨⟨nacs, ncol⟩, ⟨ec, esn, esq, egs, epr⟩⟩ := y
 unfold appM lgM resM at *
 dsimp only at *
 refine scq seat Tryz.func124 16 ?_
 refine go1 ?_
 refine g_call2 rfl hhq rfl (c1) rfl lm ?_
 refine go1 ?_
 refine go0 ?_
 rfl
def resetS (a : AppS) : AppS := ⟨a.com, a.com, a.nxt, a.opn, a.price⟩
theorem reset_m (a : AppS) : SemC Tryz.prog G 136 [appM a] (appM (resetS a)) := by
 unfold resetS
 obtain ⟨⟨a1, b1⟩, ⟨a2, b2⟩, ⟨a3, b3⟩, op, price⟩ := a
 unfold appM lgM
 dsimp only
 refine scq seat Tryz.func136 7 ?_
 refine go1 ?_
 refine go0 ?_
 rfl
def comS (a : AppS) : AppS × Nat := if a.opn = false then (app0, 9) else (⟨a.nxt, a.nxt, lg0, false, a.price⟩, 0)
theorem comS_sm {a : AppS} (h : SmApp a) : SmApp (comS a).1 := by
 unfold comS
 split
 ·exact app0_sm
 ·exact ⟨h.2.2.1, h.2.2.1, lg0_sm, h.2.2.2⟩
theorem commit_m (a : AppS) : SemR Tryz.prog G 131 [appM a] [] 0 (.tup [appM (comS a).1, .int .i64 (comS a).2]) [] 0 := by
 unfold comS
 obtain ⟨⟨a1, b1⟩, ⟨a2, b2⟩, ⟨a3, b3⟩, op, price⟩ := a
 dsimp only
 cases op with
 | false =>
  rw [if_pos rfl]
  show SemR _ _ _ [.st [.st [.sl a1.length (a1.map acM), .int .u64 b1], .st [.sl a2.length (a2.map acM), .int .u64 b2], .st [.sl a3.length (a3.map acM), .int .u64 b3], .bool false, .int .u64 price]] _ _ _ _ _
  refine srq seat Tryz.func131 15 ?_
  refine go1 ?_
  refine go0 ?_
  refine ⟨[_, _], [], [], rfl, rfl, trivial, rfl, ⟨?_, ?_, trivial⟩, ?_⟩
  ·exact rel_app0
  ·exact rv
  ·exact mm
 | true =>
  rw [if_neg (by simp)]
  show SemR _ _ _ [.st [.st [.sl a1.length (a1.map acM), .int .u64 b1], .st [.sl a2.length (a2.map acM), .int .u64 b2], .st [.sl a3.length (a3.map acM), .int .u64 b3], .bool true, .int .u64 price]] _ _ _ _ _
  refine srq seat Tryz.func131 15 ?_
  refine go1 ?_
  refine go0 ?_
  refine ⟨[_, _], [], [], rfl, rfl, trivial, rfl, ⟨?_, ?_, trivial⟩, ?_⟩
  ·exact .inr ⟨_, rfl, ⟨rel_lg, rel_lg, rel_lg0, ⟨rfl, rfl⟩, ⟨rfl, rfl⟩, trivial⟩⟩
  ·exact rv
  ·exact mm
def finS (a : AppS) (raws : List (List UInt8)) : AppS × List ResS × Nat := if a.opn = true then (app0, [], 9) else if 512 < raws.length then (app0, [], 3) else
 (⟨a.com, a.chk, (allG a.price raws a.com []).1, true, a.price⟩, (allG a.price raws a.com []).2, 0)
theorem finS_sm {a : AppS} {raws : List (List UInt8)} (h : SmApp a) : SmApp (finS a raws).1 ∧ (∀ r ∈ (finS a raws).2.1, SmRes r) ∧ (finS a raws).2.1.length ≤ raws.length := by
 have h1 := allG_sm a.price raws a.com [] h.1 (by simp)
 unfold finS
 split
 ·exact ⟨app0_sm, by simp, by simp⟩
 split
 ·exact ⟨app0_sm, by simp, by simp⟩
 ·exact ⟨⟨h.1, h.2.1, h1.1, h.2.2.2⟩, h1.2.1, by have := h1.2.2; simp only [List.length_nil] at this; dsimp only; omega⟩
theorem fin_r (a : AppS) (raws : List (List UInt8)) (ha : SmApp a) (hn : raws.length ≤ 1000000) (hb : ∀ b ∈ raws, b.length ≤ 1000000) : SemR Tryz.prog G 130 [appM a, rawsM raws] [] 0 (.tup [appM (finS a raws).1, .sl (finS a raws).2.1.length ((finS a raws).2.1.map resM), .int .i64 (finS a raws).2.2]) [] 0 := by
 have c1 := all_r (G := G) a.com a.price raws ha.1 ha.2.2.2 hn hb
 unfold finS
 obtain ⟨⟨a1, b1⟩, ⟨a2, b2⟩, ⟨a3, b3⟩, op, price⟩ := a
 dsimp only at *
 generalize allG price raws ⟨a1, b1⟩ [] = y at *
 obtain ⟨⟨nacs, ncol⟩, out⟩ := y
 unfold rawsM at *
 have hA : ∀ op : Bool, appM ⟨⟨a1, b1⟩, ⟨a2, b2⟩, ⟨a3, b3⟩, op, price⟩ = .st [.st [.sl a1.length (a1.map acM), .int .u64 b1], .st [.sl a2.length (a2.map acM), .int .u64 b2], .st [.sl a3.length (a3.map acM), .int .u64 b3], .bool op, .int .u64 price] := fun _ => rfl
 rw [hA]
 unfold lgM at c1
 dsimp only at c1
 cases op with
 | true =>
  rw [if_pos rfl]
  refine srq seat Tryz.func130 30 ?_
  refine go1 ?_
  refine go0 ?_
  refine ⟨[_, _, _], [], [], rfl, rfl, trivial, rfl, ⟨?_, ?_, ?_, trivial⟩, ?_⟩
  ·exact rel_app0
  ·exact .inr ⟨rfl, rfl⟩
  ·exact rv
  ·exact mm
 | false =>
  rw [if_neg (by simp)]
  by_cases hl : 512 < raws.length
  ·rw [if_pos hl]
   refine srq seat Tryz.func130 30 ?_
   refine go1 ?_
   (iterate 4 ((all_goals (refine go1 ?_)); (all_goals (first | ((with_reducible apply n_grd); (case hf => exact ⟨rfl, rfl, rfl⟩); (all_goals intro h); (all_goals (try simp only [bx] at h)); (all_goals (try (exfalso; omega)))) | ((with_reducible apply c_cond); (case he => exact rfl); (all_goals intro h); (all_goals (try simp only [decide_eq_true_eq, decide_eq_false_iff_not] at h)); (all_goals (try (exfalso; omega)))) | skip))))
   all_goals (refine go0 ?_)
   refine ⟨[_, _, _], [], [], rfl, rfl, trivial, rfl, ⟨?_, ?_, ?_, trivial⟩, ?_⟩
   ·exact rel_app0
   ·exact .inr ⟨rfl, rfl⟩
   ·exact rv
   ·exact mm
  ·rw [if_neg hl]
   dsimp only
   show SemR _ _ _ _ _ _ (.tup [.st [.st [.sl a1.length (a1.map acM), .int .u64 b1], .st [.sl a2.length (a2.map acM), .int .u64 b2], .st [.sl nacs.length (nacs.map acM), .int .u64 ncol], .bool true, .int .u64 price], _, _]) _ _
   refine srq seat Tryz.func130 30 ?_
   refine go1 ?_
   (iterate 6 ((all_goals (refine go1 ?_)); (all_goals (first | (refine g_call3 rfl hhq rfl (c1) rfl rfl ?_) | ((with_reducible apply n_grd); (case hf => exact ⟨rfl, rfl, rfl⟩); (all_goals intro h); (all_goals (try simp only [bx] at h)); (all_goals (try (exfalso; omega)))) | ((with_reducible apply c_cond); (case he => exact rfl); (all_goals intro h); (all_goals (try simp only [decide_eq_true_eq, decide_eq_false_iff_not] at h)); (all_goals (try (exfalso; omega)))) | skip))))
   all_goals (refine go0 ?_)
   refine ⟨[_, _, _], [], [], rfl, rfl, trivial, rfl, ⟨?_, ?_, ?_, trivial⟩, ?_⟩
   ·exact rv
   ·exact rv
   ·exact rv
   ·exact mm
def afterS (l : LgS) (p : Nat) (raw : List UInt8) : LgS := (txS l p raw).1
theorem after_m (l : LgS) (p : Nat) (raw : List UInt8) (hl : SmLg l) (hp : U64 p) (hraw : raw.length ≤ 1000000) : SemC Tryz.prog G 27 [lgM l, .int .u64 p, .sl raw.length (u8s raw)] (lgM (afterS l p raw)) := by
 have c1 := tx_r (G := G) l p raw hl hp hraw
 unfold afterS
 obtain ⟨a1, b1⟩ := l
 generalize txS ⟨a1, b1⟩ p raw = y at *
 obtain ⟨⟨nacs, ncol⟩, ⟨ec, esn, esq, egs, epr⟩⟩ := y
 unfold lgM resM at *
 dsimp only at *
 refine scq seat Tryz.func27 17 ?_
 refine go1 ?_
 refine g_call2 rfl hhq rfl (c1) rfl lm ?_
 refine go1 ?_
 refine go0 ?_
 rfl
end
section
variable {G : GS}
attribute [local irreducible] vOpsN vOpsG vOpsD vOpGD NextD vC SeqQ BlockQ
theorem clone_u8 (x : List UInt8) (hx : x.length < 536870912) : SemR Tryz.prog G 57 [.sl x.length (u8s x)] [] 0 (.sl x.length (u8s x)) [] 0 := by
 refine srq seat Tryz.func57 8 ?_
 refine go1 ?_
 ((with_reducible apply g_nil); (case hq => exact rfl); (case hd => exact rfl); intro b hb)
 cases b with
 | true =>
  have h0 := hb rfl
  have h1 : x = [] := List.length_eq_zero_iff.1 h0
  subst h1
  refine go1 ?_
  refine go0 ?_
  refine ⟨[_], [], [], rfl, rfl, trivial, rfl, ⟨?_, trivial⟩, ?_⟩
  ·exact .inr ⟨rfl, rfl⟩
  ·exact mm
 | false =>
  refine go1 ?_
  ((with_reducible apply g_mem); (case hq => exact rfl); (case hv => exact rfl); (case he => (intro R hR; refine sms hR ?_; refine And.intro ((head_b x)) ?_; refine And.intro ⟨rfl, app_ok (by kernel_rfl) pf⟩ ?_; refine ⟨u8s x, sv (by show [] ++ u8s x = _; rw [List.nil_append]), x.length, sv pf, ?_⟩; exact hR)); (case hd => exact rfl))
  refine go1 ?_
  refine ⟨[_], [], [(5, x.length)], rfl, rfl, ?_, rfl, ⟨?_, trivial⟩, ?_⟩
  ·exact ⟨by show x.length ≤ (u8s x).length; simp [u8s], trivial⟩
  ·exact rv
  ·exact mm
theorem ownRaws_r (l : List (List UInt8)) (hl : l.length ≤ 1000000) (hb : ∀ b ∈ l, b.length < 536870912) : SemR Tryz.prog G 30 [rawsM l] [] 0 (rawsM l) [] 0 := by
 unfold rawsM
 refine srq seat Tryz.func30 19 ?_
 refine go1 ?_
 refine c_loop Nat (fun k => [(8, .int .i64 k), (7, .int .i64 l.length), (6, .sl l.length (l.map rawM)), (3, .ms 0 1 0 k)]) (fun k => [(0, ⟨64, 1, true, 0, (l.take k).map rawM⟩)]) 1 (fun k => k ≤ l.length) (fun k => l.length - k) 0 (Nat.zero_le _) (by rw [List.take_zero]; exact (vm [] [])) ?_
 intro k hk
 try dsimp only
 refine go1 ?_
 (refine c_cond rfl ?_ ?_ <;> intro h)
 ·have hk' : k < l.length := by have := of_decide_eq_true h; omega
  have hel := raws_at hk'
  have hbl := hb _ (List.getElem_mem hk')
  have hsucc : (l.take (k + 1)).map rawM = (l.take k).map rawM ++ [rawM l[k]] := by rw [List.take_succ_eq_append_getElem hk', List.map_append]; rfl
  have hll : ((l.take k).map rawM).length = k := by simp; omega
  generalize l[k] = b at *
  replace hel : idxL (l.map rawM) l.length (k : Int) = some (.sl b.length (u8s b)) := hel
  have hel := SomF.mk hel
  have c1 := clone_u8 (G := G) b hbl
  refine go1 ?_
  refine g_call2 rfl hhq rfl (c1) rfl lm ?_
  refine go1 ?_
  ((with_reducible apply g_mem); (case hq => exact rfl); (case hv => exact rfl); (case he => (intro R hR; refine sms hR ?_; (refine And.intro (Nat.le_refl _) ?_; refine ⟨_, rfl, ?_⟩; refine And.intro ⟨hll, app_ok (by kernel_rfl) pf⟩ ?_; refine ⟨(l.take (k + 1)).map rawM, sv (by rw [hsucc]; rfl), k + 1, sv pf, ?_⟩); exact hR)); (case hd => exact rfl))
  refine go1 ?_
  exact ⟨k + 1, by show k + 1 ≤ l.length; omega, by show l.length - (k + 1) < l.length - k; omega, (by dsimp only; exact (vm [(0, _)] []))⟩
 ·have hk' : k = l.length := by have := of_decide_eq_false h; omega
  subst hk'
  rw [List.take_length]
  refine go1 ?_
  refine ⟨[_], [], [(0, l.length)], rfl, rfl, ?_, rfl, ⟨?_, trivial⟩, ?_⟩
  ·exact ⟨by show l.length ≤ (l.map rawM).length; simp, trivial⟩
  ·exact .inr ⟨rfl, rfl, rfl, Nat.le_of_eq (Nat.zero_add _), cut_all rawM l⟩
  ·exact mm
theorem pvarSize_m (n : Nat) (hn : U64 n) : SemC Tryz.prog G 108 [.int .u64 n] (.int .i64 (varS n).length) := by
 unfold U64 at hn
 have hlen := (varS_len10 hn).2
 generalize hr : (varS n).length = R at *
 refine scq seat Tryz.func108 11 ?_
 refine go1 ?_
 refine c_loop (Nat × Nat) (fun x => [(3, .int .i64 x.2), (0, .int .u64 x.1)]) (fun _ => []) 0 (fun x => x.1 < 18446744073709551616 ∧ x.2 + (varS x.1).length = R + 1) (fun x => x.1) (n, 1) ⟨hn, by dsimp only; omega⟩ (by dsimp only; exact (vm [] [])) ?_
 rintro ⟨m, s⟩ ⟨hm, hs⟩
 try dsimp only
 dsimp only at hm hs
 have e1 := EqF.mk (shr7 m)
 refine go1 ?_
 (refine c_cond rfl ?_ ?_ <;> intro h)
 ·have hge := of_decide_eq_true h
  rw [varS_hi (by omega), List.length_cons] at hs
  refine go1 ?_
  exact ⟨(m / 128, s + 1), ⟨by dsimp only; omega, by dsimp only; omega⟩, by dsimp only; omega, (by dsimp only; exact (vm [] []))⟩
 ·have hge := of_decide_eq_false h
  rw [varS_lo (by omega), List.length_singleton] at hs
  have : s = R := by omega
  subst this
  refine go1 ?_
  refine go0 ?_
  rfl
theorem pwireB_m (n : Nat) (hn : n < 4611686018427387904) : SemC Tryz.prog G 69 [.int .i64 n] (.int .i64 (wireB n)) := by
 have c1 := pvarSize_m (G := G) n (by unfold U64; omega)
 have h2 := (varS_len10 (n := n) (by omega)).2
 unfold wireB
 generalize (varS n).length = v at *
 have hw := EqF.mk (show IntKind.u64.wrap (n : Int) = (n : Int) from wrapu_in _ (by omega) (by omega))
 refine scq seat Tryz.func69 11 ?_
 refine go1 ?_
 (iterate 6 ((all_goals (refine go1 ?_)); (all_goals (first | (refine g_call3 rfl hhq rfl (src (c1)) rfl rfl ?_) | ((first | ((with_reducible apply n_grd); (case hf => exact ⟨rfl, rfl, rfl⟩)) | ((with_reducible apply c_cond); (case he => exact rfl))); (all_goals intro h); (all_goals (try simp only [bx] at h)); (all_goals (try (exfalso; omega)))) | skip))))
 all_goals (refine go0 ?_)
 all_goals (refine congrArg (MV.int .i64) ?_; omega)
def sumB (l : List (List UInt8)) : Nat := (l.map fun b => wireB b.length).sum
theorem sumB_take (l : List (List UInt8)) {k : Nat} (hk : k < l.length) : sumB (l.take (k + 1)) = sumB (l.take k) + wireB l[k].length := by
 unfold sumB
 rw [List.take_succ_eq_append_getElem hk, List.map_append, List.sum_append]
 simp
theorem sumB_le (B : Nat) : ∀ (l : List (List UInt8)), (∀ b ∈ l, b.length ≤ B ∧ U64 b.length) → sumB l ≤ l.length * (B + 11)
 | [], _ => by simp [sumB]
 | b :: l, h => by
  have h1 := wireB_le (h b (by simp)).2
  have h2 := (h b (by simp)).1
  have ih := sumB_le B l fun x hx => h x (by simp [hx])
  have e : sumB (b :: l) = wireB b.length + sumB l := by simp [sumB]
  rw [e, List.length_cons, Nat.add_mul]
  omega
theorem sumB_cut (l : List (List UInt8)) (k : Nat) : sumB (l.take k) ≤ sumB l := by
 have : sumB (l.take k) + sumB (l.drop k) = sumB l := by
  unfold sumB
  rw [← List.sum_append, ← List.map_append, List.take_append_drop]
 omega
theorem rsum_m (l : List (List UInt8)) (hl : l.length ≤ 1000000) (hb : ∀ b ∈ l, b.length ≤ 300000000) : SemC Tryz.prog G 40 [rawsM l] (.int .i64 (sumB l)) := by
 have hsum := sumB_le 300000000 l fun b h => ⟨hb b h, by have := hb b h; unfold U64; omega⟩
 have hmax : l.length * (300000000 + 11) ≤ 1000000 * 300000011 := Nat.mul_le_mul_right _ hl
 unfold rawsM
 refine scq seat Tryz.func40 19 ?_
 refine go1 ?_
 refine c_loop Nat (fun k => [(8, .int .i64 k), (7, .int .i64 l.length), (6, .sl l.length (l.map rawM)), (3, .int .i64 (sumB (l.take k)))]) (fun _ => []) 0 (fun k => k ≤ l.length) (fun k => l.length - k) 0 (Nat.zero_le _) (by rw [List.take_zero]; exact (vm [] [])) ?_
 intro k hk
 try dsimp only
 refine go1 ?_
 (refine c_cond rfl ?_ ?_ <;> intro h)
 ·have hk' : k < l.length := by have := of_decide_eq_true h; omega
  have hel := raws_at hk'
  have hbl := hb _ (List.getElem_mem hk')
  have hsucc := sumB_take l hk'
  have hc1 := sumB_cut l k
  have hc2 := sumB_cut l (k + 1)
  generalize l[k] = b at *
  replace hel : idxL (l.map rawM) l.length (k : Int) = some (.sl b.length (u8s b)) := hel
  have hel := SomF.mk hel
  have c1 := wireB_m (G := G) b.length (by omega)
  generalize wireB b.length = v at *
  refine go1 ?_
  refine g_call2 rfl hhq rfl (src (c1)) rfl lm ?_
  refine go1 ?_
  exact ⟨k + 1, by show k + 1 ≤ l.length; omega, by show l.length - (k + 1) < l.length - k; omega, (by dsimp only; rw [hsucc]; exact (vm [] []))⟩
 ·have hk' : k = l.length := by have := of_decide_eq_false h; omega
  subst hk'
  rw [List.take_length]
  refine go1 ?_
  refine go0 ?_
  rfl
theorem psum_m (l : List (List UInt8)) (hl : l.length ≤ 1000000) (hb : ∀ b ∈ l, b.length ≤ 300000000) : SemC Tryz.prog G 39 [rawsM l] (.int .i64 (sumB l)) := by
 have hsum := sumB_le 300000000 l fun b h => ⟨hb b h, by have := hb b h; unfold U64; omega⟩
 have hmax : l.length * (300000000 + 11) ≤ 1000000 * 300000011 := Nat.mul_le_mul_right _ hl
 unfold rawsM
 refine scq seat Tryz.func39 19 ?_
 refine go1 ?_
 refine c_loop Nat (fun k => [(8, .int .i64 k), (7, .int .i64 l.length), (6, .sl l.length (l.map rawM)), (3, .int .i64 (sumB (l.take k)))]) (fun _ => []) 0 (fun k => k ≤ l.length) (fun k => l.length - k) 0 (Nat.zero_le _) (by rw [List.take_zero]; exact (vm [] [])) ?_
 intro k hk
 try dsimp only
 refine go1 ?_
 (refine c_cond rfl ?_ ?_ <;> intro h)
 ·have hk' : k < l.length := by have := of_decide_eq_true h; omega
  have hel := raws_at hk'
  have hbl := hb _ (List.getElem_mem hk')
  have hsucc := sumB_take l hk'
  have hc1 := sumB_cut l k
  have hc2 := sumB_cut l (k + 1)
  generalize l[k] = b at *
  replace hel : idxL (l.map rawM) l.length (k : Int) = some (.sl b.length (u8s b)) := hel
  have hel := SomF.mk hel
  have c1 := pwireB_m (G := G) b.length (by omega)
  generalize wireB b.length = v at *
  refine go1 ?_
  refine g_call2 rfl hhq rfl (src (c1)) rfl lm ?_
  refine go1 ?_
  exact ⟨k + 1, by show k + 1 ≤ l.length; omega, by show l.length - (k + 1) < l.length - k; omega, (by dsimp only; rw [hsucc]; exact (vm [] []))⟩
 ·have hk' : k = l.length := by have := of_decide_eq_false h; omega
  subst hk'
  rw [List.take_length]
  refine go1 ?_
  refine go0 ?_
  rfl
end
section
variable {G : GS}
attribute [local irreducible] vOpsN vOpsG vOpsD vOpGD NextD vC SeqQ BlockQ
abbrev I64 (x : Int) : Prop := -9223372036854775808 ≤ x ∧ x < 9223372036854775808
structure HdS where
 height : Int
 time : Int
 prop : Int
 par : List UInt8
 txs : List UInt8
 app : List UInt8
 res : List UInt8
 deriving DecidableEq
abbrev hdM (h : HdS) : MV := .st [.int .i64 h.height, .int .i64 h.time, .int .i64 h.prop, keyM h.par, keyM h.txs, keyM h.app, keyM h.res]
structure HdOk (h : HdS) : Prop where
 height : I64 h.height
 time : I64 h.time
 prop : I64 h.prop
 par : h.par.length = 32
 txs : h.txs.length = 32
 app : h.app.length = 32
 res : h.res.length = 32
def natP (x : Int) : Nat := (max x 0).toNat
theorem maxw (x : Int) (h : I64 x) : IntKind.u64.wrap (if (0 : Int) > x then 0 else x) = ((natP x : Nat) : Int) := by
 unfold natP
 rw [wu64]
 have := h.1
 have := h.2
 split <;> omega
theorem natP_u64 {x : Int} (h : I64 x) : U64 (natP x) := by unfold natP U64; have := h.2; omega
def hdF (h : HdS) : List Fld := [⟨1, 0, natP h.height, []⟩, ⟨2, 0, natP h.time, []⟩, ⟨3, 0, natP h.prop, []⟩, ⟨4, 2, 0, h.par⟩, ⟨5, 2, 0, h.txs⟩, ⟨6, 2, 0, h.app⟩, ⟨7, 2, 0, h.res⟩]
def headS (h : HdS) : List UInt8 := msgS (hdF h)
def hashS (h : HdS) : List UInt8 := shaS (headS h)
theorem hdF_ok {h : HdS} (hk : HdOk h) : ∀ f ∈ hdF h, okF f ∧ f.bytes.length ≤ 32 := by
 intro f hf
 unfold hdF at hf
 simp only [List.mem_cons, List.not_mem_nil, or_false] at hf
 rcases hf with rfl | rfl | rfl | rfl | rfl | rfl | rfl
 ·exact ⟨okF_0 (by omega) (by omega) (natP_u64 hk.height), by simp⟩
 ·exact ⟨okF_0 (by omega) (by omega) (natP_u64 hk.time), by simp⟩
 ·exact ⟨okF_0 (by omega) (by omega) (natP_u64 hk.prop), by simp⟩
 ·exact ⟨okF_2 (by omega) (by omega) (by rw [hk.par]; omega), by rw [hk.par]; exact Nat.le_refl _⟩
 ·exact ⟨okF_2 (by omega) (by omega) (by rw [hk.txs]; omega), by rw [hk.txs]; exact Nat.le_refl _⟩
 ·exact ⟨okF_2 (by omega) (by omega) (by rw [hk.app]; omega), by rw [hk.app]; exact Nat.le_refl _⟩
 ·exact ⟨okF_2 (by omega) (by omega) (by rw [hk.res]; omega), by rw [hk.res]; exact Nat.le_refl _⟩
theorem headS_len {h : HdS} (hk : HdOk h) : (headS h).length ≤ 400 := by
 have h1 := msgS_len_le 32 _ (hdF_ok hk)
 have h2 : (hdF h).length = 7 := rfl
 rw [h2] at h1
 unfold headS
 omega
def fldK (n : Nat) (b : List UInt8) : MV := .st [.int .i64 n, .int .i64 2, .int .u64 0, .sl 32 (u8s b)]
theorem fldK_eq (n : Nat) {b : List UInt8} (h : b.length = 32) : fldK n b = fldM ⟨n, 2, 0, b⟩ := by
 unfold fldK fldM
 dsimp only
 rw [h]
 rfl
def vsH (h : HdS) : List MV := [fldZ ⟨1, 0, natP h.height, []⟩, fldZ ⟨2, 0, natP h.time, []⟩, fldZ ⟨3, 0, natP h.prop, []⟩, fldK 4 h.par, fldK 5 h.txs, fldK 6 h.app, fldK 7 h.res]
theorem vsH_are {h : HdS} (hk : HdOk h) : AreF (vsH h) (hdF h) :=
 .cons (.inr ⟨rfl, rfl⟩) (.cons (.inr ⟨rfl, rfl⟩) (.cons (.inr ⟨rfl, rfl⟩) (.cons (.inl (fldK_eq 4 hk.par)) (.cons (.inl (fldK_eq 5 hk.txs)) (.cons (.inl (fldK_eq 6 hk.app)) (.cons (.inl (fldK_eq 7 hk.res)) .nil))))))
theorem header_r (h : HdS) (hk : HdOk h) : SemR Tryz.prog G 42 [hdM h] [] 0 (.sl (headS h).length (u8s (headS h))) [] 0 := by
 have hl := headS_len hk
 have cm := message_v (G := G) (hdF h) (vsH h) (vsH_are hk) (fun f hf => (hdF_ok hk f hf).1) (by show (headS h).length < _; omega) (by show 7 < 1000000; omega)
 show SemR _ _ _ _ _ _ (.sl (msgS (hdF h)).length (u8s (msgS (hdF h)))) _ _
 obtain ⟨height, time, prop, par, txs, app, res⟩ := h
 obtain ⟨h1, h2, h3, h4, h5, h6, h7⟩ := hk
 dsimp only at h1 h2 h3 h4 h5 h6 h7
 have e1 := EqF.mk (maxw height h1)
 have e2 := EqF.mk (maxw time h2)
 have e3 := EqF.mk (maxw prop h3)
 clear hl
 generalize hmm : msgS (hdF ⟨height, time, prop, par, txs, app, res⟩) = mm' at *
 clear hmm
 refine srq seat Tryz.func42 58 ?_
 refine go1 ?_
 refine c_loop Nat (fun k => [(16, .int .i64 k), (15, .int .i64 3), (14, .ms 1 1 0 3), (3, .ms 2 4 0 k), (1, .ptr 0 131 0 0 [])]) (fun k => [(0, ⟨27, 131, false, 0, [.st [.int .i64 height, .int .i64 time, .int .i64 prop, keyM par, keyM txs, keyM app, keyM res]]⟩), (1, ⟨3, 1, true, 0, [.int .i64 height, .int .i64 time, .int .i64 prop]⟩), (2, ⟨128, 4, true, 0, (vsH ⟨height, time, prop, par, txs, app, res⟩).take k⟩)]) 3 (fun k => k ≤ 3) (fun k => 3 - k) 0 (Nat.zero_le _) (vm [(0, _), (1, _)] []) ?_
 intro k hk
 try dsimp only
 have hk4 : k = 0 ∨ k = 1 ∨ k = 2 ∨ k = 3 := by omega
 rcases hk4 with rfl | rfl | rfl | rfl
 ·
  refine go1 ?_
  ((with_reducible apply g_mem); (case hq => exact rfl); (case hv => exact rfl); (case he => (intro R hR; refine sms hR ?_; (refine And.intro (Nat.le_refl _) ?_; refine ⟨_, rfl, ?_⟩; refine And.intro ⟨(by rfl), app_ok (by kernel_rfl) pf⟩ ?_; refine ⟨(vsH ⟨height, time, prop, par, txs, app, res⟩).take 1, sv (by rfl), 1, sv pf, ?_⟩); exact hR)); (case hd => exact rfl))
  refine go1 ?_
  exact ⟨1, by omega, by show 3 - 1 < 3 - 0; omega, (by dsimp only; exact (vm [(0, _), (1, _), (2, _)] []))⟩
 ·
  refine go1 ?_
  ((with_reducible apply g_mem); (case hq => exact rfl); (case hv => exact rfl); (case he => (intro R hR; refine sms hR ?_; (refine And.intro (Nat.le_refl _) ?_; refine ⟨_, rfl, ?_⟩; refine And.intro ⟨(by rfl), app_ok (by kernel_rfl) pf⟩ ?_; refine ⟨(vsH ⟨height, time, prop, par, txs, app, res⟩).take 2, sv (by rfl), 2, sv pf, ?_⟩); exact hR)); (case hd => exact rfl))
  refine go1 ?_
  exact ⟨2, by omega, by show 3 - 2 < 3 - 1; omega, (by dsimp only; exact (vm [(0, _), (1, _), (2, _)] []))⟩
 ·
  refine go1 ?_
  ((with_reducible apply g_mem); (case hq => exact rfl); (case hv => exact rfl); (case he => (intro R hR; refine sms hR ?_; (refine And.intro (Nat.le_refl _) ?_; refine ⟨_, rfl, ?_⟩; refine And.intro ⟨(by rfl), app_ok (by kernel_rfl) pf⟩ ?_; refine ⟨(vsH ⟨height, time, prop, par, txs, app, res⟩).take 3, sv (by rfl), 3, sv pf, ?_⟩); exact hR)); (case hd => exact rfl))
  refine go1 ?_
  exact ⟨3, by omega, by show 3 - 3 < 3 - 2; omega, (by dsimp only; exact (vm [(0, _), (1, _), (2, _)] []))⟩
 ·refine go1 ?_
  refine c_loop Nat (fun k => [(41, .int .i64 k), (40, .int .i64 4), (39, .ms 0 32 0 4), (3, .ms 1 4 0 (3 + k))]) (fun k => [(0, ⟨25, 32, true, 0, [keyM par, keyM txs, keyM app, keyM res]⟩), (1, ⟨128, 4, true, 0, (vsH ⟨height, time, prop, par, txs, app, res⟩).take (3 + k)⟩)]) 2 (fun k => k ≤ 4) (fun k => 4 - k) 0 (Nat.zero_le _) (vm [(0, _), (1, _)] []) ?_
  clear hk
  intro k hk
  try dsimp only
  have hk4 : k = 0 ∨ k = 1 ∨ k = 2 ∨ k = 3 ∨ k = 4 := by omega
  rcases hk4 with rfl | rfl | rfl | rfl | rfl
  ·
   refine go1 ?_
   ((with_reducible apply g_mem); (case hq => exact rfl); (case hv => exact rfl); (case he => (intro R hR; refine sms hR ?_; refine And.intro ((by show headSize (cutL _ 0 32) 1 = true; rw [cut_key h4]; exact head_b _)) ?_; refine And.intro ⟨rfl, app_ok (by kernel_rfl) pf⟩ ?_; refine ⟨u8s par, sv (by show [] ++ cutL _ 0 32 = _; rw [cut_key h4, List.nil_append]), 32, sv pf, ?_⟩; exact hR)); (case hd => exact rfl))
   refine n_re ([(51, .sl 32 (u8s par)), (48, .int .i64 4), (46, .ms 1 4 0 3), (41, .int .i64 0), (40, .int .i64 4), (39, .ms 0 32 0 4)]) ([(0, ⟨25, 32, true, 0, [keyM par, keyM txs, keyM app, keyM res]⟩), (1, ⟨128, 4, true, 0, (vsH ⟨height, time, prop, par, txs, app, res⟩).take 3⟩)]) [(14, 32)] ⟨(by show 32 ≤ (u8s par).length; simp [u8s]; omega), trivial⟩ rfl ⟨⟨_, rfl, .inr ⟨rfl, rfl, rfl, Nat.le_of_eq (Nat.zero_add _), cut_key h4⟩⟩, mm⟩ mm ?_
   refine go1 ?_
   ((with_reducible apply g_mem); (case hq => exact rfl); (case hv => exact rfl); (case he => (intro R hR; refine sms hR ?_; (refine And.intro (Nat.le_refl _) ?_; refine ⟨_, rfl, ?_⟩; refine And.intro ⟨(by rfl), app_ok (by kernel_rfl) pf⟩ ?_; refine ⟨(vsH ⟨height, time, prop, par, txs, app, res⟩).take 4, sv (by rfl), 4, sv pf, ?_⟩); exact hR)); (case hd => exact rfl))
   refine go1 ?_
   exact ⟨1, by omega, by show 4 - 1 < 4 - 0; omega, (by dsimp only; exact (vm [(0, _), (1, _)] []))⟩
  ·
   refine go1 ?_
   ((with_reducible apply g_mem); (case hq => exact rfl); (case hv => exact rfl); (case he => (intro R hR; refine sms hR ?_; refine And.intro ((by show headSize (cutL _ 0 32) 1 = true; rw [cut_key h5]; exact head_b _)) ?_; refine And.intro ⟨rfl, app_ok (by kernel_rfl) pf⟩ ?_; refine ⟨u8s txs, sv (by show [] ++ cutL _ 0 32 = _; rw [cut_key h5, List.nil_append]), 32, sv pf, ?_⟩; exact hR)); (case hd => exact rfl))
   refine n_re ([(51, .sl 32 (u8s txs)), (48, .int .i64 5), (46, .ms 1 4 0 4), (41, .int .i64 1), (40, .int .i64 4), (39, .ms 0 32 0 4)]) ([(0, ⟨25, 32, true, 0, [keyM par, keyM txs, keyM app, keyM res]⟩), (1, ⟨128, 4, true, 0, (vsH ⟨height, time, prop, par, txs, app, res⟩).take 4⟩)]) [(14, 32)] ⟨(by show 32 ≤ (u8s txs).length; simp [u8s]; omega), trivial⟩ rfl ⟨⟨_, rfl, .inr ⟨rfl, rfl, rfl, Nat.le_of_eq (Nat.zero_add _), cut_key h5⟩⟩, mm⟩ mm ?_
   refine go1 ?_
   ((with_reducible apply g_mem); (case hq => exact rfl); (case hv => exact rfl); (case he => (intro R hR; refine sms hR ?_; (refine And.intro (Nat.le_refl _) ?_; refine ⟨_, rfl, ?_⟩; refine And.intro ⟨(by rfl), app_ok (by kernel_rfl) pf⟩ ?_; refine ⟨(vsH ⟨height, time, prop, par, txs, app, res⟩).take 5, sv (by rfl), 5, sv pf, ?_⟩); exact hR)); (case hd => exact rfl))
   refine go1 ?_
   exact ⟨2, by omega, by show 4 - 2 < 4 - 1; omega, (by dsimp only; exact (vm [(0, _), (1, _)] []))⟩
  ·
   refine go1 ?_
   ((with_reducible apply g_mem); (case hq => exact rfl); (case hv => exact rfl); (case he => (intro R hR; refine sms hR ?_; refine And.intro ((by show headSize (cutL _ 0 32) 1 = true; rw [cut_key h6]; exact head_b _)) ?_; refine And.intro ⟨rfl, app_ok (by kernel_rfl) pf⟩ ?_; refine ⟨u8s app, sv (by show [] ++ cutL _ 0 32 = _; rw [cut_key h6, List.nil_append]), 32, sv pf, ?_⟩; exact hR)); (case hd => exact rfl))
   refine n_re ([(51, .sl 32 (u8s app)), (48, .int .i64 6), (46, .ms 1 4 0 5), (41, .int .i64 2), (40, .int .i64 4), (39, .ms 0 32 0 4)]) ([(0, ⟨25, 32, true, 0, [keyM par, keyM txs, keyM app, keyM res]⟩), (1, ⟨128, 4, true, 0, (vsH ⟨height, time, prop, par, txs, app, res⟩).take 5⟩)]) [(14, 32)] ⟨(by show 32 ≤ (u8s app).length; simp [u8s]; omega), trivial⟩ rfl ⟨⟨_, rfl, .inr ⟨rfl, rfl, rfl, Nat.le_of_eq (Nat.zero_add _), cut_key h6⟩⟩, mm⟩ mm ?_
   refine go1 ?_
   ((with_reducible apply g_mem); (case hq => exact rfl); (case hv => exact rfl); (case he => (intro R hR; refine sms hR ?_; (refine And.intro (Nat.le_refl _) ?_; refine ⟨_, rfl, ?_⟩; refine And.intro ⟨(by rfl), app_ok (by kernel_rfl) pf⟩ ?_; refine ⟨(vsH ⟨height, time, prop, par, txs, app, res⟩).take 6, sv (by rfl), 6, sv pf, ?_⟩); exact hR)); (case hd => exact rfl))
   refine go1 ?_
   exact ⟨3, by omega, by show 4 - 3 < 4 - 2; omega, (by dsimp only; exact (vm [(0, _), (1, _)] []))⟩
  ·
   refine go1 ?_
   ((with_reducible apply g_mem); (case hq => exact rfl); (case hv => exact rfl); (case he => (intro R hR; refine sms hR ?_; refine And.intro ((by show headSize (cutL _ 0 32) 1 = true; rw [cut_key h7]; exact head_b _)) ?_; refine And.intro ⟨rfl, app_ok (by kernel_rfl) pf⟩ ?_; refine ⟨u8s res, sv (by show [] ++ cutL _ 0 32 = _; rw [cut_key h7, List.nil_append]), 32, sv pf, ?_⟩; exact hR)); (case hd => exact rfl))
   refine n_re ([(51, .sl 32 (u8s res)), (48, .int .i64 7), (46, .ms 1 4 0 6), (41, .int .i64 3), (40, .int .i64 4), (39, .ms 0 32 0 4)]) ([(0, ⟨25, 32, true, 0, [keyM par, keyM txs, keyM app, keyM res]⟩), (1, ⟨128, 4, true, 0, (vsH ⟨height, time, prop, par, txs, app, res⟩).take 6⟩)]) [(14, 32)] ⟨(by show 32 ≤ (u8s res).length; simp [u8s]; omega), trivial⟩ rfl ⟨⟨_, rfl, .inr ⟨rfl, rfl, rfl, Nat.le_of_eq (Nat.zero_add _), cut_key h7⟩⟩, mm⟩ mm ?_
   refine go1 ?_
   ((with_reducible apply g_mem); (case hq => exact rfl); (case hv => exact rfl); (case he => (intro R hR; refine sms hR ?_; (refine And.intro (Nat.le_refl _) ?_; refine ⟨_, rfl, ?_⟩; refine And.intro ⟨(by rfl), app_ok (by kernel_rfl) pf⟩ ?_; refine ⟨(vsH ⟨height, time, prop, par, txs, app, res⟩).take 7, sv (by rfl), 7, sv pf, ?_⟩); exact hR)); (case hd => exact rfl))
   refine go1 ?_
   exact ⟨4, by omega, by show 4 - 4 < 4 - 3; omega, (by dsimp only; exact (vm [(0, _), (1, _)] []))⟩
  ·refine go1 ?_
   refine g_call1 rfl hhq rfl (cm) rfl [(1, 7)] mm lm ?_
   refine go1 ?_
   refine ⟨[_], [], [], rfl, rfl, trivial, rfl, ⟨?_, trivial⟩, ?_⟩
   ·exact rv
   ·exact mm
theorem hash_m (h : HdS) (hk : HdOk h) : SemC Tryz.prog G 23 [hdM h] (keyM (hashS h)) := by
 have c1 := header_r (G := G) h hk
 have c2 := sha_m (G := G) (headS h) (by have := headS_len hk; omega)
 unfold hashS
 obtain ⟨height, time, prop, par, txs, app, res⟩ := h
 generalize headS ⟨height, time, prop, par, txs, app, res⟩ = b at *
 generalize shaS b = k at *
 refine scq seat Tryz.func23 6 ?_
 refine go1 ?_
 refine g_call2 rfl hhq rfl (c1) rfl lm ?_
 refine go1 ?_
 refine g_call2 rfl hhq rfl (src (c2)) rfl lm ?_
 refine go1 ?_
 refine go0 ?_
 rfl
end
section
variable {G : GS}
attribute [local irreducible] vOpsN vOpsG vOpsD vOpGD NextD vC SeqQ BlockQ
theorem pf_r (b : List UInt8) (f : Fld) (hf : okF f) (hb : b.length + f.bytes.length < 200000000) : SemR Tryz.prog G 107 [.ms 0 1 0 b.length, fldM f] [(0, ⟨5, 1, true, 0, u8s b⟩)] 1 (.ms 1 1 0 (b ++ fieldS f).length) [(1, ⟨5, 1, true, 0, u8s (b ++ fieldS f)⟩)] 2 := by
 have c1 := pfield_r (G := G) [] f hf (by simp; omega)
 have hl := fieldS_len hf
 rw [List.nil_append] at c1
 unfold rowB at c1
 obtain ⟨num, kind, val, bytes⟩ := f
 generalize hv : fieldS ⟨num, kind, val, bytes⟩ = v at *
 dsimp only at hl hb
 unfold fldM at *
 dsimp only at *
 have hlen : (b ++ v).length = b.length + v.length := List.length_append
 refine srq seat Tryz.func107 15 ?_
 refine go1 ?_
 refine g_callR1 rfl hhq rfl c1 [] [] ⟨rfl, trivial, rfl, ⟨.inr ⟨rfl, rfl⟩, .inl ⟨rfl, rfl⟩, trivial⟩, trivial⟩ rfl rfl ?_
 refine go1 ?_
 ((with_reducible apply g_mem); (case hq => exact rfl); (case hv => exact rfl); (case he => (intro R hR; refine sms hR ?_; refine And.intro ((by show 0 + v.length ≤ (u8s v).length; simp [u8s])) ?_; refine ⟨_, rfl, ?_⟩; refine And.intro ⟨(by simp [u8s]), app_ok (by kernel_rfl) pf⟩ ?_; refine ⟨u8s (b ++ v), sv (by show u8s b ++ cutL (u8s v) 0 (0 + v.length) = _; rw [Nat.zero_add, cut_u8]; simp [u8s]), (b ++ v).length, sv pf, ?_⟩; exact hR)); (case hd => exact rfl))
 refine go1 ?_
 refine ⟨[_], [(1, 12)], [], rfl, rfl, trivial, rfl, ⟨?_, trivial⟩, ?_⟩
 ·exact rv
 ·exact mm
theorem fldM_cut (n : Nat) {b : List UInt8} (h : b.length = 32) : fldM ⟨n, 2, 0, b⟩ = .st [.int .i64 n, .int .i64 2, .int .u64 0, .sl 32 (cutL (u8s b) 0 32)] := by
 rw [cut_key h, ← fldK_eq n h]; rfl
theorem msgS_step {l : List Fld} {k : Nat} (hk : k < l.length) : msgS (l.take (k + 1)) = msgS (l.take k) ++ fieldS l[k] := msgS_succ l hk
theorem pheader_r (h : HdS) (hk : HdOk h) : SemR Tryz.prog G 68 [hdM h] [] 0 (.sl (headS h).length (u8s (headS h))) [] 0 := by
 have hl := headS_len hk
 have hml : ∀ k, (msgS ((hdF h).take k)).length ≤ 400 := fun k => Nat.le_trans (msgS_take (hdF h) k) hl
 show SemR _ _ _ _ _ _ (.sl (msgS (hdF h)).length (u8s (msgS (hdF h)))) _ _
 obtain ⟨height, time, prop, par, txs, app, res⟩ := h
 obtain ⟨h1, h2, h3, h4, h5, h6, h7⟩ := hk
 dsimp only at h1 h2 h3 h4 h5 h6 h7
 have e1 := EqF.mk (maxw height h1)
 have e2 := EqF.mk (maxw time h2)
 have e3 := EqF.mk (maxw prop h3)
 clear hl
 refine srq seat Tryz.func68 49 ?_
 refine go1 ?_
 refine c_loop Nat (fun k => [(15, .int .i64 k), (14, .arr 3 1 [.int .i64 height, .int .i64 time, .int .i64 prop]), (3, .ms 1 1 0 (msgS ((hdF ⟨height, time, prop, par, txs, app, res⟩).take k)).length), (1, .ptr 0 131 0 0 [])]) (fun k => [(0, ⟨27, 131, false, 0, [.st [.int .i64 height, .int .i64 time, .int .i64 prop, keyM par, keyM txs, keyM app, keyM res]]⟩), (1, ⟨5, 1, true, 0, u8s (msgS ((hdF ⟨height, time, prop, par, txs, app, res⟩).take k))⟩)]) 2 (fun k => k ≤ 3) (fun k => 3 - k) 0 (Nat.zero_le _) (by dsimp only; rw [show msgS ((hdF ⟨height, time, prop, par, txs, app, res⟩).take 0) = [] from rfl]; exact (vm [(0, _)] [])) ?_
 intro k hk
 try dsimp only
 have hk4 : k = 0 ∨ k = 1 ∨ k = 2 ∨ k = 3 := by omega
 rcases hk4 with rfl | rfl | rfl | rfl
 ·
  have cc := pf_r (G := G) (msgS ((hdF ⟨height, time, prop, par, txs, app, res⟩).take 0)) ⟨1, 0, natP height, []⟩ (okF_0 (by omega) (by omega) (natP_u64 h1)) (by have := hml 0; simp only [List.length_nil]; omega)
  rw [show msgS ((hdF ⟨height, time, prop, par, txs, app, res⟩).take 0) ++ fieldS ⟨1, 0, natP height, []⟩ = msgS ((hdF ⟨height, time, prop, par, txs, app, res⟩).take 1) from (msgS_step (l := (hdF ⟨height, time, prop, par, txs, app, res⟩)) (k := 0) (by show 0 < 7; omega)).symm] at cc
  refine go1 ?_
  refine g_callR1 rfl hhq rfl cc [(0, 1)] [] ⟨rfl, trivial, rfl, ⟨rv, relF_Z rfl, trivial⟩, mm⟩ rfl rfl ?_
  refine go1 ?_
  exact ⟨1, by omega, by show 3 - 1 < 3 - 0; omega, (by dsimp only; exact (vm [(0, _), (1, _)] []))⟩
 ·
  have cc := pf_r (G := G) (msgS ((hdF ⟨height, time, prop, par, txs, app, res⟩).take 1)) ⟨2, 0, natP time, []⟩ (okF_0 (by omega) (by omega) (natP_u64 h2)) (by have := hml 1; simp only [List.length_nil]; omega)
  rw [show msgS ((hdF ⟨height, time, prop, par, txs, app, res⟩).take 1) ++ fieldS ⟨2, 0, natP time, []⟩ = msgS ((hdF ⟨height, time, prop, par, txs, app, res⟩).take 2) from (msgS_step (l := (hdF ⟨height, time, prop, par, txs, app, res⟩)) (k := 1) (by show 1 < 7; omega)).symm] at cc
  refine go1 ?_
  refine g_callR1 rfl hhq rfl cc [(0, 1)] [] ⟨rfl, trivial, rfl, ⟨rv, relF_Z rfl, trivial⟩, mm⟩ rfl rfl ?_
  refine go1 ?_
  exact ⟨2, by omega, by show 3 - 2 < 3 - 1; omega, (by dsimp only; exact (vm [(0, _), (1, _)] []))⟩
 ·
  have cc := pf_r (G := G) (msgS ((hdF ⟨height, time, prop, par, txs, app, res⟩).take 2)) ⟨3, 0, natP prop, []⟩ (okF_0 (by omega) (by omega) (natP_u64 h3)) (by have := hml 2; simp only [List.length_nil]; omega)
  rw [show msgS ((hdF ⟨height, time, prop, par, txs, app, res⟩).take 2) ++ fieldS ⟨3, 0, natP prop, []⟩ = msgS ((hdF ⟨height, time, prop, par, txs, app, res⟩).take 3) from (msgS_step (l := (hdF ⟨height, time, prop, par, txs, app, res⟩)) (k := 2) (by show 2 < 7; omega)).symm] at cc
  refine go1 ?_
  refine g_callR1 rfl hhq rfl cc [(0, 1)] [] ⟨rfl, trivial, rfl, ⟨rv, relF_Z rfl, trivial⟩, mm⟩ rfl rfl ?_
  refine go1 ?_
  exact ⟨3, by omega, by show 3 - 3 < 3 - 2; omega, (by dsimp only; exact (vm [(0, _), (1, _)] []))⟩
 ·refine go1 ?_
  refine c_loop Nat (fun k => [(37, .int .i64 k), (36, .arr 4 32 [keyM par, keyM txs, keyM app, keyM res]), (3, .ms 0 1 0 (msgS ((hdF ⟨height, time, prop, par, txs, app, res⟩).take (3 + k))).length)]) (fun k => [(0, ⟨5, 1, true, 0, u8s (msgS ((hdF ⟨height, time, prop, par, txs, app, res⟩).take (3 + k)))⟩)]) 1 (fun k => k ≤ 4) (fun k => 4 - k) 0 (Nat.zero_le _) (vm [(0, _)] []) ?_
  clear hk
  intro k hk
  try dsimp only
  have hk4 : k = 0 ∨ k = 1 ∨ k = 2 ∨ k = 3 ∨ k = 4 := by omega
  rcases hk4 with rfl | rfl | rfl | rfl | rfl
  ·
   have cc := pf_r (G := G) (msgS ((hdF ⟨height, time, prop, par, txs, app, res⟩).take 3)) ⟨4, 2, 0, par⟩ (okF_2 (by omega) (by omega) (by rw [h4]; omega)) (by have := hml 3; dsimp only; rw [h4]; omega)
   rw [show msgS ((hdF ⟨height, time, prop, par, txs, app, res⟩).take 3) ++ fieldS ⟨4, 2, 0, par⟩ = msgS ((hdF ⟨height, time, prop, par, txs, app, res⟩).take 4) from (msgS_step (l := (hdF ⟨height, time, prop, par, txs, app, res⟩)) (k := 3) (by show 3 < 7; omega)).symm, fldM_cut 4 h4] at cc
   refine go1 ?_
   refine g_callR1 rfl hhq rfl cc [(0, 0)] [] ⟨rfl, trivial, rfl, ⟨rv, .inl ⟨rfl, rfl⟩, trivial⟩, mm⟩ rfl rfl ?_
   refine go1 ?_
   exact ⟨1, by omega, by show 4 - 1 < 4 - 0; omega, (by dsimp only; exact (vm [(0, _)] []))⟩
  ·
   have cc := pf_r (G := G) (msgS ((hdF ⟨height, time, prop, par, txs, app, res⟩).take 4)) ⟨5, 2, 0, txs⟩ (okF_2 (by omega) (by omega) (by rw [h5]; omega)) (by have := hml 4; dsimp only; rw [h5]; omega)
   rw [show msgS ((hdF ⟨height, time, prop, par, txs, app, res⟩).take 4) ++ fieldS ⟨5, 2, 0, txs⟩ = msgS ((hdF ⟨height, time, prop, par, txs, app, res⟩).take 5) from (msgS_step (l := (hdF ⟨height, time, prop, par, txs, app, res⟩)) (k := 4) (by show 4 < 7; omega)).symm, fldM_cut 5 h5] at cc
   refine go1 ?_
   refine g_callR1 rfl hhq rfl cc [(0, 0)] [] ⟨rfl, trivial, rfl, ⟨rv, .inl ⟨rfl, rfl⟩, trivial⟩, mm⟩ rfl rfl ?_
   refine go1 ?_
   exact ⟨2, by omega, by show 4 - 2 < 4 - 1; omega, (by dsimp only; exact (vm [(0, _)] []))⟩
  ·
   have cc := pf_r (G := G) (msgS ((hdF ⟨height, time, prop, par, txs, app, res⟩).take 5)) ⟨6, 2, 0, app⟩ (okF_2 (by omega) (by omega) (by rw [h6]; omega)) (by have := hml 5; dsimp only; rw [h6]; omega)
   rw [show msgS ((hdF ⟨height, time, prop, par, txs, app, res⟩).take 5) ++ fieldS ⟨6, 2, 0, app⟩ = msgS ((hdF ⟨height, time, prop, par, txs, app, res⟩).take 6) from (msgS_step (l := (hdF ⟨height, time, prop, par, txs, app, res⟩)) (k := 5) (by show 5 < 7; omega)).symm, fldM_cut 6 h6] at cc
   refine go1 ?_
   refine g_callR1 rfl hhq rfl cc [(0, 0)] [] ⟨rfl, trivial, rfl, ⟨rv, .inl ⟨rfl, rfl⟩, trivial⟩, mm⟩ rfl rfl ?_
   refine go1 ?_
   exact ⟨3, by omega, by show 4 - 3 < 4 - 2; omega, (by dsimp only; exact (vm [(0, _)] []))⟩
  ·
   have cc := pf_r (G := G) (msgS ((hdF ⟨height, time, prop, par, txs, app, res⟩).take 6)) ⟨7, 2, 0, res⟩ (okF_2 (by omega) (by omega) (by rw [h7]; omega)) (by have := hml 6; dsimp only; rw [h7]; omega)
   rw [show msgS ((hdF ⟨height, time, prop, par, txs, app, res⟩).take 6) ++ fieldS ⟨7, 2, 0, res⟩ = msgS ((hdF ⟨height, time, prop, par, txs, app, res⟩).take 7) from (msgS_step (l := (hdF ⟨height, time, prop, par, txs, app, res⟩)) (k := 6) (by show 6 < 7; omega)).symm, fldM_cut 7 h7] at cc
   refine go1 ?_
   refine g_callR1 rfl hhq rfl cc [(0, 0)] [] ⟨rfl, trivial, rfl, ⟨rv, .inl ⟨rfl, rfl⟩, trivial⟩, mm⟩ rfl rfl ?_
   refine go1 ?_
   exact ⟨4, by omega, by show 4 - 4 < 4 - 3; omega, (by dsimp only; exact (vm [(0, _)] []))⟩
  ·rw [show (hdF ⟨height, time, prop, par, txs, app, res⟩).take (3 + 4) = hdF ⟨height, time, prop, par, txs, app, res⟩ from rfl]
   generalize msgS (hdF ⟨height, time, prop, par, txs, app, res⟩) = mm' at *
   refine go1 ?_
   refine ⟨[_], [], [(0, mm'.length)], rfl, rfl, ?_, rfl, ⟨?_, trivial⟩, ?_⟩
   ·exact ⟨by show mm'.length ≤ (u8s mm').length; simp [u8s], trivial⟩
   ·exact rv
   ·exact mm
theorem phash_m (h : HdS) (hk : HdOk h) : SemC Tryz.prog G 38 [hdM h] (keyM (hashS h)) := by
 have c1 := pheader_r (G := G) h hk
 have c2 := psha_m (G := G) (headS h) (by have := headS_len hk; omega)
 unfold hashS
 obtain ⟨height, time, prop, par, txs, app, res⟩ := h
 generalize headS ⟨height, time, prop, par, txs, app, res⟩ = b at *
 generalize shaS b = k at *
 refine scq seat Tryz.func38 6 ?_
 refine go1 ?_
 refine g_call2 rfl hhq rfl (c1) rfl lm ?_
 refine go1 ?_
 refine g_call2 rfl hhq rfl (src (c2)) rfl lm ?_
 refine go1 ?_
 refine go0 ?_
 rfl
theorem broot_m (l : List (List UInt8)) (hl : l.length < 60000) (hb : ∀ b ∈ l, b.length < 300000000) : SemC Tryz.prog G 29 [rawsM l] (keyM (rootS l)) := by
 have c1 := proot_m (G := G) _ l (Nat.le_refl _) hl hb
 unfold rawsM
 generalize rootS l = k at *
 refine scq seat Tryz.func29 5 ?_
 refine go1 ?_
 refine g_call2 rfl hhq rfl (src (c1)) rfl lm ?_
 refine go1 ?_
 refine go0 ?_
 rfl
end
section
variable {G : GS}
attribute [local irreducible] vOpsN vOpsG vOpsD vOpGD NextD vC SeqQ BlockQ
theorem key_conf (T : Tab) (f : Nat) (e : TypeId) (he : Tab.find T e = some (.int .u8)) : ∀ k : List UInt8, (u8s k).all (confM T (f + 1) e) = true
 | [] => rfl
 | a :: k => by
  show (confM T (f + 1) e (.int .u8 a.toNat) && (u8s k).all (confM T (f + 1) e)) = true
  rw [key_conf T f e he k]
  simp [confM, he, kid]
theorem eqMs_u8 : ∀ (a b : List UInt8), a.length = b.length → eqMs (u8s a) (u8s b) = some (decide (a = b))
 | [], [], _ => rfl
 | x :: a, y :: b, h => by
  show (match eqM (.int .u8 x.toNat) (.int .u8 y.toNat), eqMs (u8s a) (u8s b) with | some p, some q => some (p && q) | _, _ => none) = _
  rw [eqMs_u8 a b (by simpa using h)]
  have e : eqM (.int .u8 x.toNat) (.int .u8 y.toNat) = some (decide (x = y)) := by
   show some (decide ((x.toNat : Int) = (y.toNat : Int))) = _
   have : ((x.toNat : Int) = (y.toNat : Int)) ↔ x = y := by rw [Int.ofNat_inj, UInt8.toNat_inj]
   simp [this]
  rw [e]
  simp
 | [], _ :: _, h => by simp at h
 | _ :: _, [], h => by simp at h
theorem eq_key {a b : List UInt8} (h : a.length = b.length) : eqM (keyM a) (keyM b) = some (decide (a = b)) := eqMs_u8 a b h
theorem conf_keyF (f : Nat) (k : List UInt8) : confM tab (f + 2) 25 (keyM k) = true := by
 have h1 : Tab.find tab 25 = some (.arr 32 5 1) := rfl
 have h2 := key_conf tab f 5 rfl k
 unfold keyM
 rw [confM.eq_def]
 simp only [h1]
 rw [h2]; rfl
theorem eqT_key : eqT Tryz.prog tab 25 = true := by kernel_rfl
theorem keySide (a b : List UInt8) : eqT Tryz.prog tab 25 = true ∧ confM tab 9 25 (keyM a) = true ∧ confM tab 9 25 (keyM b) = true := ⟨eqT_key, conf_keyF 7 a, conf_keyF 7 b⟩
theorem eqI (a b : Int) : eqM (.int .i64 a) (.int .i64 b) = some (decide (a = b)) := rfl
theorem confI (f : Nat) (a : Int) : confM tab (f + 1) 3 (.int .i64 a) = true := by
 have h1 : Tab.find tab 3 = some (.int .i64) := rfl
 rw [confM.eq_def]
 simp only [h1]
 rfl
theorem eq_hd {a b : HdS} (ha : HdOk a) (hb : HdOk b) : eqM (hdM a) (hdM b) = some (decide (a = b)) := by
 have k1 := eq_key (a := a.par) (b := b.par) (by rw [ha.par, hb.par])
 have k2 := eq_key (a := a.txs) (b := b.txs) (by rw [ha.txs, hb.txs])
 have k3 := eq_key (a := a.app) (b := b.app) (by rw [ha.app, hb.app])
 have k4 := eq_key (a := a.res) (b := b.res) (by rw [ha.res, hb.res])
 obtain ⟨a1, a2, a3, a4, a5, a6, a7⟩ := a
 obtain ⟨b1, b2, b3, b4, b5, b6, b7⟩ := b
 show eqMs [.int .i64 a1, .int .i64 a2, .int .i64 a3, keyM a4, keyM a5, keyM a6, keyM a7] [.int .i64 b1, .int .i64 b2, .int .i64 b3, keyM b4, keyM b5, keyM b6, keyM b7] = _
 dsimp only at k1 k2 k3 k4
 simp only [eqMs, eqI, k1, k2, k3, k4]
 rw [Option.some.injEq, Bool.eq_iff_iff]
 simp [HdS.mk.injEq]
theorem conf_hd (h : HdS) : confM tab 9 27 (hdM h) = true := by
 have h1 : Tab.find tab 27 = some (.struct [(0, 3), (1, 3), (2, 3), (3, 25), (35, 25), (67, 25), (99, 25)] 131) := rfl
 have h2 : Tab.find tab 3 = some (.int .i64) := rfl
 have h3 : Tab.find tab 25 = some (.arr 32 5 1) := rfl
 unfold hdM
 rw [confM.eq_def]
 simp only [h1, confMs, h2, h3, conf_keyF 6, confI 7]
 rfl
theorem hdSide (a b : HdS) : eqT Tryz.prog tab 27 = true ∧ confM tab 9 27 (hdM a) = true ∧ confM tab 9 27 (hdM b) = true := ⟨by kernel_rfl, conf_hd a, conf_hd b⟩
structure TipS where
 height : Int
 time : Int
 hash : List UInt8
 app : List UInt8
 res : List UInt8
 deriving DecidableEq
abbrev tipM (t : TipS) : MV := .st [.int .i64 t.height, .int .i64 t.time, keyM t.hash, keyM t.app, keyM t.res]
structure TipOk (t : TipS) : Prop where
 height : I64 t.height
 time : I64 t.time
 hash : t.hash.length = 32
 app : t.app.length = 32
 res : t.res.length = 32
theorem eq_tip {a b : TipS} (ha : TipOk a) (hb : TipOk b) : eqM (tipM a) (tipM b) = some (decide (a = b)) := by
 have k1 := eq_key (a := a.hash) (b := b.hash) (by rw [ha.hash, hb.hash])
 have k3 := eq_key (a := a.app) (b := b.app) (by rw [ha.app, hb.app])
 have k4 := eq_key (a := a.res) (b := b.res) (by rw [ha.res, hb.res])
 obtain ⟨a1, a2, a3, a4, a5⟩ := a
 obtain ⟨b1, b2, b3, b4, b5⟩ := b
 show eqMs [.int .i64 a1, .int .i64 a2, keyM a3, keyM a4, keyM a5] [.int .i64 b1, .int .i64 b2, keyM b3, keyM b4, keyM b5] = _
 dsimp only at k1 k3 k4
 simp only [eqMs, eqI, k1, k3, k4]
 rw [Option.some.injEq, Bool.eq_iff_iff]
 simp [TipS.mk.injEq]
theorem conf_tip (t : TipS) : confM tab 9 33 (tipM t) = true := by
 have h1 : Tab.find tab 33 = some (.struct [(0, 3), (1, 3), (2, 25), (34, 25), (66, 25)] 98) := rfl
 have h2 : Tab.find tab 3 = some (.int .i64) := rfl
 have h3 : Tab.find tab 25 = some (.arr 32 5 1) := rfl
 unfold tipM
 rw [confM.eq_def]
 simp only [h1, confMs, h2, h3, conf_keyF 6, confI 7]
 rfl
theorem tipSide (a b : TipS) : eqT Tryz.prog tab 33 = true ∧ confM tab 9 33 (tipM a) = true ∧ confM tab 9 33 (tipM b) = true := ⟨by kernel_rfl, conf_tip a, conf_tip b⟩
structure BlkS where
 hd : HdS
 txs : List (List UInt8)
 deriving DecidableEq
abbrev blkM (b : BlkS) : MV := .st [hdM b.hd, .sl b.txs.length (b.txs.map rawM)]
def chkS (t : TipS) (b : BlkS) (nodes maxBytes : Int) : Nat :=
 if nodes < 1 ∨ 8 < nodes ∨ t.height < 0 ∨ 1073741824 < t.height then 1 else if b.hd.height ≠ t.height + 1 ∨ 1073741824 < b.hd.height then 30 else if b.hd.prop ≠ b.hd.height % nodes then 36 else
 if b.hd.time ≤ t.time ∨ 1099511627776 < b.hd.time then 31 else if b.hd.par ≠ t.hash then 32 else if b.hd.app ≠ t.app then 33 else if b.hd.res ≠ t.res then 34 else if b.hd.txs ≠ rootS b.txs then 35 else
 if 512 < b.txs.length ∨ maxBytes < sumB b.txs then 3 else 0
theorem rchk_m (t : TipS) (b : BlkS) (nodes maxBytes : Int) (ht : TipOk t) (hb : HdOk b.hd) (hn : I64 nodes) (_hm : I64 maxBytes) (hl : b.txs.length < 60000) (hx : ∀ x ∈ b.txs, x.length < 300000000) : SemC Tryz.prog G 21 [tipM t, blkM b, .int .i64 nodes, .int .i64 maxBytes] (.int .i64 (chkS t b nodes maxBytes)) := by
 have cr := rroot_m (G := G) _ b.txs (Nat.le_refl _) (by omega) hx
 have cs := rsum_m (G := G) b.txs (by omega) (fun x h => Nat.le_of_lt (hx x h))
 have hsum := sumB_le 300000000 b.txs fun x h => ⟨Nat.le_of_lt (hx x h), by have := hx x h; unfold U64; omega⟩
 have hmax : b.txs.length * (300000000 + 11) ≤ 60000 * 300000011 := Nat.mul_le_mul_right _ (Nat.le_of_lt hl)
 have hrl := rootS_len b.txs
 generalize hr : chkS t b nodes maxBytes = R
 obtain ⟨⟨height, time, prop, par, txs, app, res⟩, l⟩ := b
 obtain ⟨theight, ttime, thash, tapp, tres⟩ := t
 obtain ⟨h1, h2, h3, h4, h5, h6, h7⟩ := hb
 obtain ⟨t1, t2, t3, t4, t5⟩ := ht
 unfold chkS at hr
 unfold rawsM at cs
 try unfold rawsM at cr
 unfold I64 at *
 dsimp only at h1 h2 h3 h4 h5 h6 h7 t1 t2 t3 t4 t5 hl hx hr cr cs hsum hmax hrl
 have q1 := SomF.mk (eq_key (a := par) (b := thash) (by rw [h4, t3]))
 have q2 := SomF.mk (eq_key (a := app) (b := tapp) (by rw [h6, t4]))
 have q3 := SomF.mk (eq_key (a := res) (b := tres) (by rw [h7, t5]))
 have q4 := SomF.mk (eq_key (a := txs) (b := rootS l) (by rw [h5, hrl]))
 have s1 := SideF.mk (keySide par thash)
 have s2 := SideF.mk (keySide app tapp)
 have s3 := SideF.mk (keySide res tres)
 have s4 := SideF.mk (keySide txs (rootS l))
 generalize rootS l = rt at *
 generalize sumB l = sm at *
 clear hx hrl
 dsimp only [tipM, blkM, hdM]
 refine scq seat Tryz.func21 97 ?_
 refine go1 ?_
 by_cases c1 : nodes < 1 ∨ 8 < nodes ∨ theight < 0 ∨ 1073741824 < theight
 ·rw [if_pos c1] at hr
  subst hr
  (iterate 6 ((all_goals (refine go1 ?_)); (all_goals (first | ((with_reducible apply n_grd); (case hf => exact ⟨rfl, rfl, rfl⟩); (all_goals intro h); (all_goals (try simp only [decide_eq_true_eq, decide_eq_false_iff_not, Bool.not_false] at h)); (all_goals (try (exfalso; omega)))) | ((with_reducible apply c_cond); (case he => exact rfl); (all_goals intro h); (all_goals (try simp only [decide_eq_true_eq, decide_eq_false_iff_not] at h)); (all_goals (try (exfalso; omega)))) | skip))))
  all_goals (refine go0 ?_)
  all_goals rfl
 rw [if_neg c1] at hr
 have hne := SideF.mk (show nodes ≠ 0 by omega)
 (iterate 4 ((all_goals (refine go1 ?_)); (all_goals (first | ((with_reducible apply n_grd); (case hf => exact ⟨rfl, rfl, rfl⟩); (all_goals intro h); (all_goals (try simp only [decide_eq_true_eq, decide_eq_false_iff_not, Bool.not_false] at h)); (all_goals (try (exfalso; omega)))) | ((with_reducible apply c_cond); (case he => exact rfl); (all_goals intro h); (all_goals (try simp only [decide_eq_true_eq, decide_eq_false_iff_not] at h)); (all_goals (try (exfalso; omega)))) | skip))))
 refine go1 ?_
 by_cases c2 : height ≠ theight + 1 ∨ 1073741824 < height
 ·rw [if_pos c2] at hr
  subst hr
  (iterate 4 ((all_goals (refine go1 ?_)); (all_goals (first | ((with_reducible apply n_grd); (case hf => exact ⟨rfl, rfl, rfl⟩); (all_goals intro h); (all_goals (try simp only [bne_iff_ne, ne_eq, Bool.not_false, bne_eq_false_iff_eq] at h)); (all_goals (try (exfalso; omega)))) | ((with_reducible apply c_cond); (case he => exact rfl); (all_goals intro h); (all_goals (try simp only [decide_eq_true_eq, decide_eq_false_iff_not] at h)); (all_goals (try (exfalso; omega)))) | skip))))
  all_goals (refine go0 ?_)
  all_goals rfl
 rw [if_neg c2] at hr
 (iterate 2 ((all_goals (refine go1 ?_)); (all_goals (first | ((with_reducible apply n_grd); (case hf => exact ⟨rfl, rfl, rfl⟩); (all_goals intro h); (all_goals (try simp only [bne_iff_ne, ne_eq, Bool.not_false, bne_eq_false_iff_eq] at h)); (all_goals (try (exfalso; omega)))) | ((with_reducible apply c_cond); (case he => exact rfl); (all_goals intro h); (all_goals (try simp only [decide_eq_true_eq, decide_eq_false_iff_not] at h)); (all_goals (try (exfalso; omega)))) | skip))))
 refine go1 ?_
 have hmod : height.tmod nodes = height % nodes := Int.tmod_eq_emod_of_nonneg (by omega)
 refine c_draw [(0, false), (1, false), (2, false), (3, false), (4, false), (5, false), (6, false), (7, false)] ?_
 refine go1 ?_
 (refine c_cond rfl ?_ ?_ <;> intro h)
 ·have c3 : prop ≠ height % nodes := by
   rw [← hmod]
   simpa using h
  rw [if_pos c3] at hr
  subst hr
  refine go1 ?_
  refine go0 ?_
  rfl
 have c3 : prop = height % nodes := by
  rw [← hmod]
  simpa using h
 rw [if_neg (by simp [c3])] at hr
 refine go1 ?_
 by_cases c4 : time ≤ ttime ∨ 1099511627776 < time
 ·rw [if_pos c4] at hr
  subst hr
  (iterate 4 ((all_goals (refine go1 ?_)); (all_goals (first | ((with_reducible apply n_grd); (case hf => exact ⟨rfl, rfl, rfl⟩); (all_goals intro h); (all_goals (try simp only [decide_eq_true_eq, decide_eq_false_iff_not, Bool.not_false] at h)); (all_goals (try (exfalso; omega)))) | ((with_reducible apply c_cond); (case he => exact rfl); (all_goals intro h); (all_goals (try simp only [decide_eq_true_eq, decide_eq_false_iff_not] at h)); (all_goals (try (exfalso; omega)))) | skip))))
  all_goals (refine go0 ?_)
  all_goals rfl
 rw [if_neg c4] at hr
 (iterate 2 ((all_goals (refine go1 ?_)); (all_goals (first | ((with_reducible apply n_grd); (case hf => exact ⟨rfl, rfl, rfl⟩); (all_goals intro h); (all_goals (try simp only [decide_eq_true_eq, decide_eq_false_iff_not, Bool.not_false] at h)); (all_goals (try (exfalso; omega)))) | ((with_reducible apply c_cond); (case he => exact rfl); (all_goals intro h); (all_goals (try simp only [decide_eq_true_eq, decide_eq_false_iff_not] at h)); (all_goals (try (exfalso; omega)))) | skip))))
 refine go1 ?_
 (refine c_cond rfl ?_ ?_ <;> intro h)
 ·have c5 : par ≠ thash := by simpa using h
  rw [if_pos c5] at hr
  subst hr
  refine go1 ?_
  refine go0 ?_
  rfl
 have c5 : par = thash := by simpa using h
 rw [if_neg (by simp [c5])] at hr
 refine go1 ?_
 (refine c_cond rfl ?_ ?_ <;> intro h)
 ·have c6 : app ≠ tapp := by simpa using h
  rw [if_pos c6] at hr
  subst hr
  refine go1 ?_
  refine go0 ?_
  rfl
 have c6 : app = tapp := by simpa using h
 rw [if_neg (by simp [c6])] at hr
 refine go1 ?_
 (refine c_cond rfl ?_ ?_ <;> intro h)
 ·have c7 : res ≠ tres := by simpa using h
  rw [if_pos c7] at hr
  subst hr
  refine go1 ?_
  refine go0 ?_
  rfl
 have c7 : res = tres := by simpa using h
 rw [if_neg (by simp [c7])] at hr
 refine go1 ?_
 refine c_draw [(0, false), (1, false), (2, false), (3, false), (4, true), (5, false), (6, false)] ?_
 refine go1 ?_
 refine gd_call1 rfl hhq rfl [] (src (cr)) rfl [] trivial lm rfl ?_
 refine go1 ?_
 (refine c_cond rfl ?_ ?_ <;> intro h)
 ·have c8 : txs ≠ rt := by simpa using h
  rw [if_pos c8] at hr
  subst hr
  refine go1 ?_
  refine go0 ?_
  rfl
 have c8 : txs = rt := by simpa using h
 rw [if_neg (by simp [c8])] at hr
 refine go1 ?_
 by_cases c9 : 512 < l.length ∨ maxBytes < sm
 ·rw [if_pos c9] at hr
  subst hr
  (iterate 5 ((all_goals (refine go1 ?_)); (all_goals (first | (refine g_call3 rfl hhq rfl (src (cs)) rfl rfl ?_) | ((with_reducible apply n_grd); (case hf => exact ⟨rfl, rfl, rfl⟩); (all_goals intro h); (all_goals (try simp only [decide_eq_true_eq, decide_eq_false_iff_not, Bool.not_false] at h)); (all_goals (try (exfalso; omega)))) | ((with_reducible apply c_cond); (case he => exact rfl); (all_goals intro h); (all_goals (try simp only [decide_eq_true_eq, decide_eq_false_iff_not] at h)); (all_goals (try (exfalso; omega)))) | skip))))
  all_goals (refine go0 ?_)
  all_goals rfl
 rw [if_neg c9] at hr
 subst hr
 (iterate 5 ((all_goals (refine go1 ?_)); (all_goals (first | (refine g_call3 rfl hhq rfl (src (cs)) rfl rfl ?_) | ((with_reducible apply n_grd); (case hf => exact ⟨rfl, rfl, rfl⟩); (all_goals intro h); (all_goals (try simp only [decide_eq_true_eq, decide_eq_false_iff_not, Bool.not_false] at h)); (all_goals (try (exfalso; omega)))) | ((with_reducible apply c_cond); (case he => exact rfl); (all_goals intro h); (all_goals (try simp only [decide_eq_true_eq, decide_eq_false_iff_not] at h)); (all_goals (try (exfalso; omega)))) | skip))))
 all_goals (refine go0 ?_)
 all_goals rfl
theorem pchk_m (t : TipS) (b : BlkS) (nodes maxBytes : Int) (ht : TipOk t) (hb : HdOk b.hd) (hn : I64 nodes) (_hm : I64 maxBytes) (hl : b.txs.length < 60000) (hx : ∀ x ∈ b.txs, x.length < 300000000) : SemC Tryz.prog G 20 [tipM t, blkM b, .int .i64 nodes, .int .i64 maxBytes] (.int .i64 (chkS t b nodes maxBytes)) := by
 have cr := broot_m (G := G) b.txs hl hx
 have cs := psum_m (G := G) b.txs (by omega) (fun x h => Nat.le_of_lt (hx x h))
 have hsum := sumB_le 300000000 b.txs fun x h => ⟨Nat.le_of_lt (hx x h), by have := hx x h; unfold U64; omega⟩
 have hmax : b.txs.length * (300000000 + 11) ≤ 60000 * 300000011 := Nat.mul_le_mul_right _ (Nat.le_of_lt hl)
 have hrl := rootS_len b.txs
 generalize hr : chkS t b nodes maxBytes = R
 obtain ⟨⟨height, time, prop, par, txs, app, res⟩, l⟩ := b
 obtain ⟨theight, ttime, thash, tapp, tres⟩ := t
 obtain ⟨h1, h2, h3, h4, h5, h6, h7⟩ := hb
 obtain ⟨t1, t2, t3, t4, t5⟩ := ht
 unfold chkS at hr
 unfold rawsM at cs
 try unfold rawsM at cr
 unfold I64 at *
 dsimp only at h1 h2 h3 h4 h5 h6 h7 t1 t2 t3 t4 t5 hl hx hr cr cs hsum hmax hrl
 have q1 := SomF.mk (eq_key (a := par) (b := thash) (by rw [h4, t3]))
 have q2 := SomF.mk (eq_key (a := app) (b := tapp) (by rw [h6, t4]))
 have q3 := SomF.mk (eq_key (a := res) (b := tres) (by rw [h7, t5]))
 have q4 := SomF.mk (eq_key (a := txs) (b := rootS l) (by rw [h5, hrl]))
 have s1 := SideF.mk (keySide par thash)
 have s2 := SideF.mk (keySide app tapp)
 have s3 := SideF.mk (keySide res tres)
 have s4 := SideF.mk (keySide txs (rootS l))
 generalize rootS l = rt at *
 generalize sumB l = sm at *
 clear hx hrl
 dsimp only [tipM, blkM, hdM]
 refine scq seat Tryz.func20 97 ?_
 refine go1 ?_
 by_cases c1 : nodes < 1 ∨ 8 < nodes ∨ theight < 0 ∨ 1073741824 < theight
 ·rw [if_pos c1] at hr
  subst hr
  (iterate 6 ((all_goals (refine go1 ?_)); (all_goals (first | ((with_reducible apply n_grd); (case hf => exact ⟨rfl, rfl, rfl⟩); (all_goals intro h); (all_goals (try simp only [decide_eq_true_eq, decide_eq_false_iff_not, Bool.not_false] at h)); (all_goals (try (exfalso; omega)))) | ((with_reducible apply c_cond); (case he => exact rfl); (all_goals intro h); (all_goals (try simp only [decide_eq_true_eq, decide_eq_false_iff_not] at h)); (all_goals (try (exfalso; omega)))) | skip))))
  all_goals (refine go0 ?_)
  all_goals rfl
 rw [if_neg c1] at hr
 have hne := SideF.mk (show nodes ≠ 0 by omega)
 (iterate 4 ((all_goals (refine go1 ?_)); (all_goals (first | ((with_reducible apply n_grd); (case hf => exact ⟨rfl, rfl, rfl⟩); (all_goals intro h); (all_goals (try simp only [decide_eq_true_eq, decide_eq_false_iff_not, Bool.not_false] at h)); (all_goals (try (exfalso; omega)))) | ((with_reducible apply c_cond); (case he => exact rfl); (all_goals intro h); (all_goals (try simp only [decide_eq_true_eq, decide_eq_false_iff_not] at h)); (all_goals (try (exfalso; omega)))) | skip))))
 refine go1 ?_
 by_cases c2 : height ≠ theight + 1 ∨ 1073741824 < height
 ·rw [if_pos c2] at hr
  subst hr
  (iterate 4 ((all_goals (refine go1 ?_)); (all_goals (first | ((with_reducible apply n_grd); (case hf => exact ⟨rfl, rfl, rfl⟩); (all_goals intro h); (all_goals (try simp only [bne_iff_ne, ne_eq, Bool.not_false, bne_eq_false_iff_eq] at h)); (all_goals (try (exfalso; omega)))) | ((with_reducible apply c_cond); (case he => exact rfl); (all_goals intro h); (all_goals (try simp only [decide_eq_true_eq, decide_eq_false_iff_not] at h)); (all_goals (try (exfalso; omega)))) | skip))))
  all_goals (refine go0 ?_)
  all_goals rfl
 rw [if_neg c2] at hr
 (iterate 2 ((all_goals (refine go1 ?_)); (all_goals (first | ((with_reducible apply n_grd); (case hf => exact ⟨rfl, rfl, rfl⟩); (all_goals intro h); (all_goals (try simp only [bne_iff_ne, ne_eq, Bool.not_false, bne_eq_false_iff_eq] at h)); (all_goals (try (exfalso; omega)))) | ((with_reducible apply c_cond); (case he => exact rfl); (all_goals intro h); (all_goals (try simp only [decide_eq_true_eq, decide_eq_false_iff_not] at h)); (all_goals (try (exfalso; omega)))) | skip))))
 refine go1 ?_
 have hmod : height.tmod nodes = height % nodes := Int.tmod_eq_emod_of_nonneg (by omega)
 refine c_draw [(0, false), (1, false), (2, false), (3, false), (4, false), (5, false), (6, false), (7, false)] ?_
 refine go1 ?_
 (refine c_cond rfl ?_ ?_ <;> intro h)
 ·have c3 : prop ≠ height % nodes := by
   rw [← hmod]
   simpa using h
  rw [if_pos c3] at hr
  subst hr
  refine go1 ?_
  refine go0 ?_
  rfl
 have c3 : prop = height % nodes := by
  rw [← hmod]
  simpa using h
 rw [if_neg (by simp [c3])] at hr
 refine go1 ?_
 by_cases c4 : time ≤ ttime ∨ 1099511627776 < time
 ·rw [if_pos c4] at hr
  subst hr
  (iterate 4 ((all_goals (refine go1 ?_)); (all_goals (first | ((with_reducible apply n_grd); (case hf => exact ⟨rfl, rfl, rfl⟩); (all_goals intro h); (all_goals (try simp only [decide_eq_true_eq, decide_eq_false_iff_not, Bool.not_false] at h)); (all_goals (try (exfalso; omega)))) | ((with_reducible apply c_cond); (case he => exact rfl); (all_goals intro h); (all_goals (try simp only [decide_eq_true_eq, decide_eq_false_iff_not] at h)); (all_goals (try (exfalso; omega)))) | skip))))
  all_goals (refine go0 ?_)
  all_goals rfl
 rw [if_neg c4] at hr
 (iterate 2 ((all_goals (refine go1 ?_)); (all_goals (first | ((with_reducible apply n_grd); (case hf => exact ⟨rfl, rfl, rfl⟩); (all_goals intro h); (all_goals (try simp only [decide_eq_true_eq, decide_eq_false_iff_not, Bool.not_false] at h)); (all_goals (try (exfalso; omega)))) | ((with_reducible apply c_cond); (case he => exact rfl); (all_goals intro h); (all_goals (try simp only [decide_eq_true_eq, decide_eq_false_iff_not] at h)); (all_goals (try (exfalso; omega)))) | skip))))
 refine go1 ?_
 (refine c_cond rfl ?_ ?_ <;> intro h)
 ·have c5 : par ≠ thash := by simpa using h
  rw [if_pos c5] at hr
  subst hr
  refine go1 ?_
  refine go0 ?_
  rfl
 have c5 : par = thash := by simpa using h
 rw [if_neg (by simp [c5])] at hr
 refine go1 ?_
 (refine c_cond rfl ?_ ?_ <;> intro h)
 ·have c6 : app ≠ tapp := by simpa using h
  rw [if_pos c6] at hr
  subst hr
  refine go1 ?_
  refine go0 ?_
  rfl
 have c6 : app = tapp := by simpa using h
 rw [if_neg (by simp [c6])] at hr
 refine go1 ?_
 (refine c_cond rfl ?_ ?_ <;> intro h)
 ·have c7 : res ≠ tres := by simpa using h
  rw [if_pos c7] at hr
  subst hr
  refine go1 ?_
  refine go0 ?_
  rfl
 have c7 : res = tres := by simpa using h
 rw [if_neg (by simp [c7])] at hr
 refine go1 ?_
 refine c_draw [(0, false), (1, false), (2, false), (3, false), (4, true), (5, false), (6, false)] ?_
 refine go1 ?_
 refine gd_call1 rfl hhq rfl [] (src (cr)) rfl [] trivial lm rfl ?_
 refine go1 ?_
 (refine c_cond rfl ?_ ?_ <;> intro h)
 ·have c8 : txs ≠ rt := by simpa using h
  rw [if_pos c8] at hr
  subst hr
  refine go1 ?_
  refine go0 ?_
  rfl
 have c8 : txs = rt := by simpa using h
 rw [if_neg (by simp [c8])] at hr
 refine go1 ?_
 by_cases c9 : 512 < l.length ∨ maxBytes < sm
 ·rw [if_pos c9] at hr
  subst hr
  (iterate 5 ((all_goals (refine go1 ?_)); (all_goals (first | (refine g_call3 rfl hhq rfl (src (cs)) rfl rfl ?_) | ((with_reducible apply n_grd); (case hf => exact ⟨rfl, rfl, rfl⟩); (all_goals intro h); (all_goals (try simp only [decide_eq_true_eq, decide_eq_false_iff_not, Bool.not_false] at h)); (all_goals (try (exfalso; omega)))) | ((with_reducible apply c_cond); (case he => exact rfl); (all_goals intro h); (all_goals (try simp only [decide_eq_true_eq, decide_eq_false_iff_not] at h)); (all_goals (try (exfalso; omega)))) | skip))))
  all_goals (refine go0 ?_)
  all_goals rfl
 rw [if_neg c9] at hr
 subst hr
 (iterate 5 ((all_goals (refine go1 ?_)); (all_goals (first | (refine g_call3 rfl hhq rfl (src (cs)) rfl rfl ?_) | ((with_reducible apply n_grd); (case hf => exact ⟨rfl, rfl, rfl⟩); (all_goals intro h); (all_goals (try simp only [decide_eq_true_eq, decide_eq_false_iff_not, Bool.not_false] at h)); (all_goals (try (exfalso; omega)))) | ((with_reducible apply c_cond); (case he => exact rfl); (all_goals intro h); (all_goals (try simp only [decide_eq_true_eq, decide_eq_false_iff_not] at h)); (all_goals (try (exfalso; omega)))) | skip))))
 all_goals (refine go0 ?_)
 all_goals rfl
end
section
variable {G : GS}
attribute [local irreducible] vOpsN vOpsG vOpsD vOpGD NextD vC SeqQ BlockQ
def makeS (t : TipS) (time prop : Int) (raws : List (List UInt8)) : BlkS := ⟨⟨t.height + 1, if t.time + 1 > time then t.time + 1 else time, prop, t.hash, rootS raws, t.app, t.res⟩, raws⟩
abbrev keyZ : MV := keyM (List.replicate 32 0)
abbrev hdZ : MV := .st [.int .i64 0, .int .i64 0, .int .i64 0, keyZ, keyZ, keyZ, keyZ]
theorem make_r (t : TipS) (time prop : Int) (raws : List (List UInt8)) (h1 : -1000 ≤ t.height ∧ t.height < 4611686018427387904) (h2 : -1000 ≤ t.time ∧ t.time < 4611686018427387904) (hl : raws.length < 60000) (hx : ∀ x ∈ raws, x.length < 300000000) : SemR Tryz.prog G 13 [tipM t, .int .i64 time, .int .i64 prop, rawsM raws] [] 0 (blkM (makeS t time prop raws)) [] 0 := by
 have cr := rroot_m (G := G) _ raws (Nat.le_refl _) (by omega) hx
 obtain ⟨height, ttime, hash, app, res⟩ := t
 unfold makeS rawsM
 dsimp only at *
 generalize rootS raws = rt at *
 dsimp only [tipM, blkM, hdM]
 refine srq seat Tryz.func13 47 ?_
 refine go1 ?_
 refine c_draw [(0, false), (1, false), (2, false), (3, false), (4, false), (5, false), (6, false), (7, false), (8, false), (9, false), (10, false), (11, false), (12, true), (13, false), (14, false), (15, false), (16, false), (17, false), (18, false), (19, false), (20, false)] ?_
 refine go1 ?_
 refine gd_call1 rfl hhq rfl [] (src (cr)) rfl [] trivial lm rfl ?_
 refine go1 ?_
 generalize hT : (if ttime + 1 > time then ttime + 1 else time) = T at *
 refine c_loop Nat (fun k => [(33, .int .i64 k), (32, .int .i64 raws.length), (31, .sl raws.length (raws.map rawM)), (9, .ptr 1 132 0 0 []), (8, .ptr 0 132 0 0 [])]) (fun k => [(0, ⟨29, 132, false, 0, [.st [hdZ, .nils]]⟩), (1, ⟨29, 132, false, 0, [.st [.st [.int .i64 (height + 1), .int .i64 T, .int .i64 prop, keyM hash, keyM rt, keyM app, keyM res], .ms 2 1 0 k]]⟩), (2, ⟨64, 1, true, 0, (raws.take k).map rawM⟩)]) 3 (fun k => k ≤ raws.length) (fun k => raws.length - k) 0 (Nat.zero_le _) (by rw [List.take_zero]; exact (vm [(0, _), (1, _)] [])) ?_
 intro k hk
 try dsimp only
 refine go1 ?_
 (refine c_cond rfl ?_ ?_ <;> intro h)
 ·have hk' : k < raws.length := by have := of_decide_eq_true h; omega
  have hel := raws_at hk'
  have hbl := hx _ (List.getElem_mem hk')
  have hsucc : (raws.take (k + 1)).map rawM = (raws.take k).map rawM ++ [rawM raws[k]] := by rw [List.take_succ_eq_append_getElem hk', List.map_append]; rfl
  have hll : ((raws.take k).map rawM).length = k := by simp; omega
  generalize raws[k] = b at *
  replace hel : idxL (raws.map rawM) raws.length (k : Int) = some (.sl b.length (u8s b)) := hel
  have hel := SomF.mk hel
  have hsf := SideF.mk (show 0 + b.length ≤ (u8s b).length by simp [u8s])
  have hcut : cutL (u8s b) 0 (0 + b.length) = u8s b := by rw [cut_u8, List.drop_zero, Nat.zero_add, Nat.sub_zero, List.take_length]
  refine go1 ?_
  refine c_draw [(0, false), (1, false), (2, false), (3, false), (4, false), (5, false), (6, false), (7, false), (8, false)] ?_
  refine go1 ?_
  ((with_reducible apply gd_mem); (case hv => exact rfl); (case he => (intro R hR; refine sms hR ?_; refine And.intro ((head_b b)) ?_; refine And.intro ⟨rfl, app_ok (by kernel_rfl) pf⟩ ?_; refine ⟨u8s b, sv (by show [] ++ u8s b = _; rw [List.nil_append]), b.length, sv pf, ?_⟩; exact hR)); (case hd => exact rfl))
  refine go1 ?_
  ((with_reducible apply gd_mem); (case hv => exact rfl); (case he => (intro R hR; refine sms hR ?_; (refine And.intro (Nat.le_refl _) ?_; refine ⟨_, rfl, ?_⟩; refine And.intro ⟨hll, app_ok (by kernel_rfl) pf⟩ ?_; refine ⟨(raws.take (k + 1)).map rawM, sv (by rw [hsucc]; show _ ++ [MV.sl b.length (cutL (u8s b) 0 (0 + b.length))] = _; rw [hcut]; rfl), k + 1, sv pf, ?_⟩); exact hR)); (case hd => exact rfl))
  refine go1 ?_
  exact ⟨k + 1, by show k + 1 ≤ raws.length; omega, by show raws.length - (k + 1) < raws.length - k; omega, (by dsimp only; exact (vm [(0, _), (1, _), (2, _)] []))⟩
 ·have hk' : k = raws.length := by have := of_decide_eq_false h; omega
  subst hk'
  rw [List.take_length]
  refine go1 ?_
  refine go0 ?_
  refine ⟨[_], [], [(2, raws.length)], rfl, rfl, ?_, rfl, ⟨?_, trivial⟩, ?_⟩
  ·exact ⟨by show raws.length ≤ (raws.map rawM).length; simp, trivial⟩
  ·exact .inr ⟨_, rfl, ⟨.inl ⟨rfl, rfl⟩, .inr ⟨rfl, rfl, rfl, Nat.le_of_eq (Nat.zero_add _), cut_all rawM raws⟩, trivial⟩⟩
  ·exact mm
theorem pmake_r (t : TipS) (time prop : Int) (raws : List (List UInt8)) (h1 : -1000 ≤ t.height ∧ t.height < 4611686018427387904) (h2 : -1000 ≤ t.time ∧ t.time < 4611686018427387904) (hl : raws.length < 60000) (hx : ∀ x ∈ raws, x.length < 300000000) : SemR Tryz.prog G 12 [tipM t, .int .i64 time, .int .i64 prop, rawsM raws] [] 0 (blkM (makeS t time prop raws)) [] 0 := by
 have cr := broot_m (G := G) raws hl hx
 have co := ownRaws_r (G := G) raws (by omega) (fun b h => by have := hx b h; omega)
 obtain ⟨height, ttime, hash, app, res⟩ := t
 unfold makeS
 unfold rawsM at *
 dsimp only at *
 generalize rootS raws = rt at *
 dsimp only [tipM, blkM, hdM]
 refine srq seat Tryz.func12 32 ?_
 refine go1 ?_
 refine c_draw [(0, false), (1, false), (2, false), (3, false), (4, false), (5, false), (6, false), (7, false), (8, false), (9, false), (10, false), (11, false), (12, true), (13, false), (14, false), (15, false), (16, false), (17, false), (18, false), (19, false)] ?_
 refine go1 ?_
 refine gd_call1 rfl hhq rfl [] (src (cr)) rfl [] trivial lm rfl ?_
 refine go1 ?_
 generalize hT : (if ttime + 1 > time then ttime + 1 else time) = T at *
 refine c_draw [(0, false), (1, false), (2, true), (3, false), (4, false)] ?_
 refine go1 ?_
 refine gd_call1 rfl hhq rfl [] (co) rfl [] trivial lm rfl ?_
 refine go1 ?_
 refine go0 ?_
 refine ⟨[_], [], [], rfl, rfl, trivial, rfl, ⟨?_, trivial⟩, ?_⟩
 ·exact rv
 ·exact mm
def genT (l : LgS) : TipS := ⟨0, 0, shaS (digS l), digS l, rdigS []⟩
theorem digS_len (l : LgS) : (digS l).length = 32 := rootS_len _
theorem rgen_m (l : LgS) (hl : SmLg l) : SemC Tryz.prog G 15 [lgM l] (tipM (genT l)) := by
 have c1 := digL_m (G := G) l hl
 have hd := digS_len l
 have c2 := sha_m (G := G) (digS l) (by omega)
 have c3 := rdig_m (G := G) [] (by simp) (by simp)
 unfold genT
 obtain ⟨acs, col⟩ := l
 generalize digS ⟨acs, col⟩ = d at *
 generalize rdigS [] = rd at *
 rw [hd, ← cut_key hd] at c2
 generalize shaS d = sd at *
 unfold lgM at *
 dsimp only at *
 dsimp only [tipM, blkM, hdM]
 refine scq seat Tryz.func15 11 ?_
 refine go1 ?_
 refine g_call2 rfl hhq rfl (src (c1)) rfl lm ?_
 refine go1 ?_
 refine c_draw [(0, false), (1, true), (2, false), (3, true), (4, false), (5, false)] ?_
 refine go1 ?_
 refine gd_call1 rfl hhq rfl [] (src (c2)) rfl [] trivial lm rfl ?_
 refine go1 ?_
 refine gd_call1 rfl hhq rfl [] (src (c3)) rfl [] trivial lm rfl ?_
 refine go1 ?_
 refine go0 ?_
 rfl
theorem pgen_m (l : LgS) (hl : SmLg l) : SemC Tryz.prog G 14 [lgM l] (tipM (genT l)) := by
 have c1 := pdigL_m (G := G) l hl
 have hd := digS_len l
 have c2 := psha_m (G := G) (digS l) (by omega)
 have c3 := prdig_m (G := G) [] (by simp) (by simp)
 unfold genT
 obtain ⟨acs, col⟩ := l
 generalize digS ⟨acs, col⟩ = d at *
 generalize rdigS [] = rd at *
 rw [hd, ← cut_key hd] at c2
 generalize shaS d = sd at *
 unfold lgM at *
 dsimp only at *
 dsimp only [tipM, blkM, hdM]
 refine scq seat Tryz.func14 11 ?_
 refine go1 ?_
 refine g_call2 rfl hhq rfl (src (c1)) rfl lm ?_
 refine go1 ?_
 refine c_draw [(0, false), (1, true), (2, false), (3, true), (4, false), (5, false)] ?_
 refine go1 ?_
 refine gd_call1 rfl hhq rfl [] (src (c2)) rfl [] trivial lm rfl ?_
 refine go1 ?_
 refine gd_call1 rfl hhq rfl [] (src (c3)) rfl [] trivial lm rfl ?_
 refine go1 ?_
 refine go0 ?_
 rfl
def advT (b : BlkS) (l : LgS) (r : List ResS) : TipS := ⟨b.hd.height, b.hd.time, hashS b.hd, digS l, rdigS r⟩
theorem radv_m (b : BlkS) (l : LgS) (r : List ResS) (hb : HdOk b.hd) (hl : SmLg l) (hr : r.length ≤ 50000) (hrs : ∀ x ∈ r, SmRes x) : SemC Tryz.prog G 17 [blkM b, lgM l, .sl r.length (r.map resM)] (tipM (advT b l r)) := by
 have c1 := hash_m (G := G) b.hd hb
 have c2 := digL_m (G := G) l hl
 have c3 := rdig_m (G := G) r hr hrs
 unfold advT
 obtain ⟨⟨height, time, prop, par, txs, app, res⟩, raws⟩ := b
 obtain ⟨acs, col⟩ := l
 dsimp only at *
 generalize hashS ⟨height, time, prop, par, txs, app, res⟩ = hs at *
 generalize digS ⟨acs, col⟩ = d at *
 generalize rdigS r = rd at *
 unfold lgM at *
 dsimp only at *
 dsimp only [tipM, blkM, hdM]
 refine scq seat Tryz.func17 21 ?_
 refine go1 ?_
 refine c_draw [(0, false), (1, false), (2, false), (3, false), (4, false), (5, false), (6, false), (7, false), (8, true), (9, false), (10, true), (11, false), (12, true), (13, false), (14, false)] ?_
 refine go1 ?_
 refine gd_call1 rfl hhq rfl [] (src (c1)) rfl [] trivial lm rfl ?_
 refine go1 ?_
 refine gd_call1 rfl hhq rfl [] (src (c2)) rfl [] trivial lm rfl ?_
 refine go1 ?_
 refine gd_call1 rfl hhq rfl [] (src (c3)) rfl [] trivial lm rfl ?_
 refine go1 ?_
 refine go0 ?_
 rfl
theorem padv_m (t : TipS) (b : BlkS) (l : LgS) (r : List ResS) (hb : HdOk b.hd) (hl : SmLg l) (hr : r.length ≤ 50000) (hrs : ∀ x ∈ r, SmRes x) : SemC Tryz.prog G 16 [tipM t, blkM b, lgM l, .sl r.length (r.map resM)] (tipM (advT b l r)) := by
 have c1 := phash_m (G := G) b.hd hb
 have c2 := pdigL_m (G := G) l hl
 have c3 := prdig_m (G := G) r hr hrs
 unfold advT
 obtain ⟨⟨height, time, prop, par, txs, app, res⟩, raws⟩ := b
 obtain ⟨acs, col⟩ := l
 dsimp only at *
 generalize hashS ⟨height, time, prop, par, txs, app, res⟩ = hs at *
 generalize digS ⟨acs, col⟩ = d at *
 generalize rdigS r = rd at *
 unfold lgM at *
 dsimp only at *
 obtain ⟨t1, t2, t3, t4, t5⟩ := t
 dsimp only [tipM, blkM, hdM]
 refine scq seat Tryz.func16 23 ?_
 refine go1 ?_
 refine c_draw [(0, false), (1, false), (2, false), (3, false), (4, false), (5, false), (6, false), (7, false), (8, true), (9, false), (10, true), (11, false), (12, true), (13, false), (14, false)] ?_
 refine go1 ?_
 refine gd_call1 rfl hhq rfl [] (src (c1)) rfl [] trivial lm rfl ?_
 refine go1 ?_
 refine gd_call1 rfl hhq rfl [] (src (c2)) rfl [] trivial lm rfl ?_
 refine go1 ?_
 refine gd_call1 rfl hhq rfl [] (src (c3)) rfl [] trivial lm rfl ?_
 refine go1 ?_
 refine go0 ?_
 rfl
theorem sameBlock_m (a b : BlkS) (ha : HdOk a.hd) (hb : HdOk b.hd) (hla : a.txs.length < 1000000000) (hlb : b.txs.length < 1000000000) : SemC Tryz.prog G 11 [blkM a, blkM b] (.bool (decide (a = b))) := by
 have q1 := SomF.mk (eq_hd ha hb)
 have s1 := SideF.mk (hdSide a.hd b.hd)
 have c1 := sameLists_m (G := G) a.txs b.txs hla hlb
 have hdec : decide (a = b) = (decide (a.hd = b.hd) && decide (a.txs = b.txs)) := by
  obtain ⟨a1, a2⟩ := a
  obtain ⟨b1, b2⟩ := b
  simp [BlkS.mk.injEq]
 rw [hdec]
 obtain ⟨⟨a1, a2, a3, a4, a5, a6, a7⟩, al⟩ := a
 obtain ⟨⟨b1, b2, b3, b4, b5, b6, b7⟩, bl⟩ := b
 unfold rawsM at c1
 dsimp only at *
 generalize decide ((⟨a1, a2, a3, a4, a5, a6, a7⟩ : HdS) = ⟨b1, b2, b3, b4, b5, b6, b7⟩) = e at *
 generalize decide (al = bl) = f at *
 dsimp only [tipM, blkM, hdM]
 refine scq seat Tryz.func11 17 ?_
 refine go1 ?_
 cases e with
 | true =>
  refine go1 ?_
  refine g_call2 rfl hhq rfl (src (c1)) rfl lm ?_
  refine go1 ?_
  refine go0 ?_
  rfl
 | false =>
  refine go1 ?_
  refine go0 ?_
  rfl
end
section
def SemX (Pg : Program) (G : GS) (f : FuncId) (args : List MV) (P : MV → Prop) : Prop := SemE Pg G f args [] 0 fun r M n => (P r ∧ nfree r = true) ∧ M = [] ∧ n = 0
def SemN (G : GS) (L : List Int) (f : FuncId) (args : List MV) (k : Nat) (P : MV → Nat → Prop) : Prop := SemE Tryz.prog G f args (numB L k) 1 fun r M n => ∃ k', (P r k' ∧ nfree r = true) ∧ M = numB L k' ∧ n = 1
section
variable {Pg : Program} {T : Tab} {N : Nat} {ents : List FuncId} {G : GS} {ops : Array Oper} {d : Tmp} {ty : TypeId} {pos : String} {after : Array Edge} {g : Option (Nat × Bool)} {rest : List Oper} {K : VK} {E : VE} {M : VM} {n : Nat}
 {f : Operand} {args : Array Operand} {ats : Array TypeId} {f0 : FuncId} {vs : List MV}
theorem g_callX1 (hd : Nat.blt d N = true) (h1 : ∀ R : FuncId × List MV → Prop, R (f0, vs) → (vArgs E f args.toList).runP R) (h2 : ents.contains f0 = true) {args' : List MV} {P : MV → Prop} (hc : SemX Pg G f0 args' P) (bs : List (Nat × Nat)) (hb : okB M bs)
  (hm : relV.relVs (sigA 0 []) (fzb M bs) args' vs) (h : ∀ r, P r → vOpsN Pg T N ents G ops rest K ((d, r) :: E) (VM.bump M bs) n) : vOpsG Pg T N ents G ops ⟨some d, .call ⟨.value f, args, ats⟩, ty, pos, after, g⟩ rest K E M n := by
 refine g_callE1 hd h1 h2 hc [] bs ⟨rfl, hb, rfl, hm, trivial⟩ rfl ?_
 rintro r _ _ ⟨⟨hP, hf⟩, rfl, rfl⟩
 refine ⟨rfl, ?_⟩
 rw [renV_nfree r hf]
 exact h r hP
theorem g_callN1 (hd : Nat.blt d N = true) (h1 : ∀ R : FuncId × List MV → Prop, R (f0, vs) → (vArgs E f args.toList).runP R) (h2 : ents.contains f0 = true) {args' : List MV} {L : List Int} {k : Nat} {P : MV → Nat → Prop} (hc : SemN G L f0 args' k P) (hg : Pg = Tryz.prog) (b : Nat) (bs : List (Nat × Nat))
  (hm : LMatch 0 args' (numB L k) 1 vs M [(0, b)] bs) (h3 : allIn M [(0, b)] = true) (h : ∀ r k', P r k' → vOpsN Pg T N ents G ops rest K ((d, r) :: E) (renM (rho n [(0, b)]) (numB L k') ++ delM (VM.bump M bs) [(0, b)]) (n + 1)) : vOpsG Pg T N ents G ops ⟨some d, .call ⟨.value f, args, ats⟩, ty, pos, after, g⟩ rest K E M n := by
 subst hg
 refine g_callE1 hd h1 h2 hc [(0, b)] bs hm h3 ?_
 rintro r _ _ ⟨k', ⟨hP, hf⟩, rfl, rfl⟩
 refine ⟨rfl, ?_⟩
 rw [renV_nfree r hf]
 exact h r k' hP
end
theorem next_b {G : GS} (L : List Int) (k n : Nat) (hn : 0 < n) (hn2 : n < 4611686018427387904) (hk : k < 4611686018427387904) : ∃ x : Nat, x < n ∧ SemR Tryz.prog G 18 [numP, .int .i64 (n : Int)] (numB L k) 1 (.int .i64 (x : Int)) (numB L (k + 1)) 1 := by
 have h1 := Int.emod_nonneg (L[k]?.getD 0) (show (n : Int) ≠ 0 by omega)
 have h2 := Int.emod_lt_of_pos (L[k]?.getD 0) (show (0 : Int) < n by omega)
 refine ⟨(nextV L k n).toNat, by unfold nextV; omega, ?_⟩
 rw [show (((nextV L k n).toNat : Nat) : Int) = nextV L k n by unfold nextV; omega]
 exact next_r L k n (by omega) (by omega) hk
end
section
variable {G : GS}
attribute [local irreducible] vOpsN vOpsG vOpsD vOpGD NextD vC SeqQ BlockQ
structure Ent where
 key : List UInt8
 raw : List UInt8
 sender : List UInt8
 seq : Int
 gas : Int
 prio : Int
 height : Int
 time : Int
 order : Int
 peers : List Int
def entM (e : Ent) : MV := .st [keyM e.key, .sl e.raw.length (u8s e.raw), .str e.sender, .int .u64 e.seq, .int .u64 e.gas, .int .u64 e.prio, .int .i64 e.height, .int .i64 e.time, .int .i64 e.order, intsM e.peers]
theorem ents_at {l : List Ent} {k : Nat} (hk : k < l.length) : idxL (l.map entM) l.length (k : Int) = some (entM l[k]) := index_at hk (by simp [hk])
def bytesS (l : List Ent) : Nat := (l.map fun e => e.raw.length).sum
theorem bytesS_succ (l : List Ent) {k : Nat} (hk : k < l.length) : bytesS (l.take (k + 1)) = bytesS (l.take k) + l[k].raw.length := by
 unfold bytesS
 rw [List.take_succ_eq_append_getElem hk, List.map_append, List.sum_append]; simp
theorem bytesS_le (l : List Ent) (B : Nat) (hok : ∀ e ∈ l, e.raw.length ≤ B) (k : Nat) : bytesS (l.take k) ≤ B * k := by
 induction k with
 | zero => simp [bytesS]
 | succ k ih =>
  rcases Nat.lt_or_ge k l.length with h | h
  ·rw [bytesS_succ l h, Nat.mul_succ]
   have := hok _ (List.getElem_mem h)
   omega
  ·rw [List.take_of_length_le (by omega)]
   rw [List.take_of_length_le h] at ih
   rw [Nat.mul_succ]; omega
theorem bytes_m (l : List Ent) (hl : l.length < 1000000) (hok : ∀ e ∈ l, e.raw.length ≤ 1000000) : SemC Tryz.prog G 161 [.sl l.length (l.map entM)] (.int .i64 (bytesS l)) := by
 refine scq seat Tryz.func161 19 ?_
 refine go1 ?_
 refine c_loop Nat (fun k => [(8, .int .i64 k), (7, .int .i64 l.length), (6, .sl l.length (l.map entM)), (3, .int .i64 (bytesS (l.take k)))]) (fun _ => []) 0 (fun k => k ≤ l.length) (fun k => l.length - k) 0 (Nat.zero_le _) (vm [] []) ?_
 intro k hk
 try dsimp only
 refine go1 ?_
 (refine c_cond rfl ?_ ?_ <;> intro h)
 ·have hk' : k < l.length := by have := of_decide_eq_true h; omega
  have hke := hok _ (List.getElem_mem hk')
  have hb := bytesS_le l 1000000 hok k
  have hs := bytesS_succ l hk'
  have hel := ents_at hk'
  generalize l[k] = e at *
  generalize hv : bytesS (l.take k) = v at *
  have hel := SomF.mk hel
  refine go1 ?_
  exact ⟨k + 1, by show k + 1 ≤ l.length; omega, by show l.length - (k + 1) < l.length - k; omega, (by dsimp only; rw [hs]; exact (vm [] []))⟩
 ·have hk' : k = l.length := by have := of_decide_eq_false h; omega
  subst hk'
  rw [List.take_length]
  refine go1 ?_
  refine go0 ?_
  rfl
def befE (x y : Ent) : Bool := decide (x.prio < y.prio ∨ (x.prio = y.prio ∧ y.order < x.order))
def insE (e : Ent) : List Ent → List Ent
 | [] => [e]
 | y :: l => bif befE y e then y :: insE e l else e :: y :: l
def ordE : List Ent → List Ent
 | [] => []
 | e :: l => insE e (ordE l)
def orderS (l : List Ent) : List Ent := ordE l.reverse
def roomS (c b s t m : Int) : Bool := decide (c < t ∧ 0 ≤ m ∧ b + max s 0 ≤ m)
theorem insE_perm (e : Ent) : ∀ l, (insE e l).Perm (e :: l)
 | [] => .refl _
 | y :: l => by
  unfold insE
  cases befE y e with
  | true => exact ((insE_perm e l).cons y).trans (.swap e y l)
  | false => exact .refl _
theorem ordE_perm : ∀ l, (ordE l).Perm l
 | [] => .refl _
 | e :: l => (insE_perm e (ordE l)).trans ((ordE_perm l).cons e)
theorem order_perm (l : List Ent) : (orderS l).Perm l := (ordE_perm _).trans (List.reverse_perm l)
theorem bytes_perm {a b : List Ent} (h : a.Perm b) : bytesS a = bytesS b := by
 unfold bytesS
 induction h with
 | nil => rfl
 | cons x _ ih => simp [ih]
 | swap x y l => simp; omega
 | trans _ _ h1 h2 => exact h1.trans h2
def selG (p s t m : Int) : List Ent → Int → Int → List Ent × Int × Int
 | [], c, b => ([], c, b)
 | e :: l, c, b => match roomS c b s t m || decide (p ≤ e.prio) with
  | true => ([], c, b)
  | false => match selG p s t m l (c - 1) (b - e.raw.length) with
   | (v, c', b') => (e :: v, c', b')
def selS (p s t m : Int) (l : List Ent) : List (List UInt8) × Bool := match selG p s t m (orderS l) l.length (bytesS l) with
 | (v, c, b) => match roomS c b s t m with
  | true => (v.map (·.key), true)
  | false => ([], false)
theorem ents_at' {O : List Ent} {n k : Nat} (hn : O.length = n) (hk : k < n) : idxL (O.map entM) n (k : Int) = some (entM (O[k]'(by omega))) := by subst hn; exact ents_at hk
theorem bytesS_split (l : List Ent) (k : Nat) : bytesS (l.take k) + bytesS (l.drop k) = bytesS l := by
 unfold bytesS
 rw [← List.sum_append, ← List.map_append, List.take_append_drop]
def selM (x : List (List UInt8) × Bool) : MV := .tup [.sl x.1.length (x.1.map keyM), .bool x.2]
def SelI (p s t m : Int) (O : List Ent) (n B k : Nat) : Prop := ∃ v c b, selG p s t m (O.drop k) ((n : Int) - k) ((B : Int) - bytesS (O.take k)) = (v, c, b) ∧ selG p s t m O n B = (O.take k ++ v, c, b)
theorem selI_step {p s t m : Int} {O : List Ent} {n B k : Nat} (hk : k < O.length) (h : SelI p s t m O n B k) (hr : (roomS ((n : Int) - k) ((B : Int) - bytesS (O.take k)) s t m || decide (p ≤ O[k].prio)) = false) : SelI p s t m O n B (k + 1) := by
 obtain ⟨v, c, b, h1, h2⟩ := h
 rw [List.drop_eq_getElem_cons hk, selG, hr] at h1
 generalize hg : selG p s t m (O.drop (k + 1)) ((n : Int) - k - 1) ((B : Int) - bytesS (O.take k) - O[k].raw.length) = r at h1
 obtain ⟨v', c', b'⟩ := r
 dsimp only at h1
 injection h1 with e1 e2
 injection e2 with e2 e3
 subst e1 e2 e3
 refine ⟨v', c', b', ?_, ?_⟩
 ·rw [bytesS_succ O hk]
  rw [← hg]
  congr 1 <;> omega
 ·rw [h2, List.take_succ_eq_append_getElem hk, List.append_assoc]; rfl
theorem selI_end {p s t m : Int} {O : List Ent} {n B k : Nat} (h : SelI p s t m O n B k) (hr : k = O.length ∨ ∃ hk : k < O.length, (roomS ((n : Int) - k) ((B : Int) - bytesS (O.take k)) s t m || decide (p ≤ O[k].prio)) = true) :
  selG p s t m O n B = (O.take k, (n : Int) - k, (B : Int) - bytesS (O.take k)) := by
 obtain ⟨v, c, b, h1, h2⟩ := h
 rcases hr with rfl | ⟨hk, hr⟩
 ·rw [List.drop_length, selG] at h1
  injection h1 with e1 e2
  injection e2 with e2 e3
  subst e1 e2 e3
  rw [h2, List.append_nil]
 ·rw [List.drop_eq_getElem_cons hk, selG, hr] at h1
  injection h1 with e1 e2
  injection e2 with e2 e3
  subst e1 e2 e3
  rw [h2, List.append_nil]
theorem insE_at (e : Ent) : ∀ (out : List Ent) (k : Nat), k ≤ out.length → (∀ j (hj : j < out.length), j < k → befE out[j] e = true) → (∀ hk : k < out.length, befE out[k] e = false) → insE e out = out.take k ++ e :: out.drop k
 | [], k, _, _, _ => by simp [insE]
 | y :: out, 0, _, _, h2 => by
  have := h2 (by simp)
  unfold insE
  simp at this
  rw [this]; rfl
 | y :: out, k + 1, hk, h1, h2 => by
  have h0 := h1 0 (by simp) (by omega)
  unfold insE
  simp at h0
  rw [h0]
  have := insE_at e out k (by simpa using hk) (fun j hj hjk => by have := h1 (j + 1) (by simpa using hj) (by omega); rwa [List.getElem_cons_succ] at this) (fun hk => by have := h2 (by simpa using hk); rwa [List.getElem_cons_succ] at this)
  rw [this]; rfl
theorem order_take (l : List Ent) {i : Nat} (hi : i < l.length) : orderS (l.take (i + 1)) = insE l[i] (orderS (l.take i)) := by
 unfold orderS
 rw [List.take_succ_eq_append_getElem hi, List.reverse_append]; rfl
theorem order_len (l : List Ent) : (orderS l).length = l.length := (order_perm l).length_eq
theorem head_ents : ∀ (l : List Ent), headSize (l.map entM) 41 = true
 | [] => rfl
 | _ :: _ => rfl
theorem rorder_r (l : List Ent) (hl : l.length < 1000000) : SemR Tryz.prog G 162 [.sl l.length (l.map entM)] [] 0 (.sl l.length ((orderS l).map entM)) [] 0 := by
  rw [show (.sl l.length ((orderS l).map entM) : MV) = .sl (orderS l).length ((orderS l).map entM) by rw [order_len]]
  refine srq seat Tryz.func162 63 ?_
  refine go1 ?_
  refine c_loop (Nat × List Ent) (fun x => [(9, .int .i64 x.1), (8, .int .i64 l.length), (7, .sl l.length (l.map entM)), (3, .sl x.2.length (x.2.map entM))]) (fun _ => []) 0 (fun x => x.1 ≤ l.length ∧ x.2 = orderS (l.take x.1)) (fun x => l.length - x.1) (0, []) ⟨Nat.zero_le _, rfl⟩ (by dsimp only; exact (vm [] [])) ?_
  rintro ⟨i, out⟩ ⟨hi, hout⟩
  try dsimp only
  dsimp only at hi hout
  refine go1 ?_
  (refine c_cond rfl ?_ ?_ <;> intro h)
  · have hi' : i < l.length := by have := of_decide_eq_true h; omega
    have hol : out.length = i := by rw [hout, order_len]; simp; omega
    have hnext := order_take l hi'
    rw [← hout] at hnext
    have hel := ents_at hi'
    generalize l[i] = e at *
    have hel := SomF.mk hel
    clear hout
    refine go1 ?_
    refine q_joinB Nat (fun k => [(6, .int .i64 k), (5, .ptr 0 41 0 0 []), (9, .int .i64 i), (8, .int .i64 l.length), (7, .sl l.length (l.map entM)), (3, .sl out.length (out.map entM))]) (fun _ => [(0, ⟨144, 41, false, 0, [entM e]⟩)]) (fun _ => 1) (fun k => k ≤ out.length ∧ insE e out = out.take k ++ e :: out.drop k) (fun JQ hj => ?_) (fun k hIk => ?_)
    · refine c_loop Nat (fun k => [(6, .int .i64 k), (5, .ptr 0 41 0 0 []), (9, .int .i64 i), (8, .int .i64 l.length), (7, .sl l.length (l.map entM)), (3, .sl out.length (out.map entM))]) (fun _ => [(0, ⟨144, 41, false, 0, [entM e]⟩)]) 1 (fun k => k ≤ out.length ∧ ∀ j (hj : j < out.length), j < k → befE out[j] e = true) (fun k => out.length - k) 0 ⟨Nat.zero_le _, fun j hj h => absurd h (Nat.not_lt_zero _)⟩ (vm [(0, _)] []) ?_
      rintro k ⟨hki, hpre⟩
      try dsimp only
      have step : ∀ hk : k < out.length, befE out[k] e = true → (k + 1 ≤ out.length ∧ ∀ j (hj : j < out.length), j < k + 1 → befE out[j] e = true) := fun hk hb => ⟨by omega, fun j hj hjk => by
        rcases Nat.lt_or_ge j k with h | h
        · exact hpre j hj h
        · have : j = k := by omega
          subst this; exact hb⟩
      have done : (∀ hk : k < out.length, befE out[k] e = false) → k ≤ out.length ∧ insE e out = out.take k ++ e :: out.drop k := fun h => ⟨hki, insE_at e out k hki hpre h⟩
      clear hpre
      refine go1 ?_
      refine c_draw [(0, false), (1, false), (2, false), (3, false), (4, false), (5, false), (6, false), (7, false), (8, false), (9, false), (10, false), (11, false), (12, false), (13, false), (14, false), (15, false), (16, false), (17, false), (18, false), (19, false), (20, false), (21, false), (22, false), (23, false), (24, false), (25, false), (26, false), (27, false), (28, false), (29, false), (30, false), (31, false), (32, false), (33, false)] ?_
      refine go1 ?_
      ((with_reducible apply d_guard); (case hs => exact rfl); (case hv => exact rfl); (case hd => exact rfl); (all_goals intro h))
      · have hk : k < out.length := by have := of_decide_eq_true h; omega
        have hrow := ents_at hk
        replace step := step hk
        replace done := fun hb : befE out[k] e = false => done fun _ => hb
        generalize out[k] = b at *
        have hrow := SomF.mk hrow
        obtain ⟨b1, b2, b3, b4, b5, b6, b7, b8, b9, b10⟩ := b
        obtain ⟨e1, e2, e3, e4, e5, e6, e7, e8, e9, e10⟩ := e
        unfold befE at step done
        unfold entM at hrow ⊢
        dsimp only at step done hrow ⊢
        refine go1 ?_
        ((with_reducible apply d_guard); (case hs => exact rfl); (case hv => exact rfl); (case hd => exact rfl); (all_goals intro h))
        · have hp1 := of_decide_eq_false h
          refine go1 ?_
          ((with_reducible apply d_guard); (case hs => exact rfl); (case hv => exact rfl); (case hd => exact rfl); (all_goals intro h))
          · have hp2 : b6 = e6 := by simpa using h
            refine go1 ?_
            (refine c_cond rfl ?_ ?_ <;> intro h)
            · have hp3 := of_decide_eq_true h
              refine go1 ?_
              exact ⟨k + 1, step (decide_eq_true (by omega)), by show out.length - (k + 1) < out.length - k; omega, (by dsimp only; exact (vm [(0, _)] []))⟩
            · have hp3 := of_decide_eq_false h
              refine go1 ?_
              exact hj.nrm k (done (decide_eq_false (by omega))) (vm [(0, _)] [])
          · have hp2 : b6 ≠ e6 := by simpa using h
            refine go1 ?_
            exact hj.nrm k (done (decide_eq_false (by omega))) (vm [(0, _)] [])
        · have hp1 : b6 < e6 := by simpa using h
          refine go1 ?_
          exact ⟨k + 1, step (decide_eq_true (by omega)), by show out.length - (k + 1) < out.length - k; omega, (by dsimp only; exact (vm [(0, _)] []))⟩
      · have hk : ¬ k < out.length := by have : ¬ ((k : Int) < out.length) := by simpa using h
                                         omega
        refine go1 ?_
        exact hj.nrm k (done fun h => absurd h hk) (vm [(0, _)] [])
    · obtain ⟨hki, hZ⟩ := hIk
      generalize insE e out = Z at *
      have hZl : Z.length = out.length + 1 := by rw [hZ]; simp; omega
      replace hZ : out.take k ++ e :: out.drop k = Z := hZ.symm
      have fb1 := SomF.mk (bndHi (n := out.length) (k := k) (κ := .i64) hki)
      have fb2 := SomF.mk (bndLo (n := out.length) (k := k) (κ := .i64) hki)
      have fb3 := SideF.mk (head_ents out)
      try dsimp only
      refine go1 ?_
      refine c_draw [(0, false), (1, false), (2, false), (3, false), (4, false), (5, false), (6, false), (7, false), (8, false), (9, false), (10, false), (11, false), (12, false)] ?_
      refine go1 ?_
      ((with_reducible apply gd_mem); (case hv => exact rfl); (case he => (intro R hR; refine sms hR ?_; refine And.intro ((by show headSize (cutL _ 0 k) 41 = true; rw [cut_take]; exact head_ents _)) ?_; refine And.intro ⟨rfl, app_ok (by kernel_rfl) pf⟩ ?_; refine ⟨(out.take k).map entM, sv (by show [] ++ cutL _ 0 k = _; rw [List.nil_append, cut_take]), k, sv pf, ?_⟩; exact hR)); (case hd => exact rfl))
      refine go1 ?_
      ((with_reducible apply gd_mem); (case hv => exact rfl); (case he => (intro R hR; refine sms hR ?_; (refine And.intro (Nat.le_refl _) ?_; refine ⟨_, rfl, ?_⟩; refine And.intro ⟨(by simp <;> omega), app_ok (by kernel_rfl) pf⟩ ?_; refine ⟨(out.take k ++ [e]).map entM, sv (by rw [List.map_append]; rfl), k+1, sv pf, ?_⟩); exact hR)); (case hd => exact rfl))
      refine go1 ?_
      ((with_reducible apply gd_mem); (case hv => exact rfl); (case he => (intro R hR; refine sms hR ?_; refine And.intro ((by show headSize (cutL _ k out.length) 41 = true; rw [cut_drop]; exact head_ents _)) ?_; refine And.intro ⟨(by simp <;> omega), app_ok (by kernel_rfl) pf⟩ ?_; refine ⟨Z.map entM, sv (by rw [← hZ]; show _ ++ cutL _ k out.length = _; rw [cut_drop]; simp), Z.length, sv pf, ?_⟩; exact hR)); (case hd => exact rfl))
      refine go1 ?_
      exact ⟨(i + 1, Z), ⟨by dsimp only; omega, hnext.symm⟩, by dsimp only; omega, (by dsimp only; exact (vm [] [(12, Z.length)]))⟩
  · have hi' : i = l.length := by have := of_decide_eq_false h; omega
    subst hi'
    rw [List.take_length] at hout
    subst hout
    refine go1 ?_
    refine go0 ?_
    refine ⟨[_], [], [], rfl, rfl, trivial, rfl, ⟨?_, trivial⟩, ?_⟩
    · exact rv
    · exact mm
theorem fits_c (a b m : Int) (ha : 0 ≤ a ∧ a < 4611686018427387904) (_hb : 0 ≤ b ∧ b < 9223372036854775808) (hm : -9223372036854775808 ≤ m ∧ m < 9223372036854775808) :
  SemC Tryz.prog G 163 [.int .i64 a, .int .i64 b, .int .i64 m] (.bool (decide (a ≤ m ∧ b ≤ m - a))) := by
 refine scq seat Tryz.func163 17 ?_
 refine go1 ?_
 (refine n_grd ⟨rfl, rfl, rfl⟩ ?_ ?_ <;> intro h)
 ·have h1 : a ≤ m := by simpa using h
  refine go1 ?_
  refine go0 ?_
  exact congrArg MV.bool (decide_eq_decide.2 (by omega))
 ·have h1 : ¬ a ≤ m := by simpa using h
  refine go1 ?_
  refine go0 ?_
  exact congrArg MV.bool (decide_eq_false (by omega)).symm
theorem room_eq {n k B b : Nat} {s t m : Int} {c : Int} (hc : c = (n : Int) - k) (hb : b ≤ B) : roomS c ((B : Int) - b) s t m = decide ((n : Int) + 1 - k ≤ t ∧ ((B : Int) - b ≤ m ∧ max s 0 ≤ m - ((B : Int) - b))) := by
 subst hc
 exact decide_eq_decide.2 (by omega)
theorem max_i (s : Int) : (if (0 : Int) > s then 0 else s) = max s 0 := by
 by_cases hs : (0 : Int) > s
 ·rw [if_pos hs]; omega
 ·rw [if_neg hs]; omega
theorem rselect_r (l : List Ent) (hl : l.length < 1000000) (hok : ∀ e ∈ l, e.raw.length ≤ 1000000) (p s t m : Int) (hs : -9223372036854775808 ≤ s ∧ s < 9223372036854775808) (hm : -9223372036854775808 ≤ m ∧ m < 9223372036854775808) :
  SemR Tryz.prog G 121 [.sl l.length (l.map entM), .int .u64 p, .int .i64 s, .int .i64 t, .int .i64 m] [] 0 (selM (selS p s t m l)) [] 0 := by
 have hOp := order_perm l
 have hOl : (orderS l).length = l.length := hOp.length_eq
 have hOb : bytesS (orderS l) = bytesS l := bytes_perm hOp
 have hord := rorder_r (G := G) l hl
 have hB := bytesS_le l 1000000 hok l.length
 rw [List.take_length] at hB
 unfold selM
 refine srq seat Tryz.func121 68 ?_
 (have fct := EqF.mk (max_i s); refine go1 ?_)
 refine g_call2 rfl hhq rfl (src (bytes_m l hl hok)) rfl lm ?_
 refine go1 ?_
 refine g_call2 rfl hhq rfl (hord) rfl lm ?_
 refine go1 ?_
 refine c_loop Nat (fun k => [(27, .int .i64 k), (26, .int .i64 l.length), (25, .sl l.length ((orderS l).map entM)), (14, .ms 0 32 0 k), (13, .int .i64 ((bytesS l : Int) - bytesS ((orderS l).take k))), (12, .int .i64 ((l.length : Int) + 1 - k)), (4, .int .i64 m), (3, .int .i64 t), (2, .int .i64 (max s 0)), (1, .int .u64 p)]) (fun k => [(0, ⟨25, 32, true, 0, ((orderS l).take k).map fun e => keyM e.key⟩)]) 1 (fun k => k ≤ l.length ∧ SelI p s t m (orderS l) l.length (bytesS l) k) (fun k => l.length - k) 0 ⟨Nat.zero_le _, ?_⟩ ?_ ?_
 ·refine ⟨(selG p s t m (orderS l) l.length (bytesS l)).1, (selG p s t m (orderS l) l.length (bytesS l)).2.1, (selG p s t m (orderS l) l.length (bytesS l)).2.2, ?_, rfl⟩
  simp [bytesS]
 ·try dsimp only
  rw [show ((bytesS l : Int) - bytesS ((orderS l).take 0)) = bytesS l by simp [bytesS]]
  exact (vm [] [])
 rintro k ⟨hk1, hI⟩
 try dsimp only
 have hbk : bytesS ((orderS l).take k) ≤ bytesS l := by
  have := bytesS_split (orderS l) k
  omega
 have hre := room_eq (s := s) (t := t) (m := m) (n := l.length) (k := k) rfl hbk
 refine go1 ?_
 (refine c_cond rfl ?_ ?_ <;> intro h)
 ·have hk' : k < l.length := by have := of_decide_eq_true h; omega
  have hkO : k < (orderS l).length := by omega
  have hs2 := bytesS_succ (orderS l) hkO
  have hbk2 : bytesS ((orderS l).take (k + 1)) ≤ bytesS l := by
   have := bytesS_split (orderS l) (k + 1)
   omega
  (have fct := SomF.mk (ents_at' hOl hk'); refine go1 ?_)
  (refine n_grd ⟨rfl, rfl, rfl⟩ ?_ ?_ <;> intro h)
  ·have h1 := of_decide_eq_true h
   refine go1 ?_
   refine g_call2 rfl hhq rfl (src (fits_c ((bytesS l : Int) - bytesS ((orderS l).take k)) (max s 0) m (by omega) (by omega) hm)) rfl lm ?_
   refine go1 ?_
   (refine c_cond rfl ?_ ?_ <;> intro h)
   ·have h2 := of_decide_eq_true h
    have hroom := hre.trans (decide_eq_true ⟨h1, h2⟩)
    have hsel := selI_end hI (.inr ⟨hkO, by rw [hroom]; rfl⟩)
    rw [show selS p s t m l = (((orderS l).take k).map (·.key), true) by unfold selS; rw [hsel]; simp only [hroom]]
    refine go1 ?_
    refine ⟨[_, _], [], [(0, k)], rfl, rfl, ?_, rfl, ⟨?_, ?_, trivial⟩, ?_⟩
    ·exact ⟨by show k ≤ (((orderS l).take k).map fun e => keyM e.key).length; simp; omega, trivial⟩
    ·exact .inr ⟨rfl, rfl, by simp; omega, by simp; omega, by rw [List.map_map, List.length_map]; exact cut_all (fun e : Ent => keyM e.key) _⟩
    ·exact rv
    ·exact mm
   ·have h2 := of_decide_eq_false h
    have hroom := hre.trans (decide_eq_false fun h => h2 h.2)
    refine go1 ?_
    (refine c_cond rfl ?_ ?_ <;> intro h)
    ·have hp := of_decide_eq_true h
     have hsel := selI_end hI (.inr ⟨hkO, by rw [hroom]; simpa using hp⟩)
     rw [show selS p s t m l = ([], false) by unfold selS; rw [hsel]; simp only [hroom]]
     refine go1 ?_
     refine ⟨[_, _], [], [], rfl, rfl, trivial, rfl, ⟨?_, ?_, trivial⟩, ?_⟩
     ·exact .inr ⟨rfl, rfl⟩
     ·exact rv
     ·exact mm
    ·have hp := of_decide_eq_false h
     have hstep := selI_step hkO hI (by rw [hroom]; simpa using hp)
     refine go1 ?_
     ((with_reducible apply g_mem); (case hq => exact rfl); (case hv => exact rfl); (case he => (intro R hR; refine sms hR ?_; (refine And.intro (Nat.le_refl _) ?_; refine ⟨_, rfl, ?_⟩; refine And.intro ⟨(by simp; omega), app_ok (by kernel_rfl) pf⟩ ?_; refine ⟨((orderS l).take (k + 1)).map fun e => keyM e.key, sv (by rw [List.take_succ_eq_append_getElem hkO, List.map_append]; rfl), k + 1, sv pf, ?_⟩); exact hR)); (case hd => exact rfl))
     refine go1 ?_
     exact ⟨k + 1, ⟨by omega, hstep⟩, by show l.length - (k + 1) < l.length - k; omega, (by dsimp only; exact (vm [(0, _)] []))⟩
  ·have h1 : ¬ ((l.length : Int) + 1 - k ≤ t) := by simpa using h
   have hroom := hre.trans (decide_eq_false fun h => h1 h.1)
   refine go1 ?_
   (refine c_cond rfl ?_ ?_ <;> intro h)
   ·have hp := of_decide_eq_true h
    have hsel := selI_end hI (.inr ⟨hkO, by rw [hroom]; simpa using hp⟩)
    rw [show selS p s t m l = ([], false) by unfold selS; rw [hsel]; simp only [hroom]]
    refine go1 ?_
    refine ⟨[_, _], [], [], rfl, rfl, trivial, rfl, ⟨?_, ?_, trivial⟩, ?_⟩
    ·exact .inr ⟨rfl, rfl⟩
    ·exact rv
    ·exact mm
   ·have hp := of_decide_eq_false h
    have hstep := selI_step hkO hI (by rw [hroom]; simpa using hp)
    refine go1 ?_
    ((with_reducible apply g_mem); (case hq => exact rfl); (case hv => exact rfl); (case he => (intro R hR; refine sms hR ?_; (refine And.intro (Nat.le_refl _) ?_; refine ⟨_, rfl, ?_⟩; refine And.intro ⟨(by simp; omega), app_ok (by kernel_rfl) pf⟩ ?_; refine ⟨((orderS l).take (k + 1)).map fun e => keyM e.key, sv (by rw [List.take_succ_eq_append_getElem hkO, List.map_append]; rfl), k + 1, sv pf, ?_⟩); exact hR)); (case hd => exact rfl))
    refine go1 ?_
    exact ⟨k + 1, ⟨by omega, hstep⟩, by show l.length - (k + 1) < l.length - k; omega, (by dsimp only; exact (vm [(0, _)] []))⟩
 ·have hk' : k = l.length := by have := of_decide_eq_false h; omega
  have hsel := selI_end hI (.inl (by omega))
  refine go1 ?_
  (refine n_grd ⟨rfl, rfl, rfl⟩ ?_ ?_ <;> intro h)
  ·have h1 := of_decide_eq_true h
   refine go1 ?_
   refine g_call2 rfl hhq rfl (src (fits_c ((bytesS l : Int) - bytesS ((orderS l).take k)) (max s 0) m (by omega) (by omega) hm)) rfl lm ?_
   refine go1 ?_
   (refine c_cond rfl ?_ ?_ <;> intro h)
   ·have h2 := of_decide_eq_true h
    have hroom := hre.trans (decide_eq_true ⟨h1, h2⟩)
    rw [show selS p s t m l = (((orderS l).take k).map (·.key), true) by unfold selS; rw [hsel]; simp only [hroom]]
    refine go1 ?_
    refine ⟨[_, _], [], [(0, k)], rfl, rfl, ?_, rfl, ⟨?_, ?_, trivial⟩, ?_⟩
    ·exact ⟨by show k ≤ (((orderS l).take k).map fun e => keyM e.key).length; simp; omega, trivial⟩
    ·exact .inr ⟨rfl, rfl, by simp; omega, by simp; omega, by rw [List.map_map, List.length_map]; exact cut_all (fun e : Ent => keyM e.key) _⟩
    ·exact rv
    ·exact mm
   ·have h2 := of_decide_eq_false h
    have hroom := hre.trans (decide_eq_false fun h => h2 h.2)
    rw [show selS p s t m l = ([], false) by unfold selS; rw [hsel]; simp only [hroom]]
    refine go1 ?_
    refine ⟨[_, _], [], [], rfl, rfl, trivial, rfl, ⟨?_, ?_, trivial⟩, ?_⟩
    ·exact .inr ⟨rfl, rfl⟩
    ·exact rv
    ·exact mm
  ·have h1 : ¬ ((l.length : Int) + 1 - k ≤ t) := by simpa using h
   have hroom := hre.trans (decide_eq_false fun h => h1 h.1)
   rw [show selS p s t m l = ([], false) by unfold selS; rw [hsel]; simp only [hroom]]
   refine go1 ?_
   refine ⟨[_, _], [], [], rfl, rfl, trivial, rfl, ⟨?_, ?_, trivial⟩, ?_⟩
   ·exact .inr ⟨rfl, rfl⟩
   ·exact rv
   ·exact mm
end
section
variable {G : GS}
attribute [local irreducible] vOpsN vOpsG vOpsD vOpGD NextD vC SeqQ BlockQ
theorem keys_at {l : List (List UInt8)} {k : Nat} (hk : k < l.length) : idxL (l.map keyM) l.length (k : Int) = some (keyM l[k]) := index_at hk (by simp [hk])
def posK (k : List UInt8) : List (List UInt8) → Nat → Int
 | [], _ => -1
 | a :: r, i => if a = k then i else posK k r (i + 1)
theorem posK_spec (k : List UInt8) : ∀ (l : List (List UInt8)) (i : Nat), posK k l i = -1 ∨ ∃ j, posK k l i = ((i + j : Nat) : Int) ∧ j < l.length
 | [], _ => .inl rfl
 | a :: r, i => by
  unfold posK
  split
  ·exact .inr ⟨0, rfl, by simp⟩
  ·rcases posK_spec k r (i + 1) with h | ⟨j, h, hj⟩
   ·exact .inl h
   ·exact .inr ⟨j + 1, by rw [h]; omega, by simp; omega⟩
theorem index_m (l : List (List UInt8)) (key : List UInt8) (hl : l.length ≤ 1000000) (hk32 : key.length = 32) (hs : ∀ x ∈ l, x.length = 32) : SemC Tryz.prog G 158 [.sl l.length (l.map keyM), keyM key] (.int .i64 (posK key l 0)) := by
 generalize hr : posK key l 0 = R
 refine scq seat Tryz.func158 19 ?_
 refine go1 ?_
 refine c_loop Nat (fun k => [(9, .int .i64 k), (8, .int .i64 l.length), (7, .sl l.length (l.map keyM)), (3, .ptr 0 32 0 0 [])]) (fun _ => [(0, ⟨25, 32, false, 0, [keyM key]⟩)]) 1 (fun k => k ≤ l.length ∧ posK key (l.drop k) k = R) (fun k => l.length - k) 0 ⟨Nat.zero_le _, by rw [List.drop_zero]; exact hr⟩ (vm [(0, _)] []) ?_
 rintro k ⟨hk, hR⟩
 try dsimp only
 refine go1 ?_
 (refine c_cond rfl ?_ ?_ <;> intro h)
 ·have hk' : k < l.length := by have := of_decide_eq_true h; omega
  have hel := keys_at hk'
  have h32 := hs _ (List.getElem_mem hk')
  rw [List.drop_eq_getElem_cons hk', posK] at hR
  generalize l[k] = a at *
  have hel := SomF.mk hel
  have q1 := SomF.mk (eq_key (a := a) (b := key) (by rw [h32, hk32]))
  have s1 := SideF.mk (keySide a key)
  by_cases he : a = key
  ·rw [if_pos he] at hR
   rw [decide_eq_true he] at q1
   subst hR
   refine go1 ?_
   refine go0 ?_
   rfl
  ·rw [if_neg he] at hR
   rw [decide_eq_false he] at q1
   refine go1 ?_
   exact ⟨k + 1, ⟨by show k + 1 ≤ l.length; omega, hR⟩, by show l.length - (k + 1) < l.length - k; omega, (by dsimp only; exact (vm [(0, _)] []))⟩
 ·have hk' : k = l.length := by have := of_decide_eq_false h; omega
  subst hk'
  rw [List.drop_length, posK] at hR
  subst hR
  refine go1 ?_
  refine go0 ?_
  rfl
theorem has_m (l : List (List UInt8)) (key : List UInt8) (hl : l.length ≤ 1000000) (hk32 : key.length = 32) (hs : ∀ x ∈ l, x.length = 32) : SemC Tryz.prog G 115 [.sl l.length (l.map keyM), keyM key] (.bool (decide (0 ≤ posK key l 0))) := by
 have c1 := index_m (G := G) l key hl hk32 hs
 generalize posK key l 0 = p at *
 refine scq seat Tryz.func115 9 ?_
 refine go1 ?_
 refine g_call2 rfl hhq rfl (src (c1)) rfl lm ?_
 refine go1 ?_
 refine go0 ?_
 rfl
def dropK (k : List UInt8) (l : List (List UInt8)) : List (List UInt8) := if posK k l 0 < 0 then l else l.take (posK k l 0).toNat ++ l.drop ((posK k l 0).toNat + 1)
def pushO (k : List UInt8) (l : List (List UInt8)) (size : Int) : List (List UInt8) := if (size : Int) < (l.length : Int) + 1 then (l ++ [k]).drop 1 else l ++ [k]
def pushK (k : List UInt8) (l : List (List UInt8)) (size : Int) : List (List UInt8) := if 0 ≤ posK k l 0 then l.take (posK k l 0).toNat ++ l.drop ((posK k l 0).toNat + 1) ++ [k] else pushO k l (max 0 (min size 1024))
def Key32 (l : List (List UInt8)) : Prop := ∀ x ∈ l, x.length = 32
theorem dropK_ok {k : List UInt8} {l : List (List UInt8)} (h : Key32 l) : Key32 (dropK k l) ∧ (dropK k l).length ≤ l.length := by
 unfold dropK
 split
 ·exact ⟨h, Nat.le_refl _⟩
 ·refine ⟨fun x hx => (List.mem_append.1 hx).elim (fun hx => h x (List.mem_of_mem_take hx)) (fun hx => h x (List.mem_of_mem_drop hx)), ?_⟩
  rw [List.length_append, List.length_take, List.length_drop]
  omega
theorem pushK_ok {k : List UInt8} {l : List (List UInt8)} {size : Int} (hk : k.length = 32) (h : Key32 l) : Key32 (pushK k l size) ∧ (pushK k l size).length ≤ max l.length 1024 := by
 unfold pushK
 split
 ·rename_i hp
  rcases posK_spec k l 0 with h0 | ⟨j, hj, hlt⟩
  ·omega
  refine ⟨fun x hx => (List.mem_append.1 hx).elim (fun hx => (List.mem_append.1 hx).elim (fun hx => h x (List.mem_of_mem_take hx)) (fun hx => h x (List.mem_of_mem_drop hx))) (fun hx => by rw [List.mem_singleton.1 hx]; exact hk), ?_⟩
  rw [List.length_append, List.length_append, List.length_take, List.length_drop, List.length_singleton]
  omega
 ·unfold pushO
  have ha : Key32 (l ++ [k]) := fun x hx => (List.mem_append.1 hx).elim (h x) (fun hx => by rw [List.mem_singleton.1 hx]; exact hk)
  split
  ·refine ⟨fun x hx => ha x (List.mem_of_mem_drop hx), ?_⟩
   rw [List.length_drop, List.length_append, List.length_singleton]
   omega
  ·refine ⟨ha, ?_⟩
   rw [List.length_append, List.length_singleton]
   omega
theorem head_keys : ∀ (l : List (List UInt8)), headSize (l.map keyM) 32 = true
 | [] => rfl
 | _ :: _ => rfl
theorem without_r (l : List Ent) (j : Nat) (hj : j < l.length) (hl : l.length ≤ 1000000) : SemR Tryz.prog G 165 [.sl l.length (l.map entM), .int .i64 j] [] 0 (.sl (l.take j ++ l.drop (j + 1)).length ((l.take j ++ l.drop (j + 1)).map entM)) [] 0 := by
 have hlen : (l.take j ++ l.drop (j + 1)).length = l.length - 1 := by rw [List.length_append, List.length_take, List.length_drop]; omega
 have fb1 := SomF.mk (bndHi (n := l.length) (k := j) (κ := .i64) (by omega))
 have fb2 := SomF.mk (show bounds l.length (some (.int .i64 ((j : Int) + 1))) none = some (j + 1, l.length) from bndLo (n := l.length) (k := j + 1) (κ := .i64) (by omega))
 have fb3 := SideF.mk (head_ents l)
 refine srq seat Tryz.func165 15 ?_
 refine go1 ?_
 refine c_draw [(0, false), (1, false), (2, false), (3, false), (4, false), (5, false), (6, false), (7, false), (8, false), (9, false), (10, false)] ?_
 refine go1 ?_
 ((with_reducible apply gd_mem); (case hv => exact rfl); (case he => (intro R hR; refine sms hR ?_; refine And.intro ((by show headSize (cutL _ 0 j) 41 = true; rw [cut_take]; exact head_ents _)) ?_; refine And.intro ⟨rfl, app_ok (by kernel_rfl) pf⟩ ?_; refine ⟨(l.take j).map entM, sv (by show [] ++ cutL _ 0 j = _; rw [List.nil_append, cut_take]), j, sv pf, ?_⟩; exact hR)); (case hd => exact rfl))
 refine go1 ?_
 ((with_reducible apply gd_mem); (case hv => exact rfl); (case he => (intro R hR; refine sms hR ?_; refine And.intro ((by show headSize (cutL _ (j + 1) l.length) 41 = true; rw [cut_drop]; exact head_ents _)) ?_; refine And.intro ⟨(by simp <;> omega), app_ok (by kernel_rfl) pf⟩ ?_; refine ⟨(l.take j ++ l.drop (j + 1)).map entM, sv (by show _ ++ cutL _ (j + 1) l.length = _; rw [cut_drop, List.map_append]), (l.length - 1), sv pf, ?_⟩; exact hR)); (case hd => exact rfl))
 refine go1 ?_
 generalize l.take j ++ l.drop (j + 1) = Z at *
 rw [← hlen]
 refine ⟨[_], [], [(10, Z.length)], rfl, rfl, ?_, rfl, ⟨?_, trivial⟩, ?_⟩
 ·exact ⟨by show Z.length ≤ (Z.map entM).length; simp, trivial⟩
 ·exact .inr ⟨rfl, rfl, rfl, Nat.le_of_eq (Nat.zero_add _), cut_all entM Z⟩
 ·exact mm
theorem drop_r (l : List (List UInt8)) (key : List UInt8) (hl : l.length ≤ 1000000) (hk32 : key.length = 32) (hs : Key32 l) : SemR Tryz.prog G 164 [.sl l.length (l.map keyM), keyM key] [] 0 (.tup [.sl (dropK key l).length ((dropK key l).map keyM), .bool (decide (0 ≤ posK key l 0))]) [] 0 := by
 have c1 := index_m (G := G) l key hl hk32 hs
 unfold dropK
 rcases posK_spec key l 0 with h0 | ⟨j, hj, hlt⟩
 ·rw [h0] at c1 ⊢
  rw [if_pos (by omega), decide_eq_false (by omega)]
  refine srq seat Tryz.func164 23 ?_
  refine go1 ?_
  (iterate 4 ((all_goals (refine go1 ?_)); (all_goals (first | (refine g_call3 rfl hhq rfl (src (c1)) rfl rfl ?_) | ((first | ((with_reducible apply n_grd); (case hf => exact ⟨rfl, rfl, rfl⟩)) | ((with_reducible apply c_cond); (case he => exact rfl))); (all_goals intro h); (all_goals (try simp only [bx] at h)); (all_goals (try (exfalso; omega)))) | skip))))
  all_goals (refine go0 ?_)
  refine ⟨[_, _], [], [], rfl, rfl, trivial, rfl, ⟨?_, ?_, trivial⟩, ?_⟩
  ·exact rv
  ·exact rv
  ·exact mm
 ·rw [hj, Nat.zero_add] at c1 ⊢
  rw [if_neg (by omega), decide_eq_true (by omega), Int.toNat_natCast]
  have hlen : (l.take j ++ l.drop (j + 1)).length = l.length - 1 := by rw [List.length_append, List.length_take, List.length_drop]; omega
  have fb1 := SomF.mk (bndHi (n := l.length) (k := j) (κ := .i64) (by omega))
  have fb2 := SomF.mk (show bounds l.length (some (.int .i64 ((j : Int) + 1))) none = some (j + 1, l.length) from bndLo (n := l.length) (k := j + 1) (κ := .i64) (by omega))
  have fb3 := SideF.mk (head_keys l)
  refine srq seat Tryz.func164 23 ?_
  refine go1 ?_
  (iterate 3 ((all_goals (refine go1 ?_)); (all_goals (first | (refine g_call3 rfl hhq rfl (src (c1)) rfl rfl ?_) | ((first | ((with_reducible apply n_grd); (case hf => exact ⟨rfl, rfl, rfl⟩)) | ((with_reducible apply c_cond); (case he => exact rfl))); (all_goals intro h); (all_goals (try simp only [bx] at h)); (all_goals (try (exfalso; omega)))) | skip))))
  refine go1 ?_
  refine c_draw [(0, false), (1, false), (2, false), (3, false), (4, false), (5, false), (6, false), (7, false), (8, false), (9, false), (10, false), (11, false)] ?_
  refine go1 ?_
  ((with_reducible apply gd_mem); (case hv => exact rfl); (case he => (intro R hR; refine sms hR ?_; refine And.intro ((by show headSize (cutL _ 0 j) 32 = true; rw [cut_take]; exact head_keys _)) ?_; refine And.intro ⟨rfl, app_ok (by kernel_rfl) pf⟩ ?_; refine ⟨(l.take j).map keyM, sv (by show [] ++ cutL _ 0 j = _; rw [List.nil_append, cut_take]), j, sv pf, ?_⟩; exact hR)); (case hd => exact rfl))
  refine go1 ?_
  ((with_reducible apply gd_mem); (case hv => exact rfl); (case he => (intro R hR; refine sms hR ?_; refine And.intro ((by show headSize (cutL _ (j + 1) l.length) 32 = true; rw [cut_drop]; exact head_keys _)) ?_; refine And.intro ⟨(by simp <;> omega), app_ok (by kernel_rfl) pf⟩ ?_; refine ⟨(l.take j ++ l.drop (j + 1)).map keyM, sv (by show _ ++ cutL _ (j + 1) l.length = _; rw [cut_drop, List.map_append]), (l.length - 1), sv pf, ?_⟩; exact hR)); (case hd => exact rfl))
  refine go1 ?_
  generalize l.take j ++ l.drop (j + 1) = Z at *
  rw [← hlen]
  refine ⟨[_, _], [], [(17, Z.length)], rfl, rfl, ?_, rfl, ⟨?_, ?_, trivial⟩, ?_⟩
  ·exact ⟨by show Z.length ≤ (Z.map keyM).length; simp, trivial⟩
  ·exact .inr ⟨rfl, rfl, rfl, Nat.le_of_eq (Nat.zero_add _), cut_all keyM Z⟩
  ·exact rv
  ·exact mm
theorem push_r (l : List (List UInt8)) (size : Int) (key : List UInt8) (hl : l.length ≤ 1000000) (hsz : I64 size) (hk32 : key.length = 32) (hs : Key32 l) : SemR Tryz.prog G 160 [.sl l.length (l.map keyM), .int .i64 size, keyM key] [] 0 (.tup [.sl (pushK key l size).length ((pushK key l size).map keyM), .bool (decide (posK key l 0 < 0))]) [] 0 := by
 have c1 := index_m (G := G) l key hl hk32 hs
 unfold pushK
 have hmm : (if (if (1024 : Int) < size then 1024 else size) > 0 then (if (1024 : Int) < size then 1024 else size) else 0) = max 0 (min size 1024) := by (repeat' split) <;> omega
 generalize hM : max 0 (min size 1024) = M at *
 rcases posK_spec key l 0 with h0 | ⟨j, hj, hlt⟩
 ·rw [h0] at c1 ⊢
  rw [if_neg (by omega), decide_eq_true (by omega)]
  unfold pushO
  have hlk : (l ++ [key]).length = l.length + 1 := by simp
  have fb1 := SomF.mk (show bounds (l.length + 1) (some (.int .i64 (1 : Int))) none = some (1, l.length + 1) from bndLo (n := l.length + 1) (k := 1) (κ := .i64) (by omega))
  refine srq seat Tryz.func160 44 ?_
  refine go1 ?_
  (iterate 3 ((all_goals (refine go1 ?_)); (all_goals (first | (refine g_call3 rfl hhq rfl (src (c1)) rfl rfl ?_) | ((first | ((with_reducible apply n_grd); (case hf => exact ⟨rfl, rfl, rfl⟩)) | ((with_reducible apply c_cond); (case he => exact rfl))); (all_goals intro h); (all_goals (try simp only [bx] at h)); (all_goals (try (exfalso; omega)))) | skip))))
  refine go1 ?_
  refine c_draw [(0, false), (1, false), (2, false), (3, false), (4, false), (5, false), (6, false)] ?_
  refine go1 ?_
  ((with_reducible apply gd_mem); (case hv => exact rfl); (case he => (intro R hR; refine sms hR ?_; refine And.intro ((head_keys l)) ?_; refine And.intro ⟨rfl, app_ok (by kernel_rfl) pf⟩ ?_; refine ⟨l.map keyM, sv (by show [] ++ l.map keyM = _; rw [List.nil_append]), l.length, sv pf, ?_⟩; exact hR)); (case hd => exact rfl))
  refine go1 ?_
  ((with_reducible apply gd_mem); (case hv => exact rfl); (case he => (intro R hR; refine sms hR ?_; (refine And.intro (Nat.le_refl _) ?_; refine ⟨_, rfl, ?_⟩; refine And.intro ⟨(by simp), app_ok (by kernel_rfl) pf⟩ ?_; refine ⟨(l ++ [key]).map keyM, sv (by rw [List.map_append]; rfl), l.length + 1, sv pf, ?_⟩); exact hR)); (case hd => exact rfl))
  refine go1 ?_
  by_cases hc : M < (l.length : Int) + 1
  ·rw [if_pos hc]
   (refine c_cond rfl ?_ ?_ <;> intro h)
   rotate_left
   ·exfalso
    have h' := of_decide_eq_false h
    (repeat' split at h') <;> omega
   refine go1 ?_
   have hdl : ((l ++ [key]).drop 1).length = l.length := by rw [List.length_drop, hlk]; omega
   rw [hdl]
   refine ⟨[_, _], [], [(17, l.length + 1)], rfl, rfl, ?_, rfl, ⟨?_, ?_, trivial⟩, ?_⟩
   ·exact ⟨by show l.length + 1 ≤ ((l ++ [key]).map keyM).length; rw [List.length_map, hlk]; exact Nat.le_refl _, trivial⟩
   ·refine .inr ⟨rfl, rfl, by omega, by omega, ?_⟩
    show cutL ((l ++ [key]).map keyM) 1 (1 + l.length) = ((l ++ [key]).drop 1).map keyM
    unfold cutL
    rw [← List.map_drop]
    exact List.take_of_length_le (by rw [List.length_map, hdl]; omega)
   ·exact rv
   ·exact mm
  ·rw [if_neg hc]
   (refine c_cond rfl ?_ ?_ <;> intro h)
   ·exfalso
    have h' := of_decide_eq_true h
    (repeat' split at h') <;> omega
   refine go1 ?_
   generalize l ++ [key] = Z at *
   rw [← hlk]
   refine ⟨[_, _], [], [(17, Z.length)], rfl, rfl, ?_, rfl, ⟨?_, ?_, trivial⟩, ?_⟩
   ·exact ⟨by show Z.length ≤ (Z.map keyM).length; simp, trivial⟩
   ·exact .inr ⟨rfl, rfl, rfl, Nat.le_of_eq (Nat.zero_add _), cut_all keyM Z⟩
   ·exact rv
   ·exact mm
 ·rw [hj, Nat.zero_add] at c1 ⊢
  rw [if_pos (by omega), decide_eq_false (by omega), Int.toNat_natCast]
  have hlen : (l.take j ++ l.drop (j + 1) ++ [key]).length = l.length := by rw [List.length_append, List.length_append, List.length_take, List.length_drop, List.length_singleton]; omega
  have fb1 := SomF.mk (bndHi (n := l.length) (k := j) (κ := .i64) (by omega))
  have fb2 := SomF.mk (show bounds l.length (some (.int .i64 ((j : Int) + 1))) none = some (j + 1, l.length) from bndLo (n := l.length) (k := j + 1) (κ := .i64) (by omega))
  have fb3 := SideF.mk (head_keys l)
  refine srq seat Tryz.func160 44 ?_
  refine go1 ?_
  (iterate 3 ((all_goals (refine go1 ?_)); (all_goals (first | (refine g_call3 rfl hhq rfl (src (c1)) rfl rfl ?_) | ((first | ((with_reducible apply n_grd); (case hf => exact ⟨rfl, rfl, rfl⟩)) | ((with_reducible apply c_cond); (case he => exact rfl))); (all_goals intro h); (all_goals (try simp only [bx] at h)); (all_goals (try (exfalso; omega)))) | skip))))
  refine go1 ?_
  refine c_draw [(0, false), (1, false), (2, false), (3, false), (4, false), (5, false), (6, false), (7, false), (8, false), (9, false), (10, false), (11, false), (12, false), (13, false), (14, false)] ?_
  refine go1 ?_
  ((with_reducible apply gd_mem); (case hv => exact rfl); (case he => (intro R hR; refine sms hR ?_; refine And.intro ((by show headSize (cutL _ 0 j) 32 = true; rw [cut_take]; exact head_keys _)) ?_; refine And.intro ⟨rfl, app_ok (by kernel_rfl) pf⟩ ?_; refine ⟨(l.take j).map keyM, sv (by show [] ++ cutL _ 0 j = _; rw [List.nil_append, cut_take]), j, sv pf, ?_⟩; exact hR)); (case hd => exact rfl))
  refine go1 ?_
  ((with_reducible apply gd_mem); (case hv => exact rfl); (case he => (intro R hR; refine sms hR ?_; refine And.intro ((by show headSize (cutL _ (j + 1) l.length) 32 = true; rw [cut_drop]; exact head_keys _)) ?_; refine And.intro ⟨(by simp <;> omega), app_ok (by kernel_rfl) pf⟩ ?_; refine ⟨(l.take j ++ l.drop (j + 1)).map keyM, sv (by show _ ++ cutL _ (j + 1) l.length = _; rw [cut_drop, List.map_append]), (l.length - 1), sv pf, ?_⟩; exact hR)); (case hd => exact rfl))
  refine go1 ?_
  ((with_reducible apply gd_mem); (case hv => exact rfl); (case he => (intro R hR; refine sms hR ?_; (refine And.intro (Nat.le_refl _) ?_; refine ⟨_, rfl, ?_⟩; refine And.intro ⟨(by simp <;> omega), app_ok (by kernel_rfl) pf⟩ ?_; refine ⟨(l.take j ++ l.drop (j + 1) ++ [key]).map keyM, sv (by rw [List.map_append (l₁ := l.take j ++ l.drop (j + 1))]; rfl), l.length, sv pf, ?_⟩); exact hR)); (case hd => exact rfl))
  refine go1 ?_
  generalize l.take j ++ l.drop (j + 1) ++ [key] = Z at *
  rw [← hlen]
  refine ⟨[_, _], [], [(24, Z.length)], rfl, rfl, ?_, rfl, ⟨?_, ?_, trivial⟩, ?_⟩
  ·exact ⟨by show Z.length ≤ (Z.map keyM).length; simp, trivial⟩
  ·exact .inr ⟨rfl, rfl, rfl, Nat.le_of_eq (Nat.zero_add _), cut_all keyM Z⟩
  ·exact rv
  ·exact mm
end
section
variable {G : GS}
attribute [local irreducible] vOpsN vOpsG vOpsD vOpGD NextD vC SeqQ BlockQ
theorem nextV_lt (L : List Int) (N : Nat) (n : Int) (hn : 0 < n) : 0 ≤ nextV L N n ∧ nextV L N n < n := ⟨Int.emod_nonneg _ (by omega), Int.emod_lt_of_pos _ hn⟩
def nextN (L : List Int) (N : Nat) (n : Nat) : Nat := (nextV L N n).toNat
theorem nextN_eq (L : List Int) (N n : Nat) (hn : 0 < n) : nextV L N n = (nextN L N n : Int) ∧ nextN L N n < n := by
 have := nextV_lt L N n (by omega)
 unfold nextN
 omega
theorem next_n (L : List Int) (N n : Nat) (hn : 0 < n) (hn2 : n < 4611686018427387904) (hN : N < 4611686018427387904) :
  SemR Tryz.prog G 18 [numP, .int .i64 (n : Int)] (numB L N) 1 (.int .i64 (nextN L N n : Int)) (numB L (N + 1)) 1 := by
 have := next_r (G := G) L N n (by omega) (by omega) hN
 rw [(nextN_eq L N n hn).1] at this
 exact this
def namesL : List (List UInt8) := [[97, 110, 110], [98, 111, 98], [101, 118, 101], [122, 111, 101], [110, 101, 119], [120, 45, 49]]
def nameV (L : List Int) (N : Nat) : List UInt8 := namesL.getD (nextN L N 6) []
theorem names_at {k : Nat} (hk : k < 6) : nthM (namesL.map MV.str) (0 + k) = some (.str (namesL.getD k [])) := by
 have h6 : k = 0 ∨ k = 1 ∨ k = 2 ∨ k = 3 ∨ k = 4 ∨ k = 5 := by omega
 rcases h6 with rfl | rfl | rfl | rfl | rfl | rfl <;> rfl
theorem name_r (L : List Int) (N : Nat) (hN : N < 4611686018427387904) : SemR Tryz.prog G 83 [numP] (numB L N) 1 (.str (nameV L N)) (numB L (N + 1)) 1 := by
 have h6 := (nextN_eq L N 6 (by omega)).2
 have cn := next_n (G := G) L N 6 (by omega) (by omega) hN
 have f1 := SomF.mk (idx_at h6)
 have f2 := SomF.mk (show nthM [MV.str [97, 110, 110], MV.str [98, 111, 98], MV.str [101, 118, 101], MV.str [122, 111, 101], MV.str [110, 101, 119], MV.str [120, 45, 49]] (0 + nextN L N 6) = some (.str (namesL.getD (nextN L N 6) [])) from names_at h6)
 unfold nameV
 generalize nextN L N 6 = x at *
 generalize namesL.getD x [] = nm at *
 refine srq seat Tryz.func83 8 ?_
 refine go1 ?_
 refine g_callR1 rfl hhq rfl (cn) [(0, 0)] [] ⟨rfl, trivial, rfl, lm, mm⟩ rfl rfl ?_
 refine go1 ?_
 refine ⟨[_], [], [], rfl, rfl, trivial, rfl, ⟨?_, trivial⟩, ?_⟩
 ·exact rv
 ·exact mm
theorem from_r (L : List Int) : SemR Tryz.prog G 24 [intsM L] [] 0 numP (numB L 0) 1 := by
 refine srq seat Tryz.func24 6 ?_
 refine go1 ?_
 refine ⟨[_], [(0, 3)], [], rfl, rfl, trivial, rfl, ⟨?_, trivial⟩, ?_⟩
 ·exact rv
 ·exact mm
theorem conv8n (k : Nat) : IntKind.u8.wrap (k : Int) = ((UInt8.ofNat k).toNat : Int) := by
 rw [w8, UInt8.toNat_ofNat']
 exact (Int.natCast_emod _ 256).symm
def memosL : List (List UInt8) := [[], [], [], [114, 101, 110, 116], [195, 169, 228, 184, 150], [97, 10, 98], [116, 104, 97, 110, 107, 115, 32, 102, 111, 114, 32, 97, 108, 108, 32, 116, 104, 101, 32, 102, 105, 115, 104, 44, 32, 97, 110, 100, 32, 102, 111, 114, 32, 116, 104, 101, 32, 99, 104, 105, 112, 115]]
def memoV (L : List Int) (N : Nat) : List UInt8 := memosL.getD (nextN L N 7) []
theorem memos_at {k : Nat} (hk : k < 7) : nthM (memosL.map MV.str) (0 + k) = some (.str (memosL.getD k [])) := by
 have h6 : k = 0 ∨ k = 1 ∨ k = 2 ∨ k = 3 ∨ k = 4 ∨ k = 5 ∨ k = 6 := by omega
 rcases h6 with rfl | rfl | rfl | rfl | rfl | rfl | rfl <;> rfl
theorem nameV_len (L : List Int) (N : Nat) : (nameV L N).length ≤ 5 := by
 have h := (nextN_eq L N 6 (by omega)).2
 unfold nameV
 generalize nextN L N 6 = k at *
 have h6 : k = 0 ∨ k = 1 ∨ k = 2 ∨ k = 3 ∨ k = 4 ∨ k = 5 := by omega
 rcases h6 with rfl | rfl | rfl | rfl | rfl | rfl <;> decide
theorem memoV_len (L : List Int) (N : Nat) : (memoV L N).length ≤ 50 := by
 have h := (nextN_eq L N 7 (by omega)).2
 unfold memoV
 generalize nextN L N 7 = k at *
 have h6 : k = 0 ∨ k = 1 ∨ k = 2 ∨ k = 3 ∨ k = 4 ∨ k = 5 ∨ k = 6 := by omega
 rcases h6 with rfl | rfl | rfl | rfl | rfl | rfl | rfl <;> decide
theorem memo_r (L : List Int) (N : Nat) (hN : N < 4611686018427387904) : SemR Tryz.prog G 84 [numP] (numB L N) 1 (.str (memoV L N)) (numB L (N + 1)) 1 := by
 have h7 := (nextN_eq L N 7 (by omega)).2
 have cn := next_n (G := G) L N 7 (by omega) (by omega) hN
 have f1 := SomF.mk (idx_at h7)
 have f2 := SomF.mk (memos_at h7)
 unfold memosL at f2
 simp only [List.map_cons, List.map_nil] at f2
 unfold memoV memosL
 generalize nextN L N 7 = x at *
 generalize List.getD _ x [] = nm at *
 refine srq seat Tryz.func84 8 ?_
 refine go1 ?_
 refine g_callR1 rfl hhq rfl (cn) [(0, 0)] [] ⟨rfl, trivial, rfl, lm, mm⟩ rfl rfl ?_
 refine go1 ?_
 refine ⟨[_], [], [], rfl, rfl, trivial, rfl, ⟨?_, trivial⟩, ?_⟩
 ·exact rv
 ·exact mm
end
section
variable {G : GS}
def xferS (L : List Int) (N : Nat) : TrS := ⟨nameV L N, if nextN L (N + 2) 12 = 0 then 9223372036854775808 else 1 + nextN L (N + 1) 60⟩
def xsS (L : List Int) (N j : Nat) : List TrS := (List.range j).map fun i => xferS L (N + 3 * i)
theorem xsS_succ (L : List Int) (N j : Nat) : xsS L N (j + 1) = xsS L N j ++ [xferS L (N + 3 * j)] := by unfold xsS; rw [List.range_succ, List.map_append]; rfl
theorem xsS_len (L : List Int) (N j : Nat) : (xsS L N j).length = j := by simp [xsS]
theorem xferS_sm (L : List Int) (N : Nat) : SmTr (xferS L N) := by
 have h := (nextN_eq L (N + 1) 60 (by omega)).2
 refine ⟨Nat.le_trans (nameV_len L N) (by omega), ?_⟩
 unfold xferS U64
 dsimp only
 split <;> omega
theorem xsS_sm (L : List Int) (N j : Nat) : ∀ x ∈ xsS L N j, SmTr x := by
 intro x hx
 obtain ⟨i, _, rfl⟩ := List.mem_map.1 hx
 exact xferS_sm L _
def tx1 (L : List Int) (N : Nat) (acs : List AcS) : List UInt8 × Nat × Nat :=
 if acs.length = 0 then (nameV L N, 0, N + 3) else if nextN L (N + 3) 8 = 0 then (nameV L N, 0, N + 4) else ((acs.getD (nextN L (N + 4) acs.length) ac0).name, (acs.getD (nextN L (N + 4) acs.length) ac0).seq, N + 5)
def tx2 (L : List Int) (N sq : Nat) : Nat × Nat := if nextN L N 6 = 0 then ((sq + nextN L (N + 1) 3) % 18446744073709551616, N + 2) else (sq, N + 1)
def tx3 (L : List Int) (N fee : Nat) : Nat × Nat := if nextN L N 9 = 0 then (nextN L (N + 1) 200, N + 2) else (fee, N + 1)
def txG (L : List Int) (N : Nat) (acs : List AcS) (price : Nat) : TxS × Nat :=
 let a := tx1 L N acs
 let b := tx2 L a.2.2 a.2.1
 let gas := 150 + nextN L (N + 1) 6 * 40
 let fee := gas * price % 18446744073709551616 * (1 + nextN L b.2 5) % 18446744073709551616
 let c := tx3 L (b.2 + 1) fee
 let m := nextN L c.2 3
 (⟨a.1, b.1, gas, c.1, memoV L (N + 2), xsS L (c.2 + 1) (m + 1)⟩, c.2 + 1 + 3 * (m + 1))
theorem tx1_ok {L : List Int} {N : Nat} {acs : List AcS} (h : ∀ a ∈ acs, SmAc a) : (tx1 L N acs).1.length ≤ 5000 ∧ U64 (tx1 L N acs).2.1 ∧ (tx1 L N acs).2.2 ≤ N + 5 := by
 have hn := nameV_len L N
 unfold tx1
 split
 ·exact ⟨by dsimp only; omega, by simp [U64], by dsimp only; omega⟩
 ·split
  ·exact ⟨by dsimp only; omega, by simp [U64], by dsimp only; omega⟩
  ·have ha : SmAc (acs.getD (nextN L (N + 4) acs.length) ac0) := by
    rw [List.getD_eq_getElem?_getD]
    cases hx : acs[nextN L (N + 4) acs.length]? with
    | none => exact ⟨by simp [ac0], by simp [ac0, U64], by simp [ac0, U64]⟩
    | some x => exact h x (List.mem_of_getElem? hx)
   exact ⟨ha.1, ha.2.2, by dsimp only; omega⟩
theorem tx2_ok {L : List Int} {N sq : Nat} (h : U64 sq) : U64 (tx2 L N sq).1 ∧ (tx2 L N sq).2 ≤ N + 2 := by
 unfold tx2
 split
 ·exact ⟨mod_u64, by dsimp only; omega⟩
 ·exact ⟨h, by dsimp only; omega⟩
theorem tx3_ok {L : List Int} {N fee : Nat} (h : U64 fee) : U64 (tx3 L N fee).1 ∧ (tx3 L N fee).2 ≤ N + 2 := by
 have hx := (nextN_eq L (N + 1) 200 (by omega)).2
 unfold tx3
 split
 ·exact ⟨by unfold U64; dsimp only; omega, by dsimp only; omega⟩
 ·exact ⟨h, by dsimp only; omega⟩
theorem txG_ok {L : List Int} {N : Nat} {acs : List AcS} {price : Nat} (h : ∀ a ∈ acs, SmAc a) : SmTx (txG L N acs price).1 ∧ (txG L N acs price).2 ≤ N + 20 := by
 have h1 := tx1_ok (L := L) (N := N) h
 have h2 := tx2_ok (L := L) (N := (tx1 L N acs).2.2) h1.2.1
 unfold txG
 dsimp only
 have h3 := tx3_ok (L := L) (N := (tx2 L (tx1 L N acs).2.2 (tx1 L N acs).2.1).2 + 1) (fee := (150 + nextN L (N + 1) 6 * 40) * price % 18446744073709551616 * (1 + nextN L (tx2 L (tx1 L N acs).2.2 (tx1 L N acs).2.1).2 5) % 18446744073709551616) mod_u64
 have hg := (nextN_eq L (N + 1) 6 (by omega)).2
 generalize tx3 L _ _ = c at *
 have hm := (nextN_eq L c.2 3 (by omega)).2
 have hml := memoV_len L (N + 2)
 exact ⟨⟨h1.1, h2.1, by unfold U64; dsimp only; omega, h3.1, by dsimp only; omega, by dsimp only; rw [xsS_len]; omega, xsS_sm L _ _⟩, by omega⟩
abbrev txZ : MV := .st [.str [], .int .u64 0, .int .u64 0, .int .u64 0, .str [], .nils]
theorem mul_w (a b : Nat) : IntKind.u64.wrap ((a : Int) * (b : Int)) = ((a * b % 18446744073709551616 : Nat) : Int) := by
 rw [wu64, ← Int.natCast_mul]; omega
theorem add_w (a b : Nat) : IntKind.u64.wrap ((a : Int) + (b : Int)) = (((a + b) % 18446744073709551616 : Nat) : Int) := by rw [wu64]; omega
theorem mkTx_r (L : List Int) (N : Nat) (l : LgS) (price : Nat) (hN : N < 4000000000000000000) (hl : SmLg l) (_hp : U64 price) : SemR Tryz.prog G 49 [numP, lgM l, .int .u64 price] (numB L N) 1 (txM (txG L N l.acs price).1) (numB L (txG L N l.acs price).2) 1 := by
 obtain ⟨acs, col⟩ := l
 obtain ⟨hl1, hl2, hl3⟩ := hl
 have k1 := tx1_ok (L := L) (N := N) hl3
 have k2 := tx2_ok (L := L) (N := (tx1 L N acs).2.2) k1.2.1
 dsimp only at hl1 hl2 hl3 k1
 unfold txG
 dsimp only
 have cn0 := name_r (G := G) L N (by omega)
 have cn1 := next_n (G := G) L (N + 1) 6 (by omega) (by omega) (by omega)
 have b1 := (nextN_eq L (N + 1) 6 (by omega)).2
 have cn2 := memo_r (G := G) L (N + 2) (by omega)
 generalize htx1 : tx1 L N acs = a at *
 obtain ⟨snd, sq, N1⟩ := a
 dsimp only at *
 generalize htx2 : tx2 L N1 sq = b at *
 obtain ⟨sq2, N2⟩ := b
 dsimp only at *
 generalize hx1 : nextN L (N + 1) 6 = x1 at *
 generalize hmemo : memoV L (N + 2) = memo at *
 unfold txM lgM
 dsimp only
 refine srq seat Tryz.func49 96 ?_
 refine go1 ?_
 refine g_callR1 rfl hhq rfl (cn0) [(0, 0)] [] ⟨rfl, trivial, rfl, lm, mm⟩ rfl rfl ?_
 refine go1 ?_
 refine g_callR1 rfl hhq rfl (cn1) [(0, 0)] [] ⟨rfl, trivial, rfl, lm, mm⟩ rfl rfl ?_
 refine go1 ?_
 refine g_callR1 rfl hhq rfl (cn2) [(0, 0)] [] ⟨rfl, trivial, rfl, lm, mm⟩ rfl rfl ?_
 refine go1 ?_
 refine q_joinN Unit (fun _ => [(0, numP), (2, .int .u64 price), (6, .ptr 1 6 0 0 []), (7, .ptr 2 6 0 0 [])]) (fun _ => numB L N1 ++ [(1, ⟨114, 6, false, 0, [txZ]⟩), (2, ⟨114, 6, false, 0, [.st [.str snd, .int .u64 sq, .int .u64 (150 + (x1 : Int) * 40), .int .u64 0, .str memo, .nils]]⟩)]) (fun _ => 3) (fun _ => True) (fun JQ hj => ?_) (fun _ _ => ?_)
 ·by_cases h0 : acs.length = 0
  ·unfold tx1 at htx1
   rw [if_pos h0] at htx1
   simp only [Prod.mk.injEq] at htx1
   obtain ⟨rfl, rfl, rfl⟩ := htx1
   (refine n_grd ⟨rfl, rfl, rfl⟩ ?_ ?_ <;> intro h)
   ·exact absurd (of_decide_eq_true h) (by omega)
   refine go1 ?_
   exact hj.nrm () trivial (vm [(1, _), (2, _)] [])
  ·have cn3 := next_n (G := G) L (N + 3) 8 (by omega) (by omega) (by omega)
   unfold tx1 at htx1
   rw [if_neg h0] at htx1
   generalize hx3 : nextN L (N + 3) 8 = x3 at *
   (refine n_grd ⟨rfl, rfl, rfl⟩ ?_ ?_ <;> intro h)
   rotate_left
   ·exact absurd (of_decide_eq_false h) (by omega)
   refine go1 ?_
   refine g_callR1 rfl hhq rfl (cn3) [(0, 0)] [] ⟨rfl, trivial, rfl, lm, mm⟩ rfl rfl ?_
   refine go1 ?_
   by_cases h3 : x3 = 0
   ·rw [if_pos h3] at htx1
    simp only [Prod.mk.injEq] at htx1
    obtain ⟨rfl, rfl, rfl⟩ := htx1
    (refine c_cond rfl ?_ ?_ <;> intro h)
    ·exact absurd (of_decide_eq_true h) (by omega)
    refine go1 ?_
    exact hj.nrm () trivial (vm [(1, _), (2, _)] [])
   ·rw [if_neg h3] at htx1
    have cn4 := next_n (G := G) L (N + 4) acs.length (by omega) (by omega) (by omega)
    have b4 := (nextN_eq L (N + 4) acs.length (by omega)).2
    generalize hx4 : nextN L (N + 4) acs.length = x4 at *
    have hel := acs_at b4
    have hgd : acs.getD x4 ac0 = acs[x4] := by simp [b4]
    rw [hgd] at htx1
    clear hgd
    generalize acs[x4] = a at *
    obtain ⟨an, ab, asq⟩ := a
    replace hel : idxL (acs.map acM) acs.length (x4 : Int) = some (.st [.str an, .int .u64 ab, .int .u64 asq]) := hel
    have hel := SomF.mk hel
    simp only [Prod.mk.injEq] at htx1
    obtain ⟨rfl, rfl, rfl⟩ := htx1
    (refine c_cond rfl ?_ ?_ <;> intro h)
    rotate_left
    ·exact absurd (of_decide_eq_false h) (by omega)
    refine go1 ?_
    refine c_draw [(0, false), (1, false), (2, false), (3, false), (4, true), (5, false), (6, false), (7, false), (8, false)] ?_
    refine go1 ?_
    refine gd_callR1 rfl hhq rfl [0] (cn4) [(0, 0)] [] ⟨rfl, trivial, rfl, lm, mm⟩ rfl rfl rfl rfl ?_
    refine go1 ?_
    refine c_draw [(0, false), (1, false), (2, false), (3, false), (4, false), (5, false), (6, false), (7, false)] ?_
    refine go1 ?_
    exact hj.nrm () trivial (vm [(1, _), (2, _)] [])
 ·have cn5 := next_n (G := G) L N1 6 (by omega) (by omega) (by omega)
  have cn6 := next_n (G := G) L (N1 + 1) 3 (by omega) (by omega) (by omega)
  have b6 := (nextN_eq L (N1 + 1) 3 (by omega)).2
  unfold tx2 at htx2
  generalize hx5 : nextN L N1 6 = x5 at *
  generalize hx6 : nextN L (N1 + 1) 3 = x6 at *
  have ea := EqF.mk (add_w sq x6)
  refine go1 ?_
  refine g_callR1 rfl hhq rfl (cn5) [(0, 0)] [] ⟨rfl, trivial, rfl, lm, mm⟩ rfl rfl ?_
  refine go1 ?_
  refine q_join Unit (fun _ => [(0, numP), (2, .int .u64 price), (6, .ptr 1 6 0 0 []), (7, .ptr 2 6 0 0 [])]) (fun _ => numB L N2 ++ [(1, ⟨114, 6, false, 0, [txZ]⟩), (2, ⟨114, 6, false, 0, [.st [.str snd, .int .u64 sq2, .int .u64 (150 + (x1 : Int) * 40), .int .u64 0, .str memo, .nils]]⟩)]) (fun _ => 3) (fun _ => True) (fun JQ hj => ?_) (fun _ _ => ?_)
  ·by_cases h5 : x5 = 0
   ·rw [if_pos h5] at htx2
    simp only [Prod.mk.injEq] at htx2
    obtain ⟨rfl, rfl⟩ := htx2
    (refine c_cond rfl ?_ ?_ <;> intro h)
    rotate_left
    ·exact absurd h (by simp [h5])
    refine go1 ?_
    refine c_draw [(0, false), (1, false), (2, false), (3, true), (4, false), (5, false), (6, false), (7, false)] ?_
    refine go1 ?_
    refine gd_callR1 rfl hhq rfl [0] (cn6) [(0, 0)] [] ⟨rfl, trivial, rfl, lm, mm⟩ rfl rfl rfl rfl ?_
    refine go1 ?_
    exact hj.nrm () trivial (vm [(1, _), (2, _)] [])
   ·rw [if_neg h5] at htx2
    simp only [Prod.mk.injEq] at htx2
    obtain ⟨rfl, rfl⟩ := htx2
    (refine c_cond rfl ?_ ?_ <;> intro h)
    ·exfalso
     have : (x5 : Int) = 0 := by simpa using h
     omega
    refine go1 ?_
    exact hj.nrm () trivial (vm [(1, _), (2, _)] [])
  ·have k3 := tx3_ok (L := L) (N := N2 + 1) (fee := (150 + x1 * 40) * price % 18446744073709551616 * (1 + nextN L N2 5) % 18446744073709551616) mod_u64
   have cn7 := next_n (G := G) L N2 5 (by omega) (by omega) (by omega)
   have cn8 := next_n (G := G) L (N2 + 1) 9 (by omega) (by omega) (by omega)
   have cn9 := next_n (G := G) L (N2 + 1 + 1) 200 (by omega) (by omega) (by omega)
   have b7 := (nextN_eq L N2 5 (by omega)).2
   have b9 := (nextN_eq L (N2 + 1 + 1) 200 (by omega)).2
   generalize hx7 : nextN L N2 5 = x7 at *
   generalize hfee : (150 + x1 * 40) * price % 18446744073709551616 = f0 at *
   have em1 := EqF.mk (show IntKind.u64.wrap ((150 + (x1 : Int) * 40) * (price : Int)) = (f0 : Int) by rw [← hfee, ← mul_w]; rfl)
   have em2 := EqF.mk (show IntKind.u64.wrap ((f0 : Int) * (1 + (x7 : Int))) = ((f0 * (1 + x7) % 18446744073709551616 : Nat) : Int) by rw [← mul_w]; rfl)
   generalize f0 * (1 + x7) % 18446744073709551616 = f1 at *
   generalize htx3 : tx3 L (N2 + 1) f1 = c at *
   obtain ⟨fee, N3⟩ := c
   dsimp only at *
   unfold tx3 at htx3
   generalize hx8 : nextN L (N2 + 1) 9 = x8 at *
   generalize hx9 : nextN L (N2 + 1 + 1) 200 = x9 at *
   refine go1 ?_
   refine c_draw [(0, false), (1, false), (2, false), (3, false), (4, false), (5, true), (6, false), (7, false), (8, false), (9, false), (10, false)] ?_
   refine go1 ?_
   refine gd_callR1 rfl hhq rfl [0] (cn7) [(0, 0)] [] ⟨rfl, trivial, rfl, lm, mm⟩ rfl rfl rfl rfl ?_
   refine go1 ?_
   refine g_callR1 rfl hhq rfl (cn8) [(0, 0)] [] ⟨rfl, trivial, rfl, lm, mm⟩ rfl rfl ?_
   refine go1 ?_
   refine q_join Unit (fun _ => [(0, numP), (6, .ptr 1 6 0 0 []), (7, .ptr 2 6 0 0 [])]) (fun _ => numB L N3 ++ [(1, ⟨114, 6, false, 0, [txZ]⟩), (2, ⟨114, 6, false, 0, [.st [.str snd, .int .u64 sq2, .int .u64 (150 + (x1 : Int) * 40), .int .u64 fee, .str memo, .nils]]⟩)]) (fun _ => 3) (fun _ => True) (fun JQ hj => ?_) (fun _ _ => ?_)
   ·by_cases h8 : x8 = 0
    ·rw [if_pos h8] at htx3
     simp only [Prod.mk.injEq] at htx3
     obtain ⟨rfl, rfl⟩ := htx3
     (refine c_cond rfl ?_ ?_ <;> intro h)
     rotate_left
     ·exact absurd h (by simp [h8])
     refine go1 ?_
     refine g_callR1 rfl hhq rfl (cn9) [(0, 0)] [] ⟨rfl, trivial, rfl, lm, mm⟩ rfl rfl ?_
     refine go1 ?_
     exact hj.nrm () trivial (vm [(1, _), (2, _)] [])
    ·rw [if_neg h8] at htx3
     simp only [Prod.mk.injEq] at htx3
     obtain ⟨rfl, rfl⟩ := htx3
     (refine c_cond rfl ?_ ?_ <;> intro h)
     ·exfalso
      have : (x8 : Int) = 0 := by simpa using h
      omega
     refine go1 ?_
     exact hj.nrm () trivial (vm [(1, _), (2, _)] [])
   ·have cna := next_n (G := G) L N3 3 (by omega) (by omega) (by omega)
    have ba := (nextN_eq L N3 3 (by omega)).2
    generalize hxa : nextN L N3 3 = m at *
    generalize hN4 : N3 + 1 = N4 at *
    have hN4b : N4 < 4300000000000000000 := by omega
    clear em1 em2 hx7 hx8 hx9 cn7 cn8 cn9 k3 k1 k2
    refine go1 ?_
    refine g_callR1 rfl hhq rfl (cna) [(0, 0)] [] ⟨rfl, trivial, rfl, lm, mm⟩ rfl rfl ?_
    refine go1 ?_
    refine c_loop Nat (fun j => [(10, .int .i64 ((m : Int) - j)), (0, numP), (6, .ptr 1 6 0 0 []), (7, .ptr 2 6 0 0 [])]) (fun j => numB L (N4 + 3 * j) ++ [(1, ⟨114, 6, false, 0, [txZ]⟩), (2, ⟨114, 6, false, 0, [.st [.str snd, .int .u64 sq2, .int .u64 (150 + (x1 : Int) * 40), .int .u64 fee, .str memo, .ms 3 2 0 j]]⟩), (3, ⟨159, 2, true, 0, (xsS L N4 j).map trM⟩)]) 4 (fun j => j ≤ m + 1) (fun j => m + 1 - j) 0 (Nat.zero_le _) (vm [(1, _), (2, _)] []) ?_
    intro j hj
    try dsimp only
    refine go1 ?_
    (refine c_cond rfl ?_ ?_ <;> intro h)
    ·have hj' : j < m + 1 := by have := of_decide_eq_true h; omega
     have d0 := name_r (G := G) L (N4 + 3 * j) (by omega)
     have d1 := next_n (G := G) L (N4 + 3 * j + 1) 60 (by omega) (by omega) (by omega)
     have d2 := next_n (G := G) L (N4 + 3 * j + 1 + 1) 12 (by omega) (by omega) (by omega)
     have hb1 := (nextN_eq L (N4 + 3 * j + 1) 60 (by omega)).2
     have hsucc := xsS_succ L N4 j
     have hll : ((xsS L N4 j).map trM).length = j := by rw [List.length_map, xsS_len]
     have hxf : xferS L (N4 + 3 * j) = ⟨nameV L (N4 + 3 * j), if nextN L (N4 + 3 * j + 1 + 1) 12 = 0 then 9223372036854775808 else 1 + nextN L (N4 + 3 * j + 1) 60⟩ := rfl
     have hN5 : N4 + 3 * (j + 1) = N4 + 3 * j + 1 + 1 + 1 := by omega
     rw [hxf] at hsucc
     generalize nextN L (N4 + 3 * j + 1 + 1) 12 = y2 at *
     generalize nextN L (N4 + 3 * j + 1) 60 = y1 at *
     generalize nameV L (N4 + 3 * j) = nm at *
     clear hxf
     refine go1 ?_
     refine g_callR1 rfl hhq rfl (d0) [(0, 0)] [] ⟨rfl, trivial, rfl, lm, mm⟩ rfl rfl ?_
     refine go1 ?_
     refine g_callR1 rfl hhq rfl (d1) [(0, 0)] [] ⟨rfl, trivial, rfl, lm, mm⟩ rfl rfl ?_
     refine go1 ?_
     refine g_callR1 rfl hhq rfl (d2) [(0, 0)] [] ⟨rfl, trivial, rfl, lm, mm⟩ rfl rfl ?_
     refine go1 ?_
     by_cases hy : y2 = 0
     ·rw [if_pos hy] at hsucc
      (refine c_cond rfl ?_ ?_ <;> intro h)
      rotate_left
      ·exact absurd h (by simp [hy])
      refine go1 ?_
      ((with_reducible apply g_mem); (case hq => exact rfl); (case hv => exact rfl); (case he => (intro R hR; refine sms hR ?_; (refine And.intro (Nat.le_refl _) ?_; refine ⟨_, rfl, ?_⟩; refine And.intro ⟨hll, app_ok (by kernel_rfl) pf⟩ ?_; refine ⟨(xsS L N4 (j + 1)).map trM, sv (by rw [hsucc, List.map_append]; rfl), j + 1, sv pf, ?_⟩); exact hR)); (case hd => exact rfl))
      refine go1 ?_
      exact ⟨j + 1, by show j + 1 ≤ m + 1; omega, by show m + 1 - (j + 1) < m + 1 - j; omega, (by dsimp only; rw [hN5]; exact (vm [(1, _), (2, _), (3, _)] []))⟩
     ·rw [if_neg hy] at hsucc
      (refine c_cond rfl ?_ ?_ <;> intro h)
      ·exfalso
       have : (y2 : Int) = 0 := by simpa using h
       omega
      refine go1 ?_
      ((with_reducible apply g_mem); (case hq => exact rfl); (case hv => exact rfl); (case he => (intro R hR; refine sms hR ?_; (refine And.intro (Nat.le_refl _) ?_; refine ⟨_, rfl, ?_⟩; refine And.intro ⟨hll, app_ok (by kernel_rfl) pf⟩ ?_; refine ⟨(xsS L N4 (j + 1)).map trM, sv (by rw [hsucc, List.map_append]; rfl), j + 1, sv pf, ?_⟩); exact hR)); (case hd => exact rfl))
      refine go1 ?_
      exact ⟨j + 1, by show j + 1 ≤ m + 1; omega, by show m + 1 - (j + 1) < m + 1 - j; omega, (by dsimp only; rw [hN5]; exact (vm [(1, _), (2, _), (3, _)] []))⟩
    ·have hj' : j = m + 1 := by have := of_decide_eq_false h; omega
     subst hj'
     have hll := xsS_len L N4 (m + 1)
     generalize xsS L N4 (m + 1) = xs at *
     rw [← hll]
     refine go1 ?_
     refine go0 ?_
     refine ⟨[_], [], [(3, xs.length)], rfl, rfl, ?_, rfl, ⟨?_, trivial⟩, ?_⟩
     ·exact ⟨by show xs.length ≤ (xs.map trM).length; simp, trivial⟩
     ·exact .inr ⟨_, rfl, ⟨⟨rfl, rfl⟩, ⟨rfl, rfl⟩, ⟨congrArg (MV.int _) (by omega), rfl⟩, ⟨rfl, rfl⟩, ⟨rfl, rfl⟩, .inr ⟨rfl, rfl, rfl, Nat.le_of_eq (Nat.zero_add _), cut_all trM xs⟩, trivial⟩⟩
     ·exact mm
end
section
variable {G : GS}
attribute [local irreducible] vOpsN vOpsG vOpsD vOpGD NextD vC SeqQ BlockQ
theorem encodeS_len (t : TxS) : (encodeS t).1.length ≤ 4096 := by
 unfold encodeS
 split
 ·simp
 ·split
  ·simp
  ·dsimp only; omega
def rawB (L : List Int) (N : Nat) (raw : List UInt8) : List UInt8 × Nat :=
 if raw.length = 0 then (raw, N) else if nextN L N 12 ≠ 0 then (raw, N + 1) else if nextN L (N + 2) 2 = 0 then (raw.take (nextN L (N + 1) raw.length), N + 3) else (raw.set (nextN L (N + 1) raw.length) (UInt8.ofNat (nextN L (N + 3) 256)), N + 4)
def rawG (L : List Int) (N : Nat) (acs : List AcS) (price : Nat) : List UInt8 × Nat := rawB L (txG L N acs price).2 (encodeS (txG L N acs price).1).1
theorem rawB_ok (L : List Int) (N : Nat) (raw : List UInt8) : (rawB L N raw).1.length ≤ raw.length ∧ (rawB L N raw).2 ≤ N + 4 := by
 unfold rawB
 (repeat' split) <;> refine ⟨?_, ?_⟩ <;> dsimp only <;> first | omega | (rw [List.length_take]; omega) | (rw [List.length_set]; omega)
theorem rawG_ok {L : List Int} {N : Nat} {acs : List AcS} {price : Nat} (h : ∀ a ∈ acs, SmAc a) : (rawG L N acs price).1.length ≤ 4096 ∧ (rawG L N acs price).2 ≤ N + 24 := by
 have h1 := txG_ok (L := L) (N := N) (price := price) h
 have h2 := encodeS_len (txG L N acs price).1
 have h3 := rawB_ok L (txG L N acs price).2 (encodeS (txG L N acs price).1).1
 unfold rawG
 omega
theorem raw_r (L : List Int) (N : Nat) (l : LgS) (price : Nat) (hN : N < 4000000000000000000) (hl : SmLg l) (hp : U64 price) : SemR Tryz.prog G 26 [numP, lgM l, .int .u64 price] (numB L N) 1 (.sl (rawG L N l.acs price).1.length (u8s (rawG L N l.acs price).1)) (numB L (rawG L N l.acs price).2) 1 := by
 have c1 := mkTx_r (G := G) L N l price hN hl hp
 have hk := txG_ok (L := L) (N := N) (price := price) hl.2.2
 have c2 := encode_r (G := G) (txG L N l.acs price).1 hk.1
 have hel := encodeS_len (txG L N l.acs price).1
 unfold rawG
 obtain ⟨acs, col⟩ := l
 dsimp only at *
 generalize txG L N acs price = T at *
 obtain ⟨t, N1⟩ := T
 obtain ⟨snd, seq, gas, fee, memo, trs⟩ := t
 dsimp only at *
 generalize encodeS ⟨snd, seq, gas, fee, memo, trs⟩ = en at *
 obtain ⟨raw, e⟩ := en
 dsimp only at *
 unfold txM lgM at *
 dsimp only at *
 replace hk := hk.2
 have cn1 := next_n (G := G) L N1 12 (by omega) (by omega) (by omega)
 generalize hr : rawB L N1 raw = R
 obtain ⟨Rr, RN⟩ := R
 dsimp only
 unfold rawB at hr
 refine srq seat Tryz.func26 46 ?_
 refine go1 ?_
 refine g_callR1 rfl hhq rfl (c1) [(0, 0)] [] ⟨rfl, trivial, rfl, lm, mm⟩ rfl rfl ?_
 refine go1 ?_
 refine g_call2 rfl hhq rfl (c2) rfl lm ?_
 refine go1 ?_
 by_cases h0 : raw.length = 0
 ·rw [if_pos h0] at hr
  simp only [Prod.mk.injEq] at hr
  obtain ⟨rfl, rfl⟩ := hr
  (refine n_grd ⟨rfl, rfl, rfl⟩ ?_ ?_ <;> intro h)
  ·exact absurd (of_decide_eq_true h) (by omega)
  refine go1 ?_
  refine go0 ?_
  refine ⟨[_], [], [], rfl, rfl, trivial, rfl, ⟨?_, trivial⟩, ?_⟩
  ·exact rv
  ·exact mm
 rw [if_neg h0] at hr
 have cn2 := next_n (G := G) L (N1 + 1) raw.length (by omega) (by omega) (by omega)
 have b2 := (nextN_eq L (N1 + 1) raw.length (by omega)).2
 have cn3 := next_n (G := G) L (N1 + 1 + 1) 2 (by omega) (by omega) (by omega)
 have cn4 := next_n (G := G) L (N1 + 1 + 1 + 1) 256 (by omega) (by omega) (by omega)
 rw [show N1 + 2 = N1 + 1 + 1 from rfl, show N1 + 3 = N1 + 1 + 1 + 1 from rfl, show N1 + 4 = N1 + 1 + 1 + 1 + 1 from rfl] at hr
 generalize nextN L N1 12 = x1 at *
 generalize nextN L (N1 + 1) raw.length = x2 at *
 generalize nextN L (N1 + 1 + 1) 2 = x3 at *
 generalize nextN L (N1 + 1 + 1 + 1) 256 = x4 at *
 (refine n_grd ⟨rfl, rfl, rfl⟩ ?_ ?_ <;> intro h)
 rotate_left
 ·exact absurd (of_decide_eq_false h) (by omega)
 refine go1 ?_
 refine g_callR1 rfl hhq rfl (cn1) [(0, 0)] [] ⟨rfl, trivial, rfl, lm, mm⟩ rfl rfl ?_
 refine go1 ?_
 by_cases h1 : x1 = 0
 ·rw [if_neg (by simp [h1])] at hr
  (refine c_cond rfl ?_ ?_ <;> intro h)
  rotate_left
  ·exact absurd h (by simp [h1])
  refine go1 ?_
  refine g_callR1 rfl hhq rfl (cn2) [(0, 0)] [] ⟨rfl, trivial, rfl, lm, mm⟩ rfl rfl ?_
  refine go1 ?_
  refine g_callR1 rfl hhq rfl (cn3) [(0, 0)] [] ⟨rfl, trivial, rfl, lm, mm⟩ rfl rfl ?_
  refine go1 ?_
  by_cases h3 : x3 = 0
  ·rw [if_pos h3] at hr
   simp only [Prod.mk.injEq] at hr
   obtain ⟨rfl, rfl⟩ := hr
   have fb1 := SomF.mk (bndHi (n := raw.length) (k := x2) (κ := .i64) (by omega))
   have fb3 := SideF.mk (head_b raw)
   (refine c_cond rfl ?_ ?_ <;> intro h)
   rotate_left
   ·exact absurd h (by simp [h3])
   have htl : (raw.take x2).length = x2 := by rw [List.length_take]; omega
   rw [htl]
   have hct : u8s (raw.take x2) = cutL (u8s raw) 0 x2 := by rw [cut_u8]; simp
   rw [hct]
   refine go1 ?_
   refine go0 ?_
   refine ⟨[_], [], [], rfl, rfl, trivial, rfl, ⟨?_, trivial⟩, ?_⟩
   ·exact rv
   ·exact mm
  ·rw [if_neg h3] at hr
   simp only [Prod.mk.injEq] at hr
   obtain ⟨rfl, rfl⟩ := hr
   (refine c_cond rfl ?_ ?_ <;> intro h)
   ·exfalso
    have : (x3 : Int) = 0 := by simpa using h
    omega
   refine go1 ?_
   ((with_reducible apply g_mem); (case hq => exact rfl); (case hv => exact rfl); (case he => (intro R hR; refine sms hR ?_; refine And.intro ((head_b raw)) ?_; refine And.intro ⟨rfl, app_ok (by kernel_rfl) pf⟩ ?_; refine ⟨u8s raw, sv (by show [] ++ u8s raw = _; rw [List.nil_append]), raw.length, sv pf, ?_⟩; exact hR)); (case hd => exact rfl))
   have f1 := SomF.mk (idx_at b2)
   have f2 := SomF.mk (show nthM (u8s raw) (0 + x2) = some (.int .u8 raw[x2].toNat) by rw [nthM_eq, Nat.zero_add]; simp [u8s, b2])
   have f3 := EqF.mk (conv8n x4)
   generalize raw[x2] = ob at *
   refine go1 ?_
   refine g_callR1 rfl hhq rfl (cn4) [(0, 0)] [] ⟨rfl, trivial, rfl, lm, mm⟩ rfl rfl ?_
   refine go1 ?_
   rw [List.length_set]
   refine ⟨[_], [], [(30, raw.length)], rfl, rfl, ?_, rfl, ⟨?_, trivial⟩, ?_⟩
   ·exact ⟨by show raw.length ≤ (setL (u8s raw) (0 + x2) _).length; rw [setL_eq]; simp [u8s], trivial⟩
   ·refine .inr ⟨rfl, rfl, rfl, Nat.le_of_eq (Nat.zero_add _), ?_⟩
    show cutL (setL (u8s raw) (0 + x2) (u8M (UInt8.ofNat x4))) 0 (0 + raw.length) = u8s (raw.set x2 (UInt8.ofNat x4))
    rw [setL_eq, Nat.zero_add]
    have e1 : (u8s raw).set x2 (u8M (UInt8.ofNat x4)) = u8s (raw.set x2 (UInt8.ofNat x4)) := by unfold u8s; rw [List.map_set]
    rw [e1, cut_u8, List.drop_zero, Nat.zero_add, Nat.sub_zero, List.take_of_length_le (by rw [List.length_set]; omega)]
   ·exact mm
 ·rw [if_pos h1] at hr
  simp only [Prod.mk.injEq] at hr
  obtain ⟨rfl, rfl⟩ := hr
  (refine c_cond rfl ?_ ?_ <;> intro h)
  ·exfalso
   have : (x1 : Int) = 0 := by simpa using h
   omega
  refine go1 ?_
  refine go0 ?_
  refine ⟨[_], [], [], rfl, rfl, trivial, rfl, ⟨?_, trivial⟩, ?_⟩
  ·exact rv
  ·exact mm
end
section
variable {G : GS}
attribute [local irreducible] vOpsN vOpsG vOpsD vOpGD NextD vC SeqQ BlockQ
def pickR (L : List Int) (N : Nat) (raw : List UInt8) (out : List (List UInt8)) : List UInt8 × Nat :=
 if out.length = 0 then (raw, N) else if nextN L N 9 ≠ 0 then (raw, N + 1) else (out.getD (nextN L (N + 1) out.length) [], N + 2)
def rawsG (L : List Int) (price : Nat) : Nat → Nat → LgS → List (List UInt8) → List (List UInt8) × Nat
 | 0, N, _, out => (out, N)
 | i + 1, N, l, out => rawsG L price i (pickR L (rawG L N l.acs price).2 (rawG L N l.acs price).1 out).2 (afterS l price (pickR L (rawG L N l.acs price).2 (rawG L N l.acs price).1 out).1) (out ++ [(pickR L (rawG L N l.acs price).2 (rawG L N l.acs price).1 out).1])
def rawsS (L : List Int) (N : Nat) (a : AppS) (n : Nat) : List (List UInt8) × Nat := rawsG L a.price (nextN L N (n + 1)) (N + 1) a.com []
theorem pickR_ok {L : List Int} {N : Nat} {raw : List UInt8} {out : List (List UInt8)} (h : raw.length ≤ 4096) (ho : ∀ b ∈ out, b.length ≤ 4096) : (pickR L N raw out).1.length ≤ 4096 ∧ (pickR L N raw out).2 ≤ N + 2 := by
 unfold pickR
 split
 ·exact ⟨h, by dsimp only; omega⟩
 ·split
  ·exact ⟨h, by dsimp only; omega⟩
  ·refine ⟨?_, by dsimp only; omega⟩
   dsimp only
   rw [List.getD_eq_getElem?_getD]
   cases hx : out[nextN L (N + 1) out.length]? with
   | none => simp
   | some x => exact ho x (List.mem_of_getElem? hx)
theorem rawsG_ok (L : List Int) (price : Nat) : ∀ (i N : Nat) (l : LgS) (out : List (List UInt8)), SmLg l → (∀ b ∈ out, b.length ≤ 4096) → (∀ b ∈ (rawsG L price i N l out).1, b.length ≤ 4096) ∧ (rawsG L price i N l out).1.length = out.length + i ∧ (rawsG L price i N l out).2 ≤ N + 26 * i
 | 0, N, l, out, _, ho => ⟨ho, rfl, by simp [rawsG]⟩
 | i + 1, N, l, out, hl, ho => by
  have h1 := rawG_ok (L := L) (N := N) (price := price) hl.2.2
  have h2 := pickR_ok (L := L) (N := (rawG L N l.acs price).2) h1.1 ho
  have h3 := rawsG_ok L price i (pickR L (rawG L N l.acs price).2 (rawG L N l.acs price).1 out).2 (afterS l price (pickR L (rawG L N l.acs price).2 (rawG L N l.acs price).1 out).1) (out ++ [(pickR L (rawG L N l.acs price).2 (rawG L N l.acs price).1 out).1]) (txS_sm hl).1 (all_app ho fun b hb => by rw [List.mem_singleton.1 hb]; exact h2.1)
  refine ⟨h3.1, ?_, ?_⟩
  ·have := h3.2.1
   rw [rawsG, this, List.length_append, List.length_singleton]; omega
  ·have := h3.2.2
   rw [rawsG]; omega
theorem rawsS_ok {L : List Int} {N : Nat} {a : AppS} {n : Nat} (ha : SmApp a) (hn : n ≤ 100) : (∀ b ∈ (rawsS L N a n).1, b.length ≤ 4096) ∧ (rawsS L N a n).1.length ≤ n ∧ (rawsS L N a n).2 ≤ N + 1 + 26 * n := by
 have h1 := (nextN_eq L N (n + 1) (by omega)).2
 have h2 := rawsG_ok L a.price (nextN L N (n + 1)) (N + 1) a.com [] ha.1 (by simp)
 unfold rawsS
 refine ⟨h2.1, ?_, ?_⟩
 ·have := h2.2.1; simp only [List.length_nil] at this; omega
 ·have := h2.2.2; omega
theorem raws_r (L : List Int) (N : Nat) (a : AppS) (n : Nat) (hN : N < 1000000000000000000) (ha : SmApp a) (hn : n ≤ 100) : SemR Tryz.prog G 9 [numP, appM a, .int .i64 n] (numB L N) 1 (.sl (rawsS L N a n).1.length ((rawsS L N a n).1.map rawM)) (numB L (rawsS L N a n).2) 1 := by
 have cn := next_n (G := G) L N (n + 1) (by omega) (by omega) (by omega)
 have bn := (nextN_eq L N (n + 1) (by omega)).2
 unfold rawsS
 obtain ⟨⟨a1, b1⟩, ⟨a2, b2⟩, ⟨a3, b3⟩, op, price⟩ := a
 obtain ⟨hs1, _, _, hp⟩ := ha
 dsimp only at *
 generalize nextN L N (n + 1) = m at *
 generalize hr : rawsG L price m (N + 1) ⟨a1, b1⟩ [] = R
 obtain ⟨Ro, RN⟩ := R
 unfold appM lgM
 dsimp only
 refine srq seat Tryz.func9 51 ?_
 refine go1 ?_
 refine g_callR1 rfl hhq rfl (cn) [(0, 0)] [] ⟨rfl, trivial, rfl, lm, mm⟩ rfl rfl ?_
 refine go1 ?_
 refine c_loop (Nat × Nat × LgS × List (List UInt8)) (fun x => [(9, .int .i64 x.1), (8, .ptr 2 2 0 0 []), (7, .ms 3 1 0 x.2.2.2.length), (4, .ptr 1 8 0 0 []), (0, numP)]) (fun x => numB L x.2.1 ++ [(1, ⟨42, 8, false, 0, [.st [.st [.sl a1.length (a1.map acM), .int .u64 b1], .st [.sl a2.length (a2.map acM), .int .u64 b2], .st [.sl a3.length (a3.map acM), .int .u64 b3], .bool op, .int .u64 price]]⟩), (2, ⟨40, 2, false, 0, [.st [.sl x.2.2.1.acs.length (x.2.2.1.acs.map acM), .int .u64 x.2.2.1.col]]⟩), (3, ⟨64, 1, true, 0, x.2.2.2.map rawM⟩)]) 4 (fun x => x.1 ≤ 101 ∧ x.2.1 + 26 * x.1 < 1000000000000010000 ∧ SmLg x.2.2.1 ∧ (∀ b ∈ x.2.2.2, b.length ≤ 4096) ∧ x.2.2.2.length + x.1 ≤ 101 ∧ rawsG L price x.1 x.2.1 x.2.2.1 x.2.2.2 = (Ro, RN)) (fun x => x.1) (m, N + 1, ⟨a1, b1⟩, []) ⟨by dsimp only; omega, by dsimp only; omega, hs1, by simp, by simp; omega, hr⟩ (by dsimp only; exact (vm [(1, _), (2, _)] [])) ?_
 clear hr hs1
 rintro ⟨i, K, ⟨acs, col⟩, out⟩ ⟨hi, hK, hsl, hob, hol, hR⟩
 try dsimp only
 dsimp only at hi hK hob hol hR
 refine go1 ?_
 (refine c_cond rfl ?_ ?_ <;> intro h)
 ·have hi' : 0 < i := by have := of_decide_eq_true h; omega
  obtain ⟨j, rfl⟩ : ∃ j, i = j + 1 := ⟨i - 1, by omega⟩
  rw [rawsG] at hR
  have c1 := raw_r (G := G) L K ⟨acs, col⟩ price (by omega) hsl hp
  have k1 := rawG_ok (L := L) (N := K) (price := price) hsl.2.2
  have k2 := pickR_ok (L := L) (N := (rawG L K acs price).2) k1.1 hob
  dsimp only at c1 k1 hR
  generalize rawG L K acs price = rw' at *
  obtain ⟨raw, K1⟩ := rw'
  dsimp only at c1 k1 k2 hR
  generalize hpk : pickR L K1 raw out = pk at *
  obtain ⟨raw2, K2⟩ := pk
  dsimp only at k2 hR
  have c4 := after_m (G := G) ⟨acs, col⟩ price raw2 hsl hp (by omega)
  have k4 : SmLg (afterS ⟨acs, col⟩ price raw2) := (txS_sm hsl).1
  generalize afterS ⟨acs, col⟩ price raw2 = l2 at *
  obtain ⟨acs2, col2⟩ := l2
  unfold lgM at c1 c4
  dsimp only at c1 c4
  unfold pickR at hpk
  have hcast : ((j + 1 : Nat) : Int) - 1 = (j : Int) := by omega
  refine go1 ?_
  refine g_callR1 rfl hhq rfl (c1) [(0, 0)] [] ⟨rfl, trivial, rfl, lm, mm⟩ rfl rfl ?_
  refine go1 ?_
  refine q_joinN Unit (fun _ => [(10, .sl raw2.length (u8s raw2)), (9, .int .i64 (j + 1 : Nat)), (8, .ptr 2 2 0 0 []), (7, .ms 3 1 0 out.length), (4, .ptr 1 8 0 0 []), (0, numP)]) (fun _ => numB L K2 ++ [(1, ⟨42, 8, false, 0, [.st [.st [.sl a1.length (a1.map acM), .int .u64 b1], .st [.sl a2.length (a2.map acM), .int .u64 b2], .st [.sl a3.length (a3.map acM), .int .u64 b3], .bool op, .int .u64 price]]⟩), (2, ⟨40, 2, false, 0, [.st [.sl acs.length (acs.map acM), .int .u64 col]]⟩), (3, ⟨64, 1, true, 0, out.map rawM⟩)]) (fun _ => 4) (fun _ => True) (fun JQ hj => ?_) (fun _ _ => ?_)
  ·by_cases h0 : out.length = 0
   ·rw [if_pos h0] at hpk
    simp only [Prod.mk.injEq] at hpk
    obtain ⟨rfl, rfl⟩ := hpk
    (refine n_grd ⟨rfl, rfl, rfl⟩ ?_ ?_ <;> intro h)
    ·exact absurd (of_decide_eq_true h) (by omega)
    refine go1 ?_
    exact hj.nrm () trivial (vm [(1, _), (2, _), (3, _)] [])
   rw [if_neg h0] at hpk
   have cn1 := next_n (G := G) L K1 9 (by omega) (by omega) (by omega)
   have cn2 := next_n (G := G) L (K1 + 1) out.length (by omega) (by omega) (by omega)
   have b2 := (nextN_eq L (K1 + 1) out.length (by omega)).2
   rw [show K1 + 2 = K1 + 1 + 1 from rfl] at hpk
   generalize nextN L K1 9 = x1 at *
   generalize nextN L (K1 + 1) out.length = x2 at *
   (refine n_grd ⟨rfl, rfl, rfl⟩ ?_ ?_ <;> intro h)
   rotate_left
   ·exact absurd (of_decide_eq_false h) (by omega)
   refine go1 ?_
   refine g_callR1 rfl hhq rfl (cn1) [(0, 0)] [] ⟨rfl, trivial, rfl, lm, mm⟩ rfl rfl ?_
   refine go1 ?_
   by_cases h1 : x1 = 0
   ·rw [if_neg (by simp [h1])] at hpk
    have hgd : out.getD x2 [] = out[x2] := by simp [b2]
    have hel : nthM (out.map rawM) (0 + x2) = some (rawM out[x2]) := by rw [nthM_eq, Nat.zero_add]; simp [b2]
    rw [hgd] at hpk
    clear hgd
    generalize out[x2] = ox at *
    simp only [Prod.mk.injEq] at hpk
    obtain ⟨rfl, rfl⟩ := hpk
    replace hel : nthM (out.map rawM) (0 + x2) = some (.sl ox.length (u8s ox)) := hel
    have hel := SomF.mk hel
    have f1 := SomF.mk (idx_at b2)
    (refine c_cond rfl ?_ ?_ <;> intro h)
    rotate_left
    ·exact absurd h (by simp [h1])
    refine go1 ?_
    refine g_callR1 rfl hhq rfl (cn2) [(0, 0)] [] ⟨rfl, trivial, rfl, lm, mm⟩ rfl rfl ?_
    refine go1 ?_
    exact hj.nrm () trivial (vm [(1, _), (2, _), (3, _)] [])
   ·rw [if_pos h1] at hpk
    simp only [Prod.mk.injEq] at hpk
    obtain ⟨rfl, rfl⟩ := hpk
    (refine c_cond rfl ?_ ?_ <;> intro h)
    ·exfalso
     have : (x1 : Int) = 0 := by simpa using h
     omega
    refine go1 ?_
    exact hj.nrm () trivial (vm [(1, _), (2, _), (3, _)] [])
  ·try dsimp only
   have hll : (out.map rawM).length = out.length := by simp
   refine go1 ?_
   ((with_reducible apply g_mem); (case hq => exact rfl); (case hv => exact rfl); (case he => (intro R hR; refine sms hR ?_; (refine And.intro (Nat.le_refl _) ?_; refine ⟨_, rfl, ?_⟩; refine And.intro ⟨hll, app_ok (by kernel_rfl) pf⟩ ?_; refine ⟨(out ++ [raw2]).map rawM, sv (by rw [List.map_append]; rfl), out.length + 1, sv pf, ?_⟩); exact hR)); (case hd => exact rfl))
   refine go1 ?_
   refine g_call2 rfl hhq rfl (src (c4)) rfl lm ?_
   refine go1 ?_
   exact ⟨(j, K2, ⟨acs2, col2⟩, out ++ [raw2]), ⟨by dsimp only; omega, by dsimp only; omega, k4, all_app hob fun b hb => by rw [List.mem_singleton.1 hb]; exact k2.1, by dsimp only; rw [List.length_append, List.length_singleton]; omega, hR⟩, by dsimp only; omega, (by dsimp only; rw [List.length_append, List.length_singleton]; exact (vm [(1, _), (2, _), (3, _)] []))⟩
 ·have hi' : i = 0 := by have := of_decide_eq_false h; omega
  subst hi'
  rw [rawsG] at hR
  simp only [Prod.mk.injEq] at hR
  obtain ⟨rfl, rfl⟩ := hR
  refine go1 ?_
  refine ⟨[_], [], [(3, out.length)], rfl, rfl, ?_, rfl, ⟨?_, trivial⟩, ?_⟩
  ·exact ⟨by show out.length ≤ (out.map rawM).length; simp, trivial⟩
  ·exact .inr ⟨rfl, rfl, rfl, Nat.le_of_eq (Nat.zero_add _), cut_all rawM out⟩
  ·exact mm
end
end Go.Proofs.YtoagomdghimlbaaGreat
