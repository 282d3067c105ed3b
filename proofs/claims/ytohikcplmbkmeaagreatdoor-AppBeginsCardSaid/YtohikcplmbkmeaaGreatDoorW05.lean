/- Parts of a proof, one behind the other: G3, G6, G7, G8, G9, GA, S1, N1, Q1, Q2, Q3, Q4, Q5, N2, N4, WI, W3, KM, W4, W5, W7, Bt, W1, W8, W9. -/
import Derived.Test.YtohikcplmbkmeaaGreatDoorW04
set_option maxRecDepth 20000
set_option maxHeartbeats 16000000
set_option linter.unusedVariables false
set_option linter.unusedSimpArgs false
namespace Go.Proofs.YtohikcplmbkmeaaGreatDoor
open Go.RowKit
section
variable {G : GS}
attribute [local irreducible] vOpsN vOpsG vOpsD vOpGD NextD vC SeqQ BlockQ
def vlG : Option (List UInt8) → List AcS → Nat
 | _, [] => 0
 | p, a :: r => if nameS a.name = false then 10 else match p with
  | none => vlG (some a.name) r
  | some q => if q = a.name then 8 else if (!(Op.bytesLess q a.name || q == a.name)) = true then 1 else vlG (some a.name) r
theorem vlG_nil (p : Option (List UInt8)) : vlG p [] = 0 := by cases p <;> rfl
theorem vlG_cons (p : Option (List UInt8)) (a : AcS) (r : List AcS) : vlG p (a :: r) = if nameS a.name = false then 10 else match p with
  | none => vlG (some a.name) r
  | some q => if q = a.name then 8 else if (!(Op.bytesLess q a.name || q == a.name)) = true then 1 else vlG (some a.name) r := by cases p <;> rfl
def prevN (l : List AcS) : Nat → Option (List UInt8)
 | 0 => none
 | j + 1 => (l[j]?).map (·.name)
def validLS (l : LgS) : Nat := if 256 < l.acs.length then 3 else if vlG none l.acs ≠ 0 then vlG none l.acs else if (totS l.acs l.col).2 = false then 6 else 0
def SmLg (l : LgS) : Prop := l.acs.length ≤ 50000 ∧ U64 l.col ∧ ∀ a ∈ l.acs, SmAc a
theorem validL_m (L : LgS) (hL : SmLg L) : SemC Tryz.prog G 90 [lgM L] (.int .i64 (validLS L)) := by
 obtain ⟨l, col⟩ := L
 obtain ⟨hl, hcol, hsm⟩ := hL
 dsimp only at hl hcol hsm
 have ct := total_m (G := G) l col hcol (by omega) (fun a ha => (hsm a ha).2.1)
 generalize hQ : validLS ⟨l, col⟩ = Q
 unfold validLS at hQ
 dsimp only at hQ
 unfold lgM
 dsimp only
 by_cases hn : 256 < l.length
 ·rw [if_pos hn] at hQ
  subst hQ
  refine scq seat Tryz.func90 59 ?_
  refine go1 ?_
  (iterate 6 ((all_goals (refine go1 ?_)); (all_goals (first | ((first | ((with_reducible apply n_grd); (case hf => exact ⟨rfl, rfl, rfl⟩)) | ((with_reducible apply c_cond); (case he => exact rfl))); (all_goals intro h); (all_goals (try simp only [bx] at h)); (all_goals (try (exfalso; omega)))) | skip))))
  all_goals (refine go0 ?_)
  all_goals rfl
 rw [if_neg hn] at hQ
 generalize hv : vlG none l = v at *
 generalize totS l col = p at *
 obtain ⟨tot, ok⟩ := p
 dsimp only at ct hQ
 refine scq seat Tryz.func90 59 ?_
 refine go1 ?_
 (iterate 3 ((all_goals (refine go1 ?_)); (all_goals (first | ((first | ((with_reducible apply n_grd); (case hf => exact ⟨rfl, rfl, rfl⟩)) | ((with_reducible apply c_cond); (case he => exact rfl))); (all_goals intro h); (all_goals (try simp only [bx] at h)); (all_goals (try (exfalso; omega)))) | skip))))
 refine c_loop Nat (fun k => [(14, .int .i64 k), (13, .int .i64 l.length), (12, .sl l.length (l.map acM)), (1, .ptr 0 2 0 0 [])]) (fun _ => [(0, ⟨33, 2, false, 0, [.st [.sl l.length (l.map acM), .int .u64 col]]⟩)]) 1 (fun k => k ≤ l.length ∧ vlG (prevN l k) (l.drop k) = v) (fun k => l.length - k) 0 ⟨Nat.zero_le _, by rw [List.drop_zero]; exact hv⟩ (vm [(0, _)] []) ?_
 clear hv
 rintro k ⟨hk, hR⟩
 try dsimp only
 refine go1 ?_
 ((with_reducible apply c_cond); (case he => exact rfl); (all_goals intro h))
 ·have hk' : k < l.length := by have := of_decide_eq_true h; omega
  have hel := acs_at hk'
  have hpn : prevN l (k + 1) = some l[k].name := by show (l[k]?).map _ = _; simp [hk']
  have c1 := name_m (G := G) l[k].name (by have := (hsm _ (List.getElem_mem hk')).1; omega)
  rw [List.drop_eq_getElem_cons hk', vlG_cons] at hR
  rw [← hpn] at hR
  have hnmk : prevN l (k + 1) = some l[k].name := hpn
  rw [hnmk] at hR
  generalize hak : l[k] = a at *
  obtain ⟨nm, bal, seq⟩ := a
  replace hel : idxL (l.map acM) l.length (k : Int) = some (.st [.str nm, .int .u64 bal, .int .u64 seq]) := hel
  have hel := SomF.mk hel
  dsimp only at hR c1
  by_cases hnm : nameS nm = false
  ·rw [hnm] at c1
   rw [if_pos hnm] at hR
   subst hR
   rw [if_pos (by omega)] at hQ
   subst hQ
   refine go1 ?_
   (iterate 6 ((all_goals (refine go1 ?_)); (all_goals (first | (refine g_call3 rfl (fun _ h => h) rfl (semR_of_semC (c1)) rfl rfl ?_) | ((first | ((with_reducible apply n_grd); (case hf => exact ⟨rfl, rfl, rfl⟩)) | ((with_reducible apply c_cond); (case he => exact rfl))); (all_goals intro h); (all_goals (try simp only [bx] at h)); (all_goals (try (exfalso; omega)))) | skip))))
   all_goals (refine go0 ?_)
   all_goals rfl
  rw [if_neg hnm] at hR
  have hnm : nameS nm = true := by simpa using hnm
  rw [hnm] at c1
  cases k with
  | zero =>
   dsimp only [prevN] at hR
   have hR : vlG (prevN l (0 + 1)) (l.drop (0 + 1)) = v := by rw [hnmk]; exact hR
   refine go1 ?_
   (iterate 3 ((all_goals (refine go1 ?_)); (all_goals (first | (refine g_call3 rfl (fun _ h => h) rfl (semR_of_semC (c1)) rfl rfl ?_) | ((first | ((with_reducible apply n_grd); (case hf => exact ⟨rfl, rfl, rfl⟩)) | ((with_reducible apply c_cond); (case he => exact rfl))); (all_goals intro h); (all_goals (try simp only [bx] at h)); (all_goals (try (exfalso; omega)))) | skip))))
   refine c_draw [(0, false), (1, false), (2, false), (3, false), (4, false), (5, false), (6, false), (7, false), (8, false), (9, false), (10, false), (11, false), (12, false), (13, false)] ?_
   refine go1 ?_
   refine c_draw [(0, false), (1, false), (2, false), (3, false), (4, false), (5, false), (6, false), (7, false), (8, false), (9, false), (10, false), (11, false), (12, false), (13, false)] ?_
   refine go1 ?_
   exact ⟨0 + 1, ⟨by show 0 + 1 ≤ l.length; omega, hR⟩, by show l.length - (0 + 1) < l.length - 0; omega, (by dsimp only; exact (vm [(0, _)] []))⟩
  | succ j =>
   have hj : j < l.length := by omega
   have hep := acs_at hj
   have hpj : prevN l (j + 1) = some l[j].name := by show (l[j]?).map _ = _; simp [hj]
   rw [hpj] at hR
   generalize l[j] = b at *
   obtain ⟨nb, bb, sb⟩ := b
   replace hep : idxL (l.map acM) l.length (((j + 1 : Nat) : Int) - 1) = some (.st [.str nb, .int .u64 bb, .int .u64 sb]) := by rw [show ((j + 1 : Nat) : Int) - 1 = (j : Int) by omega]; exact hep
   have hep := SomF.mk hep
   dsimp only at hR
   refine go1 ?_
   (iterate 3 ((all_goals (refine go1 ?_)); (all_goals (first | (refine g_call3 rfl (fun _ h => h) rfl (semR_of_semC (c1)) rfl rfl ?_) | ((first | ((with_reducible apply n_grd); (case hf => exact ⟨rfl, rfl, rfl⟩)) | ((with_reducible apply c_cond); (case he => exact rfl))); (all_goals intro h); (all_goals (try simp only [bx] at h)); (all_goals (try (exfalso; omega)))) | skip))))
   refine c_draw [(0, false), (1, false), (2, false), (3, false), (4, false), (5, false), (6, false), (7, false), (8, false), (9, false), (10, false), (11, false), (12, false), (13, false)] ?_
   refine go1 ?_
   ((with_reducible apply d_guard); (case hs => exact rfl); (case hv => exact rfl); (case hd => exact rfl); (all_goals intro h))
   rotate_left
   ·exact absurd (of_decide_eq_false h) (by omega)
   by_cases hd : nb = nm
   ·subst hd
    rw [if_pos rfl] at hR
    subst hR
    rw [if_pos (by omega)] at hQ
    subst hQ
    refine goe1 ?_
    (iterate 4 ((all_goals (refine go1 ?_)); (all_goals (first | ((first | ((with_reducible apply n_grd); (case hf => exact ⟨rfl, rfl, rfl⟩)) | ((with_reducible apply c_cond); (case he => exact rfl))); (all_goals intro h); (all_goals (try simp only [bx] at h)); (all_goals (try (exfalso; omega)))) | skip))))
    all_goals (refine go0 ?_)
    all_goals rfl
   rw [if_neg hd] at hR
   refine go1 ?_
   ((with_reducible apply c_cond); (case he => exact rfl); (all_goals intro h))
   ·exact absurd (eq_of_beq h) hd
   refine go1 ?_
   refine c_draw [(0, false), (1, false), (2, false), (3, false), (4, false), (5, false), (6, false), (7, false), (8, false), (9, false), (10, false), (11, false), (12, false), (13, false)] ?_
   refine go1 ?_
   ((with_reducible apply d_guard); (case hs => exact rfl); (case hv => exact rfl); (case hd => exact rfl); (all_goals intro h))
   rotate_left
   ·exact absurd (of_decide_eq_false h) (by omega)
   refine go1 ?_
   ((with_reducible apply c_cond); (case he => exact rfl); (all_goals intro h))
   ·rw [if_pos h] at hR
    subst hR
    rw [if_pos (by omega)] at hQ
    subst hQ
    refine go1 ?_
    refine go0 ?_
    rfl
   ·rw [if_neg (by rw [h]; simp)] at hR
    refine go1 ?_
    exact ⟨j + 1 + 1, ⟨by show j + 1 + 1 ≤ l.length; omega, by rw [hnmk]; exact hR⟩, by show l.length - (j + 1 + 1) < l.length - (j + 1); omega, (by dsimp only; exact (vm [(0, _)] []))⟩
 ·have hk' : k = l.length := by have := of_decide_eq_false h; omega
  subst hk'
  rw [List.drop_length, vlG_nil] at hR
  subst hR
  rw [if_neg (by simp)] at hQ
  cases ok with
  | true =>
   rw [if_neg (by simp)] at hQ
   subst hQ
   refine go1 ?_
   (iterate 6 ((all_goals (refine go1 ?_)); (all_goals (first | (refine g_call3 rfl (fun _ h => h) rfl (semR_of_semC (ct)) rfl rfl ?_) | ((first | ((with_reducible apply n_grd); (case hf => exact ⟨rfl, rfl, rfl⟩)) | ((with_reducible apply c_cond); (case he => exact rfl))); (all_goals intro h); (all_goals (try simp only [bx] at h)); (all_goals (try (exfalso; omega)))) | skip))))
   all_goals (refine go0 ?_)
   all_goals rfl
  | false =>
   rw [if_pos rfl] at hQ
   subst hQ
   refine go1 ?_
   (iterate 6 ((all_goals (refine go1 ?_)); (all_goals (first | (refine g_call3 rfl (fun _ h => h) rfl (semR_of_semC (ct)) rfl rfl ?_) | ((first | ((with_reducible apply n_grd); (case hf => exact ⟨rfl, rfl, rfl⟩)) | ((with_reducible apply c_cond); (case he => exact rfl))); (all_goals intro h); (all_goals (try simp only [bx] at h)); (all_goals (try (exfalso; omega)))) | skip))))
   all_goals (refine go0 ?_)
   all_goals rfl
def genG : List AcS → List AcS → List AcS × Nat
 | [], l => (l, 0)
 | a :: r, l => if nameS a.name = false then ([], 10) else if 0 ≤ findS a.name l 0 then ([], 8) else genG r (putS a l)
def lg0 : LgS := ⟨[], 0⟩
def genS (acs : List AcS) : LgS × Nat := if 256 < acs.length then (lg0, 3) else if (genG acs []).2 ≠ 0 then (lg0, (genG acs []).2) else if (totS (genG acs []).1 0).2 = false then (lg0, 6) else (⟨(genG acs []).1, 0⟩, 0)
theorem mem_insA {a x : AcS} : ∀ {l : List AcS}, x ∈ insA a l → x = a ∨ x ∈ l
 | [], h => by rw [insA] at h; simp at h; exact .inl h
 | b :: r, h => by
  rw [insA] at h
  split at h
  ·rcases List.mem_cons.1 h with rfl | h
   ·exact .inr (by simp)
   ·rcases mem_insA h with h | h
    ·exact .inl h
    ·exact .inr (by simp [h])
  ·rcases List.mem_cons.1 h with rfl | h
   ·exact .inl rfl
   ·exact .inr h
theorem mem_putS {a x : AcS} {l : List AcS} (h : x ∈ putS a l) : x = a ∨ x ∈ l := by
 unfold putS at h
 split at h
 ·rcases List.mem_or_eq_of_mem_set h with h | h
  ·exact .inr h
  ·exact .inl h
 ·exact mem_insA h
theorem genG_sm : ∀ (r l : List AcS), (∀ a ∈ r, SmAc a) → (∀ a ∈ l, SmAc a) → (∀ a ∈ (genG r l).1, SmAc a) ∧ (genG r l).1.length ≤ l.length + r.length
 | [], l, _, h => ⟨h, by simp [genG]⟩
 | a :: r, l, h1, h2 => by
  rw [genG]
  split
  ·exact ⟨by simp, by simp⟩
  ·split
   ·exact ⟨by simp, by simp⟩
   ·have := genG_sm r (putS a l) (fun x hx => h1 x (by simp [hx])) (fun x hx => (mem_putS hx).elim (fun e => e ▸ h1 a (by simp)) (h2 x))
    have h3 := putS_len a l
    refine ⟨this.1, ?_⟩
    rw [List.length_cons]
    omega
theorem genS_sm {acs : List AcS} (h : ∀ a ∈ acs, SmAc a) : SmLg (genS acs).1 := by
 have h0 : SmLg lg0 := ⟨by simp [lg0], by simp [lg0, U64], by simp [lg0]⟩
 have := genG_sm acs [] h (by simp)
 unfold genS
 split
 ·exact h0
 split
 ·exact h0
 split
 ·exact h0
 ·refine ⟨?_, by simp [U64], this.1⟩
  have h2 := this.2
  simp only [List.length_nil] at h2
  dsimp only
  omega
theorem gen_r (l : List AcS) (hl : l.length ≤ 100000) (hsm : ∀ a ∈ l, SmAc a) : SemR Tryz.prog G 47 [.sl l.length (l.map acM)] [] 0 (.tup [lgM (genS l).1, .int .i64 (genS l).2]) [] 0 := by
 generalize hQ : genS l = Q
 obtain ⟨⟨Ql, Qc⟩, Qe⟩ := Q
 unfold genS at hQ
 unfold lgM
 dsimp only
 by_cases hn : 256 < l.length
 ·rw [if_pos hn] at hQ
  simp only [lg0, Prod.mk.injEq, LgS.mk.injEq] at hQ
  obtain ⟨⟨rfl, rfl⟩, rfl⟩ := hQ
  refine srq seat Tryz.func47 46 ?_
  refine go1 ?_
  (iterate 4 ((all_goals (refine go1 ?_)); (all_goals (first | ((first | ((with_reducible apply n_grd); (case hf => exact ⟨rfl, rfl, rfl⟩)) | ((with_reducible apply c_cond); (case he => exact rfl))); (all_goals intro h); (all_goals (try simp only [bx] at h)); (all_goals (try (exfalso; omega)))) | skip))))
  all_goals (refine go0 ?_; (refine ⟨[_, _], [], [], rfl, rfl, trivial, rfl, ⟨?_, ?_, trivial⟩, ?_⟩; (exact .inr ⟨_, rfl, lm⟩); exact rv; exact mm))
 rw [if_neg hn] at hQ
 have hsmg := genG_sm l [] hsm (by simp)
 generalize hv : genG l [] = v at *
 obtain ⟨vl, ve⟩ := v
 dsimp only at hQ hsmg
 have hvl : vl.length ≤ 256 := by have := hsmg.2; simp only [List.length_nil] at this; omega
 have ct := total_m (G := G) vl 0 (by unfold U64; omega) (by omega) (fun a ha => (hsmg.1 a ha).2.1)
 clear hsmg
 generalize totS vl 0 = p at *
 obtain ⟨tot, ok⟩ := p
 dsimp only at ct hQ
 refine srq seat Tryz.func47 46 ?_
 refine go1 ?_
 (iterate 3 ((all_goals (refine go1 ?_)); (all_goals (first | ((first | ((with_reducible apply n_grd); (case hf => exact ⟨rfl, rfl, rfl⟩)) | ((with_reducible apply c_cond); (case he => exact rfl))); (all_goals intro h); (all_goals (try simp only [bx] at h)); (all_goals (try (exfalso; omega)))) | skip))))
 refine c_loop (Nat × List AcS) (fun x => [(15, .int .i64 x.1), (14, .int .i64 l.length), (13, .sl l.length (l.map acM)), (4, .ptr 1 2 0 0 []), (2, .ptr 0 2 0 0 [])]) (fun x => [(0, ⟨33, 2, false, 0, [.st [.nils, .int .u64 0]]⟩), (1, ⟨33, 2, false, 0, [.st [.sl x.2.length (x.2.map acM), .int .u64 0]]⟩)]) 2 (fun x => x.1 ≤ l.length ∧ x.2.length ≤ x.1 ∧ (∀ a ∈ x.2, SmAc a) ∧ genG (l.drop x.1) x.2 = (vl, ve)) (fun x => l.length - x.1) (0, []) ⟨Nat.zero_le _, Nat.zero_le _, by simp, by rw [List.drop_zero]; exact hv⟩ (by dsimp only; exact (vm [(0, _), (1, _)] [])) ?_
 clear hv
 rintro ⟨k, z⟩ ⟨hk, hz, hzs, hR⟩
 try dsimp only
 dsimp only at hk hz hzs hR
 refine go1 ?_
 ((with_reducible apply c_cond); (case he => exact rfl); (all_goals intro h))
 ·have hk' : k < l.length := by have := of_decide_eq_true h; omega
  have hel := acs_at hk'
  have hsa := hsm _ (List.getElem_mem hk')
  have c1 := name_m (G := G) l[k].name (by have := hsa.1; omega)
  have c2 := find_m (G := G) z l[k].name (by omega)
  have c3 := put_r (G := G) l[k] z (by omega)
  have hpl := putS_len l[k] z
  have hpm : ∀ x ∈ putS l[k] z, SmAc x := fun x hx => (mem_putS hx).elim (fun e => e ▸ hsa) (hzs x)
  rw [List.drop_eq_getElem_cons hk', genG] at hR
  generalize putS l[k] z = z2 at *
  generalize l[k] = a at *
  obtain ⟨nm, bal, seq⟩ := a
  replace hel : idxL (l.map acM) l.length (k : Int) = some (.st [.str nm, .int .u64 bal, .int .u64 seq]) := hel
  have hel := SomF.mk hel
  dsimp only at hR c1 c2
  unfold acM at c3
  dsimp only at c3
  by_cases hnm : nameS nm = false
  ·rw [hnm] at c1
   rw [if_pos hnm] at hR
   simp only [Prod.mk.injEq] at hR
   obtain ⟨rfl, rfl⟩ := hR
   rw [if_pos (by omega)] at hQ
   simp only [lg0, Prod.mk.injEq, LgS.mk.injEq] at hQ
   obtain ⟨⟨rfl, rfl⟩, rfl⟩ := hQ
   refine go1 ?_
   (iterate 4 ((all_goals (refine go1 ?_)); (all_goals (first | (refine g_call3 rfl (fun _ h => h) rfl (semR_of_semC (c1)) rfl rfl ?_) | ((first | ((with_reducible apply n_grd); (case hf => exact ⟨rfl, rfl, rfl⟩)) | ((with_reducible apply c_cond); (case he => exact rfl))); (all_goals intro h); (all_goals (try simp only [bx] at h)); (all_goals (try (exfalso; omega)))) | skip))))
   all_goals (refine go0 ?_; (refine ⟨[_, _], [], [], rfl, rfl, trivial, rfl, ⟨?_, ?_, trivial⟩, ?_⟩; (exact .inr ⟨_, rfl, lm⟩); exact rv; exact mm))
  rw [if_neg hnm] at hR
  have hnm : nameS nm = true := by simpa using hnm
  rw [hnm] at c1
  generalize findS nm z 0 = fi at *
  by_cases hfi : 0 ≤ fi
  ·rw [if_pos hfi] at hR
   simp only [Prod.mk.injEq] at hR
   obtain ⟨rfl, rfl⟩ := hR
   rw [if_pos (by omega)] at hQ
   simp only [lg0, Prod.mk.injEq, LgS.mk.injEq] at hQ
   obtain ⟨⟨rfl, rfl⟩, rfl⟩ := hQ
   refine go1 ?_
   (iterate 6 ((all_goals (refine go1 ?_)); (all_goals (first | (refine g_call3 rfl (fun _ h => h) rfl (semR_of_semC (c1)) rfl rfl ?_) | (refine g_call3 rfl (fun _ h => h) rfl (semR_of_semC (c2)) rfl rfl ?_) | ((first | ((with_reducible apply n_grd); (case hf => exact ⟨rfl, rfl, rfl⟩)) | ((with_reducible apply c_cond); (case he => exact rfl))); (all_goals intro h); (all_goals (try simp only [bx] at h)); (all_goals (try (exfalso; omega)))) | skip))))
   all_goals (refine go0 ?_; (refine ⟨[_, _], [], [], rfl, rfl, trivial, rfl, ⟨?_, ?_, trivial⟩, ?_⟩; (exact .inr ⟨_, rfl, lm⟩); exact rv; exact mm))
  rw [if_neg hfi] at hR
  refine go1 ?_
  (iterate 7 ((all_goals (refine go1 ?_)); (all_goals (first | (refine g_call3 rfl (fun _ h => h) rfl (semR_of_semC (c1)) rfl rfl ?_) | (refine g_call3 rfl (fun _ h => h) rfl (semR_of_semC (c2)) rfl rfl ?_) | (refine g_call3 rfl (fun _ h => h) rfl (c3) rfl rfl ?_) | ((first | ((with_reducible apply n_grd); (case hf => exact ⟨rfl, rfl, rfl⟩)) | ((with_reducible apply c_cond); (case he => exact rfl))); (all_goals intro h); (all_goals (try simp only [bx] at h)); (all_goals (try (exfalso; omega)))) | skip))))
  exact ⟨(k + 1, z2), ⟨by show k + 1 ≤ l.length; omega, by show z2.length ≤ k + 1; omega, hpm, hR⟩, by show l.length - (k + 1) < l.length - k; omega, (by dsimp only; exact (vm [(0, _), (1, _)] []))⟩
 ·have hk' : k = l.length := by have := of_decide_eq_false h; omega
  subst hk'
  rw [List.drop_length, genG] at hR
  simp only [Prod.mk.injEq] at hR
  obtain ⟨rfl, rfl⟩ := hR
  rw [if_neg (by simp)] at hQ
  cases ok with
  | true =>
   rw [if_neg (by simp)] at hQ
   simp only [Prod.mk.injEq, LgS.mk.injEq] at hQ
   obtain ⟨⟨rfl, rfl⟩, rfl⟩ := hQ
   refine go1 ?_
   (iterate 4 ((all_goals (refine go1 ?_)); (all_goals (first | (refine g_call3 rfl (fun _ h => h) rfl (semR_of_semC (ct)) rfl rfl ?_) | ((first | ((with_reducible apply n_grd); (case hf => exact ⟨rfl, rfl, rfl⟩)) | ((with_reducible apply c_cond); (case he => exact rfl))); (all_goals intro h); (all_goals (try simp only [bx] at h)); (all_goals (try (exfalso; omega)))) | skip))))
   all_goals (refine go0 ?_; (refine ⟨[_, _], [], [], rfl, rfl, trivial, rfl, ⟨?_, ?_, trivial⟩, ?_⟩; (exact .inr ⟨_, rfl, lm⟩); exact rv; exact mm))
  | false =>
   rw [if_pos rfl] at hQ
   simp only [lg0, Prod.mk.injEq, LgS.mk.injEq] at hQ
   obtain ⟨⟨rfl, rfl⟩, rfl⟩ := hQ
   refine go1 ?_
   (iterate 4 ((all_goals (refine go1 ?_)); (all_goals (first | (refine g_call3 rfl (fun _ h => h) rfl (semR_of_semC (ct)) rfl rfl ?_) | ((first | ((with_reducible apply n_grd); (case hf => exact ⟨rfl, rfl, rfl⟩)) | ((with_reducible apply c_cond); (case he => exact rfl))); (all_goals intro h); (all_goals (try simp only [bx] at h)); (all_goals (try (exfalso; omega)))) | skip))))
   all_goals (refine go0 ?_; (refine ⟨[_, _], [], [], rfl, rfl, trivial, rfl, ⟨?_, ?_, trivial⟩, ?_⟩; (exact .inr ⟨_, rfl, lm⟩); exact rv; exact mm))
end
section
variable {G : GS}
attribute [local irreducible] vOpsN vOpsG vOpsD vOpGD NextD vC SeqQ BlockQ
structure ResS where
 code : Nat
 sender : List UInt8
 seq : Nat
 gas : Nat
 prio : Nat
 deriving DecidableEq
def resM (r : ResS) : MV := .st [.int .i64 r.code, .str r.sender, .int .u64 r.seq, .int .u64 r.gas, .int .u64 r.prio]
def SmRes (r : ResS) : Prop := r.code ≤ 1000 ∧ r.sender.length ≤ 5000 ∧ U64 r.seq ∧ U64 r.gas ∧ U64 r.prio
theorem res_at {l : List ResS} {k : Nat} (hk : k < l.length) : idxL (l.map resM) l.length (k : Int) = some (resM l[k]) := index_at hk (by simp [hk])
end
section
variable {G : GS}
attribute [local irreducible] vOpsN vOpsG vOpsD vOpGD NextD vC SeqQ BlockQ
def costS (t : TxS) : Nat × Bool := sumG (t.fee :: t.trs.map (·.amt)) 0
theorem sumG_u64 : ∀ (l : List Nat) (s : Nat), U64 s → U64 (sumG l s).1
 | [], _, h => h
 | x :: r, s, _ => by
  rw [sumG]
  split
  ·exact sumG_u64 r _ addS_u64
  ·show (0 : Nat) < _; omega
theorem costS_u64 (t : TxS) : U64 (costS t).1 := sumG_u64 _ _ (by unfold U64; omega)
theorem u64s_push (f : Nat) (l : List TrS) {k : Nat} (hk : k < l.length) : u64s (f :: (l.take (k + 1)).map (·.amt)) = u64s (f :: (l.take k).map (·.amt)) ++ [.int .u64 (l[k].amt : Int)] := by
 rw [List.take_succ_eq_append_getElem hk, List.map_append, ← List.cons_append]
 unfold u64s
 rw [List.map_append]
 rfl
theorem cost_m (t : TxS) (ht : SmTx t) : SemC Tryz.prog G 94 [txM t] (.tup [.int .u64 (costS t).1, .bool (costS t).2]) := by
 obtain ⟨snd, seq, gas, fee, memo, trs⟩ := t
 obtain ⟨h1, h2, h3, h4, h5, h6, h7⟩ := ht
 dsimp only at h1 h2 h3 h4 h5 h6 h7
 have cs := sum_m (G := G) (fee :: trs.map (·.amt)) (by simp; omega) (by
  intro a ha
  rcases List.mem_cons.1 ha with rfl | ha
  ·exact h4
  ·obtain ⟨x, hx, rfl⟩ := List.mem_map.1 ha
   exact (h7 x hx).2)
 unfold costS
 dsimp only
 generalize sumG (fee :: trs.map (·.amt)) 0 = p at *
 obtain ⟨v, b⟩ := p
 dsimp only at cs ⊢
 unfold txM
 dsimp only
 have hzl : (fee :: trs.map (·.amt)).length = trs.length + 1 := by simp
 refine scq seat Tryz.func94 27 ?_
 refine go1 ?_
 refine c_loop Nat (fun k => [(13, .int .i64 k), (12, .int .i64 trs.length), (11, .sl trs.length (trs.map trM)), (4, .ms 0 1 0 (k + 1))]) (fun k => [(0, ⟨23, 1, true, 0, u64s (fee :: (trs.take k).map (·.amt))⟩)]) 1 (fun k => k ≤ trs.length) (fun k => trs.length - k) 0 (Nat.zero_le _) (by rw [List.take_zero]; exact (vm [(0, _)] [])) ?_
 intro k hk
 try dsimp only
 refine go1 ?_
 ((with_reducible apply c_cond); (case he => exact rfl); (all_goals intro h))
 ·have hk' : k < trs.length := by have := of_decide_eq_true h; omega
  have hel := trs_at hk'
  have hsucc := u64s_push fee trs hk'
  have hll : (u64s (fee :: (trs.take k).map (·.amt))).length = k + 1 := by simp [u64s]; omega
  generalize trs[k] = x at *
  obtain ⟨to_, amt⟩ := x
  dsimp only at hsucc
  replace hel : idxL (trs.map trM) trs.length (k : Int) = some (.st [.str to_, .int .u64 amt]) := hel
  have hel := SomF.mk hel
  refine go1 ?_
  ((with_reducible apply g_mem); (case hq => exact rfl); (case hv => exact rfl); (case he => (intro R hR; refine sms hR ?_; (refine And.intro (Nat.le_refl _) ?_; refine ⟨_, rfl, ?_⟩; refine And.intro ⟨hll, app_ok (by kernel_rfl) pf⟩ ?_; refine ⟨u64s (fee :: (trs.take (k + 1)).map (·.amt)), sv (by rw [hsucc]; rfl), k + 1 + 1, sv pf, ?_⟩); exact hR)); (case hd => exact rfl))
  refine go1 ?_
  exact ⟨k + 1, by show k + 1 ≤ trs.length; omega, by show trs.length - (k + 1) < trs.length - k; omega, (by dsimp only; exact (vm [(0, _)] []))⟩
 ·have hk' : k = trs.length := by have := of_decide_eq_false h; omega
  subst hk'
  rw [List.take_length]
  generalize fee :: trs.map (·.amt) = Z at *
  rw [← hzl]
  refine go1 ?_
  refine g_call1 rfl (fun _ h => h) rfl (semR_of_semC cs) rfl [(0, Z.length)] ⟨(by show Z.length ≤ (u64s Z).length; simp [u64s]), trivial⟩ lm ?_
  refine go1 ?_
  refine go0 ?_
  rfl
def payB (x : TrS) (acs : List AcS) : AcS := if (getS acs x.to_).2 then (getS acs x.to_).1 else ⟨x.to_, 0, 0⟩
def payS (acs : List AcS) (x : TrS) : List AcS := putS ⟨(payB x acs).name, ((payB x acs).bal + x.amt) % 18446744073709551616, (payB x acs).seq⟩ acs
def doneA (l : LgS) (t : TxS) (sum : Nat) : AcS := ⟨(getS l.acs t.sender).1.name, ((getS l.acs t.sender).1.bal + (18446744073709551616 - sum)) % 18446744073709551616, ((getS l.acs t.sender).1.seq + 1) % 18446744073709551616⟩
def doneS (l : LgS) (t : TxS) (sum : Nat) : LgS := ⟨t.trs.foldl payS (putS (doneA l t sum) l.acs), (l.col + t.fee) % 18446744073709551616⟩
theorem mod_u64 {n : Nat} : U64 (n % 18446744073709551616) := Nat.mod_lt _ (by omega)
theorem getS_sm {acs : List AcS} {name : List UInt8} (h : ∀ a ∈ acs, SmAc a) : SmAc (getS acs name).1 := by
 unfold getS
 split
 ·rename_i a ha
  exact h a (List.mem_of_find?_eq_some ha)
 ·exact ⟨by simp [ac0], by simp [ac0, U64], by simp [ac0, U64]⟩
theorem payB_sm {x : TrS} {acs : List AcS} (hx : SmTr x) (h : ∀ a ∈ acs, SmAc a) : SmAc (payB x acs) := by
 unfold payB
 split
 ·exact getS_sm h
 ·exact ⟨hx.1, by simp [U64], by simp [U64]⟩
theorem payS_sm {x : TrS} {acs : List AcS} (hx : SmTr x) (h : ∀ a ∈ acs, SmAc a) : (∀ a ∈ payS acs x, SmAc a) ∧ (payS acs x).length ≤ acs.length + 1 := by
 have hb := payB_sm hx h
 exact ⟨fun a ha => (mem_putS ha).elim (fun e => e ▸ ⟨hb.1, mod_u64, hb.2.2⟩) (h a), putS_len _ _⟩
theorem pays_sm : ∀ (l : List TrS) (acs : List AcS), (∀ x ∈ l, SmTr x) → (∀ a ∈ acs, SmAc a) → (∀ a ∈ l.foldl payS acs, SmAc a) ∧ (l.foldl payS acs).length ≤ acs.length + l.length
 | [], acs, _, h => ⟨h, by simp⟩
 | x :: r, acs, hl, h => by
  have h1 := payS_sm (hl x (by simp)) h
  have h2 := pays_sm r (payS acs x) (fun y hy => hl y (by simp [hy])) h1.1
  exact ⟨h2.1, by have := h2.2; simp only [List.foldl_cons, List.length_cons]; omega⟩
theorem doneS_sm {l : LgS} {t : TxS} {sum : Nat} (hl : SmLg l) (ht : SmTx t) : (∀ a ∈ (doneS l t sum).acs, SmAc a) ∧ (doneS l t sum).acs.length ≤ l.acs.length + 1 + t.trs.length ∧ U64 (doneS l t sum).col := by
 have ha : SmAc (doneA l t sum) := ⟨(getS_sm hl.2.2).1, mod_u64, mod_u64⟩
 have h1 := pays_sm t.trs (putS (doneA l t sum) l.acs) ht.2.2.2.2.2.2 fun a h => (mem_putS h).elim (fun e => e ▸ ha) (hl.2.2 a)
 have h2 := putS_len (doneA l t sum) l.acs
 exact ⟨h1.1, by have := h1.2; unfold doneS; dsimp only; omega, mod_u64⟩
theorem done_r (l : LgS) (t : TxS) (sum : Nat) (hl : SmLg l) (ht : SmTx t) (hs : U64 sum) : SemR Tryz.prog G 95 [lgM l, txM t, .int .u64 sum] [] 0 (lgM (doneS l t sum)) [] 0 := by
 have hda : SmAc (doneA l t sum) := ⟨(getS_sm hl.2.2).1, mod_u64, mod_u64⟩
 have hgs : SmAc (getS l.acs t.sender).1 := getS_sm hl.2.2
 obtain ⟨acs, col⟩ := l
 obtain ⟨snd, seq, gas, fee, memo, trs⟩ := t
 obtain ⟨h1, h2, h3, h4, h5, h6, h7⟩ := ht
 obtain ⟨hl1, hl2, hl3⟩ := hl
 dsimp only at h1 h2 h3 h4 h5 h6 h7 hl1 hl2 hl3 hgs
 have c1 := get_m (G := G) acs col snd (by omega)
 have c2 := put_r (G := G) (doneA ⟨acs, col⟩ ⟨snd, seq, gas, fee, memo, trs⟩ sum) acs (by omega)
 have hp1 := putS_len (doneA ⟨acs, col⟩ ⟨snd, seq, gas, fee, memo, trs⟩ sum) acs
 have hp2 : ∀ a ∈ putS (doneA ⟨acs, col⟩ ⟨snd, seq, gas, fee, memo, trs⟩ sum) acs, SmAc a := fun a h => (mem_putS h).elim (fun e => e ▸ hda) (hl3 a)
 unfold doneS
 dsimp only
 generalize putS (doneA ⟨acs, col⟩ ⟨snd, seq, gas, fee, memo, trs⟩ sum) acs = z0 at *
 unfold doneA at c2
 dsimp only at c2
 generalize getS acs snd = g at *
 obtain ⟨⟨gn, gb, gs⟩, gok⟩ := g
 obtain ⟨hg1, hg2, hg3⟩ := hgs
 unfold U64 at hg2 hg3 hl2 h4 hs
 dsimp only at c1 c2 hg1 hg2 hg3
 unfold acM at c1 c2
 dsimp only at c1 c2
 have e1 := EqF.mk (show IntKind.u64.wrap ((gb : Int) - (sum : Int)) = (((gb + (18446744073709551616 - sum)) % 18446744073709551616 : Nat) : Int) by rw [wu64]; omega)
 have e2 := EqF.mk (show IntKind.u64.wrap ((gs : Int) + 1) = (((gs + 1) % 18446744073709551616 : Nat) : Int) by rw [wu64]; omega)
 have e3 := EqF.mk (show IntKind.u64.wrap ((col : Int) + (fee : Int)) = (((col + fee) % 18446744073709551616 : Nat) : Int) by rw [wu64]; omega)
 generalize (gb + (18446744073709551616 - sum)) % 18446744073709551616 = nb at *
 generalize (gs + 1) % 18446744073709551616 = ns at *
 generalize (col + fee) % 18446744073709551616 = nc at *
 unfold lgM txM
 dsimp only
 generalize hR : trs.foldl payS z0 = R
 refine srq seat Tryz.func95 71 ?_
 refine go1 ?_
 (iterate 6 ((all_goals (refine go1 ?_)); (all_goals (first | (refine g_call3 rfl (fun _ h => h) rfl (semR_of_semC (c1)) rfl rfl ?_) | (refine g_call3 rfl (fun _ h => h) rfl (c2) rfl rfl ?_) | ((first | ((with_reducible apply n_grd); (case hf => exact ⟨rfl, rfl, rfl⟩)) | ((with_reducible apply c_cond); (case he => exact rfl))); (all_goals intro h); (all_goals (try simp only [bx] at h)); (all_goals (try (exfalso; omega)))) | skip))))
 refine c_loop (Nat × List AcS) (fun x => [(37, .int .i64 x.1), (36, .int .i64 trs.length), (35, .sl trs.length (trs.map trM)), (9, .sl x.2.length (x.2.map acM)), (6, .ptr 2 2 0 0 []), (4, .ptr 1 6 0 0 []), (3, .ptr 0 2 0 0 [])]) (fun x => [(0, ⟨33, 2, false, 0, [.st [.sl acs.length (acs.map acM), .int .u64 col]]⟩), (1, ⟨98, 6, false, 0, [.st [.str snd, .int .u64 seq, .int .u64 gas, .int .u64 fee, .str memo, .sl trs.length (trs.map trM)]]⟩), (2, ⟨33, 2, false, 0, [.st [.nils, .int .u64 0]]⟩)]) 3 (fun x => x.1 ≤ trs.length ∧ x.2.length ≤ acs.length + 1 + x.1 ∧ (∀ a ∈ x.2, SmAc a) ∧ (trs.drop x.1).foldl payS x.2 = R) (fun x => trs.length - x.1) (0, z0) ⟨Nat.zero_le _, by dsimp only; omega, hp2, by dsimp only; rw [List.drop_zero]; exact hR⟩ (by dsimp only; exact (vm [(0, _), (1, _), (2, _)] [])) ?_
 clear hR hp1 hp2 c1 c2
 rintro ⟨k, z⟩ ⟨hk, hz, hzs, hRk⟩
 try dsimp only
 dsimp only at hk hz hzs hRk
 refine go1 ?_
 ((with_reducible apply c_cond); (case he => exact rfl); (all_goals intro h))
 ·have hk' : k < trs.length := by have := of_decide_eq_true h; omega
  have hel := trs_at hk'
  have hx := h7 _ (List.getElem_mem hk')
  have hps := payS_sm hx hzs
  rw [List.drop_eq_getElem_cons hk', List.foldl_cons] at hRk
  have c3 := find_m (G := G) z trs[k].to_ (by omega)
  have c4 := put_r (G := G) ⟨(payB trs[k] z).name, ((payB trs[k] z).bal + trs[k].amt) % 18446744073709551616, (payB trs[k] z).seq⟩ z (by omega)
  have hpb := payB_sm hx hzs
  have hsp := findS_spec trs[k].to_ z 0
  unfold payS at hps hRk
  have hpay : payB trs[k] z = if (getS z trs[k].to_).2 then (getS z trs[k].to_).1 else ⟨trs[k].to_, 0, 0⟩ := rfl
  generalize putS ⟨(payB trs[k] z).name, ((payB trs[k] z).bal + trs[k].amt) % 18446744073709551616, (payB trs[k] z).seq⟩ z = z2 at *
  generalize payB trs[k] z = pb at *
  generalize trs[k] = x at *
  obtain ⟨to_, amt⟩ := x
  obtain ⟨pn, pbal, pseq⟩ := pb
  obtain ⟨hx1, hx2⟩ := hx
  obtain ⟨hpb1, hpb2, hpb3⟩ := hpb
  unfold U64 at hx2 hpb2
  dsimp only at c3 c4 hsp hpay hx1 hx2 hpb2
  unfold acM at c4
  dsimp only at c4
  replace hel : idxL (trs.map trM) trs.length (k : Int) = some (.st [.str to_, .int .u64 amt]) := hel
  have hel := SomF.mk hel
  have e4 := EqF.mk (show IntKind.u64.wrap ((pbal : Int) + (amt : Int)) = (((pbal + amt) % 18446744073709551616 : Nat) : Int) by rw [wu64]; omega)
  generalize hnb : (pbal + amt) % 18446744073709551616 = nb2 at *
  rcases hsp with ⟨f1, f2⟩ | ⟨j, a, f1, f2, f3⟩
  ·rw [f1] at c3
   have hg : getS z to_ = (ac0, false) := by unfold getS; rw [f2]
   rw [hg, if_neg (by simp)] at hpay
   simp only [AcS.mk.injEq] at hpay
   obtain ⟨rfl, rfl, rfl⟩ := hpay
   have e5 := EqF.mk (show IntKind.u64.wrap ((0 : Int) + (amt : Int)) = (nb2 : Int) by rw [wu64]; omega)
   refine go1 ?_
   (iterate 8 ((all_goals (refine go1 ?_)); (all_goals (first | (refine g_call3 rfl (fun _ h => h) rfl (semR_of_semC (c3)) rfl rfl ?_) | (refine g_call3 rfl (fun _ h => h) rfl (c4) rfl rfl ?_) | ((first | ((with_reducible apply n_grd); (case hf => exact ⟨rfl, rfl, rfl⟩)) | ((with_reducible apply c_cond); (case he => exact rfl))); (all_goals intro h); (all_goals (try simp only [bx] at h)); (all_goals (try (exfalso; omega)))) | skip))))
   exact ⟨(k + 1, z2), ⟨by dsimp only; omega, by dsimp only; omega, hps.1, hRk⟩, by dsimp only; omega, (by dsimp only; exact (vm [(0, _), (1, _), (2, _)] []))⟩
  ·rw [f1, Nat.zero_add] at c3
   have hg : getS z to_ = (a, true) := by unfold getS; rw [f3]
   rw [hg, if_pos rfl] at hpay
   dsimp only at hpay
   obtain ⟨hj, ha⟩ := List.getElem?_eq_some_iff.1 f2
   have hel2 := acs_at hj
   rw [ha, ← hpay] at hel2
   replace hel2 : idxL (z.map acM) z.length (j : Int) = some (.st [.str pn, .int .u64 pbal, .int .u64 pseq]) := hel2
   have hel2 := SomF.mk hel2
   clear f1 f2 f3 ha hpay
   refine go1 ?_
   (iterate 8 ((all_goals (refine go1 ?_)); (all_goals (first | (refine g_call3 rfl (fun _ h => h) rfl (semR_of_semC (c3)) rfl rfl ?_) | (refine g_call3 rfl (fun _ h => h) rfl (c4) rfl rfl ?_) | ((first | ((with_reducible apply n_grd); (case hf => exact ⟨rfl, rfl, rfl⟩)) | ((with_reducible apply c_cond); (case he => exact rfl))); (all_goals intro h); (all_goals (try simp only [bx] at h)); (all_goals (try (exfalso; omega)))) | skip))))
   exact ⟨(k + 1, z2), ⟨by dsimp only; omega, by dsimp only; omega, hps.1, hRk⟩, by dsimp only; omega, (by dsimp only; exact (vm [(0, _), (1, _), (2, _)] []))⟩
 ·have hk' : k = trs.length := by have := of_decide_eq_false h; omega
  subst hk'
  rw [List.drop_length] at hRk
  have hRk : z = R := hRk
  subst hRk
  refine go1 ?_
  refine go0 ?_
  refine ⟨[_], [], [], rfl, rfl, trivial, rfl, ⟨?_, trivial⟩, ?_⟩
  ·exact .inl ⟨rfl, rfl⟩
  ·exact mm
end
section
variable {G : GS}
attribute [local irreducible] vOpsN vOpsG vOpsD vOpGD NextD vC SeqQ BlockQ
def faultS (l : LgS) (price : Nat) (t : TxS) (size : Nat) : Nat :=
 if (getS l.acs t.sender).2 = false then 13 else if (getS l.acs t.sender).1.seq ≠ t.seq then 14 else if t.seq = 18446744073709551615 then 6 else if t.gas < usedS size t.trs.length then 15 else
 if (mulS t.gas price).2 = false then 6 else if t.fee < (mulS t.gas price).1 then 16 else if (costS t).2 = false then 6 else if (getS l.acs t.sender).1.bal < (costS t).1 then 17 else
 if 256 < (doneS l t (costS t).1).acs.length then 3 else 0
theorem fault_m (l : LgS) (price : Nat) (t : TxS) (size : Nat) (hl : SmLg l) (ht : SmTx t) (hp : U64 price) (hz : size ≤ 1000000000) : SemC Tryz.prog G 92 [lgM l, .int .u64 price, txM t, .int .i64 size] (.int .i64 (faultS l price t size)) := by
 have cd := done_r (G := G) l t (costS t).1 hl ht (costS_u64 t)
 have cc := cost_m (G := G) t ht
 have hds := doneS_sm (sum := (costS t).1) hl ht
 generalize hr : faultS l price t size = R
 unfold faultS at hr
 generalize doneS l t (costS t).1 = D at *
 generalize costS t = cst at *
 obtain ⟨cv, cb⟩ := cst
 obtain ⟨acs, col⟩ := l
 obtain ⟨snd, seq, gas, fee, memo, trs⟩ := t
 obtain ⟨h1, h2, h3, h4, h5, h6, h7⟩ := ht
 obtain ⟨hl1, hl2, hl3⟩ := hl
 obtain ⟨dacs, dcol⟩ := D
 dsimp only at h1 h2 h3 h4 h5 h6 h7 hl1 hl2 hl3 hds hr cd cc
 have c1 := get_m (G := G) acs col snd (by omega)
 have cu := used_m (G := G) (size : Int) (trs.length : Int) (by omega) (by omega)
 have cn := need_m (G := G) gas price h3 hp
 have hul : usedS (size : Int) (trs.length : Int) < 18446744073709551616 := by unfold usedS limS; omega
 generalize usedS (size : Int) (trs.length : Int) = us at *
 generalize mulS gas price = mu at *
 obtain ⟨mv, mb⟩ := mu
 generalize getS acs snd = g at *
 obtain ⟨⟨gn, gb, gs⟩, gok⟩ := g
 dsimp only at c1 cn hr hds
 unfold acM at c1
 unfold txM lgM at *
 dsimp only at *
 cases gok with
 | false =>
  rw [if_pos rfl] at hr
  refine scq seat Tryz.func92 79 ?_
  refine go1 ?_
  refine g_call2 rfl (fun _ h => h) rfl (semR_of_semC (c1)) rfl lm ?_
  refine go1 ?_
  refine go0 ?_
  refine congrArg (MV.int .i64) ?_
  (repeat' split at hr) <;> omega
 | true =>
  rw [if_neg (by simp)] at hr
  refine scq seat Tryz.func92 79 ?_
  refine go1 ?_
  refine g_call2 rfl (fun _ h => h) rfl (semR_of_semC (c1)) rfl lm ?_
  refine go1 ?_
  ((with_reducible apply c_cond); (case he => exact rfl); (all_goals intro h))
  ·have k0 : ¬ (gs : Int) = (seq : Int) := by simpa using h
   have k1 : gs ≠ seq := by omega
   refine go1 ?_
   refine go0 ?_
   refine congrArg (MV.int .i64) ?_
   (repeat' split at hr) <;> omega
  have k0 : (gs : Int) = (seq : Int) := by simpa using h
  have k1 : gs = seq := by omega
  refine go1 ?_
  ((with_reducible apply c_cond); (case he => exact rfl); (all_goals intro h))
  ·have k2 : (seq : Int) = 18446744073709551615 := by simpa using h
   refine go1 ?_
   refine go0 ?_
   refine congrArg (MV.int .i64) ?_
   (repeat' split at hr) <;> omega
  have k2 : ¬ (seq : Int) = 18446744073709551615 := by simpa using h
  refine go1 ?_
  refine c_draw [(0, false), (1, false), (2, false), (3, false), (4, false), (5, false), (6, true), (7, false), (8, false)] ?_
  refine go1 ?_
  refine gd_call1 rfl (fun _ h => h) rfl [] (semR_of_semC (cu)) rfl [] trivial lm rfl ?_
  refine go1 ?_
  ((with_reducible apply c_cond); (case he => exact rfl); (all_goals intro h))
  ·have k3 := of_decide_eq_true h
   refine go1 ?_
   refine go0 ?_
   refine congrArg (MV.int .i64) ?_
   (repeat' split at hr) <;> omega
  have k3 := of_decide_eq_false h
  refine go1 ?_
  refine g_call2 rfl (fun _ h => h) rfl (semR_of_semC (cn)) rfl lm ?_
  refine go1 ?_
  refine g_call2 rfl (fun _ h => h) rfl (semR_of_semC (cc)) rfl lm ?_
  refine go1 ?_
  cases mb with
  | false =>
   rw [if_neg (by omega), if_neg (by omega), if_neg (by omega), if_pos rfl] at hr
   refine go1 ?_
   refine go0 ?_
   refine congrArg (MV.int .i64) ?_
   (repeat' split at hr) <;> omega
  | true =>
   rw [if_neg (by omega), if_neg (by omega), if_neg (by omega), if_neg (by simp)] at hr
   refine go1 ?_
   ((with_reducible apply c_cond); (case he => exact rfl); (all_goals intro h))
   ·have k4 := of_decide_eq_true h
    rw [if_pos (by omega)] at hr
    refine go1 ?_
    refine go0 ?_
    refine congrArg (MV.int .i64) ?_
    (repeat' split at hr) <;> omega
   have k4 := of_decide_eq_false h
   rw [if_neg (by omega)] at hr
   cases cb with
   | false =>
    rw [if_pos rfl] at hr
    refine go1 ?_
    refine go0 ?_
    refine congrArg (MV.int .i64) ?_
    (repeat' split at hr) <;> omega
   | true =>
    rw [if_neg (by simp)] at hr
    refine go1 ?_
    ((with_reducible apply c_cond); (case he => exact rfl); (all_goals intro h))
    ·have k5 := of_decide_eq_true h
     refine go1 ?_
     refine go0 ?_
     refine congrArg (MV.int .i64) ?_
     (repeat' split at hr) <;> omega
    have k5 := of_decide_eq_false h
    refine go1 ?_
    refine g_call2 rfl (fun _ h => h) rfl (cd) rfl lm ?_
    refine go1 ?_
    ((with_reducible apply c_cond); (case he => exact rfl); (all_goals intro h))
    ·have k6 := of_decide_eq_true h
     refine go1 ?_
     refine go0 ?_
     refine congrArg (MV.int .i64) ?_
     (repeat' split at hr) <;> omega
    have k6 := of_decide_eq_false h
    refine go1 ?_
    refine go0 ?_
    refine congrArg (MV.int .i64) ?_
    (repeat' split at hr) <;> omega
def txS (l : LgS) (price : Nat) (raw : List UInt8) : LgS × ResS :=
 if validLS l ≠ 0 then (l, ⟨1, [], 0, 0, 0⟩) else if (decodeTxS raw).2 ≠ 0 then (l, ⟨(decodeTxS raw).2, [], 0, 0, 0⟩) else
 let t := (decodeTxS raw).1
 let e := faultS l price t raw.length
 (if e ≠ 0 then l else doneS l t (costS t).1, ⟨e, t.sender, t.seq, t.gas, prioS t.fee t.gas⟩)
theorem decodeTxS_sm {raw : List UInt8} : SmTx (decodeTxS raw).1 := by
 unfold decodeTxS
 split
 ·exact tx0_sm
 ·rename_i h
  split
  ·exact tx0_sm
  ·split
   ·exact tx0_sm
   ·exact rd_sm (by omega)
theorem dec_len {raw : List UInt8} (h : (decodeTxS raw).2 = 0) : raw.length ≤ 4096 := by
 unfold decodeTxS at h
 split at h
 ·exact absurd h (by decide)
 ·omega
theorem tx_r (l : LgS) (price : Nat) (raw : List UInt8) (hl : SmLg l) (hp : U64 price) (hraw : raw.length ≤ 140737488355328) : SemR Tryz.prog G 52 [lgM l, .int .u64 price, .sl raw.length (u8s raw)] [] 0 (.tup [lgM (txS l price raw).1, resM (txS l price raw).2]) [] 0 := by
 have cv := validL_m (G := G) l hl
 have cd := decodeTx_r (G := G) raw hraw
 have hsm := decodeTxS_sm (raw := raw)
 have cc := cost_m (G := G) _ hsm
 have cf := fun he : (decodeTxS raw).2 = 0 => fault_m (G := G) l price _ raw.length hl hsm hp (by have := dec_len he; omega)
 have cp := prio_m (G := G) (decodeTxS raw).1.fee (decodeTxS raw).1.gas hsm.2.2.2.1 hsm.2.2.1
 have cdn := done_r (G := G) l _ (costS (decodeTxS raw).1).1 hl hsm (costS_u64 _)
 generalize hr : txS l price raw = R
 obtain ⟨⟨Racs, Rcol⟩, ⟨Rcode, Rsnd, Rseq, Rgas, Rprio⟩⟩ := R
 unfold txS at hr
 generalize decodeTxS raw = d at *
 obtain ⟨t, e⟩ := d
 dsimp only at *
 generalize validLS l = vl at *
 generalize costS t = cst at *
 obtain ⟨cstv, cstb⟩ := cst
 dsimp only at *
 generalize doneS l t cstv = D at *
 generalize faultS l price t raw.length = fe at *
 obtain ⟨snd, seq, gas, fee, memo, trs⟩ := t
 dsimp only at *
 generalize prioS fee gas = pr at *
 obtain ⟨acs, col⟩ := l
 obtain ⟨dacs, dcol⟩ := D
 obtain ⟨h1, h2, h3, h4, h5, h6, h7⟩ := hsm
 obtain ⟨hl1, hl2, hl3⟩ := hl
 dsimp only at h1 h2 h3 h4 h5 h6 h7 hl1 hl2 hl3
 unfold lgM txM at *
 unfold resM
 dsimp only at *
 by_cases hv : vl = 0
 ·subst hv
  rw [if_neg (by simp)] at hr
  by_cases he : e = 0
  ·subst he
   replace cf := cf rfl
   rw [if_neg (by simp)] at hr
   have hr2 := hr
   simp only [Prod.mk.injEq, ResS.mk.injEq] at hr2
   obtain ⟨hD, rfl, rfl, rfl, rfl, rfl⟩ := hr2
   clear hr
   refine srq seat Tryz.func52 61 ?_
   refine go1 ?_
   refine g_call2 rfl (fun _ h => h) rfl (semR_of_semC (cv)) rfl lm ?_
   refine go1 ?_
   refine g_call2 rfl (fun _ h => h) rfl (cd) rfl lm ?_
   refine go1 ?_
   refine c_draw [(0, false), (1, false), (2, false), (3, false), (4, false), (5, true), (6, false), (7, false), (8, false), (9, false), (10, false), (11, false), (12, false), (13, false), (14, false), (15, false), (16, true), (17, false), (18, false), (19, false)] ?_
   refine go1 ?_
   refine gd_call1 rfl (fun _ h => h) rfl [] (semR_of_semC (cf)) rfl [] trivial lm rfl ?_
   refine go1 ?_
   refine gd_call1 rfl (fun _ h => h) rfl [] (semR_of_semC (cp)) rfl [] trivial lm rfl ?_
   refine go1 ?_
   ((with_reducible apply c_cond); (case he => exact rfl); (all_goals intro h))
   ·have hfe : fe ≠ 0 := fun e => by subst e; simp at h
    rw [if_pos hfe] at hD
    simp only [LgS.mk.injEq] at hD
    obtain ⟨rfl, rfl⟩ := hD
    refine go1 ?_
    refine c_draw [(0, false), (1, false), (2, false), (3, false)] ?_
    refine go1 ?_
    refine go0 ?_
    refine ⟨[_, _], [], [], rfl, rfl, trivial, rfl, ⟨?_, ?_, trivial⟩, ?_⟩
    ·exact rv
    ·exact rv
    ·exact mm
   ·have hfe : fe = 0 := by
     have : ¬ (fe : Int) ≠ 0 := by simpa using h
     omega
    subst hfe
    rw [if_neg (by simp)] at hD
    simp only [LgS.mk.injEq] at hD
    obtain ⟨rfl, rfl⟩ := hD
    refine go1 ?_
    refine g_call2 rfl (fun _ h => h) rfl (semR_of_semC (cc)) rfl lm ?_
    refine go1 ?_
    refine c_draw [(0, false), (1, false), (2, false), (3, true), (4, false), (5, false), (6, false)] ?_
    refine go1 ?_
    refine gd_call1 rfl (fun _ h => h) rfl [] (cdn) rfl [] trivial lm rfl ?_
    refine go1 ?_
    refine go0 ?_
    refine ⟨[_, _], [], [], rfl, rfl, trivial, rfl, ⟨?_, ?_, trivial⟩, ?_⟩
    ·exact rv
    ·exact rv
    ·exact mm
  ·rw [if_pos he] at hr
   simp only [Prod.mk.injEq, LgS.mk.injEq, ResS.mk.injEq] at hr
   obtain ⟨⟨rfl, rfl⟩, rfl, rfl, rfl, rfl, rfl⟩ := hr
   refine srq seat Tryz.func52 61 ?_
   refine go1 ?_
   refine g_call2 rfl (fun _ h => h) rfl (semR_of_semC (cv)) rfl lm ?_
   refine go1 ?_
   refine g_call2 rfl (fun _ h => h) rfl (cd) rfl lm ?_
   refine go1 ?_
   ((with_reducible apply c_cond); (case he => exact rfl); (all_goals intro h))
   ·refine go1 ?_
    refine go0 ?_
    refine ⟨[_, _], [], [], rfl, rfl, trivial, rfl, ⟨?_, ?_, trivial⟩, ?_⟩
    ·exact rv
    ·exact rv
    ·exact mm
   ·exfalso
    have : ¬ (e : Int) ≠ 0 := by simpa using h
    omega
 ·rw [if_pos hv] at hr
  simp only [Prod.mk.injEq, LgS.mk.injEq, ResS.mk.injEq] at hr
  obtain ⟨⟨rfl, rfl⟩, rfl, rfl, rfl, rfl, rfl⟩ := hr
  refine srq seat Tryz.func52 61 ?_
  refine go1 ?_
  refine g_call2 rfl (fun _ h => h) rfl (semR_of_semC (cv)) rfl lm ?_
  refine go1 ?_
  ((with_reducible apply c_cond); (case he => exact rfl); (all_goals intro h))
  ·refine go1 ?_
   refine go0 ?_
   refine ⟨[_, _], [], [], rfl, rfl, trivial, rfl, ⟨?_, ?_, trivial⟩, ?_⟩
   ·exact rv
   ·exact rv
   ·exact mm
  ·exfalso
   have : ¬ (vl : Int) ≠ 0 := by simpa using h
   omega
end
section
variable {G : GS}
attribute [local irreducible] vOpsN vOpsG vOpsD vOpGD NextD vC SeqQ BlockQ
theorem trsS_le : ∀ l : List TrS, trsS l ≤ 100
 | [] => by simp [trsS]
 | x :: r => by
  have := trsS_le r
  unfold trsS
  split
  ·omega
  ·split <;> omega
theorem validTxS_le (t : TxS) : validTxS t ≤ 100 := by
 have := trsS_le t.trs
 unfold validTxS
 (repeat' split) <;> omega
theorem decodeTxS_le (raw : List UInt8) : (decodeTxS raw).2 ≤ 100 := by
 unfold decodeTxS
 split
 ·simp
 ·split
  ·simp
  ·split
   ·exact validTxS_le _
   ·simp
theorem faultS_le (l : LgS) (p : Nat) (t : TxS) (n : Nat) : faultS l p t n ≤ 100 := by
 unfold faultS
 (repeat' split) <;> omega
theorem faultS_0 {l : LgS} {p : Nat} {t : TxS} {n : Nat} (h : faultS l p t n = 0) : (doneS l t (costS t).1).acs.length ≤ 256 := by
 unfold faultS at h
 (repeat' split at h) <;> omega
theorem prioS_u64 {f g : Nat} (hf : U64 f) : U64 (prioS f g) := by
 unfold prioS mulDivS U64 at *
 split
 ·omega
 ·rename_i hg
  by_cases hc : g = 0 ∨ g ≤ f * 1000 / 18446744073709551616
  ·simp [hc]
  ·simp only [hc, if_false, if_true]
   show f * 1000 / g < _
   rw [Nat.div_lt_iff_lt_mul (by omega)]
   have : f * 1000 < g * 18446744073709551616 := (Nat.div_lt_iff_lt_mul (by omega)).1 (by omega)
   omega
theorem txS_sm {l : LgS} {p : Nat} {raw : List UInt8} (hl : SmLg l) : SmLg (txS l p raw).1 ∧ SmRes (txS l p raw).2 := by
 have hd := decodeTxS_sm (raw := raw)
 have h1 := decodeTxS_le raw
 have h2 := faultS_le l p (decodeTxS raw).1 raw.length
 have hz : ∀ c, c ≤ 100 → SmRes ⟨c, [], 0, 0, 0⟩ := fun c hc => ⟨by dsimp only; omega, by simp, by simp [U64], by simp [U64], by simp [U64]⟩
 unfold txS
 split
 ·exact ⟨hl, hz 1 (by omega)⟩
 ·split
  ·exact ⟨hl, hz _ h1⟩
  ·refine ⟨?_, by dsimp only; omega, hd.1, hd.2.1, hd.2.2.1, prioS_u64 hd.2.2.2.1⟩
   dsimp only
   split
   ·exact hl
   ·rename_i h3
    have h4 := faultS_0 (Decidable.not_not.1 h3)
    have h5 := doneS_sm (sum := (costS (decodeTxS raw).1).1) hl hd
    exact ⟨by omega, h5.2.2, h5.1⟩
def allG (p : Nat) : List (List UInt8) → LgS → List ResS → LgS × List ResS
 | [], l, out => (l, out)
 | raw :: r, l, out => allG p r (txS l p raw).1 (out ++ [(txS l p raw).2])
theorem allG_sm (p : Nat) : ∀ (r : List (List UInt8)) (l : LgS) (out : List ResS), SmLg l → (∀ x ∈ out, SmRes x) → SmLg (allG p r l out).1 ∧ (∀ x ∈ (allG p r l out).2, SmRes x) ∧ (allG p r l out).2.length = out.length + r.length
 | [], l, out, h1, h2 => ⟨h1, h2, rfl⟩
 | raw :: r, l, out, h1, h2 => by
  have h3 := txS_sm (p := p) (raw := raw) h1
  have := allG_sm p r (txS l p raw).1 (out ++ [(txS l p raw).2]) h3.1 (all_app h2 fun x hx => by rw [List.mem_singleton.1 hx]; exact h3.2)
  refine ⟨this.1, this.2.1, ?_⟩
  have h4 := this.2.2
  rw [allG, h4, List.length_append, List.length_singleton, List.length_cons]
  omega
theorem all_r (l : LgS) (p : Nat) (raws : List (List UInt8)) (hl : SmLg l) (hp : U64 p) (hn : raws.length ≤ 1000000) (hb : ∀ b ∈ raws, b.length ≤ 140737488355328) : SemR Tryz.prog G 55 [lgM l, .int .u64 p, rawsM raws] [] 0 (.tup [lgM (allG p raws l []).1, .sl (allG p raws l []).2.length ((allG p raws l []).2.map resM)]) [] 0 := by
 generalize hr : allG p raws l [] = R
 obtain ⟨⟨Racs, Rcol⟩, Rout⟩ := R
 obtain ⟨acs0, col0⟩ := l
 unfold rawsM lgM
 dsimp only
 refine srq seat Tryz.func55 34 ?_
 refine go1 ?_
 refine c_loop (Nat × LgS × List ResS) (fun x => [(15, .int .i64 x.1), (14, .int .i64 raws.length), (13, .sl raws.length (raws.map rawM)), (8, .ms 2 5 0 x.2.2.length), (6, .ptr 1 2 0 0 []), (3, .ptr 0 2 0 0 []), (1, .int .u64 p)]) (fun x => [(0, ⟨33, 2, false, 0, [.st [.sl x.2.1.acs.length (x.2.1.acs.map acM), .int .u64 x.2.1.col]]⟩), (1, ⟨33, 2, false, 0, [.st [.nils, .int .u64 0]]⟩), (2, ⟨48, 5, true, 0, x.2.2.map resM⟩)]) 3 (fun x => x.1 ≤ raws.length ∧ x.2.2.length = x.1 ∧ SmLg x.2.1 ∧ allG p (raws.drop x.1) x.2.1 x.2.2 = (⟨Racs, Rcol⟩, Rout)) (fun x => raws.length - x.1) (0, ⟨acs0, col0⟩, []) ⟨Nat.zero_le _, rfl, hl, by dsimp only; rw [List.drop_zero]; exact hr⟩ (by dsimp only; exact (vm [(0, _), (1, _)] [])) ?_
 clear hr hl
 rintro ⟨k, ⟨acs, col⟩, out⟩ ⟨hk, hout, hsl, hR⟩
 try dsimp only
 dsimp only at hk hout hR
 refine go1 ?_
 ((with_reducible apply c_cond); (case he => exact rfl); (all_goals intro h))
 ·have hk' : k < raws.length := by have := of_decide_eq_true h; omega
  have hel := raws_at hk'
  have hbl := hb _ (List.getElem_mem hk')
  rw [List.drop_eq_getElem_cons hk', allG] at hR
  generalize raws[k] = raw at *
  replace hel : idxL (raws.map rawM) raws.length (k : Int) = some (.sl raw.length (u8s raw)) := hel
  have hel := SomF.mk hel
  have c1 := tx_r (G := G) ⟨acs, col⟩ p raw hsl hp hbl
  have hs2 := txS_sm (p := p) (raw := raw) hsl
  generalize txS ⟨acs, col⟩ p raw = y at *
  obtain ⟨⟨nacs, ncol⟩, ⟨ec, esn, esq, egs, epr⟩⟩ := y
  unfold lgM resM at c1
  dsimp only at c1 hR hs2
  refine go1 ?_
  refine g_call2 rfl (fun _ h => h) rfl (c1) rfl lm ?_
  refine go1 ?_
  ((with_reducible apply g_mem); (case hq => exact rfl); (case hv => exact rfl); (case he => (intro R hR; refine sms hR ?_; (refine And.intro (Nat.le_refl _) ?_; refine ⟨_, rfl, ?_⟩; refine And.intro ⟨(by simp), app_ok (by kernel_rfl) pf⟩ ?_; refine ⟨(out ++ [(⟨ec, esn, esq, egs, epr⟩ : ResS)]).map resM, sv (by simp; rfl), out.length + 1, sv pf, ?_⟩); exact hR)); (case hd => exact rfl))
  refine go1 ?_
  exact ⟨(k + 1, ⟨nacs, ncol⟩, out ++ [⟨ec, esn, esq, egs, epr⟩]), ⟨by dsimp only; omega, by dsimp only; rw [List.length_append, List.length_singleton]; omega, hs2.1, hR⟩, by dsimp only; omega, (by dsimp only; rw [List.length_append, List.length_singleton]; exact (vm [(0, _), (1, _), (2, _)] []))⟩
 ·have hk' : k = raws.length := by have := of_decide_eq_false h; omega
  subst hk'
  rw [List.drop_length, allG] at hR
  simp only [Prod.mk.injEq, LgS.mk.injEq] at hR
  obtain ⟨⟨rfl, rfl⟩, rfl⟩ := hR
  refine go1 ?_
  refine go0 ?_
  refine ⟨[_, _], [], [(2, out.length)], rfl, rfl, ?_, rfl, ⟨?_, ?_, trivial⟩, ?_⟩
  ·exact ⟨by show out.length ≤ (out.map resM).length; simp, trivial⟩
  ·exact .inl ⟨rfl, rfl⟩
  ·exact .inr ⟨rfl, rfl, rfl, Nat.le_of_eq (Nat.zero_add _), cut_all resM out⟩
  ·exact mm
def strictG (p : Nat) : List (List UInt8) → Nat → LgS → LgS × Nat × Nat
 | [], _, l => (l, 0, 0)
 | raw :: r, i, l => if (txS l p raw).2.code ≠ 0 then (lg0, i, (txS l p raw).2.code) else strictG p r (i + 1) (txS l p raw).1
theorem strict_r (l : LgS) (p : Nat) (raws : List (List UInt8)) (hl : SmLg l) (hp : U64 p) (hn : raws.length ≤ 1000000) (hb : ∀ b ∈ raws, b.length ≤ 140737488355328) : SemR Tryz.prog G 57 [lgM l, .int .u64 p, rawsM raws] [] 0 (.tup [lgM (strictG p raws 0 l).1, .int .i64 (strictG p raws 0 l).2.1, .int .i64 (strictG p raws 0 l).2.2]) [] 0 := by
 generalize hr : strictG p raws 0 l = R
 obtain ⟨⟨Racs, Rcol⟩, Rat, Re⟩ := R
 obtain ⟨acs0, col0⟩ := l
 unfold rawsM lgM
 dsimp only
 refine srq seat Tryz.func57 37 ?_
 refine go1 ?_
 refine c_loop (Nat × LgS) (fun x => [(15, .int .i64 x.1), (14, .int .i64 raws.length), (13, .sl raws.length (raws.map rawM)), (6, .ptr 1 2 0 0 []), (3, .ptr 0 2 0 0 []), (1, .int .u64 p)]) (fun x => [(0, ⟨33, 2, false, 0, [.st [.sl x.2.acs.length (x.2.acs.map acM), .int .u64 x.2.col]]⟩), (1, ⟨33, 2, false, 0, [.st [.nils, .int .u64 0]]⟩)]) 2 (fun x => x.1 ≤ raws.length ∧ SmLg x.2 ∧ strictG p (raws.drop x.1) x.1 x.2 = (⟨Racs, Rcol⟩, Rat, Re)) (fun x => raws.length - x.1) (0, ⟨acs0, col0⟩) ⟨Nat.zero_le _, hl, by dsimp only; rw [List.drop_zero]; exact hr⟩ (by dsimp only; exact (vm [(0, _), (1, _)] [])) ?_
 clear hr hl
 rintro ⟨k, ⟨acs, col⟩⟩ ⟨hk, hsl, hR⟩
 try dsimp only
 dsimp only at hk hR
 refine go1 ?_
 ((with_reducible apply c_cond); (case he => exact rfl); (all_goals intro h))
 ·have hk' : k < raws.length := by have := of_decide_eq_true h; omega
  have hel := raws_at hk'
  have hbl := hb _ (List.getElem_mem hk')
  rw [List.drop_eq_getElem_cons hk', strictG] at hR
  generalize raws[k] = raw at *
  replace hel : idxL (raws.map rawM) raws.length (k : Int) = some (.sl raw.length (u8s raw)) := hel
  have hel := SomF.mk hel
  have c1 := tx_r (G := G) ⟨acs, col⟩ p raw hsl hp hbl
  have hs2 := txS_sm (p := p) (raw := raw) hsl
  generalize txS ⟨acs, col⟩ p raw = y at *
  obtain ⟨⟨nacs, ncol⟩, ⟨ec, esn, esq, egs, epr⟩⟩ := y
  unfold lgM resM at c1
  dsimp only at c1 hR hs2
  refine go1 ?_
  refine g_call2 rfl (fun _ h => h) rfl (c1) rfl lm ?_
  refine go1 ?_
  ((with_reducible apply c_cond); (case he => exact rfl); (all_goals intro h))
  ·have he : ec ≠ 0 := fun e => by subst e; simp at h
   rw [if_pos he] at hR
   simp only [lg0, Prod.mk.injEq, LgS.mk.injEq] at hR
   obtain ⟨⟨rfl, rfl⟩, rfl, rfl⟩ := hR
   refine go1 ?_
   refine c_draw [(0, false), (1, false), (2, false), (3, false), (4, false), (5, false), (6, false)] ?_
   refine go1 ?_
   refine go0 ?_
   refine ⟨[_, _, _], [], [], rfl, rfl, trivial, rfl, ⟨?_, ?_, ?_, trivial⟩, ?_⟩
   ·exact .inr ⟨_, rfl, lm⟩
   ·exact rv
   ·exact rv
   ·exact mm
  ·have he : ec = 0 := by
    have : ¬ (ec : Int) ≠ 0 := by simpa using h
    omega
   rw [if_neg (by simp [he])] at hR
   refine go1 ?_
   exact ⟨(k + 1, ⟨nacs, ncol⟩), ⟨by dsimp only; omega, hs2.1, hR⟩, by dsimp only; omega, (by dsimp only; exact (vm [(0, _), (1, _)] []))⟩
 ·have hk' : k = raws.length := by have := of_decide_eq_false h; omega
  subst hk'
  rw [List.drop_length, strictG] at hR
  simp only [Prod.mk.injEq, LgS.mk.injEq] at hR
  obtain ⟨⟨rfl, rfl⟩, rfl, rfl⟩ := hR
  refine go1 ?_
  refine go0 ?_
  refine ⟨[_, _, _], [], [], rfl, rfl, trivial, rfl, ⟨?_, ?_, ?_, trivial⟩, ?_⟩
  ·exact .inl ⟨rfl, rfl⟩
  ·exact rv
  ·exact rv
  ·exact mm
end
section
variable {G : GS}
attribute [local irreducible] vOpsN vOpsG vOpsD vOpGD NextD vC SeqQ BlockQ
structure AppS where
 com : LgS
 chk : LgS
 nxt : LgS
 opn : Bool
 price : Nat
def appM (a : AppS) : MV := .st [lgM a.com, lgM a.chk, lgM a.nxt, .bool a.opn, .int .u64 a.price]
def SmApp (a : AppS) : Prop := SmLg a.com ∧ SmLg a.chk ∧ SmLg a.nxt ∧ U64 a.price
def app0 : AppS := ⟨lg0, lg0, lg0, false, 0⟩
theorem lg0_sm : SmLg lg0 := ⟨by simp [lg0], by simp [lg0, U64], by simp [lg0]⟩
theorem app0_sm : SmApp app0 := ⟨lg0_sm, lg0_sm, lg0_sm, by simp [app0, U64]⟩
abbrev lgZ : MV := .st [.nils, .int .u64 0]
theorem rel_lg0 {σ : Nat → Option Nat} {fz : Fz} : relV σ fz (lgM lg0) lgZ := .inr ⟨_, rfl, ⟨.inr ⟨rfl, rfl⟩, ⟨rfl, rfl⟩, trivial⟩⟩
theorem rel_lg {σ : Nat → Option Nat} {fz : Fz} {n : Nat} {l : List MV} {c : Int} : relV σ fz (.st [.sl n l, .int .u64 c]) (.st [.sl n l, .int .u64 c]) := .inl ⟨rfl, rfl⟩
def initS (acs : List AcS) (price : Nat) : AppS × Nat := if (genS acs).2 ≠ 0 then (app0, (genS acs).2) else (⟨(genS acs).1, (genS acs).1, lg0, false, price⟩, 0)
theorem initS_sm {acs : List AcS} {p : Nat} (h : ∀ a ∈ acs, SmAc a) (hp : U64 p) : SmApp (initS acs p).1 := by
 unfold initS
 split
 ·exact app0_sm
 ·exact ⟨genS_sm h, genS_sm h, lg0_sm, hp⟩
abbrev apZ : MV := .st [lgZ, lgZ, lgZ, .bool false, .int .u64 0]
theorem rel_app0 {σ : Nat → Option Nat} {fz : Fz} : relV σ fz (appM app0) apZ := .inr ⟨_, rfl, ⟨rel_lg0, rel_lg0, rel_lg0, ⟨rfl, rfl⟩, ⟨rfl, rfl⟩, trivial⟩⟩
theorem init_r (l : List AcS) (p : Nat) (hl : l.length ≤ 100000) (hsm : ∀ a ∈ l, SmAc a) (hp : U64 p) : SemR Tryz.prog G 16 [.sl l.length (l.map acM), .int .u64 p] [] 0 (.tup [appM (initS l p).1, .int .i64 (initS l p).2]) [] 0 := by
 have c1 := gen_r (G := G) l hl hsm
 unfold initS
 generalize genS l = g at *
 obtain ⟨⟨acs, col⟩, e⟩ := g
 unfold lgM at c1
 dsimp only at c1 ⊢
 by_cases he : e = 0
 ·subst he
  rw [if_neg (by simp)]
  refine srq seat Tryz.func16 21 ?_
  refine go1 ?_
  refine g_call2 rfl (fun _ h => h) rfl (c1) rfl lm ?_
  refine go1 ?_
  refine go0 ?_
  refine ⟨[_, _], [], [], rfl, rfl, trivial, rfl, ⟨?_, ?_, trivial⟩, ?_⟩
  ·exact .inr ⟨_, rfl, ⟨rel_lg, rel_lg, rel_lg0, ⟨rfl, rfl⟩, ⟨rfl, rfl⟩, trivial⟩⟩
  ·exact rv
  ·exact mm
 ·rw [if_pos he]
  refine srq seat Tryz.func16 21 ?_
  refine go1 ?_
  refine g_call2 rfl (fun _ h => h) rfl (c1) rfl lm ?_
  refine go1 ?_
  ((with_reducible apply c_cond); (case he => exact rfl); (all_goals intro h))
  ·refine go1 ?_
   refine go0 ?_
   refine ⟨[_, _], [], [], rfl, rfl, trivial, rfl, ⟨?_, ?_, trivial⟩, ?_⟩
   ·exact rel_app0
   ·exact rv
   ·exact mm
  ·exfalso
   have : ¬ (e : Int) ≠ 0 := by simpa using h
   omega
def checkS (a : AppS) (raw : List UInt8) : ResS := (txS a.chk a.price raw).2
def acceptS (a : AppS) (raw : List UInt8) : AppS := ⟨a.com, (txS a.chk a.price raw).1, a.nxt, a.opn, a.price⟩
theorem acceptS_sm {a : AppS} {raw : List UInt8} (h : SmApp a) : SmApp (acceptS a raw) := ⟨h.1, (txS_sm h.2.1).1, h.2.2⟩
theorem accept_m (a : AppS) (raw : List UInt8) (ha : SmApp a) (hraw : raw.length ≤ 140737488355328) : SemC Tryz.prog G 23 [appM a, .sl raw.length (u8s raw)] (appM (acceptS a raw)) := by
 have c1 := tx_r (G := G) a.chk a.price raw ha.2.1 ha.2.2.2 hraw
 unfold acceptS
 obtain ⟨⟨a1, b1⟩, ⟨a2, b2⟩, ⟨a3, b3⟩, op, price⟩ := a
 dsimp only at *
 generalize txS ⟨a2, b2⟩ price raw = y at *
 obtain ⟨⟨nacs, ncol⟩, ⟨ec, esn, esq, egs, epr⟩⟩ := y
 unfold appM lgM resM at *
 dsimp only at *
 refine scq seat Tryz.func23 16 ?_
 refine go1 ?_
 refine g_call2 rfl (fun _ h => h) rfl (c1) rfl lm ?_
 refine go1 ?_
 refine go0 ?_
 rfl
def resetS (a : AppS) : AppS := ⟨a.com, a.com, a.nxt, a.opn, a.price⟩
def comS (a : AppS) : AppS × Nat := if a.opn = false then (app0, 9) else (⟨a.nxt, a.nxt, lg0, false, a.price⟩, 0)
theorem comS_sm {a : AppS} (h : SmApp a) : SmApp (comS a).1 := by
 unfold comS
 split
 ·exact app0_sm
 ·exact ⟨h.2.2.1, h.2.2.1, lg0_sm, h.2.2.2⟩
theorem commit_m (a : AppS) : SemR Tryz.prog G 29 [appM a] [] 0 (.tup [appM (comS a).1, .int .i64 (comS a).2]) [] 0 := by
 unfold comS
 obtain ⟨⟨a1, b1⟩, ⟨a2, b2⟩, ⟨a3, b3⟩, op, price⟩ := a
 dsimp only
 cases op with
 | false =>
  rw [if_pos rfl]
  show SemR _ _ _ [.st [.st [.sl a1.length (a1.map acM), .int .u64 b1], .st [.sl a2.length (a2.map acM), .int .u64 b2], .st [.sl a3.length (a3.map acM), .int .u64 b3], .bool false, .int .u64 price]] _ _ _ _ _
  refine srq seat Tryz.func29 15 ?_
  refine go1 ?_
  refine go0 ?_
  refine ⟨[_, _], [], [], rfl, rfl, trivial, rfl, ⟨?_, ?_, trivial⟩, ?_⟩
  ·exact rel_app0
  ·exact rv
  ·exact mm
 | true =>
  rw [if_neg (by simp)]
  show SemR _ _ _ [.st [.st [.sl a1.length (a1.map acM), .int .u64 b1], .st [.sl a2.length (a2.map acM), .int .u64 b2], .st [.sl a3.length (a3.map acM), .int .u64 b3], .bool true, .int .u64 price]] _ _ _ _ _
  refine srq seat Tryz.func29 15 ?_
  refine go1 ?_
  refine go0 ?_
  refine ⟨[_, _], [], [], rfl, rfl, trivial, rfl, ⟨?_, ?_, trivial⟩, ?_⟩
  ·exact .inr ⟨_, rfl, ⟨rel_lg, rel_lg, rel_lg0, ⟨rfl, rfl⟩, ⟨rfl, rfl⟩, trivial⟩⟩
  ·exact rv
  ·exact mm
def finS (a : AppS) (raws : List (List UInt8)) : AppS × List ResS × Nat := if a.opn = true then (app0, [], 9) else if 512 < raws.length then (app0, [], 3) else
 (⟨a.com, a.chk, (allG a.price raws a.com []).1, true, a.price⟩, (allG a.price raws a.com []).2, 0)
theorem finS_sm {a : AppS} {raws : List (List UInt8)} (h : SmApp a) : SmApp (finS a raws).1 ∧ (∀ r ∈ (finS a raws).2.1, SmRes r) ∧ (finS a raws).2.1.length ≤ raws.length := by
 have h1 := allG_sm a.price raws a.com [] h.1 (by simp)
 unfold finS
 split
 ·exact ⟨app0_sm, by simp, by simp⟩
 split
 ·exact ⟨app0_sm, by simp, by simp⟩
 ·exact ⟨⟨h.1, h.2.1, h1.1, h.2.2.2⟩, h1.2.1, by have := h1.2.2; simp only [List.length_nil] at this; dsimp only; omega⟩
theorem fin_r (a : AppS) (raws : List (List UInt8)) (ha : SmApp a) (hn : raws.length ≤ 1000000) (hb : ∀ b ∈ raws, b.length ≤ 140737488355328) : SemR Tryz.prog G 32 [appM a, rawsM raws] [] 0 (.tup [appM (finS a raws).1, .sl (finS a raws).2.1.length ((finS a raws).2.1.map resM), .int .i64 (finS a raws).2.2]) [] 0 := by
 have c1 := all_r (G := G) a.com a.price raws ha.1 ha.2.2.2 hn hb
 unfold finS
 obtain ⟨⟨a1, b1⟩, ⟨a2, b2⟩, ⟨a3, b3⟩, op, price⟩ := a
 dsimp only at *
 generalize allG price raws ⟨a1, b1⟩ [] = y at *
 obtain ⟨⟨nacs, ncol⟩, out⟩ := y
 unfold rawsM at *
 have hA : ∀ op : Bool, appM ⟨⟨a1, b1⟩, ⟨a2, b2⟩, ⟨a3, b3⟩, op, price⟩ = .st [.st [.sl a1.length (a1.map acM), .int .u64 b1], .st [.sl a2.length (a2.map acM), .int .u64 b2], .st [.sl a3.length (a3.map acM), .int .u64 b3], .bool op, .int .u64 price] := fun _ => rfl
 rw [hA]
 unfold lgM at c1
 dsimp only at c1
 cases op with
 | true =>
  rw [if_pos rfl]
  refine srq seat Tryz.func32 30 ?_
  refine go1 ?_
  refine go0 ?_
  refine ⟨[_, _, _], [], [], rfl, rfl, trivial, rfl, ⟨?_, ?_, ?_, trivial⟩, ?_⟩
  ·exact rel_app0
  ·exact .inr ⟨rfl, rfl⟩
  ·exact rv
  ·exact mm
 | false =>
  rw [if_neg (by simp)]
  by_cases hl : 512 < raws.length
  ·rw [if_pos hl]
   refine srq seat Tryz.func32 30 ?_
   refine go1 ?_
   (iterate 4 ((all_goals (refine go1 ?_)); (all_goals (first | ((first | ((with_reducible apply n_grd); (case hf => exact ⟨rfl, rfl, rfl⟩)) | ((with_reducible apply c_cond); (case he => exact rfl))); (all_goals intro h); (all_goals (try simp only [bx] at h)); (all_goals (try (exfalso; omega)))) | skip))))
   all_goals (refine go0 ?_)
   refine ⟨[_, _, _], [], [], rfl, rfl, trivial, rfl, ⟨?_, ?_, ?_, trivial⟩, ?_⟩
   ·exact rel_app0
   ·exact .inr ⟨rfl, rfl⟩
   ·exact rv
   ·exact mm
  ·rw [if_neg hl]
   dsimp only
   show SemR _ _ _ _ _ _ (.tup [.st [.st [.sl a1.length (a1.map acM), .int .u64 b1], .st [.sl a2.length (a2.map acM), .int .u64 b2], .st [.sl nacs.length (nacs.map acM), .int .u64 ncol], .bool true, .int .u64 price], _, _]) _ _
   refine srq seat Tryz.func32 30 ?_
   refine go1 ?_
   (iterate 6 ((all_goals (refine go1 ?_)); (all_goals (first | (refine g_call3 rfl (fun _ h => h) rfl (c1) rfl rfl ?_) | ((first | ((with_reducible apply n_grd); (case hf => exact ⟨rfl, rfl, rfl⟩)) | ((with_reducible apply c_cond); (case he => exact rfl))); (all_goals intro h); (all_goals (try simp only [bx] at h)); (all_goals (try (exfalso; omega)))) | skip))))
   all_goals (refine go0 ?_)
   refine ⟨[_, _, _], [], [], rfl, rfl, trivial, rfl, ⟨?_, ?_, ?_, trivial⟩, ?_⟩
   ·exact rv
   ·exact rv
   ·exact rv
   ·exact mm
def afterS (l : LgS) (p : Nat) (raw : List UInt8) : LgS := (txS l p raw).1
theorem after_m (l : LgS) (p : Nat) (raw : List UInt8) (hl : SmLg l) (hp : U64 p) (hraw : raw.length ≤ 140737488355328) : SemC Tryz.prog G 53 [lgM l, .int .u64 p, .sl raw.length (u8s raw)] (lgM (afterS l p raw)) := by
 have c1 := tx_r (G := G) l p raw hl hp hraw
 unfold afterS
 obtain ⟨a1, b1⟩ := l
 generalize txS ⟨a1, b1⟩ p raw = y at *
 obtain ⟨⟨nacs, ncol⟩, ⟨ec, esn, esq, egs, epr⟩⟩ := y
 unfold lgM resM at *
 dsimp only at *
 refine scq seat Tryz.func53 17 ?_
 refine go1 ?_
 refine g_call2 rfl (fun _ h => h) rfl (c1) rfl lm ?_
 refine go1 ?_
 refine go0 ?_
 rfl
end
section
variable {G : GS}
theorem place_m (x n : Int) (hn : 0 < n) (hn2 : n < 9223372036854775808) : SemC Tryz.prog G 36 [.int .i64 x, .int .i64 n] (.int .i64 (x % n)) := by
 have hmod := emod_of x n hn
 have h1 : -9223372036854775808 ≤ x.tmod n + n ∧ x.tmod n + n < 9223372036854775808 ∨ ¬ x.tmod n < 0 := by
  have := Int.lt_tmod_of_pos x hn
  omega
 have hne := SideF.mk (show n ≠ 0 by omega)
 refine scq seat Tryz.func36 14 ?_
 refine go1 ?_
 ((with_reducible apply c_cond); (case he => exact rfl); (all_goals intro h))
 ·have hx := of_decide_eq_true h
  rw [if_pos hx] at hmod
  refine go1 ?_
  refine go0 ?_
  exact congrArg (MV.int .i64) hmod
 ·have hx := of_decide_eq_false h
  rw [if_neg hx] at hmod
  refine go1 ?_
  refine go0 ?_
  exact congrArg (MV.int .i64) hmod
def nextV (L : List Int) (N : Nat) (n : Int) : Int := (L[N]?.getD 0) % n
def numB (L : List Int) (N : Nat) : VM := [(0, ⟨102, 2, false, 0, [.st [intsM L, .int .i64 N]]⟩)]
abbrev numP : MV := .ptr 0 2 0 0 []
theorem next_r (L : List Int) (N : Nat) (n : Int) (hn : 0 < n) (hn2 : n < 9223372036854775808) (hN : N < 4611686018427387904) :
  SemR Tryz.prog G 27 [numP, .int .i64 n] (numB L N) 1 (.int .i64 (nextV L N n)) (numB L (N + 1)) 1 := by
 have cp := place_m (G := G) (L[N]?.getD 0) n hn hn2
 unfold nextV
 unfold numB
 generalize hx : (L[N]?.getD 0) = x at *
 by_cases hlt : N < L.length
 ·have hel := SomF.mk (show idxL (L.map (MV.int .i64)) L.length (N : Int) = some (.int .i64 x) by rw [intsM_at hlt, ← hx]; simp [hlt])
  unfold intsM
  refine srq seat Tryz.func27 36 ?_
  refine go1 ?_
  refine c_draw [(0, false), (1, false), (2, false), (3, false), (4, false), (5, false), (6, false), (7, false), (8, false), (9, false)] ?_
  refine go1 ?_
  ((with_reducible apply c_cond); (case he => exact rfl); (all_goals intro h))
  ·refine go1 ?_
   refine c_draw [(0, false), (1, false), (2, false), (3, false), (4, false), (5, false), (6, false), (7, false), (8, false), (9, false), (10, false)] ?_
   refine go1 ?_
   refine g_call2 rfl (fun _ h => h) rfl (semR_of_semC (cp)) rfl lm ?_
   refine go1 ?_
   refine ⟨[_], [], [], rfl, rfl, trivial, rfl, ⟨?_, trivial⟩, ?_⟩
   ·exact rv
   ·exact mm
  ·exact absurd (of_decide_eq_false h) (by omega)
 ·have hx0 : x = 0 := by rw [← hx]; simp [hlt]
  subst hx0
  unfold intsM
  refine srq seat Tryz.func27 36 ?_
  refine go1 ?_
  refine c_draw [(0, false), (1, false), (2, false), (3, false), (4, false), (5, false), (6, false), (7, false), (8, false), (9, false)] ?_
  refine go1 ?_
  ((with_reducible apply c_cond); (case he => exact rfl); (all_goals intro h))
  ·exact absurd (of_decide_eq_true h) (by omega)
  ·refine go1 ?_
   refine g_call2 rfl (fun _ h => h) rfl (semR_of_semC (cp)) rfl lm ?_
   refine go1 ?_
   refine ⟨[_], [], [], rfl, rfl, trivial, rfl, ⟨?_, trivial⟩, ?_⟩
   ·exact rv
   ·exact mm
end
section
def SemN (G : GS) (L : List Int) (f : FuncId) (args : List MV) (k : Nat) (P : MV → Nat → Prop) : Prop := SemE Tryz.prog G f args (numB L k) 1 fun r M n => ∃ k', (P r k' ∧ nfree r = true) ∧ M = numB L k' ∧ n = 1
section
variable {Pg : Program} {T : Tab} {N : Nat} {ents : List FuncId} {G : GS} {ops : Array Oper} {d : Tmp} {ty : TypeId} {pos : String} {after : Array Edge} {g : Option (Nat × Bool)} {rest : List Oper} {K : VK} {E : VE} {M : VM} {n : Nat}
 {f : Operand} {args : Array Operand} {ats : Array TypeId} {f0 : FuncId} {vs : List MV}
theorem g_callN1 (hd : Nat.blt d N = true) (h1 : ∀ R : FuncId × List MV → Prop, R (f0, vs) → (vArgs E f args.toList).runP R) (h2 : ents.contains f0 = true) {args' : List MV} {L : List Int} {k : Nat} {P : MV → Nat → Prop} (hc : SemN G L f0 args' k P) (hg : Pg = Tryz.prog) (b : Nat) (bs : List (Nat × Nat))
  (hm : LMatch 0 args' (numB L k) 1 vs M [(0, b)] bs) (h3 : allIn M [(0, b)] = true) (h : ∀ r k', P r k' → vOpsN Pg T N ents G ops rest K ((d, r) :: E) (renM (rho n [(0, b)]) (numB L k') ++ delM (VM.bump M bs) [(0, b)]) (n + 1)) : vOpsG Pg T N ents G ops ⟨some d, .call ⟨.value f, args, ats⟩, ty, pos, after, g⟩ rest K E M n := by
 subst hg
 refine g_callE1 hd h1 h2 hc [(0, b)] bs hm h3 ?_
 rintro r _ _ ⟨k', ⟨hP, hf⟩, rfl, rfl⟩
 refine ⟨rfl, ?_⟩
 rw [renV_nfree r hf]
 exact h r k' hP
end
theorem next_b {G : GS} (L : List Int) (k n : Nat) (hn : 0 < n) (hn2 : n < 4611686018427387904) (hk : k < 4611686018427387904) : ∃ x : Nat, x < n ∧ SemR Tryz.prog G 27 [numP, .int .i64 (n : Int)] (numB L k) 1 (.int .i64 (x : Int)) (numB L (k + 1)) 1 := by
 have h1 := Int.emod_nonneg (L[k]?.getD 0) (show (n : Int) ≠ 0 by omega)
 have h2 := Int.emod_lt_of_pos (L[k]?.getD 0) (show (0 : Int) < n by omega)
 refine ⟨(nextV L k n).toNat, by unfold nextV; omega, ?_⟩
 rw [show (((nextV L k n).toNat : Nat) : Int) = nextV L k n by unfold nextV; omega]
 exact next_r L k n (by omega) (by omega) hk
end
section
variable {G : GS}
attribute [local irreducible] vOpsN vOpsG vOpsD vOpGD NextD vC SeqQ BlockQ
theorem nextV_lt (L : List Int) (N : Nat) (n : Int) (hn : 0 < n) : 0 ≤ nextV L N n ∧ nextV L N n < n := ⟨Int.emod_nonneg _ (by omega), Int.emod_lt_of_pos _ hn⟩
def nextN (L : List Int) (N : Nat) (n : Nat) : Nat := (nextV L N n).toNat
theorem nextN_eq (L : List Int) (N n : Nat) (hn : 0 < n) : nextV L N n = (nextN L N n : Int) ∧ nextN L N n < n := by
 have := nextV_lt L N n (by omega)
 unfold nextN
 omega
theorem next_n (L : List Int) (N n : Nat) (hn : 0 < n) (hn2 : n < 4611686018427387904) (hN : N < 4611686018427387904) :
  SemR Tryz.prog G 27 [numP, .int .i64 (n : Int)] (numB L N) 1 (.int .i64 (nextN L N n : Int)) (numB L (N + 1)) 1 := by
 have := next_r (G := G) L N n (by omega) (by omega) hN
 rw [(nextN_eq L N n hn).1] at this
 exact this
def namesL : List (List UInt8) := [[97, 110, 110], [98, 111, 98], [101, 118, 101], [122, 111, 101], [110, 101, 119], [120, 45, 49]]
def nameV (L : List Int) (N : Nat) : List UInt8 := namesL.getD (nextN L N 6) []
theorem names_at {k : Nat} (hk : k < 6) : nthM (namesL.map MV.str) (0 + k) = some (.str (namesL.getD k [])) := by
 have h6 : k = 0 ∨ k = 1 ∨ k = 2 ∨ k = 3 ∨ k = 4 ∨ k = 5 := by omega
 rcases h6 with rfl | rfl | rfl | rfl | rfl | rfl <;> rfl
theorem name_r (L : List Int) (N : Nat) (hN : N < 4611686018427387904) : SemR Tryz.prog G 83 [numP] (numB L N) 1 (.str (nameV L N)) (numB L (N + 1)) 1 := by
 have h6 := (nextN_eq L N 6 (by omega)).2
 have cn := next_n (G := G) L N 6 (by omega) (by omega) hN
 have f1 := SomF.mk (idx_at h6)
 have f2 := SomF.mk (show nthM [MV.str [97, 110, 110], MV.str [98, 111, 98], MV.str [101, 118, 101], MV.str [122, 111, 101], MV.str [110, 101, 119], MV.str [120, 45, 49]] (0 + nextN L N 6) = some (.str (namesL.getD (nextN L N 6) [])) from names_at h6)
 unfold nameV
 generalize nextN L N 6 = x at *
 generalize namesL.getD x [] = nm at *
 refine srq seat Tryz.func83 8 ?_
 refine go1 ?_
 refine g_callR1 rfl (fun _ h => h) rfl (cn) [(0, 0)] [] ⟨rfl, trivial, rfl, lm, mm⟩ rfl rfl ?_
 refine go1 ?_
 refine ⟨[_], [], [], rfl, rfl, trivial, rfl, ⟨?_, trivial⟩, ?_⟩
 ·exact rv
 ·exact mm
theorem from_r (L : List Int) : SemR Tryz.prog G 14 [intsM L] [] 0 numP (numB L 0) 1 := by
 refine srq seat Tryz.func14 6 ?_
 refine go1 ?_
 refine ⟨[_], [(0, 3)], [], rfl, rfl, trivial, rfl, ⟨?_, trivial⟩, ?_⟩
 ·exact rv
 ·exact mm
theorem conv8n (k : Nat) : IntKind.u8.wrap (k : Int) = ((UInt8.ofNat k).toNat : Int) := by
 rw [w8, UInt8.toNat_ofNat']
 exact (Int.natCast_emod _ 256).symm
def memosL : List (List UInt8) := [[], [], [], [114, 101, 110, 116], [195, 169, 228, 184, 150], [97, 10, 98], [116, 104, 97, 110, 107, 115, 32, 102, 111, 114, 32, 97, 108, 108, 32, 116, 104, 101, 32, 102, 105, 115, 104, 44, 32, 97, 110, 100, 32, 102, 111, 114, 32, 116, 104, 101, 32, 99, 104, 105, 112, 115]]
def memoV (L : List Int) (N : Nat) : List UInt8 := memosL.getD (nextN L N 7) []
theorem memos_at {k : Nat} (hk : k < 7) : nthM (memosL.map MV.str) (0 + k) = some (.str (memosL.getD k [])) := by
 have h6 : k = 0 ∨ k = 1 ∨ k = 2 ∨ k = 3 ∨ k = 4 ∨ k = 5 ∨ k = 6 := by omega
 rcases h6 with rfl | rfl | rfl | rfl | rfl | rfl | rfl <;> rfl
theorem nameV_len (L : List Int) (N : Nat) : (nameV L N).length ≤ 5 := by
 have h := (nextN_eq L N 6 (by omega)).2
 unfold nameV
 generalize nextN L N 6 = k at *
 have h6 : k = 0 ∨ k = 1 ∨ k = 2 ∨ k = 3 ∨ k = 4 ∨ k = 5 := by omega
 rcases h6 with rfl | rfl | rfl | rfl | rfl | rfl <;> decide
theorem memoV_len (L : List Int) (N : Nat) : (memoV L N).length ≤ 50 := by
 have h := (nextN_eq L N 7 (by omega)).2
 unfold memoV
 generalize nextN L N 7 = k at *
 have h6 : k = 0 ∨ k = 1 ∨ k = 2 ∨ k = 3 ∨ k = 4 ∨ k = 5 ∨ k = 6 := by omega
 rcases h6 with rfl | rfl | rfl | rfl | rfl | rfl | rfl <;> decide
theorem memo_r (L : List Int) (N : Nat) (hN : N < 4611686018427387904) : SemR Tryz.prog G 84 [numP] (numB L N) 1 (.str (memoV L N)) (numB L (N + 1)) 1 := by
 have h7 := (nextN_eq L N 7 (by omega)).2
 have cn := next_n (G := G) L N 7 (by omega) (by omega) hN
 have f1 := SomF.mk (idx_at h7)
 have f2 := SomF.mk (memos_at h7)
 unfold memosL at f2
 simp only [List.map_cons, List.map_nil] at f2
 unfold memoV memosL
 generalize nextN L N 7 = x at *
 generalize List.getD _ x [] = nm at *
 refine srq seat Tryz.func84 8 ?_
 refine go1 ?_
 refine g_callR1 rfl (fun _ h => h) rfl (cn) [(0, 0)] [] ⟨rfl, trivial, rfl, lm, mm⟩ rfl rfl ?_
 refine go1 ?_
 refine ⟨[_], [], [], rfl, rfl, trivial, rfl, ⟨?_, trivial⟩, ?_⟩
 ·exact rv
 ·exact mm
end
section
variable {G : GS}
def xferS (L : List Int) (N : Nat) : TrS := ⟨nameV L N, if nextN L (N + 2) 12 = 0 then 9223372036854775808 else 1 + nextN L (N + 1) 60⟩
def xsS (L : List Int) (N j : Nat) : List TrS := (List.range j).map fun i => xferS L (N + 3 * i)
theorem xsS_succ (L : List Int) (N j : Nat) : xsS L N (j + 1) = xsS L N j ++ [xferS L (N + 3 * j)] := by unfold xsS; rw [List.range_succ, List.map_append]; rfl
theorem xsS_len (L : List Int) (N j : Nat) : (xsS L N j).length = j := by simp [xsS]
theorem xferS_sm (L : List Int) (N : Nat) : SmTr (xferS L N) := by
 have h := (nextN_eq L (N + 1) 60 (by omega)).2
 refine ⟨Nat.le_trans (nameV_len L N) (by omega), ?_⟩
 unfold xferS U64
 dsimp only
 split <;> omega
theorem xsS_sm (L : List Int) (N j : Nat) : ∀ x ∈ xsS L N j, SmTr x := by
 intro x hx
 obtain ⟨i, _, rfl⟩ := List.mem_map.1 hx
 exact xferS_sm L _
def tx1 (L : List Int) (N : Nat) (acs : List AcS) : List UInt8 × Nat × Nat :=
 if acs.length = 0 then (nameV L N, 0, N + 3) else if nextN L (N + 3) 8 = 0 then (nameV L N, 0, N + 4) else ((acs.getD (nextN L (N + 4) acs.length) ac0).name, (acs.getD (nextN L (N + 4) acs.length) ac0).seq, N + 5)
def tx2 (L : List Int) (N sq : Nat) : Nat × Nat := if nextN L N 6 = 0 then ((sq + nextN L (N + 1) 3) % 18446744073709551616, N + 2) else (sq, N + 1)
def tx3 (L : List Int) (N fee : Nat) : Nat × Nat := if nextN L N 9 = 0 then (nextN L (N + 1) 200, N + 2) else (fee, N + 1)
def txG (L : List Int) (N : Nat) (acs : List AcS) (price : Nat) : TxS × Nat :=
 let a := tx1 L N acs
 let b := tx2 L a.2.2 a.2.1
 let gas := 150 + nextN L (N + 1) 6 * 40
 let fee := gas * price % 18446744073709551616 * (1 + nextN L b.2 5) % 18446744073709551616
 let c := tx3 L (b.2 + 1) fee
 let m := nextN L c.2 3
 (⟨a.1, b.1, gas, c.1, memoV L (N + 2), xsS L (c.2 + 1) (m + 1)⟩, c.2 + 1 + 3 * (m + 1))
theorem tx1_ok {L : List Int} {N : Nat} {acs : List AcS} (h : ∀ a ∈ acs, SmAc a) : (tx1 L N acs).1.length ≤ 5000 ∧ U64 (tx1 L N acs).2.1 ∧ (tx1 L N acs).2.2 ≤ N + 5 := by
 have hn := nameV_len L N
 unfold tx1
 split
 ·exact ⟨by dsimp only; omega, by simp [U64], by dsimp only; omega⟩
 ·split
  ·exact ⟨by dsimp only; omega, by simp [U64], by dsimp only; omega⟩
  ·have ha : SmAc (acs.getD (nextN L (N + 4) acs.length) ac0) := by
    rw [List.getD_eq_getElem?_getD]
    cases hx : acs[nextN L (N + 4) acs.length]? with
    | none => exact ⟨by simp [ac0], by simp [ac0, U64], by simp [ac0, U64]⟩
    | some x => exact h x (List.mem_of_getElem? hx)
   exact ⟨ha.1, ha.2.2, by dsimp only; omega⟩
theorem tx2_ok {L : List Int} {N sq : Nat} (h : U64 sq) : U64 (tx2 L N sq).1 ∧ (tx2 L N sq).2 ≤ N + 2 := by
 unfold tx2
 split
 ·exact ⟨mod_u64, by dsimp only; omega⟩
 ·exact ⟨h, by dsimp only; omega⟩
theorem tx3_ok {L : List Int} {N fee : Nat} (h : U64 fee) : U64 (tx3 L N fee).1 ∧ (tx3 L N fee).2 ≤ N + 2 := by
 have hx := (nextN_eq L (N + 1) 200 (by omega)).2
 unfold tx3
 split
 ·exact ⟨by unfold U64; dsimp only; omega, by dsimp only; omega⟩
 ·exact ⟨h, by dsimp only; omega⟩
theorem txG_ok {L : List Int} {N : Nat} {acs : List AcS} {price : Nat} (h : ∀ a ∈ acs, SmAc a) : SmTx (txG L N acs price).1 ∧ (txG L N acs price).2 ≤ N + 20 := by
 have h1 := tx1_ok (L := L) (N := N) h
 have h2 := tx2_ok (L := L) (N := (tx1 L N acs).2.2) h1.2.1
 unfold txG
 dsimp only
 have h3 := tx3_ok (L := L) (N := (tx2 L (tx1 L N acs).2.2 (tx1 L N acs).2.1).2 + 1) (fee := (150 + nextN L (N + 1) 6 * 40) * price % 18446744073709551616 * (1 + nextN L (tx2 L (tx1 L N acs).2.2 (tx1 L N acs).2.1).2 5) % 18446744073709551616) mod_u64
 have hg := (nextN_eq L (N + 1) 6 (by omega)).2
 generalize tx3 L _ _ = c at *
 have hm := (nextN_eq L c.2 3 (by omega)).2
 have hml := memoV_len L (N + 2)
 exact ⟨⟨h1.1, h2.1, by unfold U64; dsimp only; omega, h3.1, by dsimp only; omega, by dsimp only; rw [xsS_len]; omega, xsS_sm L _ _⟩, by omega⟩
abbrev txZ : MV := .st [.str [], .int .u64 0, .int .u64 0, .int .u64 0, .str [], .nils]
theorem mul_w (a b : Nat) : IntKind.u64.wrap ((a : Int) * (b : Int)) = ((a * b % 18446744073709551616 : Nat) : Int) := by
 rw [wu64, ← Int.natCast_mul]; omega
theorem add_w (a b : Nat) : IntKind.u64.wrap ((a : Int) + (b : Int)) = (((a + b) % 18446744073709551616 : Nat) : Int) := by rw [wu64]; omega
theorem mkTx_r (L : List Int) (N : Nat) (l : LgS) (price : Nat) (hN : N < 4000000000000000000) (hl : SmLg l) (hp : U64 price) : SemR Tryz.prog G 49 [numP, lgM l, .int .u64 price] (numB L N) 1 (txM (txG L N l.acs price).1) (numB L (txG L N l.acs price).2) 1 := by
 obtain ⟨acs, col⟩ := l
 obtain ⟨hl1, hl2, hl3⟩ := hl
 have k1 := tx1_ok (L := L) (N := N) hl3
 have k2 := tx2_ok (L := L) (N := (tx1 L N acs).2.2) k1.2.1
 dsimp only at hl1 hl2 hl3 k1
 unfold txG
 dsimp only
 have cn0 := name_r (G := G) L N (by omega)
 have cn1 := next_n (G := G) L (N + 1) 6 (by omega) (by omega) (by omega)
 have b1 := (nextN_eq L (N + 1) 6 (by omega)).2
 have cn2 := memo_r (G := G) L (N + 2) (by omega)
 generalize htx1 : tx1 L N acs = a at *
 obtain ⟨snd, sq, N1⟩ := a
 dsimp only at *
 generalize htx2 : tx2 L N1 sq = b at *
 obtain ⟨sq2, N2⟩ := b
 dsimp only at *
 generalize hx1 : nextN L (N + 1) 6 = x1 at *
 generalize hmemo : memoV L (N + 2) = memo at *
 unfold txM lgM
 dsimp only
 refine srq seat Tryz.func49 96 ?_
 refine go1 ?_
 refine g_callR1 rfl (fun _ h => h) rfl (cn0) [(0, 0)] [] ⟨rfl, trivial, rfl, lm, mm⟩ rfl rfl ?_
 refine go1 ?_
 refine g_callR1 rfl (fun _ h => h) rfl (cn1) [(0, 0)] [] ⟨rfl, trivial, rfl, lm, mm⟩ rfl rfl ?_
 refine go1 ?_
 refine g_callR1 rfl (fun _ h => h) rfl (cn2) [(0, 0)] [] ⟨rfl, trivial, rfl, lm, mm⟩ rfl rfl ?_
 refine go1 ?_
 refine q_joinN Unit (fun _ => [(0, numP), (2, .int .u64 price), (6, .ptr 1 6 0 0 []), (7, .ptr 2 6 0 0 [])]) (fun _ => numB L N1 ++ [(1, ⟨98, 6, false, 0, [txZ]⟩), (2, ⟨98, 6, false, 0, [.st [.str snd, .int .u64 sq, .int .u64 (150 + (x1 : Int) * 40), .int .u64 0, .str memo, .nils]]⟩)]) (fun _ => 3) (fun _ => True) (fun JQ hj => ?_) (fun _ _ => ?_)
 ·by_cases h0 : acs.length = 0
  ·unfold tx1 at htx1
   rw [if_pos h0] at htx1
   simp only [Prod.mk.injEq] at htx1
   obtain ⟨rfl, rfl, rfl⟩ := htx1
   ((with_reducible apply n_grd); (case hf => exact ⟨rfl, rfl, rfl⟩); (all_goals intro h))
   ·exact absurd (of_decide_eq_true h) (by omega)
   refine go1 ?_
   exact hj.nrm () trivial (vm [(1, _), (2, _)] [])
  ·have cn3 := next_n (G := G) L (N + 3) 8 (by omega) (by omega) (by omega)
   unfold tx1 at htx1
   rw [if_neg h0] at htx1
   generalize hx3 : nextN L (N + 3) 8 = x3 at *
   ((with_reducible apply n_grd); (case hf => exact ⟨rfl, rfl, rfl⟩); (all_goals intro h))
   rotate_left
   ·exact absurd (of_decide_eq_false h) (by omega)
   refine go1 ?_
   refine g_callR1 rfl (fun _ h => h) rfl (cn3) [(0, 0)] [] ⟨rfl, trivial, rfl, lm, mm⟩ rfl rfl ?_
   refine go1 ?_
   by_cases h3 : x3 = 0
   ·rw [if_pos h3] at htx1
    simp only [Prod.mk.injEq] at htx1
    obtain ⟨rfl, rfl, rfl⟩ := htx1
    ((with_reducible apply c_cond); (case he => exact rfl); (all_goals intro h))
    ·exact absurd (of_decide_eq_true h) (by omega)
    refine go1 ?_
    exact hj.nrm () trivial (vm [(1, _), (2, _)] [])
   ·rw [if_neg h3] at htx1
    have cn4 := next_n (G := G) L (N + 4) acs.length (by omega) (by omega) (by omega)
    have b4 := (nextN_eq L (N + 4) acs.length (by omega)).2
    generalize hx4 : nextN L (N + 4) acs.length = x4 at *
    have hel := acs_at b4
    have hgd : acs.getD x4 ac0 = acs[x4] := by simp [b4]
    rw [hgd] at htx1
    clear hgd
    generalize acs[x4] = a at *
    obtain ⟨an, ab, asq⟩ := a
    replace hel : idxL (acs.map acM) acs.length (x4 : Int) = some (.st [.str an, .int .u64 ab, .int .u64 asq]) := hel
    have hel := SomF.mk hel
    simp only [Prod.mk.injEq] at htx1
    obtain ⟨rfl, rfl, rfl⟩ := htx1
    ((with_reducible apply c_cond); (case he => exact rfl); (all_goals intro h))
    rotate_left
    ·exact absurd (of_decide_eq_false h) (by omega)
    refine go1 ?_
    refine c_draw [(0, false), (1, false), (2, false), (3, false), (4, true), (5, false), (6, false), (7, false), (8, false)] ?_
    refine go1 ?_
    refine gd_callR1 rfl (fun _ h => h) rfl [0] (cn4) [(0, 0)] [] ⟨rfl, trivial, rfl, lm, mm⟩ rfl rfl rfl rfl ?_
    refine go1 ?_
    refine c_draw [(0, false), (1, false), (2, false), (3, false), (4, false), (5, false), (6, false), (7, false)] ?_
    refine go1 ?_
    exact hj.nrm () trivial (vm [(1, _), (2, _)] [])
 ·have cn5 := next_n (G := G) L N1 6 (by omega) (by omega) (by omega)
  have cn6 := next_n (G := G) L (N1 + 1) 3 (by omega) (by omega) (by omega)
  have b6 := (nextN_eq L (N1 + 1) 3 (by omega)).2
  unfold tx2 at htx2
  generalize hx5 : nextN L N1 6 = x5 at *
  generalize hx6 : nextN L (N1 + 1) 3 = x6 at *
  have ea := EqF.mk (add_w sq x6)
  refine go1 ?_
  refine g_callR1 rfl (fun _ h => h) rfl (cn5) [(0, 0)] [] ⟨rfl, trivial, rfl, lm, mm⟩ rfl rfl ?_
  refine go1 ?_
  refine q_join Unit (fun _ => [(0, numP), (2, .int .u64 price), (6, .ptr 1 6 0 0 []), (7, .ptr 2 6 0 0 [])]) (fun _ => numB L N2 ++ [(1, ⟨98, 6, false, 0, [txZ]⟩), (2, ⟨98, 6, false, 0, [.st [.str snd, .int .u64 sq2, .int .u64 (150 + (x1 : Int) * 40), .int .u64 0, .str memo, .nils]]⟩)]) (fun _ => 3) (fun _ => True) (fun JQ hj => ?_) (fun _ _ => ?_)
  ·by_cases h5 : x5 = 0
   ·rw [if_pos h5] at htx2
    simp only [Prod.mk.injEq] at htx2
    obtain ⟨rfl, rfl⟩ := htx2
    ((with_reducible apply c_cond); (case he => exact rfl); (all_goals intro h))
    rotate_left
    ·exact absurd h (by simp [h5])
    refine go1 ?_
    refine c_draw [(0, false), (1, false), (2, false), (3, true), (4, false), (5, false), (6, false), (7, false)] ?_
    refine go1 ?_
    refine gd_callR1 rfl (fun _ h => h) rfl [0] (cn6) [(0, 0)] [] ⟨rfl, trivial, rfl, lm, mm⟩ rfl rfl rfl rfl ?_
    refine go1 ?_
    exact hj.nrm () trivial (vm [(1, _), (2, _)] [])
   ·rw [if_neg h5] at htx2
    simp only [Prod.mk.injEq] at htx2
    obtain ⟨rfl, rfl⟩ := htx2
    ((with_reducible apply c_cond); (case he => exact rfl); (all_goals intro h))
    ·exfalso
     have : (x5 : Int) = 0 := by simpa using h
     omega
    refine go1 ?_
    exact hj.nrm () trivial (vm [(1, _), (2, _)] [])
  ·have k3 := tx3_ok (L := L) (N := N2 + 1) (fee := (150 + x1 * 40) * price % 18446744073709551616 * (1 + nextN L N2 5) % 18446744073709551616) mod_u64
   have cn7 := next_n (G := G) L N2 5 (by omega) (by omega) (by omega)
   have cn8 := next_n (G := G) L (N2 + 1) 9 (by omega) (by omega) (by omega)
   have cn9 := next_n (G := G) L (N2 + 1 + 1) 200 (by omega) (by omega) (by omega)
   have b7 := (nextN_eq L N2 5 (by omega)).2
   have b9 := (nextN_eq L (N2 + 1 + 1) 200 (by omega)).2
   generalize hx7 : nextN L N2 5 = x7 at *
   generalize hfee : (150 + x1 * 40) * price % 18446744073709551616 = f0 at *
   have em1 := EqF.mk (show IntKind.u64.wrap ((150 + (x1 : Int) * 40) * (price : Int)) = (f0 : Int) by rw [← hfee, ← mul_w]; rfl)
   have em2 := EqF.mk (show IntKind.u64.wrap ((f0 : Int) * (1 + (x7 : Int))) = ((f0 * (1 + x7) % 18446744073709551616 : Nat) : Int) by rw [← mul_w]; rfl)
   generalize f0 * (1 + x7) % 18446744073709551616 = f1 at *
   generalize htx3 : tx3 L (N2 + 1) f1 = c at *
   obtain ⟨fee, N3⟩ := c
   dsimp only at *
   unfold tx3 at htx3
   generalize hx8 : nextN L (N2 + 1) 9 = x8 at *
   generalize hx9 : nextN L (N2 + 1 + 1) 200 = x9 at *
   refine go1 ?_
   refine c_draw [(0, false), (1, false), (2, false), (3, false), (4, false), (5, true), (6, false), (7, false), (8, false), (9, false), (10, false)] ?_
   refine go1 ?_
   refine gd_callR1 rfl (fun _ h => h) rfl [0] (cn7) [(0, 0)] [] ⟨rfl, trivial, rfl, lm, mm⟩ rfl rfl rfl rfl ?_
   refine go1 ?_
   refine g_callR1 rfl (fun _ h => h) rfl (cn8) [(0, 0)] [] ⟨rfl, trivial, rfl, lm, mm⟩ rfl rfl ?_
   refine go1 ?_
   refine q_join Unit (fun _ => [(0, numP), (6, .ptr 1 6 0 0 []), (7, .ptr 2 6 0 0 [])]) (fun _ => numB L N3 ++ [(1, ⟨98, 6, false, 0, [txZ]⟩), (2, ⟨98, 6, false, 0, [.st [.str snd, .int .u64 sq2, .int .u64 (150 + (x1 : Int) * 40), .int .u64 fee, .str memo, .nils]]⟩)]) (fun _ => 3) (fun _ => True) (fun JQ hj => ?_) (fun _ _ => ?_)
   ·by_cases h8 : x8 = 0
    ·rw [if_pos h8] at htx3
     simp only [Prod.mk.injEq] at htx3
     obtain ⟨rfl, rfl⟩ := htx3
     ((with_reducible apply c_cond); (case he => exact rfl); (all_goals intro h))
     rotate_left
     ·exact absurd h (by simp [h8])
     refine go1 ?_
     refine g_callR1 rfl (fun _ h => h) rfl (cn9) [(0, 0)] [] ⟨rfl, trivial, rfl, lm, mm⟩ rfl rfl ?_
     refine go1 ?_
     exact hj.nrm () trivial (vm [(1, _), (2, _)] [])
    ·rw [if_neg h8] at htx3
     simp only [Prod.mk.injEq] at htx3
     obtain ⟨rfl, rfl⟩ := htx3
     ((with_reducible apply c_cond); (case he => exact rfl); (all_goals intro h))
     ·exfalso
      have : (x8 : Int) = 0 := by simpa using h
      omega
     refine go1 ?_
     exact hj.nrm () trivial (vm [(1, _), (2, _)] [])
   ·have cna := next_n (G := G) L N3 3 (by omega) (by omega) (by omega)
    have ba := (nextN_eq L N3 3 (by omega)).2
    generalize hxa : nextN L N3 3 = m at *
    generalize hN4 : N3 + 1 = N4 at *
    have hN4b : N4 < 4300000000000000000 := by omega
    clear em1 em2 hx7 hx8 hx9 cn7 cn8 cn9 k3 k1 k2
    refine go1 ?_
    refine g_callR1 rfl (fun _ h => h) rfl (cna) [(0, 0)] [] ⟨rfl, trivial, rfl, lm, mm⟩ rfl rfl ?_
    refine go1 ?_
    refine c_loop Nat (fun j => [(10, .int .i64 ((m : Int) - j)), (0, numP), (6, .ptr 1 6 0 0 []), (7, .ptr 2 6 0 0 [])]) (fun j => numB L (N4 + 3 * j) ++ [(1, ⟨98, 6, false, 0, [txZ]⟩), (2, ⟨98, 6, false, 0, [.st [.str snd, .int .u64 sq2, .int .u64 (150 + (x1 : Int) * 40), .int .u64 fee, .str memo, .ms 3 2 0 j]]⟩), (3, ⟨95, 2, true, 0, (xsS L N4 j).map trM⟩)]) 4 (fun j => j ≤ m + 1) (fun j => m + 1 - j) 0 (Nat.zero_le _) (vm [(1, _), (2, _)] []) ?_
    intro j hj
    try dsimp only
    refine go1 ?_
    ((with_reducible apply c_cond); (case he => exact rfl); (all_goals intro h))
    ·have hj' : j < m + 1 := by have := of_decide_eq_true h; omega
     have d0 := name_r (G := G) L (N4 + 3 * j) (by omega)
     have d1 := next_n (G := G) L (N4 + 3 * j + 1) 60 (by omega) (by omega) (by omega)
     have d2 := next_n (G := G) L (N4 + 3 * j + 1 + 1) 12 (by omega) (by omega) (by omega)
     have hb1 := (nextN_eq L (N4 + 3 * j + 1) 60 (by omega)).2
     have hsucc := xsS_succ L N4 j
     have hll : ((xsS L N4 j).map trM).length = j := by rw [List.length_map, xsS_len]
     have hxf : xferS L (N4 + 3 * j) = ⟨nameV L (N4 + 3 * j), if nextN L (N4 + 3 * j + 1 + 1) 12 = 0 then 9223372036854775808 else 1 + nextN L (N4 + 3 * j + 1) 60⟩ := rfl
     have hN5 : N4 + 3 * (j + 1) = N4 + 3 * j + 1 + 1 + 1 := by omega
     rw [hxf] at hsucc
     generalize nextN L (N4 + 3 * j + 1 + 1) 12 = y2 at *
     generalize nextN L (N4 + 3 * j + 1) 60 = y1 at *
     generalize nameV L (N4 + 3 * j) = nm at *
     clear hxf
     refine go1 ?_
     refine g_callR1 rfl (fun _ h => h) rfl (d0) [(0, 0)] [] ⟨rfl, trivial, rfl, lm, mm⟩ rfl rfl ?_
     refine go1 ?_
     refine g_callR1 rfl (fun _ h => h) rfl (d1) [(0, 0)] [] ⟨rfl, trivial, rfl, lm, mm⟩ rfl rfl ?_
     refine go1 ?_
     refine g_callR1 rfl (fun _ h => h) rfl (d2) [(0, 0)] [] ⟨rfl, trivial, rfl, lm, mm⟩ rfl rfl ?_
     refine go1 ?_
     by_cases hy : y2 = 0
     ·rw [if_pos hy] at hsucc
      ((with_reducible apply c_cond); (case he => exact rfl); (all_goals intro h))
      rotate_left
      ·exact absurd h (by simp [hy])
      refine go1 ?_
      ((with_reducible apply g_mem); (case hq => exact rfl); (case hv => exact rfl); (case he => (intro R hR; refine sms hR ?_; (refine And.intro (Nat.le_refl _) ?_; refine ⟨_, rfl, ?_⟩; refine And.intro ⟨hll, app_ok (by kernel_rfl) pf⟩ ?_; refine ⟨(xsS L N4 (j + 1)).map trM, sv (by rw [hsucc, List.map_append]; rfl), j + 1, sv pf, ?_⟩); exact hR)); (case hd => exact rfl))
      refine go1 ?_
      exact ⟨j + 1, by show j + 1 ≤ m + 1; omega, by show m + 1 - (j + 1) < m + 1 - j; omega, (by dsimp only; rw [hN5]; exact (vm [(1, _), (2, _), (3, _)] []))⟩
     ·rw [if_neg hy] at hsucc
      ((with_reducible apply c_cond); (case he => exact rfl); (all_goals intro h))
      ·exfalso
       have : (y2 : Int) = 0 := by simpa using h
       omega
      refine go1 ?_
      ((with_reducible apply g_mem); (case hq => exact rfl); (case hv => exact rfl); (case he => (intro R hR; refine sms hR ?_; (refine And.intro (Nat.le_refl _) ?_; refine ⟨_, rfl, ?_⟩; refine And.intro ⟨hll, app_ok (by kernel_rfl) pf⟩ ?_; refine ⟨(xsS L N4 (j + 1)).map trM, sv (by rw [hsucc, List.map_append]; rfl), j + 1, sv pf, ?_⟩); exact hR)); (case hd => exact rfl))
      refine go1 ?_
      exact ⟨j + 1, by show j + 1 ≤ m + 1; omega, by show m + 1 - (j + 1) < m + 1 - j; omega, (by dsimp only; rw [hN5]; exact (vm [(1, _), (2, _), (3, _)] []))⟩
    ·have hj' : j = m + 1 := by have := of_decide_eq_false h; omega
     subst hj'
     have hll := xsS_len L N4 (m + 1)
     generalize xsS L N4 (m + 1) = xs at *
     rw [← hll]
     refine go1 ?_
     refine go0 ?_
     refine ⟨[_], [], [(3, xs.length)], rfl, rfl, ?_, rfl, ⟨?_, trivial⟩, ?_⟩
     ·exact ⟨by show xs.length ≤ (xs.map trM).length; simp, trivial⟩
     ·exact .inr ⟨_, rfl, ⟨⟨rfl, rfl⟩, ⟨rfl, rfl⟩, ⟨congrArg (MV.int _) (by omega), rfl⟩, ⟨rfl, rfl⟩, ⟨rfl, rfl⟩, .inr ⟨rfl, rfl, rfl, Nat.le_of_eq (Nat.zero_add _), cut_all trM xs⟩, trivial⟩⟩
     ·exact mm
end
section
variable {G : GS}
attribute [local irreducible] vOpsN vOpsG vOpsD vOpGD NextD vC SeqQ BlockQ
theorem encodeS_len (t : TxS) : (encodeS t).1.length ≤ 4096 := by
 unfold encodeS
 split
 ·simp
 ·split
  ·simp
  ·dsimp only; omega
def rawB (L : List Int) (N : Nat) (raw : List UInt8) : List UInt8 × Nat :=
 if raw.length = 0 then (raw, N) else if nextN L N 12 ≠ 0 then (raw, N + 1) else if nextN L (N + 2) 2 = 0 then (raw.take (nextN L (N + 1) raw.length), N + 3) else (raw.set (nextN L (N + 1) raw.length) (UInt8.ofNat (nextN L (N + 3) 256)), N + 4)
def rawG (L : List Int) (N : Nat) (acs : List AcS) (price : Nat) : List UInt8 × Nat := rawB L (txG L N acs price).2 (encodeS (txG L N acs price).1).1
theorem rawB_ok (L : List Int) (N : Nat) (raw : List UInt8) : (rawB L N raw).1.length ≤ raw.length ∧ (rawB L N raw).2 ≤ N + 4 := by
 unfold rawB
 (repeat' split) <;> refine ⟨?_, ?_⟩ <;> dsimp only <;> first | omega | (rw [List.length_take]; omega) | (rw [List.length_set]; omega)
theorem rawG_ok {L : List Int} {N : Nat} {acs : List AcS} {price : Nat} (h : ∀ a ∈ acs, SmAc a) : (rawG L N acs price).1.length ≤ 4096 ∧ (rawG L N acs price).2 ≤ N + 24 := by
 have h1 := txG_ok (L := L) (N := N) (price := price) h
 have h2 := encodeS_len (txG L N acs price).1
 have h3 := rawB_ok L (txG L N acs price).2 (encodeS (txG L N acs price).1).1
 unfold rawG
 omega
theorem raw_r (L : List Int) (N : Nat) (l : LgS) (price : Nat) (hN : N < 4000000000000000000) (hl : SmLg l) (hp : U64 price) : SemR Tryz.prog G 19 [numP, lgM l, .int .u64 price] (numB L N) 1 (.sl (rawG L N l.acs price).1.length (u8s (rawG L N l.acs price).1)) (numB L (rawG L N l.acs price).2) 1 := by
 have c1 := mkTx_r (G := G) L N l price hN hl hp
 have hk := txG_ok (L := L) (N := N) (price := price) hl.2.2
 have c2 := encode_r (G := G) (txG L N l.acs price).1 hk.1
 have hel := encodeS_len (txG L N l.acs price).1
 unfold rawG
 obtain ⟨acs, col⟩ := l
 dsimp only at *
 generalize txG L N acs price = T at *
 obtain ⟨t, N1⟩ := T
 obtain ⟨snd, seq, gas, fee, memo, trs⟩ := t
 dsimp only at *
 generalize encodeS ⟨snd, seq, gas, fee, memo, trs⟩ = en at *
 obtain ⟨raw, e⟩ := en
 dsimp only at *
 unfold txM lgM at *
 dsimp only at *
 replace hk := hk.2
 have cn1 := next_n (G := G) L N1 12 (by omega) (by omega) (by omega)
 generalize hr : rawB L N1 raw = R
 obtain ⟨Rr, RN⟩ := R
 dsimp only
 unfold rawB at hr
 refine srq seat Tryz.func19 46 ?_
 refine go1 ?_
 refine g_callR1 rfl (fun _ h => h) rfl (c1) [(0, 0)] [] ⟨rfl, trivial, rfl, lm, mm⟩ rfl rfl ?_
 refine go1 ?_
 refine g_call2 rfl (fun _ h => h) rfl (c2) rfl lm ?_
 refine go1 ?_
 by_cases h0 : raw.length = 0
 ·rw [if_pos h0] at hr
  simp only [Prod.mk.injEq] at hr
  obtain ⟨rfl, rfl⟩ := hr
  ((with_reducible apply n_grd); (case hf => exact ⟨rfl, rfl, rfl⟩); (all_goals intro h))
  ·exact absurd (of_decide_eq_true h) (by omega)
  refine go1 ?_
  refine go0 ?_
  refine ⟨[_], [], [], rfl, rfl, trivial, rfl, ⟨?_, trivial⟩, ?_⟩
  ·exact rv
  ·exact mm
 rw [if_neg h0] at hr
 have cn2 := next_n (G := G) L (N1 + 1) raw.length (by omega) (by omega) (by omega)
 have b2 := (nextN_eq L (N1 + 1) raw.length (by omega)).2
 have cn3 := next_n (G := G) L (N1 + 1 + 1) 2 (by omega) (by omega) (by omega)
 have cn4 := next_n (G := G) L (N1 + 1 + 1 + 1) 256 (by omega) (by omega) (by omega)
 rw [show N1 + 2 = N1 + 1 + 1 from rfl, show N1 + 3 = N1 + 1 + 1 + 1 from rfl, show N1 + 4 = N1 + 1 + 1 + 1 + 1 from rfl] at hr
 generalize nextN L N1 12 = x1 at *
 generalize nextN L (N1 + 1) raw.length = x2 at *
 generalize nextN L (N1 + 1 + 1) 2 = x3 at *
 generalize nextN L (N1 + 1 + 1 + 1) 256 = x4 at *
 ((with_reducible apply n_grd); (case hf => exact ⟨rfl, rfl, rfl⟩); (all_goals intro h))
 rotate_left
 ·exact absurd (of_decide_eq_false h) (by omega)
 refine go1 ?_
 refine g_callR1 rfl (fun _ h => h) rfl (cn1) [(0, 0)] [] ⟨rfl, trivial, rfl, lm, mm⟩ rfl rfl ?_
 refine go1 ?_
 by_cases h1 : x1 = 0
 ·rw [if_neg (by simp [h1])] at hr
  ((with_reducible apply c_cond); (case he => exact rfl); (all_goals intro h))
  rotate_left
  ·exact absurd h (by simp [h1])
  refine go1 ?_
  refine g_callR1 rfl (fun _ h => h) rfl (cn2) [(0, 0)] [] ⟨rfl, trivial, rfl, lm, mm⟩ rfl rfl ?_
  refine go1 ?_
  refine g_callR1 rfl (fun _ h => h) rfl (cn3) [(0, 0)] [] ⟨rfl, trivial, rfl, lm, mm⟩ rfl rfl ?_
  refine go1 ?_
  by_cases h3 : x3 = 0
  ·rw [if_pos h3] at hr
   simp only [Prod.mk.injEq] at hr
   obtain ⟨rfl, rfl⟩ := hr
   have fb1 := SomF.mk (bndHi (n := raw.length) (k := x2) (κ := .i64) (by omega))
   have fb3 := SideF.mk (head_b raw)
   ((with_reducible apply c_cond); (case he => exact rfl); (all_goals intro h))
   rotate_left
   ·exact absurd h (by simp [h3])
   have htl : (raw.take x2).length = x2 := by rw [List.length_take]; omega
   rw [htl]
   have hct : u8s (raw.take x2) = cutL (u8s raw) 0 x2 := by rw [cut_u8]; simp
   rw [hct]
   refine go1 ?_
   refine go0 ?_
   refine ⟨[_], [], [], rfl, rfl, trivial, rfl, ⟨?_, trivial⟩, ?_⟩
   ·exact rv
   ·exact mm
  ·rw [if_neg h3] at hr
   simp only [Prod.mk.injEq] at hr
   obtain ⟨rfl, rfl⟩ := hr
   ((with_reducible apply c_cond); (case he => exact rfl); (all_goals intro h))
   ·exfalso
    have : (x3 : Int) = 0 := by simpa using h
    omega
   refine go1 ?_
   ((with_reducible apply g_mem); (case hq => exact rfl); (case hv => exact rfl); (case he => (intro R hR; refine sms hR ?_; refine And.intro ((head_b raw)) ?_; refine And.intro ⟨rfl, app_ok (by kernel_rfl) pf⟩ ?_; refine ⟨u8s raw, sv (by show [] ++ u8s raw = _; rw [List.nil_append]), raw.length, sv pf, ?_⟩; exact hR)); (case hd => exact rfl))
   have f1 := SomF.mk (idx_at b2)
   have f2 := SomF.mk (show nthM (u8s raw) (0 + x2) = some (.int .u8 raw[x2].toNat) by rw [nthM_eq, Nat.zero_add]; simp [u8s, b2])
   have f3 := EqF.mk (conv8n x4)
   generalize raw[x2] = ob at *
   refine go1 ?_
   refine g_callR1 rfl (fun _ h => h) rfl (cn4) [(0, 0)] [] ⟨rfl, trivial, rfl, lm, mm⟩ rfl rfl ?_
   refine go1 ?_
   rw [List.length_set]
   refine ⟨[_], [], [(30, raw.length)], rfl, rfl, ?_, rfl, ⟨?_, trivial⟩, ?_⟩
   ·exact ⟨by show raw.length ≤ (setL (u8s raw) (0 + x2) _).length; rw [setL_eq]; simp [u8s], trivial⟩
   ·refine .inr ⟨rfl, rfl, rfl, Nat.le_of_eq (Nat.zero_add _), ?_⟩
    show cutL (setL (u8s raw) (0 + x2) (u8M (UInt8.ofNat x4))) 0 (0 + raw.length) = u8s (raw.set x2 (UInt8.ofNat x4))
    rw [setL_eq, Nat.zero_add]
    have e1 : (u8s raw).set x2 (u8M (UInt8.ofNat x4)) = u8s (raw.set x2 (UInt8.ofNat x4)) := by unfold u8s; rw [List.map_set]
    rw [e1, cut_u8, List.drop_zero, Nat.zero_add, Nat.sub_zero, List.take_of_length_le (by rw [List.length_set]; omega)]
   ·exact mm
 ·rw [if_pos h1] at hr
  simp only [Prod.mk.injEq] at hr
  obtain ⟨rfl, rfl⟩ := hr
  ((with_reducible apply c_cond); (case he => exact rfl); (all_goals intro h))
  ·exfalso
   have : (x1 : Int) = 0 := by simpa using h
   omega
  refine go1 ?_
  refine go0 ?_
  refine ⟨[_], [], [], rfl, rfl, trivial, rfl, ⟨?_, trivial⟩, ?_⟩
  ·exact rv
  ·exact mm
end
section
variable {G : GS}
attribute [local irreducible] vOpsN vOpsG vOpsD vOpGD NextD vC SeqQ BlockQ
def pickR (L : List Int) (N : Nat) (raw : List UInt8) (out : List (List UInt8)) : List UInt8 × Nat :=
 if out.length = 0 then (raw, N) else if nextN L N 9 ≠ 0 then (raw, N + 1) else (out.getD (nextN L (N + 1) out.length) [], N + 2)
def rawsG (L : List Int) (price : Nat) : Nat → Nat → LgS → List (List UInt8) → List (List UInt8) × Nat
 | 0, N, _, out => (out, N)
 | i + 1, N, l, out => rawsG L price i (pickR L (rawG L N l.acs price).2 (rawG L N l.acs price).1 out).2 (afterS l price (pickR L (rawG L N l.acs price).2 (rawG L N l.acs price).1 out).1) (out ++ [(pickR L (rawG L N l.acs price).2 (rawG L N l.acs price).1 out).1])
def rawsS (L : List Int) (N : Nat) (a : AppS) (n : Nat) : List (List UInt8) × Nat := rawsG L a.price (nextN L N (n + 1)) (N + 1) a.com []
theorem pickR_ok {L : List Int} {N : Nat} {raw : List UInt8} {out : List (List UInt8)} (h : raw.length ≤ 4096) (ho : ∀ b ∈ out, b.length ≤ 4096) : (pickR L N raw out).1.length ≤ 4096 ∧ (pickR L N raw out).2 ≤ N + 2 := by
 unfold pickR
 split
 ·exact ⟨h, by dsimp only; omega⟩
 ·split
  ·exact ⟨h, by dsimp only; omega⟩
  ·refine ⟨?_, by dsimp only; omega⟩
   dsimp only
   rw [List.getD_eq_getElem?_getD]
   cases hx : out[nextN L (N + 1) out.length]? with
   | none => simp
   | some x => exact ho x (List.mem_of_getElem? hx)
theorem rawsG_ok (L : List Int) (price : Nat) : ∀ (i N : Nat) (l : LgS) (out : List (List UInt8)), SmLg l → (∀ b ∈ out, b.length ≤ 4096) → (∀ b ∈ (rawsG L price i N l out).1, b.length ≤ 4096) ∧ (rawsG L price i N l out).1.length = out.length + i ∧ (rawsG L price i N l out).2 ≤ N + 26 * i
 | 0, N, l, out, _, ho => ⟨ho, rfl, by simp [rawsG]⟩
 | i + 1, N, l, out, hl, ho => by
  have h1 := rawG_ok (L := L) (N := N) (price := price) hl.2.2
  have h2 := pickR_ok (L := L) (N := (rawG L N l.acs price).2) h1.1 ho
  have h3 := rawsG_ok L price i (pickR L (rawG L N l.acs price).2 (rawG L N l.acs price).1 out).2 (afterS l price (pickR L (rawG L N l.acs price).2 (rawG L N l.acs price).1 out).1) (out ++ [(pickR L (rawG L N l.acs price).2 (rawG L N l.acs price).1 out).1]) (txS_sm hl).1 (all_app ho fun b hb => by rw [List.mem_singleton.1 hb]; exact h2.1)
  refine ⟨h3.1, ?_, ?_⟩
  ·have := h3.2.1
   rw [rawsG, this, List.length_append, List.length_singleton]; omega
  ·have := h3.2.2
   rw [rawsG]; omega
theorem rawsS_ok {L : List Int} {N : Nat} {a : AppS} {n : Nat} (ha : SmApp a) (hn : n ≤ 100) : (∀ b ∈ (rawsS L N a n).1, b.length ≤ 4096) ∧ (rawsS L N a n).1.length ≤ n ∧ (rawsS L N a n).2 ≤ N + 1 + 26 * n := by
 have h1 := (nextN_eq L N (n + 1) (by omega)).2
 have h2 := rawsG_ok L a.price (nextN L N (n + 1)) (N + 1) a.com [] ha.1 (by simp)
 unfold rawsS
 refine ⟨h2.1, ?_, ?_⟩
 ·have := h2.2.1; simp only [List.length_nil] at this; omega
 ·have := h2.2.2; omega
theorem raws_r (L : List Int) (N : Nat) (a : AppS) (n : Nat) (hN : N < 1000000000000000000) (ha : SmApp a) (hn : n ≤ 100) : SemR Tryz.prog G 30 [numP, appM a, .int .i64 n] (numB L N) 1 (.sl (rawsS L N a n).1.length ((rawsS L N a n).1.map rawM)) (numB L (rawsS L N a n).2) 1 := by
 have cn := next_n (G := G) L N (n + 1) (by omega) (by omega) (by omega)
 have bn := (nextN_eq L N (n + 1) (by omega)).2
 unfold rawsS
 obtain ⟨⟨a1, b1⟩, ⟨a2, b2⟩, ⟨a3, b3⟩, op, price⟩ := a
 obtain ⟨hs1, _, _, hp⟩ := ha
 dsimp only at *
 generalize nextN L N (n + 1) = m at *
 generalize hr : rawsG L price m (N + 1) ⟨a1, b1⟩ [] = R
 obtain ⟨Ro, RN⟩ := R
 unfold appM lgM
 dsimp only
 refine srq seat Tryz.func30 51 ?_
 refine go1 ?_
 refine g_callR1 rfl (fun _ h => h) rfl (cn) [(0, 0)] [] ⟨rfl, trivial, rfl, lm, mm⟩ rfl rfl ?_
 refine go1 ?_
 refine c_loop (Nat × Nat × LgS × List (List UInt8)) (fun x => [(9, .int .i64 x.1), (8, .ptr 2 2 0 0 []), (7, .ms 3 1 0 x.2.2.2.length), (4, .ptr 1 8 0 0 []), (0, numP)]) (fun x => numB L x.2.1 ++ [(1, ⟨35, 8, false, 0, [.st [.st [.sl a1.length (a1.map acM), .int .u64 b1], .st [.sl a2.length (a2.map acM), .int .u64 b2], .st [.sl a3.length (a3.map acM), .int .u64 b3], .bool op, .int .u64 price]]⟩), (2, ⟨33, 2, false, 0, [.st [.sl x.2.2.1.acs.length (x.2.2.1.acs.map acM), .int .u64 x.2.2.1.col]]⟩), (3, ⟨41, 1, true, 0, x.2.2.2.map rawM⟩)]) 4 (fun x => x.1 ≤ 101 ∧ x.2.1 + 26 * x.1 < 1000000000000010000 ∧ SmLg x.2.2.1 ∧ (∀ b ∈ x.2.2.2, b.length ≤ 4096) ∧ x.2.2.2.length + x.1 ≤ 101 ∧ rawsG L price x.1 x.2.1 x.2.2.1 x.2.2.2 = (Ro, RN)) (fun x => x.1) (m, N + 1, ⟨a1, b1⟩, []) ⟨by dsimp only; omega, by dsimp only; omega, hs1, by simp, by simp; omega, hr⟩ (by dsimp only; exact (vm [(1, _), (2, _)] [])) ?_
 clear hr hs1
 rintro ⟨i, K, ⟨acs, col⟩, out⟩ ⟨hi, hK, hsl, hob, hol, hR⟩
 try dsimp only
 dsimp only at hi hK hob hol hR
 refine go1 ?_
 ((with_reducible apply c_cond); (case he => exact rfl); (all_goals intro h))
 ·have hi' : 0 < i := by have := of_decide_eq_true h; omega
  obtain ⟨j, rfl⟩ : ∃ j, i = j + 1 := ⟨i - 1, by omega⟩
  rw [rawsG] at hR
  have c1 := raw_r (G := G) L K ⟨acs, col⟩ price (by omega) hsl hp
  have k1 := rawG_ok (L := L) (N := K) (price := price) hsl.2.2
  have k2 := pickR_ok (L := L) (N := (rawG L K acs price).2) k1.1 hob
  dsimp only at c1 k1 hR
  generalize rawG L K acs price = rw' at *
  obtain ⟨raw, K1⟩ := rw'
  dsimp only at c1 k1 k2 hR
  generalize hpk : pickR L K1 raw out = pk at *
  obtain ⟨raw2, K2⟩ := pk
  dsimp only at k2 hR
  have c4 := after_m (G := G) ⟨acs, col⟩ price raw2 hsl hp (by omega)
  have k4 : SmLg (afterS ⟨acs, col⟩ price raw2) := (txS_sm hsl).1
  generalize afterS ⟨acs, col⟩ price raw2 = l2 at *
  obtain ⟨acs2, col2⟩ := l2
  unfold lgM at c1 c4
  dsimp only at c1 c4
  unfold pickR at hpk
  have hcast : ((j + 1 : Nat) : Int) - 1 = (j : Int) := by omega
  refine go1 ?_
  refine g_callR1 rfl (fun _ h => h) rfl (c1) [(0, 0)] [] ⟨rfl, trivial, rfl, lm, mm⟩ rfl rfl ?_
  refine go1 ?_
  refine q_joinN Unit (fun _ => [(10, .sl raw2.length (u8s raw2)), (9, .int .i64 (j + 1 : Nat)), (8, .ptr 2 2 0 0 []), (7, .ms 3 1 0 out.length), (4, .ptr 1 8 0 0 []), (0, numP)]) (fun _ => numB L K2 ++ [(1, ⟨35, 8, false, 0, [.st [.st [.sl a1.length (a1.map acM), .int .u64 b1], .st [.sl a2.length (a2.map acM), .int .u64 b2], .st [.sl a3.length (a3.map acM), .int .u64 b3], .bool op, .int .u64 price]]⟩), (2, ⟨33, 2, false, 0, [.st [.sl acs.length (acs.map acM), .int .u64 col]]⟩), (3, ⟨41, 1, true, 0, out.map rawM⟩)]) (fun _ => 4) (fun _ => True) (fun JQ hj => ?_) (fun _ _ => ?_)
  ·by_cases h0 : out.length = 0
   ·rw [if_pos h0] at hpk
    simp only [Prod.mk.injEq] at hpk
    obtain ⟨rfl, rfl⟩ := hpk
    ((with_reducible apply n_grd); (case hf => exact ⟨rfl, rfl, rfl⟩); (all_goals intro h))
    ·exact absurd (of_decide_eq_true h) (by omega)
    refine go1 ?_
    exact hj.nrm () trivial (vm [(1, _), (2, _), (3, _)] [])
   rw [if_neg h0] at hpk
   have cn1 := next_n (G := G) L K1 9 (by omega) (by omega) (by omega)
   have cn2 := next_n (G := G) L (K1 + 1) out.length (by omega) (by omega) (by omega)
   have b2 := (nextN_eq L (K1 + 1) out.length (by omega)).2
   rw [show K1 + 2 = K1 + 1 + 1 from rfl] at hpk
   generalize nextN L K1 9 = x1 at *
   generalize nextN L (K1 + 1) out.length = x2 at *
   ((with_reducible apply n_grd); (case hf => exact ⟨rfl, rfl, rfl⟩); (all_goals intro h))
   rotate_left
   ·exact absurd (of_decide_eq_false h) (by omega)
   refine go1 ?_
   refine g_callR1 rfl (fun _ h => h) rfl (cn1) [(0, 0)] [] ⟨rfl, trivial, rfl, lm, mm⟩ rfl rfl ?_
   refine go1 ?_
   by_cases h1 : x1 = 0
   ·rw [if_neg (by simp [h1])] at hpk
    have hgd : out.getD x2 [] = out[x2] := by simp [b2]
    have hel : nthM (out.map rawM) (0 + x2) = some (rawM out[x2]) := by rw [nthM_eq, Nat.zero_add]; simp [b2]
    rw [hgd] at hpk
    clear hgd
    generalize out[x2] = ox at *
    simp only [Prod.mk.injEq] at hpk
    obtain ⟨rfl, rfl⟩ := hpk
    replace hel : nthM (out.map rawM) (0 + x2) = some (.sl ox.length (u8s ox)) := hel
    have hel := SomF.mk hel
    have f1 := SomF.mk (idx_at b2)
    ((with_reducible apply c_cond); (case he => exact rfl); (all_goals intro h))
    rotate_left
    ·exact absurd h (by simp [h1])
    refine go1 ?_
    refine g_callR1 rfl (fun _ h => h) rfl (cn2) [(0, 0)] [] ⟨rfl, trivial, rfl, lm, mm⟩ rfl rfl ?_
    refine go1 ?_
    exact hj.nrm () trivial (vm [(1, _), (2, _), (3, _)] [])
   ·rw [if_pos h1] at hpk
    simp only [Prod.mk.injEq] at hpk
    obtain ⟨rfl, rfl⟩ := hpk
    ((with_reducible apply c_cond); (case he => exact rfl); (all_goals intro h))
    ·exfalso
     have : (x1 : Int) = 0 := by simpa using h
     omega
    refine go1 ?_
    exact hj.nrm () trivial (vm [(1, _), (2, _), (3, _)] [])
  ·try dsimp only
   have hll : (out.map rawM).length = out.length := by simp
   refine go1 ?_
   ((with_reducible apply g_mem); (case hq => exact rfl); (case hv => exact rfl); (case he => (intro R hR; refine sms hR ?_; (refine And.intro (Nat.le_refl _) ?_; refine ⟨_, rfl, ?_⟩; refine And.intro ⟨hll, app_ok (by kernel_rfl) pf⟩ ?_; refine ⟨(out ++ [raw2]).map rawM, sv (by rw [List.map_append]; rfl), out.length + 1, sv pf, ?_⟩); exact hR)); (case hd => exact rfl))
   refine go1 ?_
   refine g_call2 rfl (fun _ h => h) rfl (semR_of_semC (c4)) rfl lm ?_
   refine go1 ?_
   exact ⟨(j, K2, ⟨acs2, col2⟩, out ++ [raw2]), ⟨by dsimp only; omega, by dsimp only; omega, k4, all_app hob fun b hb => by rw [List.mem_singleton.1 hb]; exact k2.1, by dsimp only; rw [List.length_append, List.length_singleton]; omega, hR⟩, by dsimp only; omega, (by dsimp only; rw [List.length_append, List.length_singleton]; exact (vm [(1, _), (2, _), (3, _)] []))⟩
 ·have hi' : i = 0 := by have := of_decide_eq_false h; omega
  subst hi'
  rw [rawsG] at hR
  simp only [Prod.mk.injEq] at hR
  obtain ⟨rfl, rfl⟩ := hR
  refine go1 ?_
  refine ⟨[_], [], [(3, out.length)], rfl, rfl, ?_, rfl, ⟨?_, trivial⟩, ?_⟩
  ·exact ⟨by show out.length ≤ (out.map rawM).length; simp, trivial⟩
  ·exact .inr ⟨rfl, rfl, rfl, Nat.le_of_eq (Nat.zero_add _), cut_all rawM out⟩
  ·exact mm
end
section
variable {G : GS}
attribute [local irreducible] vOpsN vOpsG vOpsD vOpGD NextD vC SeqQ BlockQ
theorem acn_at {k : Nat} (hk : k < 4) : ∃ nm : List UInt8, nthM [MV.str [97, 110, 110], MV.str [98, 111, 98], MV.str [101, 118, 101], MV.str [122, 111, 101]] (0 + k) = some (.str nm) ∧ nm.length ≤ 5 := by
 have h4 : k = 0 ∨ k = 1 ∨ k = 2 ∨ k = 3 := by omega
 rcases h4 with rfl | rfl | rfl | rfl <;> exact ⟨_, rfl, by decide⟩
theorem acb_at {k : Nat} (hk : k < 5) : ∃ v : Nat, nthM [MV.int .u64 100000, MV.int .u64 5000, MV.int .u64 700, MV.int .u64 0, MV.int .u64 1099511627776] (0 + k) = some (.int .u64 (v : Int)) ∧ U64 v := by
 have h5 : k = 0 ∨ k = 1 ∨ k = 2 ∨ k = 3 ∨ k = 4 := by omega
 rcases h5 with rfl | rfl | rfl | rfl | rfl
 ·exact ⟨100000, rfl, by decide⟩
 ·exact ⟨5000, rfl, by decide⟩
 ·exact ⟨700, rfl, by decide⟩
 ·exact ⟨0, rfl, by decide⟩
 ·exact ⟨1099511627776, rfl, by decide⟩
theorem acq_at {k : Nat} (hk : k < 3) : ∃ v : Nat, nthM [MV.int .u64 5, MV.int .u64 18446744073709551615, MV.int .u64 18446744073709551614] (0 + k) = some (.int .u64 (v : Int)) ∧ U64 v := by
 have h3 : k = 0 ∨ k = 1 ∨ k = 2 := by omega
 rcases h3 with rfl | rfl | rfl
 ·exact ⟨5, rfl, by decide⟩
 ·exact ⟨18446744073709551615, rfl, by decide⟩
 ·exact ⟨18446744073709551614, rfl, by decide⟩
theorem accounts_n (L : List Int) (N : Nat) (hN : N < 4000000000000000000) : SemN G L 13 [numP] N fun r N' => ∃ acs : List AcS, acs.length ≤ 4 ∧ (∀ a ∈ acs, SmAc a) ∧ N' ≤ N + 14 ∧ r = .sl acs.length (acs.map acM) := by
 obtain ⟨m, hm, cm⟩ := next_b (G := G) L N 4 (by omega) (by omega) (by omega)
 unfold SemN
 refine semE_of_vc seat Tryz.func13 rfl rfl (Nat.le_of_ble_eq_true rfl) (Nat.le_of_ble_eq_true rfl) (N := 36) rfl rfl ?_
 refine go1 ?_
 refine g_callR1 rfl (fun _ h => h) rfl (cm) [(0, 0)] [] ⟨rfl, trivial, rfl, lm, mm⟩ rfl rfl ?_
 refine go1 ?_
 refine c_loop (Nat × Nat × List AcS) (fun x => [(4, .int .i64 ((x.1 : Int) - 1)), (3, .ms 1 3 0 x.2.2.length), (0, numP)]) (fun x => numB L x.2.1 ++ [(1, ⟨91, 3, true, 0, x.2.2.map acM⟩)]) 2 (fun x => x.1 + x.2.2.length ≤ 4 ∧ x.2.1 + 3 * x.1 ≤ N + 14 ∧ (∀ a ∈ x.2.2, SmAc a)) (fun x => x.1) (m + 1, N + 1, []) ⟨by simp; omega, by dsimp only; omega, by simp⟩ (by dsimp only; exact vm [] []) ?_
 rintro ⟨j, K, acs⟩ ⟨h1, h2, h3⟩
 try dsimp only
 dsimp only at h1 h2 h3
 refine go1 ?_
 ((with_reducible apply c_cond); (case he => exact rfl); (all_goals intro h))
 ·have hj : 1 ≤ j := by have := of_decide_eq_true h; omega
  obtain ⟨i, rfl⟩ : ∃ i, j = i + 1 := ⟨j - 1, by omega⟩
  have hcast : ((i + 1 : Nat) : Int) - 1 = (i : Int) := by omega
  rw [hcast]
  obtain ⟨nm, f1, g1⟩ := acn_at (k := i) (by omega)
  obtain ⟨x5, hx5, c5⟩ := next_b (G := G) L K 5 (by omega) (by omega) (by omega)
  obtain ⟨bal, f2, g2⟩ := acb_at (k := x5) hx5
  obtain ⟨x6, hx6, c6⟩ := next_b (G := G) L (K + 1) 6 (by omega) (by omega) (by omega)
  obtain ⟨x3, hx3, c3⟩ := next_b (G := G) L (K + 1 + 1) 3 (by omega) (by omega) (by omega)
  obtain ⟨sq, f3, g3⟩ := acq_at (k := x3) hx3
  have f1 := SomF.mk f1
  have f2 := SomF.mk f2
  have f3 := SomF.mk f3
  have i1 := SomF.mk (idx_at (n := 4) (k := i) (by omega))
  have i2 := SomF.mk (idx_at hx5)
  have i3 := SomF.mk (idx_at hx3)
  have hll : (acs.map acM).length = acs.length := by simp
  refine go1 ?_
  refine c_draw [(0, false), (1, false), (2, false), (3, false), (4, false), (5, false), (6, true), (7, false), (8, false), (9, false), (10, false), (11, false)] ?_
  refine go1 ?_
  refine gd_callR1 rfl (fun _ h => h) rfl [0] (c5) [(0, 0)] [] ⟨rfl, trivial, rfl, lm, mm⟩ rfl rfl rfl rfl ?_
  refine go1 ?_
  refine g_callR1 rfl (fun _ h => h) rfl (c6) [(0, 0)] [] ⟨rfl, trivial, rfl, lm, mm⟩ rfl rfl ?_
  refine go1 ?_
  ((with_reducible apply c_cond); (case he => exact rfl); (all_goals intro h))
  ·refine go1 ?_
   refine g_callR1 rfl (fun _ h => h) rfl (c3) [(0, 0)] [] ⟨rfl, trivial, rfl, lm, mm⟩ rfl rfl ?_
   refine go1 ?_
   ((with_reducible apply g_mem); (case hq => exact rfl); (case hv => exact rfl); (case he => (intro R hR; refine sms hR ?_; (refine And.intro (Nat.le_refl _) ?_; refine ⟨_, rfl, ?_⟩; refine And.intro ⟨hll, app_ok (by kernel_rfl) pf⟩ ?_; refine ⟨(acs ++ [(⟨nm, bal, sq⟩ : AcS)]).map acM, sv (by rw [List.map_append]; rfl), acs.length + 1, sv pf, ?_⟩); exact hR)); (case hd => exact rfl))
   refine go1 ?_
   exact ⟨(i, K + 1 + 1 + 1, acs ++ [⟨nm, bal, sq⟩]), ⟨by dsimp only; rw [List.length_append, List.length_singleton]; omega, by dsimp only; omega, all_app h3 fun a ha => by rw [List.mem_singleton.1 ha]; exact ⟨by dsimp only; omega, g2, g3⟩⟩, by dsimp only; omega, (by dsimp only; rw [List.length_append, List.length_singleton]; exact (vm [(1, _)] []))⟩
  ·refine go1 ?_
   ((with_reducible apply g_mem); (case hq => exact rfl); (case hv => exact rfl); (case he => (intro R hR; refine sms hR ?_; (refine And.intro (Nat.le_refl _) ?_; refine ⟨_, rfl, ?_⟩; refine And.intro ⟨hll, app_ok (by kernel_rfl) pf⟩ ?_; refine ⟨(acs ++ [(⟨nm, bal, 0⟩ : AcS)]).map acM, sv (by rw [List.map_append]; rfl), acs.length + 1, sv pf, ?_⟩); exact hR)); (case hd => exact rfl))
   refine go1 ?_
   exact ⟨(i, K + 1 + 1, acs ++ [⟨nm, bal, 0⟩]), ⟨by dsimp only; rw [List.length_append, List.length_singleton]; omega, by dsimp only; omega, all_app h3 fun a ha => by rw [List.mem_singleton.1 ha]; exact ⟨by dsimp only; omega, g2, by simp [U64]⟩⟩, by dsimp only; omega, (by dsimp only; rw [List.length_append, List.length_singleton]; exact (vm [(1, _)] []))⟩
 ·refine go1 ?_
  refine ⟨_, _, _, ⟨K, ⟨⟨acs, by omega, h3, by omega, rfl⟩, rfl⟩, rfl, rfl⟩, ?_⟩; refine ⟨[_], [], [(1, acs.length)], rfl, rfl, ?_, rfl, ⟨?_, trivial⟩, ?_⟩
  ·exact ⟨by show acs.length ≤ (acs.map acM).length; simp, trivial⟩
  ·exact .inr ⟨rfl, rfl, rfl, Nat.le_of_eq (Nat.zero_add _), cut_all acM acs⟩
  ·exact mm
end
section
section
variable {Pg : Program} {T : Tab} {N : Nat} {ents : List FuncId} {G : GS} {ops : Array Oper} {d : Tmp} {ty : TypeId} {pos : String} {after : Array Edge} {g : Option (Nat × Bool)} {rest : List Oper} {K : VK} {E : VE} {M : VM} {n : Nat}
 {f : Operand} {args : Array Operand} {ats : Array TypeId} {f0 : FuncId} {vs : List MV} {res : MV}
variable {n0 n' : Nat} {y : Code} {Q : Exit → VK}
theorem n_reQ (E' : VE) (M' : VM) (n' : Nat) (hm : VMatch n0 E' M' n' E M) (h : vC Pg T N ents G n0 y Q E' M' n') : vOpsN Pg T N ents G ops [] (SeqQ Pg T N ents G n0 y Q .normal) E M n := Rs.re _ _ _ hm h
end
theorem gor {p q : Prop} (h : q) (s : Box q → p := by intro hq; (repeat (first | ((with_reducible apply n_load); (case hp => exact rfl); (case hc => exact rfl); (case hm => exact rfl); (case hr => exact rfl); (case hk => kernel_rfl)) | ((with_reducible apply n_store); (case hp => exact rfl); (case hy => exact rfl); (case hc => exact rfl); (case hpe => exact Nat.zero_le _); (case hm => exact rfl); (case hs => exact rfl); (case hk => kernel_rfl)) | ((with_reducible apply n_box); (case hx => exact rfl); (case ht => exact rfl); (case hk => kernel_rfl)) | ((with_reducible apply n_alloc); (case ht => exact rfl); (case hz => exact rfl); (case hk => kernel_rfl)) | ((with_reducible apply n_val); (case hb => exact rfl); (case he => exact xhv)) | ((with_reducible apply c_seqR)) | ((with_reducible apply n_app)) | ((with_reducible apply n_app0)) | ((with_reducible apply e_load); (case ho => exact rfl); (case hp => exact rfl); (case hc => exact rfl); (case hm => exact rfl); (case hr => exact rfl); (case hk => kernel_rfl)) | ((with_reducible apply e_store); (case ho => exact rfl); (case hp => exact rfl); (case hy => exact rfl); (case hc => exact rfl); (case hpe => exact Nat.zero_le _); (case hm => exact rfl); (case hs => exact rfl); (case hk => kernel_rfl)) | ((with_reducible apply e_val); (case ho => exact rfl); (case hb => exact rfl); (case he => exact xhv)) | ((with_reducible apply d_end); (case ho => exact (show okDraw _ _ = true by kernel_rfl))) | ((with_reducible apply n_none); (case hb => exact rfl); (case he => exact xhv)) | ((with_reducible apply n_mem); (case hb => exact rfl); (case he => exact xhv)) | ((with_reducible apply n_valY); (case hs => exact rfl); (case hv => exact rfl); (case hb => exact rfl); (case he => exact xhv)) | ((with_reducible apply n_guardN); (case hs => exact rfl); (case hv => exact rfl); (case hd => exact rfl)) | ((with_reducible apply n_guardU); (case hs => exact rfl); (case hv => exact rfl); (case hd => exact rfl)) | ((with_reducible apply g_val); (case hq => exact rfl); (case hv => exact rfl); (case he => exact xhv); (case hd => exact rfl)) | ((with_reducible apply g_none); (case hq => exact rfl); (case hv => exact rfl); (case he => exact xhv)) | ((with_reducible apply g_mem); (case hq => exact rfl); (case hv => exact rfl); (case he => exact xhv); (case hd => exact rfl)) | ((with_reducible apply c_seq)) | ((with_reducible apply seqQ_n)) | ((with_reducible apply c_region)) | ((with_reducible apply c_condT); (case he => exact rfl)) | ((with_reducible apply c_condF); (case he => exact rfl)) | ((with_reducible apply c_block)) | ((with_reducible apply c_skip)) | ((with_reducible apply c_exit)) | ((with_reducible apply c_ret)) | ((with_reducible apply seqQ_x)) | ((with_reducible apply seqQ_r)) | ((with_reducible apply blockQ_n)) | ((with_reducible apply blockQ_r)) | ((with_reducible apply blockQ_x); (case hb => exact rfl)) | ((with_reducible apply blockQ_y); (case hb => exact rfl)) | ((with_reducible apply loopQ_x)) | ((with_reducible apply loopQ_r)) | ((with_reducible apply c_label)) | (with_reducible refine joinF_r (by assumption) ?_) | (with_reducible refine joinF_x (by assumption) ?_) | ((with_reducible apply e_none); (case ho => exact rfl); (case hb => exact rfl); (case he => exact xhv)) | ((with_reducible apply e_valY); (case ho => exact rfl); (case hs => exact rfl); (case hv => exact rfl); (case hb => exact rfl); (case he => exact xhv)) | ((with_reducible apply e_mem); (case ho => exact rfl); (case hb => exact rfl); (case he => exact xhv)) | ((with_reducible apply d_next)) | ((with_reducible apply d_step); (case ho => exact rfl)) | ((with_reducible apply d_guardN); (case hs => exact rfl); (case hv => exact rfl); (case hd => exact rfl)) | ((with_reducible apply d_guardU); (case hs => exact rfl); (case hv => exact rfl); (case hd => exact rfl)) | ((with_reducible apply d_guardY); (case hs => exact rfl); (case hv => exact rfl)) | ((with_reducible apply d_go)) | ((with_reducible apply gd_val); (case hv => exact rfl); (case he => exact xhv); (case hd => exact rfl)) | ((with_reducible apply gd_none); (case hv => exact rfl); (case he => exact xhv)) | ((with_reducible apply gd_mem); (case hv => exact rfl); (case he => exact xhv); (case hd => exact rfl)) | ((with_reducible apply n_guardY); (case hs => exact rfl); (case hv => exact rfl)) | ((with_reducible apply n_go)))); exact hq.out) : p := s ⟨h⟩
end
section
section
variable {T : Tab} {M : VM} {E : VE} {l : List ResultVar} {K : List MV → Prop}
theorem r_tmp {t : Nat} {v : MV} (hv : VE.get E t = some v) (h : vRets T M E l fun r => K (v :: r)) : vRets T M E (.tmp t :: l) K := by
 unfold vRets
 rw [hv]
 exact h
theorem r_cell {p ty c es k fo : Nat} {path : List Nat} {b : MB} {m r : MV} (hp : VE.get E p = some (.ptr c es k fo path)) (hc : VM.get M c = some b) (hm : nthM b.l k = some m) (hr : getP m path = some r) (hk : (okLd T ty b.es es r && okP m path fo) = true) (h : vRets T M E l fun x => K (r :: x)) : vRets T M E (.cell p ty :: l) K := by
 have h2 := he_loadP (Pg := default) (n := 0) (dst := none) (ty := 0) (pos := default) (after := #[]) (g := none) (x := .tmp p) (R := fun y : MV × Dl => vRets T M E l fun x => K (y.1 :: x)) hp hc hm hr hk h
 change (rd (VE.get E) (.tmp p) fun p => oLoad T (VM.get M) ty p).runP _ at h2
 unfold rd at h2
 rw [show evM (VE.get E) (Operand.tmp p) = some (.ptr c es k fo path) from hp] at h2
 unfold vRets
 rw [hp]
 exact h2
theorem rvq {rs : List ResultVar} {vs : List MV} (h : vRets T M E rs (fun v => v = vs) := by first | ((repeat (first | ((with_reducible apply r_cell); (case hp => exact rfl); (case hc => exact rfl); (case hm => exact rfl); (case hr => exact rfl); (case hk => kernel_rfl)) | ((with_reducible apply r_tmp); (case hv => exact rfl)))); exact rfl) | (refine go0 ?_; exact rfl)) : vRets T M E rs (fun v => v = vs) := h
end
end
section
open Go.RowKit Go.Lib Go.Shelf
theorem info_acc : (Tryz.prog.info? 91).map (fun i => (i.zero, i.size, i.bytes)) = some (some (.agg #[.string ⟨#[]⟩, .int .u64 0, .int .u64 0]), 3, 32) := by kernel_rfl
theorem und_accs : Tryz.prog.underlying 22 = some (.slice 91) := by kernel_rfl
theorem und_int : Tryz.prog.underlying 3 = some (.int .i64) := by kernel_rfl
section
variable {P : Program}
theorem wp_copy_runK (w : World) {o : Oper} {a : Act} {K : Act → World → Prop} {Q : Exit → Act → World → Prop} (d s : Operand) (t t' : TypeId)
  (ho : o.op = .call { callee := .builtin .copy, args := #[d, s], argTypes := #[t, t'] }) (v u : Value) (hd : a.eval d = v) (hs : a.eval s = u) {v' : Value} {w' : World}
  (hr : (Builtin.copy_ #[t, t'] o.type #[v, u]).run P w = .ok v' w') (h : K (a.put o.dst v') w') : o.wp P a w K Q := by
 unfold Oper.wp execOp
 simp only [ho, resolve, invoke, builtin, Sem.run_bind, Sem.run_pure, Result.andThen_ok, List.map_toArray, List.map_cons, List.map_nil, hd, hs, hr]
 exact h
theorem wpList_copy_runK (w : World) {ops : Array Oper} {rest : List Oper} {o : Oper} {a : Act} {Q : Exit → Act → World → Prop} (hgd : o.guard = none) (d s : Operand) (t t' : TypeId)
  (ho : o.op = .call { callee := .builtin .copy, args := #[d, s], argTypes := #[t, t'] }) (v u : Value) (hd : a.eval d = v) (hs : a.eval s = u) {v' : Value} {w' : World}
  (hr : (Builtin.copy_ #[t, t'] o.type #[v, u]).run P w = .ok v' w') (h : wpList P ops Q rest (a.put o.dst v') w') : wpList P ops Q (o :: rest) a w :=
 wpList_plain hgd fun _ hK => wp_copy_runK w d s t t' ho v u hd hs hr (hK _ _ h)
theorem step_copy_runK {ops : Array Oper} {o : Oper} {a : Act} {w : World} {K : Act → World → Prop} {Q : Exit → Act → World → Prop} {E : Prop}
  (hg : o.guard = none) (d x : Operand) (dT sT : TypeId) (hop : o.op = Op.call { callee := Callee.builtin Builtin.copy, args := #[d, x], argTypes := #[dT, sT] })
  (v u : Value) (hd : a.eval d = v) (hx : a.eval x = u) {v' : Value} {w' : World} (hr : (Builtin.copy_ #[dT, sT] o.type #[v, u]).run P w = .ok v' w') (hK : K (a.put o.dst v') w') :
  if Region.wanted o (yielded ops a.tmps) = true then Oper.wp P o a w K Q else E := by
 have hw : Region.wanted o (yielded ops a.tmps) = true := by simp [Region.wanted, hg]
 rw [if_pos hw]
 unfold Oper.wp
 simp [execOp, hop, resolve, invoke, builtin, hd, hx, hr, Result.andThen]
 exact hK
end
theorem run_copy_rowK {P : Program} (w : World) (dT sT ty elem : TypeId) (es g o dLen dCap : Nat) (a : Addr) (sLen sCap : Nat) (cur : Array Value) (t : TypeId) (cs : List Value)
  (hu : P.underlying dT = some (.slice elem)) (hs : (P.info? elem).map (·.size) = some es)
  (hg : w.heap[g]? = some (.cells cur t (0, 0))) (hn : cs.length = Nat.min sLen dLen * es)
  (hsrc : ∀ j v, cs[j]? = some v → w.cell? (a.add j) = some v) (hfit : o + cs.length ≤ cur.size) (h1 : ∀ v ∈ cs, v.oneCell' = true) :
  (Builtin.copy_ #[dT, sT] ty #[.slice (some ⟨g, o, none⟩) dLen dCap, .slice (some a) sLen sCap]).run P w =
   .ok (goInt (Nat.min sLen dLen)) (w.setRow g (cur.toList.take o ++ cs ++ cur.toList.drop (o + cs.length)).toArray) := by
 have hl := run_loadCells_list (P := P) w a cs hsrc
 have hst := run_storeCells_at P g o t cs 0 cur w hg (by simpa using hfit) h1
 cases hq : P.info? elem with
 | none => simp [hq] at hs
 | some i =>
  have hi : i.size = es := by simpa [hq] using hs
  simp [Builtin.copy_, run_underlying hu, Builtin.lenOf, Builtin.firstCells, sizeOf, typeInfo, hq, hi, ← hn, hl, hst]
def zAcc : Value := .agg #[.string ⟨#[]⟩, .int .u64 0, .int .u64 0]
theorem info_parts3 : ∃ i0, Tryz.prog.info? 91 = some i0 ∧ i0.zero = some zAcc ∧ i0.size = 3 ∧ i0.bytes = 32 := by
 have h := info_acc
 cases hq : Tryz.prog.info? 91 with
 | none => rw [hq] at h; cases h
 | some i =>
  rw [hq] at h
  simp only [Option.map_some, Option.some.injEq, Prod.mk.injEq] at h
  exact ⟨i, rfl, h.1, h.2.1, h.2.2⟩
set_option maxRecDepth 100000 in
theorem ins_grow (b off n c i vb voff vc : Nat) (cs vs : List Value) (w : World) (hi : i < n) (hnc : n ≤ c) (hroom : c < n + 1) (hbig : (n + 1) * 32 ≤ 140737488355328)
  (hcl : cs.length = n * 3) (hvl : vs.length = 3)
  (hcs : ∀ j v, cs[j]? = some v → w.cell? ⟨b, off + j, none⟩ = some v)
  (hvs : ∀ j v, vs[j]? = some v → w.cell? ⟨vb, voff + j, none⟩ = some v) (h1c : ∀ v ∈ cs, v.oneCell' = true) (h1v : ∀ v ∈ vs, v.oneCell' = true) :
  Calls Tryz.prog 139 #[.slice (some ⟨b, off, none⟩) n c, .int .i64 i, .slice (some ⟨vb, voff, none⟩) 1 vc] w fun e w' =>
   ∃ G, n + 1 ≤ G ∧ G ≤ maxLen ∧ ∃ ROW : Array Value, ROW.size = G * 3 ∧ (cs.take (i * 3) ++ vs ++ cs.drop (i * 3)) <+: ROW.toList ∧
   e = .returned (.slice (some ⟨w.heap.size, 0, none⟩) (n + 1) G) ∧
   ∃ R1 R0, w' = (((w.alloc (.cells R0 91)).drew.setRow w.heap.size R1).drew).setRow w.heap.size ROW := by
 obtain ⟨i0, hi0, hz0, hzs, hzb⟩ := info_parts3
 have ha : Tryz.prog.underlying 22 = some (.slice 91) := und_accs
 have hint : Tryz.prog.underlying 3 = some (.int .i64) := und_int
 have u22 := run_underlying ha
 have u3 := run_underlying hint
 have hz2 : ¬ ((i : Int) = (n : Int)) := by omega
 have hz3 : (c : Int) < (n : Int) + 1 := by omega
 have hsz : (Tryz.prog.info? 91).map (·.size) = some 3 := by rw [hi0]; simp [hzs]
 have hbw : b < w.heap.size := block_lt_of_cell (hcs 0 _ (List.getElem?_eq_getElem (by omega)))
 have hvw : vb < w.heap.size := block_lt_of_cell (hvs 0 _ (List.getElem?_eq_getElem (by omega)))
 have hkk : (n : Int) + 1 - (i : Int) = ((n + 1 - i : Nat) : Int) := by omega
 have hik : i + (n + 1 - i) = n + 1 := by omega
 have hold : (Builtin.firstCells i0.size i (.slice (some ⟨b, off, none⟩) i c)).run Tryz.prog w.drew = .ok (cs.take (i * 3)).toArray w.drew := by
  rw [hzs]
  exact run_firstCells_some w.drew 3 i ⟨b, off, none⟩ i c (cs.take (i * 3)) (by rw [List.length_take]; omega) (fun j v hj => by
   rw [Addr.add_lit]
   rw [List.getElem?_take] at hj
   split at hj
   ·exact hcs j v hj
   ·cases hj)
 have hrz : ∀ ty, (Builtin.append_ #[22, 3] ty #[.slice (some ⟨b, off, none⟩) i c, .int .i64 ((n : Int) + 1 - (i : Int))]).run Tryz.prog w =
   .ok (.slice (some ⟨w.heap.size, 0, none⟩) (n + 1) (grownCap w (n + 1) c 91)) (w.drew.alloc (.cells ((cs.take (i * 3)).toArray ++ Builtin.zeroCells zAcc.cells (n + 1 - i) ++ Builtin.zeroCells zAcc.cells (grownCap w (n + 1) c 91 - (n + 1))) 91)) := fun ty => by
  have h := Lib.run_append_grow_zeros w 22 3 ty 91 i0 _ .i64 .i64 ha hint hi0 hz0 (some ⟨b, off, none⟩) i c (cs.take (i * 3)) hold (n + 1 - i) (by omega) (by omega) (by omega) (by omega) (by rw [hzb]; omega) (by rw [hzb, hik]; exact growslice_fits hroom hbig)
  rw [hik] at h
  rw [hkk]
  exact h
 have hGn : n + 1 ≤ grownCap w (n + 1) c 91 := grownCap_ge w _ _ _
 have hG63 : grownCap w (n + 1) c 91 ≤ maxLen := grownCap_le_maxLen w (n + 1) c 91 (by unfold maxLen; omega)
 obtain ⟨G, hG⟩ : ∃ G, G = grownCap w (n + 1) c 91 := ⟨_, rfl⟩
 obtain ⟨ROW, hROW⟩ : ∃ ROW : Array Value, ROW = (cs.take (i * 3)).toArray ++ Builtin.zeroCells zAcc.cells (n + 1 - i) ++ Builtin.zeroCells zAcc.cells (G - (n + 1)) := ⟨_, rfl⟩
 rw [← hG] at hrz hGn hG63
 rw [← hROW] at hrz
 have hRl : ROW.size = G * 3 := by
  have hz : ∀ k, (Builtin.zeroCells zAcc.cells k).size = k * 3 := fun k => by unfold Builtin.zeroCells; rw [Array.size_map, Array.size_range]; rfl
  rw [hROW, Array.size_append, Array.size_append, hz, hz, List.size_toArray, List.length_take, hcl]
  simp only [Nat.min_def]
  split <;> omega
 have hW1g : ∀ (W : World), W.heap = (w.alloc (.cells ROW 91)).heap → W.heap[w.heap.size]? = some (.cells ROW 91 (0, 0)) := fun W hW => by
  rw [hW]
  show (w.heap.push (.cells ROW 91 (0, 0)))[w.heap.size]? = _
  exact Array.getElem?_push_size
 have hOb : ∀ (W : World), W.heap = (w.alloc (.cells ROW 91)).heap → ∀ x j v, x < w.heap.size → w.cell? ⟨x, j, none⟩ = some v → W.cell? ⟨x, j, none⟩ = some v := fun W hW x j v hx h => by
  have h1 := World.cell?_alloc_past (w := w) (.cells ROW 91) x j hx
  unfold World.cell? at h1 h ⊢
  rw [hW]
  exact h1.trans h
 have hcpA : ∀ (W : World), W.heap = (w.alloc (.cells ROW 91)).heap → ∀ ty dc, (Builtin.copy_ #[22, 22] ty #[.slice (some ⟨w.heap.size, i * 3, none⟩) (n + 1 - i) dc, .slice (some ⟨vb, voff, none⟩) 1 vc]).run Tryz.prog W = .ok (goInt 1) (W.setRow w.heap.size (ROW.toList.take (i * 3) ++ vs ++ ROW.toList.drop (i * 3 + 3)).toArray) := fun W hW ty dc => by
  have hm : Nat.min 1 (n + 1 - i) = 1 := by simp only [Nat.min_def]; split <;> omega
  have h := run_copy_rowK W 22 22 ty 91 3 w.heap.size (i * 3) (n + 1 - i) dc ⟨vb, voff, none⟩ 1 vc ROW 91 vs ha hsz (hW1g W hW) (by rw [hm, hvl]) (fun j v hj => by rw [Addr.add_lit]; exact hOb W hW vb _ v hvw (hvs j v hj)) (by omega) h1v
  rw [hm, hvl] at h
  exact h
 obtain ⟨R1, hR1⟩ : ∃ R1, R1 = (ROW.toList.take (i * 3) ++ vs ++ ROW.toList.drop (i * 3 + 3)).toArray := ⟨_, rfl⟩
 rw [← hR1] at hcpA
 have hR1l : R1.size = G * 3 := by
  rw [hR1]
  simp
  omega
 have hdl : (cs.drop (i * 3)).length = (n - i) * 3 := by rw [List.length_drop, hcl]; omega
 have hcpB : ∀ (W : World), W.heap = ((w.alloc (.cells ROW 91)).drew.setRow w.heap.size R1).heap → ∀ ty dc sc, (Builtin.copy_ #[22, 22] ty #[.slice (some ⟨w.heap.size, (i + 1) * 3, none⟩) (n - i) dc, .slice (some ⟨b, off + i * 3, none⟩) (n - i) sc]).run Tryz.prog W = .ok (goInt (n - i : Nat)) (W.setRow w.heap.size (R1.toList.take ((i + 1) * 3) ++ cs.drop (i * 3) ++ R1.toList.drop ((i + 1) * 3 + (n - i) * 3)).toArray) := fun W hW ty dc sc => by
  have hm : Nat.min (n - i) (n - i) = n - i := Nat.min_self _
  have hg1 : W.heap[w.heap.size]? = some (.cells R1 91 (0, 0)) := by
   rw [hW]
   exact setRow_heap _ w.heap.size ROW R1 91 (0, 0) (hW1g _ rfl)
  have h := run_copy_rowK W 22 22 ty 91 3 w.heap.size ((i + 1) * 3) (n - i) dc ⟨b, off + i * 3, none⟩ (n - i) sc R1 91 (cs.drop (i * 3)) ha hsz hg1 (by rw [hm, hdl]) (fun j v hj => by
   rw [Addr.add_lit, Nat.add_assoc]
   rw [List.getElem?_drop] at hj
   have h1 := hOb (w.alloc (.cells ROW 91)).drew rfl b _ v hbw (hcs _ v hj)
   have h2 : (((w.alloc (.cells ROW 91)).drew.setRow w.heap.size R1)).cell? ⟨b, off + (i * 3 + j), none⟩ = some v := (cell_setRow_other _ _ _ _ (Nat.ne_of_lt hbw)).trans h1
   unfold World.cell? at h2 ⊢
   rw [hW]
   exact h2) (by omega) (fun v hv => h1c v (List.mem_of_mem_drop hv))
  rw [hm, hdl] at h
  exact h
 have hw1 : IntKind.i64.wrap ((i : Int) + 1) = (i : Int) + 1 := by rw [IntKind.wrap_i64]; omega
 have hw2 : IntKind.i64.wrap ((n : Int) + 1) = (n : Int) + 1 := by rw [IntKind.wrap_i64]; omega
 have hb1 : (0 : Int) ≤ (i : Int) + 1 := by omega
 have hin : i ≤ n := by omega
 have htn : ((i : Int) + 1).toNat = i + 1 := by omega
 have hb3 : (i : Int) ≤ (n : Int) := by omega
 have hGi : ¬ (G = i) := by omega
 have hGim : ¬ (G = i + 1) := by omega
 have hci : ¬ (c = i) := by omega
 have hpre : (cs.take (i * 3)) = ROW.toList.take (i * 3) := by
  rw [hROW, Array.toList_append, Array.toList_append, List.append_assoc, List.take_append_of_le_length (by simp; omega), List.toList_toArray, List.take_take, Nat.min_self]
 have hR1p : R1.toList.take ((i + 1) * 3) = cs.take (i * 3) ++ vs := by
  rw [hR1, ← hpre]
  have h1 : (cs.take (i * 3)).length = i * 3 := by simp; omega
  show List.take _ (cs.take (i * 3) ++ vs ++ _) = _
  rw [List.take_append_of_le_length (by simp; omega), List.take_of_length_le (by simp; omega)]
 obtain ⟨R2, hR2⟩ : ∃ R2, R2 = (R1.toList.take ((i + 1) * 3) ++ cs.drop (i * 3) ++ R1.toList.drop ((i + 1) * 3 + (n - i) * 3)).toArray := ⟨_, rfl⟩
 rw [← hR2] at hcpB
 have hR2l : R2.size = G * 3 := by
  rw [hR2]
  simp
  omega
 have hR2p : (cs.take (i * 3) ++ vs ++ cs.drop (i * 3)) <+: R2.toList := by
  rw [hR2, hR1p]
  exact List.prefix_append _ _
 have mixed : Tryz.prog.follows Departure.mixedOrders = true := by kernel_rfl
 clear hkk hik hold hROW hG hR1 hR2 hpre hR1p
 go_enter Tryz.func139, Tryz.ntmps139
 have hA0 := hcpA (w.alloc (.cells ROW 91)).drew rfl
 have hB0 := hcpB ((w.alloc (.cells ROW 91)).drew.setRow w.heap.size R1).drew rfl
 go_wp2_with (first
  | (at_builtin; refine Lib.wpList_append_run _ rfl _ _ _ _ rfl _ _ rfl rfl _ _ (hrz _) ?_)
  | (at_builtin; refine wpList_copy_runK _ rfl _ _ 22 22 rfl _ _ rfl rfl (hA0 _ _) ?_))
 go_region_law_o (refine step_copy_runK rfl _ _ 22 22 rfl _ _ (by simp [Act.eval, Act.put]) (by simp [Act.eval, Act.put]) (hB0 _ _ _) ?_)
 go_wp2
 go_ret
 exact ⟨G, hGn, hG63, R2, hR2l, hR2p, rfl, R1, ROW, rfl⟩
set_option maxRecDepth 100000 in
theorem ins_shift (b n c i vb vc : Nat) (cs vs : List Value) (cur curv : Array Value) (tv : TypeId) (w : World) (hi : i < n) (hroom : n + 1 ≤ c) (hc63 : c ≤ maxLen) (hvb : vb ≠ b)
  (hg : w.heap[b]? = some (.cells cur 91 (0, 0))) (hcz : cur.size = c * 3) (hgv : w.heap[vb]? = some (.cells curv tv (0, 0)))
  (hcl : cs.length = n * 3) (hvl : vs.length = 3) (hcp : cs <+: cur.toList)
  (hvs : ∀ j v, vs[j]? = some v → w.cell? ⟨vb, j, none⟩ = some v) (h1c : ∀ v ∈ cs, v.oneCell' = true) (h1v : ∀ v ∈ vs, v.oneCell' = true) :
  Calls Tryz.prog 139 #[.slice (some ⟨b, 0, none⟩) n c, .int .i64 i, .slice (some ⟨vb, 0, none⟩) 1 vc] w fun e w' =>
   ∃ ROW : Array Value, ROW.size = c * 3 ∧ (cs.take (i * 3) ++ vs ++ cs.drop (i * 3)) <+: ROW.toList ∧
   e = .returned (.slice (some ⟨b, 0, none⟩) (n + 1) c) ∧
   ∃ R1, w' = (w.drew.setRow b R1).setRow b ROW := by
 obtain ⟨i0, hi0, hz0, hzs, hzb⟩ := info_parts3
 have ha : Tryz.prog.underlying 22 = some (.slice 91) := und_accs
 have hint : Tryz.prog.underlying 3 = some (.int .i64) := und_int
 have u22 := run_underlying ha
 have u3 := run_underlying hint
 unfold maxLen at hc63
 have hz2 : ¬ ((i : Int) = (n : Int)) := by omega
 have hsz : (Tryz.prog.info? 91).map (·.size) = some 3 := by rw [hi0]; simp [hzs]
 have hso : ∀ w, (Go.sizeOf 91).run Tryz.prog w = .ok 3 w := fun w => by simp [sizeOf, typeInfo, hi0, hzs]
 have hsa : w.shape? vb = some (tv, curv.size) := by simp [World.shape?, hgv]
 have hsb : w.shape? b = some (91, c * 3) := by simp [World.shape?, hg, hcz]
 have hfa : ∀ k, w.frozen? ⟨vb, k, none⟩ = false := fun k => by simp [World.frozen?, hgv]
 have hov : ∀ lb cb, (callFunc 200 #[.slice (some ⟨vb, 0, none⟩) 1 vc, .slice (some ⟨b, (i + 1) * 3, none⟩) lb cb]).run Tryz.prog w = .ok (.value (.bool false)) w := fun lb cb => by
  rw [run_callFunc_extern Tryz.func200 (by kernel_rfl) (by kernel_rfl) (by kernel_rfl) (e := Extern.SlicesOverlaps.overlaps #[22, 22] #[4]) (by kernel_rfl),
   Lib.run_overlaps_apart w 22 4 91 ha 3 hso ⟨vb, 0, none⟩ ⟨b, (i + 1) * 3, none⟩ 1 vc lb cb hvb tv 91 curv.size (c * 3) hsa hsb (by omega) (hfa 0) (hfa _)]
  rfl
 obtain ⟨tl, htl⟩ := hcp
 have hct : cur.toList.length = c * 3 := by rw [Array.length_toList]; exact hcz
 have hdl : (cs.drop (i * 3)).length = (n - i) * 3 := by rw [List.length_drop, hcl]; omega
 have hcell : ∀ (W : World), W.heap = w.heap → ∀ j v, cs[j]? = some v → W.cell? ⟨b, j, none⟩ = some v := fun W hW j v hj => by
  have h1 : cur[j]? = some v := by
   rw [← Array.getElem?_toList, ← htl, List.getElem?_append_left (List.getElem?_eq_some_iff.1 hj).1]
   exact hj
  unfold World.cell?
  rw [hW, hg]
  exact h1
 have hcpA : ∀ (W : World), W.heap = w.heap → ∀ ty dc sc, (Builtin.copy_ #[22, 22] ty #[.slice (some ⟨b, (i + 1) * 3, none⟩) (n - i) dc, .slice (some ⟨b, i * 3, none⟩) (n + 1 - i) sc]).run Tryz.prog W = .ok (goInt (n - i : Nat)) (W.setRow b (cur.toList.take ((i + 1) * 3) ++ cs.drop (i * 3) ++ cur.toList.drop ((i + 1) * 3 + (n - i) * 3)).toArray) := fun W hW ty dc sc => by
  have hm : Nat.min (n + 1 - i) (n - i) = n - i := by simp only [Nat.min_def]; split <;> omega
  have h := run_copy_rowK W 22 22 ty 91 3 b ((i + 1) * 3) (n - i) dc ⟨b, i * 3, none⟩ (n + 1 - i) sc cur 91 (cs.drop (i * 3)) ha hsz (by rw [hW]; exact hg) (by rw [hm, hdl]) (fun j v hj => by
   rw [Addr.add_lit]
   rw [List.getElem?_drop] at hj
   exact hcell W hW _ v hj) (by omega) (fun v hv => h1c v (List.mem_of_mem_drop hv))
  rw [hm, hdl] at h
  exact h
 obtain ⟨R1, hR1⟩ : ∃ R1, R1 = (cur.toList.take ((i + 1) * 3) ++ cs.drop (i * 3) ++ cur.toList.drop ((i + 1) * 3 + (n - i) * 3)).toArray := ⟨_, rfl⟩
 rw [← hR1] at hcpA
 have hR1l : R1.size = c * 3 := by
  rw [hR1]
  simp
  omega
 have hcpB : ∀ (W : World), W.heap = (w.drew.setRow b R1).heap → ∀ ty dc, (Builtin.copy_ #[22, 22] ty #[.slice (some ⟨b, i * 3, none⟩) (n + 1 - i) dc, .slice (some ⟨vb, 0, none⟩) 1 vc]).run Tryz.prog W = .ok (goInt 1) (W.setRow b (R1.toList.take (i * 3) ++ vs ++ R1.toList.drop (i * 3 + 3)).toArray) := fun W hW ty dc => by
  have hm : Nat.min 1 (n + 1 - i) = 1 := by simp only [Nat.min_def]; split <;> omega
  have hg1 : W.heap[b]? = some (.cells R1 91 (0, 0)) := by
   rw [hW]
   exact setRow_heap _ b cur R1 91 (0, 0) hg
  have h := run_copy_rowK W 22 22 ty 91 3 b (i * 3) (n + 1 - i) dc ⟨vb, 0, none⟩ 1 vc R1 91 vs ha hsz hg1 (by rw [hm, hvl]) (fun j v hj => by
   rw [Addr.add_lit, Nat.zero_add]
   have h2 : (w.drew.setRow b R1).cell? ⟨vb, j, none⟩ = some v := (cell_setRow_other _ _ _ _ hvb).trans (hvs j v hj)
   unfold World.cell? at h2 ⊢
   rw [hW]
   exact h2) (by omega) h1v
  rw [hm, hvl] at h
  exact h
 obtain ⟨R2, hR2⟩ : ∃ R2, R2 = (R1.toList.take (i * 3) ++ vs ++ R1.toList.drop (i * 3 + 3)).toArray := ⟨_, rfl⟩
 rw [← hR2] at hcpB
 have hR2l : R2.size = c * 3 := by
  rw [hR2]
  simp
  omega
 have hp1 : R1.toList.take (i * 3) = cs.take (i * 3) := by
  rw [hR1]
  show List.take _ (cur.toList.take ((i + 1) * 3) ++ cs.drop (i * 3) ++ _) = _
  rw [List.append_assoc, List.take_append_of_le_length (by simp; omega), List.take_take, ← htl, List.take_append_of_le_length (by omega)]
  congr 1
  simp only [Nat.min_def]
  split <;> omega
 have hp2 : cs.drop (i * 3) <+: R1.toList.drop (i * 3 + 3) := by
  rw [hR1]
  show _ <+: List.drop _ (cur.toList.take ((i + 1) * 3) ++ cs.drop (i * 3) ++ _)
  have hl : (cur.toList.take ((i + 1) * 3)).length = i * 3 + 3 := by rw [List.length_take, hct, Nat.min_eq_left (by omega)]; omega
  rw [List.append_assoc, List.drop_left' hl]
  exact List.prefix_append _ _
 have hR2p : (cs.take (i * 3) ++ vs ++ cs.drop (i * 3)) <+: R2.toList := by
  rw [hR2, hp1]
  obtain ⟨z, hz⟩ := hp2
  rw [← hz]
  exact ⟨z, by simp⟩
 have hw1 : IntKind.i64.wrap ((i : Int) + 1) = (i : Int) + 1 := by rw [IntKind.wrap_i64]; omega
 have hw2 : IntKind.i64.wrap ((n : Int) + 1) = (n : Int) + 1 := by rw [IntKind.wrap_i64]; omega
 have hb1 : (0 : Int) ≤ (i : Int) + 1 := by omega
 have hb0 : (0 : Int) ≤ (n : Int) + 1 := by omega
 have hin : i ≤ n := by omega
 have htn : ((i : Int) + 1).toNat = i + 1 := by omega
 have htm : ((n : Int) + 1).toNat = n + 1 := by omega
 have hb3 : (i : Int) ≤ (n : Int) + 1 := by omega
 have hci : ¬ (c = i) := by omega
 have hcim : ¬ (c = i + 1) := by omega
 have mixed : Tryz.prog.follows Departure.mixedOrders = true := by kernel_rfl
 have hA0 := hcpA w.drew rfl
 have hB0 := hcpB (w.drew.setRow b R1) rfl
 clear hR1 hR2 hp1 hp2 htl hcell
 go_enter Tryz.func139, Tryz.ntmps139
 go_wp2_with (simp only [hov])
 go_region_law_o (refine step_copy_runK rfl _ _ 22 22 rfl _ _ (by simp [Act.eval, Act.put]) (by simp [Act.eval, Act.put]) (hA0 _ _ _) ?_)
 go_wp2_with (at_builtin; refine wpList_copy_runK _ rfl _ _ 22 22 rfl _ _ rfl rfl (hB0 _ _) ?_)
 go_ret
 exact ⟨R2, hR2l, hR2p, rfl, R1, rfl⟩
end
section
def ptrG : List Fld → TrS → TrS
 | [], x => x
 | f :: r, x => if f.num = 1 then ptrG r ⟨f.bytes, x.amt⟩ else if f.num = 2 then ptrG r ⟨x.to_, f.val⟩ else ptrG r x
def ptransS (b : List UInt8) : TrS := ptrG (fieldsS b).1 ⟨[], 0⟩
def prdG : List Fld → TxS → TxS
 | [], t => t
 | f :: r, t =>
  if f.num = 1 then prdG r ⟨f.bytes, t.seq, t.gas, t.fee, t.memo, t.trs⟩ else
  if f.num = 2 then prdG r ⟨t.sender, f.val, t.gas, t.fee, t.memo, t.trs⟩ else
  if f.num = 3 then prdG r ⟨t.sender, t.seq, f.val, t.fee, t.memo, t.trs⟩ else
  if f.num = 4 then prdG r ⟨t.sender, t.seq, t.gas, f.val, t.memo, t.trs⟩ else
  if f.num = 5 then prdG r ⟨t.sender, t.seq, t.gas, t.fee, f.bytes, t.trs⟩ else
  if f.num = 6 then prdG r ⟨t.sender, t.seq, t.gas, t.fee, t.memo, t.trs ++ [ptransS f.bytes]⟩ else prdG r t
theorem rdTr_eq : ∀ (l : List Fld) (x : TrS), (rdTrS l x).2 = true → ptrG l x = (rdTrS l x).1
 | [], x, _ => rfl
 | f :: r, x, h => by
  rw [rdTrS] at h ⊢
  rw [ptrG]
  split at h
  ·rename_i h1; rw [if_pos h1.1, if_pos h1]; exact rdTr_eq r _ h
  ·rename_i h1
   split at h
   ·rename_i h2; rw [if_neg (by omega), if_pos h2.1, if_neg h1, if_pos h2]; exact rdTr_eq r _ h
   ·cases h
theorem trans_eq {b : List UInt8} (h : (transferS b).2 = true) : ptransS b = (transferS b).1 := by
 unfold transferS at h ⊢
 unfold ptransS
 have h1 := rdTr_eq (fieldsS b).1 ⟨[], 0⟩
 generalize rdTrS (fieldsS b).1 ⟨[], 0⟩ = r at *
 obtain ⟨x, ok⟩ := r
 dsimp only at *
 rw [Bool.and_eq_true] at h
 exact h1 h.1
theorem rd_eq : ∀ (l : List Fld) (t : TxS), (rdTxS l t).2 = true → prdG l t = (rdTxS l t).1
 | [], t, _ => rfl
 | f :: r, t, h => by
  rw [rdTxS] at h ⊢
  rw [prdG]
  split at h
  ·rename_i h1; rw [if_pos h1.1, if_pos h1]; exact rd_eq r _ h
  rename_i n1
  split at h
  ·rename_i h2; rw [if_neg (by omega), if_pos h2.1, if_neg n1, if_pos h2]; exact rd_eq r _ h
  rename_i n2
  split at h
  ·rename_i h3; rw [if_neg (by omega), if_neg (by omega), if_pos h3.1, if_neg n1, if_neg n2, if_pos h3]; exact rd_eq r _ h
  rename_i n3
  split at h
  ·rename_i h4; rw [if_neg (by omega), if_neg (by omega), if_neg (by omega), if_pos h4.1, if_neg n1, if_neg n2, if_neg n3, if_pos h4]; exact rd_eq r _ h
  rename_i n4
  split at h
  ·rename_i h5; rw [if_neg (by omega), if_neg (by omega), if_neg (by omega), if_neg (by omega), if_pos h5.1, if_neg n1, if_neg n2, if_neg n3, if_neg n4, if_pos h5]; exact rd_eq r _ h
  rename_i n5
  split at h
  ·rename_i h6
   rw [if_neg (by omega), if_neg (by omega), if_neg (by omega), if_neg (by omega), if_neg (by omega), if_pos h6.1, if_neg n1, if_neg n2, if_neg n3, if_neg n4, if_neg n5, if_pos h6]
   split at h
   ·rename_i h7; rw [if_pos h7, trans_eq h7]; exact rd_eq r _ h
   ·cases h
  ·cases h
theorem textF_le (n : Nat) (s s' : List UInt8) : (textF n s).length ≤ (textF n s').length + 1 := by
 unfold textF; split <;> split <;> simp
theorem numF_le (n v v' : Nat) : (numF n v).length ≤ (numF n v').length + 1 := by
 unfold numF; split <;> split <;> simp
theorem formF_len (t : TxS) : (formF t).length = (textF 1 t.sender).length + (numF 2 t.seq).length + (numF 3 t.gas).length + (numF 4 t.fee).length + (textF 5 t.memo).length + t.trs.length := by
 unfold formF; simp only [List.length_append, List.length_map]
theorem prd_len : ∀ (l : List Fld) (t : TxS), (formF (prdG l t)).length ≤ (formF t).length + l.length
 | [], t => by rw [prdG]; simp
 | f :: r, t => by
  rw [prdG, List.length_cons]
  split
  ·have h := prd_len r ⟨f.bytes, t.seq, t.gas, t.fee, t.memo, t.trs⟩
   have := textF_le 1 f.bytes t.sender
   rw [formF_len ⟨f.bytes, t.seq, t.gas, t.fee, t.memo, t.trs⟩] at h; rw [formF_len t]; dsimp only at h; omega
  split
  ·have h := prd_len r ⟨t.sender, f.val, t.gas, t.fee, t.memo, t.trs⟩
   have := numF_le 2 f.val t.seq
   rw [formF_len ⟨t.sender, f.val, t.gas, t.fee, t.memo, t.trs⟩] at h; rw [formF_len t]; dsimp only at h; omega
  split
  ·have h := prd_len r ⟨t.sender, t.seq, f.val, t.fee, t.memo, t.trs⟩
   have := numF_le 3 f.val t.gas
   rw [formF_len ⟨t.sender, t.seq, f.val, t.fee, t.memo, t.trs⟩] at h; rw [formF_len t]; dsimp only at h; omega
  split
  ·have h := prd_len r ⟨t.sender, t.seq, t.gas, f.val, t.memo, t.trs⟩
   have := numF_le 4 f.val t.fee
   rw [formF_len ⟨t.sender, t.seq, t.gas, f.val, t.memo, t.trs⟩] at h; rw [formF_len t]; dsimp only at h; omega
  split
  ·have h := prd_len r ⟨t.sender, t.seq, t.gas, t.fee, f.bytes, t.trs⟩
   have := textF_le 5 f.bytes t.memo
   rw [formF_len ⟨t.sender, t.seq, t.gas, t.fee, f.bytes, t.trs⟩] at h; rw [formF_len t]; dsimp only at h; omega
  split
  ·have h := prd_len r ⟨t.sender, t.seq, t.gas, t.fee, t.memo, t.trs ++ [ptransS f.bytes]⟩
   rw [formF_len ⟨t.sender, t.seq, t.gas, t.fee, t.memo, t.trs ++ [ptransS f.bytes]⟩] at h; rw [formF_len t]; dsimp only at h
   rw [List.length_append, List.length_singleton] at h; omega
  ·have h := prd_len r t
   omega
theorem ptr_sm : ∀ (l : List Fld) (x : TrS), (∀ f ∈ l, okF f ∧ f.bytes.length ≤ 5000) → SmTr x → SmTr (ptrG l x)
 | [], x, _, h => h
 | f :: r, x, hl, h => by
  have hf := hl f (by simp)
  have hr : ∀ g ∈ r, okF g ∧ g.bytes.length ≤ 5000 := fun g hg => hl g (by simp [hg])
  rw [ptrG]
  split
  ·exact ptr_sm r _ hr ⟨hf.2, h.2⟩
  split
  ·exact ptr_sm r _ hr ⟨h.1, by have := hf.1; unfold okF at this; unfold U64; dsimp only; omega⟩
  ·exact ptr_sm r _ hr h
theorem ptrans_sm {b : List UInt8} (hb : b.length ≤ 5000) : SmTr (ptransS b) := by
 have h := fields_ok b
 exact ptr_sm _ _ (fun f hf => ⟨(h.1 f hf).1, by have := (h.1 f hf).2; omega⟩) ⟨by simp, by simp [U64]⟩
theorem prd_sm : ∀ (l : List Fld) (t : TxS), (∀ f ∈ l, okF f ∧ f.bytes.length ≤ 5000) → t.trs.length + l.length ≤ 5000 → SmTx t → SmTx (prdG l t)
 | [], t, _, _, h => h
 | f :: r, t, hl, hn, h => by
  have hf := hl f (by simp)
  have hr : ∀ g ∈ r, okF g ∧ g.bytes.length ≤ 5000 := fun g hg => hl g (by simp [hg])
  have hv : U64 f.val := by have := hf.1; unfold okF at this; unfold U64; omega
  simp only [List.length_cons] at hn
  have hh := h
  obtain ⟨h1, h2, h3, h4, h5, h6, h7⟩ := h
  rw [prdG]
  split
  ·exact prd_sm r _ hr (by dsimp only; omega) ⟨hf.2, h2, h3, h4, h5, h6, h7⟩
  split
  ·exact prd_sm r _ hr (by dsimp only; omega) ⟨h1, hv, h3, h4, h5, h6, h7⟩
  split
  ·exact prd_sm r _ hr (by dsimp only; omega) ⟨h1, h2, hv, h4, h5, h6, h7⟩
  split
  ·exact prd_sm r _ hr (by dsimp only; omega) ⟨h1, h2, h3, hv, h5, h6, h7⟩
  split
  ·exact prd_sm r _ hr (by dsimp only; omega) ⟨h1, h2, h3, h4, hf.2, h6, h7⟩
  split
  ·exact prd_sm r _ hr (by dsimp only; rw [List.length_append, List.length_singleton]; omega) ⟨h1, h2, h3, h4, h5, by dsimp only; rw [List.length_append, List.length_singleton]; omega, all_app h7 fun x hx => by rw [List.mem_singleton.1 hx]; exact ptrans_sm hf.2⟩
  ·exact prd_sm r _ hr (by omega) hh
theorem prd_raw_sm {raw : List UInt8} (h : raw.length ≤ 4096) : SmTx (prdG (fieldsS raw).1 tx0) := by
 have hf := fields_ok raw
 refine prd_sm _ tx0 (fun f hm => ⟨(hf.1 f hm).1, by have := (hf.1 f hm).2; omega⟩) ?_ tx0_sm
 show 0 + _ ≤ _
 omega
theorem trans_form {x : TrS} (h : SmTr x) : transferS (trF x).bytes = (x, true) := by
 have hok := inner_ok h
 unfold transferS trF
 dsimp only
 have hf : fieldsS (msgS (textF 1 x.to_ ++ numF 2 x.amt)) = (textF 1 x.to_ ++ numF 2 x.amt, 0, 0) := by
  have := fields_msg (textF 1 x.to_ ++ numF 2 x.amt) 1024 0 [] (fun f hf => (hok.1 f hf).1) (by omega)
  simpa [fieldsS] using this
 rw [hf]
 have hr : rdTrS (textF 1 x.to_ ++ numF 2 x.amt) ⟨[], 0⟩ = (x, true) := by
  obtain ⟨to_, amt⟩ := x
  unfold textF numF
  dsimp only
  by_cases h1 : to_ = [] <;> by_cases h2 : amt = 0 <;> simp [h1, h2, rdTrS]
 rw [hr]
 simp
theorem rd_trs : ∀ (l : List TrS) (t : TxS), (∀ x ∈ l, SmTr x) → rdTxS (l.map trF) t = (⟨t.sender, t.seq, t.gas, t.fee, t.memo, t.trs ++ l⟩, true)
 | [], t, _ => by simp [rdTxS]
 | x :: l, t, h => by
  rw [List.map_cons, rdTxS]
  have h1 := trans_form (h x (by simp))
  have n6 : (trF x).num = 6 := rfl
  have k2 : (trF x).kind = 2 := rfl
  rw [n6, k2, h1]
  simp only [show ¬ ((6 : Nat) = 1 ∧ (2 : Nat) = 2) by omega, show ¬ ((6 : Nat) = 2 ∧ (2 : Nat) = 0) by omega, show ¬ ((6 : Nat) = 3 ∧ (2 : Nat) = 0) by omega, show ¬ ((6 : Nat) = 4 ∧ (2 : Nat) = 0) by omega, show ¬ ((6 : Nat) = 5 ∧ (2 : Nat) = 2) by omega, if_false, and_self, if_true]
  refine (rd_trs l _ fun y hy => h y (by simp [hy])).trans ?_
  simp
theorem rd_form {t : TxS} (h : SmTx t) : rdTxS (formF t) tx0 = (t, true) := by
 obtain ⟨sender, seq, gas, fee, memo, trs⟩ := t
 obtain ⟨h1, h2, h3, h4, h5, h6, h7⟩ := h
 dsimp only at h7
 unfold formF
 dsimp only
 have t1 : ∀ (r : List Fld), rdTxS (textF 1 sender ++ r) ⟨[], 0, 0, 0, [], []⟩ = rdTxS r ⟨sender, 0, 0, 0, [], []⟩ := fun r => by
  unfold textF; by_cases h : sender = [] <;> simp [h, rdTxS]
 have t2 : ∀ (r : List Fld), rdTxS (numF 2 seq ++ r) ⟨sender, 0, 0, 0, [], []⟩ = rdTxS r ⟨sender, seq, 0, 0, [], []⟩ := fun r => by
  unfold numF; by_cases h : seq = 0 <;> simp [h, rdTxS]
 have t3 : ∀ (r : List Fld), rdTxS (numF 3 gas ++ r) ⟨sender, seq, 0, 0, [], []⟩ = rdTxS r ⟨sender, seq, gas, 0, [], []⟩ := fun r => by
  unfold numF; by_cases h : gas = 0 <;> simp [h, rdTxS]
 have t4 : ∀ (r : List Fld), rdTxS (numF 4 fee ++ r) ⟨sender, seq, gas, 0, [], []⟩ = rdTxS r ⟨sender, seq, gas, fee, [], []⟩ := fun r => by
  unfold numF; by_cases h : fee = 0 <;> simp [h, rdTxS]
 have t5 : ∀ (r : List Fld), rdTxS (textF 5 memo ++ r) ⟨sender, seq, gas, fee, [], []⟩ = rdTxS r ⟨sender, seq, gas, fee, memo, []⟩ := fun r => by
  unfold textF; by_cases h : memo = [] <;> simp [h, rdTxS]
 rw [List.append_assoc, List.append_assoc, List.append_assoc, List.append_assoc]
 show rdTxS _ ⟨[], 0, 0, 0, [], []⟩ = _
 rw [t1, t2, t3, t4, t5, rd_trs trs _ h7]
 simp
theorem decode_eq (raw : List UInt8) : decodeTxS raw = if 4096 < raw.length then (tx0, 3) else if (fieldsS raw).2.2 ≠ 0 ∨ formS (prdG (fieldsS raw).1 tx0) ≠ raw then (tx0, 4) else if validTxS (prdG (fieldsS raw).1 tx0) ≠ 0 then (tx0, validTxS (prdG (fieldsS raw).1 tx0)) else (prdG (fieldsS raw).1 tx0, 0) := by
 unfold decodeTxS
 by_cases h1 : 4096 < raw.length
 ·rw [if_pos h1, if_pos h1]
 rw [if_neg h1, if_neg h1]
 by_cases he : (fieldsS raw).2.2 ≠ 0
 ·rw [if_pos (.inl he), if_pos (.inl he)]
 by_cases hok : (rdTxS (fieldsS raw).1 tx0).2 = true
 ·rw [rd_eq _ _ hok]
  by_cases hf : formS (rdTxS (fieldsS raw).1 tx0).1 ≠ raw
  ·rw [if_pos (.inr (.inr hf)), if_pos (.inr hf)]
  ·have n1 : ¬ ((fieldsS raw).2.2 ≠ 0 ∨ (rdTxS (fieldsS raw).1 tx0).2 = false ∨ formS (rdTxS (fieldsS raw).1 tx0).1 ≠ raw) := fun h => h.elim he fun h => h.elim (fun h => by rw [hok] at h; cases h) hf
   have n2 : ¬ ((fieldsS raw).2.2 ≠ 0 ∨ formS (rdTxS (fieldsS raw).1 tx0).1 ≠ raw) := fun h => h.elim he hf
   rw [if_neg n1, if_neg n2]
 ·have hno : (rdTxS (fieldsS raw).1 tx0).2 = false := by simpa using hok
  suffices hx : formS (prdG (fieldsS raw).1 tx0) ≠ raw by rw [if_pos (.inr (.inl hno)), if_pos (.inr hx)]
  intro hf
  have hsm := prd_raw_sm (raw := raw) (by omega)
  have hlen := prd_len (fieldsS raw).1 tx0
  have h1024 := (fields_ok raw).2
  have h0 : (formF tx0).length = 0 := rfl
  have hfo := formF_ok hsm
  have hfm := fields_msg (formF (prdG (fieldsS raw).1 tx0)) 1024 0 [] (fun f hf => (hfo.1 f hf).1) (by omega)
  have e : fieldsS raw = (formF (prdG (fieldsS raw).1 tx0), 0, 0) := by
   have h2 : fieldsS (formS (prdG (fieldsS raw).1 tx0)) = (formF (prdG (fieldsS raw).1 tx0), 0, 0) := by simpa [fieldsS, formS] using hfm
   rw [hf] at h2
   exact h2
  have e1 : (fieldsS raw).1 = formF (prdG (fieldsS raw).1 tx0) := congrArg Prod.fst e
  have e2 := rd_form hsm
  rw [← e1] at e2
  exact absurd (show (rdTxS (fieldsS raw).1 tx0).2 = true by rw [e2]) (by rw [hno]; simp)
end
section
section
variable {Pg : Program} {G : GS} {f : FuncId} {args : List MV} {M0 M1 : VM} {n0 n1 : Nat} {res : MV}
theorem ren_hasB {w : World} {P : Prot} {adr adr2 : Adr} {ρ : Nat → Nat} {b : MB} {g : Nat} (h : HasB w P adr b g) (k : ∀ c g, adr c = some g → adr2 (ρ c) = some g) : HasB w P adr2 { b with l := bif b.row then b.l else renVs ρ b.l } g := by
 have hlen : (bif b.row then b.l else renVs ρ b.l).length = b.l.length := by
  cases b.row
  ·exact renVs_len _
  ·rfl
 refine ⟨?_, h.pe, by simp only [hlen]; exact h.le⟩
 rcases h.has' with ⟨cur, parts, c1, c2, c3, c4, c5⟩ | ⟨m1, m2, ks, vs, o, m3, m4, m5⟩
 ·refine .inl ⟨cur, parts, c1, by simp only [hlen]; exact c2, c3, fun j x p hx hp => ?_, c5⟩
  simp only at hx ⊢
  cases hrow : b.row with
  | true => rw [hrow] at hx c4; exact c4 j x p hx hp
  | false =>
   rw [hrow] at hx c4
   simp only [cond_false, renVs_get] at hx
   cases hj : b.l[j]? with
   | none => rw [hj] at hx; cases hx
   | some y =>
    rw [hj] at hx
    injection hx with hx
    subst hx
    exact ren_rep (c4 j y p hj hp) k
 ·exact .inr ⟨m1, m2, ks, vs, o, by simp [m1, m3, renVs, renV], m4, m5⟩
def rhoA (a n1 : Nat) (c : Nat) : Nat := bif Nat.beq c a then n1 else c
theorem semR_rename (a : Nat) (ha : a < n1) (hn : n0 ≤ n1) (hall : M1.all (fun x => Nat.blt x.1 n1) = true) (h : SemR Pg G f args M0 n0 res M1 n1) : SemR Pg G f args M0 n0 (renV (rhoA a n1) res) (renM (rhoA a n1) M1) (n1 + 1) := by
 intro w P adr vals h1 h2 h3 h4 h5
 refine (h w P adr vals h1 h2 h3 h4 h5).mono ?_
 rintro e w' ⟨v, rfl, P', adr', j1, j2, j3, j4, j5, j6, j7, j8⟩
 have hlt : ∀ {c b}, VM.get M1 c = some b → c < n1 := fun {c b} hc => by
  rcases Nat.lt_or_ge c n1 with h | h
  ·exact h
  ·rw [all_lt hall h] at hc; cases hc
 have hr : ∀ c, rhoA a n1 c = if c = a then n1 else c := fun c => by
  unfold rhoA
  by_cases h : c = a
  ·subst h; simp
  ·simp [beq_ne h, h]
 have key : ∀ c g, adr' c = some g → (fun c => if c = n1 then adr' a else adr' c) (rhoA a n1 c) = some g := fun c g hc => by
  dsimp only
  rw [hr]
  by_cases h : c = a
  ·subst h; simp [hc]
  ·rw [if_neg h, if_neg]
   ·exact hc
   ·rintro rfl; rw [j5 c (Nat.le_refl _)] at hc; cases hc
 have hinj : ∀ c d b b', VM.get M1 c = some b → VM.get M1 d = some b' → rhoA a n1 c = rhoA a n1 d → c = d := fun c d b b' hc hd he => by
  have := hlt hc
  have := hlt hd
  rw [hr, hr] at he
  split at he <;> split at he <;> omega
 have back : ∀ c, c < n1 → (fun c => if c = n1 then adr' a else adr' c) (rhoA a n1 c) = adr' c := fun c hc => by
  dsimp only
  rw [hr]
  by_cases h : c = a
  ·subst h; simp
  ·rw [if_neg h, if_neg (by omega)]
 refine ⟨v, rfl, P', fun c => if c = n1 then adr' a else adr' c, ⟨fun c b' hc => ?_, fun c c' b1 b2 g hc hc' hg hg' => ?_, j1.prot⟩, ren_repV j2 key, ⟨j3.prot, j3.cell, fun c g hc => ?_, j3.size⟩, fun c hc => ?_, fun c hc => ?_, fun c g hc => ?_, j7, j8⟩
 ·obtain ⟨c0, b0, rfl, hc0, rfl⟩ := get_renM M1 c b' hc hinj
  rcases j1.blk c0 b0 hc0 with q | ⟨g, q1, q2⟩
  ·refine .inl ⟨q.1, ?_, (back c0 (hlt hc0)).trans q.2.2.1, q.2.2.2⟩
   simp [q.1, q.2.1]
  ·exact .inr ⟨g, key c0 g q1, ren_hasB q2 key⟩
 ·obtain ⟨c0, b0, rfl, hc0, rfl⟩ := get_renM M1 c b1 hc hinj
  obtain ⟨d0, d1, rfl, hd0, rfl⟩ := get_renM M1 c' b2 hc' hinj
  rw [j1.inj c0 d0 b0 d1 g hc0 hd0 ((back c0 (hlt hc0)).symm.trans hg) ((back d0 (hlt hd0)).symm.trans hg')]
 ·have hk := j3.num c g hc
  have : c ≠ n1 := by rintro rfl; rw [j5 c (Nat.le_refl _)] at hk; cases hk
  simp only [this, if_false]
  exact hk
 ·have : c ≠ n1 := by omega
  simp only [this, if_false]
  exact j4 c hc
 ·have : c ≠ n1 := by omega
  simp only [this, if_false]
  exact j5 c (by omega)
 ·by_cases h : c = n1
  ·simp only [h, if_true] at hc; exact j6 a g hc
  ·simp only [h, if_false] at hc; exact j6 c g hc
end
end
section
variable {G : GS}
attribute [local irreducible] vOpsN vOpsG vOpsD vOpGD NextD vC SeqQ BlockQ
def mtB (c : Nat) (b : List UInt8) : VM := [(0, ⟨250, 1, false, 0, [.st [.ms c 1 0 b.length]]⟩), (c, ⟨5, 1, true, 0, u8s b⟩)]
abbrev mtP : MV := .ptr 0 1 0 0 []
theorem pfield0 (f : Fld) (hf : okF f) (hb : f.bytes.length < 400000000) :
  SemR Tryz.prog G 152 [.sl 0 [], fldM f] [] 0 (.tup [.ms 0 1 0 (fieldS f).length, .int .i64 0]) (rowB (fieldS f)) 1 := by
 have := pfield_r (G := G) [] f hf (by simpa using hb)
 simpa [u8s] using this
theorem madd_text (b s : List UInt8) (n : Nat) (hn : 1 ≤ n ∧ n ≤ 100) (hb : b.length < 400000000) (hs : s.length < 100000000) :
  SemR Tryz.prog G 192 [mtP, .int .i64 n, .ifc 9 (.str s)] (mtB 1 b) 2 (.tup []) (mtB 2 (b ++ msgS (textF n s))) 3 := by
 by_cases h0 : s = []
 ·subst h0
  have e : msgS (textF n []) = [] := rfl
  rw [e, List.append_nil]
  refine semR_rename (n1 := 2) 1 (by decide) (by decide) rfl (res := .tup []) (M1 := mtB 1 b) ?_
  unfold mtB
  refine srq seat Tryz.func192 61 ?_
  refine go1 ?_
  refine ⟨[], [], [], rfl, rfl, trivial, rfl, trivial, ?_⟩
  exact mm
 ·have e : msgS (textF n s) = fieldS ⟨n, 2, 0, s⟩ := by unfold textF; rw [if_neg h0]; simp [msgS]
  have hok : okF (⟨n, 2, 0, s⟩ : Fld) := ⟨by dsimp only; omega, by dsimp only; omega, .inr ⟨rfl, rfl, by dsimp only; omega⟩⟩
  have c1 := pfield0 (G := G) ⟨n, 2, 0, s⟩ hok (by dsimp only; omega)
  have hpl := fieldS_len hok
  rw [e]
  unfold rowB fldM at c1
  dsimp only at c1 hpl
  generalize fieldS ⟨n, 2, 0, s⟩ = piece at *
  unfold mtB
  refine srq seat Tryz.func192 61 ?_
  refine go1 ?_
  ((with_reducible apply c_cond); (case he => exact rfl); (all_goals intro h))
  ·exact absurd h (by simp; intro h; exact absurd h h0)
  refine go1 ?_
  refine g_callR1 rfl (fun _ h => h) rfl (c1) [] [] ⟨rfl, trivial, rfl, lm, mm⟩ rfl rfl ?_
  refine go1 ?_
  ((with_reducible apply g_mem); (case hq => exact rfl); (case hv => exact rfl); (case he => (intro R hR; refine sms hR ?_; refine And.intro (Nat.le_of_eq (by simp [u8s])) ?_; refine ⟨_, rfl, ?_⟩; refine And.intro ⟨(by simp [u8s]), app_ok (by kernel_rfl) pf⟩ ?_; refine ⟨u8s (b ++ piece), sv (by simp [u8s, cutL, List.take_of_length_le]), (b ++ piece).length, sv pf, ?_⟩; exact hR)); (case hd => exact rfl))
  refine go1 ?_
  refine ⟨[], [(2, 49)], [], rfl, rfl, trivial, rfl, trivial, ?_⟩
  exact mm
theorem madd_num (b : List UInt8) (n v : Nat) (hn : 1 ≤ n ∧ n ≤ 100) (hb : b.length < 400000000) (hv : U64 v) :
  SemR Tryz.prog G 192 [mtP, .int .i64 n, .ifc 23 (.int .u64 v)] (mtB 1 b) 2 (.tup []) (mtB 2 (b ++ msgS (numF n v))) 3 := by
 by_cases h0 : v = 0
 ·subst h0
  have e : msgS (numF n 0) = [] := rfl
  rw [e, List.append_nil]
  refine semR_rename (n1 := 2) 1 (by decide) (by decide) rfl (res := .tup []) (M1 := mtB 1 b) ?_
  unfold mtB
  refine srq seat Tryz.func192 61 ?_
  refine go1 ?_
  refine ⟨[], [], [], rfl, rfl, trivial, rfl, trivial, ?_⟩
  exact mm
 ·have e : msgS (numF n v) = fieldS ⟨n, 0, v, []⟩ := by unfold numF; rw [if_neg h0]; simp [msgS]
  have hok : okF (⟨n, 0, v, []⟩ : Fld) := ⟨by dsimp only; omega, by dsimp only; omega, .inl ⟨rfl, rfl, hv⟩⟩
  have c1 := pfield0 (G := G) ⟨n, 0, v, []⟩ hok (by dsimp only; simp)
  have hpl : (fieldS ⟨n, 0, v, []⟩).length ≤ 20 := by simpa using fieldS_len hok
  rw [e]
  unfold rowB fldM at c1
  dsimp only at c1 hpl
  generalize fieldS ⟨n, 0, v, []⟩ = piece at *
  unfold mtB
  refine srq seat Tryz.func192 61 ?_
  refine go1 ?_
  ((with_reducible apply c_cond); (case he => exact rfl); (all_goals intro h))
  ·exact absurd h (by have := eq_of_beq h; omega)
  refine go1 ?_
  refine g_callR1 rfl (fun _ h => h) rfl (c1) [] [] ⟨rfl, trivial, rfl, lm, mm⟩ rfl rfl ?_
  refine go1 ?_
  ((with_reducible apply g_mem); (case hq => exact rfl); (case hv => exact rfl); (case he => (intro R hR; refine sms hR ?_; refine And.intro (Nat.le_of_eq (by simp [u8s])) ?_; refine ⟨_, rfl, ?_⟩; refine And.intro ⟨(by simp [u8s]), app_ok (by kernel_rfl) pf⟩ ?_; refine ⟨u8s (b ++ piece), sv (by simp [u8s, cutL, List.take_of_length_le]), (b ++ piece).length, sv pf, ?_⟩; exact hR)); (case hd => exact rfl))
  refine go1 ?_
  refine ⟨[], [(2, 50)], [], rfl, rfl, trivial, rfl, trivial, ?_⟩
  exact mm
theorem madd_bytes (b x : List UInt8) (n : Nat) (hn : 1 ≤ n ∧ n ≤ 100) (hb : b.length < 400000000) (hs : x.length < 100000000) :
  SemR Tryz.prog G 192 [mtP, .int .i64 n, .ifc 41 (.sl x.length (u8s x))] (mtB 1 b) 2 (.tup []) (mtB 2 (b ++ fieldS ⟨n, 2, 0, x⟩)) 3 := by
 have hok : okF (⟨n, 2, 0, x⟩ : Fld) := ⟨by dsimp only; omega, by dsimp only; omega, .inr ⟨rfl, rfl, by dsimp only; omega⟩⟩
 have c1 := pfield0 (G := G) ⟨n, 2, 0, x⟩ hok (by dsimp only; omega)
 have hpl := fieldS_len hok
 unfold rowB fldM at c1
 dsimp only at c1 hpl
 generalize fieldS ⟨n, 2, 0, x⟩ = piece at *
 unfold mtB
 refine srq seat Tryz.func192 61 ?_
 refine go1 ?_
 refine g_callR1 rfl (fun _ h => h) rfl (c1) [] [] ⟨rfl, trivial, rfl, lm, mm⟩ rfl rfl ?_
 refine go1 ?_
 ((with_reducible apply g_mem); (case hq => exact rfl); (case hv => exact rfl); (case he => (intro R hR; refine sms hR ?_; refine And.intro (Nat.le_of_eq (by simp [u8s])) ?_; refine ⟨_, rfl, ?_⟩; refine And.intro ⟨(by simp [u8s]), app_ok (by kernel_rfl) pf⟩ ?_; refine ⟨u8s (b ++ piece), sv (by simp [u8s, cutL, List.take_of_length_le]), (b ++ piece).length, sv pf, ?_⟩; exact hR)); (case hd => exact rfl))
 refine go1 ?_
 refine ⟨[], [(2, 46)], [], rfl, rfl, trivial, rfl, trivial, ?_⟩
 exact mm
end
section
variable {G : GS}
attribute [local irreducible] vOpsN vOpsG vOpsD vOpGD NextD vC SeqQ BlockQ
theorem msgS_app (a b : List Fld) : msgS (a ++ b) = msgS a ++ msgS b := by simp [msgS]
theorem written_r (t : TxS) (ht : SmTx t) : SemR Tryz.prog G 131 [txM t] [] 0 (.sl (formS t).length (u8s (formS t))) [] 0 := by
 have hfl := formS_len ht
 obtain ⟨sender, seq, gas, fee, memo, trs⟩ := t
 obtain ⟨h1, h2, h3, h4, h5, h6, h7⟩ := ht
 dsimp only at h1 h2 h3 h4 h5 h6 h7
 generalize hF : formS ⟨sender, seq, gas, fee, memo, trs⟩ = F at *
 have hF2 : ∀ k, F = msgS (textF 1 sender) ++ msgS (numF 2 seq) ++ msgS (numF 3 gas) ++ msgS (numF 4 fee) ++ msgS (textF 5 memo) ++ msgS ((trs.take k).map trF) ++ msgS ((trs.drop k).map trF) := fun k => by
  rw [← hF]
  unfold formS formF
  have e : msgS (trs.map trF) = msgS ((trs.take k).map trF) ++ msgS ((trs.drop k).map trF) := by rw [← msgS_app, ← List.map_append, List.take_append_drop]
  simp only [msgS_app, e, List.append_assoc]
 have hl0 := congrArg List.length (hF2 0)
 simp only [List.length_append] at hl0
 have c1 := madd_text (G := G) [] sender 1 (by omega) (by simp) (by omega)
 rw [List.nil_append] at c1
 generalize msgS (textF 1 sender) = p1 at *
 have c2 := madd_num (G := G) p1 2 seq (by omega) (by omega) h2
 have q2 : (p1 ++ msgS (numF 2 seq)).length = p1.length + (msgS (numF 2 seq)).length := List.length_append
 generalize p1 ++ msgS (numF 2 seq) = p2 at *
 have c3 := madd_num (G := G) p2 3 gas (by omega) (by omega) h3
 have q3 : (p2 ++ msgS (numF 3 gas)).length = p2.length + (msgS (numF 3 gas)).length := List.length_append
 generalize p2 ++ msgS (numF 3 gas) = p3 at *
 have c4 := madd_num (G := G) p3 4 fee (by omega) (by omega) h4
 have q4 : (p3 ++ msgS (numF 4 fee)).length = p3.length + (msgS (numF 4 fee)).length := List.length_append
 generalize p3 ++ msgS (numF 4 fee) = p4 at *
 have c5 := madd_text (G := G) p4 memo 5 (by omega) (by omega) (by omega)
 generalize p4 ++ msgS (textF 5 memo) = p5 at *
 clear hl0 q2 q3 q4 hF
 unfold mtB at c1 c2 c3 c4 c5
 unfold txM
 dsimp only
 refine srq seat Tryz.func131 49 ?_
 refine go1 ?_
 refine g_callR1 rfl (fun _ h => h) rfl (c1) [(0, 2)] [] ⟨rfl, trivial, rfl, lm, mm⟩ rfl rfl ?_
 refine go1 ?_
 refine g_callR1 rfl (fun _ h => h) rfl (c2) [(0, 2), (1, 8)] [] ⟨rfl, trivial, rfl, lm, mm⟩ rfl rfl ?_
 refine go1 ?_
 refine g_callR1 rfl (fun _ h => h) rfl (c3) [(0, 2), (1, 14)] [] ⟨rfl, trivial, rfl, lm, mm⟩ rfl rfl ?_
 refine go1 ?_
 refine g_callR1 rfl (fun _ h => h) rfl (c4) [(0, 2), (1, 20)] [] ⟨rfl, trivial, rfl, lm, mm⟩ rfl rfl ?_
 refine go1 ?_
 refine g_callR1 rfl (fun _ h => h) rfl (c5) [(0, 2), (1, 26)] [] ⟨rfl, trivial, rfl, lm, mm⟩ rfl rfl ?_
 refine go1 ?_
 refine c_loop Nat (fun k => [(30, .int .i64 k), (29, .int .i64 trs.length), (28, .sl trs.length (trs.map trM)), (3, .ptr 0 1 0 0 [])]) (fun k => mtB 1 (p5 ++ msgS ((trs.take k).map trF))) 2 (fun k => k ≤ trs.length) (fun k => trs.length - k) 0 (Nat.zero_le _) ?_ ?_
 ·rw [show p5 ++ msgS ((trs.take 0).map trF) = p5 by simp [msgS]]
  unfold mtB
  exact (vm [(0, _), (1, _)] [])
 intro k hk
 have hFk := hF2 k
 have hlk := congrArg List.length hFk
 simp only [List.length_append] at hlk
 try dsimp only
 by_cases hk' : k < trs.length
 ·have hsu : p5 ++ msgS ((trs.take (k + 1)).map trF) = p5 ++ msgS ((trs.take k).map trF) ++ fieldS (trF trs[k]) := by
   rw [List.take_succ_eq_append_getElem hk', List.map_append, msgS_app, List.append_assoc]
   congr 2
   simp [msgS]
  have hel := trs_at hk'
  have hx := h7 _ (List.getElem_mem hk')
  have hin := inner_len hx
  rw [show trF trs[k] = ⟨6, 2, 0, msgS (textF 1 trs[k].to_ ++ numF 2 trs[k].amt)⟩ from rfl] at hsu
  have hb1 : (p5 ++ msgS ((trs.take k).map trF)).length < 400000000 := by rw [List.length_append]; omega
  generalize p5 ++ msgS ((trs.take k).map trF) = acc at *
  generalize hac : p5 ++ msgS ((trs.take (k + 1)).map trF) = acc2 at *
  generalize trs[k] = x at *
  obtain ⟨to_, amt⟩ := x
  unfold trM at hel
  dsimp only at hel hsu hx hin
  have hel := SomF.mk hel
  obtain ⟨hx1, hx2⟩ := hx
  dsimp only at hx1 hx2
  rw [msgS_app] at hsu hin
  have d1 := madd_text (G := G) [] to_ 1 (by omega) (by simp) (by omega)
  rw [List.nil_append] at d1
  rw [List.length_append] at hin
  have hiq : (msgS (textF 1 to_) ++ msgS (numF 2 amt)).length ≤ 10040 := by rw [List.length_append]; exact hin
  generalize msgS (textF 1 to_) = i1 at *
  have d2 := madd_num (G := G) i1 2 amt (by omega) (by omega) hx2
  generalize i1 ++ msgS (numF 2 amt) = i2 at *
  have d3 := madd_bytes (G := G) acc i2 6 (by omega) hb1 (by omega)
  rw [← hsu] at d3
  unfold mtB at *
  refine go1 ?_
  ((with_reducible apply c_cond); (case he => exact rfl); (all_goals intro h))
  rotate_left
  ·exact absurd (of_decide_eq_false h) (by omega)
  refine go1 ?_
  refine g_callR1 rfl (fun _ h => h) rfl (d1) [(0, 7)] [] ⟨rfl, trivial, rfl, lm, mm⟩ rfl rfl ?_
  refine go1 ?_
  refine g_callR1 rfl (fun _ h => h) rfl (d2) [(0, 7), (1, 13)] [] ⟨rfl, trivial, rfl, lm, mm⟩ rfl rfl ?_
  refine go1 ?_
  refine g_callR1 rfl (fun _ h => h) rfl (d3) [(0, 0), (1, 1)] [(19, i2.length)] ⟨rfl, mm, rfl, lm, mm⟩ rfl rfl ?_
  refine go1 ?_
  refine ⟨k + 1, by omega, by show trs.length - (k + 1) < trs.length - k; omega, ?_⟩
  dsimp only
  rw [hac]
  exact (vm [(0, 0), (1, 25)] [])
 ·have e : k = trs.length := by omega
  subst e
  rw [List.drop_length, show msgS (([] : List TrS).map trF) = [] by rfl, List.append_nil] at hFk
  rw [← hFk]
  unfold mtB
  refine go1 ?_
  ((with_reducible apply c_cond); (case he => exact rfl); (all_goals intro h))
  ·exact absurd (of_decide_eq_true h) (by omega)
  refine go1 ?_
  refine ⟨[_], [], [(1, F.length)], rfl, rfl, ?_, rfl, ⟨?_, trivial⟩, ?_⟩
  ·exact ⟨by show F.length ≤ (u8s F).length; simp [u8s], trivial⟩
  ·exact .inr ⟨rfl, rfl, rfl, Nat.le_of_eq (Nat.zero_add _), by simp [cutL, u8s, List.take_of_length_le]⟩
  ·exact mm
end
section
attribute [local irreducible] vOpsN vOpsG vOpsD vOpGD NextD vC SeqQ BlockQ
theorem pvalidTx_m (t : TxS) (ht : SmTx t) : SemC Tryz.prog GU 132 [txM t] (.int .i64 (validTxS t)) := by
 obtain ⟨sender, seq, gas, fee, memo, trs⟩ := t
 obtain ⟨h1, h2, h3, h4, h5, h6, h7⟩ := ht
 dsimp only at h1 h2 h3 h4 h5 h6 h7
 have c1 := pname_m (G := GU) sender (by omega)
 have c2 := pmemo_m memo (by omega)
 generalize hr : validTxS _ = r
 unfold validTxS at hr
 unfold txM
 dsimp only at hr ⊢
 generalize nameS sender = b1 at *
 generalize memoS memo = b2 at *
 cases b1 with
 | false =>
  rw [if_pos rfl] at hr
  subst hr
  refine scq seat Tryz.func132 45 ?_
  (iterate 2 ((all_goals (refine go1 ?_)); (all_goals (first | (refine g_call3 rfl (fun _ h => h) rfl (semR_of_semC (c1)) rfl rfl ?_) | ((first | ((with_reducible apply n_grd); (case hf => exact ⟨rfl, rfl, rfl⟩)) | ((with_reducible apply c_cond); (case he => exact rfl))); (all_goals intro h); (all_goals (try simp only [bx] at h)); (all_goals (try (exfalso; omega)))) | skip))))
  refine go0 ?_
  rfl
 | true =>
 rw [if_neg (by simp)] at hr
 by_cases hg : gas = 0
 ·rw [if_pos hg] at hr
  subst hr
  refine scq seat Tryz.func132 45 ?_
  (iterate 3 ((all_goals (refine go1 ?_)); (all_goals (first | (refine g_call3 rfl (fun _ h => h) rfl (semR_of_semC (c1)) rfl rfl ?_) | ((first | ((with_reducible apply n_grd); (case hf => exact ⟨rfl, rfl, rfl⟩)) | ((with_reducible apply c_cond); (case he => exact rfl))); (all_goals intro h); (all_goals (try simp only [bx] at h)); (all_goals (try (exfalso; omega)))) | skip))))
  refine go0 ?_
  rfl
 rw [if_neg hg] at hr
 cases b2 with
 | false =>
  rw [if_pos rfl] at hr
  subst hr
  refine scq seat Tryz.func132 45 ?_
  (iterate 4 ((all_goals (refine go1 ?_)); (all_goals (first | (refine g_call3 rfl (fun _ h => h) rfl (semR_of_semC (c1)) rfl rfl ?_) | (refine g_call3 rfl (fun _ h => h) rfl (semR_of_semC (c2)) rfl rfl ?_) | ((first | ((with_reducible apply n_grd); (case hf => exact ⟨rfl, rfl, rfl⟩)) | ((with_reducible apply c_cond); (case he => exact rfl))); (all_goals intro h); (all_goals (try simp only [bx] at h)); (all_goals (try (exfalso; omega)))) | skip))))
  refine go0 ?_
  rfl
 | true =>
 rw [if_neg (by simp)] at hr
 by_cases hl : trs.length = 0 ∨ 16 < trs.length
 ·rw [if_pos hl] at hr
  subst hr
  refine scq seat Tryz.func132 45 ?_
  (iterate 6 ((all_goals (refine go1 ?_)); (all_goals (first | (refine g_call3 rfl (fun _ h => h) rfl (semR_of_semC (c1)) rfl rfl ?_) | (refine g_call3 rfl (fun _ h => h) rfl (semR_of_semC (c2)) rfl rfl ?_) | ((first | ((with_reducible apply n_grd); (case hf => exact ⟨rfl, rfl, rfl⟩)) | ((with_reducible apply c_cond); (case he => exact rfl))); (all_goals intro h); (all_goals (try simp only [bx] at h)); (all_goals (try (exfalso; omega)))) | skip))))
  all_goals (refine go0 ?_; rfl)
 rw [if_neg hl] at hr
 refine scq seat Tryz.func132 45 ?_
 (iterate 6 ((all_goals (refine go1 ?_)); (all_goals (first | (refine g_call3 rfl (fun _ h => h) rfl (semR_of_semC (c1)) rfl rfl ?_) | (refine g_call3 rfl (fun _ h => h) rfl (semR_of_semC (c2)) rfl rfl ?_) | ((first | ((with_reducible apply n_grd); (case hf => exact ⟨rfl, rfl, rfl⟩)) | ((with_reducible apply c_cond); (case he => exact rfl))); (all_goals intro h); (all_goals (try simp only [bx] at h)); (all_goals (try (exfalso; omega)))) | skip))))
 refine c_loop Nat (fun k => [(33, .int .i64 k), (32, .int .i64 trs.length), (31, .sl trs.length (trs.map trM))]) (fun _ => []) 0 (fun k => k ≤ trs.length ∧ trsS (trs.drop k) = r) (fun k => trs.length - k) 0 ⟨Nat.zero_le _, by rw [List.drop_zero]; exact hr⟩ (vm [] []) ?_
 rintro k ⟨hk, hR⟩
 try dsimp only
 refine go1 ?_
 ((with_reducible apply c_cond); (case he => exact rfl); (all_goals intro h))
 ·have hk' : k < trs.length := by have := of_decide_eq_true h; omega
  have hx := h7 _ (List.getElem_mem hk')
  have hel := SomF.mk (trs_at hk')
  rw [List.drop_eq_getElem_cons hk', trsS] at hR
  generalize trs[k] = x at *
  have d1 := pname_m (G := GU) x.to_ (by have := hx.1; omega)
  generalize nameS x.to_ = b at *
  cases b with
  | false =>
   rw [if_pos rfl] at hR
   subst hR
   (iterate 3 ((all_goals (refine go1 ?_)); (all_goals (first | (refine g_call3 rfl (fun _ h => h) rfl (semR_of_semC (d1)) rfl rfl ?_) | ((first | ((with_reducible apply n_grd); (case hf => exact ⟨rfl, rfl, rfl⟩)) | ((with_reducible apply c_cond); (case he => exact rfl))); (all_goals intro h); (all_goals (try simp only [bx] at h)); (all_goals (try (exfalso; omega)))) | skip))))
   refine go0 ?_
   rfl
  | true =>
   rw [if_neg (by simp)] at hR
   by_cases hz : x.amt = 0
   ·rw [if_pos hz] at hR
    subst hR
    (iterate 4 ((all_goals (refine go1 ?_)); (all_goals (first | (refine g_call3 rfl (fun _ h => h) rfl (semR_of_semC (d1)) rfl rfl ?_) | ((first | ((with_reducible apply n_grd); (case hf => exact ⟨rfl, rfl, rfl⟩)) | ((with_reducible apply c_cond); (case he => exact rfl))); (all_goals intro h); (all_goals (try simp only [bx] at h)); (all_goals (try (exfalso; omega)))) | skip))))
    refine go0 ?_
    rfl
   ·rw [if_neg hz] at hR
    (iterate 4 ((all_goals (refine go1 ?_)); (all_goals (first | (refine g_call3 rfl (fun _ h => h) rfl (semR_of_semC (d1)) rfl rfl ?_) | ((first | ((with_reducible apply n_grd); (case hf => exact ⟨rfl, rfl, rfl⟩)) | ((with_reducible apply c_cond); (case he => exact rfl))); (all_goals intro h); (all_goals (try simp only [bx] at h)); (all_goals (try (exfalso; omega)))) | skip))))
    exact ⟨k + 1, ⟨by omega, hR⟩, by show trs.length - (k + 1) < trs.length - k; omega, (by dsimp only; exact (vm [] []))⟩
 ·have hk' : k = trs.length := by have := of_decide_eq_false h; omega
  subst hk'
  rw [List.drop_length, trsS] at hR
  subst hR
  refine go1 ?_
  refine go0 ?_
  rfl
theorem bytesEq_m (a b : List UInt8) : SemC Tryz.prog GU 130 [.sl a.length (u8s a), .sl b.length (u8s b)] (.bool (a == b)) := by
 have f1 := SomF.mk (bytesM_u8 a)
 have f2 := SomF.mk (bytesM_u8 b)
 refine scq seat Tryz.func130 10 ?_
 refine go1 ?_
 refine go0 ?_
 rfl
theorem ptransfer_r (b : List UInt8) (hb : b.length ≤ 5000) : SemR Tryz.prog GU 191 [.sl b.length (u8s b)] [] 0 (trM (ptransS b)) [] 0 := by
 have c0 := pfields_r (G := GU) b (by omega)
 have hfo := fields_ok b
 generalize hr : ptransS b = r
 unfold ptransS at hr
 generalize fieldsS b = t at *
 obtain ⟨l, at1, e⟩ := t
 dsimp only at hr hfo c0
 unfold trM
 refine srq seat Tryz.func191 36 ?_
 refine go1 ?_
 refine g_call2 rfl (fun _ h => h) rfl (c0) rfl lm ?_
 refine go1 ?_
 refine c_loop (Nat × TrS) (fun x => [(17, .int .i64 x.1), (16, .int .i64 l.length), (15, .sl l.length (l.map fldM)), (3, .ptr 1 2 0 0 []), (2, .ptr 0 2 0 0 [])]) (fun x => [(0, ⟨95, 2, false, 0, [.st [.str [], .int .u64 0]]⟩), (1, ⟨95, 2, false, 0, [.st [.str x.2.to_, .int .u64 x.2.amt]]⟩)]) 2 (fun x => x.1 ≤ l.length ∧ ptrG (l.drop x.1) x.2 = r) (fun x => l.length - x.1) (0, ⟨[], 0⟩) ⟨Nat.zero_le _, by dsimp only; rw [List.drop_zero]; exact hr⟩ (by dsimp only; exact (vm [(0, _), (1, _)] [])) ?_
 rintro ⟨k, x⟩ ⟨hk, hR⟩
 obtain ⟨to_, amt⟩ := x
 try dsimp only
 dsimp only at hk hR
 refine go1 ?_
 ((with_reducible apply c_cond); (case he => exact rfl); (all_goals intro h))
 ·have hk' : k < l.length := by have := of_decide_eq_true h; omega
  have hel := flds_at hk'
  rw [List.drop_eq_getElem_cons hk'] at hR
  generalize l[k] = f at *
  obtain ⟨num, kind, val, bytes⟩ := f
  replace hel : idxL (l.map fldM) l.length (k : Int) = some (.st [.int .i64 num, .int .i64 kind, .int .u64 val, .sl bytes.length (u8s bytes)]) := hel
  have hel := SomF.mk hel
  have hby := SomF.mk (bytesM_u8 bytes)
  rw [ptrG] at hR
  dsimp only at hR
  by_cases g1 : num = 1
  ·rw [if_pos g1] at hR
   subst g1
   (iterate 6 ((all_goals (refine go1 ?_)); (all_goals (first | ((first | ((with_reducible apply n_grd); (case hf => exact ⟨rfl, rfl, rfl⟩)) | ((with_reducible apply c_cond); (case he => exact rfl))); (all_goals intro h); (all_goals (try simp only [bx] at h)); (all_goals (try (exfalso; omega)))) | skip))))
   exact ⟨(k + 1, ⟨bytes, amt⟩), ⟨by dsimp only; omega, hR⟩, by show l.length - (k + 1) < l.length - k; omega, (by dsimp only; exact (vm [(0, _), (1, _)] []))⟩
  rw [if_neg g1] at hR
  by_cases g2 : num = 2
  ·rw [if_pos g2] at hR
   subst g2
   (iterate 6 ((all_goals (refine go1 ?_)); (all_goals (first | ((first | ((with_reducible apply n_grd); (case hf => exact ⟨rfl, rfl, rfl⟩)) | ((with_reducible apply c_cond); (case he => exact rfl))); (all_goals intro h); (all_goals (try simp only [bx] at h)); (all_goals (try (exfalso; omega)))) | skip))))
   exact ⟨(k + 1, ⟨to_, val⟩), ⟨by dsimp only; omega, hR⟩, by show l.length - (k + 1) < l.length - k; omega, (by dsimp only; exact (vm [(0, _), (1, _)] []))⟩
  ·rw [if_neg g2] at hR
   (iterate 6 ((all_goals (refine go1 ?_)); (all_goals (first | ((first | ((with_reducible apply n_grd); (case hf => exact ⟨rfl, rfl, rfl⟩)) | ((with_reducible apply c_cond); (case he => exact rfl))); (all_goals intro h); (all_goals (try simp only [bx] at h)); (all_goals (try (exfalso; omega)))) | skip))))
   exact ⟨(k + 1, ⟨to_, amt⟩), ⟨by dsimp only; omega, hR⟩, by show l.length - (k + 1) < l.length - k; omega, (by dsimp only; exact (vm [(0, _), (1, _)] []))⟩
 ·have hk' : k = l.length := by have := of_decide_eq_false h; omega
  subst hk'
  rw [List.drop_length, ptrG] at hR
  subst hR
  refine go1 ?_
  refine go0 ?_
  refine ⟨[_], [], [], rfl, rfl, trivial, rfl, ⟨?_, trivial⟩, ?_⟩
  ·exact .inl ⟨rfl, rfl⟩
  ·exact mm
theorem pread_r (l : List Fld) (hl : ∀ f ∈ l, okF f ∧ f.bytes.length ≤ 5000) (hn : l.length ≤ 1024) : SemR Tryz.prog GU 129 [.sl l.length (l.map fldM)] [] 0 (txM (prdG l tx0)) [] 0 := by
 generalize hr : prdG l tx0 = R
 refine srq seat Tryz.func129 53 ?_
 refine go1 ?_
 refine c_loop (Nat × TxS) (fun x => [(8, .int .i64 x.1), (7, .int .i64 l.length), (6, .sl l.length (l.map fldM)), (3, .ptr 1 6 0 0 []), (2, .ptr 0 6 0 0 [])]) (fun x => [(0, ⟨98, 6, false, 0, [.st [.str [], .int .u64 0, .int .u64 0, .int .u64 0, .str [], .nils]]⟩), (1, ⟨98, 6, false, 0, [.st [.str x.2.sender, .int .u64 x.2.seq, .int .u64 x.2.gas, .int .u64 x.2.fee, .str x.2.memo, .ms 2 2 0 x.2.trs.length]]⟩), (2, ⟨95, 2, true, 0, x.2.trs.map trM⟩)]) 3 (fun x => x.1 ≤ l.length ∧ x.2.trs.length ≤ x.1 ∧ prdG (l.drop x.1) x.2 = R) (fun x => l.length - x.1) (0, tx0) ⟨Nat.zero_le _, Nat.zero_le _, by dsimp only; rw [List.drop_zero]; exact hr⟩ (by dsimp only; exact (vm [(0, _), (1, _)] [])) ?_
 rintro ⟨k, t⟩ ⟨hk, ht, hR⟩
 obtain ⟨sender, seq, gas, fee, memo, trs⟩ := t
 try dsimp only
 dsimp only at hk ht hR
 refine go1 ?_
 ((with_reducible apply c_cond); (case he => exact rfl); (all_goals intro h))
 ·have hk' : k < l.length := by have := of_decide_eq_true h; omega
  have hok := hl _ (List.getElem_mem hk')
  have hel := flds_at hk'
  rw [List.drop_eq_getElem_cons hk'] at hR
  generalize l[k] = f at *
  obtain ⟨num, kind, val, bytes⟩ := f
  replace hel : idxL (l.map fldM) l.length (k : Int) = some (.st [.int .i64 num, .int .i64 kind, .int .u64 val, .sl bytes.length (u8s bytes)]) := hel
  have hel := SomF.mk hel
  have hby := SomF.mk (bytesM_u8 bytes)
  rw [prdG] at hR
  dsimp only at hR hok
  by_cases g1 : num = 1
  ·rw [if_pos g1] at hR
   subst g1
   (iterate 4 ((all_goals (refine go1 ?_)); (all_goals (first | ((first | ((with_reducible apply n_grd); (case hf => exact ⟨rfl, rfl, rfl⟩)) | ((with_reducible apply c_cond); (case he => exact rfl))); (all_goals intro h); (all_goals (try simp only [bx] at h)); (all_goals (try (exfalso; omega)))) | skip))))
   exact ⟨(k + 1, ⟨bytes, seq, gas, fee, memo, trs⟩), ⟨by dsimp only; omega, by dsimp only; omega, hR⟩, by show l.length - (k + 1) < l.length - k; omega, (by dsimp only; exact (vm [(0, _), (1, _), (2, _)] []))⟩
  rw [if_neg g1] at hR
  by_cases g2 : num = 2
  ·rw [if_pos g2] at hR
   subst g2
   (iterate 6 ((all_goals (refine go1 ?_)); (all_goals (first | ((first | ((with_reducible apply n_grd); (case hf => exact ⟨rfl, rfl, rfl⟩)) | ((with_reducible apply c_cond); (case he => exact rfl))); (all_goals intro h); (all_goals (try simp only [bx] at h)); (all_goals (try (exfalso; omega)))) | skip))))
   exact ⟨(k + 1, ⟨sender, val, gas, fee, memo, trs⟩), ⟨by dsimp only; omega, by dsimp only; omega, hR⟩, by show l.length - (k + 1) < l.length - k; omega, (by dsimp only; exact (vm [(0, _), (1, _), (2, _)] []))⟩
  rw [if_neg g2] at hR
  by_cases g3 : num = 3
  ·rw [if_pos g3] at hR
   subst g3
   (iterate 8 ((all_goals (refine go1 ?_)); (all_goals (first | ((first | ((with_reducible apply n_grd); (case hf => exact ⟨rfl, rfl, rfl⟩)) | ((with_reducible apply c_cond); (case he => exact rfl))); (all_goals intro h); (all_goals (try simp only [bx] at h)); (all_goals (try (exfalso; omega)))) | skip))))
   exact ⟨(k + 1, ⟨sender, seq, val, fee, memo, trs⟩), ⟨by dsimp only; omega, by dsimp only; omega, hR⟩, by show l.length - (k + 1) < l.length - k; omega, (by dsimp only; exact (vm [(0, _), (1, _), (2, _)] []))⟩
  rw [if_neg g3] at hR
  by_cases g4 : num = 4
  ·rw [if_pos g4] at hR
   subst g4
   (iterate 10 ((all_goals (refine go1 ?_)); (all_goals (first | ((first | ((with_reducible apply n_grd); (case hf => exact ⟨rfl, rfl, rfl⟩)) | ((with_reducible apply c_cond); (case he => exact rfl))); (all_goals intro h); (all_goals (try simp only [bx] at h)); (all_goals (try (exfalso; omega)))) | skip))))
   exact ⟨(k + 1, ⟨sender, seq, gas, val, memo, trs⟩), ⟨by dsimp only; omega, by dsimp only; omega, hR⟩, by show l.length - (k + 1) < l.length - k; omega, (by dsimp only; exact (vm [(0, _), (1, _), (2, _)] []))⟩
  rw [if_neg g4] at hR
  by_cases g5 : num = 5
  ·rw [if_pos g5] at hR
   subst g5
   (iterate 12 ((all_goals (refine go1 ?_)); (all_goals (first | ((first | ((with_reducible apply n_grd); (case hf => exact ⟨rfl, rfl, rfl⟩)) | ((with_reducible apply c_cond); (case he => exact rfl))); (all_goals intro h); (all_goals (try simp only [bx] at h)); (all_goals (try (exfalso; omega)))) | skip))))
   exact ⟨(k + 1, ⟨sender, seq, gas, fee, bytes, trs⟩), ⟨by dsimp only; omega, by dsimp only; omega, hR⟩, by show l.length - (k + 1) < l.length - k; omega, (by dsimp only; exact (vm [(0, _), (1, _), (2, _)] []))⟩
  rw [if_neg g5] at hR
  by_cases g6 : num = 6
  ·rw [if_pos g6] at hR
   subst g6
   have c1 := ptransfer_r bytes hok.2
   generalize ptransS bytes = x at *
   (iterate 13 ((all_goals (refine go1 ?_)); (all_goals (first | ((first | ((with_reducible apply n_grd); (case hf => exact ⟨rfl, rfl, rfl⟩)) | ((with_reducible apply c_cond); (case he => exact rfl))); (all_goals intro h); (all_goals (try simp only [bx] at h)); (all_goals (try (exfalso; omega)))) | skip))))
   refine c_draw [(0, false), (1, false), (2, false), (3, false), (4, true), (5, false), (6, false), (7, false), (8, false)] ?_
   refine go1 ?_
   refine gd_call1 rfl (fun _ h => h) rfl [] (c1) rfl [] trivial lm rfl ?_
   refine go1 ?_
   ((with_reducible apply gd_mem); (case hv => exact rfl); (case he => (intro R hR; refine sms hR ?_; (refine And.intro (Nat.le_refl _) ?_; refine ⟨_, rfl, ?_⟩; refine And.intro ⟨(by simp), app_ok (by kernel_rfl) pf⟩ ?_; refine ⟨(trs ++ [x]).map trM, sv (by simp; rfl), trs.length + 1, sv pf, ?_⟩); exact hR)); (case hd => exact rfl))
   refine go1 ?_
   exact ⟨(k + 1, ⟨sender, seq, gas, fee, memo, trs ++ [x]⟩), ⟨by dsimp only; omega, by dsimp only; rw [List.length_append, List.length_singleton]; omega, hR⟩, by show l.length - (k + 1) < l.length - k; omega, (by dsimp only; rw [List.length_append, List.length_singleton]; exact (vm [(0, _), (1, _), (2, _)] []))⟩
  ·rw [if_neg g6] at hR
   (iterate 14 ((all_goals (refine go1 ?_)); (all_goals (first | ((first | ((with_reducible apply n_grd); (case hf => exact ⟨rfl, rfl, rfl⟩)) | ((with_reducible apply c_cond); (case he => exact rfl))); (all_goals intro h); (all_goals (try simp only [bx] at h)); (all_goals (try (exfalso; omega)))) | skip))))
   exact ⟨(k + 1, ⟨sender, seq, gas, fee, memo, trs⟩), ⟨by dsimp only; omega, by dsimp only; omega, hR⟩, by show l.length - (k + 1) < l.length - k; omega, (by dsimp only; exact (vm [(0, _), (1, _), (2, _)] []))⟩
 ·have hk' : k = l.length := by have := of_decide_eq_false h; omega
  subst hk'
  rw [List.drop_length, prdG] at hR
  subst hR
  refine go1 ?_
  refine go0 ?_
  refine ⟨[_], [], [(2, trs.length)], rfl, rfl, ?_, rfl, ⟨?_, trivial⟩, ?_⟩
  ·exact ⟨(show trs.length ≤ (trs.map trM).length by simp), trivial⟩
  ·exact .inr ⟨_, rfl, lm⟩
  ·exact mm
theorem pdecode_r (raw : List UInt8) (hraw : raw.length ≤ 140737488355328) : SemR Tryz.prog GU 86 [.sl raw.length (u8s raw)] [] 0 (.tup [txM (decodeTxS raw).1, .int .i64 (decodeTxS raw).2]) [] 0 := by
 generalize hr : decodeTxS raw = r
 obtain ⟨R, code⟩ := r
 dsimp only
 rw [decode_eq] at hr
 by_cases h1 : 4096 < raw.length
 ·rw [if_pos h1] at hr
  simp only [Prod.mk.injEq] at hr
  obtain ⟨rfl, rfl⟩ := hr
  refine srq seat Tryz.func86 38 ?_
  refine go1 ?_
  (iterate 4 ((all_goals (refine go1 ?_)); (all_goals (first | ((first | ((with_reducible apply n_grd); (case hf => exact ⟨rfl, rfl, rfl⟩)) | ((with_reducible apply c_cond); (case he => exact rfl))); (all_goals intro h); (all_goals (try simp only [bx] at h)); (all_goals (try (exfalso; omega)))) | skip))))
  all_goals (refine go0 ?_; (refine ⟨[_, _], [], [], rfl, rfl, trivial, rfl, ⟨?_, ?_, trivial⟩, ?_⟩; (exact .inr ⟨_, rfl, lm⟩); exact rv; exact mm))
 rw [if_neg h1] at hr
 have c1 := pfields_r (G := GU) raw (by omega)
 have hf := fields_ok raw
 have c2 := pread_r (fieldsS raw).1 (fun f hm => ⟨(hf.1 f hm).1, by have := (hf.1 f hm).2; omega⟩) hf.2
 have hsm := prd_raw_sm (raw := raw) (by omega)
 have c3 := written_r (G := GU) _ hsm
 have c4 := bytesEq_m (formS (prdG (fieldsS raw).1 tx0)) raw
 have c5 := pvalidTx_m _ hsm
 clear hf hsm
 generalize fieldsS raw = F at *
 obtain ⟨l, at_, e⟩ := F
 dsimp only at c1 c2 c3 c4 c5 hr
 generalize prdG l tx0 = t at *
 generalize formS t = fs at *
 generalize validTxS t = vt at *
 have hb : (fs == raw) = true ↔ fs = raw := by simp
 generalize (fs == raw) = b at *
 by_cases he : e = 0
 ·subst he
  cases b with
  | false =>
   have hne : fs ≠ raw := fun e => by have := hb.2 e; simp at this
   rw [if_pos (by simp [hne])] at hr
   simp only [Prod.mk.injEq] at hr
   obtain ⟨rfl, rfl⟩ := hr
   refine srq seat Tryz.func86 38 ?_
   refine go1 ?_
   (iterate 12 ((all_goals (refine go1 ?_)); (all_goals (first | (refine g_call3 rfl (fun _ h => h) rfl (c1) rfl rfl ?_) | (refine g_call3 rfl (fun _ h => h) rfl (c2) rfl rfl ?_) | (refine g_call3 rfl (fun _ h => h) rfl (c3) rfl rfl ?_) | (refine g_call3 rfl (fun _ h => h) rfl (semR_of_semC (c4)) rfl rfl ?_) | (refine g_call3 rfl (fun _ h => h) rfl (semR_of_semC (c5)) rfl rfl ?_) | ((first | ((with_reducible apply n_grd); (case hf => exact ⟨rfl, rfl, rfl⟩)) | ((with_reducible apply c_cond); (case he => exact rfl))); (all_goals intro h); (all_goals (try simp only [bx] at h)); (all_goals (try (exfalso; omega)))) | skip))))
   all_goals (refine go0 ?_; (refine ⟨[_, _], [], [], rfl, rfl, trivial, rfl, ⟨?_, ?_, trivial⟩, ?_⟩; (exact .inr ⟨_, rfl, lm⟩); exact rv; exact mm))
  | true =>
   have heq : fs = raw := hb.1 rfl
   rw [if_neg (by simp [heq])] at hr
   by_cases hv : vt = 0
   ·subst hv
    rw [if_neg (by simp)] at hr
    simp only [Prod.mk.injEq] at hr
    obtain ⟨rfl, rfl⟩ := hr
    refine srq seat Tryz.func86 38 ?_
    refine go1 ?_
    (iterate 12 ((all_goals (refine go1 ?_)); (all_goals (first | (refine g_call3 rfl (fun _ h => h) rfl (c1) rfl rfl ?_) | (refine g_call3 rfl (fun _ h => h) rfl (c2) rfl rfl ?_) | (refine g_call3 rfl (fun _ h => h) rfl (c3) rfl rfl ?_) | (refine g_call3 rfl (fun _ h => h) rfl (semR_of_semC (c4)) rfl rfl ?_) | (refine g_call3 rfl (fun _ h => h) rfl (semR_of_semC (c5)) rfl rfl ?_) | ((first | ((with_reducible apply n_grd); (case hf => exact ⟨rfl, rfl, rfl⟩)) | ((with_reducible apply c_cond); (case he => exact rfl))); (all_goals intro h); (all_goals (try simp only [bx] at h)); (all_goals (try (exfalso; omega)))) | skip))))
    all_goals (refine go0 ?_; (refine ⟨[_, _], [], [], rfl, rfl, trivial, rfl, ⟨?_, ?_, trivial⟩, ?_⟩; (exact .inr ⟨_, rfl, lm⟩); exact rv; exact mm))
   ·rw [if_pos hv] at hr
    simp only [Prod.mk.injEq] at hr
    obtain ⟨rfl, rfl⟩ := hr
    refine srq seat Tryz.func86 38 ?_
    refine go1 ?_
    (iterate 12 ((all_goals (refine go1 ?_)); (all_goals (first | (refine g_call3 rfl (fun _ h => h) rfl (c1) rfl rfl ?_) | (refine g_call3 rfl (fun _ h => h) rfl (c2) rfl rfl ?_) | (refine g_call3 rfl (fun _ h => h) rfl (c3) rfl rfl ?_) | (refine g_call3 rfl (fun _ h => h) rfl (semR_of_semC (c4)) rfl rfl ?_) | (refine g_call3 rfl (fun _ h => h) rfl (semR_of_semC (c5)) rfl rfl ?_) | ((first | ((with_reducible apply n_grd); (case hf => exact ⟨rfl, rfl, rfl⟩)) | ((with_reducible apply c_cond); (case he => exact rfl))); (all_goals intro h); (all_goals (try simp only [bx] at h)); (all_goals (try (exfalso; omega)))) | skip))))
    all_goals (refine go0 ?_; (refine ⟨[_, _], [], [], rfl, rfl, trivial, rfl, ⟨?_, ?_, trivial⟩, ?_⟩; (exact .inr ⟨_, rfl, lm⟩); exact rv; exact mm))
 ·rw [if_pos (.inl he)] at hr
  simp only [Prod.mk.injEq] at hr
  obtain ⟨rfl, rfl⟩ := hr
  refine srq seat Tryz.func86 38 ?_
  refine go1 ?_
  (iterate 12 ((all_goals (refine go1 ?_)); (all_goals (first | (refine g_call3 rfl (fun _ h => h) rfl (c1) rfl rfl ?_) | (refine g_call3 rfl (fun _ h => h) rfl (c2) rfl rfl ?_) | (refine g_call3 rfl (fun _ h => h) rfl (c3) rfl rfl ?_) | (refine g_call3 rfl (fun _ h => h) rfl (semR_of_semC (c4)) rfl rfl ?_) | (refine g_call3 rfl (fun _ h => h) rfl (semR_of_semC (c5)) rfl rfl ?_) | ((first | ((with_reducible apply n_grd); (case hf => exact ⟨rfl, rfl, rfl⟩)) | ((with_reducible apply c_cond); (case he => exact rfl))); (all_goals intro h); (all_goals (try simp only [bx] at h)); (all_goals (try (exfalso; omega)))) | skip))))
  all_goals (refine go0 ?_; (refine ⟨[_, _], [], [], rfl, rfl, trivial, rfl, ⟨?_, ?_, trivial⟩, ?_⟩; (exact .inr ⟨_, rfl, lm⟩); exact rv; exact mm))
end
section
def dgt (y1 y0 u1 : Nat) : Nat → Nat → Nat → Nat
 | 0, q, _ => q
 | f + 1, q, r => if 4294967296 ≤ q ∨ 4294967296 * r + u1 < q * y0 then (if 4294967296 ≤ r + y1 then q - 1 else dgt y1 y0 u1 f (q - 1) (r + y1)) else q
theorem dgt_law {y1 y0 u1 u : Nat} (h1 : y1 < 4294967296) (h0 : y0 < 4294967296) (hu : u < y1 * 4294967296 + y0) (hu1 : u1 < 4294967296) : ∀ (f q r : Nat), q * y1 + r = u → r < 4294967296 → (u * 4294967296 + u1) / (y1 * 4294967296 + y0) ≤ q → 4294967296 ≤ r + f * y1 → dgt y1 y0 u1 f q r = (u * 4294967296 + u1) / (y1 * 4294967296 + y0)
 | 0, q, r, _, hr, _, hf => by omega
 | f + 1, q, r, he, hr, hq, hf => by
  have hy : 0 < y1 * 4294967296 + y0 := by omega
  have ex : q * (y1 * 4294967296 + y0) = q * y1 * 4294967296 + q * y0 := by rw [Nat.mul_add, Nat.mul_assoc]
  unfold dgt
  by_cases hc : 4294967296 ≤ q ∨ 4294967296 * r + u1 < q * y0
  ·rw [if_pos hc]
   have hlt : (u * 4294967296 + u1) / (y1 * 4294967296 + y0) < q := by
    rw [Nat.div_lt_iff_lt_mul hy]
    rcases hc with hc | hc
    ·have := Nat.mul_le_mul_right (y1 * 4294967296 + y0) hc
     omega
    ·rw [ex]
     generalize q * y1 = A at *
     generalize q * y0 = C at *
     omega
   have hq1 : 1 ≤ q := Nat.lt_of_le_of_lt (Nat.zero_le _) hlt
   have e1 : (q - 1) * y1 + (r + y1) = u := by
    have : (q - 1) * y1 + y1 = q * y1 := by rw [← Nat.succ_mul]; congr 1; omega
    omega
   by_cases hb : 4294967296 ≤ r + y1
   ·rw [if_pos hb]
    have hle : q - 1 ≤ (u * 4294967296 + u1) / (y1 * 4294967296 + y0) := by
     rw [Nat.le_div_iff_mul_le hy]
     have hlt2 : q - 1 < 4294967296 := by
      rcases Nat.lt_or_ge (q - 1) 4294967296 with h | h
      ·exact h
      ·have := Nat.mul_le_mul_right y1 h
       omega
     have h3 : (q - 1) * y0 ≤ 4294967295 * 4294967295 := Nat.mul_le_mul (by omega) (by omega)
     have ey : (q - 1) * (y1 * 4294967296 + y0) = (q - 1) * y1 * 4294967296 + (q - 1) * y0 := by rw [Nat.mul_add, Nat.mul_assoc]
     rw [ey]
     generalize (q - 1) * y1 = A at *
     generalize (q - 1) * y0 = C at *
     omega
    omega
   ·rw [if_neg hb]
    refine dgt_law h1 h0 hu hu1 f (q - 1) (r + y1) e1 (by omega) (by omega) ?_
    rw [Nat.succ_mul] at hf
    omega
  ·rw [if_neg hc]
   have hle : q ≤ (u * 4294967296 + u1) / (y1 * 4294967296 + y0) := by
    rw [Nat.le_div_iff_mul_le hy, ex]
    have hc1 : q * y0 ≤ 4294967296 * r + u1 := by
     rcases Nat.lt_or_ge (4294967296 * r + u1) (q * y0) with h | h
     ·exact absurd (.inr h) hc
     ·exact h
    generalize q * y1 = A at *
    generalize q * y0 = C at *
    omega
   omega
theorem dgt_ok {y1 y0 u1 u : Nat} (h1 : y1 < 4294967296) (h2 : 2147483648 ≤ y1) (h0 : y0 < 4294967296) (hu : u < y1 * 4294967296 + y0) (hu1 : u1 < 4294967296) : dgt y1 y0 u1 2 (u / y1) (u % y1) = (u * 4294967296 + u1) / (y1 * 4294967296 + y0) := by
 have hy : 0 < y1 * 4294967296 + y0 := by omega
 refine dgt_law h1 h0 hu hu1 2 _ _ (by rw [Nat.mul_comm]; exact Nat.div_add_mod u y1) (Nat.lt_trans (Nat.mod_lt _ (by omega)) h1) ?_ (by omega)
 -- the guess is never too small
 have hm := Nat.div_add_mod u y1
 have hlt := Nat.mod_lt u (show 0 < y1 by omega)
 have : (u * 4294967296 + u1) / (y1 * 4294967296 + y0) < u / y1 + 1 := by
  rw [Nat.div_lt_iff_lt_mul hy]
  have e : (u / y1 + 1) * (y1 * 4294967296 + y0) = (y1 * (u / y1) + y1) * 4294967296 + (u / y1 + 1) * y0 := by
   rw [Nat.mul_add, ← Nat.mul_assoc, Nat.add_mul (u / y1) 1 y1, Nat.one_mul, Nat.mul_comm (u / y1) y1]
  rw [e]
  generalize y1 * (u / y1) = A at *
  generalize (u / y1 + 1) * y0 = C at *
  omega
 omega
theorem two_eq (b y u u1 u0 : Nat) : u * (b * b) + (u1 * b + u0) = (u * b + u1) % y * b + u0 + y * ((u * b + u1) / y * b) := by
 have h := Nat.div_add_mod (u * b + u1) y
 have e1 : u * (b * b) + (u1 * b + u0) = (u * b + u1) * b + u0 := by rw [Nat.add_mul, ← Nat.mul_assoc, Nat.add_assoc]
 have e2 : (y * ((u * b + u1) / y) + (u * b + u1) % y) * b = y * ((u * b + u1) / y * b) + (u * b + u1) % y * b := by rw [Nat.add_mul, Nat.mul_assoc]
 rw [h] at e2
 rw [e1, e2]
 omega
theorem div_two (b y u u1 u0 : Nat) (hy : 0 < y) : (u * b + u1) / y * b + ((u * b + u1) % y * b + u0) / y = (u * (b * b) + (u1 * b + u0)) / y := by
 rw [two_eq b y u u1 u0, Nat.add_mul_div_left _ _ hy, Nat.add_comm]
theorem div_two_rem (b y u u1 u0 : Nat) : ((u * b + u1) % y * b + u0) % y = (u * (b * b) + (u1 * b + u0)) % y := by
 rw [two_eq b y u u1 u0, Nat.add_mul_mod_self_left]
theorem div_shift (n y s : Nat) : n * 2 ^ s / (y * 2 ^ s) = n / y := Nat.mul_div_mul_right n y (Nat.two_pow_pos s)
theorem mod_shift (n y s : Nat) : n * 2 ^ s % (y * 2 ^ s) / 2 ^ s = n % y := by
 rw [Nat.mul_mod_mul_right, Nat.mul_div_cancel _ (Nat.two_pow_pos s)]
end
section
variable {G : GS}
attribute [local irreducible] vOpsN vOpsG vOpsD vOpGD NextD vC SeqQ BlockQ
theorem add64_p (a b : Nat) : SemP Tryz.prog G 240 [.int .u64 a, .int .u64 b, .int .u64 0] [] 0 (.tup [.int .u64 ((a + b) % 18446744073709551616 : Nat), .int .u64 ((a + b) / 18446744073709551616 : Nat)]) [] 0 := by
 intro w P adr vals hg hI hn hL hargs
 cases hargs with | cons a1 hargs => cases hargs with | cons a2 hargs => cases hargs with | cons a3 hargs =>
 cases hargs
 have e1 := a1.int_
 have e2 := a2.int_
 have e3 := a3.int_
 subst e1 e2 e3
 have hf : (callFunc 240 #[.int .u64 a, .int .u64 b, .int .u64 0]).run Tryz.prog w = _ :=
  run_callFunc_extern Tryz.func240 (by kernel_rfl) (by kernel_rfl) (by kernel_rfl) (e := add64Entry) (by kernel_rfl) _ w
 refine ⟨.tuple #[.int .u64 ((a + b) % 18446744073709551616 : Nat), .int .u64 ((a + b) / 18446744073709551616 : Nat)], w, hf.trans ?_, _, rfl, P, adr, hI, .tup [.int .u64 ((a + b) % 18446744073709551616 : Nat), .int .u64 ((a + b) / 18446744073709551616 : Nat)] rfl (fun j m u hj hu => ?_), Keep.refl _ _ _, fun _ _ => rfl, hn, fun c g hc => .inr ⟨c, hc⟩, fun b o ho => .inl ho, Since.refl _ _⟩
 ·have h := run_add64 (P := Tryz.prog) (a : Int) (b : Int) 0 (by omega) (by omega) (by omega) (by omega) w
  rw [h]
  have e1 : ((a : Int) + b + 0) % 18446744073709551616 = ((a + b) % 18446744073709551616 : Nat) := by omega
  have e2 : ((a : Int) + b + 0) / 18446744073709551616 = ((a + b) / 18446744073709551616 : Nat) := by omega
  rw [e1, e2]
  rfl
 ·match j with
  | 0 => simp at hj hu; subst hj; subst hu; exact ⟨_, .int, rfl⟩
  | 1 => simp at hj hu; subst hj; subst hu; exact ⟨_, .int, rfl⟩
  | j + 2 => simp at hj
theorem only_m (n : Nat) (ok : Bool) : SemC Tryz.prog G 241 [.int .u64 n, .bool ok] (.tup [.int .u64 (if ok then n else 0 : Nat), .bool ok]) := by
 cases ok
 ·refine scq seat Tryz.func241 9 ?_
  refine go1 ?_
  (iterate 4 ((all_goals (refine go1 ?_)); (all_goals (first | ((first | ((with_reducible apply n_grd); (case hf => exact ⟨rfl, rfl, rfl⟩)) | ((with_reducible apply c_cond); (case he => exact rfl))); (all_goals intro h); (all_goals (try simp only [bx] at h)); (all_goals (try (exfalso; omega)))) | skip))))
  all_goals (refine go0 ?_)
  all_goals rfl
 ·refine scq seat Tryz.func241 9 ?_
  refine go1 ?_
  (iterate 4 ((all_goals (refine go1 ?_)); (all_goals (first | ((first | ((with_reducible apply n_grd); (case hf => exact ⟨rfl, rfl, rfl⟩)) | ((with_reducible apply c_cond); (case he => exact rfl))); (all_goals intro h); (all_goals (try simp only [bx] at h)); (all_goals (try (exfalso; omega)))) | skip))))
  all_goals (refine go0 ?_)
  all_goals rfl
theorem padd_m (a b : Nat) (ha : U64 a) (hb : U64 b) : SemC Tryz.prog G 179 [.int .u64 a, .int .u64 b] (.tup [.int .u64 (addS a b).1, .bool (addS a b).2]) := by
 unfold U64 at ha hb
 have c0 := add64_p (G := G) a b
 have c1 := only_m (G := G) ((a + b) % 18446744073709551616) (((a + b) / 18446744073709551616 : Nat) == (0 : Int))
 have hres : (.tup [.int .u64 (if (((a + b) / 18446744073709551616 : Nat) == (0 : Int)) then (a + b) % 18446744073709551616 else 0 : Nat), .bool (((a + b) / 18446744073709551616 : Nat) == (0 : Int))] : MV) = .tup [.int .u64 (addS a b).1, .bool (addS a b).2] := by
  unfold addS
  by_cases h : a + b < 18446744073709551616
  ·have e1 : (a + b) / 18446744073709551616 = 0 := by omega
   have e2 : (a + b) % 18446744073709551616 = a + b := by omega
   simp [h, e1, e2]
  ·have e1 : (((a + b) / 18446744073709551616 : Nat) == (0 : Int)) = false := by rw [beq_eq_false_iff_ne]; omega
   rw [e1]
   simp [h]
 rw [hres] at c1
 generalize addS a b = p at *
 obtain ⟨v, ok⟩ := p
 refine scq seat Tryz.func179 20 ?_
 refine go1 ?_
 refine g_callP1 rfl (fun _ h => h) rfl (c0) [] [] ⟨rfl, trivial, rfl, lm, mm⟩ rfl rfl ?_
 refine go1 ?_
 refine g_call2 rfl (fun _ h => h) rfl (semR_of_semC (c1)) rfl lm ?_
 refine go1 ?_
 refine go0 ?_
 rfl
theorem mul64_m (a b : Nat) (ha : U64 a) (hb : U64 b) : SemC Tryz.prog G 198 [.int .u64 a, .int .u64 b] (.tup [.int .u64 (a * b / 18446744073709551616 : Nat), .int .u64 (a * b % 18446744073709551616 : Nat)]) := by
 obtain ⟨w, p, q, r, hw, hp, hq, hr, bw, bp, bq, br, hab, hhi⟩ := mul_hl a b ha hb
 unfold U64 at ha hb
 have mk : ∀ x y z : Nat, x * y = z → z < 18446744065119617026 → IntKind.u64.wrap ((x : Int) * (y : Int)) = (z : Int) := fun x y z h hz => by
  rw [← Int.natCast_mul, h]
  exact wrapu_in _ (by omega) (by omega)
 have m1 := EqF.mk (mk _ _ _ hw bw)
 have m2 := EqF.mk (mk _ _ _ hp bp)
 have m3 := EqF.mk (mk _ _ _ hq bq)
 have m4 := EqF.mk (mk _ _ _ hr br)
 have m5 := EqF.mk (show IntKind.u64.wrap ((a : Int) * (b : Int)) = ((a * b % 18446744073709551616 : Nat) : Int) by rw [wu64, ← Int.natCast_mul]; omega)
 have s1 := EqF.mk (shrD32 a)
 have s2 := EqF.mk (shrD32 b)
 have s3 := EqF.mk (shrD32 p)
 have l1 := EqF.mk (and_low (m := a) ha)
 have l2 := EqF.mk (and_low (m := b) hb)
 clear hw hp hq hr mk
 generalize a * b = n at *
 subst hab
 have a1 := EqF.mk (show IntKind.u64.wrap ((q : Int) + ((p / 4294967296 : Nat) : Int)) = ((q + p / 4294967296 : Nat) : Int) from wrapu_in _ (by omega) (by omega))
 have l3 := EqF.mk (and_low (m := q + p / 4294967296) (by omega))
 have s4 := EqF.mk (shrD32 (q + p / 4294967296))
 have a2 := EqF.mk (show IntKind.u64.wrap ((((q + p / 4294967296) % 4294967296 : Nat) : Int) + (r : Int)) = (((q + p / 4294967296) % 4294967296 + r : Nat) : Int) from wrapu_in _ (by omega) (by omega))
 have s5 := EqF.mk (shrD32 ((q + p / 4294967296) % 4294967296 + r))
 have a3 := EqF.mk (show IntKind.u64.wrap ((w : Int) + (((q + p / 4294967296) / 4294967296 : Nat) : Int)) = ((w + (q + p / 4294967296) / 4294967296 : Nat) : Int) from wrapu_in _ (by omega) (by omega))
 have a4 := EqF.mk (show IntKind.u64.wrap (((w + (q + p / 4294967296) / 4294967296 : Nat) : Int) + ((((q + p / 4294967296) % 4294967296 + r) / 4294967296 : Nat) : Int)) = ((w + (q + p / 4294967296) / 4294967296 + ((q + p / 4294967296) % 4294967296 + r) / 4294967296 : Nat) : Int) from wrapu_in _ (by omega) (by omega))
 refine scq seat Tryz.func198 51 ?_
 refine go1 ?_
 refine go0 ?_
 refine congrArg MV.tup ?_
 refine List.cons_eq_cons.2 ⟨congrArg (MV.int .u64) ?_, rfl⟩
 omega
theorem pmul_m (a b : Nat) (ha : U64 a) (hb : U64 b) : SemC Tryz.prog G 197 [.int .u64 a, .int .u64 b] (.tup [.int .u64 (mulS a b).1, .bool (mulS a b).2]) := by
 have c0 := mul64_m (G := G) a b ha hb
 have c1 := only_m (G := G) (a * b % 18446744073709551616) ((a * b / 18446744073709551616 : Nat) == (0 : Int))
 have hres : (.tup [.int .u64 (if ((a * b / 18446744073709551616 : Nat) == (0 : Int)) then a * b % 18446744073709551616 else 0 : Nat), .bool ((a * b / 18446744073709551616 : Nat) == (0 : Int))] : MV) = .tup [.int .u64 (mulS a b).1, .bool (mulS a b).2] := by
  unfold mulS
  generalize a * b = n
  by_cases h : n < 18446744073709551616
  ·have e1 : n / 18446744073709551616 = 0 := by omega
   have e2 : n % 18446744073709551616 = n := by omega
   simp [h, e1, e2]
  ·have e1 : ((n / 18446744073709551616 : Nat) == (0 : Int)) = false := by rw [beq_eq_false_iff_ne]; omega
   rw [e1]
   simp [h]
 rw [hres] at c1
 generalize mulS a b = p at *
 generalize a * b = n at *
 obtain ⟨v, ok⟩ := p
 refine scq seat Tryz.func197 20 ?_
 refine go1 ?_
 refine g_call2 rfl (fun _ h => h) rfl (semR_of_semC (c0)) rfl lm ?_
 refine go1 ?_
 refine g_call2 rfl (fun _ h => h) rfl (semR_of_semC (c1)) rfl lm ?_
 refine go1 ?_
 refine go0 ?_
 rfl
theorem psum_u (l : List Nat) (hl : l.length ≤ 1000000) (hs : ∀ a ∈ l, U64 a) : SemC Tryz.prog G 123 [.sl l.length (u64s l)] (.tup [.int .u64 (sumG l 0).1, .bool (sumG l 0).2]) := by
 have h0 : U64 0 := by unfold U64; omega
 generalize hv : sumG l 0 = v
 obtain ⟨S, ok⟩ := v
 dsimp only
 refine scq seat Tryz.func123 26 ?_
 refine go1 ?_
 refine c_loop (Nat × Nat) (fun x => [(11, .int .i64 x.1), (10, .int .i64 l.length), (9, .sl l.length (u64s l)), (4, .int .u64 x.2)]) (fun _ => []) 0 (fun x => x.1 ≤ l.length ∧ U64 x.2 ∧ sumG (l.drop x.1) x.2 = (S, ok)) (fun x => l.length - x.1) (0, 0) ⟨Nat.zero_le _, h0, by rw [List.drop_zero]; exact hv⟩ (vm [] []) ?_
 clear hv
 rintro ⟨k, z⟩ ⟨hk, hz, hR⟩
 try dsimp only
 dsimp only at hk hz hR
 refine go1 ?_
 ((with_reducible apply c_cond); (case he => exact rfl); (all_goals intro h))
 ·have hk' : k < l.length := by have := of_decide_eq_true h; omega
  have hel := SomF.mk (u64s_at hk')
  have c1 := padd_m (G := G) z l[k] hz (hs _ (List.getElem_mem hk'))
  have hza : U64 (addS z l[k]).1 := by
   unfold addS
   split
   ·assumption
   ·exact h0
  rw [List.drop_eq_getElem_cons hk', sumG] at hR
  generalize l[k] = e at *
  generalize addS z e = p at *
  obtain ⟨y, b⟩ := p
  dsimp only at c1 hR hza
  cases b with
  | true =>
   simp only [if_true] at hR
   refine go1 ?_
   (iterate 4 ((all_goals (refine go1 ?_)); (all_goals (first | (refine g_call3 rfl (fun _ h => h) rfl (semR_of_semC (c1)) rfl rfl ?_) | ((first | ((with_reducible apply n_grd); (case hf => exact ⟨rfl, rfl, rfl⟩)) | ((with_reducible apply c_cond); (case he => exact rfl))); (all_goals intro h); (all_goals (try simp only [bx] at h)); (all_goals (try (exfalso; omega)))) | skip))))
   exact ⟨(k + 1, y), ⟨by show k + 1 ≤ l.length; omega, hza, hR⟩, by show l.length - (k + 1) < l.length - k; omega, (by dsimp only; exact (vm [] []))⟩
  | false =>
   simp only [Bool.false_eq_true, if_false, Prod.mk.injEq] at hR
   obtain ⟨rfl, rfl⟩ := hR
   refine go1 ?_
   (iterate 4 ((all_goals (refine go1 ?_)); (all_goals (first | (refine g_call3 rfl (fun _ h => h) rfl (semR_of_semC (c1)) rfl rfl ?_) | ((first | ((with_reducible apply n_grd); (case hf => exact ⟨rfl, rfl, rfl⟩)) | ((with_reducible apply c_cond); (case he => exact rfl))); (all_goals intro h); (all_goals (try simp only [bx] at h)); (all_goals (try (exfalso; omega)))) | skip))))
   all_goals (refine go0 ?_)
   all_goals rfl
 ·have hk' : k = l.length := by have := of_decide_eq_false h; omega
  subst hk'
  rw [List.drop_length, sumG] at hR
  simp only [Prod.mk.injEq] at hR
  obtain ⟨rfl, rfl⟩ := hR
  refine go1 ?_
  all_goals (refine go0 ?_)
  all_goals rfl
theorem plim_m (n : Int) (hn : -9223372036854775808 ≤ n ∧ n < 9223372036854775808) : SemC Tryz.prog G 196 [.int .i64 n] (.int .u64 (limS n)) := by
 have hw : IntKind.u64.wrap (if 1073741824 < (if 0 > n then 0 else n) then 1073741824 else (if 0 > n then 0 else n)) = (limS n : Int) := by
  rw [wu64]; unfold limS; split <;> split <;> omega
 have e1 := EqF.mk hw
 refine scq seat Tryz.func196 7 ?_
 refine go1 ?_
 refine go0 ?_
 first | rfl | exact congrArg (MV.int .u64) hw | skip
 try (refine congrArg (MV.int .u64) ?_; rw [wu64]; unfold limS; omega)
end
section
variable {G : GS}
attribute [local irreducible] vOpsN vOpsG vOpsD vOpGD NextD vC SeqQ BlockQ
theorem lz_s (x : Nat) (hx : U64 x) : SemC Tryz.prog G 249 [.int .u64 x] (.int .i64 (64 - (Lib.bitLen x : Int))) := by
 intro w P vals hg hP hargs
 cases hargs with
 | cons h t =>
  cases t with
  | nil =>
   obtain rfl := h.int_
   refine (Tryz.bits_LeadingZeros64 (x : Int) w (by omega) (by unfold U64 at hx; omega)).mono ?_
   rintro e w' ⟨rfl, rfl⟩
   exact ⟨_, rfl, .val [_] .int, Below.refl _ _⟩
theorem shlN {m s : Nat} (hs : s < 64) : IntKind.u64.wrap ((m : Int) * 2 ^ (min (s : Int).toNat IntKind.u64.bits)) = ((m * 2 ^ s % 18446744073709551616 : Nat) : Int) := by
 have e : min (s : Int).toNat IntKind.u64.bits = s := by rw [Int.toNat_natCast]; exact Nat.min_eq_left (Nat.le_of_lt hs)
 rw [e, wu64, show ((m : Int) * 2 ^ s) = ((m * 2 ^ s : Nat) : Int) by rw [Int.natCast_mul, Int.natCast_pow]; rfl]
 omega
theorem shrR (m : Nat) {s : Nat} (hs : s ≤ 64) : ((m : Int).fdiv (2 ^ (min ((64 : Int) - (s : Int)).toNat IntKind.u64.bits))) = ((m / 2 ^ (64 - s) : Nat) : Int) := by
 have e : min ((64 : Int) - (s : Int)).toNat IntKind.u64.bits = 64 - s := by
  rw [show ((64 : Int) - (s : Int)).toNat = 64 - s by omega]
  exact Nat.min_eq_left (show 64 - s ≤ 64 by omega)
 rw [e, Int.fdiv_eq_ediv_of_nonneg _ (by exact Int.le_of_lt (Int.pow_pos (by decide))), Int.natCast_ediv, Int.natCast_pow]
 rfl
theorem or_sh {a b s : Nat} (hs : s < 64) (hb : b < 2 ^ s) (h : a * 2 ^ s + b < 18446744073709551616) : IntKind.u64.wrap ((BitVec.ofInt IntKind.u64.bits ((a * 2 ^ s : Nat) : Int) ||| BitVec.ofInt IntKind.u64.bits (b : Int)).toNat : Int) = ((a * 2 ^ s + b : Nat) : Int) := by
 have e : a * 2 ^ s ||| b = a * 2 ^ s + b := by
  have := Nat.shiftLeft_add_eq_or_of_lt hb a
  rw [Nat.shiftLeft_eq] at this
  exact this.symm
 rw [BitVec.toNat_or, bv_of _ _ (show a * 2 ^ s < 2 ^ IntKind.u64.bits by show _ < 18446744073709551616; omega), bv_of _ _ (show b < 2 ^ IntKind.u64.bits by show _ < 18446744073709551616; omega), e, wu64]
 omega
theorem mod_tdiv {a b : Nat} (ha : a < 18446744073709551616) : IntKind.u64.wrap (((a : Nat) : Int) - ((a / b * b : Nat) : Int)) = ((a % b : Nat) : Int) := by
 have h := Nat.div_add_mod a b
 rw [Nat.mul_comm] at h
 rw [wu64]
 with_reducible generalize a / b * b = c at *
 with_reducible generalize a % b = d at *
 omega
theorem mul_tdiv {a b : Nat} (ha : a < 18446744073709551616) : IntKind.u64.wrap (((a / b : Nat) : Int) * (b : Int)) = ((a / b * b : Nat) : Int) := by
 have h := Nat.div_mul_le_self a b
 rw [← Int.natCast_mul, wu64]
 with_reducible generalize a / b * b = c at *
 omega
theorem mulMod (a b : Nat) : IntKind.u64.wrap ((a : Int) * (b : Int)) = ((a * b % 18446744073709551616 : Nat) : Int) := by
 rw [wu64, ← Int.natCast_mul]; omega
theorem left_eq {A c d : Nat} (h : c + d = A) (hd : d < 18446744073709551616) : IntKind.u64.wrap (((A % 18446744073709551616 : Nat) : Int) - ((c % 18446744073709551616 : Nat) : Int)) = (d : Int) := by
 rw [wu64]
 omega
theorem shl_32 (U : Nat) : IntKind.u64.wrap ((U : Int) * 4294967296) = ((U * 4294967296 % 18446744073709551616 : Nat) : Int) := by rw [wu64]; omega
theorem add_32 (U u : Nat) : IntKind.u64.wrap (((U * 4294967296 % 18446744073709551616 : Nat) : Int) + (u : Int)) = (((U * 4294967296 + u) % 18446744073709551616 : Nat) : Int) := by rw [wu64]; omega
theorem div64_m (hi lo y : Nat) (hlo : U64 lo) (hy : U64 y) (hlt : hi < y) : SemC Tryz.prog G 199 [.int .u64 hi, .int .u64 lo, .int .u64 y] (.tup [.int .u64 ((hi * 18446744073709551616 + lo) / y : Nat), .int .u64 ((hi * 18446744073709551616 + lo) % y : Nat)]) := by
 have hy0 : 0 < y := by omega
 unfold U64 at hlo hy
 by_cases h0 : hi = 0
 ·subst h0
  rw [Nat.zero_mul, Nat.zero_add]
  have f1 := SideF.mk (show (y : Int) ≠ 0 by omega)
  have f2 := EqF.mk (tdivn (a := lo) y hlo)
  have f3 := EqF.mk (tmodn lo y)
  refine scq seat Tryz.func199 135 ?_
  refine go1 ?_
  ((with_reducible apply c_cond); (case he => exact rfl); (all_goals intro h))
  ·exact absurd (eq_of_beq h) (by omega)
  refine go1 ?_
  ((with_reducible apply c_cond); (case he => exact rfl); (all_goals intro h))
  ·exact absurd (of_decide_eq_true h) (by omega)
  refine go1 ?_
  refine c_draw [(0, false), (1, false), (2, false), (3, false), (4, false), (5, false), (6, false), (7, false)] ?_
  refine go1 ?_
  refine go0 ?_
  rfl
 have c1 := lz_s (G := G) y hy
 have hbl := Lib.bitLenAux_bounds 64 y hy (by omega)
 have hL : Lib.bitLen y ≤ 64 := Lib.bitLen_le y 64 (Nat.le_refl _) hy
 obtain ⟨s, hs⟩ : ∃ s, s = 64 - Lib.bitLen y := ⟨_, rfl⟩
 have hs64 : s < 64 := by have := hbl.1; unfold Lib.bitLen at hs; omega
 rw [show (64 - (Lib.bitLen y : Int)) = (s : Int) by omega] at c1
 have hpp : 2 ^ s * 2 ^ (64 - s) = 18446744073709551616 := by rw [← Nat.pow_add, show s + (64 - s) = 64 by omega]
 have hp0 : 0 < 2 ^ s := Nat.two_pow_pos s
 have hYlt : y * 2 ^ s < 18446744073709551616 := by
  have h1 : y * 2 ^ s < 2 ^ Lib.bitLen y * 2 ^ s := Nat.mul_lt_mul_of_pos_right hbl.2.2 hp0
  rw [← Nat.pow_add, show Lib.bitLen y + s = 64 by omega] at h1
  exact h1
 have hYge : 9223372036854775808 ≤ y * 2 ^ s := by
  have h1 : 2 ^ (Lib.bitLen y - 1) * 2 ^ s ≤ y * 2 ^ s := Nat.mul_le_mul_right _ hbl.2.1
  rw [← Nat.pow_add, show Lib.bitLen y - 1 + s = 63 by have := hbl.1; unfold Lib.bitLen at hs ⊢; unfold Lib.bitLen at hL; omega] at h1
  exact h1
 have hlq : lo / 2 ^ (64 - s) < 2 ^ s := by rw [Nat.div_lt_iff_lt_mul (Nat.two_pow_pos _), hpp]; exact hlo
 have hUY : hi * 2 ^ s + lo / 2 ^ (64 - s) < y * 2 ^ s := by
  have h1 : (hi + 1) * 2 ^ s ≤ y * 2 ^ s := Nat.mul_le_mul_right _ hlt
  rw [Nat.succ_mul] at h1
  omega
 have hN : (hi * 18446744073709551616 + lo) * 2 ^ s = (hi * 2 ^ s + lo / 2 ^ (64 - s)) * 18446744073709551616 + lo * 2 ^ s % 18446744073709551616 := by
  have h1 : lo * 2 ^ s / 18446744073709551616 = lo / 2 ^ (64 - s) := by
   rw [← hpp, Nat.mul_comm lo, Nat.mul_div_mul_left _ _ hp0]
  have h2 := Nat.div_add_mod (lo * 2 ^ s) 18446744073709551616
  rw [h1] at h2
  rw [Nat.add_mul, Nat.mul_right_comm hi]
  omega
 have hdq := div_shift (hi * 18446744073709551616 + lo) y s
 have hdr := mod_shift (hi * 18446744073709551616 + lo) y s
 rw [hN] at hdq hdr
 have hQb : (hi * 18446744073709551616 + lo) / y < 18446744073709551616 := by rw [Nat.div_lt_iff_lt_mul hy0, Nat.mul_comm]; have := Nat.mul_le_mul_right 18446744073709551616 (show hi + 1 ≤ y from hlt); omega
 obtain ⟨QQ, hQg⟩ : ∃ x, x = (hi * 18446744073709551616 + lo) / y := ⟨_, rfl⟩
 obtain ⟨RR, hRg⟩ : ∃ x, x = (hi * 18446744073709551616 + lo) % y := ⟨_, rfl⟩
 rw [← hQg] at hdq hQb ⊢
 rw [← hRg] at hdr ⊢
 have e1 := EqF.mk (shlN (m := y) hs64)
 rw [Nat.mod_eq_of_lt hYlt] at e1
 have e2 := EqF.mk (shlN (m := hi) hs64)
 have hhi : hi * 2 ^ s < 18446744073709551616 := Nat.lt_of_le_of_lt (Nat.le_add_right _ _) (Nat.lt_trans hUY hYlt)
 rw [Nat.mod_eq_of_lt hhi] at e2
 have e3 := EqF.mk (shrR lo (Nat.le_of_lt hs64))
 have e4 := EqF.mk (or_sh (a := hi) hs64 hlq (by omega))
 have e5 := EqF.mk (shlN (m := lo) hs64)
 have eshr : ∀ m : Nat, ((m : Int).fdiv (2 ^ (min (s : Int).toNat IntKind.u64.bits))) = ((m / 2 ^ s : Nat) : Int) := fun m => shri m hs64
 clear hN hlq hpp hbl hL
 obtain ⟨HS, hHS⟩ : ∃ x, x = hi * 2 ^ s := ⟨_, rfl⟩
 rw [← hHS] at hUY hdq hdr e2 hhi e4
 obtain ⟨LQ, hLQ⟩ : ∃ x, x = lo / 2 ^ (64 - s) := ⟨_, rfl⟩
 rw [← hLQ] at hUY hdq hdr e3 e4
 have hUb : lo * 2 ^ s % 18446744073709551616 < 18446744073709551616 := Nat.mod_lt _ (by decide)
 obtain ⟨U10, hU10g⟩ : ∃ x, x = lo * 2 ^ s % 18446744073709551616 := ⟨_, rfl⟩
 rw [← hU10g] at hdq hdr e5 hUb
 obtain ⟨Y, hYg⟩ : ∃ x, x = y * 2 ^ s := ⟨_, rfl⟩
 rw [← hYg] at hYlt hYge hUY hdq hdr e1
 have e7 := EqF.mk (shrD32 Y)
 have e8 := EqF.mk (and_low (m := Y) hYlt)
 obtain ⟨Y1, hY1⟩ : ∃ x, x = Y / 4294967296 := ⟨_, rfl⟩
 obtain ⟨Y0, hY0⟩ : ∃ x, x = Y % 4294967296 := ⟨_, rfl⟩
 obtain ⟨U, hU⟩ : ∃ x, x = HS + LQ := ⟨_, rfl⟩
 rw [← hY1] at e7
 rw [← hY0] at e8
 rw [← hU] at e4 hUY hdq hdr
 have hYe : Y1 * 4294967296 + Y0 = Y := by omega
 have hY1b : Y1 < 4294967296 ∧ 2147483648 ≤ Y1 := by omega
 have hY0b : Y0 < 4294967296 := by omega
 have hU10 : U10 < 18446744073709551616 := hUb
 have e9 := EqF.mk (shrD32 U10)
 have e10 := EqF.mk (and_low (m := U10) hU10)
 obtain ⟨U1, hU1⟩ : ∃ x, x = U10 / 4294967296 := ⟨_, rfl⟩
 obtain ⟨U0, hU0⟩ : ∃ x, x = U10 % 4294967296 := ⟨_, rfl⟩
 rw [← hU1] at e9
 rw [← hU0] at e10
 have hU1b : U1 < 4294967296 := by omega
 have hU0b : U0 < 4294967296 := by omega
 have hUlt : U < 18446744073709551616 := by omega
 have k1 := dgt_ok hY1b.1 hY1b.2 hY0b (u := U) (by omega) hU1b
 have k2 := dgt_ok hY1b.1 hY1b.2 hY0b (u := (U * 4294967296 + U1) % Y) (by rw [hYe]; exact Nat.mod_lt _ (by omega)) hU0b
 rw [hYe] at k1 k2
 have hdt := div_two 4294967296 Y U U1 U0 (by omega)
 have hdm := div_two_rem 4294967296 Y U U1 U0
 have hUU : U * (4294967296 * 4294967296) + (U1 * 4294967296 + U0) = U * 18446744073709551616 + U10 := by
  have h1 := Nat.div_add_mod U10 4294967296
  rw [← hU1, ← hU0, Nat.mul_comm] at h1
  rw [h1]
 rw [hUU] at hdt hdm
 rw [hdq] at hdt
 rw [← hdm] at hdr
 have hA1 := Nat.div_add_mod (U * 4294967296 + U1) Y
 have hR1 := Nat.mod_lt (U * 4294967296 + U1) (show 0 < Y by omega)
 obtain ⟨D, hD0⟩ : ∃ x, x = (U * 4294967296 + U1) / Y := ⟨_, rfl⟩
 obtain ⟨R1, hR10⟩ : ∃ x, x = (U * 4294967296 + U1) % Y := ⟨_, rfl⟩
 rw [← hD0] at k1 hdt hA1
 rw [← hR10] at k2 hdt hdr hA1 hR1
 have hA2 := Nat.div_add_mod (R1 * 4294967296 + U0) Y
 have hR2 := Nat.mod_lt (R1 * 4294967296 + U0) (show 0 < Y by omega)
 obtain ⟨E, hE0⟩ : ∃ x, x = (R1 * 4294967296 + U0) / Y := ⟨_, rfl⟩
 obtain ⟨R0, hR00⟩ : ∃ x, x = (R1 * 4294967296 + U0) % Y := ⟨_, rfl⟩
 rw [← hE0] at k2 hdt hA2
 rw [← hR00] at hdr hA2 hR2
 rw [Nat.mul_comm] at hA1 hA2
 have hqD : U / Y1 < 17179869184 := by rw [Nat.div_lt_iff_lt_mul (by omega)]; omega
 have hqE : R1 / Y1 < 17179869184 := by rw [Nat.div_lt_iff_lt_mul (by omega)]; omega
 have hD := k1
 have hE := k2
 have hQQ : QQ < 18446744073709551616 := hQb
 have hDb : D < 4294967296 := by omega
 have g1 := SideF.mk (show (Y1 : Int) ≠ 0 by omega)
 have g2 := EqF.mk (tdivn (a := U) Y1 hUlt)
 have g3 := EqF.mk (mul_tdiv (a := U) (b := Y1) hUlt)
 have g4 := EqF.mk (mod_tdiv (a := U) (b := Y1) hUlt)
 have g5 := EqF.mk (shl_32 U)
 have g6 := EqF.mk (add_32 U U1)
 have g7 := EqF.mk (mulMod D Y)
 have g8 := EqF.mk (left_eq hA1 (by omega))
 have g9 := EqF.mk (tdivn (a := R1) Y1 (by omega))
 have g10 := EqF.mk (mul_tdiv (a := R1) (b := Y1) (by omega))
 have g11 := EqF.mk (mod_tdiv (a := R1) (b := Y1) (by omega))
 have g12 := EqF.mk (shl_32 R1)
 have g13 := EqF.mk (add_32 R1 U0)
 have g14 := EqF.mk (mulMod E Y)
 have g15 := EqF.mk (left_eq hA2 (by omega))
 have g16 := EqF.mk (eshr R0)
 have g17 := EqF.mk (show IntKind.u64.wrap ((D : Int) * 4294967296) = ((D * 4294967296 : Nat) : Int) by rw [wu64]; omega)
 have g18 := EqF.mk (show IntKind.u64.wrap (((D * 4294967296 : Nat) : Int) + (E : Int)) = (QQ : Int) by rw [wu64]; omega)
 have gs := EqF.mk (show IntKind.u64.wrap (s : Int) = (s : Int) by rw [wu64]; omega)
 clear eshr k1 k2
 refine scq seat Tryz.func199 135 ?_
 refine go1 ?_
 ((with_reducible apply c_cond); (case he => exact rfl); (all_goals intro h))
 ·exact absurd (eq_of_beq h) (by omega)
 refine go1 ?_
 ((with_reducible apply c_cond); (case he => exact rfl); (all_goals intro h))
 ·exact absurd (of_decide_eq_true h) (by omega)
 refine go1 ?_
 ((with_reducible apply c_cond); (case he => exact rfl); (all_goals intro h))
 ·exact absurd (eq_of_beq h) (by omega)
 refine go1 ?_
 refine g_call2 rfl (fun _ h => h) rfl (semR_of_semC (c1)) rfl lm ?_
 refine go1 ?_
 refine q_joinB Unit (fun _ => [(15, .int .u64 (D : Nat)), (11, .int .u64 (U : Nat)), (2, .int .u64 (Y : Nat)), (9, .int .u64 (Y1 : Nat)), (10, .int .u64 (Y0 : Nat)), (13, .int .u64 (U1 : Nat)), (14, .int .u64 (U0 : Nat)), (8, .int .u64 (s : Nat))]) (fun _ => []) (fun _ => 0) (fun _ => True) (fun JQ hj => ?_) (fun _ _ => ?_)
 ·refine c_loop (Nat × Nat × Nat) (fun x => [(15, .int .u64 (x.2.1 : Nat)), (16, .int .u64 (x.2.2 : Nat)), (11, .int .u64 (U : Nat)), (2, .int .u64 (Y : Nat)), (9, .int .u64 (Y1 : Nat)), (10, .int .u64 (Y0 : Nat)), (13, .int .u64 (U1 : Nat)), (14, .int .u64 (U0 : Nat)), (8, .int .u64 (s : Nat))]) (fun _ => []) 0 (fun x => x.2.1 * Y1 + x.2.2 = U ∧ x.2.2 < 4294967296 ∧ 4294967296 ≤ x.2.2 + x.1 * Y1 ∧ dgt Y1 Y0 U1 x.1 x.2.1 x.2.2 = D ∧ x.2.1 < 17179869184) (fun x => x.1) (2, U / Y1, U % Y1) ⟨by dsimp only; rw [Nat.mul_comm]; exact Nat.div_add_mod _ _, by dsimp only; exact Nat.lt_trans (Nat.mod_lt _ (by omega)) (by omega), by dsimp only; omega, hD, hqD⟩ (by dsimp only; exact (vm [] [])) ?_
  rintro ⟨f, q, r⟩ ⟨i1, i2, i3, i4, i5⟩
  try dsimp only
  dsimp only at i1 i2 i3 i4 i5
  obtain ⟨f', rfl⟩ : ∃ f', f = f' + 1 := by
   cases f with
   | zero => rw [Nat.zero_mul] at i3; omega
   | succ f => exact ⟨f, rfl⟩
  rw [dgt] at i4
  rw [Nat.succ_mul] at i3
  refine go1 ?_
  ((with_reducible apply n_grd); (case hf => exact ⟨rfl, rfl, rfl⟩); (all_goals intro h))
  ·have hq : ¬ 4294967296 ≤ q := by have := of_decide_eq_false h; omega
   have hb1 : q * Y0 ≤ 4294967295 * 4294967295 := Nat.mul_le_mul (by omega) (by omega)
   have m1 := EqF.mk (show IntKind.u64.wrap ((q : Int) * (Y0 : Int)) = ((q * Y0 : Nat) : Int) by rw [← Int.natCast_mul]; exact wrapu_in _ (by omega) (by omega))
   refine go1 ?_
   ((with_reducible apply c_cond); (case he => exact rfl); (all_goals intro h))
   ·have hc := of_decide_eq_true h
    rw [if_pos (.inr (by omega))] at i4
    have hq1 : 1 ≤ q := by
     cases q with
     | zero => rw [Nat.zero_mul] at hc; omega
     | succ q => omega
    refine go1 ?_
    ((with_reducible apply c_cond); (case he => exact rfl); (all_goals intro h))
    ·have hb := of_decide_eq_true h
     rw [if_pos (by omega)] at i4
     rw [← i4]
     refine go1 ?_
     refine hj.nrm () trivial ?_
     rw [show ((q : Int) - 1) = ((q - 1 : Nat) : Int) by omega]
     exact (vm [] [])
    ·have hb := of_decide_eq_false h
     rw [if_neg (by omega)] at i4
     refine go1 ?_
     refine ⟨(f', q - 1, r + Y1), ⟨?_, by dsimp only; omega, by dsimp only; omega, i4, by dsimp only; omega⟩, by show f' < f' + 1; omega, ?_⟩
     ·dsimp only
      rw [Nat.sub_mul, Nat.one_mul]
      have : Y1 ≤ q * Y1 := Nat.le_mul_of_pos_left _ hq1
      omega
     ·dsimp only
      rw [show ((q - 1 : Nat) : Int) = (q : Int) - 1 by omega, show ((r + Y1 : Nat) : Int) = (r : Int) + Y1 by omega]
      exact (vm [] [])
   ·have hc := of_decide_eq_false h
    rw [if_neg (fun h => h.elim (fun h => hq h) (fun h => by omega))] at i4
    rw [← i4]
    refine go1 ?_
    refine hj.nrm () trivial ?_
    exact (vm [] [])
  ·have hq : 4294967296 ≤ q := by have := of_decide_eq_true (by simpa using h : decide _ = true); omega
   rw [if_pos (.inl hq)] at i4
   refine go1 ?_
   ((with_reducible apply c_cond); (case he => exact rfl); (all_goals intro h))
   ·have hb := of_decide_eq_true h
    rw [if_pos (by omega)] at i4
    rw [← i4]
    refine go1 ?_
    refine hj.nrm () trivial ?_
    rw [show ((q : Int) - 1) = ((q - 1 : Nat) : Int) by omega]
    exact (vm [] [])
   ·have hb := of_decide_eq_false h
    rw [if_neg (by omega)] at i4
    refine go1 ?_
    refine ⟨(f', q - 1, r + Y1), ⟨?_, by dsimp only; omega, by dsimp only; omega, i4, by dsimp only; omega⟩, by show f' < f' + 1; omega, ?_⟩
    ·dsimp only
     rw [Nat.sub_mul, Nat.one_mul]
     have : Y1 ≤ q * Y1 := Nat.le_mul_of_pos_left _ (by omega)
     omega
    ·dsimp only
     rw [show ((q - 1 : Nat) : Int) = (q : Int) - 1 by omega, show ((r + Y1 : Nat) : Int) = (r : Int) + Y1 by omega]
     exact (vm [] [])
 refine go1 ?_
 refine q_joinB Unit (fun _ => [(18, .int .u64 (E : Nat)), (15, .int .u64 (D : Nat)), (17, .int .u64 (R1 : Nat)), (2, .int .u64 (Y : Nat)), (9, .int .u64 (Y1 : Nat)), (10, .int .u64 (Y0 : Nat)), (14, .int .u64 (U0 : Nat)), (8, .int .u64 (s : Nat))]) (fun _ => []) (fun _ => 0) (fun _ => True) (fun JQ hj => ?_) (fun _ _ => ?_)
 ·refine c_loop (Nat × Nat × Nat) (fun x => [(18, .int .u64 (x.2.1 : Nat)), (16, .int .u64 (x.2.2 : Nat)), (15, .int .u64 (D : Nat)), (17, .int .u64 (R1 : Nat)), (2, .int .u64 (Y : Nat)), (9, .int .u64 (Y1 : Nat)), (10, .int .u64 (Y0 : Nat)), (14, .int .u64 (U0 : Nat)), (8, .int .u64 (s : Nat))]) (fun _ => []) 0 (fun x => x.2.1 * Y1 + x.2.2 = R1 ∧ x.2.2 < 4294967296 ∧ 4294967296 ≤ x.2.2 + x.1 * Y1 ∧ dgt Y1 Y0 U0 x.1 x.2.1 x.2.2 = E ∧ x.2.1 < 17179869184) (fun x => x.1) (2, R1 / Y1, R1 % Y1) ⟨by dsimp only; rw [Nat.mul_comm]; exact Nat.div_add_mod _ _, by dsimp only; exact Nat.lt_trans (Nat.mod_lt _ (by omega)) (by omega), by dsimp only; omega, hE, hqE⟩ (by dsimp only; exact (vm [] [])) ?_
  rintro ⟨f, q, r⟩ ⟨i1, i2, i3, i4, i5⟩
  try dsimp only
  dsimp only at i1 i2 i3 i4 i5
  obtain ⟨f', rfl⟩ : ∃ f', f = f' + 1 := by
   cases f with
   | zero => rw [Nat.zero_mul] at i3; omega
   | succ f => exact ⟨f, rfl⟩
  rw [dgt] at i4
  rw [Nat.succ_mul] at i3
  refine go1 ?_
  ((with_reducible apply n_grd); (case hf => exact ⟨rfl, rfl, rfl⟩); (all_goals intro h))
  ·have hq : ¬ 4294967296 ≤ q := by have := of_decide_eq_false h; omega
   have hb1 : q * Y0 ≤ 4294967295 * 4294967295 := Nat.mul_le_mul (by omega) (by omega)
   have m1 := EqF.mk (show IntKind.u64.wrap ((q : Int) * (Y0 : Int)) = ((q * Y0 : Nat) : Int) by rw [← Int.natCast_mul]; exact wrapu_in _ (by omega) (by omega))
   refine go1 ?_
   ((with_reducible apply c_cond); (case he => exact rfl); (all_goals intro h))
   ·have hc := of_decide_eq_true h
    rw [if_pos (.inr (by omega))] at i4
    have hq1 : 1 ≤ q := by
     cases q with
     | zero => rw [Nat.zero_mul] at hc; omega
     | succ q => omega
    refine go1 ?_
    ((with_reducible apply c_cond); (case he => exact rfl); (all_goals intro h))
    ·have hb := of_decide_eq_true h
     rw [if_pos (by omega)] at i4
     rw [← i4]
     refine go1 ?_
     refine hj.nrm () trivial ?_
     rw [show ((q : Int) - 1) = ((q - 1 : Nat) : Int) by omega]
     exact (vm [] [])
    ·have hb := of_decide_eq_false h
     rw [if_neg (by omega)] at i4
     refine go1 ?_
     refine ⟨(f', q - 1, r + Y1), ⟨?_, by dsimp only; omega, by dsimp only; omega, i4, by dsimp only; omega⟩, by show f' < f' + 1; omega, ?_⟩
     ·dsimp only
      rw [Nat.sub_mul, Nat.one_mul]
      have : Y1 ≤ q * Y1 := Nat.le_mul_of_pos_left _ hq1
      omega
     ·dsimp only
      rw [show ((q - 1 : Nat) : Int) = (q : Int) - 1 by omega, show ((r + Y1 : Nat) : Int) = (r : Int) + Y1 by omega]
      exact (vm [] [])
   ·have hc := of_decide_eq_false h
    rw [if_neg (fun h => h.elim (fun h => hq h) (fun h => by omega))] at i4
    rw [← i4]
    refine go1 ?_
    refine hj.nrm () trivial ?_
    exact (vm [] [])
  ·have hq : 4294967296 ≤ q := by have := of_decide_eq_true (by simpa using h : decide _ = true); omega
   rw [if_pos (.inl hq)] at i4
   refine go1 ?_
   ((with_reducible apply c_cond); (case he => exact rfl); (all_goals intro h))
   ·have hb := of_decide_eq_true h
    rw [if_pos (by omega)] at i4
    rw [← i4]
    refine go1 ?_
    refine hj.nrm () trivial ?_
    rw [show ((q : Int) - 1) = ((q - 1 : Nat) : Int) by omega]
    exact (vm [] [])
   ·have hb := of_decide_eq_false h
    rw [if_neg (by omega)] at i4
    refine go1 ?_
    refine ⟨(f', q - 1, r + Y1), ⟨?_, by dsimp only; omega, by dsimp only; omega, i4, by dsimp only; omega⟩, by show f' < f' + 1; omega, ?_⟩
    ·dsimp only
     rw [Nat.sub_mul, Nat.one_mul]
     have : Y1 ≤ q * Y1 := Nat.le_mul_of_pos_left _ (by omega)
     omega
    ·dsimp only
     rw [show ((q - 1 : Nat) : Int) = (q : Int) - 1 by omega, show ((r + Y1 : Nat) : Int) = (r : Int) + Y1 by omega]
     exact (vm [] [])
 refine go1 ?_
 refine go0 ?_
 rw [hdr]
 exact rfl
end
section
variable {G : GS}
attribute [local irreducible] vOpsN vOpsG vOpsD vOpGD NextD vC SeqQ BlockQ
theorem mulDivS_comm (a b c : Nat) : mulDivS a b c = mulDivS b a c := by unfold mulDivS; rw [Nat.mul_comm]
theorem pmulDiv_m (a b c : Nat) (ha : U64 a) (hb : U64 b) (hc : U64 c) : SemC Tryz.prog G 138 [.int .u64 a, .int .u64 b, .int .u64 c] (.tup [.int .u64 (mulDivS a b c).1, .bool (mulDivS a b c).2]) := by
 have c1 := mul64_m (G := G) a b ha hb
 have hN := Nat.div_add_mod (a * b) 18446744073709551616
 have hlow : a * b % 18446744073709551616 < 18446744073709551616 := Nat.mod_lt _ (by decide)
 unfold mulDivS
 obtain ⟨hi, hhi⟩ : ∃ x, x = a * b / 18446744073709551616 := ⟨_, rfl⟩
 obtain ⟨lo, hlo⟩ : ∃ x, x = a * b % 18446744073709551616 := ⟨_, rfl⟩
 rw [← hhi, ← hlo] at c1
 rw [← hhi, ← hlo, Nat.mul_comm] at hN
 rw [← hlo] at hlow
 rw [← hhi, ← hN]
 clear hhi hlo hN
 by_cases h0 : c = 0 ∨ c ≤ hi
 ·rw [if_pos h0]
  have hle : c ≤ hi := by omega
  refine scq seat Tryz.func138 29 ?_
  refine go1 ?_
  refine g_call2 rfl (fun _ h => h) rfl (semR_of_semC (c1)) rfl lm ?_
  refine go1 ?_
  ((with_reducible apply c_cond); (case he => exact rfl); (all_goals intro h))
  ·refine go1 ?_
   refine go0 ?_
   rfl
  ·exact absurd (of_decide_eq_false h) (by omega)
 ·rw [if_neg h0]
  have hlt : hi < c := by omega
  have c2 := div64_m (G := G) hi lo c hlow hc hlt
  obtain ⟨Q, hQ⟩ : ∃ x, x = (hi * 18446744073709551616 + lo) / c := ⟨_, rfl⟩
  rw [← hQ] at c2 ⊢
  obtain ⟨R, hR⟩ : ∃ x, x = (hi * 18446744073709551616 + lo) % c := ⟨_, rfl⟩
  rw [← hR] at c2
  clear hQ hR
  refine scq seat Tryz.func138 29 ?_
  refine go1 ?_
  refine g_call2 rfl (fun _ h => h) rfl (semR_of_semC (c1)) rfl lm ?_
  refine go1 ?_
  ((with_reducible apply c_cond); (case he => exact rfl); (all_goals intro h))
  ·exact absurd (of_decide_eq_true h) (by omega)
  ·refine go1 ?_
   refine g_call2 rfl (fun _ h => h) rfl (semR_of_semC (c2)) rfl lm ?_
   refine go1 ?_
   refine go0 ?_
   rfl
theorem pprio_m (fee gas : Nat) (h1 : U64 fee) (h2 : U64 gas) : SemC Tryz.prog G 88 [.int .u64 fee, .int .u64 gas] (.int .u64 (prioS fee gas)) := by
 have c1 := pmulDiv_m (G := G) 1000 fee gas (by unfold U64; omega) h1 h2
 rw [mulDivS_comm] at c1
 unfold prioS
 generalize mulDivS fee 1000 gas = p at *
 obtain ⟨v, b⟩ := p
 dsimp only at c1 ⊢
 by_cases hg : gas = 0
 ·subst hg
  rw [if_pos rfl]
  refine scq seat Tryz.func88 18 ?_
  refine go1 ?_
  (iterate 6 ((all_goals (refine go1 ?_)); (all_goals (first | (refine g_call3 rfl (fun _ h => h) rfl (semR_of_semC (c1)) rfl rfl ?_) | ((first | ((with_reducible apply n_grd); (case hf => exact ⟨rfl, rfl, rfl⟩)) | ((with_reducible apply c_cond); (case he => exact rfl))); (all_goals intro h); (all_goals (try simp only [bx] at h)); (all_goals (try (exfalso; omega)))) | skip))))
  all_goals (refine go0 ?_)
  all_goals rfl
 ·rw [if_neg hg]
  cases b with
  | true =>
   rw [if_pos rfl]
   refine scq seat Tryz.func88 18 ?_
   refine go1 ?_
   (iterate 6 ((all_goals (refine go1 ?_)); (all_goals (first | (refine g_call3 rfl (fun _ h => h) rfl (semR_of_semC (c1)) rfl rfl ?_) | ((first | ((with_reducible apply n_grd); (case hf => exact ⟨rfl, rfl, rfl⟩)) | ((with_reducible apply c_cond); (case he => exact rfl))); (all_goals intro h); (all_goals (try simp only [bx] at h)); (all_goals (try (exfalso; omega)))) | skip))))
   all_goals (refine go0 ?_)
   all_goals rfl
  | false =>
   rw [if_neg (by simp)]
   refine scq seat Tryz.func88 18 ?_
   refine go1 ?_
   (iterate 6 ((all_goals (refine go1 ?_)); (all_goals (first | (refine g_call3 rfl (fun _ h => h) rfl (semR_of_semC (c1)) rfl rfl ?_) | ((first | ((with_reducible apply n_grd); (case hf => exact ⟨rfl, rfl, rfl⟩)) | ((with_reducible apply c_cond); (case he => exact rfl))); (all_goals intro h); (all_goals (try simp only [bx] at h)); (all_goals (try (exfalso; omega)))) | skip))))
   all_goals (refine go0 ?_)
   all_goals rfl
theorem pneed_m (a b : Nat) (ha : U64 a) (hb : U64 b) : SemC Tryz.prog G 135 [.int .u64 a, .int .u64 b] (.tup [.int .u64 (mulS a b).1, .bool (mulS a b).2]) := by
 have c1 := pmul_m (G := G) a b ha hb
 generalize mulS a b = p at *
 obtain ⟨v, b⟩ := p
 dsimp only at c1 ⊢
 refine scq seat Tryz.func135 11 ?_
 refine go1 ?_
 (iterate 6 ((all_goals (refine go1 ?_)); (all_goals (first | (refine g_call3 rfl (fun _ h => h) rfl (semR_of_semC (c1)) rfl rfl ?_) | ((first | ((with_reducible apply n_grd); (case hf => exact ⟨rfl, rfl, rfl⟩)) | ((with_reducible apply c_cond); (case he => exact rfl))); (all_goals intro h); (all_goals (try simp only [bx] at h)); (all_goals (try (exfalso; omega)))) | skip))))
 all_goals (refine go0 ?_)
 all_goals rfl
theorem pused_m (x y : Int) (hx : -9223372036854775808 ≤ x ∧ x < 9223372036854775808) (hy : -9223372036854775808 ≤ y ∧ y < 9223372036854775808) : SemC Tryz.prog G 134 [.int .i64 x, .int .i64 y] (.int .u64 (usedS x y)) := by
 have c1 := plim_m (G := G) x hx
 have c2 := plim_m (G := G) y hy
 have l1 : limS x ≤ 1073741824 := by unfold limS; omega
 have l2 : limS y ≤ 1073741824 := by unfold limS; omega
 unfold usedS
 generalize limS x = u at *
 generalize limS y = v at *
 refine scq seat Tryz.func134 13 ?_
 refine go1 ?_
 (iterate 4 ((all_goals (refine go1 ?_)); (all_goals (first | (refine g_call3 rfl (fun _ h => h) rfl (semR_of_semC (c1)) rfl rfl ?_) | (refine g_call3 rfl (fun _ h => h) rfl (semR_of_semC (c2)) rfl rfl ?_) | ((first | ((with_reducible apply n_grd); (case hf => exact ⟨rfl, rfl, rfl⟩)) | ((with_reducible apply c_cond); (case he => exact rfl))); (all_goals intro h); (all_goals (try simp only [bx] at h)); (all_goals (try (exfalso; omega)))) | skip))))
 all_goals (refine go0 ?_)
 refine congrArg (MV.int .u64) ?_
 omega
theorem pcost_m (t : TxS) (ht : SmTx t) : SemC Tryz.prog G 136 [txM t] (.tup [.int .u64 (costS t).1, .bool (costS t).2]) := by
 obtain ⟨snd, seq, gas, fee, memo, trs⟩ := t
 obtain ⟨h1, h2, h3, h4, h5, h6, h7⟩ := ht
 dsimp only at h1 h2 h3 h4 h5 h6 h7
 have cs := psum_u (G := G) (fee :: trs.map (·.amt)) (by simp; omega) (by
  intro a ha
  rcases List.mem_cons.1 ha with rfl | ha
  ·exact h4
  ·obtain ⟨x, hx, rfl⟩ := List.mem_map.1 ha
   exact (h7 x hx).2)
 unfold costS
 dsimp only
 generalize sumG (fee :: trs.map (·.amt)) 0 = p at *
 obtain ⟨v, b⟩ := p
 dsimp only at cs ⊢
 unfold txM
 dsimp only
 have hzl : (fee :: trs.map (·.amt)).length = trs.length + 1 := by simp
 refine scq seat Tryz.func136 27 ?_
 refine go1 ?_
 refine c_loop Nat (fun k => [(13, .int .i64 k), (12, .int .i64 trs.length), (11, .sl trs.length (trs.map trM)), (4, .ms 0 1 0 (k + 1))]) (fun k => [(0, ⟨23, 1, true, 0, u64s (fee :: (trs.take k).map (·.amt))⟩)]) 1 (fun k => k ≤ trs.length) (fun k => trs.length - k) 0 (Nat.zero_le _) (by rw [List.take_zero]; exact (vm [(0, _)] [])) ?_
 intro k hk
 try dsimp only
 refine go1 ?_
 ((with_reducible apply c_cond); (case he => exact rfl); (all_goals intro h))
 ·have hk' : k < trs.length := by have := of_decide_eq_true h; omega
  have hel := trs_at hk'
  have hsucc := u64s_push fee trs hk'
  have hll : (u64s (fee :: (trs.take k).map (·.amt))).length = k + 1 := by simp [u64s]; omega
  generalize trs[k] = x at *
  obtain ⟨to_, amt⟩ := x
  dsimp only at hsucc
  replace hel : idxL (trs.map trM) trs.length (k : Int) = some (.st [.str to_, .int .u64 amt]) := hel
  have hel := SomF.mk hel
  refine go1 ?_
  ((with_reducible apply g_mem); (case hq => exact rfl); (case hv => exact rfl); (case he => (intro R hR; refine sms hR ?_; (refine And.intro (Nat.le_refl _) ?_; refine ⟨_, rfl, ?_⟩; refine And.intro ⟨hll, app_ok (by kernel_rfl) pf⟩ ?_; refine ⟨u64s (fee :: (trs.take (k + 1)).map (·.amt)), sv (by rw [hsucc]; rfl), k + 1 + 1, sv pf, ?_⟩); exact hR)); (case hd => exact rfl))
  refine go1 ?_
  exact ⟨k + 1, by show k + 1 ≤ trs.length; omega, by show trs.length - (k + 1) < trs.length - k; omega, (by dsimp only; exact (vm [(0, _)] []))⟩
 ·have hk' : k = trs.length := by have := of_decide_eq_false h; omega
  subst hk'
  rw [List.take_length]
  generalize fee :: trs.map (·.amt) = Z at *
  rw [← hzl]
  refine go1 ?_
  refine g_call1 rfl (fun _ h => h) rfl (semR_of_semC cs) rfl [(0, Z.length)] ⟨(by show Z.length ≤ (u64s Z).length; simp [u64s]), trivial⟩ lm ?_
  refine go1 ?_
  refine go0 ?_
  rfl
end
end Go.Proofs.YtohikcplmbkmeaaGreatDoor
