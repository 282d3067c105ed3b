/- Parts of a proof, one behind the other: G3, G4, G5, G6, GA, GB, GC, GE, GF, S1, N1, PA, PB, Q1, Q5, PC, PD, PE, W2, W1, WA, WB, WC, WD, WR, WJ, WE, CV, Shelf2, WU. -/
import Derived.Test.YtdjcdmnemddjlaaGreatW04
set_option maxRecDepth 20000
set_option maxHeartbeats 16000000
set_option linter.unusedVariables false
set_option linter.unusedSimpArgs false
namespace Go.Proofs.YtdjcdmnemddjlaaGreat
open Go.RowKit
section
variable {G : GS}
attribute [local irreducible] vOpsN vOpsG vOpsD vOpGD NextD vC SeqQ BlockQ
def vlG : Option (List UInt8) → List AcS → Nat
 | _, [] => 0
 | p, a :: r => if nameS a.name = false then 10 else match p with
  | none => vlG (some a.name) r
  | some q => if q = a.name then 8 else if (!(Op.bytesLess q a.name || q == a.name)) = true then 1 else vlG (some a.name) r
theorem vlG_nil (p : Option (List UInt8)) : vlG p [] = 0 := by cases p <;> rfl
theorem vlG_cons (p : Option (List UInt8)) (a : AcS) (r : List AcS) : vlG p (a :: r) = if nameS a.name = false then 10 else match p with
  | none => vlG (some a.name) r
  | some q => if q = a.name then 8 else if (!(Op.bytesLess q a.name || q == a.name)) = true then 1 else vlG (some a.name) r := by cases p <;> rfl
def prevN (l : List AcS) : Nat → Option (List UInt8)
 | 0 => none
 | j + 1 => (l[j]?).map (·.name)
def validLS (l : LgS) : Nat := if 256 < l.acs.length then 3 else if vlG none l.acs ≠ 0 then vlG none l.acs else if (totS l.acs l.col).2 = false then 6 else 0
def SmLg (l : LgS) : Prop := l.acs.length ≤ 50000 ∧ U64 l.col ∧ ∀ a ∈ l.acs, SmAc a
theorem validL_m (L : LgS) (hL : SmLg L) : SemC Tryz.prog G 145 [lgM L] (.int .i64 (validLS L)) := by
 obtain ⟨l, col⟩ := L
 obtain ⟨hl, hcol, hsm⟩ := hL
 dsimp only at hl hcol hsm
 have ct := total_m (G := G) l col hcol (by omega) (fun a ha => (hsm a ha).2.1)
 generalize hQ : validLS ⟨l, col⟩ = Q
 unfold validLS at hQ
 dsimp only at hQ
 unfold lgM
 dsimp only
 by_cases hn : 256 < l.length
 ·rw [if_pos hn] at hQ
  subst hQ
  refine scq seat Tryz.func145 59 ?_
  refine go1 ?_
  (iterate 6 ((all_goals (refine go1 ?_)); (all_goals (first | (refine n_guard rfl rfl (fun h => ?_) rfl (fun h => ?_); all_goals ((try simp only [pl] at h); (try (exfalso; omega)))) | (refine c_cond rfl (fun h => ?_) (fun h => ?_); all_goals ((try simp only [pl] at h); (try (exfalso; omega)))) | skip))))
  all_goals (refine go0 ?_)
  all_goals rfl
 rw [if_neg hn] at hQ
 generalize hv : vlG none l = v at *
 generalize totS l col = p at *
 obtain ⟨tot, ok⟩ := p
 dsimp only at ct hQ
 refine scq seat Tryz.func145 59 ?_
 refine go1 ?_
 (iterate 3 ((all_goals (refine go1 ?_)); (all_goals (first | (refine n_guard rfl rfl (fun h => ?_) rfl (fun h => ?_); all_goals ((try simp only [pl] at h); (try (exfalso; omega)))) | (refine c_cond rfl (fun h => ?_) (fun h => ?_); all_goals ((try simp only [pl] at h); (try (exfalso; omega)))) | skip))))
 refine c_loop Nat (fun k => [(14, .int .i64 k), (13, .int .i64 l.length), (12, .sl l.length (l.map acM)), (1, .ptr 0 2 0 0 [])]) (fun _ => [(0, ⟨32, 2, false, 0, [.st [.sl l.length (l.map acM), .int .u64 col]]⟩)]) 1 (fun k => k ≤ l.length ∧ vlG (prevN l k) (l.drop k) = v) (fun k => l.length - k) 0 ⟨Nat.zero_le _, by rw [List.drop_zero]; exact hv⟩ (vm [(0, _)] []) ?_
 clear hv
 rintro k ⟨hk, hR⟩
 try dsimp only
 refine go1 ?_
 refine c_cond rfl (fun h => ?_) (fun h => ?_)
 ·have hk' : k < l.length := by have := of_decide_eq_true h; omega
  have hel := acs_at hk'
  have hpn : prevN l (k + 1) = some l[k].name := by show (l[k]?).map _ = _; simp [hk']
  have c1 := name_m (G := G) l[k].name (by have := (hsm _ (List.getElem_mem hk')).1; omega)
  rw [List.drop_eq_getElem_cons hk', vlG_cons] at hR
  rw [← hpn] at hR
  have hnmk : prevN l (k + 1) = some l[k].name := hpn
  rw [hnmk] at hR
  generalize hak : l[k] = a at *
  obtain ⟨nm, bal, seq⟩ := a
  replace hel : idxL (l.map acM) l.length (k : Int) = some (.st [.str nm, .int .u64 bal, .int .u64 seq]) := hel
  have hel := SomF.mk hel
  dsimp only at hR c1
  by_cases hnm : nameS nm = false
  ·rw [hnm] at c1
   rw [if_pos hnm] at hR
   subst hR
   rw [if_pos (by omega)] at hQ
   subst hQ
   refine go1 ?_
   (iterate 6 ((all_goals (refine go1 ?_)); (all_goals (first | (refine g_call3 rfl (fun _ h => h) rfl (semR_of_semC (c1)) rfl rfl ?_) | (refine n_guard rfl rfl (fun h => ?_) rfl (fun h => ?_); all_goals ((try simp only [pl] at h); (try (exfalso; omega)))) | (refine c_cond rfl (fun h => ?_) (fun h => ?_); all_goals ((try simp only [pl] at h); (try (exfalso; omega)))) | skip))))
   all_goals (refine go0 ?_)
   all_goals rfl
  rw [if_neg hnm] at hR
  have hnm : nameS nm = true := by simpa using hnm
  rw [hnm] at c1
  cases k with
  | zero =>
   dsimp only [prevN] at hR
   have hR : vlG (prevN l (0 + 1)) (l.drop (0 + 1)) = v := by rw [hnmk]; exact hR
   refine go1 ?_
   (iterate 3 ((all_goals (refine go1 ?_)); (all_goals (first | (refine g_call3 rfl (fun _ h => h) rfl (semR_of_semC (c1)) rfl rfl ?_) | (refine n_guard rfl rfl (fun h => ?_) rfl (fun h => ?_); all_goals ((try simp only [pl] at h); (try (exfalso; omega)))) | (refine c_cond rfl (fun h => ?_) (fun h => ?_); all_goals ((try simp only [pl] at h); (try (exfalso; omega)))) | skip))))
   refine c_draw [(0, false), (1, false), (2, false), (3, false), (4, false), (5, false), (6, false), (7, false), (8, false), (9, false), (10, false), (11, false), (12, false), (13, false)] ?_
   refine go1 ?_
   refine c_draw [(0, false), (1, false), (2, false), (3, false), (4, false), (5, false), (6, false), (7, false), (8, false), (9, false), (10, false), (11, false), (12, false), (13, false)] ?_
   refine go1 ?_
   exact ⟨0 + 1, ⟨by show 0 + 1 ≤ l.length; omega, hR⟩, by show l.length - (0 + 1) < l.length - 0; omega, (by dsimp only; exact (vm [(0, _)] []))⟩
  | succ j =>
   have hj : j < l.length := by omega
   have hep := acs_at hj
   have hpj : prevN l (j + 1) = some l[j].name := by show (l[j]?).map _ = _; simp [hj]
   rw [hpj] at hR
   generalize l[j] = b at *
   obtain ⟨nb, bb, sb⟩ := b
   replace hep : idxL (l.map acM) l.length (((j + 1 : Nat) : Int) - 1) = some (.st [.str nb, .int .u64 bb, .int .u64 sb]) := by rw [show ((j + 1 : Nat) : Int) - 1 = (j : Int) by omega]; exact hep
   have hep := SomF.mk hep
   dsimp only at hR
   refine go1 ?_
   (iterate 3 ((all_goals (refine go1 ?_)); (all_goals (first | (refine g_call3 rfl (fun _ h => h) rfl (semR_of_semC (c1)) rfl rfl ?_) | (refine n_guard rfl rfl (fun h => ?_) rfl (fun h => ?_); all_goals ((try simp only [pl] at h); (try (exfalso; omega)))) | (refine c_cond rfl (fun h => ?_) (fun h => ?_); all_goals ((try simp only [pl] at h); (try (exfalso; omega)))) | skip))))
   refine c_draw [(0, false), (1, false), (2, false), (3, false), (4, false), (5, false), (6, false), (7, false), (8, false), (9, false), (10, false), (11, false), (12, false), (13, false)] ?_
   refine go1 ?_
   refine d_guard rfl rfl (fun h => ?_) rfl (fun h => ?_)
   rotate_left
   ·exact absurd (of_decide_eq_false h) (by omega)
   by_cases hd : nb = nm
   ·subst hd
    rw [if_pos rfl] at hR
    subst hR
    rw [if_pos (by omega)] at hQ
    subst hQ
    refine goe1 ?_
    (iterate 4 ((all_goals (refine go1 ?_)); (all_goals (first | (refine n_guard rfl rfl (fun h => ?_) rfl (fun h => ?_); all_goals ((try simp only [pl] at h); (try (exfalso; omega)))) | (refine c_cond rfl (fun h => ?_) (fun h => ?_); all_goals ((try simp only [pl] at h); (try (exfalso; omega)))) | skip))))
    all_goals (refine go0 ?_)
    all_goals rfl
   rw [if_neg hd] at hR
   refine go1 ?_
   refine c_cond rfl (fun h => ?_) (fun h => ?_)
   ·exact absurd (eq_of_beq h) hd
   refine go1 ?_
   refine c_draw [(0, false), (1, false), (2, false), (3, false), (4, false), (5, false), (6, false), (7, false), (8, false), (9, false), (10, false), (11, false), (12, false), (13, false)] ?_
   refine go1 ?_
   refine d_guard rfl rfl (fun h => ?_) rfl (fun h => ?_)
   rotate_left
   ·exact absurd (of_decide_eq_false h) (by omega)
   refine go1 ?_
   refine c_cond rfl (fun h => ?_) (fun h => ?_)
   ·rw [if_pos h] at hR
    subst hR
    rw [if_pos (by omega)] at hQ
    subst hQ
    refine go1 ?_
    refine go0 ?_
    rfl
   ·rw [if_neg (by rw [h]; simp)] at hR
    refine go1 ?_
    exact ⟨j + 1 + 1, ⟨by show j + 1 + 1 ≤ l.length; omega, by rw [hnmk]; exact hR⟩, by show l.length - (j + 1 + 1) < l.length - (j + 1); omega, (by dsimp only; exact (vm [(0, _)] []))⟩
 ·have hk' : k = l.length := by have := of_decide_eq_false h; omega
  subst hk'
  rw [List.drop_length, vlG_nil] at hR
  subst hR
  rw [if_neg (by simp)] at hQ
  cases ok with
  | true =>
   rw [if_neg (by simp)] at hQ
   subst hQ
   refine go1 ?_
   (iterate 6 ((all_goals (refine go1 ?_)); (all_goals (first | (refine g_call3 rfl (fun _ h => h) rfl (semR_of_semC (ct)) rfl rfl ?_) | (refine n_guard rfl rfl (fun h => ?_) rfl (fun h => ?_); all_goals ((try simp only [pl] at h); (try (exfalso; omega)))) | (refine c_cond rfl (fun h => ?_) (fun h => ?_); all_goals ((try simp only [pl] at h); (try (exfalso; omega)))) | skip))))
   all_goals (refine go0 ?_)
   all_goals rfl
  | false =>
   rw [if_pos rfl] at hQ
   subst hQ
   refine go1 ?_
   (iterate 6 ((all_goals (refine go1 ?_)); (all_goals (first | (refine g_call3 rfl (fun _ h => h) rfl (semR_of_semC (ct)) rfl rfl ?_) | (refine n_guard rfl rfl (fun h => ?_) rfl (fun h => ?_); all_goals ((try simp only [pl] at h); (try (exfalso; omega)))) | (refine c_cond rfl (fun h => ?_) (fun h => ?_); all_goals ((try simp only [pl] at h); (try (exfalso; omega)))) | skip))))
   all_goals (refine go0 ?_)
   all_goals rfl
def genG : List AcS → List AcS → List AcS × Nat
 | [], l => (l, 0)
 | a :: r, l => if nameS a.name = false then ([], 10) else if 0 ≤ findS a.name l 0 then ([], 8) else genG r (putS a l)
def lg0 : LgS := ⟨[], 0⟩
def genS (acs : List AcS) : LgS × Nat := if 256 < acs.length then (lg0, 3) else if (genG acs []).2 ≠ 0 then (lg0, (genG acs []).2) else if (totS (genG acs []).1 0).2 = false then (lg0, 6) else (⟨(genG acs []).1, 0⟩, 0)
theorem mem_insA {a x : AcS} : ∀ {l : List AcS}, x ∈ insA a l → x = a ∨ x ∈ l
 | [], h => by rw [insA] at h; simp at h; exact .inl h
 | b :: r, h => by
  rw [insA] at h
  split at h
  ·rcases List.mem_cons.1 h with rfl | h
   ·exact .inr (by simp)
   ·rcases mem_insA h with h | h
    ·exact .inl h
    ·exact .inr (by simp [h])
  ·rcases List.mem_cons.1 h with rfl | h
   ·exact .inl rfl
   ·exact .inr h
theorem mem_putS {a x : AcS} {l : List AcS} (h : x ∈ putS a l) : x = a ∨ x ∈ l := by
 unfold putS at h
 split at h
 ·rcases List.mem_or_eq_of_mem_set h with h | h
  ·exact .inr h
  ·exact .inl h
 ·exact mem_insA h
def WdAc (a : AcS) : Prop := a.name.length ≤ 140737488355328 ∧ U64 a.bal ∧ U64 a.seq
theorem SmAc.wd {a : AcS} (h : SmAc a) : WdAc a := ⟨by have := h.1; omega, h.2⟩
theorem nameS_len {s : List UInt8} (h : nameS s = true) : s.length ≤ 20 := by
 unfold nameS at h
 rw [Bool.and_eq_true] at h
 exact (of_decide_eq_true h.2).2
theorem WdAc.sm {a : AcS} (h : WdAc a) (hn : nameS a.name = true) : SmAc a := ⟨by have := nameS_len hn; omega, h.2⟩
theorem genG_sm : ∀ (r l : List AcS), (∀ a ∈ r, WdAc a) → (∀ a ∈ l, SmAc a) → (∀ a ∈ (genG r l).1, SmAc a) ∧ (genG r l).1.length ≤ l.length + r.length
 | [], l, _, h => ⟨h, by simp [genG]⟩
 | a :: r, l, h1, h2 => by
  rw [genG]
  split
  ·exact ⟨by simp, by simp⟩
  ·rename_i hnm
   split
   ·exact ⟨by simp, by simp⟩
   ·have := genG_sm r (putS a l) (fun x hx => h1 x (by simp [hx])) (fun x hx => (mem_putS hx).elim (fun e => e ▸ (h1 a (by simp)).sm (by simpa using hnm)) (h2 x))
    have h3 := putS_len a l
    refine ⟨this.1, ?_⟩
    rw [List.length_cons]
    omega
theorem genS2_sm {acs : List AcS} (h : ∀ a ∈ acs, WdAc a) : SmLg (genS acs).1 := by
 have h0 : SmLg lg0 := ⟨by simp [lg0], by simp [lg0, U64], by simp [lg0]⟩
 have := genG_sm acs [] h (by simp)
 unfold genS
 split
 ·exact h0
 split
 ·exact h0
 split
 ·exact h0
 ·refine ⟨?_, by simp [U64], this.1⟩
  have h2 := this.2
  simp only [List.length_nil] at h2
  dsimp only
  omega
theorem gen2_r (l : List AcS) (hl : l.length ≤ 140737488355328) (hsm : ∀ a ∈ l, WdAc a) : SemR Tryz.prog G 176 [.sl l.length (l.map acM)] [] 0 (.tup [lgM (genS l).1, .int .i64 (genS l).2]) [] 0 := by
 generalize hQ : genS l = Q
 obtain ⟨⟨Ql, Qc⟩, Qe⟩ := Q
 unfold genS at hQ
 unfold lgM
 dsimp only
 by_cases hn : 256 < l.length
 ·rw [if_pos hn] at hQ
  simp only [lg0, Prod.mk.injEq, LgS.mk.injEq] at hQ
  obtain ⟨⟨rfl, rfl⟩, rfl⟩ := hQ
  refine srq seat Tryz.func176 46 ?_
  refine go1 ?_
  (iterate 4 ((all_goals (refine go1 ?_)); (all_goals (first | (refine n_guard rfl rfl (fun h => ?_) rfl (fun h => ?_); all_goals ((try simp only [pl] at h); (try (exfalso; omega)))) | (refine c_cond rfl (fun h => ?_) (fun h => ?_); all_goals ((try simp only [pl] at h); (try (exfalso; omega)))) | skip))))
  all_goals (refine go0 ?_; exact en [_, _])
 rw [if_neg hn] at hQ
 have hsmg := genG_sm l [] hsm (by simp)
 generalize hv : genG l [] = v at *
 obtain ⟨vl, ve⟩ := v
 dsimp only at hQ hsmg
 have hvl : vl.length ≤ 256 := by have := hsmg.2; simp only [List.length_nil] at this; omega
 have ct := total_m (G := G) vl 0 (by unfold U64; omega) (by omega) (fun a ha => (hsmg.1 a ha).2.1)
 clear hsmg
 generalize totS vl 0 = p at *
 obtain ⟨tot, ok⟩ := p
 dsimp only at ct hQ
 refine srq seat Tryz.func176 46 ?_
 refine go1 ?_
 (iterate 3 ((all_goals (refine go1 ?_)); (all_goals (first | (refine n_guard rfl rfl (fun h => ?_) rfl (fun h => ?_); all_goals ((try simp only [pl] at h); (try (exfalso; omega)))) | (refine c_cond rfl (fun h => ?_) (fun h => ?_); all_goals ((try simp only [pl] at h); (try (exfalso; omega)))) | skip))))
 refine c_loop (Nat × List AcS) (fun x => [(15, .int .i64 x.1), (14, .int .i64 l.length), (13, .sl l.length (l.map acM)), (4, .ptr 1 2 0 0 []), (2, .ptr 0 2 0 0 [])]) (fun x => [(0, ⟨32, 2, false, 0, [.st [.nils, .int .u64 0]]⟩), (1, ⟨32, 2, false, 0, [.st [.sl x.2.length (x.2.map acM), .int .u64 0]]⟩)]) 2 (fun x => x.1 ≤ l.length ∧ x.2.length ≤ x.1 ∧ (∀ a ∈ x.2, SmAc a) ∧ genG (l.drop x.1) x.2 = (vl, ve)) (fun x => l.length - x.1) (0, []) ⟨Nat.zero_le _, Nat.zero_le _, by simp, by rw [List.drop_zero]; exact hv⟩ (by dsimp only; exact (vm [(0, _), (1, _)] [])) ?_
 clear hv
 rintro ⟨k, z⟩ ⟨hk, hz, hzs, hR⟩
 try dsimp only
 dsimp only at hk hz hzs hR
 refine go1 ?_
 refine c_cond rfl (fun h => ?_) (fun h => ?_)
 ·have hk' : k < l.length := by have := of_decide_eq_true h; omega
  have hel := acs_at hk'
  have hsa := hsm _ (List.getElem_mem hk')
  have c1 := name_m (G := G) l[k].name (by have := hsa.1; omega)
  have c2 := find_m (G := G) z l[k].name (by omega)
  have c3 := put_r (G := G) l[k] z (by omega)
  have hpl := putS_len l[k] z
  have hpm : nameS l[k].name = true → ∀ x ∈ putS l[k] z, SmAc x := fun hn x hx => (mem_putS hx).elim (fun e => e ▸ hsa.sm hn) (hzs x)
  rw [List.drop_eq_getElem_cons hk', genG] at hR
  generalize putS l[k] z = z2 at *
  generalize l[k] = a at *
  obtain ⟨nm, bal, seq⟩ := a
  replace hel : idxL (l.map acM) l.length (k : Int) = some (.st [.str nm, .int .u64 bal, .int .u64 seq]) := hel
  have hel := SomF.mk hel
  dsimp only at hR c1 c2 hpm
  unfold acM at c3
  dsimp only at c3
  by_cases hnm : nameS nm = false
  ·rw [hnm] at c1
   rw [if_pos hnm] at hR
   simp only [Prod.mk.injEq] at hR
   obtain ⟨rfl, rfl⟩ := hR
   rw [if_pos (by omega)] at hQ
   simp only [lg0, Prod.mk.injEq, LgS.mk.injEq] at hQ
   obtain ⟨⟨rfl, rfl⟩, rfl⟩ := hQ
   refine go1 ?_
   (iterate 4 ((all_goals (refine go1 ?_)); (all_goals (first | (refine g_call3 rfl (fun _ h => h) rfl (semR_of_semC (c1)) rfl rfl ?_) | (refine n_guard rfl rfl (fun h => ?_) rfl (fun h => ?_); all_goals ((try simp only [pl] at h); (try (exfalso; omega)))) | (refine c_cond rfl (fun h => ?_) (fun h => ?_); all_goals ((try simp only [pl] at h); (try (exfalso; omega)))) | skip))))
   all_goals (refine go0 ?_; exact en [_, _])
  rw [if_neg hnm] at hR
  have hnm : nameS nm = true := by simpa using hnm
  rw [hnm] at c1
  generalize findS nm z 0 = fi at *
  by_cases hfi : 0 ≤ fi
  ·rw [if_pos hfi] at hR
   simp only [Prod.mk.injEq] at hR
   obtain ⟨rfl, rfl⟩ := hR
   rw [if_pos (by omega)] at hQ
   simp only [lg0, Prod.mk.injEq, LgS.mk.injEq] at hQ
   obtain ⟨⟨rfl, rfl⟩, rfl⟩ := hQ
   refine go1 ?_
   (iterate 6 ((all_goals (refine go1 ?_)); (all_goals (first | (refine g_call3 rfl (fun _ h => h) rfl (semR_of_semC (c1)) rfl rfl ?_) | (refine g_call3 rfl (fun _ h => h) rfl (semR_of_semC (c2)) rfl rfl ?_) | (refine n_guard rfl rfl (fun h => ?_) rfl (fun h => ?_); all_goals ((try simp only [pl] at h); (try (exfalso; omega)))) | (refine c_cond rfl (fun h => ?_) (fun h => ?_); all_goals ((try simp only [pl] at h); (try (exfalso; omega)))) | skip))))
   all_goals (refine go0 ?_; exact en [_, _])
  rw [if_neg hfi] at hR
  refine go1 ?_
  (iterate 7 ((all_goals (refine go1 ?_)); (all_goals (first | (refine g_call3 rfl (fun _ h => h) rfl (semR_of_semC (c1)) rfl rfl ?_) | (refine g_call3 rfl (fun _ h => h) rfl (semR_of_semC (c2)) rfl rfl ?_) | (refine g_call3 rfl (fun _ h => h) rfl (c3) rfl rfl ?_) | (refine n_guard rfl rfl (fun h => ?_) rfl (fun h => ?_); all_goals ((try simp only [pl] at h); (try (exfalso; omega)))) | (refine c_cond rfl (fun h => ?_) (fun h => ?_); all_goals ((try simp only [pl] at h); (try (exfalso; omega)))) | skip))))
  exact ⟨(k + 1, z2), ⟨by show k + 1 ≤ l.length; omega, by show z2.length ≤ k + 1; omega, hpm hnm, hR⟩, by show l.length - (k + 1) < l.length - k; omega, (by dsimp only; exact (vm [(0, _), (1, _)] []))⟩
 ·have hk' : k = l.length := by have := of_decide_eq_false h; omega
  subst hk'
  rw [List.drop_length, genG] at hR
  simp only [Prod.mk.injEq] at hR
  obtain ⟨rfl, rfl⟩ := hR
  rw [if_neg (by simp)] at hQ
  cases ok with
  | true =>
   rw [if_neg (by simp)] at hQ
   simp only [Prod.mk.injEq, LgS.mk.injEq] at hQ
   obtain ⟨⟨rfl, rfl⟩, rfl⟩ := hQ
   refine go1 ?_
   (iterate 4 ((all_goals (refine go1 ?_)); (all_goals (first | (refine g_call3 rfl (fun _ h => h) rfl (semR_of_semC (ct)) rfl rfl ?_) | (refine n_guard rfl rfl (fun h => ?_) rfl (fun h => ?_); all_goals ((try simp only [pl] at h); (try (exfalso; omega)))) | (refine c_cond rfl (fun h => ?_) (fun h => ?_); all_goals ((try simp only [pl] at h); (try (exfalso; omega)))) | skip))))
   all_goals (refine go0 ?_; exact en [_, _])
  | false =>
   rw [if_pos rfl] at hQ
   simp only [lg0, Prod.mk.injEq, LgS.mk.injEq] at hQ
   obtain ⟨⟨rfl, rfl⟩, rfl⟩ := hQ
   refine go1 ?_
   (iterate 4 ((all_goals (refine go1 ?_)); (all_goals (first | (refine g_call3 rfl (fun _ h => h) rfl (semR_of_semC (ct)) rfl rfl ?_) | (refine n_guard rfl rfl (fun h => ?_) rfl (fun h => ?_); all_goals ((try simp only [pl] at h); (try (exfalso; omega)))) | (refine c_cond rfl (fun h => ?_) (fun h => ?_); all_goals ((try simp only [pl] at h); (try (exfalso; omega)))) | skip))))
   all_goals (refine go0 ?_; exact en [_, _])
end
section
variable {G : GS}
attribute [local irreducible] vOpsN vOpsG vOpsD vOpGD NextD vC SeqQ BlockQ
def fldZ (f : Fld) : MV := .st [.int .i64 f.num, .int .i64 f.kind, .int .u64 f.val, .nils]
theorem relF_Z {σ : Nat → Option Nat} {fz : Fz} {f : Fld} (h : f.bytes = []) : relV σ fz (fldM f) (fldZ f) := by
 unfold fldM fldZ
 rw [h]
 exact .inr ⟨_, rfl, ⟨rfl, rfl⟩, ⟨rfl, rfl⟩, ⟨rfl, rfl⟩, .inr ⟨rfl, rfl⟩, trivial⟩
def IsF (v : MV) (f : Fld) : Prop := v = fldM f ∨ (v = fldZ f ∧ f.bytes = [])
inductive AreF : List MV → List Fld → Prop
 | nil : AreF [] []
 | cons {v : MV} {f : Fld} {vs : List MV} {l : List Fld} (h : IsF v f) (t : AreF vs l) : AreF (v :: vs) (f :: l)
theorem AreF.get {vs : List MV} {l : List Fld} (h : AreF vs l) : ∀ {k : Nat} (hk : k < l.length), ∃ v, vs[k]? = some v ∧ IsF v l[k] := by
 induction h with
 | nil => intro k hk; simp at hk
 | cons h t ih =>
  intro k hk
  cases k with
  | zero => exact ⟨_, rfl, h⟩
  | succ k => simpa using ih (by simpa using hk)
theorem message_v (l : List Fld) (vs : List MV) (hvs : AreF vs l) (hl : ∀ f ∈ l, okF f) (hm : (msgS l).length < 200000000) (hll : l.length < 1000000) : SemR Tryz.prog G 98 [.sl l.length vs] [] 0 (.sl (msgS l).length (u8s (msgS l))) [] 0 := by
 refine srq seat Tryz.func98 20 ?_
 refine go1 ?_
 refine c_loop Nat (fun k => [(8, .int .i64 k), (7, .int .i64 l.length), (6, .sl l.length vs), (3, .ms 0 1 0 (msgS (l.take k)).length)]) (fun k => [(0, ⟨5, 1, true, 0, u8s (msgS (l.take k))⟩)]) 1 (fun k => k ≤ l.length) (fun k => l.length - k) 0 (Nat.zero_le _) (by rw [List.take_zero]; exact (vm [] [])) ?_
 intro k hk
 try dsimp only
 refine go1 ?_
 refine c_cond rfl (fun h => ?_) (fun h => ?_)
 ·have hk' : k < l.length := by have := of_decide_eq_true h; omega
  have hs := msgS_succ l hk'
  have hle := msgS_take l (k + 1)
  have hfo := hl _ (List.getElem_mem hk')
  have hfb := fieldS_bytes hfo
  obtain ⟨v, hv1, hv2⟩ := hvs.get hk'
  have hel : idxL vs l.length (k : Int) = some v := index_at hk' hv1
  generalize l[k] = f at *
  have hlen : (msgS (l.take (k + 1))).length = (msgS (l.take k)).length + (fieldS f).length := by rw [hs, List.length_append]
  have c1 := field_r (G := G) (msgS (l.take k)) f hfo (by omega)
  rw [← hs] at c1
  unfold rowB at c1
  generalize msgS (l.take k) = p at *
  obtain ⟨num, kind, val, bytes⟩ := f
  rcases hv2 with rfl | ⟨rfl, hv2⟩
  ·replace hel : idxL vs l.length (k : Int) = some (.st [.int .i64 num, .int .i64 kind, .int .u64 val, .sl bytes.length (u8s bytes)]) := hel
   have hel := SomF.mk hel
   refine go1 ?_
   refine g_callR1 rfl (fun _ h => h) rfl (c1) [] [(0, p.length)] ⟨rfl, mm, rfl, lm, mm⟩ rfl rfl ?_
   refine go1 ?_
   exact ⟨k + 1, by show k + 1 ≤ l.length; omega, by show l.length - (k + 1) < l.length - k; omega, (by dsimp only; exact (vm [(0, _)] []))⟩
  ·replace hel : idxL vs l.length (k : Int) = some (.st [.int .i64 num, .int .i64 kind, .int .u64 val, .nils]) := hel
   have hel := SomF.mk hel
   refine go1 ?_
   refine g_callR1 rfl (fun _ h => h) rfl c1 [] [(0, p.length)] ⟨rfl, mm, rfl, ⟨rv, relF_Z hv2, trivial⟩, mm⟩ rfl rfl ?_
   refine go1 ?_
   exact ⟨k + 1, by show k + 1 ≤ l.length; omega, by show l.length - (k + 1) < l.length - k; omega, (by dsimp only; exact (vm [(0, _)] []))⟩
 ·have hk' : k = l.length := by have := of_decide_eq_false h; omega
  subst hk'
  rw [List.take_length]
  generalize msgS l = p at *
  refine go1 ?_
  refine ⟨[_], [], [(0, p.length)], rfl, rfl, ?_, rfl, ⟨?_, trivial⟩, ?_⟩
  ·exact ⟨by show p.length ≤ (u8s p).length; simp [u8s], trivial⟩
  ·exact rv
  ·exact mm
theorem leaf_v (l : List Fld) (vs : List MV) (hvs : AreF vs l) (hl : ∀ f ∈ l, okF f) (hm : (msgS l).length < 200000000) (hll : l.length < 1000000) : SemR Tryz.prog G 163 [.sl l.length vs] [] 0 (.sl (msgS l).length (u8s (msgS l))) [] 0 := by
 refine srq seat Tryz.func163 20 ?_
 refine go1 ?_
 refine c_loop Nat (fun k => [(8, .int .i64 k), (7, .int .i64 l.length), (6, .sl l.length vs), (3, .ms 0 1 0 (msgS (l.take k)).length)]) (fun k => [(0, ⟨5, 1, true, 0, u8s (msgS (l.take k))⟩)]) 1 (fun k => k ≤ l.length) (fun k => l.length - k) 0 (Nat.zero_le _) (by rw [List.take_zero]; exact (vm [] [])) ?_
 intro k hk
 try dsimp only
 refine go1 ?_
 refine c_cond rfl (fun h => ?_) (fun h => ?_)
 ·have hk' : k < l.length := by have := of_decide_eq_true h; omega
  have hs := msgS_succ l hk'
  have hle := msgS_take l (k + 1)
  have hfo := hl _ (List.getElem_mem hk')
  have hfb := fieldS_bytes hfo
  obtain ⟨v, hv1, hv2⟩ := hvs.get hk'
  have hel : idxL vs l.length (k : Int) = some v := index_at hk' hv1
  generalize l[k] = f at *
  have hlen : (msgS (l.take (k + 1))).length = (msgS (l.take k)).length + (fieldS f).length := by rw [hs, List.length_append]
  have c1 := pfield_r (G := G) (msgS (l.take k)) f hfo (by omega)
  rw [← hs] at c1
  unfold rowB at c1
  generalize msgS (l.take k) = p at *
  obtain ⟨num, kind, val, bytes⟩ := f
  rcases hv2 with rfl | ⟨rfl, hv2⟩
  ·replace hel : idxL vs l.length (k : Int) = some (.st [.int .i64 num, .int .i64 kind, .int .u64 val, .sl bytes.length (u8s bytes)]) := hel
   have hel := SomF.mk hel
   refine go1 ?_
   refine g_callR1 rfl (fun _ h => h) rfl (c1) [] [(0, p.length)] ⟨rfl, mm, rfl, lm, mm⟩ rfl rfl ?_
   refine go1 ?_
   exact ⟨k + 1, by show k + 1 ≤ l.length; omega, by show l.length - (k + 1) < l.length - k; omega, (by dsimp only; exact (vm [(0, _)] []))⟩
  ·replace hel : idxL vs l.length (k : Int) = some (.st [.int .i64 num, .int .i64 kind, .int .u64 val, .nils]) := hel
   have hel := SomF.mk hel
   refine go1 ?_
   refine g_callR1 rfl (fun _ h => h) rfl c1 [] [(0, p.length)] ⟨rfl, mm, rfl, ⟨rv, relF_Z hv2, trivial⟩, mm⟩ rfl rfl ?_
   refine go1 ?_
   exact ⟨k + 1, by show k + 1 ≤ l.length; omega, by show l.length - (k + 1) < l.length - k; omega, (by dsimp only; exact (vm [(0, _)] []))⟩
 ·have hk' : k = l.length := by have := of_decide_eq_false h; omega
  subst hk'
  rw [List.take_length]
  generalize msgS l = p at *
  refine go1 ?_
  refine ⟨[_], [], [(0, p.length)], rfl, rfl, ?_, rfl, ⟨?_, trivial⟩, ?_⟩
  ·exact ⟨by show p.length ≤ (u8s p).length; simp [u8s], trivial⟩
  ·exact rv
  ·exact mm
end
section
variable {G : GS}
attribute [local irreducible] vOpsN vOpsG vOpsD vOpGD NextD vC SeqQ BlockQ
def acL (a : AcS) : List Fld := [⟨1, 2, 0, a.name⟩, ⟨2, 0, a.bal, []⟩, ⟨3, 0, a.seq, []⟩]
def leafA (a : AcS) : List UInt8 := msgS (acL a)
def digS (l : LgS) : List UInt8 := rootS (l.acs.map leafA ++ [msgS [⟨4, 0, l.col, []⟩]])
theorem okF_0 {n v : Nat} (h1 : 1 ≤ n) (h2 : n ≤ 536870911) (hv : U64 v) : okF ⟨n, 0, v, []⟩ := ⟨h1, h2, .inl ⟨rfl, rfl, hv⟩⟩
theorem okF_2 {n : Nat} {b : List UInt8} (h1 : 1 ≤ n) (h2 : n ≤ 536870911) (hb : b.length < 18446744073709551616) : okF ⟨n, 2, 0, b⟩ := ⟨h1, h2, .inr ⟨rfl, rfl, hb⟩⟩
theorem acL_ok {a : AcS} (h : SmAc a) : ∀ f ∈ acL a, okF f ∧ f.bytes.length ≤ 5000 := by
 intro f hf
 unfold acL at hf
 simp only [List.mem_cons, List.not_mem_nil, or_false] at hf
 rcases hf with rfl | rfl | rfl
 ·exact ⟨okF_2 (by omega) (by omega) (by have := h.1; omega), h.1⟩
 ·exact ⟨okF_0 (by omega) (by omega) h.2.1, by simp⟩
 ·exact ⟨okF_0 (by omega) (by omega) h.2.2, by simp⟩
theorem leafA_len {a : AcS} (h : SmAc a) : (leafA a).length ≤ 15060 := by
 have h1 := msgS_len_le 5000 _ (acL_ok h)
 have h2 : (acL a).length = 3 := rfl
 rw [h2] at h1
 unfold leafA
 omega
theorem col_ok {c : Nat} (h : U64 c) : (∀ f ∈ [(⟨4, 0, c, []⟩ : Fld)], okF f ∧ f.bytes.length ≤ 0) := by
 intro f hf
 rw [List.mem_singleton.1 hf]
 exact ⟨okF_0 (by omega) (by omega) h, by simp⟩
theorem col_len {c : Nat} (h : U64 c) : (msgS [(⟨4, 0, c, []⟩ : Fld)]).length ≤ 20 := msgS_len_le 0 _ (col_ok h)
theorem rawM_map_succ {l : List AcS} {k : Nat} (hk : k < l.length) : ((l.take (k + 1)).map leafA).map rawM = ((l.take k).map leafA).map rawM ++ [rawM (leafA l[k])] := by
 rw [List.take_succ_eq_append_getElem hk, List.map_append, List.map_append]; rfl
theorem digL_m (L : LgS) (hL : SmLg L) : SemC Tryz.prog G 127 [lgM L] (keyM (digS L)) := by
 obtain ⟨l, col⟩ := L
 obtain ⟨hl, hcol, hsm⟩ := hL
 dsimp only at hl hcol hsm
 unfold digS lgM
 dsimp only
 have hcl := col_len hcol
 have cm := message_v (G := G) [⟨4, 0, col, []⟩] [.st [.int .i64 4, .int .i64 0, .int .u64 col, .nils]] (.cons (.inr ⟨rfl, rfl⟩) .nil) (fun f hf => (col_ok hcol f hf).1) (by omega) (by simp)
 have cr := rroot_m (G := G) _ (l.map leafA ++ [msgS [⟨4, 0, col, []⟩]]) (Nat.le_refl _) (by simp only [List.length_append, List.length_map, List.length_singleton]; omega) (by
  intro b hb
  rcases List.mem_append.1 hb with hb | hb
  ·obtain ⟨a, ha, rfl⟩ := List.mem_map.1 hb
   have := leafA_len (hsm a ha); omega
  ·rw [List.mem_singleton.1 hb]; omega)
 generalize msgS [⟨4, 0, col, []⟩] = mc at *
 have hzl : (l.map leafA ++ [mc]).length = l.length + 1 := by simp
 generalize hz : l.map leafA ++ [mc] = Z at *
 generalize rootS Z = root at *
 refine scq seat Tryz.func127 38 ?_
 refine go1 ?_
 refine c_loop Nat (fun k => [(9, .int .i64 k), (8, .int .i64 l.length), (7, .sl l.length (l.map acM)), (3, .ms 2 1 0 k), (2, .ptr 1 32 0 0 []), (1, .ptr 0 2 0 0 [])]) (fun k => [(0, ⟨32, 2, false, 0, [.st [.sl l.length (l.map acM), .int .u64 col]]⟩), (1, ⟨40, 32, false, 0, [keyM (List.replicate 32 0)]⟩), (2, ⟨50, 1, true, 0, ((l.take k).map leafA).map rawM⟩)]) 3 (fun k => k ≤ l.length) (fun k => l.length - k) 0 (Nat.zero_le _) (by rw [List.take_zero]; exact (vm [(0, _), (1, _)] [])) ?_
 intro k hk
 try dsimp only
 refine go1 ?_
 refine c_cond rfl (fun h => ?_) (fun h => ?_)
 ·have hk' : k < l.length := by have := of_decide_eq_true h; omega
  have hel := acs_at hk'
  have hsa := hsm _ (List.getElem_mem hk')
  have hsucc := rawM_map_succ hk'
  have hll : (((l.take k).map leafA).map rawM).length = k := by simp; omega
  generalize l[k] = a at *
  have hln := leafA_len hsa
  have hok := acL_ok hsa
  have hnl := hsa.1
  unfold leafA acL at hln hok
  have hlf : leafA a = msgS [⟨1, 2, 0, a.name⟩, ⟨2, 0, a.bal, []⟩, ⟨3, 0, a.seq, []⟩] := rfl
  rw [hlf] at hsucc
  obtain ⟨nm, bal, seq⟩ := a
  dsimp only at hln hok hsucc hnl
  have c1 := message_v (G := G) [⟨1, 2, 0, nm⟩, ⟨2, 0, bal, []⟩, ⟨3, 0, seq, []⟩] [.st [.int .i64 1, .int .i64 2, .int .u64 0, .sl nm.length (u8s nm)], .st [.int .i64 2, .int .i64 0, .int .u64 bal, .nils], .st [.int .i64 3, .int .i64 0, .int .u64 seq, .nils]] (.cons (.inl rfl) (.cons (.inr ⟨rfl, rfl⟩) (.cons (.inr ⟨rfl, rfl⟩) .nil))) (fun f hf => (hok f hf).1) (by omega) (by simp)
  replace hel : idxL (l.map acM) l.length (k : Int) = some (.st [.str nm, .int .u64 bal, .int .u64 seq]) := hel
  have hel := SomF.mk hel
  generalize msgS [⟨1, 2, 0, nm⟩, ⟨2, 0, bal, []⟩, ⟨3, 0, seq, []⟩] = mk at *
  clear hok
  refine go1 ?_
  refine g_call1 rfl (fun _ h => h) rfl (c1) rfl [(19, 3)] mm lm ?_
  refine go1 ?_
  refine g_mem rfl rfl (by intro R hR; refine sms hR ?_; (refine And.intro (Nat.le_refl _) ?_; refine ⟨_, rfl, ?_⟩; refine And.intro ⟨hll, app_ok (by kernel_rfl) pf⟩ ?_; refine ⟨((l.take (k + 1)).map leafA).map rawM, sv (by rw [hsucc]; rfl), k + 1, sv pf, ?_⟩); exact hR) rfl ?_
  refine go1 ?_
  exact ⟨k + 1, by show k + 1 ≤ l.length; omega, by show l.length - (k + 1) < l.length - k; omega, (by dsimp only; exact (vm [(0, _), (1, _), (2, _)] []))⟩
 ·have hk' : k = l.length := by have := of_decide_eq_false h; omega
  subst hk'
  rw [List.take_length]
  refine go1 ?_
  refine g_call1 rfl (fun _ h => h) rfl (cm) rfl [(8, 1)] mm lm ?_
  refine go1 ?_
  refine g_mem rfl rfl (by intro R hR; refine sms hR ?_; (refine And.intro (Nat.le_refl _) ?_; refine ⟨_, rfl, ?_⟩; refine And.intro ⟨(by simp), app_ok (by kernel_rfl) pf⟩ ?_; refine ⟨Z.map rawM, sv (by rw [← hz]; simp; rfl), Z.length, sv pf, ?_⟩); exact hR) rfl ?_
  refine go1 ?_
  refine g_call1 rfl (fun _ h => h) rfl (semR_of_semC (cr)) rfl [(10, Z.length)] mm lm ?_
  refine go1 ?_
  refine go0 ?_
  rfl
theorem pdigL_m (L : LgS) (hL : SmLg L) : SemC Tryz.prog G 110 [lgM L] (keyM (digS L)) := by
 obtain ⟨l, col⟩ := L
 obtain ⟨hl, hcol, hsm⟩ := hL
 dsimp only at hl hcol hsm
 unfold digS lgM
 dsimp only
 have hcl := col_len hcol
 have cm := leaf_v (G := G) [⟨4, 0, col, []⟩] [.st [.int .i64 4, .int .i64 0, .int .u64 col, .nils]] (.cons (.inr ⟨rfl, rfl⟩) .nil) (fun f hf => (col_ok hcol f hf).1) (by omega) (by simp)
 have cr := proot_m (G := G) _ (l.map leafA ++ [msgS [⟨4, 0, col, []⟩]]) (Nat.le_refl _) (by simp only [List.length_append, List.length_map, List.length_singleton]; omega) (by
  intro b hb
  rcases List.mem_append.1 hb with hb | hb
  ·obtain ⟨a, ha, rfl⟩ := List.mem_map.1 hb
   have := leafA_len (hsm a ha); omega
  ·rw [List.mem_singleton.1 hb]; omega)
 generalize msgS [⟨4, 0, col, []⟩] = mc at *
 have hzl : (l.map leafA ++ [mc]).length = l.length + 1 := by simp
 generalize hz : l.map leafA ++ [mc] = Z at *
 generalize rootS Z = root at *
 refine scq seat Tryz.func110 39 ?_
 refine go1 ?_
 refine c_loop Nat (fun k => [(9, .int .i64 k), (8, .int .i64 l.length), (7, .sl l.length (l.map acM)), (3, .ms 2 1 0 k), (2, .ptr 1 32 0 0 []), (1, .ptr 0 2 0 0 [])]) (fun k => [(0, ⟨32, 2, false, 0, [.st [.sl l.length (l.map acM), .int .u64 col]]⟩), (1, ⟨40, 32, false, 0, [keyM (List.replicate 32 0)]⟩), (2, ⟨50, 1, true, 0, ((l.take k).map leafA).map rawM⟩)]) 3 (fun k => k ≤ l.length) (fun k => l.length - k) 0 (Nat.zero_le _) (by rw [List.take_zero]; exact (vm [(0, _), (1, _)] [])) ?_
 intro k hk
 try dsimp only
 refine go1 ?_
 refine c_cond rfl (fun h => ?_) (fun h => ?_)
 ·have hk' : k < l.length := by have := of_decide_eq_true h; omega
  have hel := acs_at hk'
  have hsa := hsm _ (List.getElem_mem hk')
  have hsucc := rawM_map_succ hk'
  have hll : (((l.take k).map leafA).map rawM).length = k := by simp; omega
  generalize l[k] = a at *
  have hln := leafA_len hsa
  have hok := acL_ok hsa
  have hnl := hsa.1
  unfold leafA acL at hln hok
  have hlf : leafA a = msgS [⟨1, 2, 0, a.name⟩, ⟨2, 0, a.bal, []⟩, ⟨3, 0, a.seq, []⟩] := rfl
  rw [hlf] at hsucc
  obtain ⟨nm, bal, seq⟩ := a
  dsimp only at hln hok hsucc hnl
  have c1 := leaf_v (G := G) [⟨1, 2, 0, nm⟩, ⟨2, 0, bal, []⟩, ⟨3, 0, seq, []⟩] [.st [.int .i64 1, .int .i64 2, .int .u64 0, .sl nm.length (u8s nm)], .st [.int .i64 2, .int .i64 0, .int .u64 bal, .nils], .st [.int .i64 3, .int .i64 0, .int .u64 seq, .nils]] (.cons (.inl rfl) (.cons (.inr ⟨rfl, rfl⟩) (.cons (.inr ⟨rfl, rfl⟩) .nil))) (fun f hf => (hok f hf).1) (by omega) (by simp)
  replace hel : idxL (l.map acM) l.length (k : Int) = some (.st [.str nm, .int .u64 bal, .int .u64 seq]) := hel
  have hel := SomF.mk hel
  generalize msgS [⟨1, 2, 0, nm⟩, ⟨2, 0, bal, []⟩, ⟨3, 0, seq, []⟩] = mk at *
  clear hok
  refine go1 ?_
  refine g_call1 rfl (fun _ h => h) rfl (c1) rfl [(19, 3)] mm lm ?_
  refine go1 ?_
  refine g_mem rfl rfl (by intro R hR; refine sms hR ?_; (refine And.intro (Nat.le_refl _) ?_; refine ⟨_, rfl, ?_⟩; refine And.intro ⟨hll, app_ok (by kernel_rfl) pf⟩ ?_; refine ⟨((l.take (k + 1)).map leafA).map rawM, sv (by rw [hsucc]; rfl), k + 1, sv pf, ?_⟩); exact hR) rfl ?_
  refine go1 ?_
  exact ⟨k + 1, by show k + 1 ≤ l.length; omega, by show l.length - (k + 1) < l.length - k; omega, (by dsimp only; exact (vm [(0, _), (1, _), (2, _)] []))⟩
 ·have hk' : k = l.length := by have := of_decide_eq_false h; omega
  subst hk'
  rw [List.take_length]
  refine go1 ?_
  refine g_call1 rfl (fun _ h => h) rfl (cm) rfl [(8, 1)] mm lm ?_
  refine go1 ?_
  refine g_mem rfl rfl (by intro R hR; refine sms hR ?_; (refine And.intro (Nat.le_refl _) ?_; refine ⟨_, rfl, ?_⟩; refine And.intro ⟨(by simp), app_ok (by kernel_rfl) pf⟩ ?_; refine ⟨Z.map rawM, sv (by rw [← hz]; simp; rfl), Z.length, sv pf, ?_⟩); exact hR) rfl ?_
  refine go1 ?_
  refine g_call1 rfl (fun _ h => h) rfl (semR_of_semC (cr)) rfl [(10, Z.length)] mm lm ?_
  refine go1 ?_
  refine go0 ?_
  rfl
end
section
variable {G : GS}
attribute [local irreducible] vOpsN vOpsG vOpsD vOpGD NextD vC SeqQ BlockQ
structure ResS where
 code : Nat
 sender : List UInt8
 seq : Nat
 gas : Nat
 prio : Nat
 deriving DecidableEq
def resM (r : ResS) : MV := .st [.int .i64 r.code, .str r.sender, .int .u64 r.seq, .int .u64 r.gas, .int .u64 r.prio]
def SmRes (r : ResS) : Prop := r.code ≤ 1000 ∧ r.sender.length ≤ 5000 ∧ U64 r.seq ∧ U64 r.gas ∧ U64 r.prio
def reL (r : ResS) : List Fld := [⟨1, 0, r.code, []⟩, ⟨2, 0, r.gas, []⟩]
def leafR (r : ResS) : List UInt8 := msgS (reL r)
def rdigS (l : List ResS) : List UInt8 := rootS (l.map leafR)
theorem res_at {l : List ResS} {k : Nat} (hk : k < l.length) : idxL (l.map resM) l.length (k : Int) = some (resM l[k]) := index_at hk (by simp [hk])
theorem reL_ok {r : ResS} (h : SmRes r) : ∀ f ∈ reL r, okF f ∧ f.bytes.length ≤ 0 := by
 intro f hf
 unfold reL at hf
 simp only [List.mem_cons, List.not_mem_nil, or_false] at hf
 have hc : U64 r.code := by have := h.1; unfold U64; omega
 rcases hf with rfl | rfl
 ·exact ⟨okF_0 (by omega) (by omega) hc, by simp⟩
 ·exact ⟨okF_0 (by omega) (by omega) h.2.2.2.1, by simp⟩
theorem leafR_len {r : ResS} (h : SmRes r) : (leafR r).length ≤ 40 := by
 have h1 := msgS_len_le 0 _ (reL_ok h)
 have h2 : (reL r).length = 2 := rfl
 rw [h2] at h1
 unfold leafR
 omega
theorem rawR_map_succ {l : List ResS} {k : Nat} (hk : k < l.length) : ((l.take (k + 1)).map leafR).map rawM = ((l.take k).map leafR).map rawM ++ [rawM (leafR l[k])] := by
 rw [List.take_succ_eq_append_getElem hk, List.map_append, List.map_append]; rfl
theorem rdig_m (l : List ResS) (hl : l.length ≤ 50000) (hsm : ∀ r ∈ l, SmRes r) : SemC Tryz.prog G 128 [.sl l.length (l.map resM)] (keyM (rdigS l)) := by
 have cr := rroot_m (G := G) _ (l.map leafR) (Nat.le_refl _) (by simp only [List.length_map]; omega) (by
  intro b hb
  obtain ⟨a, ha, rfl⟩ := List.mem_map.1 hb
  have := leafR_len (hsm a ha); omega)
 have hzl : (l.map leafR).length = l.length := by simp
 unfold rdigS
 generalize rootS (l.map leafR) = root at *
 refine scq seat Tryz.func128 27 ?_
 refine go1 ?_
 refine c_loop Nat (fun k => [(8, .int .i64 k), (7, .int .i64 l.length), (6, .sl l.length (l.map resM)), (3, .ms 1 1 0 k), (2, .ptr 0 32 0 0 [])]) (fun k => [(0, ⟨40, 32, false, 0, [keyM (List.replicate 32 0)]⟩), (1, ⟨50, 1, true, 0, ((l.take k).map leafR).map rawM⟩)]) 2 (fun k => k ≤ l.length) (fun k => l.length - k) 0 (Nat.zero_le _) (by rw [List.take_zero]; exact (vm [(0, _)] [])) ?_
 intro k hk
 try dsimp only
 refine go1 ?_
 refine c_cond rfl (fun h => ?_) (fun h => ?_)
 ·
  have hk' : k < l.length := by have := of_decide_eq_true h; omega
  have hel := res_at hk'
  have hsa := hsm _ (List.getElem_mem hk')
  have hsucc := rawR_map_succ hk'
  have hll : (((l.take k).map leafR).map rawM).length = k := by simp; omega
  generalize l[k] = a at *
  have hln := leafR_len hsa
  have hok := reL_ok hsa
  unfold leafR reL at hln hok
  have hlf : leafR a = msgS [⟨1, 0, a.code, []⟩, ⟨2, 0, a.gas, []⟩] := rfl
  rw [hlf] at hsucc
  obtain ⟨code, snd, seq, gas, prio⟩ := a
  obtain ⟨h1, h2, h3, h4, h5⟩ := hsa
  dsimp only at hln hok hsucc h1 h2 h3 h4 h5
  replace hel : idxL (l.map resM) l.length (k : Int) = some (.st [.int .i64 code, .str snd, .int .u64 seq, .int .u64 gas, .int .u64 prio]) := hel
  have hel := SomF.mk hel
  have hw := EqF.mk (show IntKind.u64.wrap (code : Int) = (code : Int) from wrapu_in _ (by omega) (by omega))
  have c1 := message_v (G := G) [⟨1, 0, code, []⟩, ⟨2, 0, gas, []⟩] [.st [.int .i64 1, .int .i64 0, .int .u64 code, .nils], .st [.int .i64 2, .int .i64 0, .int .u64 gas, .nils]] (.cons (.inr ⟨rfl, rfl⟩) (.cons (.inr ⟨rfl, rfl⟩) .nil)) (fun f hf => (hok f hf).1) (by omega) (by simp)
  generalize msgS [⟨1, 0, code, []⟩, ⟨2, 0, gas, []⟩] = mk at *
  clear hok
  refine go1 ?_
  refine g_call1 rfl (fun _ h => h) rfl (c1) rfl [(15, 2)] mm lm ?_
  refine go1 ?_
  refine g_mem rfl rfl (by intro R hR; refine sms hR ?_; (refine And.intro (Nat.le_refl _) ?_; refine ⟨_, rfl, ?_⟩; refine And.intro ⟨hll, app_ok (by kernel_rfl) pf⟩ ?_; refine ⟨((l.take (k + 1)).map leafR).map rawM, sv (by rw [hsucc]; rfl), k + 1, sv pf, ?_⟩); exact hR) rfl ?_
  refine go1 ?_
  exact ⟨k + 1, by show k + 1 ≤ l.length; omega, by show l.length - (k + 1) < l.length - k; omega, (by dsimp only; exact (vm [(0, _), (1, _)] []))⟩
 ·have hk' : k = l.length := by have := of_decide_eq_false h; omega
  subst hk'
  rw [List.take_length]
  generalize l.map leafR = Z at *
  rw [← hzl]
  refine go1 ?_
  refine g_call1 rfl (fun _ h => h) rfl (semR_of_semC (cr)) rfl [(1, Z.length)] mm lm ?_
  refine go1 ?_
  refine go0 ?_
  rfl
theorem prdig_m (l : List ResS) (hl : l.length ≤ 50000) (hsm : ∀ r ∈ l, SmRes r) : SemC Tryz.prog G 112 [.sl l.length (l.map resM)] (keyM (rdigS l)) := by
 have cr := proot_m (G := G) _ (l.map leafR) (Nat.le_refl _) (by simp only [List.length_map]; omega) (by
  intro b hb
  obtain ⟨a, ha, rfl⟩ := List.mem_map.1 hb
  have := leafR_len (hsm a ha); omega)
 have hzl : (l.map leafR).length = l.length := by simp
 unfold rdigS
 generalize rootS (l.map leafR) = root at *
 refine scq seat Tryz.func112 37 ?_
 refine go1 ?_
 refine c_loop Nat (fun k => [(10, .int .i64 k), (9, .int .i64 l.length), (8, .sl l.length (l.map resM)), (3, .ms 1 1 0 k), (2, .ptr 0 32 0 0 [])]) (fun k => [(0, ⟨40, 32, false, 0, [keyM (List.replicate 32 0)]⟩), (1, ⟨50, 1, true, 0, ((l.take k).map leafR).map rawM⟩)]) 2 (fun k => k ≤ l.length) (fun k => l.length - k) 0 (Nat.zero_le _) (by rw [List.take_zero]; exact (vm [(0, _)] [])) ?_
 intro k hk
 try dsimp only
 refine go1 ?_
 refine c_cond rfl (fun h => ?_) (fun h => ?_)
 ·
  have hk' : k < l.length := by have := of_decide_eq_true h; omega
  have hel := res_at hk'
  have hsa := hsm _ (List.getElem_mem hk')
  have hsucc := rawR_map_succ hk'
  have hll : (((l.take k).map leafR).map rawM).length = k := by simp; omega
  generalize l[k] = a at *
  have hln := leafR_len hsa
  have hok := reL_ok hsa
  unfold leafR reL at hln hok
  have hlf : leafR a = msgS [⟨1, 0, a.code, []⟩, ⟨2, 0, a.gas, []⟩] := rfl
  rw [hlf] at hsucc
  obtain ⟨code, snd, seq, gas, prio⟩ := a
  obtain ⟨h1, h2, h3, h4, h5⟩ := hsa
  dsimp only at hln hok hsucc h1 h2 h3 h4 h5
  replace hel : idxL (l.map resM) l.length (k : Int) = some (.st [.int .i64 code, .str snd, .int .u64 seq, .int .u64 gas, .int .u64 prio]) := hel
  have hel := SomF.mk hel
  have hw := EqF.mk (show IntKind.u64.wrap (code : Int) = (code : Int) from wrapu_in _ (by omega) (by omega))
  have c1 := pfield_r (G := G) [] ⟨1, 0, code, []⟩ (hok _ (by simp)).1 (by simp)
  have c2 := pfield_r (G := G) ([] ++ fieldS ⟨1, 0, code, []⟩) ⟨2, 0, gas, []⟩ (hok _ (by simp)).1 (by have := fieldS_len (hok ⟨1, 0, code, []⟩ (by simp)).1; simp at this ⊢; omega)
  have he : msgS [⟨1, 0, code, []⟩, ⟨2, 0, gas, []⟩] = [] ++ fieldS ⟨1, 0, code, []⟩ ++ fieldS ⟨2, 0, gas, []⟩ := by simp [msgS]
  rw [he] at hsucc hln
  unfold rowB at c1 c2
  generalize [] ++ fieldS ⟨1, 0, code, []⟩ ++ fieldS ⟨2, 0, gas, []⟩ = mk at *
  generalize [] ++ fieldS ⟨1, 0, code, []⟩ = m1 at *
  clear hok he hlf
  refine go1 ?_
  refine g_callR1 rfl (fun _ h => h) rfl c1 [] [] ⟨rfl, trivial, rfl, ⟨.inr ⟨rfl, rfl⟩, relF_Z rfl, trivial⟩, trivial⟩ rfl rfl ?_
  refine go1 ?_
  refine g_callR1 rfl (fun _ h => h) rfl c2 [] [(11, m1.length)] ⟨rfl, mm, rfl, ⟨rv, relF_Z rfl, trivial⟩, trivial⟩ rfl rfl ?_
  iterate 3 (refine gos ?_)
  refine n_re ([(28, .sl mk.length (u8s mk)), (10, .int .i64 k), (9, .int .i64 l.length), (8, .sl l.length (l.map resM)), (3, .ms 1 1 0 k), (2, .ptr 0 32 0 0 [])]) ([(0, ⟨40, 32, false, 0, [keyM (List.replicate 32 0)]⟩), (1, ⟨50, 1, true, 0, ((l.take k).map leafR).map rawM⟩)]) [(21, mk.length)] mm rfl mm mm ?_
  refine go1 ?_
  refine g_mem rfl rfl (by intro R hR; refine sms hR ?_; (refine And.intro (Nat.le_refl _) ?_; refine ⟨_, rfl, ?_⟩; refine And.intro ⟨hll, app_ok (by kernel_rfl) pf⟩ ?_; refine ⟨((l.take (k + 1)).map leafR).map rawM, sv (by rw [hsucc]; rfl), k + 1, sv pf, ?_⟩); exact hR) rfl ?_
  refine go1 ?_
  exact ⟨k + 1, by show k + 1 ≤ l.length; omega, by show l.length - (k + 1) < l.length - k; omega, (by dsimp only; exact (vm [(0, _), (1, _)] []))⟩
 ·have hk' : k = l.length := by have := of_decide_eq_false h; omega
  subst hk'
  rw [List.take_length]
  generalize l.map leafR = Z at *
  rw [← hzl]
  refine go1 ?_
  refine g_call1 rfl (fun _ h => h) rfl (semR_of_semC (cr)) rfl [(1, Z.length)] mm lm ?_
  refine go1 ?_
  refine go0 ?_
  rfl
end
section
variable {G : GS}
attribute [local irreducible] vOpsN vOpsG vOpsD vOpGD NextD vC SeqQ BlockQ
structure AppS where
 com : LgS
 chk : LgS
 nxt : LgS
 opn : Bool
 price : Nat
def appM (a : AppS) : MV := .st [lgM a.com, lgM a.chk, lgM a.nxt, .bool a.opn, .int .u64 a.price]
def SmApp (a : AppS) : Prop := SmLg a.com ∧ SmLg a.chk ∧ SmLg a.nxt ∧ U64 a.price
def app0 : AppS := ⟨lg0, lg0, lg0, false, 0⟩
theorem lg0_sm : SmLg lg0 := ⟨by simp [lg0], by simp [lg0, U64], by simp [lg0]⟩
theorem app0_sm : SmApp app0 := ⟨lg0_sm, lg0_sm, lg0_sm, by simp [app0, U64]⟩
abbrev lgZ : MV := .st [.nils, .int .u64 0]
theorem rel_lg0 {σ : Nat → Option Nat} {fz : Fz} : relV σ fz (lgM lg0) lgZ := .inr ⟨_, rfl, ⟨.inr ⟨rfl, rfl⟩, ⟨rfl, rfl⟩, trivial⟩⟩
theorem rel_lg {σ : Nat → Option Nat} {fz : Fz} {n : Nat} {l : List MV} {c : Int} : relV σ fz (.st [.sl n l, .int .u64 c]) (.st [.sl n l, .int .u64 c]) := .inl ⟨rfl, rfl⟩
def initS (acs : List AcS) (price : Nat) : AppS × Nat := if (genS acs).2 ≠ 0 then (app0, (genS acs).2) else (⟨(genS acs).1, (genS acs).1, lg0, false, price⟩, 0)
theorem initS2_sm {acs : List AcS} {p : Nat} (h : ∀ a ∈ acs, WdAc a) (hp : U64 p) : SmApp (initS acs p).1 := by
 unfold initS
 split
 ·exact app0_sm
 ·exact ⟨genS2_sm h, genS2_sm h, lg0_sm, hp⟩
abbrev apZ : MV := .st [lgZ, lgZ, lgZ, .bool false, .int .u64 0]
theorem rel_app0 {σ : Nat → Option Nat} {fz : Fz} : relV σ fz (appM app0) apZ := .inr ⟨_, rfl, ⟨rel_lg0, rel_lg0, rel_lg0, ⟨rfl, rfl⟩, ⟨rfl, rfl⟩, trivial⟩⟩
theorem init2_r (l : List AcS) (p : Nat) (hl : l.length ≤ 140737488355328) (hsm : ∀ a ∈ l, WdAc a) (hp : U64 p) : SemR Tryz.prog G 126 [.sl l.length (l.map acM), .int .u64 p] [] 0 (.tup [appM (initS l p).1, .int .i64 (initS l p).2]) [] 0 := by
 have c1 := gen2_r (G := G) l hl hsm
 unfold initS
 generalize genS l = g at *
 obtain ⟨⟨acs, col⟩, e⟩ := g
 unfold lgM at c1
 dsimp only at c1 ⊢
 by_cases he : e = 0
 ·subst he
  rw [if_neg (by simp)]
  refine srq seat Tryz.func126 21 ?_
  refine go1 ?_
  refine yr (c1) ?_
  refine go1 ?_
  refine go0 ?_
  refine ⟨[_, _], [], [], rfl, rfl, trivial, rfl, ⟨?_, ?_, trivial⟩, ?_⟩
  ·exact .inr ⟨_, rfl, ⟨rel_lg, rel_lg, rel_lg0, ⟨rfl, rfl⟩, ⟨rfl, rfl⟩, trivial⟩⟩
  ·exact rv
  ·exact mm
 ·rw [if_pos he]
  refine srq seat Tryz.func126 21 ?_
  refine go1 ?_
  refine yr (c1) ?_
  refine go1 ?_
  refine c_cond rfl (fun h => ?_) (fun h => ?_)
  ·refine go1 ?_
   refine go0 ?_
   refine ⟨[_, _], [], [], rfl, rfl, trivial, rfl, ⟨?_, ?_, trivial⟩, ?_⟩
   ·exact rel_app0
   ·exact rv
   ·exact mm
  ·exfalso
   have : ¬ (e : Int) ≠ 0 := by simpa using h
   omega
end
section
variable {G : GS}
attribute [local irreducible] vOpsN vOpsG vOpsD vOpGD NextD vC SeqQ BlockQ
theorem clone_u8 (x : List UInt8) (hx : x.length < 536870912) : SemR Tryz.prog G 90 [.sl x.length (u8s x)] [] 0 (.sl x.length (u8s x)) [] 0 := by
 refine srq seat Tryz.func90 8 ?_
 refine go1 ?_
 refine g_nil rfl rfl (fun b hb => ?_)
 cases b with
 | true =>
  have h0 := hb rfl
  have h1 : x = [] := List.length_eq_zero_iff.1 h0
  subst h1
  refine go1 ?_
  refine go0 ?_
  exact en [_]
 | false =>
  refine go1 ?_
  refine g_mem rfl rfl (by intro R hR; refine sms hR ?_; refine And.intro ((head_b x)) ?_; refine And.intro ⟨rfl, app_ok (by kernel_rfl) pf⟩ ?_; refine ⟨u8s x, sv (by show [] ++ u8s x = _; rw [List.nil_append]), x.length, sv pf, ?_⟩; exact hR) rfl ?_
  refine go1 ?_
  refine ⟨[_], [], [(5, x.length)], rfl, rfl, ?_, rfl, ⟨?_, trivial⟩, ?_⟩
  ·exact ⟨by show x.length ≤ (u8s x).length; simp [u8s], trivial⟩
  ·exact rv
  ·exact mm
end
section
variable {G : GS}
attribute [local irreducible] vOpsN vOpsG vOpsD vOpGD NextD vC SeqQ BlockQ
abbrev I64 (x : Int) : Prop := -9223372036854775808 ≤ x ∧ x < 9223372036854775808
structure HdS where
 height : Int
 time : Int
 prop : Int
 par : List UInt8
 txs : List UInt8
 app : List UInt8
 res : List UInt8
 deriving DecidableEq
abbrev hdM (h : HdS) : MV := .st [.int .i64 h.height, .int .i64 h.time, .int .i64 h.prop, keyM h.par, keyM h.txs, keyM h.app, keyM h.res]
end
section
variable {G : GS}
attribute [local irreducible] vOpsN vOpsG vOpsD vOpGD NextD vC SeqQ BlockQ
theorem key_conf (T : Tab) (f : Nat) (e : TypeId) (he : Tab.find T e = some (.int .u8)) : ∀ k : List UInt8, (u8s k).all (confM T (f + 1) e) = true
 | [] => rfl
 | a :: k => by
  show (confM T (f + 1) e (.int .u8 a.toNat) && (u8s k).all (confM T (f + 1) e)) = true
  rw [key_conf T f e he k]
  simp [confM, he, kid]
theorem eqMs_u8 : ∀ (a b : List UInt8), a.length = b.length → eqMs (u8s a) (u8s b) = some (decide (a = b))
 | [], [], _ => rfl
 | x :: a, y :: b, h => by
  show (match eqM (.int .u8 x.toNat) (.int .u8 y.toNat), eqMs (u8s a) (u8s b) with | some p, some q => some (p && q) | _, _ => none) = _
  rw [eqMs_u8 a b (by simpa using h)]
  have e : eqM (.int .u8 x.toNat) (.int .u8 y.toNat) = some (decide (x = y)) := by
   show some (decide ((x.toNat : Int) = (y.toNat : Int))) = _
   have : ((x.toNat : Int) = (y.toNat : Int)) ↔ x = y := by rw [Int.ofNat_inj, UInt8.toNat_inj]
   simp [this]
  rw [e]
  simp
 | [], _ :: _, h => by simp at h
 | _ :: _, [], h => by simp at h
theorem eq_key {a b : List UInt8} (h : a.length = b.length) : eqM (keyM a) (keyM b) = some (decide (a = b)) := eqMs_u8 a b h
theorem conf_keyF (f : Nat) (k : List UInt8) : confM tab (f + 2) 40 (keyM k) = true := by
 have h1 : Tab.find tab 40 = some (.arr 32 5 1) := rfl
 have h2 := key_conf tab f 5 rfl k
 unfold keyM
 rw [confM.eq_def]
 simp only [h1]
 rw [h2]; rfl
theorem eqT_key : eqT Tryz.prog tab 40 = true := by kernel_rfl
theorem keySide (a b : List UInt8) : eqT Tryz.prog tab 40 = true ∧ confM tab 9 40 (keyM a) = true ∧ confM tab 9 40 (keyM b) = true := ⟨eqT_key, conf_keyF 7 a, conf_keyF 7 b⟩
theorem eqI (a b : Int) : eqM (.int .i64 a) (.int .i64 b) = some (decide (a = b)) := rfl
theorem confI (f : Nat) (a : Int) : confM tab (f + 1) 3 (.int .i64 a) = true := by
 have h1 : Tab.find tab 3 = some (.int .i64) := rfl
 rw [confM.eq_def]
 simp only [h1]
 rfl
structure TipS where
 height : Int
 time : Int
 hash : List UInt8
 app : List UInt8
 res : List UInt8
 deriving DecidableEq
abbrev tipM (t : TipS) : MV := .st [.int .i64 t.height, .int .i64 t.time, keyM t.hash, keyM t.app, keyM t.res]
structure TipOk (t : TipS) : Prop where
 height : I64 t.height
 time : I64 t.time
 hash : t.hash.length = 32
 app : t.app.length = 32
 res : t.res.length = 32
theorem eq_tip {a b : TipS} (ha : TipOk a) (hb : TipOk b) : eqM (tipM a) (tipM b) = some (decide (a = b)) := by
 have k1 := eq_key (a := a.hash) (b := b.hash) (by rw [ha.hash, hb.hash])
 have k3 := eq_key (a := a.app) (b := b.app) (by rw [ha.app, hb.app])
 have k4 := eq_key (a := a.res) (b := b.res) (by rw [ha.res, hb.res])
 obtain ⟨a1, a2, a3, a4, a5⟩ := a
 obtain ⟨b1, b2, b3, b4, b5⟩ := b
 show eqMs [.int .i64 a1, .int .i64 a2, keyM a3, keyM a4, keyM a5] [.int .i64 b1, .int .i64 b2, keyM b3, keyM b4, keyM b5] = _
 dsimp only at k1 k3 k4
 simp only [eqMs, eqI, k1, k3, k4]
 rw [Option.some.injEq, Bool.eq_iff_iff]
 simp [TipS.mk.injEq]
theorem conf_tip (t : TipS) : confM tab 9 42 (tipM t) = true := by
 have h1 : Tab.find tab 42 = some (.struct [(0, 3), (1, 3), (2, 40), (34, 40), (66, 40)] 98) := rfl
 have h2 : Tab.find tab 3 = some (.int .i64) := rfl
 have h3 : Tab.find tab 40 = some (.arr 32 5 1) := rfl
 unfold tipM
 rw [confM.eq_def]
 simp only [h1, confMs, h2, h3, conf_keyF 6, confI 7]
 rfl
theorem tipSide (a b : TipS) : eqT Tryz.prog tab 42 = true ∧ confM tab 9 42 (tipM a) = true ∧ confM tab 9 42 (tipM b) = true := ⟨by kernel_rfl, conf_tip a, conf_tip b⟩
structure BlkS where
 hd : HdS
 txs : List (List UInt8)
 deriving DecidableEq
abbrev blkM (b : BlkS) : MV := .st [hdM b.hd, .sl b.txs.length (b.txs.map rawM)]
end
section
variable {G : GS}
attribute [local irreducible] vOpsN vOpsG vOpsD vOpGD NextD vC SeqQ BlockQ
abbrev keyZ : MV := keyM (List.replicate 32 0)
abbrev hdZ : MV := .st [.int .i64 0, .int .i64 0, .int .i64 0, keyZ, keyZ, keyZ, keyZ]
def genT (l : LgS) : TipS := ⟨0, 0, shaS (digS l), digS l, rdigS []⟩
theorem digS_len (l : LgS) : (digS l).length = 32 := rootS_len _
theorem rgen_m (l : LgS) (hl : SmLg l) : SemC Tryz.prog G 82 [lgM l] (tipM (genT l)) := by
 have c1 := digL_m (G := G) l hl
 have hd := digS_len l
 have c2 := sha_m (G := G) (digS l) (by omega)
 have c3 := rdig_m (G := G) [] (by simp) (by simp)
 unfold genT
 obtain ⟨acs, col⟩ := l
 generalize digS ⟨acs, col⟩ = d at *
 generalize rdigS [] = rd at *
 rw [hd, ← cut_key hd] at c2
 generalize shaS d = sd at *
 unfold lgM at *
 dsimp only at *
 dsimp only [tipM, blkM, hdM]
 refine scq seat Tryz.func82 11 ?_
 refine go1 ?_
 refine yv (c1) ?_
 refine go1 ?_
 refine c_draw [(0, false), (1, true), (2, false), (3, true), (4, false), (5, false)] ?_
 refine go1 ?_
 refine ydv (c2) ?_
 refine go1 ?_
 refine ydv (c3) ?_
 refine go1 ?_
 refine go0 ?_
 rfl
theorem pgen_m (l : LgS) (hl : SmLg l) : SemC Tryz.prog G 61 [lgM l] (tipM (genT l)) := by
 have c1 := pdigL_m (G := G) l hl
 have hd := digS_len l
 have c2 := psha_m (G := G) (digS l) (by omega)
 have c3 := prdig_m (G := G) [] (by simp) (by simp)
 unfold genT
 obtain ⟨acs, col⟩ := l
 generalize digS ⟨acs, col⟩ = d at *
 generalize rdigS [] = rd at *
 rw [hd, ← cut_key hd] at c2
 generalize shaS d = sd at *
 unfold lgM at *
 dsimp only at *
 dsimp only [tipM, blkM, hdM]
 refine scq seat Tryz.func61 11 ?_
 refine go1 ?_
 refine yv (c1) ?_
 refine go1 ?_
 refine c_draw [(0, false), (1, true), (2, false), (3, true), (4, false), (5, false)] ?_
 refine go1 ?_
 refine ydv (c2) ?_
 refine go1 ?_
 refine ydv (c3) ?_
 refine go1 ?_
 refine go0 ?_
 rfl
end
section
variable {G : GS}
theorem place_m (x n : Int) (hn : 0 < n) (hn2 : n < 9223372036854775808) : SemC Tryz.prog G 34 [.int .i64 x, .int .i64 n] (.int .i64 (x % n)) := by
 have hmod := emod_of x n hn
 have h1 : -9223372036854775808 ≤ x.tmod n + n ∧ x.tmod n + n < 9223372036854775808 ∨ ¬ x.tmod n < 0 := by
  have := Int.lt_tmod_of_pos x hn
  omega
 have hne := SideF.mk (show n ≠ 0 by omega)
 refine scq seat Tryz.func34 14 ?_
 refine go1 ?_
 refine c_cond rfl (fun h => ?_) (fun h => ?_)
 ·have hx := of_decide_eq_true h
  rw [if_pos hx] at hmod
  refine go1 ?_
  refine go0 ?_
  exact congrArg (MV.int .i64) hmod
 ·have hx := of_decide_eq_false h
  rw [if_neg hx] at hmod
  refine go1 ?_
  refine go0 ?_
  exact congrArg (MV.int .i64) hmod
def nextV (L : List Int) (N : Nat) (n : Int) : Int := (L[N]?.getD 0) % n
def numB (L : List Int) (N : Nat) : VM := [(0, ⟨130, 2, false, 0, [.st [intsM L, .int .i64 N]]⟩)]
abbrev numP : MV := .ptr 0 2 0 0 []
theorem next_r (L : List Int) (N : Nat) (n : Int) (hn : 0 < n) (hn2 : n < 9223372036854775808) (hN : N < 4611686018427387904) :
  SemR Tryz.prog G 59 [numP, .int .i64 n] (numB L N) 1 (.int .i64 (nextV L N n)) (numB L (N + 1)) 1 := by
 have cp := place_m (G := G) (L[N]?.getD 0) n hn hn2
 unfold nextV
 unfold numB
 generalize hx : (L[N]?.getD 0) = x at *
 by_cases hlt : N < L.length
 ·have hel := SomF.mk (show idxL (L.map (MV.int .i64)) L.length (N : Int) = some (.int .i64 x) by rw [intsM_at hlt, ← hx]; simp [hlt])
  unfold intsM
  refine srq seat Tryz.func59 36 ?_
  refine go1 ?_
  refine c_draw [(0, false), (1, false), (2, false), (3, false), (4, false), (5, false), (6, false), (7, false), (8, false), (9, false)] ?_
  refine go1 ?_
  refine c_cond rfl (fun h => ?_) (fun h => ?_)
  ·refine go1 ?_
   refine c_draw [(0, false), (1, false), (2, false), (3, false), (4, false), (5, false), (6, false), (7, false), (8, false), (9, false), (10, false)] ?_
   refine go1 ?_
   refine yv (cp) ?_
   refine go1 ?_
   exact en [_]
  ·exact absurd (of_decide_eq_false h) (by omega)
 ·have hx0 : x = 0 := by rw [← hx]; simp [hlt]
  subst hx0
  unfold intsM
  refine srq seat Tryz.func59 36 ?_
  refine go1 ?_
  refine c_draw [(0, false), (1, false), (2, false), (3, false), (4, false), (5, false), (6, false), (7, false), (8, false), (9, false)] ?_
  refine go1 ?_
  refine c_cond rfl (fun h => ?_) (fun h => ?_)
  ·exact absurd (of_decide_eq_true h) (by omega)
  ·refine go1 ?_
   refine yv (cp) ?_
   refine go1 ?_
   exact en [_]
end
section
def SemN (G : GS) (L : List Int) (f : FuncId) (args : List MV) (k : Nat) (P : MV → Nat → Prop) : Prop := SemE Tryz.prog G f args (numB L k) 1 fun r M n => ∃ k', (P r k' ∧ nfree r = true) ∧ M = numB L k' ∧ n = 1
section
variable {Pg : Program} {T : Tab} {N : Nat} {ents : List FuncId} {G : GS} {ops : Array Oper} {d : Tmp} {ty : TypeId} {pos : String} {after : Array Edge} {g : Option (Nat × Bool)} {rest : List Oper} {K : VK} {E : VE} {M : VM} {n : Nat}
 {f : Operand} {args : Array Operand} {ats : Array TypeId} {f0 : FuncId} {vs : List MV}
theorem g_callN1 (hd : Nat.blt d N = true) (h1 : ∀ R : FuncId × List MV → Prop, R (f0, vs) → (vArgs E f args.toList).runP R) (h2 : ents.contains f0 = true) {args' : List MV} {L : List Int} {k : Nat} {P : MV → Nat → Prop} (hc : SemN G L f0 args' k P) (hg : Pg = Tryz.prog) (b : Nat) (bs : List (Nat × Nat))
  (hm : LMatch 0 args' (numB L k) 1 vs M [(0, b)] bs) (h3 : allIn M [(0, b)] = true) (h : ∀ r k', P r k' → vOpsN Pg T N ents G ops rest K ((d, r) :: E) (renM (rho n [(0, b)]) (numB L k') ++ delM (VM.bump M bs) [(0, b)]) (n + 1)) : vOpsG Pg T N ents G ops ⟨some d, .call ⟨.value f, args, ats⟩, ty, pos, after, g⟩ rest K E M n := by
 subst hg
 refine g_callE1 hd h1 h2 hc [(0, b)] bs hm h3 ?_
 rintro r _ _ ⟨k', ⟨hP, hf⟩, rfl, rfl⟩
 refine ⟨rfl, ?_⟩
 rw [renV_nfree r hf]
 exact h r k' hP
end
theorem next_b {G : GS} (L : List Int) (k n : Nat) (hn : 0 < n) (hn2 : n < 4611686018427387904) (hk : k < 4611686018427387904) : ∃ x : Nat, x < n ∧ SemR Tryz.prog G 59 [numP, .int .i64 (n : Int)] (numB L k) 1 (.int .i64 (x : Int)) (numB L (k + 1)) 1 := by
 have h1 := Int.emod_nonneg (L[k]?.getD 0) (show (n : Int) ≠ 0 by omega)
 have h2 := Int.emod_lt_of_pos (L[k]?.getD 0) (show (0 : Int) < n by omega)
 refine ⟨(nextV L k n).toNat, by unfold nextV; omega, ?_⟩
 rw [show (((nextV L k n).toNat : Nat) : Int) = nextV L k n by unfold nextV; omega]
 exact next_r L k n (by omega) (by omega) hk
end
section
variable {G : GS}
attribute [local irreducible] vOpsN vOpsG vOpsD vOpGD NextD vC SeqQ BlockQ
structure Ent where
 key : List UInt8
 raw : List UInt8
 sender : List UInt8
 seq : Int
 gas : Int
 prio : Int
 height : Int
 time : Int
 order : Int
 peers : List Int
def entM (e : Ent) : MV := .st [keyM e.key, .sl e.raw.length (u8s e.raw), .str e.sender, .int .u64 e.seq, .int .u64 e.gas, .int .u64 e.prio, .int .i64 e.height, .int .i64 e.time, .int .i64 e.order, intsM e.peers]
theorem ents_at {l : List Ent} {k : Nat} (hk : k < l.length) : idxL (l.map entM) l.length (k : Int) = some (entM l[k]) := index_at hk (by simp [hk])
end
section
variable {G : GS}
attribute [local irreducible] vOpsN vOpsG vOpsD vOpGD NextD vC SeqQ BlockQ
theorem keys_at {l : List (List UInt8)} {k : Nat} (hk : k < l.length) : idxL (l.map keyM) l.length (k : Int) = some (keyM l[k]) := index_at hk (by simp [hk])
theorem head_keys : ∀ (l : List (List UInt8)), headSize (l.map keyM) 32 = true
 | [] => rfl
 | _ :: _ => rfl
end
section
variable {G : GS}
attribute [local irreducible] vOpsN vOpsG vOpsD vOpGD NextD vC SeqQ BlockQ
theorem from_r (L : List Int) : SemR Tryz.prog G 14 [intsM L] [] 0 numP (numB L 0) 1 := by
 refine srq seat Tryz.func14 6 ?_
 refine go1 ?_
 exact eb [_] [(0, 3)] []
end
section
variable {G : GS}
attribute [local irreducible] vOpsN vOpsG vOpsD vOpGD NextD vC SeqQ BlockQ
theorem acn_at {k : Nat} (hk : k < 4) : ∃ nm : List UInt8, nthM [MV.str [97, 110, 110], MV.str [98, 111, 98], MV.str [101, 118, 101], MV.str [122, 111, 101]] (0 + k) = some (.str nm) ∧ nm.length ≤ 5 := by
 have h4 : k = 0 ∨ k = 1 ∨ k = 2 ∨ k = 3 := by omega
 rcases h4 with rfl | rfl | rfl | rfl <;> exact ⟨_, rfl, by decide⟩
theorem acb_at {k : Nat} (hk : k < 5) : ∃ v : Nat, nthM [MV.int .u64 100000, MV.int .u64 5000, MV.int .u64 700, MV.int .u64 0, MV.int .u64 1099511627776] (0 + k) = some (.int .u64 (v : Int)) ∧ U64 v := by
 have h5 : k = 0 ∨ k = 1 ∨ k = 2 ∨ k = 3 ∨ k = 4 := by omega
 rcases h5 with rfl | rfl | rfl | rfl | rfl
 ·exact ⟨100000, rfl, by decide⟩
 ·exact ⟨5000, rfl, by decide⟩
 ·exact ⟨700, rfl, by decide⟩
 ·exact ⟨0, rfl, by decide⟩
 ·exact ⟨1099511627776, rfl, by decide⟩
theorem acq_at {k : Nat} (hk : k < 3) : ∃ v : Nat, nthM [MV.int .u64 5, MV.int .u64 18446744073709551615, MV.int .u64 18446744073709551614] (0 + k) = some (.int .u64 (v : Int)) ∧ U64 v := by
 have h3 : k = 0 ∨ k = 1 ∨ k = 2 := by omega
 rcases h3 with rfl | rfl | rfl
 ·exact ⟨5, rfl, by decide⟩
 ·exact ⟨18446744073709551615, rfl, by decide⟩
 ·exact ⟨18446744073709551614, rfl, by decide⟩
theorem accounts_n (L : List Int) (N : Nat) (hN : N < 4000000000000000000) : SemN G L 29 [numP] N fun r N' => ∃ acs : List AcS, acs.length ≤ 4 ∧ (∀ a ∈ acs, SmAc a) ∧ N' ≤ N + 14 ∧ r = .sl acs.length (acs.map acM) := by
 obtain ⟨m, hm, cm⟩ := next_b (G := G) L N 4 (by omega) (by omega) (by omega)
 unfold SemN
 refine semE_of_vc seat Tryz.func29 rfl rfl (Nat.le_of_ble_eq_true rfl) (Nat.le_of_ble_eq_true rfl) (N := 36) rfl rfl ?_
 refine go1 ?_
 refine yc (cm) [(0, 0)] ?_
 refine go1 ?_
 refine c_loop (Nat × Nat × List AcS) (fun x => [(4, .int .i64 ((x.1 : Int) - 1)), (3, .ms 1 3 0 x.2.2.length), (0, numP)]) (fun x => numB L x.2.1 ++ [(1, ⟨126, 3, true, 0, x.2.2.map acM⟩)]) 2 (fun x => x.1 + x.2.2.length ≤ 4 ∧ x.2.1 + 3 * x.1 ≤ N + 14 ∧ (∀ a ∈ x.2.2, SmAc a)) (fun x => x.1) (m + 1, N + 1, []) ⟨by simp; omega, by dsimp only; omega, by simp⟩ (by dsimp only; exact vm [] []) ?_
 rintro ⟨j, K, acs⟩ ⟨h1, h2, h3⟩
 try dsimp only
 dsimp only at h1 h2 h3
 refine go1 ?_
 refine c_cond rfl (fun h => ?_) (fun h => ?_)
 ·have hj : 1 ≤ j := by have := of_decide_eq_true h; omega
  obtain ⟨i, rfl⟩ : ∃ i, j = i + 1 := ⟨j - 1, by omega⟩
  have hcast : ((i + 1 : Nat) : Int) - 1 = (i : Int) := by omega
  rw [hcast]
  obtain ⟨nm, f1, g1⟩ := acn_at (k := i) (by omega)
  obtain ⟨x5, hx5, c5⟩ := next_b (G := G) L K 5 (by omega) (by omega) (by omega)
  obtain ⟨bal, f2, g2⟩ := acb_at (k := x5) hx5
  obtain ⟨x6, hx6, c6⟩ := next_b (G := G) L (K + 1) 6 (by omega) (by omega) (by omega)
  obtain ⟨x3, hx3, c3⟩ := next_b (G := G) L (K + 1 + 1) 3 (by omega) (by omega) (by omega)
  obtain ⟨sq, f3, g3⟩ := acq_at (k := x3) hx3
  have f1 := SomF.mk f1
  have f2 := SomF.mk f2
  have f3 := SomF.mk f3
  have i1 := SomF.mk (idx_at (n := 4) (k := i) (by omega))
  have i2 := SomF.mk (idx_at hx5)
  have i3 := SomF.mk (idx_at hx3)
  have hll : (acs.map acM).length = acs.length := by simp
  refine go1 ?_
  refine c_draw [(0, false), (1, false), (2, false), (3, false), (4, false), (5, false), (6, true), (7, false), (8, false), (9, false), (10, false), (11, false)] ?_
  refine go1 ?_
  refine gd_callR1 rfl (fun _ h => h) rfl [0] (c5) [(0, 0)] [] ⟨rfl, trivial, rfl, lm, mm⟩ rfl rfl rfl rfl rfl ?_
  refine go1 ?_
  refine yc (c6) [(0, 0)] ?_
  refine go1 ?_
  refine c_cond rfl (fun h => ?_) (fun h => ?_)
  ·refine go1 ?_
   refine yc (c3) [(0, 0)] ?_
   refine go1 ?_
   refine g_mem rfl rfl (by intro R hR; refine sms hR ?_; (refine And.intro (Nat.le_refl _) ?_; refine ⟨_, rfl, ?_⟩; refine And.intro ⟨hll, app_ok (by kernel_rfl) pf⟩ ?_; refine ⟨(acs ++ [(⟨nm, bal, sq⟩ : AcS)]).map acM, sv (by rw [List.map_append]; rfl), acs.length + 1, sv pf, ?_⟩); exact hR) rfl ?_
   refine go1 ?_
   exact ⟨(i, K + 1 + 1 + 1, acs ++ [⟨nm, bal, sq⟩]), ⟨by dsimp only; rw [List.length_append, List.length_singleton]; omega, by dsimp only; omega, all_app h3 fun a ha => by rw [List.mem_singleton.1 ha]; exact ⟨by dsimp only; omega, g2, g3⟩⟩, by dsimp only; omega, (by dsimp only; rw [List.length_append, List.length_singleton]; exact (vm [(1, _)] []))⟩
  ·refine go1 ?_
   refine g_mem rfl rfl (by intro R hR; refine sms hR ?_; (refine And.intro (Nat.le_refl _) ?_; refine ⟨_, rfl, ?_⟩; refine And.intro ⟨hll, app_ok (by kernel_rfl) pf⟩ ?_; refine ⟨(acs ++ [(⟨nm, bal, 0⟩ : AcS)]).map acM, sv (by rw [List.map_append]; rfl), acs.length + 1, sv pf, ?_⟩); exact hR) rfl ?_
   refine go1 ?_
   exact ⟨(i, K + 1 + 1, acs ++ [⟨nm, bal, 0⟩]), ⟨by dsimp only; rw [List.length_append, List.length_singleton]; omega, by dsimp only; omega, all_app h3 fun a ha => by rw [List.mem_singleton.1 ha]; exact ⟨by dsimp only; omega, g2, by simp [U64]⟩⟩, by dsimp only; omega, (by dsimp only; rw [List.length_append, List.length_singleton]; exact (vm [(1, _)] []))⟩
 ·refine go1 ?_
  refine ⟨_, _, _, ⟨K, ⟨⟨acs, by omega, h3, by omega, rfl⟩, rfl⟩, rfl, rfl⟩, ?_⟩; refine ⟨[_], [], [(1, acs.length)], rfl, rfl, ?_, rfl, ⟨?_, trivial⟩, ?_⟩
  ·exact ⟨by show acs.length ≤ (acs.map acM).length; simp, trivial⟩
  ·exact .inr ⟨rfl, rfl, rfl, Nat.le_of_eq (Nat.zero_add _), cut_all acM acs⟩
  ·exact mm
structure CfS where
 maxTxs : Int
 maxBytes : Int
 maxTx : Int
 cache : Int
 ttlB : Int
 ttlT : Int
 keep : Bool
 blkB : Int
 blkG : Int
 price : Nat
 self : Int
 nodes : Int
abbrev cfM (c : CfS) : MV := .st [.int .i64 c.maxTxs, .int .i64 c.maxBytes, .int .i64 c.maxTx, .int .i64 c.cache, .int .i64 c.ttlB, .int .i64 c.ttlT, .bool c.keep, .int .i64 c.blkB, .int .i64 c.blkG, .int .u64 c.price, .int .i64 c.self, .int .i64 c.nodes]
structure CfOk (c : CfS) : Prop where
 maxTxs : 1 ≤ c.maxTxs ∧ c.maxTxs ≤ 512
 maxBytes : 1 ≤ c.maxBytes ∧ c.maxBytes ≤ 1048576
 maxTx : 1 ≤ c.maxTx ∧ c.maxTx ≤ 4096
 cache : 0 ≤ c.cache ∧ c.cache ≤ 1024
 ttlB : 0 ≤ c.ttlB ∧ c.ttlB ≤ 1073741824
 ttlT : 0 ≤ c.ttlT ∧ c.ttlT ≤ 1073741824
 blkB : 1 ≤ c.blkB ∧ c.blkB ≤ 1048576
 blkG : -1 ≤ c.blkG ∧ c.blkG ≤ 1125899906842624
 price : U64 c.price
 self : 0 ≤ c.self ∧ c.self < c.nodes
 nodes : c.nodes ≤ 8
abbrev cfZ : MV := .st [.int .i64 0, .int .i64 0, .int .i64 0, .int .i64 0, .int .i64 0, .int .i64 0, .bool false, .int .i64 0, .int .i64 0, .int .u64 0, .int .i64 0, .int .i64 0]
end
section
variable {G : GS}
attribute [local irreducible] vOpsN vOpsG vOpsD vOpGD NextD vC SeqQ BlockQ
structure StS where
 cfg : CfS
 app : AppS
 height : Int
 time : Int
 arr : Int
 ents : List Ent
 cache : List (List UInt8)
abbrev stM (s : StS) : MV := .st [cfM s.cfg, appM s.app, .int .i64 s.height, .int .i64 s.time, .int .i64 s.arr, .sl s.ents.length (s.ents.map entM), .sl s.cache.length (s.cache.map keyM)]
end
section
variable {G : GS}
attribute [local irreducible] vOpsN vOpsG vOpsD vOpGD NextD vC SeqQ BlockQ
abbrev appZ : MV := .st [lgZ, lgZ, lgZ, .bool false, .int .u64 0]
abbrev stZ : MV := .st [cfZ, appZ, .int .i64 0, .int .i64 0, .int .i64 0, .nils, .nils]
end
section
variable {G : GS}
attribute [local irreducible] vOpsN vOpsG vOpsD vOpGD NextD vC SeqQ BlockQ
abbrev k0 : List MV := u8s (List.replicate 32 0)
end
section
variable {G : GS}
attribute [local irreducible] vOpsN vOpsG vOpsD vOpGD NextD vC SeqQ BlockQ
theorem pname_m (s : List UInt8) (hs : s.length ≤ 140737488355328) : SemC Tryz.prog G 201 [.str s] (.bool (nameS s)) := by
 generalize hr : nameS s = r
 unfold nameS at hr
 refine scq seat Tryz.func201 40 ?_
 refine go1 ?_
 refine c_loop Nat (fun i => [(7, .int .i64 i), (6, .int .i64 s.length), (0, .str s)]) (fun _ => []) 0 (fun i => i ≤ s.length ∧ (s.take i).all okCh = true) (fun i => s.length - i) 0 ⟨Nat.zero_le _, by simp⟩ (vm [] []) ?_
 rintro i ⟨hi, hp⟩
 try dsimp only
 refine go1 ?_
 refine c_cond rfl (fun h => ?_) (fun h => ?_)
 ·have hi' : i < s.length := by have := of_decide_eq_true h; omega
  have f0 := SomF.mk (idxS_at hi')
  have hsu : (s.take (i + 1)).all okCh = ((s.take i).all okCh && okCh (s.getD i 0)) := by
   rw [List.take_succ_eq_append_getElem hi', List.all_append]; simp [hi']
  have hall : okCh (s.getD i 0) = false → s.all okCh = false := fun h => by
   rw [← List.take_append_drop (i + 1) s, List.all_append, hsu, h]; simp
  generalize s.getD i 0 = c at *
  by_cases hc : okCh c = true
  ·rw [hp, hc] at hsu
   have hc' := of_decide_eq_true hc
   (iterate 8 ((all_goals (refine go1 ?_)); (all_goals (first | (refine n_guard rfl rfl (fun h => ?_) rfl (fun h => ?_); all_goals ((try simp only [pl] at h); (try (exfalso; omega)))) | (refine c_cond rfl (fun h => ?_) (fun h => ?_); all_goals ((try simp only [pl] at h); (try (exfalso; omega)))) | skip))))
   all_goals exact ⟨i + 1, ⟨by omega, by rw [hsu]; rfl⟩, by show s.length - (i + 1) < s.length - i; omega, (by dsimp only; exact (vm [] []))⟩
  ·have hcf : okCh c = false := by simpa using hc
   rw [hall hcf, Bool.false_and] at hr
   subst hr
   have hc' := of_decide_eq_false hcf
   (iterate 8 ((all_goals (refine go1 ?_)); (all_goals (first | (refine n_guard rfl rfl (fun h => ?_) rfl (fun h => ?_); all_goals ((try simp only [pl] at h); (try (exfalso; omega)))) | (refine c_cond rfl (fun h => ?_) (fun h => ?_); all_goals ((try simp only [pl] at h); (try (exfalso; omega)))) | skip))))
   all_goals (refine go0 ?_; rfl)
 ·have hi' : i = s.length := by have := of_decide_eq_false h; omega
  subst hi'
  rw [List.take_length] at hp
  rw [hp, Bool.true_and] at hr
  subst hr
  (iterate 4 ((all_goals (refine go1 ?_)); (all_goals (first | (refine n_guard rfl rfl (fun h => ?_) rfl (fun h => ?_); all_goals ((try simp only [pl] at h); (try (exfalso; omega)))) | (refine c_cond rfl (fun h => ?_) (fun h => ?_); all_goals ((try simp only [pl] at h); (try (exfalso; omega)))) | skip))))
  all_goals (refine go0 ?_; exact congrArg MV.bool (by first | exact decide_eq_decide.2 (by omega) | exact (decide_eq_false (by omega)).symm))
end
section
variable {G : GS}
attribute [local irreducible] vOpsN vOpsG vOpsD vOpGD NextD vC SeqQ BlockQ
theorem add64_p (a b : Nat) : SemP Tryz.prog G 245 [.int .u64 a, .int .u64 b, .int .u64 0] [] 0 (.tup [.int .u64 ((a + b) % 18446744073709551616 : Nat), .int .u64 ((a + b) / 18446744073709551616 : Nat)]) [] 0 := by
 intro w P adr vals hg hI hn hL hargs
 cases hargs with | cons a1 hargs => cases hargs with | cons a2 hargs => cases hargs with | cons a3 hargs =>
 cases hargs
 have e1 := a1.int_
 have e2 := a2.int_
 have e3 := a3.int_
 subst e1 e2 e3
 have hf : (callFunc 245 #[.int .u64 a, .int .u64 b, .int .u64 0]).run Tryz.prog w = _ :=
  run_callFunc_extern Tryz.func245 (by kernel_rfl) (by kernel_rfl) (by kernel_rfl) (e := add64Entry) (by kernel_rfl) _ w
 refine ⟨.tuple #[.int .u64 ((a + b) % 18446744073709551616 : Nat), .int .u64 ((a + b) / 18446744073709551616 : Nat)], w, hf.trans ?_, _, rfl, P, adr, hI, .tup [.int .u64 ((a + b) % 18446744073709551616 : Nat), .int .u64 ((a + b) / 18446744073709551616 : Nat)] rfl (fun j m u hj hu => ?_), Keep.refl _ _ _, fun _ _ => rfl, hn, fun c g hc => .inr ⟨c, hc⟩, fun b o ho => .inl ho, Since.refl _ _⟩
 ·have h := run_add64 (P := Tryz.prog) (a : Int) (b : Int) 0 (by omega) (by omega) (by omega) (by omega) w
  rw [h]
  have e1 : ((a : Int) + b + 0) % 18446744073709551616 = ((a + b) % 18446744073709551616 : Nat) := by omega
  have e2 : ((a : Int) + b + 0) / 18446744073709551616 = ((a + b) / 18446744073709551616 : Nat) := by omega
  rw [e1, e2]
  rfl
 ·match j with
  | 0 => simp at hj hu; subst hj; subst hu; exact ⟨_, .int, rfl⟩
  | 1 => simp at hj hu; subst hj; subst hu; exact ⟨_, .int, rfl⟩
  | j + 2 => simp at hj
theorem only_m (n : Nat) (ok : Bool) : SemC Tryz.prog G 246 [.int .u64 n, .bool ok] (.tup [.int .u64 (if ok then n else 0 : Nat), .bool ok]) := by
 cases ok
 ·refine scq seat Tryz.func246 9 ?_
  refine go1 ?_
  (iterate 4 ((all_goals (refine go1 ?_)); (all_goals (first | (refine n_guard rfl rfl (fun h => ?_) rfl (fun h => ?_); all_goals ((try simp only [pl] at h); (try (exfalso; omega)))) | (refine c_cond rfl (fun h => ?_) (fun h => ?_); all_goals ((try simp only [pl] at h); (try (exfalso; omega)))) | skip))))
  all_goals (refine go0 ?_)
  all_goals rfl
 ·refine scq seat Tryz.func246 9 ?_
  refine go1 ?_
  (iterate 4 ((all_goals (refine go1 ?_)); (all_goals (first | (refine n_guard rfl rfl (fun h => ?_) rfl (fun h => ?_); all_goals ((try simp only [pl] at h); (try (exfalso; omega)))) | (refine c_cond rfl (fun h => ?_) (fun h => ?_); all_goals ((try simp only [pl] at h); (try (exfalso; omega)))) | skip))))
  all_goals (refine go0 ?_)
  all_goals rfl
theorem padd_m (a b : Nat) (ha : U64 a) (hb : U64 b) : SemC Tryz.prog G 232 [.int .u64 a, .int .u64 b] (.tup [.int .u64 (addS a b).1, .bool (addS a b).2]) := by
 unfold U64 at ha hb
 have c0 := add64_p (G := G) a b
 have c1 := only_m (G := G) ((a + b) % 18446744073709551616) (((a + b) / 18446744073709551616 : Nat) == (0 : Int))
 have hres : (.tup [.int .u64 (if (((a + b) / 18446744073709551616 : Nat) == (0 : Int)) then (a + b) % 18446744073709551616 else 0 : Nat), .bool (((a + b) / 18446744073709551616 : Nat) == (0 : Int))] : MV) = .tup [.int .u64 (addS a b).1, .bool (addS a b).2] := by
  unfold addS
  by_cases h : a + b < 18446744073709551616
  ·have e1 : (a + b) / 18446744073709551616 = 0 := by omega
   have e2 : (a + b) % 18446744073709551616 = a + b := by omega
   simp [h, e1, e2]
  ·have e1 : (((a + b) / 18446744073709551616 : Nat) == (0 : Int)) = false := by rw [beq_eq_false_iff_ne]; omega
   rw [e1]
   simp [h]
 rw [hres] at c1
 generalize addS a b = p at *
 obtain ⟨v, ok⟩ := p
 refine scq seat Tryz.func232 20 ?_
 refine go1 ?_
 refine g_callP1 rfl (fun _ h => h) rfl (c0) [] [] ⟨rfl, trivial, rfl, lm, mm⟩ rfl rfl ?_
 refine go1 ?_
 refine yv (c1) ?_
 refine go1 ?_
 refine go0 ?_
 rfl
theorem psum_u (l : List Nat) (hl : l.length ≤ 1000000) (hs : ∀ a ∈ l, U64 a) : SemC Tryz.prog G 223 [.sl l.length (u64s l)] (.tup [.int .u64 (sumG l 0).1, .bool (sumG l 0).2]) := by
 have h0 : U64 0 := by unfold U64; omega
 generalize hv : sumG l 0 = v
 obtain ⟨S, ok⟩ := v
 dsimp only
 refine scq seat Tryz.func223 26 ?_
 refine go1 ?_
 refine c_loop (Nat × Nat) (fun x => [(11, .int .i64 x.1), (10, .int .i64 l.length), (9, .sl l.length (u64s l)), (4, .int .u64 x.2)]) (fun _ => []) 0 (fun x => x.1 ≤ l.length ∧ U64 x.2 ∧ sumG (l.drop x.1) x.2 = (S, ok)) (fun x => l.length - x.1) (0, 0) ⟨Nat.zero_le _, h0, by rw [List.drop_zero]; exact hv⟩ (vm [] []) ?_
 clear hv
 rintro ⟨k, z⟩ ⟨hk, hz, hR⟩
 try dsimp only
 dsimp only at hk hz hR
 refine go1 ?_
 refine c_cond rfl (fun h => ?_) (fun h => ?_)
 ·have hk' : k < l.length := by have := of_decide_eq_true h; omega
  have hel := SomF.mk (u64s_at hk')
  have c1 := padd_m (G := G) z l[k] hz (hs _ (List.getElem_mem hk'))
  have hza : U64 (addS z l[k]).1 := by
   unfold addS
   split
   ·assumption
   ·exact h0
  rw [List.drop_eq_getElem_cons hk', sumG] at hR
  generalize l[k] = e at *
  generalize addS z e = p at *
  obtain ⟨y, b⟩ := p
  dsimp only at c1 hR hza
  cases b with
  | true =>
   simp only [if_true] at hR
   refine go1 ?_
   (iterate 4 ((all_goals (refine go1 ?_)); (all_goals (first | (refine g_call3 rfl (fun _ h => h) rfl (semR_of_semC (c1)) rfl rfl ?_) | (refine n_guard rfl rfl (fun h => ?_) rfl (fun h => ?_); all_goals ((try simp only [pl] at h); (try (exfalso; omega)))) | (refine c_cond rfl (fun h => ?_) (fun h => ?_); all_goals ((try simp only [pl] at h); (try (exfalso; omega)))) | skip))))
   exact ⟨(k + 1, y), ⟨by show k + 1 ≤ l.length; omega, hza, hR⟩, by show l.length - (k + 1) < l.length - k; omega, (by dsimp only; exact (vm [] []))⟩
  | false =>
   simp only [Bool.false_eq_true, if_false, Prod.mk.injEq] at hR
   obtain ⟨rfl, rfl⟩ := hR
   refine go1 ?_
   (iterate 4 ((all_goals (refine go1 ?_)); (all_goals (first | (refine g_call3 rfl (fun _ h => h) rfl (semR_of_semC (c1)) rfl rfl ?_) | (refine n_guard rfl rfl (fun h => ?_) rfl (fun h => ?_); all_goals ((try simp only [pl] at h); (try (exfalso; omega)))) | (refine c_cond rfl (fun h => ?_) (fun h => ?_); all_goals ((try simp only [pl] at h); (try (exfalso; omega)))) | skip))))
   all_goals (refine go0 ?_)
   all_goals rfl
 ·have hk' : k = l.length := by have := of_decide_eq_false h; omega
  subst hk'
  rw [List.drop_length, sumG] at hR
  simp only [Prod.mk.injEq] at hR
  obtain ⟨rfl, rfl⟩ := hR
  refine go1 ?_
  all_goals (refine go0 ?_)
  all_goals rfl
end
section
variable {G : GS}
attribute [local irreducible] vOpsN vOpsG vOpsD vOpGD NextD vC SeqQ BlockQ
theorem totS_sum : ∀ (l : List AcS) (s : Nat), sumG (l.map (·.bal)) s = totS l s
 | [], _ => rfl
 | a :: r, s => by
  rw [List.map_cons, sumG, totS, totS_sum r]
theorem totS_col (l : List AcS) {c : Nat} (hc : U64 c) : sumG (c :: l.map (·.bal)) 0 = totS l c := by
 unfold U64 at hc
 rw [sumG, show addS 0 c = (c, true) by unfold addS; rw [if_pos (by omega), Nat.zero_add], if_pos rfl, totS_sum]
theorem u64s_pushB (f : Nat) (l : List AcS) {k : Nat} (hk : k < l.length) : u64s (f :: (l.take (k + 1)).map (·.bal)) = u64s (f :: (l.take k).map (·.bal)) ++ [.int .u64 (l[k].bal : Int)] := by
 rw [List.take_succ_eq_append_getElem hk, List.map_append, ← List.cons_append]
 unfold u64s
 rw [List.map_append]
 rfl
theorem less_eq : ∀ (x y : List UInt8), Op.bytesLess x y = decide (x < y)
 | [], [] => by simp [Op.bytesLess]
 | _ :: _, [] => by simp [Op.bytesLess]
 | [], _ :: _ => by simp [Op.bytesLess]
 | a :: x, b :: y => by
  rw [Op.bytesLess, less_eq x y]
  simp only [List.cons_lt_cons_iff]
  by_cases h1 : a < b <;> by_cases h2 : a = b <;> by_cases h3 : x < y <;> simp [h1, h2, h3]
theorem less_irr (x : List UInt8) : Op.bytesLess x x = false := by rw [less_eq]; simp [List.lt_irrefl]
theorem less_trans {x y z : List UInt8} (h : Op.bytesLess x y = true) (k : Op.bytesLess y z = true) : Op.bytesLess x z = true := by
 rw [less_eq, decide_eq_true_eq] at h k ⊢
 exact List.lt_trans h k
theorem less_asym {x y : List UInt8} (h : Op.bytesLess x y = true) : Op.bytesLess y x = false := by
 cases hk : Op.bytesLess y x with
 | false => rfl
 | true => have := less_trans h hk; rw [less_irr] at this; cases this
theorem less_tot {x y : List UInt8} (h : Op.bytesLess x y = false) (hne : x ≠ y) : Op.bytesLess y x = true := by
 rw [less_eq, decide_eq_false_iff_not, List.not_lt] at h
 rw [less_eq, decide_eq_true_eq]
 exact Std.lt_of_le_of_ne h (Ne.symm hne)
def cmpN (a b : List UInt8) : Int := if Op.bytesLess a b = true then -1 else if (!(Op.bytesLess a b || a == b)) = true then 1 else 0
theorem cmpN_lt (a b : List UInt8) : cmpN a b < 0 ↔ Op.bytesLess a b = true := by
 unfold cmpN
 split
 ·rename_i h; simp [h]
 ·rename_i h; split <;> simp [h]
end
section
def SrtA (l : List AcS) : Prop := l.Pairwise fun a b => Op.bytesLess a.name b.name = true
def posA (nm : List UInt8) (l : List AcS) : Nat := (l.takeWhile fun a => Op.bytesLess a.name nm).length
theorem posA_cons (nm : List UInt8) (a : AcS) (r : List AcS) : posA nm (a :: r) = if Op.bytesLess a.name nm = true then posA nm r + 1 else 0 := by
 unfold posA
 rw [List.takeWhile_cons]
 split <;> simp [*]
theorem posA_le (nm : List UInt8) : ∀ l, posA nm l ≤ l.length
 | [] => Nat.le_refl _
 | a :: r => by
  rw [posA_cons]
  have := posA_le nm r
  split
  ·simp; omega
  ·exact Nat.zero_le _
theorem posA_lt {nm : List UInt8} : ∀ {l : List AcS}, SrtA l → ∀ {k : Nat} (hk : k < l.length), Op.bytesLess l[k].name nm = true ↔ k < posA nm l
 | [], _, _, hk => absurd hk (Nat.not_lt_zero _)
 | a :: r, hs, k, hk => by
  have hs' := List.pairwise_cons.1 hs
  rw [posA_cons]
  cases k with
  | zero =>
   rw [List.getElem_cons_zero]
   split
   ·rename_i h; simp [h]
   ·rename_i h; simp [h]
  | succ k =>
   rw [List.getElem_cons_succ]
   have hk' : k < r.length := by simpa using hk
   have ih := posA_lt (nm := nm) hs'.2 hk'
   split
   ·rw [ih]; omega
   ·rename_i h
    refine ⟨fun h2 => absurd (less_trans (hs'.1 _ (List.getElem_mem hk')) h2) h, fun h2 => absurd h2 (Nat.not_lt_zero _)⟩
theorem getS_pos {nm : List UInt8} : ∀ {l : List AcS}, SrtA l → ((getS l nm).2 = true ∧ l[posA nm l]? = some (getS l nm).1 ∧ (getS l nm).1.name = nm) ∨ ((getS l nm).2 = false ∧ ∀ a ∈ l, a.name ≠ nm)
 | [], _ => .inr ⟨rfl, by simp⟩
 | a :: r, hs => by
  have hs' := List.pairwise_cons.1 hs
  by_cases h : a.name = nm
  ·have e : getS (a :: r) nm = (a, true) := by unfold getS; rw [List.find?_cons_of_pos (by simp [h])]
   rw [e, posA_cons, h, less_irr]
   exact .inl ⟨rfl, rfl, by first | rfl | exact h⟩
  ·have e : getS (a :: r) nm = getS r nm := by unfold getS; rw [List.find?_cons_of_neg (by simp [h])]
   rw [e, posA_cons]
   rcases getS_pos (nm := nm) hs'.2 with ⟨h1, h2, h3⟩ | ⟨h1, h2⟩
   ·have hlt : Op.bytesLess a.name nm = true := by
     have := hs'.1 _ (List.mem_of_getElem? h2)
     rwa [h3] at this
    rw [if_pos hlt]
    exact .inl ⟨h1, by rw [List.getElem?_cons_succ]; exact h2, h3⟩
   ·exact .inr ⟨h1, fun x hx => (List.mem_cons.1 hx).elim (fun e => e ▸ h) (h2 x)⟩
theorem findS_no {nm : List UInt8} : ∀ {l : List AcS} {i : Nat}, (∀ a ∈ l, a.name ≠ nm) → findS nm l i = -1
 | [], _, _ => rfl
 | a :: r, i, h => by rw [findS, if_neg (h a (List.mem_cons_self ..))]; exact findS_no fun x hx => h x (List.mem_cons_of_mem _ hx)
theorem findS_pos {nm : List UInt8} : ∀ {l : List AcS} {i : Nat}, SrtA l → (getS l nm).2 = true → findS nm l i = ((i + posA nm l : Nat) : Int)
 | [], _, _, h => by cases h
 | a :: r, i, hs, h => by
  have hs' := List.pairwise_cons.1 hs
  rw [findS, posA_cons]
  by_cases e : a.name = nm
  ·rw [if_pos e, e, less_irr]; rfl
  ·have e2 : getS (a :: r) nm = getS r nm := by unfold getS; rw [List.find?_cons_of_neg (by simp [e])]
   rw [e2] at h
   have hlt : Op.bytesLess a.name nm = true := by
    rcases getS_pos (nm := nm) hs'.2 with ⟨_, h2, h3⟩ | ⟨h1, _⟩
    ·have := hs'.1 _ (List.mem_of_getElem? h2)
     rwa [h3] at this
    ·rw [h1] at h; cases h
   rw [if_neg e, if_pos hlt, findS_pos (nm := nm) hs'.2 h]
   congr 1
   omega
theorem putS_set {a : AcS} {l : List AcS} (hs : SrtA l) (h : (getS l a.name).2 = true) : putS a l = l.set (posA a.name l) a := by
 unfold putS
 rw [findS_pos hs h, Nat.zero_add, if_pos (by omega)]
 rfl
theorem putS_ins {a : AcS} {l : List AcS} (hs : SrtA l) (h : (getS l a.name).2 = false) : putS a l = l.take (posA a.name l) ++ a :: l.drop (posA a.name l) := by
 unfold putS
 have hno : ∀ x ∈ l, x.name ≠ a.name := by
  rcases getS_pos (nm := a.name) hs with ⟨h1, _, _⟩ | ⟨_, h2⟩
  ·rw [h1] at h; cases h
  ·exact h2
 rw [findS_no hno, if_neg (by decide)]
 refine insA_at a l _ (posA_le _ _) (fun j hj hlt => (posA_lt hs hj).2 hlt) (fun hk => ?_)
 cases hb : Op.bytesLess l[posA a.name l].name a.name with
 | false => rfl
 | true => exact absurd ((posA_lt hs hk).1 hb) (Nat.lt_irrefl _)
theorem srt_set {a : AcS} : ∀ {l : List AcS}, SrtA l → (getS l a.name).2 = true → SrtA (l.set (posA a.name l) a)
 | [], _, h => by cases h
 | b :: r, hs, h => by
  have hs' := List.pairwise_cons.1 hs
  rw [posA_cons]
  by_cases e : b.name = a.name
  ·rw [e, less_irr, if_neg (by simp), List.set_cons_zero]
   exact List.pairwise_cons.2 ⟨fun x hx => by rw [← e]; exact hs'.1 x hx, hs'.2⟩
  ·have e2 : getS (b :: r) a.name = getS r a.name := by unfold getS; rw [List.find?_cons_of_neg (by simp [e])]
   rw [e2] at h
   have hlt : Op.bytesLess b.name a.name = true := by
    rcases getS_pos (nm := a.name) hs'.2 with ⟨_, h2, h3⟩ | ⟨h1, _⟩
    ·have := hs'.1 _ (List.mem_of_getElem? h2)
     rwa [h3] at this
    ·rw [h1] at h; cases h
   rw [if_pos hlt, List.set_cons_succ]
   refine List.pairwise_cons.2 ⟨fun x hx => ?_, srt_set hs'.2 h⟩
   rcases List.mem_or_eq_of_mem_set hx with hx | rfl
   ·exact hs'.1 x hx
   ·exact hlt
theorem srt_insA {a : AcS} : ∀ {l : List AcS}, SrtA l → (∀ x ∈ l, x.name ≠ a.name) → SrtA (insA a l)
 | [], _, _ => List.pairwise_singleton _ _
 | b :: r, hs, h => by
  have hs' := List.pairwise_cons.1 hs
  rw [insA]
  split
  ·rename_i hlt
   refine List.pairwise_cons.2 ⟨fun x hx => ?_, srt_insA hs'.2 fun x hx => h x (List.mem_cons_of_mem _ hx)⟩
   rcases mem_insA hx with rfl | hx
   ·exact hlt
   ·exact hs'.1 x hx
  ·rename_i hlt
   have hab : Op.bytesLess a.name b.name = true := less_tot (by simpa using hlt) (h b (List.mem_cons_self ..))
   refine List.pairwise_cons.2 ⟨fun x hx => ?_, hs⟩
   rcases List.mem_cons.1 hx with rfl | hx
   ·exact hab
   ·exact less_trans hab (hs'.1 x hx)
theorem srt_put {a : AcS} {l : List AcS} (hs : SrtA l) : SrtA (putS a l) := by
 cases h : (getS l a.name).2 with
 | true => rw [putS_set hs h]; exact srt_set hs h
 | false =>
  have hno : ∀ x ∈ l, x.name ≠ a.name := by
   rcases getS_pos (nm := a.name) hs with ⟨h1, _, _⟩ | ⟨_, h2⟩
   ·rw [h1] at h; cases h
   ·exact h2
  unfold putS
  rw [findS_no hno, if_neg (by decide)]
  exact srt_insA hs hno
end
section
variable {G : GS}
attribute [local irreducible] vOpsN vOpsG vOpsD vOpGD NextD vC SeqQ BlockQ
theorem head_acs (l : List AcS) : headSize (l.map acM) 3 = true := by
 cases l with
 | nil => rfl
 | cons a r => rfl
theorem clone_acs (l : List AcS) (hl : l.length < 536870912) : SemR Tryz.prog G 206 [.sl l.length (l.map acM)] [] 0 (.sl l.length (l.map acM)) [] 0 := by
 refine srq seat Tryz.func206 8 ?_
 refine go1 ?_
 refine g_nil rfl rfl (fun b hb => ?_)
 cases b with
 | true =>
  have h0 := hb rfl
  have h1 : l = [] := List.length_eq_zero_iff.1 h0
  subst h1
  refine go1 ?_
  refine go0 ?_
  exact en [_]
 | false =>
  refine go1 ?_
  refine g_mem rfl rfl (by intro R hR; refine sms hR ?_; refine And.intro ((head_acs l)) ?_; refine And.intro ⟨rfl, app_ok (by kernel_rfl) pf⟩ ?_; refine ⟨l.map acM, sv (by show [] ++ l.map acM = _; rw [List.nil_append]), l.length, sv pf, ?_⟩; exact hR) rfl ?_
  refine go1 ?_
  refine ⟨[_], [], [(5, l.length)], rfl, rfl, ?_, rfl, ⟨?_, trivial⟩, ?_⟩
  ·exact ⟨by show l.length ≤ (l.map acM).length; simp, trivial⟩
  ·exact .inr ⟨rfl, rfl, rfl, Nat.le_of_eq (Nat.zero_add _), cut_all acM l⟩
  ·exact mm
theorem ownL_r (l : LgS) (hl : l.acs.length < 536870912) : SemR Tryz.prog G 162 [lgM l] [] 0 (lgM l) [] 0 := by
 obtain ⟨acs, col⟩ := l
 have c1 := clone_acs (G := G) acs hl
 unfold lgM
 dsimp only at hl ⊢
 refine srq seat Tryz.func162 8 ?_
 refine go1 ?_
 refine yr (c1) ?_
 refine go1 ?_
 refine go0 ?_
 exact en [_]
def rowA (l : List AcS) : MB := ⟨126, 3, true, 0, l.map acM⟩
theorem clone_row (l : List AcS) (hl : l.length < 536870912) : SemR Tryz.prog G 206 [.sl l.length (l.map acM)] [] 0 (.ms 0 3 0 l.length) [(0, rowA l)] 1 := by
 unfold rowA
 refine srq seat Tryz.func206 8 ?_
 refine go1 ?_
 refine g_nil rfl rfl (fun b hb => ?_)
 cases b with
 | true =>
  have h0 := hb rfl
  have h1 : l = [] := List.length_eq_zero_iff.1 h0
  subst h1
  refine go1 ?_
  refine go0 ?_
  exact en [_]
 | false =>
  refine go1 ?_
  refine g_mem rfl rfl (by intro R hR; refine sms hR ?_; refine And.intro ((head_acs l)) ?_; refine And.intro ⟨rfl, app_ok (by kernel_rfl) pf⟩ ?_; refine ⟨l.map acM, sv (by show [] ++ l.map acM = _; rw [List.nil_append]), l.length, sv pf, ?_⟩; exact hR) rfl ?_
  refine go1 ?_
  exact eb [_] [(0, 5)] []
theorem ownL_row (l : LgS) (hl : l.acs.length < 536870912) : SemR Tryz.prog G 162 [lgM l] [] 0 (.st [.ms 0 3 0 l.acs.length, .int .u64 l.col]) [(0, rowA l.acs)] 1 := by
 obtain ⟨acs, col⟩ := l
 have c1 := clone_row (G := G) acs hl
 unfold lgM
 unfold rowA at c1 ⊢
 dsimp only at hl c1 ⊢
 refine srq seat Tryz.func162 8 ?_
 refine go1 ?_
 refine yc (c1) [] ?_
 refine go1 ?_
 refine go0 ?_
 exact eb [_] [(0, 4)] []
theorem acAt {l : List AcS} {k : Nat} (h : k < l.length) : nthM (l.map acM) (0 + k) = some (acM l[k]) := by rw [nthM_eq, Nat.zero_add, List.getElem?_map, List.getElem?_eq_getElem h]; rfl
end
section
theorem getS_any (l : List AcS) (nm : List UInt8) : (getS l nm).2 = l.any (fun a => decide (a.name = nm)) := by
 induction l with
 | nil => rfl
 | cons a r ih =>
  rw [List.any_cons]
  by_cases h : a.name = nm
  ·have e : getS (a :: r) nm = (a, true) := by unfold getS; rw [List.find?_cons_of_pos (by simp [h])]
   rw [e]; simp [h]
  ·have e : getS (a :: r) nm = getS r nm := by unfold getS; rw [List.find?_cons_of_neg (by simp [h])]
   rw [e, ih]; simp [h]
theorem put_has {a : AcS} {l : List AcS} (hs : SrtA l) (nm : List UInt8) : (getS (putS a l) nm).2 = ((getS l nm).2 || decide (a.name = nm)) := by
 cases h : (getS l a.name).2 with
 | true =>
  rw [putS_set hs h, getS_any, getS_any]
  rcases getS_pos (nm := a.name) hs with ⟨_, h2, h3⟩ | ⟨h1, _⟩
  ·obtain ⟨hk, h2⟩ := List.getElem?_eq_some_iff.1 h2
   have e1 : l.set (posA a.name l) a = l.take (posA a.name l) ++ a :: l.drop (posA a.name l + 1) := List.set_eq_take_append_cons_drop.trans (if_pos hk)
   have e2 : l = l.take (posA a.name l) ++ l[posA a.name l] :: l.drop (posA a.name l + 1) := by
    conv => lhs; rw [← List.take_append_drop (posA a.name l) l, List.drop_eq_getElem_cons hk]
   rw [e1]
   conv => rhs; rw [e2]
   rw [h2]
   simp only [List.any_append, List.any_cons, h3]
   cases decide (a.name = nm) <;> simp
  ·rw [h1] at h; cases h
 | false =>
  rw [putS_ins hs h, getS_any, getS_any]
  conv => rhs; rw [← List.take_append_drop (posA a.name l) l]
  simp only [List.any_append, List.any_cons]
  cases decide (a.name = nm) <;> simp
theorem findM_no {s : List UInt8} : ∀ {ks : List (List UInt8)} {i : Nat}, s ∉ ks → findM s (ks.map MV.str) i = some none
 | [], _, _ => rfl
 | x :: r, i, h => by
  rw [List.mem_cons, not_or] at h
  rw [List.map_cons, findM, beq_eq_false_iff_ne.2 h.1]
  exact findM_no h.2
theorem findM_yes {s : List UInt8} : ∀ {ks : List (List UInt8)} {i : Nat}, s ∈ ks → ∃ j, findM s (ks.map MV.str) i = some (some (i + j)) ∧ j < ks.length
 | x :: r, i, h => by
  rw [List.map_cons, findM]
  by_cases e : s = x
  ·exact ⟨0, by rw [beq_iff_eq.2 e]; rfl, by simp⟩
  ·rw [beq_eq_false_iff_ne.2 e]
   obtain ⟨j, hj, hl⟩ := findM_yes (i := i + 1) ((List.mem_cons.1 h).resolve_left e)
   exact ⟨j + 1, by rw [show i + (j + 1) = i + 1 + j by omega]; exact hj, by simpa using hl⟩
end
section
def genK : List AcS → List (List UInt8) → Nat
 | [], _ => 0
 | a :: r, ks => if nameS a.name = false then 10 else if a.name ∈ ks then 8 else genK r (ks ++ [a.name])
theorem find_ge {nm : List UInt8} {l : List AcS} (hs : SrtA l) : (0 ≤ findS nm l 0) ↔ (getS l nm).2 = true := by
 rcases getS_pos (nm := nm) hs with ⟨h1, _, _⟩ | ⟨h1, h2⟩
 ·rw [findS_pos hs h1, h1]; simp
 ·rw [findS_no h2, h1]; simp
theorem genG_2 : ∀ (r l : List AcS) (ks : List (List UInt8)), SrtA l → (∀ nm, (getS l nm).2 = decide (nm ∈ ks)) → (genG r l).2 = genK r ks
 | [], _, _, _, _ => rfl
 | a :: r, l, ks, hs, hk => by
  rw [genG, genK]
  by_cases h1 : nameS a.name = false
  ·rw [if_pos h1, if_pos h1]
  ·rw [if_neg h1, if_neg h1]
   by_cases h2 : a.name ∈ ks
   ·rw [if_pos h2, if_pos ((find_ge hs).2 (by rw [hk]; simpa using h2))]
   ·rw [if_neg h2, if_neg (fun h => h2 (by have := (find_ge hs).1 h; rw [hk] at this; simpa using this))]
    refine genG_2 r _ _ (srt_put hs) fun nm => ?_
    rw [put_has hs, hk]
    by_cases e : a.name = nm
    ·subst e; simp
    ·simp [e, Ne.symm e]
theorem genG_1 : ∀ (r l : List AcS), SrtA l → (genG r l).2 = 0 → SrtA (genG r l).1 ∧ (genG r l).1.Perm (l ++ r)
 | [], l, hs, _ => by rw [genG, List.append_nil]; exact ⟨hs, List.Perm.refl _⟩
 | a :: r, l, hs, h => by
  rw [genG] at h ⊢
  by_cases h1 : nameS a.name = false
  ·rw [if_pos h1] at h; exact absurd h (by decide)
  ·rw [if_neg h1] at h ⊢
   by_cases h2 : 0 ≤ findS a.name l 0
   ·rw [if_pos h2] at h; exact absurd h (by decide)
   ·rw [if_neg h2] at h ⊢
    obtain ⟨h3, h4⟩ := genG_1 r (putS a l) (srt_put hs) h
    refine ⟨h3, h4.trans ?_⟩
    have hno : (getS l a.name).2 = false := by
     cases hb : (getS l a.name).2 with
     | false => rfl
     | true => exact absurd ((find_ge hs).2 hb) h2
    have hp : (putS a l).Perm (a :: l) := by
     rw [putS_ins hs hno]
     have := List.perm_middle (a := a) (l₁ := l.take (posA a.name l)) (l₂ := l.drop (posA a.name l))
     rwa [List.take_append_drop] at this
    refine (hp.append_right r).trans ?_
    exact (List.perm_middle (a := a) (l₁ := l) (l₂ := r)).symm
theorem genK_names : ∀ (r : List AcS) (ks : List (List UInt8)), genK r ks = 0 → r.Pairwise (fun a b => a.name ≠ b.name) ∧ ∀ a ∈ r, a.name ∉ ks
 | [], _, _ => ⟨List.Pairwise.nil, by simp⟩
 | a :: r, ks, h => by
  rw [genK] at h
  split at h
  ·exact absurd h (by decide)
  ·split at h
   ·exact absurd h (by decide)
   ·rename_i hm
    obtain ⟨h1, h2⟩ := genK_names r _ h
    refine ⟨List.pairwise_cons.2 ⟨fun b hb e => h2 b hb (by rw [← e]; simp), h1⟩, fun b hb => ?_⟩
    rcases List.mem_cons.1 hb with rfl | hb
    ·exact hm
    ·exact fun hk => h2 b hb (List.mem_append_left _ hk)
theorem srt_uniq : ∀ {l m : List AcS}, SrtA l → SrtA m → l.Perm m → l = m
 | [], m, _, _, h => (List.nil_perm.1 h).symm
 | a :: r, [], _, _, h => absurd (List.perm_nil.1 h) (by simp)
 | a :: r, b :: s, hl, hm, h => by
  have h1 := List.pairwise_cons.1 hl
  have h2 := List.pairwise_cons.1 hm
  have hab : a = b := by
   rcases List.mem_cons.1 (h.subset (List.mem_cons_self ..)) with e | ha
   ·exact e
   ·rcases List.mem_cons.1 (h.symm.subset (List.mem_cons_self ..)) with e | hb
    ·exact e.symm
    ·have k1 := h2.1 a ha
     have k2 := h1.1 b hb
     rw [less_asym k1] at k2
     cases k2
  subst hab
  rw [srt_uniq h1.2 h2.2 h.cons_inv]
theorem srt_of_sorted {l m : List AcS} (hp : l.Perm m) (hd : m.Pairwise (fun a b => a.name ≠ b.name)) (hs : l.Pairwise (fun a b => Op.bytesLess b.name a.name = false)) : SrtA l := by
 have hd' : l.Pairwise (fun a b => a.name ≠ b.name) := hp.symm.pairwise hd (fun h e => h e.symm)
 exact hs.imp₂ (fun a b h1 h2 => less_tot h1 (Ne.symm h2)) hd'
def balS (l : List AcS) : Nat := (l.map (·.bal)).sum
theorem totS_2 : ∀ (l : List AcS) (s : Nat), (totS l s).2 = true ↔ (l = [] ∨ s + balS l < 18446744073709551616)
 | [], s => by simp [totS]
 | a :: r, s => by
  rw [totS]
  have ih := totS_2 r (addS s a.bal).1
  have e : balS (a :: r) = a.bal + balS r := by simp [balS]
  unfold addS at *
  by_cases h : s + a.bal < 18446744073709551616
  ·rw [if_pos h] at *
   rw [if_pos rfl, ih, e]
   dsimp only
   constructor
   ·rintro (rfl | h2)
    ·right; simp [balS]; omega
    ·right; omega
   ·rintro (h2 | h2)
    ·cases h2
    ·right; omega
  ·rw [if_neg h, if_neg (by simp), e]
   simp
   omega
theorem totS_perm {l m : List AcS} (h : l.Perm m) : (totS l 0).2 = (totS m 0).2 := by
 have hs : balS l = balS m := (h.map _).sum_nat
 have hn : l = [] ↔ m = [] := ⟨fun e => by subst e; exact List.nil_perm.1 h, fun e => by subst e; exact List.perm_nil.1 h⟩
 have h1 := totS_2 l 0
 have h2 := totS_2 m 0
 rw [hs, hn] at h1
 have := h1.trans h2.symm
 cases ha : (totS l 0).2 <;> cases hb : (totS m 0).2 <;> simp_all
end
section
open Go.RowKit Go.Lib
variable {G : GS}
attribute [local irreducible] vOpsN vOpsG vOpsD vOpGD NextD vC SeqQ BlockQ
theorem flat3_len {Q : List (List Value)} : (∀ p ∈ Q, p.length = 3) → Q.flatten.length = Q.length * 3 := by
 induction Q with
 | nil => intro _; rfl
 | cons q Q ih =>
  intro h
  rw [List.flatten_cons, List.length_append, ih fun p hp => h p (List.mem_cons_of_mem _ hp), h q (List.mem_cons_self ..), List.length_cons]
  omega
theorem since_row {ex : Fp} {w : World} {g : Nat} (c : Array Value) (hx : ex g) : Since ex w (w.setRow g c) := ⟨rfl, rfl, rfl, by simp, fun b _ hne => setRow_other _ _ _ _ fun e => hne (e ▸ hx)⟩
theorem cell_row {w : World} {g : Nat} {cur : Array Value} {ty : TypeId} (hg : w.heap[g]? = some (.cells cur ty (0, 0))) {cs : List Value} (hp : cs <+: cur.toList) {j : Nat} {v : Value} (hj : cs[j]? = some v) : w.cell? ⟨g, j, none⟩ = some v := by
 have h1 : cur[j]? = some v := by rw [← Array.getElem?_toList]; exact prefix_get hp hj
 unfold World.cell?
 rw [hg]
 exact h1
end
section
variable {G : GS}
attribute [local irreducible] vOpsN vOpsG vOpsD vOpGD NextD vC SeqQ BlockQ
def namesM (ks : List (List UInt8)) : MV := .mpv (ks.map .str) (List.replicate ks.length (.st []))
end
section
variable {G : GS}
attribute [local irreducible] vOpsN vOpsG vOpsD vOpGD NextD vC SeqQ BlockQ
structure CfI (c : CfS) : Prop where
 h1 : I64 c.maxTxs
 h2 : I64 c.maxBytes
 h3 : I64 c.maxTx
 h4 : I64 c.cache
 h5 : I64 c.ttlB
 h6 : I64 c.ttlT
 h7 : I64 c.blkB
 h8 : I64 c.blkG
 h9 : U64 c.price
 h10 : I64 c.self
 h11 : I64 c.nodes
def fI (c : CfS) : Nat → Int
 | 0 => c.maxTxs
 | 1 => c.maxBytes
 | 2 => c.maxTx
 | 3 => c.cache
 | 4 => c.ttlB
 | 5 => c.ttlT
 | 6 => if c.keep then 1 else 0
 | 7 => c.blkB
 | 8 => c.blkG
 | 9 => 0
 | 10 => c.self
 | _ => c.nodes
def loI : Nat → Int
 | 0 | 1 | 2 | 7 | 11 => 1
 | 8 => -1
 | _ => 0
def hiI : Nat → Int
 | 0 => 512
 | 1 | 7 => 1048576
 | 2 => 4096
 | 3 => 1024
 | 4 | 5 => 1073741824
 | 6 => 1
 | 8 => 1125899906842624
 | 9 => 0
 | 10 => 7
 | _ => 8
def okFi (c : CfS) (k : Nat) : Bool := decide (loI k ≤ fI c k) && decide (fI c k ≤ hiI k)
def okNi (c : CfS) : Nat → Bool
 | 0 => true
 | k + 1 => okNi c k && okFi c k
def validS (c : CfS) : Int := if okNi c 12 = true ∧ c.self < c.nodes then 0 else 1
theorem twelve {k : Nat} (hk : k < 12) : k = 0 ∨ k = 1 ∨ k = 2 ∨ k = 3 ∨ k = 4 ∨ k = 5 ∨ k = 6 ∨ k = 7 ∨ k = 8 ∨ k = 9 ∨ k = 10 ∨ k = 11 := by omega
theorem okNi_false {c : CfS} {k : Nat} (h : okFi c k = false) : ∀ {n : Nat}, k < n → okNi c n = false
 | 0, hn => by omega
 | n + 1, hn => by
  by_cases e : k = n
  ·subst e; simp [okNi, h]
  ·simp [okNi, okNi_false h (show k < n by omega)]
theorem valid_bad {c : CfS} {k : Nat} (hk : k < 12) (h : okFi c k = false) : validS c = 1 := by simp [validS, okNi_false h hk]
theorem valid_end {c : CfS} (h : okNi c 12 = true) : validS c = if c.self < c.nodes then 0 else 1 := by simp [validS, h]
theorem rkeys_s : SemC Tryz.prog G 172 [] (.sl 12 [.str [109, 97, 120, 45, 116, 120, 115], .str [109, 97, 120, 45, 98, 121, 116, 101, 115], .str [109, 97, 120, 45, 116, 120, 45, 98, 121, 116, 101, 115], .str [99, 97, 99, 104, 101, 45, 115, 105, 122, 101], .str [116, 116, 108, 45, 98, 108, 111, 99, 107, 115], .str [116, 116, 108, 45, 116, 105, 109, 101], .str [107, 101, 101, 112, 45, 105, 110, 118, 97, 108, 105, 100], .str [98, 108, 111, 99, 107, 45, 98, 121, 116, 101, 115], .str [98, 108, 111, 99, 107, 45, 103, 97, 115], .str [112, 114, 105, 99, 101], .str [115, 101, 108, 102], .str [110, 111, 100, 101, 115]]) := by
 refine scq seat Tryz.func172 2 ?_
 refine go1 ?_
 conv => whnf
 exact ⟨by decide, _, rfl, rfl⟩
theorem rleast_s {k : Nat} (hk : k < 12) : SemC Tryz.prog G 174 [.int .i64 k] (.int .i64 (loI k)) := by
 have hel : nthM [.int .i64 1, .int .i64 1, .int .i64 1, .int .i64 0, .int .i64 0, .int .i64 0, .int .i64 0, .int .i64 1, .int .i64 (-1), .int .i64 0, .int .i64 0, .int .i64 1] (0 + k) = some (.int .i64 (loI k)) := by
  rcases twelve hk with rfl | rfl | rfl | rfl | rfl | rfl | rfl | rfl | rfl | rfl | rfl | rfl <;> rfl
 have hel := SomF.mk hel
 have hix := SomF.mk (idx_at hk)
 refine scq seat Tryz.func174 7 ?_
 refine go1 ?_
 refine go0 ?_
 rfl
theorem rgreat_s {k : Nat} (hk : k < 12) : SemC Tryz.prog G 175 [.int .i64 k] (.int .i64 (hiI k)) := by
 have hel : nthM [.int .i64 512, .int .i64 1048576, .int .i64 4096, .int .i64 1024, .int .i64 1073741824, .int .i64 1073741824, .int .i64 1, .int .i64 1048576, .int .i64 1125899906842624, .int .i64 0, .int .i64 7, .int .i64 8] (0 + k) = some (.int .i64 (hiI k)) := by
  rcases twelve hk with rfl | rfl | rfl | rfl | rfl | rfl | rfl | rfl | rfl | rfl | rfl | rfl <;> rfl
 have hel := SomF.mk hel
 have hix := SomF.mk (idx_at hk)
 refine scq seat Tryz.func175 7 ?_
 refine go1 ?_
 refine go0 ?_
 rfl
theorem rval_s (c : CfS) {k : Nat} (hk : k < 12) : SemC Tryz.prog G 173 [cfM c, .int .i64 k] (.int .i64 (fI c k)) := by
 have hel : nthM [.int .i64 c.maxTxs, .int .i64 c.maxBytes, .int .i64 c.maxTx, .int .i64 c.cache, .int .i64 c.ttlB, .int .i64 c.ttlT, .int .i64 (if c.keep then 1 else 0), .int .i64 c.blkB, .int .i64 c.blkG, .int .i64 0, .int .i64 c.self, .int .i64 c.nodes] (0 + k) = some (.int .i64 (fI c k)) := by
  rcases twelve hk with rfl | rfl | rfl | rfl | rfl | rfl | rfl | rfl | rfl | rfl | rfl | rfl <;> rfl
 generalize fI c k = x at *
 obtain ⟨c0, c1, c2, c3, c4, c5, c6, c7, c8, c9, c10, c11⟩ := c
 have hix := SomF.mk (idx_at hk)
 cases c6 <;>
 ·have hel := SomF.mk hel
  refine scq seat Tryz.func173 33 ?_
  refine go1 ?_
  refine go0 ?_
  rfl
theorem rvalid_s (c : CfS) : SemC Tryz.prog G 125 [cfM c] (.int .i64 (validS c)) := by
 have cv : ∀ k, k < 12 → _ := fun k hk => rval_s (G := G) c (k := k) hk
 have hb : ∀ k, k < 12 → okFi c k = false → _ := fun k hk => valid_bad (c := c) hk
 have hend := valid_end (c := c)
 have hF : ∀ k, okFi c k = (decide (loI k ≤ fI c k) && decide (fI c k ≤ hiI k)) := fun _ => rfl
 have h9 : okFi c 9 = true := rfl
 have hS : ∀ k, okNi c (k + 1) = (okNi c k && okFi c k) := fun _ => rfl
 have h0 : okNi c 0 = true := rfl
 refine scq seat Tryz.func125 33 ?_
 refine go1 ?_
 refine yv (rkeys_s) ?_
 refine go1 ?_
 refine c_loop Nat (fun k => [(6, .int .i64 k), (5, .int .i64 12), (1, .ptr 0 12 0 0 [])]) (fun _ => [(0, ⟨29, 12, false, 0, [cfM c]⟩)]) 1 (fun k => k ≤ 12 ∧ okNi c k = true) (fun k => 12 - k) 0 ⟨by omega, h0⟩ (vm [(0, _)] []) ?_
 rintro k ⟨hk, hok⟩
 try dsimp only
 refine go1 ?_
 refine c_cond rfl (fun h => ?_) (fun h => ?_)
 ·have hk' : k < 12 := by have := of_decide_eq_true h; omega
  have cv := cv k hk'
  have cl := rleast_s (G := G) hk'
  have cg := rgreat_s (G := G) hk'
  have hb := hb k hk'
  have hF := hF k
  have hS := hS k
  rw [hok] at hS
  generalize fI c k = x at *
  generalize loI k = lo at *
  generalize hiI k = hi at *
  by_cases e9 : k = 9
  ·subst e9
   refine go1 ?_
   exact ⟨9 + 1, ⟨by omega, by rw [hS, h9]; rfl⟩, by show 12 - (9 + 1) < 12 - 9; omega, (by dsimp only; exact (vm [(0, _)] []))⟩
  ·refine go1 ?_
   refine n_guard rfl rfl (fun h => ?_) rfl (fun h => ?_)
   rotate_left
   ·exfalso
    simp at h
    omega
   refine go1 ?_
   refine yv (cv) ?_
   refine go1 ?_
   refine yv (cl) ?_
   refine go1 ?_
   refine n_guard rfl rfl (fun h => ?_) rfl (fun h => ?_)
   ·have h1 := of_decide_eq_false h
    refine go1 ?_
    refine yv (cv) ?_
    refine go1 ?_
    refine yv (cg) ?_
    refine go1 ?_
    refine c_cond rfl (fun h => ?_) (fun h => ?_)
    ·have h2 := of_decide_eq_true h
     rw [hb (by rw [hF]; simp; omega)]
     refine go1 ?_
     refine go0 ?_
     rfl
    ·have h2 := of_decide_eq_false h
     refine go1 ?_
     exact ⟨k + 1, ⟨by omega, by rw [hS, hF]; simp; omega⟩, by show 12 - (k + 1) < 12 - k; omega, (by dsimp only; exact (vm [(0, _)] []))⟩
   ·have h1 := of_decide_eq_true h
    rw [hb (by rw [hF]; simp; omega)]
    refine go1 ?_
    refine go0 ?_
    rfl
 ·have hk' : k = 12 := by have := of_decide_eq_false h; omega
  subst hk'
  rw [hend hok]
  refine go1 ?_
  refine c_cond rfl (fun h => ?_) (fun h => ?_)
  ·have h := of_decide_eq_true h
   rw [if_neg (by omega)]
   refine go1 ?_
   refine go0 ?_
   rfl
  ·have h := of_decide_eq_false h
   rw [if_pos (by omega)]
   refine go1 ?_
   refine go0 ?_
   rfl
abbrev wM (a : Int × Bool) : MV := .st [.int .u64 a.1, .bool a.2]
def lessB (a b : Int × Bool) : Bool := if (a.2 || b.2) = true then a.2 && !b.2 else decide (a.1 < b.1)
theorem less_s (a b : Int × Bool) : SemC Tryz.prog G 200 [wM a, wM b] (.bool (lessB a b)) := by
 obtain ⟨n, m⟩ := a
 obtain ⟨n', m'⟩ := b
 cases m <;> cases m' <;>
 ·refine scq seat Tryz.func200 23 ?_
  refine go1 ?_
  refine go0 ?_
  rfl
theorem number_s (n : Int) (h0 : 0 ≤ n) (h1 : n < 9223372036854775808) : SemC Tryz.prog G 198 [.int .i64 n] (wM (n, false)) := by
 refine scq seat Tryz.func198 6 ?_
 refine go1 ?_
 refine go0 ?_
 rfl
def nmB : Nat → List UInt8
 | 0 => [109, 97, 120, 45, 116, 120, 115]
 | 1 => [109, 97, 120, 45, 98, 121, 116, 101, 115]
 | 2 => [109, 97, 120, 45, 116, 120, 45, 98, 121, 116, 101, 115]
 | 3 => [99, 97, 99, 104, 101, 45, 115, 105, 122, 101]
 | 4 => [116, 116, 108, 45, 98, 108, 111, 99, 107, 115]
 | 5 => [116, 116, 108, 45, 116, 105, 109, 101]
 | 6 => [107, 101, 101, 112, 45, 105, 110, 118, 97, 108, 105, 100]
 | 7 => [98, 108, 111, 99, 107, 45, 98, 121, 116, 101, 115]
 | 8 => [98, 108, 111, 99, 107, 45, 103, 97, 115]
 | 9 => [112, 114, 105, 99, 101]
 | 10 => [115, 101, 108, 102]
 | _ => [110, 111, 100, 101, 115]
def loW (k : Nat) : Int × Bool := if loI k = -1 then (0, true) else (loI k, false)
def hiW : Nat → Int × Bool
 | 9 => (18446744073709551615, false)
 | k => (hiI k, false)
def dfW : Nat → Int × Bool
 | 0 => (100, false)
 | 1 => (65536, false)
 | 2 => (1024, false)
 | 3 => (200, false)
 | 7 => (32768, false)
 | 8 => (0, true)
 | 9 | 11 => (1, false)
 | _ => (0, false)
abbrev rowM (k : Nat) : MV := .st [.str (nmB k), wM (loW k), wM (hiW k), wM (dfW k)]
abbrev rowsM : List MV := [rowM 0, rowM 1, rowM 2, rowM 3, rowM 4, rowM 5, rowM 6, rowM 7, rowM 8, rowM 9, rowM 10, rowM 11]
def within (a b v : Int × Bool) : Bool := !lessB v a && !lessB b v
theorem rows_s : SemC Tryz.prog G 158 [] (.arr 12 7 rowsM) := by
 have cn : ∀ n : Nat, n < 9223372036854775808 → SemC Tryz.prog G 198 [.int .i64 n] (wM (n, false)) := fun n hn => number_s (G := G) n (by omega) (by omega)
 refine scq seat Tryz.func158 54 ?_
 refine go1 ?_
 refine c_draw [(0, true), (1, true), (2, true), (3, false), (4, true), (5, true), (6, true), (7, false), (8, true), (9, true), (10, true), (11, false), (12, true), (13, true), (14, true), (15, false), (16, true), (17, true), (18, true), (19, false), (20, true), (21, true), (22, true), (23, false), (24, true), (25, true), (26, true), (27, false), (28, true), (29, true), (30, true), (31, false), (32, false), (33, true), (34, false), (35, false), (36, true), (37, false), (38, true), (39, false), (40, true), (41, true), (42, true), (43, false), (44, true), (45, true), (46, true), (47, false), (48, false), (49, false)] ?_
 refine go1 ?_
 refine ydv (cn 1 (by decide)) ?_
 refine go1 ?_
 refine ydv (cn 512 (by decide)) ?_
 refine go1 ?_
 refine ydv (cn 100 (by decide)) ?_
 refine go1 ?_
 refine ydv (cn 1 (by decide)) ?_
 refine go1 ?_
 refine ydv (cn 1048576 (by decide)) ?_
 refine go1 ?_
 refine ydv (cn 65536 (by decide)) ?_
 refine go1 ?_
 refine ydv (cn 1 (by decide)) ?_
 refine go1 ?_
 refine ydv (cn 4096 (by decide)) ?_
 refine go1 ?_
 refine ydv (cn 1024 (by decide)) ?_
 refine go1 ?_
 refine ydv (cn 0 (by decide)) ?_
 refine go1 ?_
 refine ydv (cn 1024 (by decide)) ?_
 refine go1 ?_
 refine ydv (cn 200 (by decide)) ?_
 refine go1 ?_
 refine ydv (cn 0 (by decide)) ?_
 refine go1 ?_
 refine ydv (cn 1073741824 (by decide)) ?_
 refine go1 ?_
 refine ydv (cn 0 (by decide)) ?_
 refine go1 ?_
 refine ydv (cn 0 (by decide)) ?_
 refine go1 ?_
 refine ydv (cn 1073741824 (by decide)) ?_
 refine go1 ?_
 refine ydv (cn 0 (by decide)) ?_
 refine go1 ?_
 refine ydv (cn 0 (by decide)) ?_
 refine go1 ?_
 refine ydv (cn 1 (by decide)) ?_
 refine go1 ?_
 refine ydv (cn 0 (by decide)) ?_
 refine go1 ?_
 refine ydv (cn 1 (by decide)) ?_
 refine go1 ?_
 refine ydv (cn 1048576 (by decide)) ?_
 refine go1 ?_
 refine ydv (cn 32768 (by decide)) ?_
 refine go1 ?_
 refine ydv (cn 1125899906842624 (by decide)) ?_
 refine go1 ?_
 refine ydv (cn 0 (by decide)) ?_
 refine go1 ?_
 refine ydv (cn 1 (by decide)) ?_
 refine go1 ?_
 refine ydv (cn 0 (by decide)) ?_
 refine go1 ?_
 refine ydv (cn 7 (by decide)) ?_
 refine go1 ?_
 refine ydv (cn 0 (by decide)) ?_
 refine go1 ?_
 refine ydv (cn 1 (by decide)) ?_
 refine go1 ?_
 refine ydv (cn 8 (by decide)) ?_
 refine go1 ?_
 refine ydv (cn 1 (by decide)) ?_
 refine go1 ?_
 refine go0 ?_
 rfl
theorem within_s (nm : List UInt8) (a b d v : Int × Bool) : SemC Tryz.prog G 160 [.st [.str nm, wM a, wM b, wM d], wM v] (.bool (within a b v)) := by
 have c1 := less_s (G := G) v a
 have c2 := less_s (G := G) b v
 unfold within
 generalize lessB v a = t1 at *
 generalize lessB b v = t2 at *
 refine scq seat Tryz.func160 17 ?_
 refine go1 ?_
 refine yv (c1) ?_
 cases t1
 ·refine go1 ?_
  refine yv (c2) ?_
  refine go1 ?_
  refine go0 ?_
  rfl
 ·refine go1 ?_
  refine go0 ?_
  rfl
abbrev ptrsM (Z : MV) : List MV := [.ep Z 0 [0], .ep Z 1 [1], .ep Z 2 [2], .ep Z 3 [3], .ep Z 4 [4], .ep Z 5 [5], .nilp, .ep Z 7 [7], .ep Z 8 [8], .nilp, .ep Z 10 [10], .ep Z 11 [11]]
theorem ints_s (Z : MV) : SemC Tryz.prog G 199 [.ep Z 0 []] (.arr 12 1 (ptrsM Z)) := by
 refine scq seat Tryz.func199 34 ?_
 refine go1 ?_
 refine c_draw [(0, false), (1, false), (2, false), (3, false), (4, false), (5, false), (6, false), (7, false), (8, false), (9, false), (10, false), (11, false), (12, false), (13, false), (14, false), (15, false), (16, false), (17, false), (18, false), (19, false), (20, false), (21, false), (22, false), (23, false), (24, false), (25, false), (26, false), (27, false), (28, false), (29, false), (30, false), (31, false)] ?_
 refine go1 ?_
 refine go0 ?_
 rfl
def vI (p : Int) : (Int × Bool) × Bool := if p < -1 then ((0, false), false) else if p = -1 then ((0, true), true) else ((p, false), true)
def vW (c : CfS) : Nat → (Int × Bool) × Bool
 | 6 => (if c.keep then (1, false) else (0, false), true)
 | 9 => ((c.price, false), true)
 | k => vI (fI c k)
abbrev vM (v : (Int × Bool) × Bool) : MV := .tup [wM v.1, .bool v.2]
theorem valI_s (c : CfS) {k : Nat} (i : Nat) (x : Int) (hx : I64 x) (hk : idxL (ptrsM (cfM c)) 12 (k : Int) = some (.ep (cfM c) i [i])) (hi : getPO (cfM c) [i] i = some (.int .i64 x)) : SemC Tryz.prog G 159 [cfM c, .int .i64 k] (vM (vI x)) := by
 unfold I64 at hx
 have ci := ints_s (G := G) (cfM c)
 have hk := SomF.mk hk
 have hi := SomF.mk hi
 refine scq seat Tryz.func159 48 ?_
 refine go1 ?_
 refine g_call1 rfl (fun _ h => h) rfl (semR_of_semC ci) rfl [(0, 1)] mm ⟨.inr ⟨rfl, Nat.lt_succ_self 0, rfl, rfl, rfl, rfl⟩, trivial⟩ ?_
 refine go1 ?_
 refine c_cond rfl (fun h => ?_) (fun h => ?_)
 ·have h := of_decide_eq_true h
  unfold vI
  rw [if_pos h]
  refine go1 ?_
  refine go0 ?_
  rfl
 have h := of_decide_eq_false h
 refine go1 ?_
 refine c_cond rfl (fun h => ?_) (fun h => ?_)
 ·have h2 := eq_of_beq h
  subst h2
  refine go1 ?_
  refine go0 ?_
  rfl
 have h2 := ne_of_beq_false h
 have cn := number_s (G := G) x (by omega) (by omega)
 refine go1 ?_
 refine yv (cn) ?_
 unfold vI
 rw [if_neg ‹_›, if_neg h2]
 refine go1 ?_
 refine go0 ?_
 rfl
theorem val9_s (c : CfS) : SemC Tryz.prog G 159 [cfM c, .int .i64 (9 : Nat)] (vM ((c.price, false), true)) := by
 have ci := ints_s (G := G) (cfM c)
 refine scq seat Tryz.func159 48 ?_
 refine go1 ?_
 refine g_call1 rfl (fun _ h => h) rfl (semR_of_semC ci) rfl [(0, 1)] mm ⟨.inr ⟨rfl, Nat.lt_succ_self 0, rfl, rfl, rfl, rfl⟩, trivial⟩ ?_
 refine go1 ?_
 refine go0 ?_
 rfl
theorem val6_s (c : CfS) : SemC Tryz.prog G 159 [cfM c, .int .i64 (6 : Nat)] (vM (if c.keep then (1, false) else (0, false), true)) := by
 have ci := ints_s (G := G) (cfM c)
 have c0 := number_s (G := G) 0 (by decide) (by decide)
 have c1 := number_s (G := G) 1 (by decide) (by decide)
 obtain ⟨d0, d1, d2, d3, d4, d5, d6, d7, d8, d9, d10, d11⟩ := c
 cases d6
 ·refine scq seat Tryz.func159 48 ?_
  refine go1 ?_
  refine g_call1 rfl (fun _ h => h) rfl (semR_of_semC ci) rfl [(0, 1)] mm ⟨.inr ⟨rfl, Nat.lt_succ_self 0, rfl, rfl, rfl, rfl⟩, trivial⟩ ?_
  refine go1 ?_
  refine yv (c0) ?_
  refine go1 ?_
  refine go0 ?_
  rfl
 ·refine scq seat Tryz.func159 48 ?_
  refine go1 ?_
  refine g_call1 rfl (fun _ h => h) rfl (semR_of_semC ci) rfl [(0, 1)] mm ⟨.inr ⟨rfl, Nat.lt_succ_self 0, rfl, rfl, rfl, rfl⟩, trivial⟩ ?_
  refine go1 ?_
  refine yv (c1) ?_
  refine go1 ?_
  refine go0 ?_
  rfl
theorem value_s (c : CfS) (hc : CfI c) {k : Nat} (hk : k < 12) : SemC Tryz.prog G 159 [cfM c, .int .i64 k] (vM (vW c k)) := by
 obtain ⟨h1, h2, h3, h4, h5, h6, h7, h8, h9, h10, h11⟩ := hc
 rcases twelve hk with rfl | rfl | rfl | rfl | rfl | rfl | rfl | rfl | rfl | rfl | rfl | rfl
 ·exact valI_s c 0 _ h1 rfl rfl
 ·exact valI_s c 1 _ h2 rfl rfl
 ·exact valI_s c 2 _ h3 rfl rfl
 ·exact valI_s c 3 _ h4 rfl rfl
 ·exact valI_s c 4 _ h5 rfl rfl
 ·exact valI_s c 5 _ h6 rfl rfl
 ·exact val6_s c
 ·exact valI_s c 7 _ h7 rfl rfl
 ·exact valI_s c 8 _ h8 rfl rfl
 ·exact val9_s c
 ·exact valI_s c 10 _ h10 rfl rfl
 ·exact valI_s c 11 _ h11 rfl rfl
def okW (c : CfS) (k : Nat) : Bool := (vW c k).2 && within (loW k) (hiW k) (vW c k).1
theorem okW_int {p lo hi : Int} {b : Bool} (h1 : 0 ≤ lo) (h2 : b = true → lo = 0) (h3 : 0 ≤ hi) : ((vI p).2 && within (lo, b) (hi, false) (vI p).1) = (decide ((if b then -1 else lo) ≤ p) && decide (p ≤ hi)) := by
 unfold vI
 by_cases hp : p < -1
 ·rw [if_pos hp]
  cases b <;> simp <;> omega
 ·rw [if_neg hp]
  by_cases hp2 : p = -1
  ·rw [if_pos hp2]
   subst hp2
   cases b <;> simp [within, lessB] <;> omega
  ·rw [if_neg hp2]
   cases b
   ·simp [within, lessB, ← decide_not, Int.not_lt]
   ·have h4 : -1 ≤ p := by omega
    simp [within, lessB, h4, ← decide_not, Int.not_lt]
theorem okW_eq {c : CfS} (hc : CfI c) {k : Nat} (hk : k < 12) : okW c k = okFi c k := by
 have hp := hc.h9
 unfold U64 at hp
 rcases twelve hk with rfl | rfl | rfl | rfl | rfl | rfl | rfl | rfl | rfl | rfl | rfl | rfl
 case inr.inr.inr.inr.inr.inr.inl => show (true && within _ _ (if c.keep then (1, false) else (0, false))) = (decide (0 ≤ if c.keep then (1 : Int) else 0) && decide ((if c.keep then (1 : Int) else 0) ≤ 1)); cases c.keep <;> rfl
 case inr.inr.inr.inr.inr.inr.inr.inr.inr.inl =>
  show (true && within (0, false) (18446744073709551615, false) (c.price, false)) = true
  simp [within, lessB]
  omega
 all_goals exact okW_int (by decide) (by decide) (by decide)
theorem rowsM_at {k : Nat} (hk : k < 12) : idxL rowsM 12 (k : Int) = some (rowM k) := by
 rcases twelve hk with rfl | rfl | rfl | rfl | rfl | rfl | rfl | rfl | rfl | rfl | rfl | rfl <;> rfl
theorem pvalid_s (c : CfS) (hc : CfI c) : SemC Tryz.prog G 108 [cfM c] (.int .i64 (validS c)) := by
 have cr := rows_s (G := G)
 have cv : ∀ k, k < 12 → _ := fun k hk => value_s (G := G) c hc (k := k) hk
 have hb : ∀ k, k < 12 → okFi c k = false → _ := fun k hk => valid_bad (c := c) hk
 have hend := valid_end (c := c)
 have hF : ∀ k, k < 12 → okFi c k = ((vW c k).2 && within (loW k) (hiW k) (vW c k).1) := fun k hk => (okW_eq hc hk).symm
 have hS : ∀ k, okNi c (k + 1) = (okNi c k && okFi c k) := fun _ => rfl
 have h0 : okNi c 0 = true := rfl
 have hat := fun k (hk : k < 12) => rowsM_at hk
 generalize rowsM = R at *
 refine scq seat Tryz.func108 32 ?_
 refine go1 ?_
 refine yv (cr) ?_
 refine go1 ?_
 refine c_loop Nat (fun k => [(8, .int .i64 k), (7, .arr 12 7 R), (1, .ptr 0 12 0 0 [])]) (fun _ => [(0, ⟨29, 12, false, 0, [cfM c]⟩)]) 1 (fun k => k ≤ 12 ∧ okNi c k = true) (fun k => 12 - k) 0 ⟨by omega, h0⟩ (vm [(0, _)] []) ?_
 rintro k ⟨hk, hok⟩
 try dsimp only
 refine go1 ?_
 refine c_cond rfl (fun h => ?_) (fun h => ?_)
 ·have hk' : k < 12 := by have := of_decide_eq_true h; omega
  have cv := cv k hk'
  have hb := hb k hk'
  have hF := hF k hk'
  have hS := hS k
  have hel : SomF (idxL R 12 (k : Int)) (.st [.str (nmB k), wM (loW k), wM (hiW k), wM (dfW k)]) := SomF.mk (hat k hk')
  have cw := fun v => within_s (G := G) (nmB k) (loW k) (hiW k) (dfW k) v
  rw [hok] at hS
  generalize within (loW k) (hiW k) = W at *
  generalize nmB k = nm at *
  generalize loW k = lo at *
  generalize hiW k = hi at *
  generalize dfW k = df at *
  generalize vW c k = v at *
  obtain ⟨⟨v1, v2⟩, v3⟩ := v
  obtain ⟨l1, l2⟩ := lo
  obtain ⟨i1, i2⟩ := hi
  obtain ⟨d1, d2⟩ := df
  have cw := cw (v1, v2)
  dsimp only at *
  generalize W (v1, v2) = t at *
  refine go1 ?_
  refine yv (cv) ?_
  cases v3
  ·refine go1 ?_
   rw [hb (by simp [hF])]
   refine go0 ?_
   rfl
  ·refine go1 ?_
   refine yv (cw) ?_
   cases t
   ·refine go1 ?_
    rw [hb (by simp [hF])]
    refine go0 ?_
    rfl
   ·refine go1 ?_
    exact ⟨k + 1, ⟨by omega, by rw [hS, hF]; rfl⟩, by show 12 - (k + 1) < 12 - k; omega, (by dsimp only; exact (vm [(0, _)] []))⟩
 ·have hk' : k = 12 := by have := of_decide_eq_false h; omega
  subst hk'
  rw [hend hok]
  refine go1 ?_
  refine c_cond rfl (fun h => ?_) (fun h => ?_)
  ·have h := of_decide_eq_true h
   rw [if_neg (by omega)]
   refine go1 ?_
   refine go0 ?_
   rfl
  ·have h := of_decide_eq_false h
   rw [if_pos (by omega)]
   refine go1 ?_
   refine go0 ?_
   rfl
theorem cfOk_i {c : CfS} (h : CfOk c) : CfI c := by
 obtain ⟨h1, h2, h3, h4, h5, h6, h7, h8, h9, h10, h11⟩ := h
 refine ⟨?_, ?_, ?_, ?_, ?_, ?_, ?_, ?_, h9, ?_, ?_⟩ <;> (unfold I64; omega)
end
end Go.Proofs.YtdjcdmnemddjlaaGreat
namespace Go.Proofs
open Go.Shelf
def Tryz.sortAcc_ren : Go.Shelf.Ren := ⟨fun | 6 => 203 | 15 => 225 | 14 => 224 | 28 => 241 | 29 => 242 | 20 => 233 | 21 => 234 | 22 => 235 | 23 => 236 | 24 => 237 | 25 => 238 | 26 => 239 | 27 => 240 | 46 => 247 | 47 => 248 | 48 => 249 | 49 => 250 | 50 => 251 | 57 => 252 | n => n, fun | 22 => 30 | 24 => 126 | 25 => 313 | 3 => 3 | 39 => 172 | 0 => 0 | 53 => 185 | 55 => 27 | 4 => 4 | 46 => 342 | 45 => 341 | 50 => 330 | 5 => 5 | 9 => 9 | 66 => 351 | 70 => 304 | 76 => 356 | 77 => 225 | n => n, fun | n => n⟩
theorem Tryz.sortAcc : Go.Proofs.SlLaysF0.n6 Tryz.prog Tryz.sortAcc_ren := {
 mixed := by kernel_rfl
 f6 := ⟨Tryz.f203.name, by decide, Tryz.func203.trans (congrArg some (by kernel_rfl))⟩
 f14 := ⟨Tryz.f224.name, by decide, Tryz.func224.trans (congrArg some (by kernel_rfl))⟩
 f15 := Tryz.func225.trans (congrArg some (by kernel_rfl))
 f20 := ⟨Tryz.f233.name, by decide, Tryz.func233.trans (congrArg some (by kernel_rfl))⟩
 f21 := ⟨Tryz.f234.name, by decide, Tryz.func234.trans (congrArg some (by kernel_rfl))⟩
 f22 := ⟨Tryz.f235.name, by decide, Tryz.func235.trans (congrArg some (by kernel_rfl))⟩
 f23 := ⟨Tryz.f236.name, by decide, Tryz.func236.trans (congrArg some (by kernel_rfl))⟩
 f24 := ⟨Tryz.f237.name, by decide, Tryz.func237.trans (congrArg some (by kernel_rfl))⟩
 f25 := ⟨Tryz.f238.name, by decide, Tryz.func238.trans (congrArg some (by kernel_rfl))⟩
 f26 := ⟨Tryz.f239.name, by decide, Tryz.func239.trans (congrArg some (by kernel_rfl))⟩
 f27 := ⟨Tryz.f240.name, by decide, Tryz.func240.trans (congrArg some (by kernel_rfl))⟩
 f28 := Tryz.func241.trans (congrArg some (by kernel_rfl))
 f29 := Tryz.func242.trans (congrArg some (by kernel_rfl))
 f46 := ⟨Tryz.f247.name, by decide, Tryz.func247.trans (congrArg some (by kernel_rfl))⟩
 f47 := Tryz.func248.trans (congrArg some (by kernel_rfl))
 f48 := Tryz.func249.trans (congrArg some (by kernel_rfl))
 f49 := ⟨Tryz.f250.name, by decide, Tryz.func250.trans (congrArg some (by kernel_rfl))⟩
 f50 := ⟨Tryz.f251.name, by decide, Tryz.func251.trans (congrArg some (by kernel_rfl))⟩
 f57 := ⟨Tryz.f252.name, by decide, Tryz.func252.trans (congrArg some (by kernel_rfl))⟩
 t0 := Tryz.underlying0
 a0 := Tryz.isAgg0
 z0 := Tryz.sizeOf0
 v0 := Tryz.zeroValue0
 t3 := Tryz.underlying3
 a3 := Tryz.isAgg3
 z3 := Tryz.sizeOf3
 v3 := Tryz.zeroValue3
 t4 := Tryz.underlying4
 a4 := Tryz.isAgg4
 z4 := Tryz.sizeOf4
 v4 := Tryz.zeroValue4
 t5 := Tryz.underlying5
 a5 := Tryz.isAgg5
 z5 := Tryz.sizeOf5
 v5 := Tryz.zeroValue5
 t9 := Tryz.underlying9
 a9 := Tryz.isAgg9
 z9 := Tryz.sizeOf9
 v9 := Tryz.zeroValue9
 t22 := Tryz.underlying30
 a22 := Tryz.isAgg30
 z22 := Tryz.sizeOf30
 v22 := Tryz.zeroValue30
 t25 := Tryz.underlying313
 a25 := Tryz.isAgg313
 z25 := Tryz.sizeOf313
 v25 := Tryz.zeroValue313
 t39 := Tryz.underlying172
 a39 := Tryz.isAgg172
 z39 := Tryz.sizeOf172
 v39 := Tryz.zeroValue172
 t45 := Tryz.underlying341
 a45 := Tryz.isAgg341
 z45 := Tryz.sizeOf341
 v45 := Tryz.zeroValue341
 t46 := Tryz.underlying342
 a46 := Tryz.isAgg342
 z46 := Tryz.sizeOf342
 v46 := Tryz.zeroValue342
 t50 := Tryz.underlying330
 a50 := Tryz.isAgg330
 z50 := Tryz.sizeOf330
 v50 := Tryz.zeroValue330
 t53 := Tryz.underlying185
 a53 := Tryz.isAgg185
 z53 := Tryz.sizeOf185
 v53 := Tryz.zeroValue185
 t55 := Tryz.underlying27
 a55 := Tryz.isAgg27
 z55 := Tryz.sizeOf27
 v55 := Tryz.zeroValue27
 t66 := Tryz.underlying351
 a66 := Tryz.isAgg351
 z66 := Tryz.sizeOf351
 v66 := Tryz.zeroValue351
 t70 := Tryz.underlying304
 a70 := Tryz.isAgg304
 z70 := Tryz.sizeOf304
 v70 := Tryz.zeroValue304
 t76 := Tryz.underlying356
 a76 := Tryz.isAgg356
 z76 := Tryz.sizeOf356
 v76 := Tryz.zeroValue356
 t77 := Tryz.underlying225
 a77 := Tryz.isAgg225
 z77 := Tryz.sizeOf225
 v77 := Tryz.zeroValue225 }
end Go.Proofs
namespace Go.Proofs.YtdjcdmnemddjlaaGreat
open Go.RowKit
section
open Go.RowKit Go.Lib Go.Shelf Go.Sort
instance : Inhabited AcS := ⟨ac0⟩
def encA (a : AcS) : List Value := [.string ⟨a.name.toArray⟩, .int .u64 a.bal, .int .u64 a.seq]
theorem isNaN_run (x : ByteArray) (w : World) : Calls Tryz.prog 226 #[.string x] w fun e w' => e = .returned (.bool false) ∧ w' = w := by
 go_enter Tryz.func226, Tryz.ntmps226
 go_wp2
 go_ret
 exact ⟨by simp, rfl⟩
theorem compare_run (x y : List UInt8) (w : World) : Calls Tryz.prog 205 #[.string ⟨x.toArray⟩, .string ⟨y.toArray⟩] w fun e w' => e = .returned (.int .i64 (cmpN x y)) ∧ w' = w := by
 have ex : (⟨x.toArray⟩ : ByteArray).toList = x := by rw [Lib.toList_data]
 have ey : (⟨y.toArray⟩ : ByteArray).toList = y := by rw [Lib.toList_data]
 have hgt : ∀ w, (binOp .gtr 9 (.string ⟨x.toArray⟩) (.string ⟨y.toArray⟩)).run Tryz.prog w = .ok (.bool (!(Op.bytesLess x y || x == y))) w := fun w => by simp [binOp, Op.stringOp, ex, ey]
 unfold cmpN
 by_cases h1 : Op.bytesLess x y = true
 ·rw [if_pos h1]
  go_enter Tryz.func205, Tryz.ntmps205
  go_wp2_with (go_at_call 226; refine (isNaN_run _ _).mono ?_; rintro e w' ⟨rfl, rfl⟩)
  go_ret
  exact ⟨rfl, rfl⟩
 ·rw [if_neg h1]
  have h1 : Op.bytesLess x y = false := by simpa using h1
  by_cases h2 : x = y
  ·subst h2
   rw [h1, beq_self_eq_true, Bool.or_true, Bool.not_true] at hgt
   rw [if_neg (by simp)]
   go_enter Tryz.func205, Tryz.ntmps205
   go_wp2_with (first | (go_at_call 226; refine (isNaN_run _ _).mono ?_; rintro e w' ⟨rfl, rfl⟩) | simp only [hgt, Result.andThen_ok])
   go_ret
   exact ⟨rfl, rfl⟩
  ·have h3 : (x == y) = false := beq_eq_false_iff_ne.2 h2
   rw [h1, h3, Bool.or_false, Bool.not_false] at hgt
   rw [if_pos (by simp [h1, h2])]
   go_enter Tryz.func205, Tryz.ntmps205
   go_wp2_with (first | (go_at_call 226; refine (isNaN_run _ _).mono ?_; rintro e w' ⟨rfl, rfl⟩) | simp only [hgt, Result.andThen_ok])
   go_ret
   exact ⟨rfl, rfl⟩
theorem gen1_run (a b : AcS) (W : World) : Calls Tryz.prog 204 #[.agg (encA a).toArray, .agg (encA b).toArray] W fun e w' => e = .returned (.int .i64 (cmpN a.name b.name)) ∧ ∃ q os', w' = grow (W.drewN q) os' := by
 have hcon := fun W' => compare_run a.name b.name W'
 unfold encA
 generalize cmpN a.name b.name = r at hcon ⊢
 go_enter Tryz.func204, Tryz.ntmps204
 go_wp2_with (go_at_call 205; refine (hcon _).mono ?_; rintro e w' ⟨rfl, rfl⟩)
 go_ret
 exact ⟨rfl, 0, _, by rw [alloc_eq_grow, alloc_eq_grow, grow_grow]; rfl⟩
end
end Go.Proofs.YtdjcdmnemddjlaaGreat
