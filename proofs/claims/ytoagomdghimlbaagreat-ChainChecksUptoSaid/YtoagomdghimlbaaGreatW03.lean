/- Parts of a proof, one behind the other: M27, M28, M31, Opn, M33, M34, M35, KL, Seat, S0, S2, U32, K, S1, PFrame, A1, B1, B2, B3, B4, B5, H1. -/
import Derived.Test.YtoagomdghimlbaaGreatW02
set_option maxRecDepth 20000
set_option maxHeartbeats 16000000
namespace Go.Proofs.YtoagomdghimlbaaGreat
open Go.RowKit
section
section
variable {Pg : Program} {T : Tab} {N : Nat} {ents : List FuncId} {G : GS} {ops : Array Oper} {e' : Nat → Option MV} {m' : FM} {w0 : World} {ex0 : Anc} {P0 : Prot} {Q : Exit → Act → World → Prop} {Z : Nat → Prop}
theorem okR_out {x y : Dop} (h : okR ops x y = true) : ∃ a b, ops[x.k]? = some a ∧ ops[y.k]? = some b ∧ ((a.apart ops b = true ∧ okC2 x y a b = true) ∨ pathO ops 8 y.k x.k = true) ∧ (∀ e ∈ a.after.toList, Region.binds .any e = true → e.on ≠ y.k) ∧ x.k ≠ y.k := by
 unfold okR at h
 split at h
 ·rename_i a b ha hb
  simp only [Bool.and_eq_true, Bool.or_eq_true, List.all_eq_true, Bool.not_eq_true'] at h
  obtain ⟨⟨h1, h2⟩, h3⟩ := h
  refine ⟨a, b, ha, hb, h1, fun e he hbd hh => ?_, fun hh => ?_⟩
  ·rcases h2 e he with h | h
   ·rw [hbd] at h; cases h
   ·rw [hh] at h; simp at h
  ·rw [hh] at h3; simp at h3
 ·cases h
theorem okS_out {x : Nat} (h : okS ops x = true) : ∃ a, ops[x]? = some a ∧ ∀ e ∈ a.after.toList, Region.binds .any e = true → e.on < ops.size ∧ e.on ≠ x := by
 unfold okS at h
 split at h
 ·rename_i a ha
  simp only [List.all_eq_true, Bool.or_eq_true, Bool.and_eq_true, Bool.not_eq_true'] at h
  refine ⟨a, ha, fun e he hb => ?_⟩
  rcases h e he with h | ⟨h1, h2⟩
  ·rw [hb] at h; cases h
  ·refine ⟨by simpa [Nat.blt_eq] using h1, fun hh => ?_⟩
   subst hh; simp at h2
 ·cases h
theorem getD_any {l : Array Bool} {k : Nat} {d d' : Bool} (h : k < l.size) : l.getD k d = l.getD k d' := by simp [Array.getD, h]
theorem any_ok (hS : SeatM Pg T ents G w0 ex0) (hQ : ∀ a w, SimS N w0 ex0 P0 e' m' Z a w → Q .normal a w) : ∀ (fuel : Nat) (L : List Dop) {listed : Array Bool} {e : Nat → Option MV} {m : FM} {a : Act} {w : World},
  (∃ M, VM.get M = m) → runL Pg T N ents G ops L e m e' m' → L.Pairwise (fun x y => okR ops x y = true) → (∀ x ∈ L, okS ops x.k = true) → (L.map (·.n)).Nodup → (∀ x ∈ L, ¬ Z x.n) →
  SimS N w0 ex0 P0 e m (fun c => c ∈ L.map (·.n) ∨ Z c) a w → (∀ k, k < ops.size → (listed.getD k true = false ↔ k ∈ L.map (·.k))) → listed.size = ops.size → ClosedO ops listed → L.length ≤ fuel → wpAny Pg .any ops Q fuel listed a w := by
 intro fuel
 induction fuel with
 | zero =>
  intro L listed e m a w hv hr hP hA hD hZ hs hl hsz hc hlen
  obtain rfl : L = [] := List.length_eq_zero_iff.1 (by omega)
  obtain ⟨rfl, rfl⟩ := hr
  refine wpAny_done (List.eq_nil_iff_forall_not_mem.2 fun i hi => ?_) (hQ a w (by simpa using hs)) 0
  obtain ⟨h1, o, h2, _⟩ := ready_out hi
  exact absurd ((hl i (Array.getElem?_eq_some_iff.1 h2).1).1 h1) (by simp)
 | succ fuel ih =>
  intro L listed e m a w hv hr hP hA hD hZ hs hl hsz hc hlen
  have hunl : ∀ x ∈ L, listed.getD x.k true = false ∧ listed.getD x.k false = false := by
   intro x hx
   obtain ⟨o, ho, _⟩ := okS_out (hA x hx)
   have hlt := (Array.getElem?_eq_some_iff.1 ho).1
   have h1 := (hl x.k hlt).2 (List.mem_map_of_mem hx)
   exact ⟨h1, by rw [getD_any (d' := true) (by omega)]; exact h1⟩
  refine ⟨fun h0 => ?_, fun i hi => ?_⟩
  ·cases L with
   | nil =>
    obtain ⟨rfl, rfl⟩ := hr
    exact hQ a w (by simpa using hs)
   | cons x L =>
    exfalso
    obtain ⟨o, ho, h2⟩ := okS_out (hA x (by simp))
    have : x.k ∈ Region.ready .any ops listed := ready_in (hunl x (by simp)).1 ho fun ed he hb => by
     obtain ⟨h3, h4⟩ := h2 ed he hb
     rw [getD_any (d' := true) (by omega)]
     cases hh : listed.getD ed.on true with
     | true => rfl
     | false =>
      exfalso
      have := (hl ed.on h3).1 hh
      simp only [List.map_cons, List.mem_cons] at this
      rcases this with h5 | h5
      ·exact h4 h5
      ·obtain ⟨y, hy, hyk⟩ := List.mem_map.1 h5
       obtain ⟨a', b', p1, p2, p3, p4, p5⟩ := okR_out ((List.pairwise_cons.1 hP).1 y hy)
       rw [ho] at p1
       injection p1 with p1
       subst p1
       exact p4 ed he hb hyk.symm
    rw [h0] at this
    cases this
  ·obtain ⟨h1, o, ho, hready⟩ := ready_out hi
   have hlt := (Array.getElem?_eq_some_iff.1 ho).1
   have hmem := (hl i hlt).1 h1
   obtain ⟨k, hk, rfl⟩ := List.mem_map.1 hmem
   obtain ⟨L1, L2, rfl⟩ := List.append_of_mem hk
   simp only [List.map_append, List.map_cons] at hD
   have hP1 := List.pairwise_append.1 hP
   have hD1 := List.nodup_append.1 hD
   have hD2 := List.nodup_cons.1 hD1.2.1
   have hP2 := List.pairwise_cons.1 hP1.2.1
   have hne1 : ∀ x ∈ L1, x.n ≠ k.n := fun x hx => hD1.2.2 _ (List.mem_map_of_mem hx) _ (by simp)
   have hne2 : ∀ x ∈ L2, x.n ≠ k.n := fun x hx hh => hD2.1 (hh ▸ List.mem_map_of_mem (f := (·.n)) hx)
   obtain ⟨o', e1, m1, p1, p2, p3⟩ := runL_front hv hr (fun x hx => by
     obtain ⟨a', b', q1, q2, q3, _⟩ := okR_out (hP1.2.2 x hx k (by simp))
     refine ⟨a', b', q1, q2, ?_⟩
     rcases q3 with q3 | q3
     ·exact q3
     ·rw [pathO_false hc (hunl x (by simp [hx])).2 8 k.k o ho hready] at q3; cases q3)
    (fun x hx => ⟨hne1 x hx, hs.fresh _ (.inl (List.mem_map_of_mem (by simp [hx])))⟩) (hs.fresh _ (.inl (List.mem_map_of_mem (by simp)))) hD1.1
   rw [ho] at p1
   injection p1 with p1
   subst p1
   have hv1 : ∃ M, VM.get M = m1 := by obtain ⟨M, rfl⟩ := hv; exact step_vm p2
   unfold wpOp
   rw [ho]
   refine stepF_out (F' := fun c => c ∈ (L1 ++ L2).map (·.n) ∨ Z c) hS hs (.inl (List.mem_map_of_mem (by simp))) (fun c hc' => ?_) p2 fun a' w' hs' => ?_
   ·rcases hc' with hc' | hc'
    ·obtain ⟨x, hx, rfl⟩ := List.mem_map.1 hc'
     rcases List.mem_append.1 hx with hx | hx
     ·exact ⟨.inl (List.mem_map_of_mem (by simp [hx])), hne1 x hx⟩
     ·exact ⟨.inl (List.mem_map_of_mem (by simp [hx])), hne2 x hx⟩
    ·exact ⟨.inr hc', fun hh => hZ k hk (hh ▸ hc')⟩
   ·have hnk : ∀ j, j ∈ (L1 ++ L2).map (·.k) → k.k ≠ j := by
     intro j hj
     obtain ⟨y, hy, rfl⟩ := List.mem_map.1 hj
     rcases List.mem_append.1 hy with hy | hy
     ·obtain ⟨_, _, _, _, _, _, q⟩ := okR_out (hP1.2.2 y hy k (by simp)); exact fun h => q h.symm
     ·obtain ⟨_, _, _, _, _, _, q⟩ := okR_out (hP2.1 y hy); exact q
    refine ih (L1 ++ L2) hv1 p3 ?_ (fun x hx => hA x ?_) ?_ (fun x hx => hZ x ?_) hs' (fun j hj => ?_) (by simpa using hsz) ?_ ?_
    ·exact List.pairwise_append.2 ⟨hP1.1, hP2.2, fun x hx y hy => hP1.2.2 x hx y (by simp only [List.mem_cons]; exact .inr hy)⟩
    ·rcases List.mem_append.1 hx with hx | hx <;> simp [hx]
    ·rw [List.map_append]
     exact List.nodup_append.2 ⟨hD1.1, hD2.2, fun x hx y hy => hD1.2.2 x hx y (by simp only [List.mem_cons]; exact .inr hy)⟩
    ·rcases List.mem_append.1 hx with hx | hx <;> simp [hx]
    ·rw [getD_set (by omega)]
     by_cases hkj : k.k = j
     ·rw [if_pos hkj]
      exact ⟨fun h => (by cases h), fun h => absurd hkj (hnk j h)⟩
     ·rw [if_neg hkj, hl j hj]
      simp only [List.map_append, List.map_cons, List.mem_append, List.mem_cons]
      constructor
      ·rintro (h | h | h)
       ·exact .inl h
       ·exact absurd h.symm hkj
       ·exact .inr h
      ·rintro (h | h)
       ·exact .inl h
       ·exact .inr (.inr h)
    ·intro j oj hj hjl ed he hb
     rw [getD_set (by omega)] at hjl ⊢
     split
     ·rfl
     ·split at hjl
      ·rename_i hkj
       subst hkj
       rw [ho] at hj
       injection hj with hj
       subst hj
       exact hready ed he hb
      ·exact hc j oj hj hjl ed he hb
    ·simp only [List.length_append, List.length_cons] at hlen ⊢
     omega
end
end
section
section
variable {Pg : Program} {T : Tab} {N : Nat} {ents : List FuncId} {G : GS} {ops : Array Oper} {E : VE} {M : VM} {n : Nat} {o : Oper}
theorem vCallF_dom {e : Nat → Option MV} {m : FM} {f : Operand} {args : List Operand} {K : FuncId × List MV × List (Nat × Nat) → Prop} (h : (vCallF e m f args).runP K) : (vCallF e m f args).runP fun x => K x ∧ ∀ c ∈ x.2.2, m c.1 ≠ none := by
 unfold vCallF at h ⊢
 unfold rd at h ⊢
 split at h
 ·have key : ∀ (az : List Operand) (k : List MV → Ask (FuncId × List MV × List (Nat × Nat))) (K K' : FuncId × List MV × List (Nat × Nat) → Prop), (∀ vs, (k vs).runP K → (k vs).runP K') → (rds e az k).runP K → (rds e az k).runP K' := by
   intro az
   induction az with
   | nil => intro k K K' hk h; exact hk _ h
   | cons x az ih =>
    intro k K K' hk h
    unfold rds rd at h ⊢
    split at h
    ·exact ih _ K K' (fun vs h => hk _ h) h
    ·exact h.elim
  refine key _ _ _ _ (fun vs hk => ?_) h
  split at hk
  ·exact frzs_weak (frzs_same (SameB.refl m) (Ask.bind_runP.1 hk)) fun x hx => ⟨hx.1, hx.2⟩
  ·exact hk.elim
 ·exact h.elim
theorem vRun_toF {E2 : VE} {K : MV → VM → Prop} (h : vRun Pg T ents G o E2 M n K) : ∃ r δ, runF Pg T ents G o (VE.get E2) (VM.get M) n r δ ∧ K r (δ.app n M) := by
 have plain : (eOp Pg T (VE.get E2) (VM.get M) n o).runP (fun x => K x.1 (x.2.app n M)) → ∃ r δ, (eOp Pg T (VE.get E2) (VM.get M) n o).runP (fun x => x = (r, δ)) ∧ K r (δ.app n M) := by
  intro h
  obtain ⟨⟨r, δ⟩, h1, h2, _⟩ := sharp_eOp Pg T (VE.get E2) (VM.get M) n o _ h
  exact ⟨r, δ, h1, h2⟩
 obtain ⟨dst, op, ty, pos, after, guard⟩ := o
 cases op with
 | call c =>
  obtain ⟨callee, args, ats⟩ := c
  cases callee with
  | value f =>
   replace h : (vCallF (VE.get E2) (VM.get M) f args.toList).runP fun x => match ents.contains x.1 with | true => ∃ res, SemC Pg G x.1 x.2.1 res ∧ K res (VM.bump M x.2.2) | false => False := h
   obtain ⟨x, h1, ⟨h2, h3⟩, h4⟩ := sharp_vCall E2 M f args.toList _ (vCallF_dom h)
   split at h2
   ·rename_i hc
    obtain ⟨res, hsem, hk⟩ := h2
    exact ⟨res, .bump x.2.2, h4 _ ⟨hc, hsem, rfl, h3⟩, hk⟩
   ·exact h2.elim
  | _ => exact plain h
 | _ => exact plain h
theorem vPut_toF {dst : Option Tmp} {r : MV} {K : VE → Prop} (h : vPut N dst r E K) : ∃ E1, K E1 ∧ (∀ d, dst = some d → d < N) ∧ VE.get E1 = putF dst r (VE.get E) := by
 unfold vPut at h
 split at h
 ·exact ⟨E, h, fun d hd => (nomatch hd), rfl⟩
 ·rename_i d
  split at h
  ·rename_i hd
   refine ⟨_, h, fun d' hd' => ?_, ?_⟩
   ·injection hd' with hd'; subst hd'; simpa [Nat.blt_eq] using hd
   ·funext t
    rw [VE.get_cons]
    show _ = fput _ d r t
    unfold fput
    by_cases ht : d = t
    ·subst ht; simp
    ·rw [if_neg ht, if_neg fun h => ht h.symm]
  ·exact h.elim
theorem get_know {s : Nat} {v : MV} (h : VE.get E s = some v) : VE.get ((s, v) :: E) = VE.get E := by
 funext t
 rw [VE.get_cons]
 split
 ·rename_i hh; subst hh; exact h.symm
 ·rfl
section
variable (Pg : Program) (T : Tab) (N : Nat) (ents : List FuncId) (G : GS)
def vRunD (rf : Bool) (o : Oper) (E : VE) (M : VM) (n : Nat) (K : MV → VM → List Nat → Prop) : Prop := match rf with
 | false => vRun Pg T ents G o E M n fun r M' => K r M' (numsO (VE.get E) o.op.operands.toList)
 | true => match o.op with
  | .call c => match c.callee with
   | .value f => (vArgs E f c.args.toList).runP fun x => match ents.contains x.1 with
    | true => ∃ fp, vCallZ Pg G M n x.1 x.2 fp fun r M' => K r M' fp
    | false => False
   | _ => False
  | _ => False
def vOpD (ops : Array Oper) (rf : Bool) (o : Oper) (K : List Nat → VE → VM → Prop) (E : VE) (M : VM) (n : Nat) : Prop := match o.guard with
 | none => vRunD Pg T ents G rf o E M n fun r M fp => vPut N o.dst r E fun E => K fp E M
 | some (j, want) => match (ops[j]?).bind (·.dst) with
  | none => False
  | some s => match VE.get E s with
   | some (.bool t) =>
    (t = want → vRunD Pg T ents G rf o ((s, .bool want) :: E) M n fun r M fp => vPut N o.dst r ((s, .bool want) :: E) fun E => K fp E M) ∧
    (t = !want → vPut N o.dst .undef ((s, .bool (!want)) :: E) fun E' => K (bif rf then [] else numsO (VE.get E) o.op.operands.toList) E' M)
   | some .undef => vPut N o.dst .undef E fun E' => K (bif rf then [] else numsO (VE.get E) o.op.operands.toList) E' M
   | _ => False
def vOpsD (ops : Array Oper) : List (Nat × Bool) → List Dop → VK → VE → VM → Nat → Prop
 | [], A, K => fun E M n => okDraw ops A.reverse = true ∧ K E M n
 | x :: L, A, K => fun E M n => match ops[x.1]? with
  | some o => vOpD Pg T N ents G ops x.2 o (fun fp E M => vOpsD ops L (⟨x.1, n, x.2, fp⟩ :: A) K E M (n + 1)) E M n
  | none => False
end
theorem vRunD_toF {rf : Bool} {E2 : VE} {K : MV → VM → List Nat → Prop} {_D : VE} (h : vRunD Pg T ents G rf o E2 M n K) (hg : gdF ops o (VE.get E2) = some true) (hd : ∀ d, o.dst = some d → d < N) : ∃ r M' fp, K r M' fp ∧ stepF Pg T N ents G ops rf o n fp (VE.get E2) (VM.get M) (putF o.dst r (VE.get E2)) (VM.get M') := by
 cases rf with
 | false =>
  obtain ⟨r, δ, h1, h2⟩ := vRun_toF (K := fun r M' => K r M' (numsO (VE.get E2) o.op.operands.toList)) h
  exact ⟨r, δ.app n M, _, h2, r, hd, rfl, δ, ⟨true, hg, fun _ => h1, fun h => nomatch h⟩, Dl.get_app _ _ _, rfl⟩
 | true =>
  have hd' := hd
  obtain ⟨dst, op, ty, pos, after, guard⟩ := o
  unfold vRunD at h
  cases op with
  | call c =>
   obtain ⟨callee, args, ats⟩ := c
   cases callee with
   | value f =>
    replace h : (vArgsF (VE.get E2) f args.toList).runP fun x => match ents.contains x.1 with | true => ∃ fp, vCallZ Pg G M n x.1 x.2 fp fun r M' => K r M' fp | false => False := h
    unfold vArgsF at h
    obtain ⟨x, h1, h2, h3⟩ := (Sharp.rd fun fv => Sharp.rds fun vs => by cases fv <;> first | exact Sharp.ret _ | exact Sharp.bad) _ h
    split at h2
    ·rename_i hc
     obtain ⟨fp, args', M0, n0, res, M1, n1, a1, σ, bs, a2, a3, a4, a5, a6, a7⟩ := h2
     refine ⟨_, _, fp, a7, _, hd', rfl, true, hg, fun _ => ?_, fun h => nomatch h⟩
     show (vArgsF (VE.get E2) f args.toList).runP _
     unfold vArgsF
     exact h3 _ ⟨hc, M, rfl, args', M0, n0, res, M1, n1, a1, σ, bs, a2, a3, a4, a5, a6, rfl, rfl⟩
    ·exact h2.elim
   | _ => exact h.elim
  | _ => exact h.elim
theorem vPut_dst {dst : Option Tmp} {r : MV} {K : VE → Prop} (h : vPut N dst r E K) : ∀ d, dst = some d → d < N := by
 intro d hd
 subst hd
 unfold vPut at h
 split at h
 ·rename_i hh; cases hh
 ·rename_i d' hh
  injection hh with hh
  subst hh
  split at h
  ·rename_i hb; simpa [Nat.blt_eq] using hb
  ·exact h.elim
theorem vRunD_some {rf : Bool} {K : MV → VM → List Nat → Prop} (h : vRunD Pg T ents G rf o E M n K) : ∃ r M' fp, K r M' fp := by
 cases rf with
 | false => obtain ⟨r, δ, h1, h2⟩ := vRun_toF (K := fun r M' => K r M' (numsO (VE.get E) o.op.operands.toList)) h; exact ⟨_, _, _, h2⟩
 | true =>
  obtain ⟨dst, op, ty, pos, after, guard⟩ := o
  unfold vRunD at h
  cases op with
  | call c =>
   obtain ⟨callee, args, ats⟩ := c
   cases callee with
   | value f =>
    replace h : (vArgsF (VE.get E) f args.toList).runP fun x => match ents.contains x.1 with | true => ∃ fp, vCallZ Pg G M n x.1 x.2 fp fun r M' => K r M' fp | false => False := h
    unfold vArgsF at h
    obtain ⟨x, h1, h2, h3⟩ := (Sharp.rd fun fv => Sharp.rds fun vs => by cases fv <;> first | exact Sharp.ret _ | exact Sharp.bad) _ h
    split at h2
    ·obtain ⟨fp, args', M0, n0, res, M1, n1, a1, σ, bs, a2, a3, a4, a5, a6, a7⟩ := h2
     exact ⟨_, _, _, a7⟩
    ·exact h2.elim
   | _ => exact h.elim
  | _ => exact h.elim
theorem vOpD_toF {rf : Bool} {K : List Nat → VE → VM → Prop} (h : vOpD Pg T N ents G ops rf o K E M n) : ∃ fp E1 M1, K fp E1 M1 ∧ stepF Pg T N ents G ops rf o n fp (VE.get E) (VM.get M) (VE.get E1) (VM.get M1) := by
 have run : ∀ {E2 : VE}, VE.get E2 = VE.get E → gdF ops o (VE.get E) = some true → (vRunD Pg T ents G rf o E2 M n fun r M fp => vPut N o.dst r E2 fun E => K fp E M) → ∃ fp E1 M1, K fp E1 M1 ∧ stepF Pg T N ents G ops rf o n fp (VE.get E) (VM.get M) (VE.get E1) (VM.get M1) := by
  intro E2 he hg h
  have hd : ∀ d, o.dst = some d → d < N := by obtain ⟨r, M', fp, h1⟩ := vRunD_some h; exact vPut_dst h1
  obtain ⟨r, M', fp, h1, h2⟩ := vRunD_toF (_D := E2) h (by rw [he]; exact hg) hd
  obtain ⟨E1, h3, h4, h5⟩ := vPut_toF h1
  rw [he] at h2 h5
  rw [← h5] at h2
  exact ⟨fp, E1, M', h3, h2⟩
 have skip : ∀ {E2 : VE}, VE.get E2 = VE.get E → gdF ops o (VE.get E) = some false → (vPut N o.dst .undef E2 fun E' => K (bif rf then [] else numsO (VE.get E) o.op.operands.toList) E' M) → ∃ fp E1 M1, K fp E1 M1 ∧ stepF Pg T N ents G ops rf o n fp (VE.get E) (VM.get M) (VE.get E1) (VM.get M1) := by
  intro E2 he hg h
  obtain ⟨E1, h3, h4, h5⟩ := vPut_toF h
  rw [he] at h5
  cases rf with
  | false => exact ⟨_, E1, M, h3, .undef, h4, h5, .none, ⟨false, hg, fun h => (nomatch h), fun _ => ⟨rfl, rfl⟩⟩, rfl, rfl⟩
  | true => exact ⟨_, E1, M, h3, .undef, h4, h5, false, hg, fun h => (nomatch h), fun _ => ⟨rfl, rfl⟩⟩
 unfold vOpD at h
 split at h
 ·rename_i hg
  exact run rfl (by simp [gdF, hg]) h
 ·rename_i j want hg
  split at h
  ·exact h.elim
  ·rename_i s hj
   split at h
   ·rename_i t ht
    by_cases hw : t = want
    ·exact run (get_know (by rw [ht, hw])) (by simp [gdF, hg, hj, ht, hw]) (h.1 hw)
    ·have hw' : t = !want := by cases t <;> cases want <;> simp_all
     exact skip (get_know (by rw [ht, hw'])) (by simp [gdF, hg, hj, ht, hw]) (h.2 hw')
   ·rename_i ht
    exact skip rfl (by simp [gdF, hg, hj, ht]) h
   ·exact h.elim
def NumB (n n' : Nat) (L : List Dop) : Prop := (L.map (·.n)).Nodup ∧ ∀ x ∈ L, n ≤ x.n ∧ x.n < n'
theorem vOpsD_toF : ∀ {L : List (Nat × Bool)} {A : List Dop} {K : VK} {E : VE} {M : VM} {n : Nat}, vOpsD Pg T N ents G ops L A K E M n →
  ∃ D E1 M1, okDraw ops (A.reverse ++ D) = true ∧ D.length = L.length ∧ NumB n (n + L.length) D ∧ K E1 M1 (n + L.length) ∧ runL Pg T N ents G ops D (VE.get E) (VM.get M) (VE.get E1) (VM.get M1)
 | [], A, K, E, M, n, h => ⟨[], E, M, by simpa using h.1, rfl, ⟨List.nodup_nil, fun _ h => nomatch h⟩, h.2, rfl, rfl⟩
 | x :: L, A, K, E, M, n, h => by
  unfold vOpsD at h
  split at h
  ·rename_i o ho
   obtain ⟨fp, E1, M1, h1, h2⟩ := vOpD_toF h
   obtain ⟨D, E2, M2, h3, h4, h5, h6, h7⟩ := vOpsD_toF h1
   refine ⟨⟨x.1, n, x.2, fp⟩ :: D, E2, M2, by simpa using h3, by simp [h4], ⟨List.nodup_cons.2 ⟨fun hm => ?_, h5.1⟩, fun y hy => ?_⟩, by rw [List.length_cons, show n + (L.length + 1) = n + 1 + L.length by omega]; exact h6, o, _, _, ho, h2, h7⟩
   ·obtain ⟨y, hy, he⟩ := List.mem_map.1 hm
    have := (h5.2 y hy).1
    simp only at he
    omega
   ·rcases List.mem_cons.1 hy with rfl | hy
    ·simp
    ·have := h5.2 y hy
     simp only [List.length_cons]
     omega
  ·exact h.elim
end
end
section
inductive Rs (n0 : Nat) (K : VK) : VE → VM → Nat → Prop
 | go {E : VE} {M : VM} {n : Nat} (h : K E M n) : Rs n0 K E M n
 | re {E : VE} {M : VM} {n : Nat} (E' : VE) (M' : VM) (n' : Nat) (h : VMatch n0 E' M' n' E M) (k : K E' M' n') : Rs n0 K E M n
section
variable (Pg : Program) (T : Tab) (N : Nat) (ents : List FuncId) (G : GS) (n0 : Nat)
def vC : Code → (Exit → VK) → VK
 | .skip, Q, E, M, n => Q .normal E M n
 | .region _ ops draw, Q, E, M, n => match draw with
  | false => vOpsN Pg T N ents G ops ops.toList (Q .normal) E M n
  | true => ∃ L : List (Nat × Bool), vOpsD Pg T N ents G ops L [] (Q .normal) E M n
 | .seq x y, Q, E, M, n => vC x (fun e E M n => match e with | .normal => Rs n0 (vC y Q) E M n | e => Q e E M n) E M n
 | .cond c x y, Q, E, M, n => match evM (VE.get E) c with
  | some (.bool t) => (t = true → vC x Q E M n) ∧ (t = false → vC y Q E M n)
  | _ => False
 | .block id c, Q, E, M, n => vC c (fun e E M n => match e with | .exit i => (bif Nat.beq i id then Q .normal E M n else Q (.exit i) E M n) | e => Q e E M n) E M n
 | .loop c, Q, E, M, _ => ∃ (X : Type) (E' : X → VE) (M' : X → VM) (n' : Nat) (I : X → Prop) (μ : X → Nat),
   (∃ x, I x ∧ VMatch n0 (E' x) (M' x) n' E M) ∧
   ∀ x, I x → vC c (fun e E1 M1 n1 => match e with | .normal => ∃ x', I x' ∧ μ x' < μ x ∧ VMatch n0 (E' x') (M' x') n' E1 M1 | e => Q e E1 M1 n1) (E' x) (M' x) n'
 | .exit id, Q, E, M, n => Q (.exit id) E M n
 | .ret, Q, E, M, n => Q .ret E M n
 | .label _, Q, E, M, n => Q .normal E M n
 | _, _, _, _, _ => False
def tupM : List MV → MV
 | [v] => v
 | vs => .tup vs
def vRets (M : VM) (E : VE) : List ResultVar → (List MV → Prop) → Prop
 | [], K => K []
 | .tmp t :: l, K => match VE.get E t with
  | some v => vRets M E l fun r => K (v :: r)
  | none => False
 | .cell p ty :: l, K => match VE.get E p with
  | some p => (oLoad T (VM.get M) ty p).runP fun x => vRets M E l fun r => K (x.1 :: r)
  | none => False
def vRetQ (rs : List ResultVar) (R : MV → Prop) : Exit → VK := fun e E M _ => match e with
 | .ret | .normal => vRets T M E rs fun vs => (frzs (VM.get M) vs).runP fun x => R (tupM x.1)
 | _ => False
def vRetR (rs : List ResultVar) (res : MV) (M1 : VM) (n1 : Nat) : Exit → VK := fun e E M _ => match e with
 | .ret | .normal => vRets T M E rs fun vs => ∃ (rv : List MV) (σ bs : List (Nat × Nat)), tupM rv = res ∧ LMatch n0 rv M1 n1 vs M σ bs
 | _ => False
def vRetE (rs : List ResultVar) (Φ : MV → VM → Nat → Prop) : Exit → VK := fun e E M _ => match e with
 | .ret | .normal => vRets T M E rs fun vs => ∃ (res : MV) (M1 : VM) (n1 : Nat), Φ res M1 n1 ∧ ∃ (rv : List MV) (σ bs : List (Nat × Nat)), tupM rv = res ∧ LMatch n0 rv M1 n1 vs M σ bs
 | _ => False
end
section
variable {ops : Array Oper} {e : Nat → Option MV} {F F' : Nat → Prop} {Pg : Program} {T : Tab} {N : Nat} {ents : List FuncId} {G : GS} {w0 w w' : World} {ex0 : Anc} {P0 P : Prot} {adr : Adr} {E : VE} {M : VM} {m : FM} {n : Nat} {a : Act} {r : MV} {u : Value} {δ : Dl}
def PostM (N : Nat) (w0 : World) (ex0 : Anc) (P0 : Prot) (Q : Exit → VK) : Exit → Act → World → Prop := fun e a w => ∃ E M n, Q e E M n ∧ Sim N w0 ex0 P0 (VE.get E) (VM.get M) n a w
theorem SimS.drew (hs : SimS N w0 ex0 P0 e m F a w) : SimS N w0 ex0 P0 e m F a { w with drawn := w.drawn + 1 } := by
 obtain ⟨P, adr, hI, hE, ha1, ha2, ha3⟩ := hs.ex
 have hb : Below w.heap.size w { w with drawn := w.drawn + 1 } := ⟨rfl, rfl, rfl, Nat.le_refl _, fun _ _ => rfl⟩
 refine ⟨⟨protNew w { w with drawn := w.drawn + 1 } P, adr, hI.below hb, fun t v ht => ?_, ha1, ⟨ha2.in_, ha2.old, ha2.keep.trans (Keep.below hI.prot hb)⟩, fun b o ho => ?_⟩, hs.fresh, hs.ge, ⟨hs.since.os, hs.since.tape, hs.since.output, hs.since.size, hs.since.block⟩, hs.defers, hs.size⟩
 ·obtain ⟨u, h1, h2⟩ := hE t v ht
  exact ⟨u, h1, h2.keep (Keep.below hI.prot hb)⟩
 ·rcases ho with h | h
  ·exact ha3 b o h
  ·exact .inr (.inl (Nat.le_trans hs.since.size h.1))
theorem SimS.mono (hs : SimS N w0 ex0 P0 e m F a w) (hF : ∀ c, F' c → F c) : SimS N w0 ex0 P0 e m F' a w := by
 obtain ⟨P, adr, hI, hE, ha1, ha2, ha3⟩ := hs.ex
 exact ⟨⟨P, adr, hI, hE, fun c hc => ha1 c (hF c hc), ha2, ha3⟩, fun c hc => hs.fresh c (hF c hc), fun c hc => hs.ge c (hF c hc), hs.since, hs.defers, hs.size⟩
theorem vPut_sim {M' : VM} {n' : Nat} {w' : World} {P' : Prot} {adr' : Adr} (hd : a.defers = []) (hz : a.tmps.size = N) (hI : InvM w' P' adr' (VM.get M')) (hE : EnvR w' P' adr' (VE.get E) a) (hr : RepV w' P' adr' r u) (h1 : ∀ c, n' ≤ c → adr' c = none) (h2 : AdrOK w0 ex0 P0 w' P' adr')
  (h3 : ∀ b o, P' b o → P0 b o ∨ w0.heap.size ≤ b ∨ ex0.ex b) (h4 : ∀ c, n' ≤ c → VM.get M' c = none) (h5 : ex0.n0 ≤ n') (h6 : Since ex0.ex w0 w') {dst : Option Tmp} {K : VE → Prop} (hK : vPut N dst r E K) : ∃ E', K E' ∧ Sim N w0 ex0 P0 (VE.get E') (VM.get M') n' (a.put dst u) w' := by
 unfold vPut at hK
 split at hK
 ·exact ⟨E, hK, ⟨P', adr', hI, hE, h1, h2, h3⟩, h4, h5, h6, hd, hz⟩
 ·rename_i d
  split at hK
  ·rename_i hlt
   have hlt : d < N := by simpa [Nat.blt_eq] using hlt
   exact ⟨_, hK, ⟨P', adr', hI, hE.put hz hlt hr, h1, h2, h3⟩, h4, h5, h6, hd, by simp [Act.put, hz]⟩
  ·exact hK.elim
theorem vOpN_out (hS : SeatM Pg T ents G w0 ex0) {o : Oper} {K : VK} {next : Act → World → Prop} {Q : Exit → Act → World → Prop}
  (h : vOpN Pg T N ents G ops o K E M n) (hs : Sim N w0 ex0 P0 (VE.get E) (VM.get M) n a w) (hn : ∀ E M n a w, K E M n → Sim N w0 ex0 P0 (VE.get E) (VM.get M) n a w → next a w) :
  if Region.wanted o (yielded ops a.tmps) then o.wp Pg a w next Q ∨ (o.asks Pg a w ∧ LetsOut Q) else next (a.put o.dst undef) w := by
 obtain ⟨P, adr, hI, hE, ha1, ha2, ha3⟩ := hs.ex
 have run : ∀ {E2 : VE}, EnvR w P adr (VE.get E2) a → (vRunN Pg T ents G o E2 M n fun r M n => vPut N o.dst r E2 fun E => K E M n) → o.wp Pg a w next Q := by
  intro E2 hE2 h
  unfold vRunN at h
  split at h
  ·rename_i k neg hq
   unfold nilQ at hq
   split at hq
   ·rename_i op t x ty' hop
    split at hq
    ·rename_i k' l hx
     split at hq
     ·rename_i e es hd
      have hp := evM_rep hE2 hx
      obtain ⟨A, cap, es', parts, e1, _, _, _, h4, _⟩ := hp.sl_
      have hc : nilCmp T t (.const (.slice none 0 0)) (.val (a.eval x)) (.val (.slice none 0 0)) = some A.isNone := by
       rw [e1]
       cases A with
       | none => obtain ⟨q1, q2⟩ := h4 rfl; subst q1; subst q2; simp [nilCmp, hd]
       | some _ => simp [nilCmp, hd]
      obtain ⟨r1, r2⟩ := nilCmp_out (xo := x) (P := Pg) hS.seat.tab hc w
      have hA : A.isNone = true → k' = 0 := fun hA => (h4 (by simpa using hA)).1
      obtain ⟨dst, op', ty, pos, after, guard⟩ := o
      have hop : op' = .binOp op t x (.const (.slice none 0 0)) ty' := hop
      subst hop
      have fin : ∀ (bb : Bool), (do eqGuard op t x (.const (.slice none 0 0)) (a.eval x) (.slice none 0 0); binOp op t (a.eval x) (.slice none 0 0) : Sem Value).run Pg w = .ok (.bool bb) w → (vPut N dst (.bool bb) E2 fun E => K E M (n + 1)) → (⟨dst, .binOp op t x (.const (.slice none 0 0)) ty', ty, pos, after, guard⟩ : Oper).wp Pg a w next Q := by
       intro bb hr hk
       have hres := Res.val (a := a) (o := ⟨dst, .binOp op t x (.const (.slice none 0 0)) ty', ty, pos, after, guard⟩) (Q := fun u w' => u = .bool bb ∧ w' = w) _ rfl hr ⟨rfl, rfl⟩
       obtain ⟨E', q1, q2⟩ := vPut_sim (n' := n + 1) hs.defers hs.size hI hE2 (.val [_] .bool) (fun c hc => ha1 c (by omega)) ha2 ha3 (fun c hc => hs.fresh c (by omega)) (by have := hs.ge; omega) hs.since hk
       unfold Oper.wp
       rcases hres with ⟨u, w', p1, rfl, rfl⟩ | ⟨w', p1, p2, _⟩
       ·rw [p1]; exact hn _ _ _ _ _ q1 q2
       ·cases p2
      split at hq
      ·injection hq with hq; injection hq with hq1 hq2; subst hq1; subst hq2
       exact fin _ r1 (h A.isNone hA)
      ·injection hq with hq; injection hq with hq1 hq2; subst hq1; subst hq2
       exact fin _ r2 (h A.isNone hA)
      ·cases hq
     ·cases hq
    ·cases hq
   ·cases hq
  have old : (vRun Pg T ents G o E2 M n fun r M => vPut N o.dst r E2 fun E => K E M (n + 1)) → o.wp Pg a w next Q := by
   intro h
   refine vRun_ok hS h hI ha1 hs.fresh hE2 hs.since fun r δ u w' hk hp => ?_
   obtain ⟨E', h1, h2⟩ := hs.post hI hE2 ha1 ha2 ha3 hp hk
   exact hn _ _ _ _ _ h1 h2
  obtain ⟨dst, op, ty, pos, after, guard⟩ := o
  cases op with
  | call c =>
   obtain ⟨callee, args, ats⟩ := c
   cases callee with
   | builtin b => exact old h
   | invoke r n => exact old h
   | value f =>
    rcases h with h | h
    ·exact old h
    ·unfold vArgs at h
     obtain ⟨pf, h, hpf⟩ := rd_out hE2 h
     obtain ⟨ps, h, hps⟩ := rds_out hE2 h
     cases pf with
     | fn f0 caps =>
      generalize hu : a.eval f = uf at hpf
      cases hpf with
      | val cs hfn =>
       cases hfn with
       | fn parts hpl hpr =>
        have hall := hps.app (RepVs.of_parts hpl hpr)
        have hex : ∀ w1, (execOp a.eval ⟨dst, .call ⟨.value f, args, ats⟩, ty, pos, after, guard⟩).run Pg w1 = (callFunc f0 (args.toList.map a.eval ++ List.zipWith valM caps parts).toArray).run Pg w1 := fun w1 => by
         have hmap : args.map a.eval = (args.toList.map a.eval).toArray := arr_map _ _
         simp [execOp, resolve, hu, valM, MV.isAgg, Deferred.ofValue, invoke, hmap]
        replace h : (match ents.contains f0 with | true => vCallR Pg G SemE M n f0 (ps ++ caps) (fun r M n => vPut N dst r E2 fun E => K E M n) | false => vCallR Pg G SemPE M n f0 (ps ++ caps) (fun r M n => vPut N dst r E2 fun E => K E M n)) := h
        split at h
        ·rename_i hc
         have hrun := (hex w).trans (hS.seat.enters f0 (by simpa using hc) (args.toList.map a.eval ++ List.zipWith valM caps parts).toArray w)
         unfold Oper.wp
         rw [hrun]
         refine (vCallR_ok (C := fun P f a w Q => Calls P f a w Q) (fun h k => h.mono k) hS h hs.since hs.fresh hs.ge hI hE2 ha1 ha2 ha3 hall).mono ?_
         rintro e w' ⟨v, rfl, r, M', n', hk, P', adr', q1, q2, q3, q4, q5, q6, q7, q8, q9⟩
         obtain ⟨E', h1, h2⟩ := vPut_sim hs.defers hs.size q1 q2 q3 q4 q5 q6 q7 q8 q9 hk
         exact hn _ _ _ _ _ h1 h2
        ·obtain ⟨v0, w', hr, v, he, r, M', n', hk, P', adr', q1, q2, q3, q4, q5, q6, q7, q8, q9⟩ := vCallR_ok (C := Prims) (fun h k => h.mono k) hS h hs.since hs.fresh hs.ge hI hE2 ha1 ha2 ha3 hall
         injection he with he
         subst he
         have hrun := (hex w).trans hr
         unfold Oper.wp
         rw [hrun]
         obtain ⟨E', h1, h2⟩ := vPut_sim hs.defers hs.size q1 q2 q3 q4 q5 q6 q7 q8 q9 hk
         exact hn _ _ _ _ _ h1 h2
     | _ => exact h.elim
  | _ => exact old h
 have skip : ∀ {E2 : VE}, EnvR w P adr (VE.get E2) a → (vPut N o.dst .undef E2 fun E => K E M (n + 1)) → next (a.put o.dst undef) w := by
  intro E2 hE2 h
  obtain ⟨E', h1, h2⟩ := hs.post (δ := .none) hI hE2 ha1 ha2 ha3 (Post1.pure hI (ha1 n (Nat.le_refl _)) .undef) h
  exact hn _ _ _ _ _ h1 h2
 unfold vOpN at h
 split at h
 ·rename_i hg
  rw [if_pos (by simp [Region.wanted, hg])]
  exact .inl (run hE h)
 ·rename_i j want hg
  split at h
  ·exact h.elim
  ·rename_i s hj
   split at h
   ·rename_i t ht
    have hv := hs.know ht
    have hy : yielded ops a.tmps j = some t := by simp [yielded, hj, hv]
    by_cases hw : t = want
    ·rw [if_pos (by simp [Region.wanted, hg, hy, hw])]
     exact .inl (run (hE.know (by rw [ht, hw])) (h.1 hw))
    ·have hw' : t = !want := by cases t <;> cases want <;> simp_all
     rw [if_neg (by simp [Region.wanted, hg, hy, hw])]
     exact skip (hE.know (by rw [ht, hw'])) (h.2 hw')
   ·rename_i ht
    obtain ⟨v, hv1, hv2⟩ := hE s _ ht
    have hv : v = undef := hv2.undef_
    subst hv
    have hy : yielded ops a.tmps j = none := by simp [yielded, hj, hv1, undef]
    rw [if_neg (by simp [Region.wanted, hg, hy])]
    exact skip hE h
   ·exact h.elim
theorem vOpsN_ok (hS : SeatM Pg T ents G w0 ex0) (ops : Array Oper) : ∀ (l : List Oper) {K : VK} {E : VE} {M : VM} {n : Nat} {a : Act} {w : World} {Q : Exit → Act → World → Prop},
  vOpsN Pg T N ents G ops l K E M n → Sim N w0 ex0 P0 (VE.get E) (VM.get M) n a w → (∀ E M n a w, K E M n → Sim N w0 ex0 P0 (VE.get E) (VM.get M) n a w → Q .normal a w) → wpList Pg ops Q l a w
 | [], _, E, M, n, a, w, _, h, hs, hQ => hQ E M n a w h hs
 | o :: rest, K, E, M, n, a, w, Q, h, hs, hQ => by
  replace h : Rt n (fun E M => vOpN Pg T N ents G ops o (vOpsN Pg T N ents G ops rest K) E M n) E M := h
  have key : ∀ {E : VE} {M : VM}, Rt n (fun E M => vOpN Pg T N ents G ops o (vOpsN Pg T N ents G ops rest K) E M n) E M → Sim N w0 ex0 P0 (VE.get E) (VM.get M) n a w → ∃ E' M', vOpN Pg T N ents G ops o (vOpsN Pg T N ents G ops rest K) E' M' n ∧ Sim N w0 ex0 P0 (VE.get E') (VM.get M') n a w := by
   intro E M h
   induction h with
   | go h => intro hs; exact ⟨_, _, h, hs⟩
   | re E' M' h1 _ ih => intro hs; exact ih (hs.frz h1)
  obtain ⟨E', M', h', hs'⟩ := key h hs
  exact vOpN_out hS (next := wpList Pg ops Q rest) (Q := Q) h' hs' fun _ _ _ _ _ h hs => vOpsN_ok hS ops rest h hs hQ
theorem draw_ok (hS : SeatM Pg T ents G w0 ex0) {id : Nat} {L : List (Nat × Bool)} {Q : Exit → VK} (h : vOpsD Pg T N ents G ops L [] (Q .normal) E M n) (hs : Sim N w0 ex0 P0 (VE.get E) (VM.get M) n a w) : (Code.region id ops true).wp Pg (PostM N w0 ex0 P0 Q) a w := by
 obtain ⟨D, E1, M1, hok, hlen0, ⟨hnd, hnb⟩, hq, hr⟩ := vOpsD_toF h
 rw [List.reverse_nil, List.nil_append] at hok
 simp only [okDraw, Bool.and_eq_true, List.all_eq_true] at hok
 obtain ⟨⟨hls, hall⟩, hlen⟩ := hok
 obtain ⟨hP, hA⟩ := okLs_spec hls
 refine wp_region_any hS.seat.mixed ?_
 refine any_ok (Z := fun c => n + L.length ≤ c) hS (fun a w hs' => ⟨E1, M1, _, hq, hs'.toSim fun c hc => hc⟩) ops.size D ⟨M, rfl⟩ hr hP hA hnd (fun x hx hz => ?_) ?_ (fun k hk => ?_) (by simp) (fun k o ho hl => ?_) ?_
 ·have := (hnb x hx).2
  omega
 ·refine (hs.toS.drew).mono fun c hc => ?_
  rcases hc with hc | hc
  ·obtain ⟨x, hx, rfl⟩ := List.mem_map.1 hc
   exact (hnb x hx).1
  ·show n ≤ c
   replace hc : n + L.length ≤ c := hc
   omega
 ·have h1 : (Array.replicate ops.size false).getD k true = false := by simp [Array.getD, hk]
  have h2 : k ∈ D.map (·.k) := by simpa using hall k (by simpa using hk)
  exact ⟨fun _ => h2, fun _ => h1⟩
 ·exfalso
  by_cases hk : k < ops.size
  ·simp [Array.getD, hk] at hl
  ·simp [Array.getD, hk] at hl
 ·simpa using hlen
theorem vC_ok (hS : SeatM Pg T ents G w0 ex0) : ∀ (c : Code) {Q : Exit → VK} {E : VE} {M : VM} {n : Nat} {a : Act} {w : World},
  vC Pg T N ents G ex0.n0 c Q E M n → Sim N w0 ex0 P0 (VE.get E) (VM.get M) n a w → c.wp Pg (PostM N w0 ex0 P0 Q) a w := by
 intro c
 induction c with
 | skip => intro Q E M n a w h hs; exact wp_skip ⟨E, M, n, h, hs⟩
 | region id ops draw =>
  intro Q E M n a w h hs
  cases draw with
  | false => exact wp_region_list (vOpsN_ok hS ops _ h hs fun E M n a w hk hs => ⟨E, M, n, hk, hs⟩)
  | true =>
   obtain ⟨L, h⟩ := h
   exact draw_ok hS h hs
 | seq x y ihx ihy =>
  intro Q E M n a w h hs
  refine wp_seq (Code.wp_mono (fun e a w hq => ?_) (ihx h hs))
  obtain ⟨E', M', n', hq, hs'⟩ := hq
  cases e with
  | normal =>
   cases hq with
   | go h => exact ihy h hs'
   | re E2 M2 n2 h k => exact ihy k (hs'.matched h)
  | _ => exact ⟨E', M', n', hq, hs'⟩
 | cond c x y ihx ihy =>
  intro Q E M n a w h hs
  simp only [vC] at h
  split at h
  ·rename_i t ht
   obtain ⟨P, adr, hI, hE, _⟩ := hs.ex
   have hv := (evM_rep hE ht).bool_
   exact wp_cond_split hv (fun ht => ihx (h.1 ht) hs) (fun ht => ihy (h.2 ht) hs)
  ·exact h.elim
 | block id c ih =>
  intro Q E M n a w h hs
  refine wp_block (Code.wp_mono (fun e a w hq => ?_) (ih h hs))
  obtain ⟨E', M', n', hq, hs'⟩ := hq
  cases e with
  | exit i =>
   by_cases hi : i = id
   ·subst hi
    simp at hq
    simp only [Exit.inBlock, if_true]
    exact ⟨E', M', n', hq, hs'⟩
   ·simp only [beq_ne hi, cond_false] at hq
    simp only [Exit.inBlock, hi, if_false]
    exact ⟨E', M', n', hq, hs'⟩
  | _ => exact ⟨E', M', n', hq, hs'⟩
 | loop c ih =>
  intro Q E M n a w h hs
  obtain ⟨X, E', M', n', I, μ, ⟨x0, hI0, hm0⟩, h1⟩ := h
  have hs0 := hs.matched hm0
  intro b k cs
  have key : ∀ j x a w, μ x = j → I x → Sim N w0 ex0 P0 (VE.get (E' x)) (VM.get (M' x)) n' a w →
    ∃ e a' w', PostM N w0 ex0 P0 Q e a' w' ∧ Arrives Pg (lone (b.at a (.code c :: .inLoop c :: k)) cs w) b k cs e a' w' := by
   intro j
   induction j using Nat.strongRecOn with
   | _ j ihn =>
    intro x a w hn hI hs
    obtain ⟨e, a₁, w₁, hq, harr⟩ := ih (h1 x hI) hs b (.inLoop c :: k) cs
    obtain ⟨E1, M1, n1, hq, hs1⟩ := hq
    cases e with
    | normal =>
     obtain ⟨x', hI', hlt, hm⟩ := hq
     obtain ⟨e₂, a₂, w₂, hq₂, harr₂⟩ := ihn (μ x') (hn ▸ hlt) x' a₁ w₁ rfl hI' (hs1.matched hm)
     exact ⟨e₂, a₂, w₂, hq₂, .of_steps (Steps.trans harr (.one step_inLoop)) harr₂⟩
    | exit id => exact ⟨_, a₁, w₁, ⟨E1, M1, n1, hq, hs1⟩, .pass (x := .inLoop c) rfl (fun _ _ => .inl (by simp)) harr⟩
    | goto l => exact ⟨_, a₁, w₁, ⟨E1, M1, n1, hq, hs1⟩, .pass (x := .inLoop c) rfl (fun _ _ => .inl (by simp)) harr⟩
    | ret => exact ⟨_, a₁, w₁, ⟨E1, M1, n1, hq, hs1⟩, .pass (x := .inLoop c) rfl (fun _ _ => .inl (by simp)) harr⟩
    | panic ch => exact ⟨_, a₁, w₁, ⟨E1, M1, n1, hq, hs1⟩, .pass (x := .inLoop c) rfl (fun _ _ => .inl (by simp)) harr⟩
    | outgrown => exact ⟨_, a₁, w₁, ⟨E1, M1, n1, hq, hs1⟩, .pass (x := .inLoop c) rfl (fun _ _ => .inl (by simp)) harr⟩
  obtain ⟨e, a', w', hq, harr⟩ := key _ x0 a w rfl hI0 hs0
  exact ⟨e, a', w', hq, .of_steps (.one step_loop) harr⟩
 | exit id => intro Q E M n a w h hs; exact wp_exit ⟨E, M, n, h, hs⟩
 | ret => intro Q E M n a w h hs; exact wp_ret ⟨E, M, n, h, hs⟩
 | label l => intro Q E M n a w h hs; exact wp_label ⟨E, M, n, h, hs⟩
 | rangeFunc => intro Q E M n a w h; exact h.elim
 | scope => intro Q E M n a w h; exact h.elim
 | goto => intro Q E M n a w h; exact h.elim
 | refuse => intro Q E M n a w h; exact h.elim
theorem vRets_out (hT : TabOK Pg T) (hI : InvM w P adr (VM.get M)) (hE : EnvR w P adr (VE.get E) a) : ∀ {rs : List ResultVar} {K : List MV → Prop}, vRets T M E rs K →
  ∃ (ps : List MV) (vs : List Value), vs.length = rs.length ∧ (∀ (i : Nat) (r : ResultVar), rs[i]? = some r → ∃ v, vs[i]? = some v ∧ (resOne a.tmps r).run Pg w = .ok v w) ∧ RepVs w P adr ps vs ∧ K ps
 | [], K, h => ⟨[], [], rfl, fun i r hi => by simp at hi, .nil, h⟩
 | .tmp t :: l, K, h => by
  unfold vRets at h
  split at h
  ·rename_i p hp
   obtain ⟨v, h1, h2⟩ := hE t p hp
   obtain ⟨ps, vs, hl, hi, hr, hK⟩ := vRets_out hT hI hE h
   refine ⟨p :: ps, v :: vs, by simp [hl], fun i r hr => ?_, .cons h2 hr, hK⟩
   cases i with
   | zero => simp at hr; subst hr; exact ⟨v, rfl, by simp [resOne, h1]⟩
   | succ i => exact hi i r (by simpa using hr)
  ·exact h.elim
 | .cell p ty :: l, K, h => by
  unfold vRets at h
  split at h
  ·rename_i q hq
   obtain ⟨uv, h1, h2⟩ := hE p q hq
   obtain ⟨r0, v, h3, h4, h5⟩ := oLoad_ok hT h h2 hI
   obtain ⟨ps, vs, hl, hi, hr, hK⟩ := vRets_out hT hI hE h3
   refine ⟨r0 :: ps, v :: vs, by simp [hl], fun i r hr => ?_, .cons h5 hr, hK⟩
   cases i with
   | zero =>
    simp at hr
    subst hr
    refine ⟨v, rfl, ?_⟩
    have hg' : a.tmps.getD p undef = uv := by simp [h1]
    simp only [resOne, hg']
    exact loadAt_asAddr h4
   | succ i => exact hi i r (by simpa using hr)
  ·exact h.elim
theorem tup_rep {ps : List MV} {vs : List Value} (h : RepVs w P adr ps vs) (hv : ∀ p ∈ ps, p.isVal = true) : RepV w P adr (tupM ps) (tup vs) := by
 obtain ⟨parts, h1, h2, rfl⟩ := h.caps hv
 match ps, parts, h1, h2 with
 | [], [], _, _ => exact .tup [] rfl (fun j m u h => by simp at h)
 | [p], [q], _, h2 => exact .val q (h2 0 p q rfl rfl)
 | p :: p' :: ps, q :: q' :: parts, h1, h2 =>
  refine .tup (List.zipWith valM (p :: p' :: ps) (q :: q' :: parts)) (by rw [List.length_zipWith]; simp at h1 ⊢; omega) fun j m u hj hu => ?_
  rw [List.getElem?_zipWith] at hu
  rw [hj] at hu
  cases hq : (q :: q' :: parts)[j]? with
  | none => rw [hq] at hu; cases hu
  | some c =>
   rw [hq] at hu
   injection hu with hu
   exact ⟨c, h2 j m c hj hq, hu.symm⟩
theorem envM_get : ∀ {l : List MV} {i t : Nat} {v : MV}, VE.get (envM i l) t = some v → i ≤ t ∧ l[t - i]? = some v
 | [], i, t, v, h => by simp [envM, VE.get] at h
 | x :: l, i, t, v, h => by
  rw [envM, VE.get_cons] at h
  split at h
  ·rename_i e; subst e; injection h with h; subst h; simp
  ·rename_i e
   obtain ⟨h1, h2⟩ := envM_get h
   refine ⟨by omega, ?_⟩
   rw [show t - i = (t - (i + 1)) + 1 by omega]
   simpa using h2
theorem RepVs.get : ∀ {ps : List MV} {vs : List Value}, RepVs w P adr ps vs → ∀ {i : Nat} {p : MV}, ps[i]? = some p → ∃ v, vs[i]? = some v ∧ RepV w P adr p v
 | _, _, .nil, i, p, h => by simp at h
 | _, _, .cons (p := q) (v := v) h t, i, p, hi => by
  cases i with
  | zero => simp at hi; subst hi; exact ⟨v, rfl, h⟩
  | succ i => simpa using t.get (i := i) (by simpa using hi)
theorem RepVs.length : ∀ {ps : List MV} {vs : List Value}, RepVs w P adr ps vs → ps.length = vs.length
 | _, _, .nil => rfl
 | _, _, .cons _ t => by simp [t.length]
theorem frzs_conj {K : List MV × List (Nat × Nat) → Prop} {m : FM} : ∀ {l : List MV}, (frzs m l).runP K → (frzs m l).runP fun x => K x ∧ ∀ p ∈ x.1, p.isVal = true := by
 have one : ∀ {p : MV} {K : MV × List (Nat × Nat) → Prop}, (frz m p).runP K → (frz m p).runP fun x => K x ∧ x.1.isVal = true := by
  intro p K h
  cases p <;> simp only [frz] at h ⊢
  case ms c es off n =>
   split at h
   ·split at h
    ·obtain ⟨a1, l, a2, h⟩ := h; exact ⟨a1, l, a2, h, rfl⟩
    ·exact h.elim
   ·exact h.elim
  case ptr c es k fo path =>
   split at h
   ·rename_i b hb
    cases he : Nat.beq b.es es with
    | false => rw [he] at h; exact h.elim
    | true =>
     rw [he] at h
     obtain ⟨v, q1, h⟩ := h
     cases hf : v.idFree with
     | false => rw [hf] at h; exact h.elim
     | true => rw [hf] at h; exact ⟨v, q1, by simp only [hf]; exact ⟨h, rfl⟩⟩
   ·exact h.elim
  case st l => exact frzs_weak (Ask.bind_runP.1 h) fun _ h => ⟨h, rfl⟩
  case fn f l => exact frzs_weak (Ask.bind_runP.1 h) fun _ h => ⟨h, rfl⟩
  case ifc t v => exact frz_weak (Ask.bind_runP.1 h) fun _ h => ⟨h, rfl⟩
  all_goals first | exact h.elim | exact ⟨h, rfl⟩
 intro l
 induction l generalizing K with
 | nil => intro h; exact ⟨h, fun p hp => nomatch hp⟩
 | cons q l ih =>
  intro h
  simp only [frzs] at h ⊢
  refine frz_weak (one (Ask.bind_runP.1 h)) fun x hx => ?_
  refine frzs_weak (ih (Ask.bind_runP.1 hx.1)) fun y hy => ⟨hy.1, fun p hp => ?_⟩
  rcases List.mem_cons.1 hp with rfl | hp
  ·exact hx.2
  ·exact hy.2 p hp
theorem semC_of_vc (hS : Seat Pg T ents) {f : FuncId} {fn : Func} {c : Code} {rs : List ResultVar} (hf : Pg.funcs[f]? = some fn) (hb : fn.body = some c) (hrs : fn.results = rs.toArray) (h5 : rs.length ≤ 6) {args : List MV} (hn : args.length ≤ fn.ntmps) (hN : fn.ntmps = N) {res : MV}
  (h : vC Pg T N ents G 0 c (vRetQ T rs fun r => r = res) (envM 0 args) [] 0) : SemC Pg G f args res := by
 intro w P vals hg hP hargs
 have hSM : SeatM Pg T ents G w noAnc := ⟨hS, fun w' h => G.stab w w' _ hg (fun _ h => h.elim) h, fun _ h => h.elim, fun g h => G.lt w g hg h⟩
 have hlen := hargs.length
 have h0 : Sim N w noAnc P (VE.get (envM 0 args)) (VM.get []) 0 { tmps := vals.toArray ++ Array.replicate (fn.ntmps - vals.toArray.size) undef, defers := [] } w := by
  refine ⟨⟨P, noAdr, ⟨fun c b hc => by simp [VM.get] at hc, fun c d b b' g hc => by simp [VM.get] at hc, hP⟩, fun t v ht => ?_, fun _ _ => rfl, ⟨fun c g hc => (nomatch hc), fun c hc => absurd hc (Nat.not_lt_zero c), Keep.refl _ _ _⟩, fun b o h => .inl h⟩, fun c _ => rfl, Nat.zero_le _, Since.refl _ _, rfl, by simp; omega⟩
  obtain ⟨_, h2⟩ := envM_get ht
  rw [Nat.sub_zero] at h2
  obtain ⟨u, h3, h4⟩ := hargs.get h2
  have hlt := (List.getElem?_eq_some_iff.1 h3).1
  refine ⟨u, ?_, h4⟩
  show (vals.toArray ++ Array.replicate (fn.ntmps - vals.toArray.size) undef)[t]? = some u
  rw [Array.getElem?_append_left (by simpa using hlt)]
  simpa using h3
 refine calls_of_wp hf hb (Code.wp_mono (fun e a w' hq => ?_) (vC_ok (ex0 := noAnc) hSM c h h0))
 obtain ⟨E', M', n', hq, hs⟩ := hq
 have fin : vRets T M' E' rs (fun vs => (frzs (VM.get M') vs).runP fun x => tupM x.1 = res) →
   a.defers = [] ∧ ∃ v, (results fn a.tmps).run Pg w' = .ok v w' ∧ ∃ v', Ending.returned v = .returned v' ∧ RepV w' (protNew w w' P) noAdr res v' ∧ Below w.heap.size w w' := by
  intro hq
  obtain ⟨P', adr', hI, hE, ha1, ha2, ha3⟩ := hs.ex
  obtain ⟨ps, vs, hl, hi, hr, hK⟩ := vRets_out hS.tab hI hE hq
  obtain ⟨l', bs, ⟨hxr, hfree⟩, P2, h1, h2, h3, h4⟩ := frzs_vals (frzs_conj hK) hr hI
  refine ⟨hs.defers, tup vs, results_out hrs h5 hl hi, tup vs, rfl, ?_, hs.since.below⟩
  rw [← hxr]
  refine (tup_rep h4 hfree).keep ⟨fun b o hp => ?_, fun _ _ _ => rfl, fun _ _ h => (nomatch h), fun _ _ _ _ h => nomatch h⟩
  rcases h3 b o hp with hp' | ⟨c', hc'⟩
  ·rcases ha3 b o hp' with h | h | h
   ·exact .inl h
   ·exact .inr ⟨h, hI.prot b o hp'⟩
   ·exact h.elim
  ·rcases ha2.in_ c' b hc' with h | h
   ·exact .inr ⟨h, h1.prot b o hp⟩
   ·exact h.elim
 cases e with
 | normal => exact fin hq
 | ret => exact fin hq
 | _ => exact hq.elim
theorem scq (hS : Seat Pg T ents) {f : FuncId} {fn : Func} (hf : Pg.funcs[f]? = some fn) (N : Nat) {c : Code} {rs : List ResultVar} {args : List MV} {res : MV} (h : vC Pg T N ents G 0 c (vRetQ T rs fun r => r = res) (envM 0 args) [] 0) (hb : fn.body = some c := by rfl) (hrs : fn.results = rs.toArray := by rfl) (h5 : rs.length ≤ 6 := by exact Nat.le_of_ble_eq_true rfl) (hn : args.length ≤ fn.ntmps := by exact Nat.le_of_ble_eq_true rfl) (hN : fn.ntmps = N := by rfl) : SemC Pg G f args res := semC_of_vc hS hf hb hrs h5 hn hN h
theorem semR_of_vc (hS : Seat Pg T ents) {f : FuncId} {fn : Func} {c : Code} {rs : List ResultVar} (hf : Pg.funcs[f]? = some fn) (hb : fn.body = some c) (hrs : fn.results = rs.toArray) (h5 : rs.length ≤ 6) {args : List MV} (hn : args.length ≤ fn.ntmps) (hN : fn.ntmps = N) {M0 : VM} {n0 : Nat} (hM0 : M0.all (fun x => Nat.blt x.1 n0) = true) {res : MV} {M1 : VM} {n1 : Nat}
  (h : vC Pg T N ents G n0 c (vRetR T n0 rs res M1 n1) (envM 0 args) M0 n0) : SemR Pg G f args M0 n0 res M1 n1 := by
 intro w P adr vals hg hI0 hn0 hL hargs
 have hSM : SeatM Pg T ents G w ⟨fun g => ∃ c, adr c = some g, adr, n0, fun c g hc => by
   rcases Nat.lt_or_ge c n0 with h | h
   ·exact h
   ·rw [hn0 c h] at hc; cases hc⟩ := ⟨hS, fun w' h => G.stab w w' _ hg (fun g ⟨c, hc⟩ => hL c g hc) h, fun g ⟨c, hc⟩ => hL c g hc, fun g h => G.lt w g hg h⟩
 have hlen := hargs.length
 have h0 : Sim N w ⟨fun g => ∃ c, adr c = some g, adr, n0, fun c g hc => by
   rcases Nat.lt_or_ge c n0 with h | h
   ·exact h
   ·rw [hn0 c h] at hc; cases hc⟩ P (VE.get (envM 0 args)) (VM.get M0) n0 { tmps := vals.toArray ++ Array.replicate (fn.ntmps - vals.toArray.size) undef, defers := [] } w := by
  refine ⟨⟨P, adr, hI0, fun t v ht => ?_, hn0, ⟨fun c g hc => .inr ⟨c, hc⟩, fun c _ => rfl, Keep.refl _ _ _⟩, fun b o h => .inl h⟩, fun c hc => all_lt hM0 hc, Nat.le_refl _, Since.refl _ _, rfl, by simp; omega⟩
  obtain ⟨_, h2⟩ := envM_get ht
  rw [Nat.sub_zero] at h2
  obtain ⟨u, h3, h4⟩ := hargs.get h2
  have hlt := (List.getElem?_eq_some_iff.1 h3).1
  refine ⟨u, ?_, h4⟩
  show (vals.toArray ++ Array.replicate (fn.ntmps - vals.toArray.size) undef)[t]? = some u
  rw [Array.getElem?_append_left (by simpa using hlt)]
  simpa using h3
 refine calls_of_wp hf hb (Code.wp_mono (fun e a w' hq => ?_) (vC_ok hSM c h h0))
 obtain ⟨E', M', n', hq, hs⟩ := hq
 have fin : vRets T M' E' rs (fun vs => ∃ (rv : List MV) (σ bs : List (Nat × Nat)), tupM rv = res ∧ LMatch n0 rv M1 n1 vs M' σ bs) →
   a.defers = [] ∧ ∃ v, (results fn a.tmps).run Pg w' = .ok v w' ∧ ∃ v', Ending.returned v = .returned v' ∧ ∃ P' adr', InvM w' P' adr' (VM.get M1) ∧ RepV w' P' adr' res v' ∧ Keep w w' P P' adr adr' ∧ (∀ c, c < n0 → adr' c = adr c) ∧ (∀ c, n1 ≤ c → adr' c = none) ∧
   (∀ c g, adr' c = some g → w.heap.size ≤ g ∨ ∃ c0, adr c0 = some g) ∧ (∀ b o, P' b o → P b o ∨ w.heap.size ≤ b ∨ ∃ c0, adr c0 = some b) ∧ Since (fun g => ∃ c0, adr c0 = some g) w w' := by
  intro hq
  obtain ⟨P1, adr1, hI, hE, ha1, ha2, ha3⟩ := hs.ex
  obtain ⟨ps, vs, hl, hi, hr, rv, σ, bs, hres, hok, hokb, hall, hrel, hmm⟩ := vRets_out hS.tab hI hE hq
  have hσ := okSg_out hok
  obtain ⟨P2, i1, i2, i3, i4⟩ := hI.frozen hokb
  obtain ⟨r1, r2⟩ := relVs_repVs i4 hrel (hr.kp i2)
  have hA := (ha2.frozen i2).matched hσ
  refine ⟨hs.defers, tup vs, results_out hrs h5 hl hi, tup vs, rfl, P2, adrS (sigA n0 σ) adr1, i1.matched hσ i4 hmm, ?_, hA.keep, fun c hc => hA.old c hc, fun c hc => adrS_none hσ hc, fun c g hc => hA.in_ c g hc, fun b o ho => ?_, hs.since⟩
  ·rw [← hres]; exact tup_rep r1 r2
  ·rcases i3 b o ho with h | ⟨c, h⟩
   ·exact ha3 b o h
   ·rcases ha2.in_ c b h with h | h
    ·exact .inr (.inl h)
    ·exact .inr (.inr h)
 cases e with
 | normal => exact fin hq
 | ret => exact fin hq
 | _ => exact hq.elim
theorem srq (hS : Seat Pg T ents) {f : FuncId} {fn : Func} (hf : Pg.funcs[f]? = some fn) (N : Nat) {c : Code} {rs : List ResultVar} {args : List MV} {M0 : VM} {n0 : Nat} {res : MV} {M1 : VM} {n1 : Nat} (h : vC Pg T N ents G n0 c (vRetR T n0 rs res M1 n1) (envM 0 args) M0 n0) (hb : fn.body = some c := by rfl) (hrs : fn.results = rs.toArray := by rfl) (h5 : rs.length ≤ 6 := by exact Nat.le_of_ble_eq_true rfl) (hn : args.length ≤ fn.ntmps := by exact Nat.le_of_ble_eq_true rfl) (hN : fn.ntmps = N := by rfl) (hM0 : M0.all (fun x => Nat.blt x.1 n0) = true := by rfl) : SemR Pg G f args M0 n0 res M1 n1 := semR_of_vc hS hf hb hrs h5 hn hN hM0 h
theorem semE_of_vc (hS : Seat Pg T ents) {f : FuncId} {fn : Func} {c : Code} {rs : List ResultVar} (hf : Pg.funcs[f]? = some fn) (hb : fn.body = some c) (hrs : fn.results = rs.toArray) (h5 : rs.length ≤ 6) {args : List MV} (hn : args.length ≤ fn.ntmps) (hN : fn.ntmps = N) {M0 : VM} {n0 : Nat} (hM0 : M0.all (fun x => Nat.blt x.1 n0) = true) {Φ : MV → VM → Nat → Prop}
  (h : vC Pg T N ents G n0 c (vRetE T n0 rs Φ) (envM 0 args) M0 n0) : SemE Pg G f args M0 n0 Φ := by
 intro w P adr vals hg hI0 hn0 hL hargs
 have hSM : SeatM Pg T ents G w ⟨fun g => ∃ c, adr c = some g, adr, n0, fun c g hc => by
   rcases Nat.lt_or_ge c n0 with h | h
   ·exact h
   ·rw [hn0 c h] at hc; cases hc⟩ := ⟨hS, fun w' h => G.stab w w' _ hg (fun g ⟨c, hc⟩ => hL c g hc) h, fun g ⟨c, hc⟩ => hL c g hc, fun g h => G.lt w g hg h⟩
 have hlen := hargs.length
 have h0 : Sim N w ⟨fun g => ∃ c, adr c = some g, adr, n0, fun c g hc => by
   rcases Nat.lt_or_ge c n0 with h | h
   ·exact h
   ·rw [hn0 c h] at hc; cases hc⟩ P (VE.get (envM 0 args)) (VM.get M0) n0 { tmps := vals.toArray ++ Array.replicate (fn.ntmps - vals.toArray.size) undef, defers := [] } w := by
  refine ⟨⟨P, adr, hI0, fun t v ht => ?_, hn0, ⟨fun c g hc => .inr ⟨c, hc⟩, fun c _ => rfl, Keep.refl _ _ _⟩, fun b o h => .inl h⟩, fun c hc => all_lt hM0 hc, Nat.le_refl _, Since.refl _ _, rfl, by simp; omega⟩
  obtain ⟨_, h2⟩ := envM_get ht
  rw [Nat.sub_zero] at h2
  obtain ⟨u, h3, h4⟩ := hargs.get h2
  have hlt := (List.getElem?_eq_some_iff.1 h3).1
  refine ⟨u, ?_, h4⟩
  show (vals.toArray ++ Array.replicate (fn.ntmps - vals.toArray.size) undef)[t]? = some u
  rw [Array.getElem?_append_left (by simpa using hlt)]
  simpa using h3
 refine calls_of_wp hf hb (Code.wp_mono (fun e a w' hq => ?_) (vC_ok hSM c h h0))
 obtain ⟨E', M', n', hq, hs⟩ := hq
 have fin : vRets T M' E' rs (fun vs => ∃ (res : MV) (M1 : VM) (n1 : Nat), Φ res M1 n1 ∧ ∃ (rv : List MV) (σ bs : List (Nat × Nat)), tupM rv = res ∧ LMatch n0 rv M1 n1 vs M' σ bs) →
   a.defers = [] ∧ ∃ v, (results fn a.tmps).run Pg w' = .ok v w' ∧ ∃ v', Ending.returned v = .returned v' ∧ ∃ (res : MV) (M1 : VM) (n1 : Nat), Φ res M1 n1 ∧ ∃ P' adr', InvM w' P' adr' (VM.get M1) ∧ RepV w' P' adr' res v' ∧ Keep w w' P P' adr adr' ∧ (∀ c, c < n0 → adr' c = adr c) ∧ (∀ c, n1 ≤ c → adr' c = none) ∧
   (∀ c g, adr' c = some g → w.heap.size ≤ g ∨ ∃ c0, adr c0 = some g) ∧ (∀ b o, P' b o → P b o ∨ w.heap.size ≤ b ∨ ∃ c0, adr c0 = some b) ∧ Since (fun g => ∃ c0, adr c0 = some g) w w' := by
  intro hq
  obtain ⟨P1, adr1, hI, hE, ha1, ha2, ha3⟩ := hs.ex
  obtain ⟨ps, vs, hl, hi, hr, res, M1, n1, hΦ, rv, σ, bs, hres, hok, hokb, hall, hrel, hmm⟩ := vRets_out hS.tab hI hE hq
  have hσ := okSg_out hok
  obtain ⟨P2, i1, i2, i3, i4⟩ := hI.frozen hokb
  obtain ⟨r1, r2⟩ := relVs_repVs i4 hrel (hr.kp i2)
  have hA := (ha2.frozen i2).matched hσ
  refine ⟨hs.defers, tup vs, results_out hrs h5 hl hi, tup vs, rfl, res, M1, n1, hΦ, P2, adrS (sigA n0 σ) adr1, i1.matched hσ i4 hmm, ?_, hA.keep, fun c hc => hA.old c hc, fun c hc => adrS_none hσ hc, fun c g hc => hA.in_ c g hc, fun b o ho => ?_, hs.since⟩
  ·rw [← hres]; exact tup_rep r1 r2
  ·rcases i3 b o ho with h | ⟨c, h⟩
   ·exact ha3 b o h
   ·rcases ha2.in_ c b h with h | h
    ·exact .inr (.inl h)
    ·exact .inr (.inr h)
 cases e with
 | normal => exact fin hq
 | ret => exact fin hq
 | _ => exact hq.elim
theorem semR_of_semC {f : FuncId} {args : List MV} {res : MV} (h : SemC Pg G f args res) : SemR Pg G f args [] 0 res [] 0 := by
 intro w P adr vals hg hI hn hL hargs
 have e : adr = noAdr := by funext c; exact hn c (Nat.zero_le _)
 subst e
 refine (h w P vals hg hI.prot hargs).mono ?_
 rintro e w' ⟨v, rfl, h1, h2⟩
 have hb := Keep.below (adr := noAdr) hI.prot h2
 refine ⟨v, rfl, protNew w w' P, noAdr, hI.below h2, h1, hb, fun _ _ => rfl, fun _ _ => rfl, fun c g hc => (nomatch hc), fun b o ho => ?_, (Since.of_below h2).weak fun _ e => e.elim⟩
 rcases ho with h | h
 ·exact .inl h
 ·exact .inr (.inl h.1)
theorem semC_of_semR {f : FuncId} {args : List MV} {res : MV} (h : SemR Pg G f args [] 0 res [] 0) : SemC Pg G f args res := by
 intro w P vals hg hP hargs
 refine (h w P noAdr vals hg ⟨fun c b hc => by simp [VM.get] at hc, fun c d b b' g hc => by simp [VM.get] at hc, hP⟩ (fun _ _ => rfl) (fun c g hc => nomatch hc) hargs).mono ?_
 rintro e w' ⟨v, rfl, P', adr', h1, h2, h3, h4, h5, h6, h7, h8⟩
 have e : adr' = noAdr := by funext c; exact h5 c (Nat.zero_le _)
 subst e
 refine ⟨v, rfl, h2.keep ⟨fun b o hp => ?_, fun _ _ _ => rfl, fun _ _ h => (nomatch h), fun _ _ _ _ h => nomatch h⟩, Since.below (h8.weak fun _ ⟨c, hc⟩ => nomatch hc)⟩
 rcases h7 b o hp with h | h | ⟨c, h⟩
 ·exact .inl h
 ·exact .inr ⟨h, h1.prot b o hp⟩
 ·cases h
end
end
section
open Go.RowKit Go.ChangeShapes Go.Deep
def allP (W : World) : Prot := fun b _ => b < W.heap.size
mutual
def MV.bulk : MV → Nat
 | .str s => s.length + 1
 | .sl _ l => MV.bulks l + 1
 | .st l => MV.bulks l + 1
 | _ => 1
def MV.bulks : List MV → Nat
 | [] => 0
 | m :: l => MV.bulk m + MV.bulks l
end
theorem bulk_one {H : Type} (d : DataW H) : 1 ≤ Rows.uptoBulk d := by
 cases d with
 | lit l => cases l <;> simp [Rows.uptoBulk]
 | nil => simp [Rows.uptoBulk]
 | ptr d => simp [Rows.uptoBulk]
 | slice elems spare => simp [Rows.uptoBulk]
 | agg parts => simp [Rows.uptoBulk]
 | iface t d => simp [Rows.uptoBulk]
 | map entries => simp [Rows.uptoBulk]
 | held h => simp [Rows.uptoBulk]
theorem bulks_map {H : Type} (f : Nat → MV) (D : Nat → DataW H) : ∀ (l : List Nat), (∀ i ∈ l, (f i).bulk ≤ Rows.uptoBulk (D i)) → MV.bulks (l.map f) ≤ Rows.uptoBulkAll (l.map D)
 | [], _ => Nat.le_refl _
 | i :: l, h => by
  have h1 := h i (by simp)
  have h2 := bulks_map f D l fun j hj => h j (by simp [hj])
  simp only [List.map_cons, MV.bulks, Rows.uptoBulkAll]
  omega
theorem bulks_len : ∀ (l : List MV), l.length ≤ MV.bulks l
 | [] => Nat.le_refl _
 | x :: l => by
  have := bulks_len l
  have h1 : 1 ≤ MV.bulk x := by cases x <;> simp [MV.bulk]
  simp only [List.length_cons, MV.bulks]; omega
def Opn (P : Program) (t : TypeId) (n : Nat) (Q : MV → Prop) : Prop :=
 P.cellsOf t = n ∧ ∀ {H : Type} (enc : TypeId × Value → H) (W : World) (spare : Nat → Bool) (held : Bool) (fuel : Nat) (cs : List Value) (d : DataW H) (p : List MemPlace),
  DataW.trod enc P W 0 spare held fuel t cs = some (d, p) → (d.weights P t).all (· ≤ reachBytes) = true → cs.length = n ∧ ∃ m, Q m ∧ Rep W (allP W) noAdr m cs ∧ m.bulk ≤ Rows.uptoBulk d
section
variable {P : Program} {t e : TypeId}
theorem Opn.int {k : IntKind} (hu : P.underlying t = some (.int k)) (hc : P.cellsOf t = 1) : Opn P t 1 fun m => ∃ n, m = .int k n ∧ (Lit.int k n).wf = true :=
 ⟨hc, fun enc W spare held fuel cs d p h _ => by
  obtain ⟨n, rfl, _, hw⟩ := DataW.trod_int hu h
  exact ⟨rfl, _, ⟨n, rfl, hw⟩, .int, bulk_one d⟩⟩
theorem Opn.arr {k : IntKind} {n : Nat} (hu : P.underlying t = some (.array n e)) (he : P.underlying e = some (.int k)) (hc : P.cellsOf t = n) (hce : P.cellsOf e = 1) :
  Opn P t n fun m => ∃ l : List Int, m = .arr n 1 (l.map (.int k)) ∧ l.length = n ∧ ∀ y ∈ l, (Lit.int k y).wf = true := by
 have ho := Opens.arr hu he hc hce
 refine ⟨hc, fun enc W spare held fuel cs d p h hw => ?_⟩
 obtain ⟨x, rfl, hl, hwf⟩ := ho.2 enc W spare held fuel cs d p h hw
 refine ⟨by simpa using hl, _, ⟨x, rfl, hl, hwf⟩, ?_, bulk_one d⟩
 have e0 : x.map (Value.int k) = (x.map fun y => [Value.int k y]).flatten := by
  clear hl hwf h
  induction x with
  | nil => rfl
  | cons a x ih => rw [List.map_cons, List.map_cons, List.flatten_cons, ← ih]; rfl
 rw [e0]
 refine .arr _ (by simpa using hl) (by simpa using hl) (fun p hp => by obtain ⟨y, _, rfl⟩ := List.mem_map.1 hp; rfl) fun j m p hm hp => ?_
 rw [List.getElem?_map] at hm hp
 cases hj : x[j]? with
 | none => rw [hj] at hm; cases hm
 | some y => rw [hj] at hm hp; injection hm with hm; injection hp with hp; subst hm; subst hp; exact .int
theorem Opn.slice {n : Nat} {Q : MV → Prop} (hu : P.underlying t = some (.slice e)) (hc : P.cellsOf t = 1) (hb : 0 < P.bytesOf e) (hpos : 0 < n) (hr : Opn P e n Q) : Opn P t 1 fun m => ∃ l, m = .sl l.length l ∧ (∀ x ∈ l, Q x) ∧ l.length ≤ 140737488355328 := by
 refine ⟨hc, fun {H} enc W spare held fuel cs d p h hw => ?_⟩
 rcases open_slice hu h with ⟨rfl, _⟩ | ⟨a, len, cap, m, nn, D, Pl, rfl, _, hle, _, hm, hx, hi⟩
 ·exact ⟨rfl, _, ⟨[], rfl, by simp, by simp⟩, .sl none 0 0 [] rfl rfl (fun p hp => nomatch hp) (fun _ => ⟨rfl, rfl⟩) (Nat.le_refl _) (fun h => absurd rfl h) (fun j m p h => by simp at h), bulk_one _⟩
 ·simp only [Prod.mk.injEq] at hx
  obtain ⟨rfl, rfl⟩ := hx
  simp only [DataW.weights, hu, List.all_cons, List.all_append, Bool.and_eq_true, List.length_map, List.length_range] at hw
  have hmle : len ≤ m := by rw [hm]; split <;> omega
  have hlen : len ≤ 140737488355328 := by
   have h1 := of_decide_eq_true hw.1
   have h3 := reach_le
   have h2 : len * 1 ≤ (len + (m - len)) * P.bytesOf e := Nat.mul_le_mul (by omega) hb
   omega
  have key : ∀ i, i < len → ∃ x : MV × List Value, Q x.1 ∧ Rep W (allP W) noAdr x.1 x.2 ∧ x.2.length = n ∧ (∀ j v, x.2[j]? = some v → W.cell? (a.add (i * n + j)) = some v) ∧ x.1.bulk ≤ Rows.uptoBulk (D i) := by
   intro i hil
   obtain ⟨cs', hc', ht⟩ := hi i (by omega)
   rw [hr.1] at hc'
   obtain ⟨_, hl, hat⟩ := World.cells?_some hc'
   have hmem : D i ∈ List.map D (List.range len) := List.mem_map.2 ⟨i, List.mem_range.2 hil, rfl⟩
   obtain ⟨hl2, x, hx1, hx2, hx3⟩ := hr.2 enc W spare held nn cs' (D i) (Pl i) ht (weightsAll_mem hw.2.1 hmem)
   refine ⟨(x, cs'), hx1, hx2, hl2, fun j v hv => ?_, hx3⟩
   have hj : j < cs'.length := (List.getElem?_eq_some_iff.1 hv).1
   have := hat j (by omega)
   rw [Go.Deep.add_add] at this
   rw [this, hv]
  have ex : ∃ f : Nat → MV × List Value, ∀ i, i < len → Q (f i).1 ∧ Rep W (allP W) noAdr (f i).1 (f i).2 ∧ (f i).2.length = n ∧ (∀ j v, (f i).2[j]? = some v → W.cell? (a.add (i * n + j)) = some v) ∧ (f i).1.bulk ≤ Rows.uptoBulk (D i) :=
   ⟨fun i => Classical.epsilon fun x => Q x.1 ∧ Rep W (allP W) noAdr x.1 x.2 ∧ x.2.length = n ∧ (∀ j v, x.2[j]? = some v → W.cell? (a.add (i * n + j)) = some v) ∧ x.1.bulk ≤ Rows.uptoBulk (D i), fun i hil => Classical.epsilon_spec (key i hil)⟩
  obtain ⟨f, hf⟩ := ex
  refine ⟨rfl, .sl len ((List.range len).map fun i => (f i).1), ⟨(List.range len).map fun i => (f i).1, by simp, fun x hx => ?_, by simpa using hlen⟩, ?_, ?_⟩
  ·obtain ⟨i, hi, rfl⟩ := List.mem_map.1 hx
   exact (hf i (List.mem_range.1 hi)).1
  case refine_3 =>
   have hb := bulks_map (fun i => (f i).1) D (List.range len) fun i hi => (hf i (List.mem_range.1 hi)).2.2.2.2
   simp only [MV.bulk, Rows.uptoBulk]
   omega
  ·obtain ⟨b, o, spot⟩ := a
   have hparts : ∀ p ∈ (List.range len).map fun i => (f i).2, p.length = n := fun p hp => by
    obtain ⟨i, hi, rfl⟩ := List.mem_map.1 hp
    exact (hf i (List.mem_range.1 hi)).2.2.1
   refine .sl _ cap n ((List.range len).map fun i => (f i).2) (by simp) (by simp) hparts (fun h => nomatch h) hle (fun h0 => ?_) fun j m p hm hp => ?_
   ·have hspot : spot = none := by
     obtain ⟨_, _, hl, hc', _⟩ := hf 0 (by omega)
     have hv : (f 0).2[0]? = some ((f 0).2[0]'(by omega)) := List.getElem?_eq_getElem (by omega)
     have hcell := hc' 0 _ hv
     have e0 : (⟨b, o, spot⟩ : Addr).add (0 * n + 0) = ⟨b, o, spot⟩ := by simp [Addr.add]
     rw [e0] at hcell
     simpa using World.cell?_spot hcell
    subst hspot
    refine ⟨b, o, rfl, fun j u hj => ?_⟩
    have hjl := (List.getElem?_eq_some_iff.1 hj).1
    rw [flatten_const hparts] at hjl
    simp at hjl
    obtain ⟨i, k, hk, hji⟩ : ∃ i k, k < n ∧ j = i * n + k := ⟨j / n, j % n, Nat.mod_lt _ hpos, by rw [Nat.mul_comm]; exact (Nat.div_add_mod j n).symm⟩
    have hil : i < len := by
     rcases Nat.lt_or_ge i len with h | h
     ·exact h
     ·have := Nat.mul_le_mul_right n h; omega
    have hget : (f i).2[k]? = some u := by
     have hl := (hf i hil).2.2.1
     have hp : ((List.range len).map fun i => (f i).2)[i]? = some (f i).2 := by simp [hil]
     have h2 : ((List.range len).map fun i => (f i).2).flatten[i * n + k]? = (f i).2[k]? := by
      have hsp := flatten_split hp
      have hpre : (((List.range len).map fun i => (f i).2).take i).flatten.length = i * n := by
       rw [flatten_const fun p hp => hparts p (List.mem_of_mem_take hp)]
       rw [List.length_take, List.length_map, List.length_range, Nat.min_eq_left (Nat.le_of_lt hil)]
      rw [hsp, List.append_assoc, List.getElem?_append_right (by omega), hpre, show i * n + k - i * n = k by omega, List.getElem?_append_left (by omega)]
     rw [← h2, ← hji]; exact hj
    have := (hf i hil).2.2.2.1 k u hget
    rw [Addr.add_mid] at this
    have hc2 : W.cell? ⟨b, o + j, none⟩ = some u := by rw [hji]; exact this
    exact ⟨hc2, World.block_lt_of_cell? W _ hc2⟩
   ·rw [List.getElem?_map] at hm hp
    cases hj : (List.range len)[j]? with
    | none => rw [hj] at hm; cases hm
    | some i =>
     rw [hj] at hm hp
     injection hm with hm
     injection hp with hp
     subst hm; subst hp
     have hi : i < len := by
      have := List.mem_range.1 (List.mem_of_getElem? hj)
      exact this
     exact (hf i hi).2.1
theorem lift_list {α : Type} {f : α → MV} {R : α → Prop} : ∀ (l : List MV), (∀ x ∈ l, ∃ a, x = f a ∧ R a) → ∃ us : List α, l = us.map f ∧ ∀ a ∈ us, R a
 | [], _ => ⟨[], rfl, by simp⟩
 | x :: l, h => by
  obtain ⟨a, e, hr⟩ := h x (by simp)
  obtain ⟨us, e2, has⟩ := lift_list l fun y hy => h y (by simp [hy])
  refine ⟨a :: us, by rw [e, e2]; rfl, fun b hb => ?_⟩
  rcases List.mem_cons.1 hb with rfl | hb
  ·exact hr
  ·exact has b hb
def OpnL (P : Program) : Nat → List Field → List (Nat × (MV → Prop)) → Prop
 | _, [], [] => True
 | o, f :: fs, q :: qs => f.offset = o ∧ Opn P f.type q.1 q.2 ∧ OpnL P (o + q.1) fs qs
 | _, _, _ => False
def sumN : List (Nat × (MV → Prop)) → Nat
 | [] => 0
 | q :: qs => q.1 + sumN qs
def AllQ : List (Nat × (MV → Prop)) → List MV → Prop
 | [], [] => True
 | q :: qs, m :: l => q.2 m ∧ AllQ qs l
 | _, _ => False
theorem OpnL.out {H : Type} (enc : TypeId × Value → H) (W : World) (spare : Nat → Bool) (held : Bool) (fuel : Nat) (cs : List Value) : ∀ (fs : List Field) (qs : List (Nat × (MV → Prop))) (xs : List (DataW H × List MemPlace)) (o : Nat), OpnL P o fs qs → xs.length = fs.length → o + sumN qs = cs.length →
  (∀ (i : Nat) (f : Field), fs[i]? = some f → DataW.trod enc P W 0 spare held fuel f.type ((cs.drop f.offset).take (P.cellsOf f.type)) = xs[i]?) → (∀ (i : Nat) (f : Field) (x : DataW H × List MemPlace), fs[i]? = some f → xs[i]? = some x → (x.1.weights P f.type).all (· ≤ reachBytes) = true) →
  ∃ (l : List MV) (parts : List (List Value)), AllQ qs l ∧ parts.length = l.length ∧ cs.drop o = parts.flatten ∧ MV.bulks l ≤ Rows.uptoBulkAll (xs.map (·.1)) ∧ ∀ (j : Nat) m p, l[j]? = some m → parts[j]? = some p → Rep W (allP W) noAdr m p
 | [], [], _, o, _, _, hs, _, _ => ⟨[], [], trivial, rfl, by simp only [sumN] at hs; rw [List.drop_eq_nil_of_le (by omega)]; rfl, Nat.zero_le _, fun j m p h => by simp at h⟩
 | f :: fs, q :: qs, x :: xs, o, ho, hl, hs, hx, hw => by
  obtain ⟨h1, h2, h3⟩ := ho
  have ht := hx 0 f rfl
  rw [h1, h2.1] at ht
  obtain ⟨d, p⟩ := x
  obtain ⟨hlen, m, hq, hr, hb⟩ := h2.2 enc W spare held fuel _ d p ht (hw 0 f (d, p) rfl rfl)
  obtain ⟨l, parts, a1, a2, a3, a5, a4⟩ := OpnL.out enc W spare held fuel cs fs qs xs (o + q.1) h3 (by simpa using hl) (by simp only [sumN] at hs; omega) (fun i f hf => hx (i + 1) f hf) fun i f x hf hx => hw (i + 1) f x hf hx
  refine ⟨m :: l, (cs.drop o).take q.1 :: parts, ⟨hq, a1⟩, by simp [a2], ?_, by simp only [List.map_cons, MV.bulks, Rows.uptoBulkAll]; omega, fun j m' p' hm hp => ?_⟩
  ·rw [List.flatten_cons, ← a3, ← List.drop_drop, List.take_append_drop]
  ·cases j with
   | zero => simp at hm hp; subst hm; subst hp; exact hr
   | succ j => exact a4 j m' p' (by simpa using hm) (by simpa using hp)
 | [], _ :: _, _, _, h, _, _, _, _ => h.elim
 | _ :: _, [], _, _, h, _, _, _, _ => h.elim
 | _ :: _, _ :: _, [], _, _, h, _, _, _ => by simp at h
theorem Opn.struct {fs : List Field} {qs : List (Nat × (MV → Prop))} (hu : P.underlying t = some (.struct fs.toArray)) (hc : P.cellsOf t = sumN qs) (h : OpnL P 0 fs qs) : Opn P t (sumN qs) fun m => ∃ l, m = .st l ∧ AllQ qs l := by
 refine ⟨hc, fun {H} enc W spare held fuel cs d p h' hw => ?_⟩
 obtain ⟨xs, n, _, hx, hl, hlen, hf⟩ := DataW.trod_struct hu h'
 simp only [Prod.mk.injEq] at hx
 obtain ⟨rfl, rfl⟩ := hx
 simp only [DataW.weights, hu] at hw
 have hw2 : ∀ (fs : List Field) (xs : List (DataW H × List MemPlace)), (DataW.weightsEach P (fs.map (·.type)) (xs.map (·.1))).all (· ≤ reachBytes) = true → ∀ (i : Nat) (f : Field) (x : DataW H × List MemPlace), fs[i]? = some f → xs[i]? = some x → (x.1.weights P f.type).all (· ≤ reachBytes) = true := by
  intro fs
  induction fs with
  | nil => intro xs _ i f x hf; simp at hf
  | cons g fs ih =>
   intro xs hw i f x hf hx
   cases xs with
   | nil => simp at hx
   | cons y xs =>
    simp only [List.map_cons, DataW.weightsEach, List.all_append, Bool.and_eq_true] at hw
    cases i with
    | zero => simp at hf hx; subst hf; subst hx; exact hw.1
    | succ i => exact ih xs hw.2 i f x (by simpa using hf) (by simpa using hx)
 obtain ⟨l, parts, a1, a2, a3, a5, a4⟩ := OpnL.out enc W spare held n cs fs qs xs 0 h (by simpa using hlen) (by rw [hl, hc]; omega) (fun i f hi => hf i f (by simpa using hi)) (hw2 fs xs (by simpa using hw))
 rw [List.drop_zero] at a3
 exact ⟨hl.trans hc, .st l, ⟨l, rfl, a1⟩, by rw [a3]; exact .st parts a2 a4, by simp only [MV.bulk, Rows.uptoBulk]; omega⟩
end
end
section
section
variable {Pg : Program} {T : Tab} {N : Nat} {ents : List FuncId} {G : GS} {n0 : Nat}
def SeqQ (Pg : Program) (T : Tab) (N : Nat) (ents : List FuncId) (G : GS) (n0 : Nat) (y : Code) (Q : Exit → VK) : Exit → VK := fun e E M n => match e with | .normal => Rs n0 (vC Pg T N ents G n0 y Q) E M n | e => Q e E M n
def BlockQ (id : Nat) (Q : Exit → VK) : Exit → VK := fun e E M n => match e with | .exit i => (bif Nat.beq i id then Q .normal E M n else Q (.exit i) E M n) | e => Q e E M n
def LoopQ (n0 : Nat) {X : Type} (E' : X → VE) (M' : X → VM) (n' : Nat) (I : X → Prop) (μ : X → Nat) (x : X) (Q : Exit → VK) : Exit → VK := fun e E1 M1 n1 => match e with | .normal => ∃ x', I x' ∧ μ x' < μ x ∧ VMatch n0 (E' x') (M' x') n' E1 M1 | e => Q e E1 M1 n1
variable {Q : Exit → VK} {E : VE} {M : VM} {n : Nat} {x y c : Code} {id i : Nat}
theorem c_seq (h : vC Pg T N ents G n0 x (SeqQ Pg T N ents G n0 y Q) E M n) : vC Pg T N ents G n0 (.seq x y) Q E M n := h
theorem c_skip (h : Q .normal E M n) : vC Pg T N ents G n0 .skip Q E M n := h
theorem c_label {l : Nat} (h : Q .normal E M n) : vC Pg T N ents G n0 (.label l) Q E M n := h
theorem c_exit (h : Q (.exit id) E M n) : vC Pg T N ents G n0 (.exit id) Q E M n := h
theorem c_ret (h : Q .ret E M n) : vC Pg T N ents G n0 .ret Q E M n := h
theorem c_block (h : vC Pg T N ents G n0 c (BlockQ id Q) E M n) : vC Pg T N ents G n0 (.block id c) Q E M n := h
theorem c_region {l : List Oper} (h : vOpsN Pg T N ents G (List.toArray l) l (Q .normal) E M n) : vC Pg T N ents G n0 (.region id (List.toArray l) false) Q E M n := h
theorem c_draw {ops : Array Oper} (L : List (Nat × Bool)) (h : vOpsD Pg T N ents G ops L [] (Q .normal) E M n) : vC Pg T N ents G n0 (.region id ops true) Q E M n := ⟨L, h⟩
theorem c_cond {o : Operand} {t : Bool} (he : evM (VE.get E) o = some (.bool t)) (h1 : t = true → vC Pg T N ents G n0 x Q E M n) (h2 : t = false → vC Pg T N ents G n0 y Q E M n) : vC Pg T N ents G n0 (.cond o x y) Q E M n := by
 unfold vC; rw [he]; exact ⟨h1, h2⟩
theorem c_condT {o : Operand} (he : evM (VE.get E) o = some (.bool true)) (h : vC Pg T N ents G n0 x Q E M n) : vC Pg T N ents G n0 (.cond o x y) Q E M n := c_cond he (fun _ => h) (fun h => Bool.noConfusion h)
theorem c_condF {o : Operand} (he : evM (VE.get E) o = some (.bool false)) (h : vC Pg T N ents G n0 y Q E M n) : vC Pg T N ents G n0 (.cond o x y) Q E M n := c_cond he (fun h => Bool.noConfusion h) (fun _ => h)
theorem c_loop (X : Type) (E' : X → VE) (M' : X → VM) (n' : Nat) (I : X → Prop) (μ : X → Nat) (x0 : X) (hI : I x0) (hm : VMatch n0 (E' x0) (M' x0) n' E M) (h : ∀ x, I x → vC Pg T N ents G n0 c (LoopQ n0 E' M' n' I μ x Q) (E' x) (M' x) n') : vC Pg T N ents G n0 (.loop c) Q E M n := ⟨X, E', M', n', I, μ, ⟨x0, hI, hm⟩, h⟩
theorem seqQ_n (h : vC Pg T N ents G n0 y Q E M n) : SeqQ Pg T N ents G n0 y Q .normal E M n := Rs.go h
structure JoinF (n0 : Nat) {X : Type} (E' : X → VE) (M' : X → VM) (n' : X → Nat) (I : X → Prop) (Q JQ : Exit → VK) : Prop where
 nrm : ∀ (p : X) {E : VE} {M : VM} {n : Nat}, I p → VMatch n0 (E' p) (M' p) (n' p) E M → JQ .normal E M n
 ret : ∀ {E : VE} {M : VM} {n : Nat}, Q .ret E M n → JQ .ret E M n
 ext : ∀ {i : Nat} {E : VE} {M : VM} {n : Nat}, Q (.exit i) E M n → JQ (.exit i) E M n
theorem q_join (X : Type) (E' : X → VE) (M' : X → VM) (n' : X → Nat) (I : X → Prop) (h1 : ∀ JQ : Exit → VK, JoinF n0 E' M' n' I Q JQ → vC Pg T N ents G n0 c JQ E M n) (h2 : ∀ p, I p → vC Pg T N ents G n0 y Q (E' p) (M' p) (n' p)) : vC Pg T N ents G n0 c (SeqQ Pg T N ents G n0 y Q) E M n :=
 h1 _ ⟨fun p _ _ _ hI hm => Rs.re _ _ _ hm (h2 p hI), fun h => h, fun h => h⟩
theorem q_joinN {ops : Array Oper} {l : List Oper} (X : Type) (E' : X → VE) (M' : X → VM) (n' : X → Nat) (I : X → Prop) (h1 : ∀ JQ : Exit → VK, JoinF n0 E' M' n' I Q JQ → vOpsN Pg T N ents G ops l (SeqQ Pg T N ents G n0 c JQ .normal) E M n) (h2 : ∀ p, I p → vC Pg T N ents G n0 y Q (E' p) (M' p) (n' p)) : vOpsN Pg T N ents G ops l (SeqQ Pg T N ents G n0 c (SeqQ Pg T N ents G n0 y Q) .normal) E M n :=
 h1 _ ⟨fun p _ _ _ hI hm => Rs.re _ _ _ hm (h2 p hI), fun h => h, fun h => h⟩
theorem q_joinB (X : Type) (E' : X → VE) (M' : X → VM) (n' : X → Nat) (I : X → Prop) (h1 : ∀ JQ : Exit → VK, JoinF n0 E' M' n' I Q JQ → vC Pg T N ents G n0 c (BlockQ id JQ) E M n) (h2 : ∀ p, I p → vC Pg T N ents G n0 y Q (E' p) (M' p) (n' p)) : vC Pg T N ents G n0 c (BlockQ id (SeqQ Pg T N ents G n0 y Q)) E M n :=
 h1 _ ⟨fun p _ _ _ hI hm => Rs.re _ _ _ hm (h2 p hI), fun h => h, fun h => h⟩
theorem joinF_r {X : Type} {E' : X → VE} {M' : X → VM} {n' : X → Nat} {I : X → Prop} {JQ : Exit → VK} (hj : JoinF n0 E' M' n' I Q JQ) (h : Q .ret E M n) : JQ .ret E M n := hj.ret h
theorem joinF_x {X : Type} {E' : X → VE} {M' : X → VM} {n' : X → Nat} {I : X → Prop} {JQ : Exit → VK} (hj : JoinF n0 E' M' n' I Q JQ) (h : Q (.exit i) E M n) : JQ (.exit i) E M n := hj.ext h
theorem seqQ_x (h : Q (.exit i) E M n) : SeqQ Pg T N ents G n0 y Q (.exit i) E M n := h
theorem seqQ_r (h : Q .ret E M n) : SeqQ Pg T N ents G n0 y Q .ret E M n := h
theorem blockQ_n (h : Q .normal E M n) : BlockQ id Q .normal E M n := h
theorem blockQ_r (h : Q .ret E M n) : BlockQ id Q .ret E M n := h
theorem blockQ_x (hb : Nat.beq i id = true) (h : Q .normal E M n) : BlockQ id Q (.exit i) E M n := by
 show (bif Nat.beq i id then _ else _); rw [hb]; exact h
theorem blockQ_y (hb : Nat.beq i id = false) (h : Q (.exit i) E M n) : BlockQ id Q (.exit i) E M n := by
 show (bif Nat.beq i id then _ else _); rw [hb]; exact h
theorem loopQ_x {X : Type} {E' : X → VE} {M' : X → VM} {n' : Nat} {I : X → Prop} {μ : X → Nat} {x : X} (h : Q (.exit i) E M n) : LoopQ n0 E' M' n' I μ x Q (.exit i) E M n := h
theorem loopQ_r {X : Type} {E' : X → VE} {M' : X → VM} {n' : Nat} {I : X → Prop} {μ : X → Nat} {x : X} (h : Q .ret E M n) : LoopQ n0 E' M' n' I μ x Q .ret E M n := h
def vOpsG (Pg : Program) (T : Tab) (N : Nat) (ents : List FuncId) (G : GS) (ops : Array Oper) (o : Oper) (rest : List Oper) (K : VK) (E : VE) (M : VM) (n : Nat) : Prop :=
 vRunN Pg T ents G o E M n fun r M n => vPut N o.dst r E fun E => vOpsN Pg T N ents G ops rest K E M n
def plainO : Op → Bool
 | .call c => match c.callee with
  | .value _ => false
  | _ => true
 | _ => true
variable {ops : Array Oper} {dst : Option Tmp} {d : Tmp} {op : Op} {ty : TypeId} {pos : String} {after : Array Edge} {g : Option (Nat × Bool)} {rest : List Oper} {K : VK} {r : MV} {δ : Dl} {o : Oper} {j s : Nat} {want t : Bool}
theorem n_nil (h : K E M n) : vOpsN Pg T N ents G ops [] K E M n := h
theorem n_go (h : vOpsG Pg T N ents G ops ⟨dst, op, ty, pos, after, none⟩ rest K E M n) : vOpsN Pg T N ents G ops (⟨dst, op, ty, pos, after, none⟩ :: rest) K E M n := Rt.go h
theorem n_guard (hs : (ops[j]?).bind (·.dst) = some s) (hv : VE.get E s = some (.bool t)) (h1 : t = want → vOpsG Pg T N ents G ops ⟨some d, op, ty, pos, after, some (j, want)⟩ rest K ((s, .bool want) :: E) M n) (hd : Nat.blt d N = true)
  (h2 : t = !want → vOpsN Pg T N ents G ops rest K ((d, .undef) :: (s, .bool (!want)) :: E) M (n + 1)) : vOpsN Pg T N ents G ops (⟨some d, op, ty, pos, after, some (j, want)⟩ :: rest) K E M n := by
 unfold vOpsN
 refine Rt.go ?_
 unfold vOpN
 simp only [hs, hv]
 refine ⟨h1, fun ht => ?_⟩
 unfold vPut
 simp only [hd]
 exact h2 ht
theorem n_grd (hf : (ops[j]?).bind (·.dst) = some s ∧ VE.get E s = some (.bool t) ∧ Nat.blt d N = true) (h1 : t = want → vOpsG Pg T N ents G ops ⟨some d, op, ty, pos, after, some (j, want)⟩ rest K ((s, .bool want) :: E) M n) (h2 : t = !want → vOpsN Pg T N ents G ops rest K ((d, .undef) :: (s, .bool (!want)) :: E) M (n + 1)) : vOpsN Pg T N ents G ops (⟨some d, op, ty, pos, after, some (j, want)⟩ :: rest) K E M n := n_guard hf.1 hf.2.1 h1 hf.2.2 h2
theorem n_guardY (hs : (ops[j]?).bind (·.dst) = some s) (hv : VE.get E s = some (.bool want)) (h : vOpsG Pg T N ents G ops ⟨dst, op, ty, pos, after, some (j, want)⟩ rest K ((s, .bool want) :: E) M n) : vOpsN Pg T N ents G ops (⟨dst, op, ty, pos, after, some (j, want)⟩ :: rest) K E M n := by
 unfold vOpsN
 refine Rt.go ?_
 unfold vOpN
 simp only [hs, hv]
 exact ⟨fun _ => h, fun ht => by cases want <;> cases ht⟩
theorem n_guardN (hs : (ops[j]?).bind (·.dst) = some s) (hv : VE.get E s = some (.bool (!want))) (hd : Nat.blt d N = true) (h : vOpsN Pg T N ents G ops rest K ((d, .undef) :: (s, .bool (!want)) :: E) M (n + 1)) : vOpsN Pg T N ents G ops (⟨some d, op, ty, pos, after, some (j, want)⟩ :: rest) K E M n :=
 n_guard hs hv (fun ht => by cases want <;> cases ht) hd (fun _ => h)
theorem n_guardU (hs : (ops[j]?).bind (·.dst) = some s) (hv : VE.get E s = some .undef) (hd : Nat.blt d N = true) (h : vOpsN Pg T N ents G ops rest K ((d, .undef) :: E) M (n + 1)) : vOpsN Pg T N ents G ops (⟨some d, op, ty, pos, after, some (j, want)⟩ :: rest) K E M n := by
 unfold vOpsN
 refine Rt.go ?_
 unfold vOpN
 simp only [hs, hv]
 unfold vPut
 simp only [hd]
 exact h
theorem n_app {l1 l2 : List Oper} (h : vOpsN Pg T N ents G ops (o :: List.append l1 l2) K E M n) : vOpsN Pg T N ents G ops (List.append (o :: l1) l2) K E M n := h
theorem n_app0 {l2 : List Oper} (h : vOpsN Pg T N ents G ops l2 K E M n) : vOpsN Pg T N ents G ops (List.append [] l2) K E M n := h
theorem g_run (hq : nilQ T E ⟨dst, op, ty, pos, after, g⟩ = none) (hv : plainO op = true) (he : ∀ R : MV × Dl → Prop, R (r, δ) → (eOp Pg T (VE.get E) (VM.get M) n ⟨dst, op, ty, pos, after, g⟩).runP R)
  (h : vPut N dst r E fun E => vOpsN Pg T N ents G ops rest K E (δ.app n M) (n + 1)) : vOpsG Pg T N ents G ops ⟨dst, op, ty, pos, after, g⟩ rest K E M n := by
 unfold vOpsG vRunN
 rw [hq]
 show vRunP Pg T ents G _ E M n _
 cases op with
 | call c =>
  obtain ⟨callee, args, ats⟩ := c
  cases callee with
  | value f => cases hv
  | builtin b => exact he _ h
  | invoke r n => exact he _ h
 | _ => exact he _ h
theorem g_val (hq : nilQ T E ⟨some d, op, ty, pos, after, g⟩ = none) (hv : plainO op = true) (he : ∀ R : MV × Dl → Prop, R (r, .none) → (eOp Pg T (VE.get E) (VM.get M) n ⟨some d, op, ty, pos, after, g⟩).runP R) (hd : Nat.blt d N = true)
  (h : vOpsN Pg T N ents G ops rest K ((d, r) :: E) M (n + 1)) : vOpsG Pg T N ents G ops ⟨some d, op, ty, pos, after, g⟩ rest K E M n := by
 refine g_run hq hv he ?_
 unfold vPut
 simp only [hd]
 exact h
theorem g_mem (hq : nilQ T E ⟨some d, op, ty, pos, after, g⟩ = none) (hv : plainO op = true) (he : ∀ R : MV × Dl → Prop, R (r, δ) → (eOp Pg T (VE.get E) (VM.get M) n ⟨some d, op, ty, pos, after, g⟩).runP R) (hd : Nat.blt d N = true)
  (h : vOpsN Pg T N ents G ops rest K ((d, r) :: E) (δ.app n M) (n + 1)) : vOpsG Pg T N ents G ops ⟨some d, op, ty, pos, after, g⟩ rest K E M n := by
 refine g_run hq hv he ?_
 unfold vPut
 simp only [hd]
 exact h
theorem g_none (hq : nilQ T E ⟨none, op, ty, pos, after, g⟩ = none) (hv : plainO op = true) (he : ∀ R : MV × Dl → Prop, R (r, δ) → (eOp Pg T (VE.get E) (VM.get M) n ⟨none, op, ty, pos, after, g⟩).runP R)
  (h : vOpsN Pg T N ents G ops rest K E (δ.app n M) (n + 1)) : vOpsG Pg T N ents G ops ⟨none, op, ty, pos, after, g⟩ rest K E M n := g_run hq hv he h
theorem g_nil {k : Nat} {neg : Bool} (hq : nilQ T E ⟨some d, op, ty, pos, after, g⟩ = some (k, neg)) (hd : Nat.blt d N = true) (h : ∀ b : Bool, (b = true → k = 0) → vOpsN Pg T N ents G ops rest K ((d, .bool (bif neg then !b else b)) :: E) M (n + 1)) : vOpsG Pg T N ents G ops ⟨some d, op, ty, pos, after, g⟩ rest K E M n := by
 unfold vOpsG vRunN
 rw [hq]
 intro b hb
 unfold vPut
 simp only [hd]
 have := h b hb
 cases neg <;> exact this
section
variable {f : Operand} {args : Array Operand} {ats : Array TypeId} {f0 : FuncId} {vs : List MV} {bs : List (Nat × Nat)} {res : MV}
theorem g_callV (hd : ∀ d, dst = some d → Nat.blt d N = true) (h1 : ∀ R : FuncId × List MV × List (Nat × Nat) → Prop, R (f0, vs, bs) → (vCall E M f args.toList).runP R) (h2 : ents.contains f0 = true) (hc : SemC Pg G f0 vs res)
  (h : vOpsN Pg T N ents G ops rest K (match dst with | some d => (d, res) :: E | none => E) (VM.bump M bs) (n + 1)) : vOpsG Pg T N ents G ops ⟨dst, .call ⟨.value f, args, ats⟩, ty, pos, after, g⟩ rest K E M n := by
 show (vRun Pg T ents G _ E M n _) ∨ _
 refine .inl ?_
 show (vCall E M f args.toList).runP _
 refine h1 _ ?_
 show (match ents.contains f0 with | true => ∃ res, SemC Pg G f0 vs res ∧ _ | false => False)
 rw [h2]
 refine ⟨res, hc, ?_⟩
 unfold vPut
 cases dst with
 | none => exact h
 | some d =>
  simp only [hd d rfl]
  exact h
theorem g_callR (hd : ∀ d, dst = some d → Nat.blt d N = true) (h1 : ∀ R : FuncId × List MV → Prop, R (f0, vs) → (vArgs E f args.toList).runP R) (h2 : ents.contains f0 = true) {args' : List MV} {M0 : VM} {n0 : Nat} {M1 : VM} {n1 : Nat} (hc : SemR Pg G f0 args' M0 n0 res M1 n1) (σ bs : List (Nat × Nat))
  (hm : LMatch 0 args' M0 n0 vs M σ bs) (h3 : allIn M σ = true) (h4 : M1.all (fun x => Nat.blt x.1 n1) = true) (h : vOpsN Pg T N ents G ops rest K (match dst with | some d => (d, renV (rho n σ) res) :: E | none => E) (renM (rho n σ) M1 ++ delM (VM.bump M bs) σ) (n + n1)) :
  vOpsG Pg T N ents G ops ⟨dst, .call ⟨.value f, args, ats⟩, ty, pos, after, g⟩ rest K E M n := by
 show (vRun Pg T ents G _ E M n _) ∨ (vArgs E f args.toList).runP _
 refine .inr (h1 _ ?_)
 show (match ents.contains f0 with | true => vCallR Pg G SemE M n f0 vs _ | false => vCallR Pg G SemPE M n f0 vs _)
 rw [h2]
 refine ⟨args', M0, n0, fun r M' n' => r = res ∧ M' = M1 ∧ n' = n1, semWE_of (fun h k => h.mono k) hc ⟨rfl, rfl, rfl⟩, σ, bs, hm, h3, ?_⟩
 rintro _ _ _ ⟨rfl, rfl, rfl⟩
 refine ⟨h4, ?_⟩
 unfold vPut
 cases dst with
 | none => exact h
 | some d =>
  simp only [hd d rfl]
  exact h
end
def okO (T : Tab) (N : Nat) (E : VE) (o : Oper) : Bool := (match nilQ T E o with | none => true | some _ => false) && (plainO o.op && (match o.dst with | some d => Nat.blt d N | none => true))
theorem okO_out (h : okO T N E o = true) : nilQ T E o = none ∧ plainO o.op = true ∧ ∀ d, o.dst = some d → Nat.blt d N = true := by
 unfold okO at h
 simp only [Bool.and_eq_true] at h
 obtain ⟨h1, h2, h3⟩ := h
 refine ⟨?_, h2, fun d hd => ?_⟩
 ·split at h1
  ·assumption
  ·cases h1
 ·rw [hd] at h3; exact h3
theorem n_val (hb : okO T N E ⟨some d, op, ty, pos, after, none⟩ = true) (he : ∀ R : MV × Dl → Prop, R (r, .none) → (eOp Pg T (VE.get E) (VM.get M) n ⟨some d, op, ty, pos, after, none⟩).runP R) (h : vOpsN Pg T N ents G ops rest K ((d, r) :: E) M (n + 1)) : vOpsN Pg T N ents G ops (⟨some d, op, ty, pos, after, none⟩ :: rest) K E M n :=
 n_go (g_val (okO_out hb).1 (okO_out hb).2.1 he ((okO_out hb).2.2 d rfl) h)
theorem n_mem (hb : okO T N E ⟨some d, op, ty, pos, after, none⟩ = true) (he : ∀ R : MV × Dl → Prop, R (r, δ) → (eOp Pg T (VE.get E) (VM.get M) n ⟨some d, op, ty, pos, after, none⟩).runP R) (h : vOpsN Pg T N ents G ops rest K ((d, r) :: E) (δ.app n M) (n + 1)) : vOpsN Pg T N ents G ops (⟨some d, op, ty, pos, after, none⟩ :: rest) K E M n :=
 n_go (g_mem (okO_out hb).1 (okO_out hb).2.1 he ((okO_out hb).2.2 d rfl) h)
theorem n_none (hb : okO T N E ⟨none, op, ty, pos, after, none⟩ = true) (he : ∀ R : MV × Dl → Prop, R (r, δ) → (eOp Pg T (VE.get E) (VM.get M) n ⟨none, op, ty, pos, after, none⟩).runP R) (h : vOpsN Pg T N ents G ops rest K E (δ.app n M) (n + 1)) : vOpsN Pg T N ents G ops (⟨none, op, ty, pos, after, none⟩ :: rest) K E M n :=
 n_go (g_none (okO_out hb).1 (okO_out hb).2.1 he h)
theorem n_valY (hs : (ops[j]?).bind (·.dst) = some s) (hv : VE.get E s = some (.bool want)) (hb : okO T N ((s, .bool want) :: E) ⟨some d, op, ty, pos, after, some (j, want)⟩ = true) (he : ∀ R : MV × Dl → Prop, R (r, .none) → (eOp Pg T (VE.get ((s, .bool want) :: E)) (VM.get M) n ⟨some d, op, ty, pos, after, some (j, want)⟩).runP R)
  (h : vOpsN Pg T N ents G ops rest K ((d, r) :: (s, .bool want) :: E) M (n + 1)) : vOpsN Pg T N ents G ops (⟨some d, op, ty, pos, after, some (j, want)⟩ :: rest) K E M n :=
 n_guardY hs hv (g_val (okO_out hb).1 (okO_out hb).2.1 he ((okO_out hb).2.2 d rfl) h)
theorem c_seqR {l : List Oper} (h : vOpsN Pg T N ents G (List.toArray l) l (SeqQ Pg T N ents G n0 y Q .normal) E M n) : vC Pg T N ents G n0 (.seq (.region id (List.toArray l) false) y) Q E M n := h
theorem n_nilS (h : vC Pg T N ents G n0 y Q E M n) : vOpsN Pg T N ents G ops [] (SeqQ Pg T N ents G n0 y Q .normal) E M n := Rs.go h
section
variable {f : Operand} {args : Array Operand} {ats : Array TypeId} {f0 : FuncId} {vs : List MV} {bs : List (Nat × Nat)} {res : MV}
theorem g_callR1 (hd : Nat.blt d N = true) (h1 : ∀ R : FuncId × List MV → Prop, R (f0, vs) → (vArgs E f args.toList).runP R) (h2 : ents.contains f0 = true) {args' : List MV} {M0 : VM} {n0 : Nat} {M1 : VM} {n1 : Nat} (hc : SemR Pg G f0 args' M0 n0 res M1 n1) (σ bs : List (Nat × Nat))
  (hm : LMatch 0 args' M0 n0 vs M σ bs) (h3 : allIn M σ = true) (h4 : M1.all (fun x => Nat.blt x.1 n1) = true) (h : vOpsN Pg T N ents G ops rest K ((d, renV (rho n σ) res) :: E) (renM (rho n σ) M1 ++ delM (VM.bump M bs) σ) (n + n1)) :
  vOpsG Pg T N ents G ops ⟨some d, .call ⟨.value f, args, ats⟩, ty, pos, after, g⟩ rest K E M n := g_callR (fun d' e => by injection e with e; subst e; exact hd) h1 h2 hc σ bs hm h3 h4 h
theorem g_callE1 (hd : Nat.blt d N = true) (h1 : ∀ R : FuncId × List MV → Prop, R (f0, vs) → (vArgs E f args.toList).runP R) (h2 : ents.contains f0 = true) {args' : List MV} {M0 : VM} {n0 : Nat} {Φ : MV → VM → Nat → Prop} (hc : SemE Pg G f0 args' M0 n0 Φ) (σ bs : List (Nat × Nat))
  (hm : LMatch 0 args' M0 n0 vs M σ bs) (h3 : allIn M σ = true) (h : ∀ (res : MV) (M1 : VM) (n1 : Nat), Φ res M1 n1 → M1.all (fun x => Nat.blt x.1 n1) = true ∧ vOpsN Pg T N ents G ops rest K ((d, renV (rho n σ) res) :: E) (renM (rho n σ) M1 ++ delM (VM.bump M bs) σ) (n + n1)) :
  vOpsG Pg T N ents G ops ⟨some d, .call ⟨.value f, args, ats⟩, ty, pos, after, g⟩ rest K E M n := by
 show (vRun Pg T ents G _ E M n _) ∨ (vArgs E f args.toList).runP _
 refine .inr (h1 _ ?_)
 show (match ents.contains f0 with | true => vCallR Pg G SemE M n f0 vs _ | false => vCallR Pg G SemPE M n f0 vs _)
 rw [h2]
 refine ⟨args', M0, n0, Φ, hc, σ, bs, hm, h3, fun r M' n' hΦ => ⟨(h r M' n' hΦ).1, ?_⟩⟩
 unfold vPut
 simp only [hd]
 exact (h r M' n' hΦ).2
end
theorem n_re (E' : VE) (M' : VM) (bs : List (Nat × Nat)) (h1 : okB M bs) (h2 : M'.all (fun x => Nat.blt x.1 n) = true) (h3 : mE (sigA n []) (fzb M bs) E' E) (h4 : mM (sigA n []) (fzb M bs) M' (VM.bump M bs)) (h : vOpsN Pg T N ents G ops (o :: rest) K E' M' n) : vOpsN Pg T N ents G ops (o :: rest) K E M n :=
 Rt.re E' M' ⟨bs, h1, h2, h3, h4⟩ h
end
end
section
section
variable {Pg : Program} {T : Tab} {N : Nat} {ents : List FuncId} {G : GS} {ops : Array Oper} {dst : Option Tmp} {d : Tmp} {op : Op} {ty : TypeId} {pos : String} {after : Array Edge} {g : Option (Nat × Bool)} {K : VK} {r : MV} {δ : Dl} {o : Oper} {j s k : Nat} {want t rf : Bool}
 {E : VE} {M : VM} {n : Nat} {J : List Nat → VE → VM → Prop} {L : List (Nat × Bool)} {A : List Dop} {fp : List Nat}
def NextD (Pg : Program) (T : Tab) (N : Nat) (ents : List FuncId) (G : GS) (ops : Array Oper) (L : List (Nat × Bool)) (A : List Dop) (K : VK) (k n : Nat) (rf : Bool) : List Nat → VE → VM → Prop := fun fp E M => vOpsD Pg T N ents G ops L (⟨k, n, rf, fp⟩ :: A) K E M (n + 1)
theorem d_end (ho : okDraw ops A.reverse = true) (h : K E M n) : vOpsD Pg T N ents G ops [] A K E M n := ⟨ho, h⟩
def nthO : List Oper → Nat → Option Oper
 | [], _ => none
 | o :: _, 0 => some o
 | _ :: l, k + 1 => nthO l k
theorem nthO_eq : ∀ (l : List Oper) (k : Nat), l[k]? = nthO l k
 | [], _ => by simp [nthO]
 | o :: _, 0 => rfl
 | o :: l, k + 1 => by simp [nthO, nthO_eq l k]
theorem d_step {l : List Oper} (ho : nthO l k = some o) (h : vOpD Pg T N ents G (List.toArray l) rf o (NextD Pg T N ents G (List.toArray l) L A K k n rf) E M n) : vOpsD Pg T N ents G (List.toArray l) ((k, rf) :: L) A K E M n := by
 unfold vOpsD
 have e : (List.toArray l)[k]? = some o := by rw [← ho, ← nthO_eq]; simp
 simp only [e]
 exact h
theorem d_next (h : vOpsD Pg T N ents G ops L (⟨k, n, rf, fp⟩ :: A) K E M (n + 1)) : NextD Pg T N ents G ops L A K k n rf fp E M := h
def vOpGD (Pg : Program) (T : Tab) (N : Nat) (ents : List FuncId) (G : GS) (rf : Bool) (o : Oper) (J : List Nat → VE → VM → Prop) (E : VE) (M : VM) (n : Nat) : Prop := vRunD Pg T ents G rf o E M n fun r M fp => vPut N o.dst r E fun E => J fp E M
theorem d_go (h : vOpGD Pg T N ents G rf ⟨dst, op, ty, pos, after, none⟩ J E M n) : vOpD Pg T N ents G ops rf ⟨dst, op, ty, pos, after, none⟩ J E M n := h
theorem d_guard (hs : (ops[j]?).bind (·.dst) = some s) (hv : VE.get E s = some (.bool t)) (h1 : t = want → vOpGD Pg T N ents G rf ⟨some d, op, ty, pos, after, some (j, want)⟩ J ((s, .bool want) :: E) M n) (hd : Nat.blt d N = true)
  (h2 : t = !want → J (bif rf then [] else numsO (VE.get E) op.operands.toList) ((d, .undef) :: (s, .bool (!want)) :: E) M) : vOpD Pg T N ents G ops rf ⟨some d, op, ty, pos, after, some (j, want)⟩ J E M n := by
 unfold vOpD
 simp only [hs, hv]
 refine ⟨h1, fun ht => ?_⟩
 unfold vPut
 simp only [hd]
 exact h2 ht
theorem d_guardY (hs : (ops[j]?).bind (·.dst) = some s) (hv : VE.get E s = some (.bool want)) (h : vOpGD Pg T N ents G rf ⟨dst, op, ty, pos, after, some (j, want)⟩ J ((s, .bool want) :: E) M n) : vOpD Pg T N ents G ops rf ⟨dst, op, ty, pos, after, some (j, want)⟩ J E M n := by
 unfold vOpD
 simp only [hs, hv]
 exact ⟨fun _ => h, fun ht => by cases want <;> cases ht⟩
theorem d_guardN (hs : (ops[j]?).bind (·.dst) = some s) (hv : VE.get E s = some (.bool (!want))) (hd : Nat.blt d N = true) (h : J (bif rf then [] else numsO (VE.get E) op.operands.toList) ((d, .undef) :: (s, .bool (!want)) :: E) M) : vOpD Pg T N ents G ops rf ⟨some d, op, ty, pos, after, some (j, want)⟩ J E M n :=
 d_guard hs hv (fun ht => by cases want <;> cases ht) hd (fun _ => h)
theorem d_guardU (hs : (ops[j]?).bind (·.dst) = some s) (hv : VE.get E s = some .undef) (hd : Nat.blt d N = true) (h : J (bif rf then [] else numsO (VE.get E) op.operands.toList) ((d, .undef) :: E) M) : vOpD Pg T N ents G ops rf ⟨some d, op, ty, pos, after, some (j, want)⟩ J E M n := by
 unfold vOpD
 simp only [hs, hv]
 unfold vPut
 simp only [hd]
 exact h
theorem gd_run (hv : plainO op = true) (he : ∀ R : MV × Dl → Prop, R (r, δ) → (eOp Pg T (VE.get E) (VM.get M) n ⟨dst, op, ty, pos, after, g⟩).runP R)
  (h : vPut N dst r E fun E2 => J (numsO (VE.get E) op.operands.toList) E2 (δ.app n M)) : vOpGD Pg T N ents G false ⟨dst, op, ty, pos, after, g⟩ J E M n := by
 unfold vOpGD vRunD vRun
 dsimp only
 cases op with
 | call c =>
  obtain ⟨callee, args, ats⟩ := c
  cases callee with
  | value f => cases hv
  | builtin b => exact he _ h
  | invoke r n => exact he _ h
 | _ => exact he _ h
theorem gd_val (hv : plainO op = true) (he : ∀ R : MV × Dl → Prop, R (r, .none) → (eOp Pg T (VE.get E) (VM.get M) n ⟨some d, op, ty, pos, after, g⟩).runP R) (hd : Nat.blt d N = true)
  (h : J (numsO (VE.get E) op.operands.toList) ((d, r) :: E) M) : vOpGD Pg T N ents G false ⟨some d, op, ty, pos, after, g⟩ J E M n := by
 refine gd_run hv he ?_
 unfold vPut
 simp only [hd]
 exact h
theorem gd_mem (hv : plainO op = true) (he : ∀ R : MV × Dl → Prop, R (r, δ) → (eOp Pg T (VE.get E) (VM.get M) n ⟨some d, op, ty, pos, after, g⟩).runP R) (hd : Nat.blt d N = true)
  (h : J (numsO (VE.get E) op.operands.toList) ((d, r) :: E) (δ.app n M)) : vOpGD Pg T N ents G false ⟨some d, op, ty, pos, after, g⟩ J E M n := by
 refine gd_run hv he ?_
 unfold vPut
 simp only [hd]
 exact h
theorem gd_none (hv : plainO op = true) (he : ∀ R : MV × Dl → Prop, R (r, δ) → (eOp Pg T (VE.get E) (VM.get M) n ⟨none, op, ty, pos, after, g⟩).runP R)
  (h : J (numsO (VE.get E) op.operands.toList) E (δ.app n M)) : vOpGD Pg T N ents G false ⟨none, op, ty, pos, after, g⟩ J E M n := gd_run hv he h
theorem e_val {l : List Oper} (ho : nthO l k = some ⟨some d, op, ty, pos, after, none⟩) (hb : (plainO op && Nat.blt d N) = true) (he : ∀ R : MV × Dl → Prop, R (r, .none) → (eOp Pg T (VE.get E) (VM.get M) n ⟨some d, op, ty, pos, after, none⟩).runP R)
  (h : vOpsD Pg T N ents G (List.toArray l) L (⟨k, n, false, numsO (VE.get E) op.operands.toList⟩ :: A) K ((d, r) :: E) M (n + 1)) : vOpsD Pg T N ents G (List.toArray l) ((k, false) :: L) A K E M n := by
 rw [Bool.and_eq_true] at hb
 exact d_step ho (d_go (gd_val hb.1 he hb.2 h))
theorem e_mem {l : List Oper} (ho : nthO l k = some ⟨some d, op, ty, pos, after, none⟩) (hb : (plainO op && Nat.blt d N) = true) (he : ∀ R : MV × Dl → Prop, R (r, δ) → (eOp Pg T (VE.get E) (VM.get M) n ⟨some d, op, ty, pos, after, none⟩).runP R)
  (h : vOpsD Pg T N ents G (List.toArray l) L (⟨k, n, false, numsO (VE.get E) op.operands.toList⟩ :: A) K ((d, r) :: E) (δ.app n M) (n + 1)) : vOpsD Pg T N ents G (List.toArray l) ((k, false) :: L) A K E M n := by
 rw [Bool.and_eq_true] at hb
 exact d_step ho (d_go (gd_mem hb.1 he hb.2 h))
theorem e_none {l : List Oper} (ho : nthO l k = some ⟨none, op, ty, pos, after, none⟩) (hb : plainO op = true) (he : ∀ R : MV × Dl → Prop, R (r, δ) → (eOp Pg T (VE.get E) (VM.get M) n ⟨none, op, ty, pos, after, none⟩).runP R)
  (h : vOpsD Pg T N ents G (List.toArray l) L (⟨k, n, false, numsO (VE.get E) op.operands.toList⟩ :: A) K E (δ.app n M) (n + 1)) : vOpsD Pg T N ents G (List.toArray l) ((k, false) :: L) A K E M n :=
 d_step ho (d_go (gd_none hb he h))
theorem e_valY {l : List Oper} (ho : nthO l k = some ⟨some d, op, ty, pos, after, some (j, want)⟩) (hs : ((List.toArray l)[j]?).bind (·.dst) = some s) (hv : VE.get E s = some (.bool want)) (hb : (plainO op && Nat.blt d N) = true) (he : ∀ R : MV × Dl → Prop, R (r, .none) → (eOp Pg T (VE.get ((s, .bool want) :: E)) (VM.get M) n ⟨some d, op, ty, pos, after, some (j, want)⟩).runP R)
  (h : vOpsD Pg T N ents G (List.toArray l) L (⟨k, n, false, numsO (VE.get ((s, .bool want) :: E)) op.operands.toList⟩ :: A) K ((d, r) :: (s, .bool want) :: E) M (n + 1)) : vOpsD Pg T N ents G (List.toArray l) ((k, false) :: L) A K E M n := by
 rw [Bool.and_eq_true] at hb
 exact d_step ho (d_guardY hs hv (gd_val hb.1 he hb.2 h))
section
variable {f : Operand} {args : Array Operand} {ats : Array TypeId} {f0 : FuncId} {vs : List MV} {bs : List (Nat × Nat)} {res : MV}
theorem gd_callV (hd : ∀ d, dst = some d → Nat.blt d N = true) (h1 : ∀ R : FuncId × List MV × List (Nat × Nat) → Prop, R (f0, vs, bs) → (vCall E M f args.toList).runP R) (h2 : ents.contains f0 = true) (hc : SemC Pg G f0 vs res)
  (h : J (numsO (VE.get E) (Op.call ⟨.value f, args, ats⟩).operands.toList) (match dst with | some d => (d, res) :: E | none => E) (VM.bump M bs)) : vOpGD Pg T N ents G false ⟨dst, .call ⟨.value f, args, ats⟩, ty, pos, after, g⟩ J E M n := by
 show (vCall E M f args.toList).runP _
 refine h1 _ ?_
 show (match ents.contains f0 with | true => ∃ res, SemC Pg G f0 vs res ∧ _ | false => False)
 rw [h2]
 refine ⟨res, hc, ?_⟩
 unfold vPut
 cases dst with
 | none => exact h
 | some d =>
  simp only [hd d rfl]
  exact h
theorem gd_callR (hd : ∀ d, dst = some d → Nat.blt d N = true) (h1 : ∀ R : FuncId × List MV → Prop, R (f0, vs) → (vArgs E f args.toList).runP R) (h2 : ents.contains f0 = true) (fp : List Nat) {args' : List MV} {M0 : VM} {n0 : Nat} {M1 : VM} {n1 : Nat} (hc : SemR Pg G f0 args' M0 n0 res M1 n1) (σ bs : List (Nat × Nat))
  (hm : LMatch 0 args' M0 n0 vs M σ bs) (h3 : allIn M σ = true) (h4 : okNew σ n0 n1 M1 = true) (h5 : subN (σ.map (·.2)) fp = true) (h6 : subN (bs.map (·.1)) fp = true)
  (h : J fp (match dst with | some d => (d, renV (rhoZ n σ) res) :: E | none => E) (renM (rhoZ n σ) M1 ++ delM (VM.bump M bs) σ)) : vOpGD Pg T N ents G true ⟨dst, .call ⟨.value f, args, ats⟩, ty, pos, after, g⟩ J E M n := by
 show (vArgs E f args.toList).runP _
 refine h1 _ ?_
 show (match ents.contains f0 with | true => ∃ fp, vCallZ Pg G M n f0 vs fp _ | false => False)
 rw [h2]
 refine ⟨fp, args', M0, n0, res, M1, n1, hc, σ, bs, hm, h3, h4, h5, h6, ?_⟩
 unfold vPut
 cases dst with
 | none => exact h
 | some d =>
  simp only [hd d rfl]
  exact h
theorem gd_callR1 (hd : Nat.blt d N = true) (h1 : ∀ R : FuncId × List MV → Prop, R (f0, vs) → (vArgs E f args.toList).runP R) (h2 : ents.contains f0 = true) (fp : List Nat) {args' : List MV} {M0 : VM} {n0 : Nat} {M1 : VM} {n1 : Nat} (hc : SemR Pg G f0 args' M0 n0 res M1 n1) (σ bs : List (Nat × Nat))
  (hm : LMatch 0 args' M0 n0 vs M σ bs) (h3 : allIn M σ = true) (h4 : okNew σ n0 n1 M1 = true) (h5 : subN (σ.map (·.2)) fp = true) (h6 : subN (bs.map (·.1)) fp = true)
  (h : J fp ((d, renV (rhoZ n σ) res) :: E) (renM (rhoZ n σ) M1 ++ delM (VM.bump M bs) σ)) : vOpGD Pg T N ents G true ⟨some d, .call ⟨.value f, args, ats⟩, ty, pos, after, g⟩ J E M n := gd_callR (fun d' e => by injection e with e; subst e; exact hd) h1 h2 fp hc σ bs hm h3 h4 h5 h6 h
end
end
end
section
mutual
def nfree : MV → Bool
 | .tup l => nfrees l
 | .undef => true
 | m => m.idFree
def nfrees : List MV → Bool
 | [] => true
 | m :: l => nfree m && nfrees l
end
theorem renV_free {ρ : Nat → Nat} : ∀ m : MV, m.idFree = true → renV ρ m = m
 | .st l, h => by
  have h : MV.idFrees l = true := h
  simp only [renV, h, cond_true]
 | .fn f l, h => by
  have h : MV.idFrees l = true := h
  simp only [renV, h, cond_true]
 | .ifc t v, h => by
  have h : MV.idFree v = true := h
  simp only [renV, h, cond_true]
 | .ptr .., h => by cases h
 | .ms .., h => by cases h
 | .tup .., h => by cases h
 | .undef, h => by cases h
 | .int .., _ => by simp only [renV]
 | .bool .., _ => by simp only [renV]
 | .str .., _ => by simp only [renV]
 | .nilp, _ => by simp only [renV]
 | .gp .., _ => by simp only [renV]
 | .ep .., _ => by simp only [renV]
 | .sl .., _ => by simp only [renV]
 | .nils, _ => by simp only [renV]
 | .nilf, _ => by simp only [renV]
 | .nili, _ => by simp only [renV]
 | .arr .., _ => by simp only [renV]
mutual
theorem renV_nfree {ρ : Nat → Nat} : ∀ m : MV, nfree m = true → renV ρ m = m
 | .tup l, h => by
  simp only [nfree] at h
  simp only [renV, renVs_nfree l h]
 | .undef, _ => by simp only [renV]
 | .st l, h => renV_free _ (by simpa only [nfree] using h)
 | .fn f l, h => renV_free _ (by simpa only [nfree] using h)
 | .ifc t v, h => renV_free _ (by simpa only [nfree] using h)
 | .ptr .., h => by simp only [nfree] at h; cases h
 | .ms .., h => by simp only [nfree] at h; cases h
 | .int .., _ => by simp only [renV]
 | .bool .., _ => by simp only [renV]
 | .str .., _ => by simp only [renV]
 | .nilp, _ => by simp only [renV]
 | .gp .., _ => by simp only [renV]
 | .ep .., _ => by simp only [renV]
 | .sl .., _ => by simp only [renV]
 | .nils, _ => by simp only [renV]
 | .nilf, _ => by simp only [renV]
 | .nili, _ => by simp only [renV]
 | .arr .., _ => by simp only [renV]
theorem renVs_nfree {ρ : Nat → Nat} : ∀ l : List MV, nfrees l = true → renVs ρ l = l
 | [], _ => by simp only [renVs]
 | m :: l, h => by
  simp only [nfrees, Bool.and_eq_true] at h
  simp only [renVs, renV_nfree m h.1, renVs_nfree l h.2]
end
section
variable {Pg : Program} {T : Tab} {N : Nat} {ents : List FuncId} {G : GS} {ops : Array Oper} {d : Tmp} {ty : TypeId} {pos : String} {after : Array Edge} {g : Option (Nat × Bool)} {rest : List Oper} {K : VK} {E : VE} {M : VM} {n : Nat}
 {f : Operand} {args : Array Operand} {ats : Array TypeId} {f0 : FuncId} {vs : List MV} {res : MV} {J : List Nat → VE → VM → Prop}
theorem g_call1 (hd : Nat.blt d N = true) (h1 : ∀ R : FuncId × List MV → Prop, R (f0, vs) → (vArgs E f args.toList).runP R) (h2 : ents.contains f0 = true) {args' : List MV} (hc : SemR Pg G f0 args' [] 0 res [] 0) (hf : nfree res = true) (bs : List (Nat × Nat)) (hb : okB M bs)
  (hm : relV.relVs (sigA 0 []) (fzb M bs) args' vs) (h : vOpsN Pg T N ents G ops rest K ((d, res) :: E) (VM.bump M bs) n) : vOpsG Pg T N ents G ops ⟨some d, .call ⟨.value f, args, ats⟩, ty, pos, after, g⟩ rest K E M n := by
 refine g_callR1 hd h1 h2 hc [] bs ⟨rfl, hb, rfl, hm, trivial⟩ rfl rfl ?_
 rw [renV_nfree res hf]
 exact h
theorem g_call2 (hd : Nat.blt d N = true) (h1 : ∀ R : FuncId × List MV → Prop, R (f0, vs) → (vArgs E f args.toList).runP R) (h2 : ents.contains f0 = true) {args' : List MV} (hc : SemR Pg G f0 args' [] 0 res [] 0) (hf : nfree res = true)
  (hm : relV.relVs (sigA 0 []) (fzb M []) args' vs) (h : vOpsN Pg T N ents G ops rest K ((d, res) :: E) M n) : vOpsG Pg T N ents G ops ⟨some d, .call ⟨.value f, args, ats⟩, ty, pos, after, g⟩ rest K E M n :=
 g_call1 hd h1 h2 hc hf [] trivial hm h
theorem gd_call1 (hd : Nat.blt d N = true) (h1 : ∀ R : FuncId × List MV → Prop, R (f0, vs) → (vArgs E f args.toList).runP R) (h2 : ents.contains f0 = true) (fp : List Nat) {args' : List MV} (hc : SemR Pg G f0 args' [] 0 res [] 0) (hf : nfree res = true) (bs : List (Nat × Nat)) (hb : okB M bs)
  (hm : relV.relVs (sigA 0 []) (fzb M bs) args' vs) (h6 : subN (bs.map (·.1)) fp = true) (h : J fp ((d, res) :: E) (VM.bump M bs)) : vOpGD Pg T N ents G true ⟨some d, .call ⟨.value f, args, ats⟩, ty, pos, after, g⟩ J E M n := by
 refine gd_callR1 hd h1 h2 fp hc [] bs ⟨rfl, hb, rfl, hm, trivial⟩ rfl rfl rfl h6 ?_
 rw [renV_nfree res hf]
 exact h
end
end
section
section
variable {Pg : Program} {T : Tab} {E : VE} {M : VM} {n : Nat} {dst : Option Tmp} {t ty : TypeId} {pos : String} {after : Array Edge} {g : Option (Nat × Bool)} {R : MV × Dl → Prop} {x y : Operand} {c es k fo : Nat} {path : List Nat} {b : MB} {m m' r v : MV} {d : TD}
def okLd (T : Tab) (t : TypeId) (es' es : Nat) (r : MV) : Bool := match Tab.find T t with | some d => Nat.beq es' es && fits d r | none => false
def okSt (T : Tab) (t : TypeId) (es' es : Nat) (row : Bool) (v : MV) : Bool := match Tab.find T t with | some d => Nat.beq es' es && fits d v && (!row || v.idFree) | none => false
def getP : MV → List Nat → Option MV
 | m, [] => some m
 | .st l, i :: p => match nthM l i with
  | some m => getP m p
  | none => none
 | .arr _ _ l, i :: p => match nthM l i with
  | some m => getP m p
  | none => none
 | _, _ :: _ => none
def okP : MV → List Nat → Nat → Bool
 | _, [], fo => Nat.beq fo 0
 | .st l, i :: p, fo => match nthM l i with
  | some m => Nat.ble (sizesTo l i) fo && okP m p (fo - sizesTo l i)
  | none => false
 | .arr _ es l, i :: p, fo => match nthM l i with
  | some m => Nat.ble (i * es) fo && okP m p (fo - i * es)
  | none => false
 | _, _ :: _, _ => false
theorem getPO_of : ∀ {p : List Nat} {m : MV} {fo : Nat}, okP m p fo = true → getPO m p fo = getP m p
 | [], m, fo, h => by
  have h' : Nat.beq fo 0 = true := by unfold okP at h; exact h
  unfold getPO getP
  rw [h']
  rfl
 | i :: p, m, fo, h => by
  unfold okP at h
  unfold getPO getP
  split at h
  ·exact nomatch ‹i :: p = []›
  ·rename_i heq
   injection heq with h1 h2
   subst h1 h2
   dsimp only
   split at h
   ·rename_i hn
    rw [Bool.and_eq_true] at h
    rw [hn]
    dsimp only
    rw [h.1]
    exact getPO_of h.2
   ·exact Bool.noConfusion h
  ·rename_i heq
   injection heq with h1 h2
   subst h1 h2
   dsimp only
   split at h
   ·rename_i hn
    rw [Bool.and_eq_true] at h
    rw [hn]
    dsimp only
    rw [h.1]
    exact getPO_of h.2
   ·exact Bool.noConfusion h
  ·exact Bool.noConfusion h
def setP : MV → List Nat → MV → Option MV
 | _, [], v => some v
 | .st l, i :: p, v => match nthM l i with
  | some m => (match setP m p v with | some m' => some (.st (setL l i m')) | none => none)
  | none => none
 | .arr n es l, i :: p, v => match nthM l i with
  | some m => (match setP m p v with | some m' => some (.arr n es (setL l i m')) | none => none)
  | none => none
 | _, _ :: _, _ => none
def okSto : MV → List Nat → Nat → MV → Bool
 | m, [], fo, v => (Nat.beq fo 0 && Nat.beq v.size m.size) && bEq v.isAgg m.isAgg
 | .st l, i :: p, fo, v => match nthM l i with
  | some m => Nat.ble (sizesTo l i) fo && okSto m p (fo - sizesTo l i) v
  | none => false
 | .arr _ es l, i :: p, fo, v => match nthM l i with
  | some m => (Nat.ble (i * es) fo && v.idFree) && okSto m p (fo - i * es) v
  | none => false
 | _, _ :: _, _, _ => false
theorem setPO_of : ∀ {p : List Nat} {m : MV} {fo : Nat} {v : MV}, okSto m p fo v = true → setPO m p fo v = setP m p v
 | [], m, fo, v, h => by
  have h' : ((Nat.beq fo 0 && Nat.beq v.size m.size) && bEq v.isAgg m.isAgg) = true := by unfold okSto at h; exact h
  rw [Bool.and_eq_true] at h'
  unfold setPO setP
  rw [h'.1]
  have h2 := h'.2
  generalize v.isAgg = a at *
  generalize m.isAgg = b at *
  cases a <;> cases b <;> first | rfl | exact Bool.noConfusion h2
 | i :: p, m, fo, v, h => by
  unfold okSto at h
  unfold setPO setP
  split at h
  ·exact nomatch ‹i :: p = []›
  ·rename_i heq
   injection heq with h1 h2
   subst h1 h2
   dsimp only
   split at h
   ·rename_i hn
    rw [Bool.and_eq_true] at h
    rw [hn]
    dsimp only
    rw [h.1, setPO_of h.2]
    rfl
   ·exact Bool.noConfusion h
  ·rename_i heq
   injection heq with h1 h2
   subst h1 h2
   dsimp only
   split at h
   ·rename_i hn
    rw [Bool.and_eq_true] at h
    rw [hn]
    dsimp only
    rw [h.1, setPO_of h.2]
    rfl
   ·exact Bool.noConfusion h
  ·exact Bool.noConfusion h
theorem he_load (hp : evM (VE.get E) x = some (.ptr c es k fo path)) (hc : VM.get M c = some b) (hm : nthM b.l k = some m) (hr : getPO m path fo = some r) (hk : okLd T t b.es es r = true) (hR : R (r, .none)) : (eOp Pg T (VE.get E) (VM.get M) n ⟨dst, .load t x, ty, pos, after, g⟩).runP R := by
 show (rd (VE.get E) x fun p => oLoad T (VM.get M) t p).runP R
 unfold rd
 rw [hp]
 unfold okLd at hk
 show (oLoad T (VM.get M) t (.ptr c es k fo path)).runP R
 unfold oLoad
 cases ht : Tab.find T t with
 | none => rw [ht] at hk; exact Bool.noConfusion hk
 | some d =>
  rw [ht] at hk
  simp only [Bool.and_eq_true] at hk
  simp only [hc, hk.1, cond_true]
  refine ⟨m, hm, r, hr, ?_⟩
  simp only [hk.2, cond_true]
  exact hR
theorem he_store (hp : evM (VE.get E) x = some (.ptr c es k fo path)) (hy : evM (VE.get E) y = some v) (hc : VM.get M c = some b) (hpe : b.pe ≤ k) (hm : nthM b.l k = some m) (hs : setPO m path fo v = some m') (hk : okSt T t b.es es b.row v = true) (hR : R (.undef, .upd c (setL b.l k m'))) : (eOp Pg T (VE.get E) (VM.get M) n ⟨dst, .store t x y, ty, pos, after, g⟩).runP R := by
 show (rd (VE.get E) x fun p => rd (VE.get E) y fun v => oStore T (VM.get M) t p v).runP R
 unfold rd
 rw [hp]
 dsimp only
 rw [hy]
 unfold okSt at hk
 show (oStore T (VM.get M) t (.ptr c es k fo path) v).runP R
 unfold oStore
 cases ht : Tab.find T t with
 | none => rw [ht] at hk; exact Bool.noConfusion hk
 | some d =>
  rw [ht] at hk
  simp only [hc]
  have hk' : (Nat.beq b.es es && fits d v && (!b.row || v.idFree)) = true := hk
  rw [hk']
  exact ⟨hpe, m, hm, m', hs, _, rfl, hR⟩
theorem he_box (hx : evM (VE.get E) x = some v) (ht : Tab.find T t = some d) (hk : fits d v = true) (hR : R (.ptr n d.size 0 0 [], .new ⟨t, d.size, false, 0, [v]⟩)) : (eOp Pg T (VE.get E) (VM.get M) n ⟨dst, .box t x, ty, pos, after, g⟩).runP R := by
 show (rd (VE.get E) x fun v => oBox T n t v).runP R
 unfold rd
 rw [hx]
 show (oBox T n t v).runP R
 unfold oBox
 rw [ht]
 simp only [hk, cond_true]
 exact hR
theorem he_alloc (ht : Tab.find T t = some d) (hz : zeroM T 9 t = some v) (hk : fits d v = true) (hR : R (.ptr n d.size 0 0 [], .new ⟨t, d.size, false, 0, [v]⟩)) : (eOp Pg T (VE.get E) (VM.get M) n ⟨dst, .alloc t, ty, pos, after, g⟩).runP R := by
 show (oAlloc T n t).runP R
 unfold oAlloc
 rw [ht, hz]
 simp only [hk, cond_true]
 exact hR
theorem he_loadP (hp : evM (VE.get E) x = some (.ptr c es k fo path)) (hc : VM.get M c = some b) (hm : nthM b.l k = some m) (hr : getP m path = some r) (hk : (okLd T t b.es es r && okP m path fo) = true) (hR : R (r, .none)) : (eOp Pg T (VE.get E) (VM.get M) n ⟨dst, .load t x, ty, pos, after, g⟩).runP R := by
 rw [Bool.and_eq_true] at hk
 exact he_load hp hc hm ((getPO_of hk.2).trans hr) hk.1 hR
theorem he_storeP (hp : evM (VE.get E) x = some (.ptr c es k fo path)) (hy : evM (VE.get E) y = some v) (hc : VM.get M c = some b) (hpe : b.pe ≤ k) (hm : nthM b.l k = some m) (hs : setP m path v = some m') (hk : (okSt T t b.es es b.row v && okSto m path fo v) = true) (hR : R (.undef, .upd c (setL b.l k m'))) : (eOp Pg T (VE.get E) (VM.get M) n ⟨dst, .store t x y, ty, pos, after, g⟩).runP R := by
 rw [Bool.and_eq_true] at hk
 exact he_store hp hy hc hpe hm ((setPO_of hk.2).trans hs) hk.1 hR
variable {N : Nat} {ents : List FuncId} {G : GS} {ops : Array Oper} {rest : List Oper} {K : VK} {dd : Tmp}
theorem n_load (hp : evM (VE.get E) x = some (.ptr c es k fo path)) (hc : VM.get M c = some b) (hm : nthM b.l k = some m) (hr : getP m path = some r) (hk : ((okO T N E ⟨some dd, .load t x, ty, pos, after, none⟩ && okLd T t b.es es r) && okP m path fo) = true) (h : vOpsN Pg T N ents G ops rest K ((dd, r) :: E) M (n + 1)) : vOpsN Pg T N ents G ops (⟨some dd, .load t x, ty, pos, after, none⟩ :: rest) K E M n := by
 rw [Bool.and_eq_true, Bool.and_eq_true] at hk
 exact n_val hk.1.1 (fun R hR => he_load hp hc hm ((getPO_of hk.2).trans hr) hk.1.2 hR) h
theorem n_store (hp : evM (VE.get E) x = some (.ptr c es k fo path)) (hy : evM (VE.get E) y = some v) (hc : VM.get M c = some b) (hpe : b.pe ≤ k) (hm : nthM b.l k = some m) (hs : setP m path v = some m') (hk : ((okO T N E ⟨none, .store t x y, ty, pos, after, none⟩ && okSt T t b.es es b.row v) && okSto m path fo v) = true) (h : vOpsN Pg T N ents G ops rest K E (Dl.app n (.upd c (setL b.l k m')) M) (n + 1)) : vOpsN Pg T N ents G ops (⟨none, .store t x y, ty, pos, after, none⟩ :: rest) K E M n := by
 rw [Bool.and_eq_true, Bool.and_eq_true] at hk
 exact n_none hk.1.1 (fun R hR => he_store hp hy hc hpe hm ((setPO_of hk.2).trans hs) hk.1.2 hR) h
theorem n_box (hx : evM (VE.get E) x = some v) (ht : Tab.find T t = some d) (hk : (okO T N E ⟨some dd, .box t x, ty, pos, after, none⟩ && fits d v) = true) (h : vOpsN Pg T N ents G ops rest K ((dd, .ptr n d.size 0 0 []) :: E) (Dl.app n (.new ⟨t, d.size, false, 0, [v]⟩) M) (n + 1)) : vOpsN Pg T N ents G ops (⟨some dd, .box t x, ty, pos, after, none⟩ :: rest) K E M n := by
 rw [Bool.and_eq_true] at hk
 exact n_mem hk.1 (fun R hR => he_box hx ht hk.2 hR) h
theorem n_alloc (ht : Tab.find T t = some d) (hz : zeroM T 9 t = some v) (hk : (okO T N E ⟨some dd, .alloc t, ty, pos, after, none⟩ && fits d v) = true) (h : vOpsN Pg T N ents G ops rest K ((dd, .ptr n d.size 0 0 []) :: E) (Dl.app n (.new ⟨t, d.size, false, 0, [v]⟩) M) (n + 1)) : vOpsN Pg T N ents G ops (⟨some dd, .alloc t, ty, pos, after, none⟩ :: rest) K E M n := by
 rw [Bool.and_eq_true] at hk
 exact n_mem hk.1 (fun R hR => he_alloc ht hz hk.2 hR) h
end
section
mutual
def clnV : MV → Bool
 | .int _ _ => true
 | .bool _ => true
 | .str _ => true
 | .nilp => true
 | .arr .. => true
 | .sl .. => true
 | .st l => clnVs l
 | _ => false
def clnVs : List MV → Bool
 | [] => true
 | m :: l => bif clnV m then clnVs l else false
end
mutual
theorem frz_cln {M : FM} : ∀ {v : MV} {K : MV × List (Nat × Nat) → Prop}, clnV v = true → K (v, []) → (frz M v).runP K
 | .int _ _, _, _, h => h
 | .bool _, _, _, h => h
 | .str _, _, _, h => h
 | .nilp, _, _, h => h
 | .nilf, _, hc, _ => Bool.noConfusion hc
 | .nili, _, hc, _ => Bool.noConfusion hc
 | .arr .., _, _, h => h
 | .sl .., _, _, h => h
 | .st l, _, hc, h => frzs_cln (v := l) hc h
 | .nils, _, hc, _ => Bool.noConfusion hc
 | .ptr .., _, hc, _ => Bool.noConfusion hc
 | .gp .., _, hc, _ => Bool.noConfusion hc
 | .ep .., _, hc, _ => Bool.noConfusion hc
 | .ms .., _, hc, _ => Bool.noConfusion hc
 | .fn .., _, hc, _ => Bool.noConfusion hc
 | .ifc .., _, hc, _ => Bool.noConfusion hc
 | .tup _, _, hc, _ => Bool.noConfusion hc
 | .undef, _, hc, _ => Bool.noConfusion hc
theorem frzs_cln {M : FM} : ∀ {v : List MV} {K : List MV × List (Nat × Nat) → Prop}, clnVs v = true → K (v, []) → (frzs M v).runP K
 | [], _, _, h => h
 | m :: l, _, hc, h => by
  unfold clnVs at hc
  cases hm : clnV m with
  | false => rw [hm] at hc; exact Bool.noConfusion hc
  | true =>
   rw [hm] at hc
   exact frz_cln hm (frzs_cln hc h)
end
theorem oLoad_mono {T : Tab} {M : FM} {ty : TypeId} {p : MV} {K K' : MV × Dl → Prop} (hk : ∀ x, K x → K' x) (h : (oLoad T M ty p).runP K) : (oLoad T M ty p).runP K' := by
 unfold oLoad at h ⊢
 split at h
 ·exact h
 ·split at h
  ·split at h
   ·rename_i b _
    cases hb : Nat.beq b.es _ with
    | false => rw [hb] at h; exact h
    | true =>
     rw [hb] at h
     obtain ⟨m, hm, r, hr, h⟩ := h
     refine ⟨m, hm, r, hr, ?_⟩
     dsimp only at h ⊢
     generalize fits _ r = q at *
     cases q
     ·exact h
     ·exact hk _ h
   ·exact h
  ·obtain ⟨r, hr, h⟩ := h
   refine ⟨r, hr, ?_⟩
   dsimp only at h ⊢
   generalize fits _ r = q at *
   cases q
   ·exact h
   ·exact hk _ h
  ·exact h
theorem vRets_mono {T : Tab} {M : VM} {E : VE} : ∀ {rs : List ResultVar} {K K' : List MV → Prop}, (∀ v, K v → K' v) → vRets T M E rs K → vRets T M E rs K'
 | [], _, _, hk, h => hk _ h
 | .tmp t :: l, K, K', hk, h => by
  unfold vRets at h ⊢
  split at h
  ·exact vRets_mono (fun v hv => hk _ hv) h
  ·exact h
 | .cell p ty :: l, K, K', hk, h => by
  unfold vRets at h ⊢
  split at h
  ·exact oLoad_mono (fun x hx => vRets_mono (fun v hv => hk _ hv) hx) h
  ·exact h
theorem ret_c {T : Tab} {rs : List ResultVar} {res : MV} {M : VM} {E : VE} {n : Nat} (vs : List MV) (hR : tupM vs = res) (hc : clnVs vs = true) (h1 : vRets T M E rs (fun v => v = vs)) : vRetQ T rs (fun r => r = res) .ret E M n :=
 vRets_mono (fun v hv => by subst hv; exact frzs_cln hc hR) h1
end
end
section
def tab : Tab := [(1, .fn), (2, .int .i64), (3, .int .i64), (4, .bool), (5, .int .u8), (6, .int .u8), (7, .struct [(0, 2), (1, 3), (2, 4), (3, 6)] 4), (8, .struct [(0, 2), (1, 3), (2, 4), (3, 6)] 4), (9, .str), (10, .str), (11, .str), (12, .int .u64), (13, .struct [(0, 9), (1, 12)] 2), (14, .struct [(0, 9), (1, 12)] 2), (15, .ptr), (16, .ptr), (17, .ptr), (18, .struct [(0, 17)] 1), (19, .struct [(0, 17)] 1), (20, .iface), (21, .int .i32), (22, .slice 3 1), (23, .slice 64 1), (24, .arr 32 5 1), (25, .arr 32 5 1), (26, .struct [(0, 3), (1, 3), (2, 3), (3, 25), (35, 25), (67, 25), (99, 25)] 131), (27, .struct [(0, 3), (1, 3), (2, 3), (3, 25), (35, 25), (67, 25), (99, 25)] 131), (28, .struct [(0, 27), (131, 23)] 132), (29, .struct [(0, 27), (131, 23)] 132), (30, .fn), (31, .fn), (32, .struct [(0, 3), (1, 3), (2, 25), (34, 25), (66, 25)] 98), (33, .struct [(0, 3), (1, 3), (2, 25), (34, 25), (66, 25)] 98), (34, .slice 29 132), (35, .int .u64), (36, .struct [(0, 3), (1, 3), (2, 3), (3, 3), (4, 3), (5, 3), (6, 4), (7, 3), (8, 3), (9, 35), (10, 3), (11, 3)] 12), (37, .struct [(0, 3), (1, 3), (2, 3), (3, 3), (4, 3), (5, 3), (6, 4), (7, 3), (8, 3), (9, 35), (10, 3), (11, 3)] 12), (38, .slice 74 3), (39, .struct [(0, 38), (1, 35)] 2), (40, .struct [(0, 38), (1, 35)] 2), (41, .struct [(0, 40), (2, 40), (4, 40), (6, 4), (7, 35)] 8), (42, .struct [(0, 40), (2, 40), (4, 40), (6, 4), (7, 35)] 8), (43, .slice 144 41), (44, .slice 25 32), (45, .struct [(0, 37), (12, 42), (20, 3), (21, 3), (22, 3), (23, 43), (24, 44)] 25), (46, .struct [(0, 37), (12, 42), (20, 3), (21, 3), (22, 3), (23, 43), (24, 44)] 25), (47, .ptr), (49, .fn), (50, .fn), (51, .slice 76 5), (53, .fn), (54, .slice 23 1), (55, .fn), (56, .fn), (57, .fn), (58, .fn), (59, .fn), (60, .fn), (61, .fn), (62, .ptr), (63, .fn), (64, .slice 5 1), (65, .arr 2 3 1), (66, .slice 65 2), (67, .int .i64), (68, .fn), (69, .fn), (70, .fn), (71, .fn), (72, .slice 22 1), (73, .struct [(0, 9), (1, 35), (2, 35)] 3), (74, .struct [(0, 9), (1, 35), (2, 35)] 3), (75, .struct [(0, 67), (1, 9), (2, 35), (3, 35), (4, 35)] 5), (76, .struct [(0, 67), (1, 9), (2, 35), (3, 35), (4, 35)] 5), (77, .fn), (78, .fn), (79, .slice 44 1), (80, .struct [(0, 46), (25, 33), (123, 34), (124, 79), (125, 4), (126, 29), (258, 64)] 259), (81, .struct [(0, 46), (25, 33), (123, 34), (124, 79), (125, 4), (126, 29), (258, 64)] 259), (82, .slice 104 5), (84, .fn), (85, .fn), (86, .fn), (88, .fn), (89, .fn), (90, .fn), (91, .fn), (92, .fn), (93, .fn), (94, .struct [(0, 22), (1, 3)] 2), (95, .struct [(0, 22), (1, 3)] 2), (96, .fn), (97, .fn), (98, .fn), (99, .fn), (100, .fn), (102, .fn), (103, .struct [(0, 3), (1, 3), (2, 3), (3, 3), (4, 64)] 5), (104, .struct [(0, 3), (1, 3), (2, 3), (3, 3), (4, 64)] 5), (105, .fn), (106, .struct [(0, 67), (1, 25), (33, 35), (34, 44), (35, 44), (36, 44), (37, 44), (38, 44), (39, 23), (40, 3), (41, 25)] 73), (107, .struct [(0, 67), (1, 25), (33, 35), (34, 44), (35, 44), (36, 44), (37, 44), (38, 44), (39, 23), (40, 3), (41, 25)] 73), (109, .fn), (111, .fn), (112, .slice 159 2), (113, .struct [(0, 9), (1, 35), (2, 35), (3, 35), (4, 9), (5, 112)] 6), (114, .struct [(0, 9), (1, 35), (2, 35), (3, 35), (4, 9), (5, 112)] 6), (115, .fn), (116, .fn), (118, .fn), (119, .fn), (120, .fn), (122, .fn), (123, .fn), (124, .fn), (125, .fn), (126, .fn), (127, .struct [(0, 3), (1, 3), (2, 35), (3, 64)] 4), (128, .struct [(0, 3), (1, 3), (2, 35), (3, 64)] 4), (129, .ptr), (130, .fn), (131, .fn), (132, .fn), (133, .fn), (134, .fn), (135, .slice 128 4), (136, .int .u32), (137, .arr 8 136 1), (138, .fn), (139, .slice 9 1), (140, .slice 35 1), (142, .fn), (143, .struct [(0, 25), (32, 64), (33, 9), (34, 35), (35, 35), (36, 35), (37, 3), (38, 3), (39, 3), (40, 22)] 41), (144, .struct [(0, 25), (32, 64), (33, 9), (34, 35), (35, 35), (36, 35), (37, 3), (38, 3), (39, 3), (40, 22)] 41), (145, .fn), (147, .fn), (148, .fn), (149, .fn), (150, .fn), (152, .fn), (153, .fn), (154, .fn), (155, .fn), (156, .fn), (157, .fn), (158, .struct [(0, 9), (1, 35)] 2), (159, .struct [(0, 9), (1, 35)] 2), (160, .fn), (161, .fn), (163, .fn), (165, .fn), (167, .fn), (168, .fn), (169, .fn), (170, .fn), (171, .fn), (172, .fn), (173, .fn), (174, .arr 8 136 1), (175, .fn), (176, .struct [(0, 174), (8, 64), (9, 3)] 10), (177, .struct [(0, 174), (8, 64), (9, 3)] 10), (178, .fn), (179, .int .u64), (180, .fn), (181, .fn), (182, .fn), (183, .arr 64 136 1), (184, .fn), (185, .fn), (186, .arr 3 3 1), (187, .fn), (188, .arr 4 25 32), (189, .fn), (190, .fn), (192, .fn), (193, .fn), (194, .fn), (195, .fn), (196, .fn), (197, .fn), (198, .fn), (199, .fn), (201, .fn), (203, .fn), (204, .fn), (205, .fn), (207, .fn), (208, .fn), (209, .fn), (210, .fn), (212, .fn), (213, .fn), (214, .fn), (215, .fn), (216, .fn), (217, .fn), (218, .fn), (220, .fn), (221, .fn), (222, .fn), (224, .fn), (226, .fn), (227, .fn), (229, .fn), (230, .fn), (231, .fn), (232, .ptr), (233, .fn), (234, .fn), (235, .fn), (237, .fn), (238, .fn), (239, .fn), (240, .fn), (241, .fn), (242, .fn), (243, .fn), (244, .fn), (245, .struct [(0, 3), (1, 35), (2, 4)] 3), (246, .struct [(0, 3), (1, 35), (2, 4)] 3), (248, .fn), (249, .fn), (251, .fn), (252, .fn), (254, .fn), (256, .fn), (258, .fn), (260, .fn), (261, .fn), (262, .fn), (263, .fn), (264, .fn), (265, .fn), (266, .struct [(0, 17), (1, 17), (2, 17), (3, 9)] 4), (267, .struct [(0, 17), (1, 17), (2, 17), (3, 9)] 4), (271, .fn), (272, .int .u8), (273, .int .u8), (274, .fn), (275, .ptr), (276, .int .i32), (277, .int .i32), (278, .struct [(0, 12), (1, 12), (2, 136), (3, 272), (4, 5), (5, 5), (6, 273), (7, 274), (8, 275), (9, 276), (10, 277)] 11), (279, .struct [(0, 12), (1, 12), (2, 136), (3, 272), (4, 5), (5, 5), (6, 273), (7, 274), (8, 275), (9, 276), (10, 277)] 11), (280, .ptr)]
def ents : List FuncId := [2, 3, 4, 5, 6, 7, 8, 9, 10, 11, 12, 13, 14, 15, 16, 17, 18, 19, 20, 21, 22, 23, 24, 25, 26, 27, 28, 29, 30, 31, 32, 33, 34, 35, 36, 37, 38, 39, 40, 41, 42, 43, 44, 45, 46, 47, 48, 49, 50, 51, 52, 53, 54, 55, 56, 57, 58, 59, 60, 61, 62, 63, 64, 65, 66, 67, 68, 69, 70, 71, 72, 73, 74, 75, 76, 77, 78, 79, 80, 81, 82, 83, 84, 85, 86, 87, 88, 89, 90, 91, 92, 93, 94, 95, 96, 97, 98, 99, 100, 101, 102, 103, 104, 105, 106, 107, 108, 109, 110, 111, 112, 113, 114, 115, 116, 117, 118, 119, 120, 121, 122, 123, 124, 125, 126, 127, 128, 129, 130, 131, 132, 133, 134, 135, 136, 137, 138, 139, 140, 141, 142, 143, 144, 145, 146, 147, 148, 149, 150, 151, 152, 153, 154, 155, 156, 157, 158, 159, 160, 161, 162, 163, 164, 165, 166, 167, 168, 169, 170, 171, 172, 173, 174, 175, 176, 177, 178, 179, 180, 181, 182]
def entB (P : Program) (f : FuncId) : Bool := match P.funcs[f]? with | some fn => fn.body.isSome && !(fn.name == "runtime.NumGoroutine") | none => false
theorem enters_of_entB {P : Program} {f : FuncId} (h : entB P f = true) (args : Array Value) (w : World) : (callFunc f args).run P w = .ok (.enter f args) w := by
 unfold entB at h
 split at h
 ·rename_i fn hf
  simp only [Bool.and_eq_true, Bool.not_eq_true'] at h
  obtain ⟨h1, h2⟩ := h
  obtain ⟨c, hc⟩ := Option.isSome_iff_exists.1 h1
  exact enters_of hf h2 hc args w
 ·cases h
theorem seat : Seat Tryz.prog tab ents := ⟨⟨by kernel_rfl⟩, fun f hf => enters_of_entB (List.all_eq_true.1 (show ents.all (entB Tryz.prog) = true by kernel_rfl) f hf), by kernel_rfl⟩
end
section
theorem sv {α : Type} {a b : α} (h : a = b) : some a = some b := congrArg some h
theorem VMatch.of {n0 : Nat} {E' : VE} {M' : VM} {n' : Nat} {E : VE} {M : VM} (σ bs : List (Nat × Nat)) (h1 : mE (sigA n0 σ) (fzb M bs) E' E) (h2 : mM (sigA n0 σ) (fzb M bs) M' (VM.bump M bs)) (h3 : okSg n0 n' σ = true) (h4 : okB M bs) (h5 : M'.all (fun x => Nat.blt x.1 n') = true) : VMatch n0 E' M' n' E M := ⟨σ, bs, h3, h4, h5, h1, h2⟩
theorem emod_of (x n : Int) (hn : 0 < n) : (if x.tmod n < 0 then x.tmod n + n else x.tmod n) = x % n := by
 rw [Int.tmod_eq_emod]
 have h1 := Int.emod_nonneg x (show n ≠ 0 by omega)
 have h2 := Int.emod_lt_of_pos x hn
 have e : (n.natAbs : Int) = n := by omega
 split <;> split at * <;> omega
theorem index_at {l : List MV} {n k : Nat} {x : MV} (hk : k < n) (hx : l[k]? = some x) : idxL l n (k : Int) = some x := by
 unfold idxL
 rw [if_pos (by omega)]
 simpa using hx
theorem idx_at {n k : Nat} (hk : k < n) : idx n (k : Int) = some k := by
 unfold idx
 rw [if_pos (by omega)]
 simp
theorem cut_all {α : Type} (f : α → MV) (l : List α) : cutL (l.map f) 0 (0 + l.length) = l.map f := by simp [cutL, List.take_of_length_le]
theorem app_ok {n m k : Nat} (hb : Nat.ble k 4096 = true) (h : n + m ≤ 2000000000) : (n + m) * k ≤ 140737488355328 ∧ n + m ≤ maxLen := by
 have hb := Nat.le_of_ble_eq_true hb
 have := Nat.mul_le_mul h hb
 have e : maxLen = 9223372036854775807 := rfl
 omega
theorem app_ok1 {m k : Nat} (hb : Nat.ble k 4096 = true) (h : m ≤ 2000000000) : m * k ≤ 140737488355328 ∧ m ≤ maxLen := by
 have := app_ok (n := 0) (m := m) hb (by omega)
 rw [Nat.zero_add] at this
 exact this
def intsM (l : List Int) : MV := .sl l.length (l.map (.int .i64))
theorem intsM_at {l : List Int} {k : Nat} (hk : k < l.length) : idxL (l.map (MV.int .i64)) l.length (k : Int) = some (.int .i64 l[k]) := index_at hk (by simp [hk])
end
section
variable {R : MV × Dl → Prop}
theorem eqs_i {x : Int} (h : R (.bool true, .none)) : R (.bool (x == x), .none) := by rw [beq_self_eq_true]; exact h
theorem nes_i {x : Int} (h : R (.bool false, .none)) : R (.bool (x != x), .none) := by rw [bne_self_eq_false]; exact h
theorem eqs_s {x : List UInt8} (h : R (.bool true, .none)) : R (.bool (x == x), .none) := by rw [beq_self_eq_true]; exact h
theorem nes_s {x : List UInt8} (h : R (.bool false, .none)) : R (.bool (!(x == x)), .none) := by rw [beq_self_eq_true]; exact h
theorem bytesM_u8 : ∀ l : List UInt8, bytesM (u8s l) = some l
 | [] => rfl
 | a :: l => by
  show (if 0 ≤ (a.toNat : Int) ∧ (a.toNat : Int) < 256 then (match bytesM (u8s l) with | some r => some (UInt8.ofNat (Int.toNat (a.toNat : Int)) :: r) | none => none) else none) = _
  have := a.toNat_lt
  rw [if_pos (by omega), bytesM_u8 l]
  simp
end
section
theorem w32 (n : Int) : IntKind.u32.wrap n = n % 4294967296 := by
 simp only [IntKind.wrap, IntKind.bits, IntKind.signed]; simp
theorem w8 (n : Int) : IntKind.u8.wrap n = n % 256 := by
 simp only [IntKind.wrap, IntKind.bits, IntKind.signed]; simp
theorem wu64 (n : Int) : IntKind.u64.wrap n = n % 18446744073709551616 := by
 simp only [IntKind.wrap, IntKind.bits, IntKind.signed]; simp
abbrev u32M (x : UInt32) : MV := .int .u32 x.toNat
abbrev u8M (x : UInt8) : MV := .int .u8 x.toNat
theorem bv_of (n m : Nat) (h : m < 2 ^ n) : (BitVec.ofInt n (m : Int)).toNat = m := by
 rw [BitVec.toNat_ofInt]
 have e : ((2 ^ n : Nat) : Int) = (2 : Int) ^ n := by simp
 have : ((m : Int) % ((2 ^ n : Nat) : Int)).toNat = m := by
  rw [← Int.natCast_emod, Int.toNat_natCast, Nat.mod_eq_of_lt h]
 exact this
theorem t32 (x : UInt32) : x.toNat < 4294967296 := x.toNat_lt
theorem t8 (x : UInt8) : x.toNat < 256 := x.toNat_lt
theorem add32 (x y : UInt32) : IntKind.u32.wrap ((x.toNat : Int) + (y.toNat : Int)) = ((x + y).toNat : Int) := by
 rw [w32, UInt32.toNat_add]; omega
theorem and32 (x y : UInt32) : IntKind.u32.wrap ((BitVec.ofInt IntKind.u32.bits (x.toNat : Int) &&& BitVec.ofInt IntKind.u32.bits (y.toNat : Int)).toNat : Int) = ((x &&& y).toNat : Int) := by
 have h := t32 (x &&& y)
 rw [BitVec.toNat_and, bv_of _ _ (t32 x), bv_of _ _ (t32 y), ← UInt32.toNat_and, w32]; omega
theorem or32 (x y : UInt32) : IntKind.u32.wrap ((BitVec.ofInt IntKind.u32.bits (x.toNat : Int) ||| BitVec.ofInt IntKind.u32.bits (y.toNat : Int)).toNat : Int) = ((x ||| y).toNat : Int) := by
 have h := t32 (x ||| y)
 rw [BitVec.toNat_or, bv_of _ _ (t32 x), bv_of _ _ (t32 y), ← UInt32.toNat_or, w32]; omega
theorem xor32 (x y : UInt32) : IntKind.u32.wrap ((BitVec.ofInt IntKind.u32.bits (x.toNat : Int) ^^^ BitVec.ofInt IntKind.u32.bits (y.toNat : Int)).toNat : Int) = ((x ^^^ y).toNat : Int) := by
 have h := t32 (x ^^^ y)
 rw [BitVec.toNat_xor, bv_of _ _ (t32 x), bv_of _ _ (t32 y), ← UInt32.toNat_xor, w32]; omega
theorem not32 (y : UInt32) : IntKind.u32.wrap ((BitVec.ofInt IntKind.u32.bits (if IntKind.u32.signed then -1 else IntKind.u32.max) ^^^ BitVec.ofInt IntKind.u32.bits (y.toNat : Int)).toNat : Int) = ((~~~y).toNat : Int) := by
 have e : (if IntKind.u32.signed then (-1 : Int) else IntKind.u32.max) = (((-1 : UInt32)).toNat : Int) := by rfl
 rw [e, xor32]
 have h : (-1 : UInt32) ^^^ y = ~~~y := by
  apply UInt32.toBitVec_inj.1
  rw [UInt32.toBitVec_xor, UInt32.toBitVec_not]
  exact BitVec.allOnes_xor
 rw [h]
theorem shl32 (x : UInt32) (k : Nat) (hk : k < 32) : IntKind.u32.wrap ((x.toNat : Int) * 2 ^ (min (k : Int).toNat IntKind.u32.bits)) = ((x <<< UInt32.ofNat k).toNat : Int) := by
 have e : min (k : Int).toNat IntKind.u32.bits = k := by simp [IntKind.bits]; omega
 rw [e, w32, UInt32.toNat_shiftLeft, UInt32.toNat_ofNat', Nat.mod_eq_of_lt (show k < 2 ^ 32 by omega), Nat.mod_eq_of_lt hk, Nat.shiftLeft_eq]
 rw [show (x.toNat : Int) * 2 ^ k = ((x.toNat * 2 ^ k : Nat) : Int) by rw [Int.natCast_mul, Int.natCast_pow]; rfl]
 exact (Int.natCast_emod (x.toNat * 2 ^ k) 4294967296).symm
theorem shr32 (x : UInt32) (k : Nat) (hk : k < 32) : ((x.toNat : Int).fdiv (2 ^ (min (k : Int).toNat IntKind.u32.bits))) = ((x >>> UInt32.ofNat k).toNat : Int) := by
 have e : min (k : Int).toNat IntKind.u32.bits = k := by simp [IntKind.bits]; omega
 rw [e, UInt32.toNat_shiftRight, UInt32.toNat_ofNat', Nat.mod_eq_of_lt (show k < 2 ^ 32 by omega), Nat.mod_eq_of_lt hk, Nat.shiftRight_eq_div_pow, Int.fdiv_eq_ediv_of_nonneg _ (Int.le_of_lt (Int.pow_pos (by omega)))]
 rw [Int.natCast_ediv, Int.natCast_pow]; rfl
theorem shlI (x : UInt32) (j : Int) (h0 : 0 ≤ j) (h1 : j < 32) : IntKind.u32.wrap ((x.toNat : Int) * 2 ^ (min j.toNat IntKind.u32.bits)) = ((x <<< UInt32.ofNat j.toNat).toNat : Int) := by
 have := shl32 x j.toNat (by omega)
 rwa [Int.toNat_of_nonneg h0] at this
theorem shrI (x : UInt32) (j : Int) (h0 : 0 ≤ j) (h1 : j < 32) : ((x.toNat : Int).fdiv (2 ^ (min j.toNat IntKind.u32.bits))) = ((x >>> UInt32.ofNat j.toNat).toNat : Int) := by
 have := shr32 x j.toNat (by omega)
 rwa [Int.toNat_of_nonneg h0] at this
theorem conv832 (x : UInt8) : IntKind.u32.wrap (x.toNat : Int) = ((x.toUInt32).toNat : Int) := by
 have := t8 x
 rw [w32, UInt8.toNat_toUInt32]; omega
theorem conv328 (x : UInt32) : IntKind.u8.wrap (x.toNat : Int) = ((x.toUInt8).toNat : Int) := by
 rw [w8, UInt32.toNat_toUInt8]; omega
end
section
structure Box (q : Prop) : Prop where
 out : q
structure EqF {α : Type} (a b : α) : Prop where
 out : a = b
structure SomF {α : Type} (a : Option α) (b : α) : Prop where
 out' : a = some b
theorem SomF.out {α : Type} {a : Option α} {b : α} (h : SomF a b) : a = some b := h.out'
structure SideF (p : Prop) : Prop where
 out : p
theorem pf {p : Prop} (h : p := by first | rfl | omega | (simp [u8s, cutL, setL, repM, List.replicate_succ', List.range_succ]; done) | (simp [u8s, cutL, setL, repM]; omega)) : p := h
theorem rv {p : Prop} (h : p := by (first | exact ⟨rfl, rfl⟩ | exact .inr ⟨rfl, rfl⟩ | exact .inr ⟨rfl, rfl, rfl, Nat.le_refl _, rfl⟩ | exact .inl rfl | exact .inl ⟨rfl, rfl⟩ | exact ⟨_, rfl, rfl⟩ | exact .inr ⟨_, rfl, rfl⟩ | exact .inl ⟨rfl, rfl, rfl⟩ | exact ⟨congrArg (MV.int _) (by omega), rfl⟩ | exact .inr ⟨rfl, rfl, rfl, Nat.le_of_eq (Nat.zero_add _), cut_all _ _⟩ | (refine .inr ⟨_, rfl, ?_⟩; focus (first | exact ⟨rfl, rfl⟩ | exact .inr ⟨rfl, rfl⟩ | exact .inr ⟨rfl, rfl, rfl, Nat.le_refl _, rfl⟩ | exact .inl rfl | exact .inl ⟨rfl, rfl⟩ | exact ⟨_, rfl, rfl⟩ | exact .inr ⟨_, rfl, rfl⟩ | exact .inl ⟨rfl, rfl, rfl⟩ | exact ⟨congrArg (MV.int _) (by omega), rfl⟩ | exact .inr ⟨rfl, rfl, rfl, Nat.le_of_eq (Nat.zero_add _), cut_all _ _⟩ | (refine .inr ⟨_, rfl, ?_⟩; focus (first | exact ⟨rfl, rfl⟩ | exact .inr ⟨rfl, rfl⟩ | exact .inr ⟨rfl, rfl, rfl, Nat.le_refl _, rfl⟩ | exact .inl rfl | exact .inl ⟨rfl, rfl⟩ | exact ⟨_, rfl, rfl⟩ | exact .inr ⟨_, rfl, rfl⟩ | exact .inl ⟨rfl, rfl, rfl⟩ | exact ⟨congrArg (MV.int _) (by omega), rfl⟩ | exact .inr ⟨rfl, rfl, rfl, Nat.le_of_eq (Nat.zero_add _), cut_all _ _⟩ | (refine .inr ⟨_, rfl, ?_⟩; focus (first | exact ⟨rfl, rfl⟩ | exact .inr ⟨rfl, rfl⟩ | exact .inr ⟨rfl, rfl, rfl, Nat.le_refl _, rfl⟩ | exact .inl rfl | exact .inl ⟨rfl, rfl⟩ | exact ⟨_, rfl, rfl⟩ | exact .inr ⟨_, rfl, rfl⟩ | exact .inl ⟨rfl, rfl, rfl⟩ | exact ⟨congrArg (MV.int _) (by omega), rfl⟩ | exact .inr ⟨rfl, rfl, rfl, Nat.le_of_eq (Nat.zero_add _), cut_all _ _⟩); done) | (refine .inr ⟨_, rfl, ?_⟩; focus (repeat (first | exact trivial | (refine And.intro ?_ ?_; focus (first | exact ⟨rfl, rfl⟩ | exact .inr ⟨rfl, rfl⟩ | exact .inr ⟨rfl, rfl, rfl, Nat.le_refl _, rfl⟩ | exact .inl rfl | exact .inl ⟨rfl, rfl⟩ | exact ⟨_, rfl, rfl⟩ | exact .inr ⟨_, rfl, rfl⟩ | exact .inl ⟨rfl, rfl, rfl⟩ | exact ⟨congrArg (MV.int _) (by omega), rfl⟩ | exact .inr ⟨rfl, rfl, rfl, Nat.le_of_eq (Nat.zero_add _), cut_all _ _⟩)))); done)); done) | (refine .inr ⟨_, rfl, ?_⟩; focus (repeat (first | exact trivial | (refine And.intro ?_ ?_; focus (first | exact ⟨rfl, rfl⟩ | exact .inr ⟨rfl, rfl⟩ | exact .inr ⟨rfl, rfl, rfl, Nat.le_refl _, rfl⟩ | exact .inl rfl | exact .inl ⟨rfl, rfl⟩ | exact ⟨_, rfl, rfl⟩ | exact .inr ⟨_, rfl, rfl⟩ | exact .inl ⟨rfl, rfl, rfl⟩ | exact ⟨congrArg (MV.int _) (by omega), rfl⟩ | exact .inr ⟨rfl, rfl, rfl, Nat.le_of_eq (Nat.zero_add _), cut_all _ _⟩ | (refine .inr ⟨_, rfl, ?_⟩; focus (first | exact ⟨rfl, rfl⟩ | exact .inr ⟨rfl, rfl⟩ | exact .inr ⟨rfl, rfl, rfl, Nat.le_refl _, rfl⟩ | exact .inl rfl | exact .inl ⟨rfl, rfl⟩ | exact ⟨_, rfl, rfl⟩ | exact .inr ⟨_, rfl, rfl⟩ | exact .inl ⟨rfl, rfl, rfl⟩ | exact ⟨congrArg (MV.int _) (by omega), rfl⟩ | exact .inr ⟨rfl, rfl, rfl, Nat.le_of_eq (Nat.zero_add _), cut_all _ _⟩); done) | (refine .inr ⟨_, rfl, ?_⟩; focus (repeat (first | exact trivial | (refine And.intro ?_ ?_; focus (first | exact ⟨rfl, rfl⟩ | exact .inr ⟨rfl, rfl⟩ | exact .inr ⟨rfl, rfl, rfl, Nat.le_refl _, rfl⟩ | exact .inl rfl | exact .inl ⟨rfl, rfl⟩ | exact ⟨_, rfl, rfl⟩ | exact .inr ⟨_, rfl, rfl⟩ | exact .inl ⟨rfl, rfl, rfl⟩ | exact ⟨congrArg (MV.int _) (by omega), rfl⟩ | exact .inr ⟨rfl, rfl, rfl, Nat.le_of_eq (Nat.zero_add _), cut_all _ _⟩)))); done))))); done)); done) | (refine .inr ⟨_, rfl, ?_⟩; focus (repeat (first | exact trivial | (refine And.intro ?_ ?_; focus (first | exact ⟨rfl, rfl⟩ | exact .inr ⟨rfl, rfl⟩ | exact .inr ⟨rfl, rfl, rfl, Nat.le_refl _, rfl⟩ | exact .inl rfl | exact .inl ⟨rfl, rfl⟩ | exact ⟨_, rfl, rfl⟩ | exact .inr ⟨_, rfl, rfl⟩ | exact .inl ⟨rfl, rfl, rfl⟩ | exact ⟨congrArg (MV.int _) (by omega), rfl⟩ | exact .inr ⟨rfl, rfl, rfl, Nat.le_of_eq (Nat.zero_add _), cut_all _ _⟩ | (refine .inr ⟨_, rfl, ?_⟩; focus (first | exact ⟨rfl, rfl⟩ | exact .inr ⟨rfl, rfl⟩ | exact .inr ⟨rfl, rfl, rfl, Nat.le_refl _, rfl⟩ | exact .inl rfl | exact .inl ⟨rfl, rfl⟩ | exact ⟨_, rfl, rfl⟩ | exact .inr ⟨_, rfl, rfl⟩ | exact .inl ⟨rfl, rfl, rfl⟩ | exact ⟨congrArg (MV.int _) (by omega), rfl⟩ | exact .inr ⟨rfl, rfl, rfl, Nat.le_of_eq (Nat.zero_add _), cut_all _ _⟩ | (refine .inr ⟨_, rfl, ?_⟩; focus (first | exact ⟨rfl, rfl⟩ | exact .inr ⟨rfl, rfl⟩ | exact .inr ⟨rfl, rfl, rfl, Nat.le_refl _, rfl⟩ | exact .inl rfl | exact .inl ⟨rfl, rfl⟩ | exact ⟨_, rfl, rfl⟩ | exact .inr ⟨_, rfl, rfl⟩ | exact .inl ⟨rfl, rfl, rfl⟩ | exact ⟨congrArg (MV.int _) (by omega), rfl⟩ | exact .inr ⟨rfl, rfl, rfl, Nat.le_of_eq (Nat.zero_add _), cut_all _ _⟩); done) | (refine .inr ⟨_, rfl, ?_⟩; focus (repeat (first | exact trivial | (refine And.intro ?_ ?_; focus (first | exact ⟨rfl, rfl⟩ | exact .inr ⟨rfl, rfl⟩ | exact .inr ⟨rfl, rfl, rfl, Nat.le_refl _, rfl⟩ | exact .inl rfl | exact .inl ⟨rfl, rfl⟩ | exact ⟨_, rfl, rfl⟩ | exact .inr ⟨_, rfl, rfl⟩ | exact .inl ⟨rfl, rfl, rfl⟩ | exact ⟨congrArg (MV.int _) (by omega), rfl⟩ | exact .inr ⟨rfl, rfl, rfl, Nat.le_of_eq (Nat.zero_add _), cut_all _ _⟩)))); done)); done) | (refine .inr ⟨_, rfl, ?_⟩; focus (repeat (first | exact trivial | (refine And.intro ?_ ?_; focus (first | exact ⟨rfl, rfl⟩ | exact .inr ⟨rfl, rfl⟩ | exact .inr ⟨rfl, rfl, rfl, Nat.le_refl _, rfl⟩ | exact .inl rfl | exact .inl ⟨rfl, rfl⟩ | exact ⟨_, rfl, rfl⟩ | exact .inr ⟨_, rfl, rfl⟩ | exact .inl ⟨rfl, rfl, rfl⟩ | exact ⟨congrArg (MV.int _) (by omega), rfl⟩ | exact .inr ⟨rfl, rfl, rfl, Nat.le_of_eq (Nat.zero_add _), cut_all _ _⟩ | (refine .inr ⟨_, rfl, ?_⟩; focus (first | exact ⟨rfl, rfl⟩ | exact .inr ⟨rfl, rfl⟩ | exact .inr ⟨rfl, rfl, rfl, Nat.le_refl _, rfl⟩ | exact .inl rfl | exact .inl ⟨rfl, rfl⟩ | exact ⟨_, rfl, rfl⟩ | exact .inr ⟨_, rfl, rfl⟩ | exact .inl ⟨rfl, rfl, rfl⟩ | exact ⟨congrArg (MV.int _) (by omega), rfl⟩ | exact .inr ⟨rfl, rfl, rfl, Nat.le_of_eq (Nat.zero_add _), cut_all _ _⟩); done) | (refine .inr ⟨_, rfl, ?_⟩; focus (repeat (first | exact trivial | (refine And.intro ?_ ?_; focus (first | exact ⟨rfl, rfl⟩ | exact .inr ⟨rfl, rfl⟩ | exact .inr ⟨rfl, rfl, rfl, Nat.le_refl _, rfl⟩ | exact .inl rfl | exact .inl ⟨rfl, rfl⟩ | exact ⟨_, rfl, rfl⟩ | exact .inr ⟨_, rfl, rfl⟩ | exact .inl ⟨rfl, rfl, rfl⟩ | exact ⟨congrArg (MV.int _) (by omega), rfl⟩ | exact .inr ⟨rfl, rfl, rfl, Nat.le_of_eq (Nat.zero_add _), cut_all _ _⟩)))); done))))); done))))); done))) : p := h
theorem lm {p : Prop} (h : p := by (repeat (first | exact trivial | refine And.intro rv ?_))) : p := h
theorem mm {p : Prop} (h : p := by (repeat (first | exact trivial | refine ⟨Nat.le_refl _, ?_⟩ | refine ⟨⟨_, rfl, rv⟩, ?_⟩ | refine ⟨.inl ⟨rfl, rfl, rfl, rfl⟩, ?_⟩ | refine ⟨.inr ⟨_, _, rfl, rfl, rfl, rfl, .inl rfl, .inl rfl, .inl ⟨rfl, rfl⟩⟩, ?_⟩ | refine ⟨.inr ⟨_, _, rfl, rfl, rfl, rfl, .inl rfl, .inl rfl, .inl ⟨(by simp [u8s]), rfl⟩⟩, ?_⟩ | refine ⟨.inr ⟨_, _, rfl, rfl, rfl, rfl, .inl rfl, .inr ⟨(by first | exact Nat.max_le.2 ⟨Nat.zero_le _, Nat.le_refl _⟩ | exact Nat.max_le.2 ⟨Nat.le_refl _, Nat.le_refl _⟩), (by simp [u8s])⟩, .inl ⟨rfl, rfl⟩⟩, ?_⟩ | refine ⟨.inr ⟨_, _, rfl, rfl, rfl, rfl, .inl rfl, .inl rfl, .inr ⟨rv, trivial⟩⟩, ?_⟩ | refine ⟨(show _ ≤ _ by simp [u8s]), ?_⟩ | refine ⟨.inr ⟨_, _, rfl, rfl, rfl, rfl, .inr (.inl ⟨rfl, rfl, rfl, SideF.out (by assumption)⟩), .inl rfl, .inl ⟨rfl, rfl⟩⟩, ?_⟩))) : p := h
theorem xhv {p : Prop} (h : p := by intro R hR; first | ((with_reducible apply he_loadP); (case hp => exact rfl); (case hc => exact rfl); (case hm => exact rfl); (case hr => exact rfl); (case hk => kernel_rfl); (case hR => exact hR)) | ((with_reducible apply he_storeP); (case hp => exact rfl); (case hy => exact rfl); (case hc => exact rfl); (case hpe => exact Nat.zero_le _); (case hm => exact rfl); (case hs => exact rfl); (case hk => kernel_rfl); (case hR => exact hR)) | ((with_reducible apply he_box); (case hx => exact rfl); (case ht => exact rfl); (case hk => kernel_rfl); (case hR => exact hR)) | ((with_reducible apply he_alloc); (case ht => exact rfl); (case hz => exact rfl); (case hk => kernel_rfl); (case hR => exact hR)) | (repeat (first | exact hR | ((try conv => whnf); first | exact hR | (with_reducible refine ⟨_, sv (EqF.out (by assumption)), ?_⟩) | (with_reducible refine And.intro (SideF.out (by assumption)) ?_) | (with_reducible refine And.intro (Nat.zero_le _) ?_) | (with_reducible refine And.intro rfl ?_) | (with_reducible refine ⟨_, idx_at (by omega), ?_⟩) | (with_reducible refine ⟨fun _ => ?_, fun h => Bool.noConfusion h⟩) | (with_reducible refine ⟨fun h => Bool.noConfusion h, fun _ => ?_⟩) | (with_reducible refine ⟨_, sv (wrap_in _ (by omega) (by omega)), ?_⟩) | (with_reducible refine ⟨_, sv (wrapu_in _ (by omega) (by omega)), ?_⟩) | (with_reducible refine ⟨_, sv (wrap8_in _ (by omega) (by omega)), ?_⟩) | (refine ⟨_, rfl, ?_⟩) | (refine ⟨_, SomF.out (by assumption), ?_⟩) | (refine And.intro (by omega) ?_)))); first | done | fail) : p := h
theorem xhw {p : Prop} (h : p := by intro R hR; first | ((with_reducible apply he_loadP); (case hp => exact rfl); (case hc => exact rfl); (case hm => exact rfl); (case hr => exact rfl); (case hk => kernel_rfl); (case hR => exact hR)) | ((with_reducible apply he_storeP); (case hp => exact rfl); (case hy => exact rfl); (case hc => exact rfl); (case hpe => exact Nat.zero_le _); (case hm => exact rfl); (case hs => exact rfl); (case hk => kernel_rfl); (case hR => exact hR)) | ((with_reducible apply he_box); (case hx => exact rfl); (case ht => exact rfl); (case hk => kernel_rfl); (case hR => exact hR)) | ((with_reducible apply he_alloc); (case ht => exact rfl); (case hz => exact rfl); (case hk => kernel_rfl); (case hR => exact hR)) | (repeat (first | exact hR | ((try conv => whnf); first | exact hR | (with_reducible refine ⟨_, sv (EqF.out (by assumption)), ?_⟩) | (with_reducible refine And.intro (SideF.out (by assumption)) ?_) | (with_reducible refine And.intro (Nat.zero_le _) ?_) | (with_reducible refine And.intro rfl ?_) | (with_reducible refine ⟨_, sv (add32 _ _), ?_⟩) | (with_reducible refine ⟨_, sv (xor32 _ _), ?_⟩) | (with_reducible refine ⟨_, sv (and32 _ _), ?_⟩) | (with_reducible refine ⟨_, sv (or32 _ _), ?_⟩) | (with_reducible refine ⟨_, sv (not32 _), ?_⟩) | (with_reducible refine ⟨_, sv (shlI _ _ (by omega) (by omega)), ?_⟩) | (with_reducible refine ⟨_, sv (shrI _ _ (by omega) (by omega)), ?_⟩) | (with_reducible refine ⟨_, sv (conv832 _), ?_⟩) | (with_reducible refine ⟨_, sv (conv328 _), ?_⟩) | (with_reducible refine ⟨fun _ => ?_, fun h => Bool.noConfusion h⟩) | (with_reducible refine ⟨fun h => Bool.noConfusion h, fun _ => ?_⟩) | (with_reducible refine ⟨_, sv (wrap_in _ (by omega) (by omega)), ?_⟩) | (with_reducible refine ⟨_, sv (wrapu_in _ (by omega) (by omega)), ?_⟩) | (with_reducible refine ⟨_, sv (wrap8_in _ (by omega) (by omega)), ?_⟩) | (refine ⟨_, rfl, ?_⟩) | (refine ⟨_, SomF.out (by assumption), ?_⟩) | (refine And.intro (by omega) ?_)))); first | done | fail) : p := h
theorem xhq {p : Prop} (h : p := by intro R hR; first | ((with_reducible apply he_loadP); (case hp => exact rfl); (case hc => exact rfl); (case hm => exact rfl); (case hr => exact rfl); (case hk => kernel_rfl); (case hR => exact hR)) | ((with_reducible apply he_storeP); (case hp => exact rfl); (case hy => exact rfl); (case hc => exact rfl); (case hpe => exact Nat.zero_le _); (case hm => exact rfl); (case hs => exact rfl); (case hk => kernel_rfl); (case hR => exact hR)) | ((with_reducible apply he_box); (case hx => exact rfl); (case ht => exact rfl); (case hk => kernel_rfl); (case hR => exact hR)) | ((with_reducible apply he_alloc); (case ht => exact rfl); (case hz => exact rfl); (case hk => kernel_rfl); (case hR => exact hR)) | (repeat ((try conv => whnf); first | (with_reducible exact eqs_i hR) | (with_reducible exact nes_i hR) | (with_reducible exact eqs_s hR) | (with_reducible exact nes_s hR) | exact hR | (with_reducible refine ⟨_, sv (EqF.out (by assumption)), ?_⟩) | (with_reducible refine And.intro (SideF.out (by assumption)) ?_) | (with_reducible refine And.intro (Nat.zero_le _) ?_) | (with_reducible refine And.intro rfl ?_) | (with_reducible refine ⟨_, idx_at (by omega), ?_⟩) | (with_reducible refine ⟨fun _ => ?_, fun h => Bool.noConfusion h⟩) | (with_reducible refine ⟨fun h => Bool.noConfusion h, fun _ => ?_⟩) | (with_reducible refine ⟨_, sv (wrap_in _ (by omega) (by omega)), ?_⟩) | (with_reducible refine ⟨_, sv (wrapu_in _ (by omega) (by omega)), ?_⟩) | (with_reducible refine ⟨_, sv (wrap8_in _ (by omega) (by omega)), ?_⟩) | (refine ⟨_, rfl, ?_⟩) | (refine ⟨_, SomF.out (by assumption), ?_⟩) | (refine And.intro (by omega) ?_))); first | done | fail) : p := h
theorem go0 {p q : Prop} (h : q) (s : Box q → p := by intro hq; (repeat ((try conv => whnf); first | (with_reducible refine Rt.go ?_) | (with_reducible refine Rs.go ?_) | (with_reducible refine And.intro (Nat.zero_le _) ?_) | (with_reducible refine And.intro rfl ?_) | (with_reducible refine ⟨_, idx_at (by omega), ?_⟩) | (with_reducible refine ⟨fun _ => ?_, fun h => Bool.noConfusion h⟩) | (with_reducible refine ⟨fun h => Bool.noConfusion h, fun _ => ?_⟩) | (with_reducible refine ⟨_, sv (wrap_in _ (by omega) (by omega)), ?_⟩) | (with_reducible refine ⟨_, sv (wrapu_in _ (by omega) (by omega)), ?_⟩) | (with_reducible refine ⟨_, sv (wrap8_in _ (by omega) (by omega)), ?_⟩) | refine ⟨_, rfl, ?_⟩ | refine And.intro (show okDraw _ _ = true by kernel_rfl) ?_ | refine And.intro (by omega) ?_)); exact hq.out) : p := s ⟨h⟩
theorem gow0 {p q : Prop} (h : q) (s : Box q → p := by intro hq; (repeat ((try conv => whnf); first | (with_reducible refine Rt.go ?_) | (with_reducible refine Rs.go ?_) | (with_reducible refine And.intro (Nat.zero_le _) ?_) | (with_reducible refine And.intro rfl ?_) | (with_reducible refine ⟨fun _ => ?_, fun h => Bool.noConfusion h⟩) | (with_reducible refine ⟨fun h => Bool.noConfusion h, fun _ => ?_⟩) | (with_reducible refine ⟨_, sv (add32 _ _), ?_⟩) | (with_reducible refine ⟨_, sv (xor32 _ _), ?_⟩) | (with_reducible refine ⟨_, sv (and32 _ _), ?_⟩) | (with_reducible refine ⟨_, sv (or32 _ _), ?_⟩) | (with_reducible refine ⟨_, sv (not32 _), ?_⟩) | (with_reducible refine ⟨_, sv (shlI _ _ (by omega) (by omega)), ?_⟩) | (with_reducible refine ⟨_, sv (shrI _ _ (by omega) (by omega)), ?_⟩) | (with_reducible refine ⟨_, sv (conv832 _), ?_⟩) | (with_reducible refine ⟨_, sv (conv328 _), ?_⟩) | (with_reducible refine ⟨_, sv (wrap_in _ (by omega) (by omega)), ?_⟩) | (with_reducible refine ⟨_, sv (wrapu_in _ (by omega) (by omega)), ?_⟩) | (with_reducible refine ⟨_, sv (wrap8_in _ (by omega) (by omega)), ?_⟩) | refine ⟨_, rfl, ?_⟩ | refine And.intro (show okDraw _ _ = true by kernel_rfl) ?_ | refine And.intro (by omega) ?_)); exact hq.out) : p := s ⟨h⟩
theorem go1 {p q : Prop} (h : q) (s : Box q → p := by intro hq; (repeat (first | ((with_reducible apply n_load); (case hp => exact rfl); (case hc => exact rfl); (case hm => exact rfl); (case hr => exact rfl); (case hk => kernel_rfl)) | ((with_reducible apply n_store); (case hp => exact rfl); (case hy => exact rfl); (case hc => exact rfl); (case hpe => exact Nat.zero_le _); (case hm => exact rfl); (case hs => exact rfl); (case hk => kernel_rfl)) | ((with_reducible apply n_box); (case hx => exact rfl); (case ht => exact rfl); (case hk => kernel_rfl)) | ((with_reducible apply n_alloc); (case ht => exact rfl); (case hz => exact rfl); (case hk => kernel_rfl)) | ((with_reducible apply n_val); (case hb => exact rfl); (case he => exact xhv)) | ((with_reducible apply n_nilS)) | ((with_reducible apply c_seqR)) | ((with_reducible apply n_app)) | ((with_reducible apply n_app0)) | ((with_reducible apply e_val); (case ho => exact rfl); (case hb => exact rfl); (case he => exact xhv)) | ((with_reducible apply d_end); (case ho => exact (show okDraw _ _ = true by kernel_rfl))) | ((with_reducible apply n_none); (case hb => exact rfl); (case he => exact xhv)) | ((with_reducible apply n_mem); (case hb => exact rfl); (case he => exact xhv)) | ((with_reducible apply n_valY); (case hs => exact rfl); (case hv => exact rfl); (case hb => exact rfl); (case he => exact xhv)) | ((with_reducible apply n_guardN); (case hs => exact rfl); (case hv => exact rfl); (case hd => exact rfl)) | ((with_reducible apply n_guardU); (case hs => exact rfl); (case hv => exact rfl); (case hd => exact rfl)) | ((with_reducible apply g_val); (case hq => exact rfl); (case hv => exact rfl); (case he => exact xhv); (case hd => exact rfl)) | ((with_reducible apply g_none); (case hq => exact rfl); (case hv => exact rfl); (case he => exact xhv)) | ((with_reducible apply g_mem); (case hq => exact rfl); (case hv => exact rfl); (case he => exact xhv); (case hd => exact rfl)) | ((with_reducible apply n_nil)) | ((with_reducible apply c_seq)) | ((with_reducible apply seqQ_n)) | ((with_reducible apply c_region)) | ((with_reducible apply c_condT); (case he => exact rfl)) | ((with_reducible apply c_condF); (case he => exact rfl)) | ((with_reducible apply c_block)) | ((with_reducible apply c_skip)) | ((with_reducible apply c_exit)) | ((with_reducible apply c_ret)) | ((with_reducible apply seqQ_x)) | ((with_reducible apply seqQ_r)) | ((with_reducible apply blockQ_n)) | ((with_reducible apply blockQ_r)) | ((with_reducible apply blockQ_x); (case hb => exact rfl)) | ((with_reducible apply blockQ_y); (case hb => exact rfl)) | ((with_reducible apply loopQ_x)) | ((with_reducible apply loopQ_r)) | ((with_reducible apply c_label)) | (with_reducible refine joinF_r (by assumption) ?_) | (with_reducible refine joinF_x (by assumption) ?_) | ((with_reducible apply e_none); (case ho => exact rfl); (case hb => exact rfl); (case he => exact xhv)) | ((with_reducible apply e_valY); (case ho => exact rfl); (case hs => exact rfl); (case hv => exact rfl); (case hb => exact rfl); (case he => exact xhv)) | ((with_reducible apply e_mem); (case ho => exact rfl); (case hb => exact rfl); (case he => exact xhv)) | ((with_reducible apply d_next)) | ((with_reducible apply d_step); (case ho => exact rfl)) | ((with_reducible apply d_guardN); (case hs => exact rfl); (case hv => exact rfl); (case hd => exact rfl)) | ((with_reducible apply d_guardU); (case hs => exact rfl); (case hv => exact rfl); (case hd => exact rfl)) | ((with_reducible apply d_guardY); (case hs => exact rfl); (case hv => exact rfl)) | ((with_reducible apply d_go)) | ((with_reducible apply gd_val); (case hv => exact rfl); (case he => exact xhv); (case hd => exact rfl)) | ((with_reducible apply gd_none); (case hv => exact rfl); (case he => exact xhv)) | ((with_reducible apply gd_mem); (case hv => exact rfl); (case he => exact xhv); (case hd => exact rfl)) | ((with_reducible apply n_guardY); (case hs => exact rfl); (case hv => exact rfl)) | ((with_reducible apply n_go)))); exact hq.out) : p := s ⟨h⟩
theorem gos {p q : Prop} (h : q) (s : Box q → p := by intro hq; ((first | ((with_reducible apply n_load); (case hp => exact rfl); (case hc => exact rfl); (case hm => exact rfl); (case hr => exact rfl); (case hk => kernel_rfl)) | ((with_reducible apply n_store); (case hp => exact rfl); (case hy => exact rfl); (case hc => exact rfl); (case hpe => exact Nat.zero_le _); (case hm => exact rfl); (case hs => exact rfl); (case hk => kernel_rfl)) | ((with_reducible apply n_box); (case hx => exact rfl); (case ht => exact rfl); (case hk => kernel_rfl)) | ((with_reducible apply n_alloc); (case ht => exact rfl); (case hz => exact rfl); (case hk => kernel_rfl)) | ((with_reducible apply n_val); (case hb => exact rfl); (case he => exact xhv)) | ((with_reducible apply n_nilS)) | ((with_reducible apply c_seqR)) | ((with_reducible apply n_app)) | ((with_reducible apply n_app0)) | ((with_reducible apply e_val); (case ho => exact rfl); (case hb => exact rfl); (case he => exact xhv)) | ((with_reducible apply d_end); (case ho => exact (show okDraw _ _ = true by kernel_rfl))) | ((with_reducible apply n_none); (case hb => exact rfl); (case he => exact xhv)) | ((with_reducible apply n_mem); (case hb => exact rfl); (case he => exact xhv)) | ((with_reducible apply n_valY); (case hs => exact rfl); (case hv => exact rfl); (case hb => exact rfl); (case he => exact xhv)) | ((with_reducible apply n_guardN); (case hs => exact rfl); (case hv => exact rfl); (case hd => exact rfl)) | ((with_reducible apply n_guardU); (case hs => exact rfl); (case hv => exact rfl); (case hd => exact rfl)) | ((with_reducible apply g_val); (case hq => exact rfl); (case hv => exact rfl); (case he => exact xhv); (case hd => exact rfl)) | ((with_reducible apply g_none); (case hq => exact rfl); (case hv => exact rfl); (case he => exact xhv)) | ((with_reducible apply g_mem); (case hq => exact rfl); (case hv => exact rfl); (case he => exact xhv); (case hd => exact rfl)) | ((with_reducible apply n_nil)) | ((with_reducible apply c_seq)) | ((with_reducible apply seqQ_n)) | ((with_reducible apply c_region)) | ((with_reducible apply c_condT); (case he => exact rfl)) | ((with_reducible apply c_condF); (case he => exact rfl)) | ((with_reducible apply c_block)) | ((with_reducible apply c_skip)) | ((with_reducible apply c_exit)) | ((with_reducible apply c_ret)) | ((with_reducible apply seqQ_x)) | ((with_reducible apply seqQ_r)) | ((with_reducible apply blockQ_n)) | ((with_reducible apply blockQ_r)) | ((with_reducible apply blockQ_x); (case hb => exact rfl)) | ((with_reducible apply blockQ_y); (case hb => exact rfl)) | ((with_reducible apply loopQ_x)) | ((with_reducible apply loopQ_r)) | ((with_reducible apply c_label)) | (with_reducible refine joinF_r (by assumption) ?_) | (with_reducible refine joinF_x (by assumption) ?_) | ((with_reducible apply e_none); (case ho => exact rfl); (case hb => exact rfl); (case he => exact xhv)) | ((with_reducible apply e_valY); (case ho => exact rfl); (case hs => exact rfl); (case hv => exact rfl); (case hb => exact rfl); (case he => exact xhv)) | ((with_reducible apply e_mem); (case ho => exact rfl); (case hb => exact rfl); (case he => exact xhv)) | ((with_reducible apply d_next)) | ((with_reducible apply d_step); (case ho => exact rfl)) | ((with_reducible apply d_guardN); (case hs => exact rfl); (case hv => exact rfl); (case hd => exact rfl)) | ((with_reducible apply d_guardU); (case hs => exact rfl); (case hv => exact rfl); (case hd => exact rfl)) | ((with_reducible apply d_guardY); (case hs => exact rfl); (case hv => exact rfl)) | ((with_reducible apply d_go)) | ((with_reducible apply gd_val); (case hv => exact rfl); (case he => exact xhv); (case hd => exact rfl)) | ((with_reducible apply gd_none); (case hv => exact rfl); (case he => exact xhv)) | ((with_reducible apply gd_mem); (case hv => exact rfl); (case he => exact xhv); (case hd => exact rfl)) | ((with_reducible apply n_guardY); (case hs => exact rfl); (case hv => exact rfl)) | ((with_reducible apply n_go)))); exact hq.out) : p := s ⟨h⟩
theorem gow1 {p q : Prop} (h : q) (s : Box q → p := by intro hq; (repeat (first | ((with_reducible apply n_load); (case hp => exact rfl); (case hc => exact rfl); (case hm => exact rfl); (case hr => exact rfl); (case hk => kernel_rfl)) | ((with_reducible apply n_store); (case hp => exact rfl); (case hy => exact rfl); (case hc => exact rfl); (case hpe => exact Nat.zero_le _); (case hm => exact rfl); (case hs => exact rfl); (case hk => kernel_rfl)) | ((with_reducible apply n_box); (case hx => exact rfl); (case ht => exact rfl); (case hk => kernel_rfl)) | ((with_reducible apply n_alloc); (case ht => exact rfl); (case hz => exact rfl); (case hk => kernel_rfl)) | ((with_reducible apply n_val); (case hb => exact rfl); (case he => exact xhw)) | ((with_reducible apply n_nilS)) | ((with_reducible apply c_seqR)) | ((with_reducible apply n_app)) | ((with_reducible apply n_app0)) | ((with_reducible apply e_val); (case ho => exact rfl); (case hb => exact rfl); (case he => exact xhw)) | ((with_reducible apply d_end); (case ho => exact (show okDraw _ _ = true by kernel_rfl))) | ((with_reducible apply n_none); (case hb => exact rfl); (case he => exact xhw)) | ((with_reducible apply n_mem); (case hb => exact rfl); (case he => exact xhw)) | ((with_reducible apply n_valY); (case hs => exact rfl); (case hv => exact rfl); (case hb => exact rfl); (case he => exact xhw)) | ((with_reducible apply n_guardN); (case hs => exact rfl); (case hv => exact rfl); (case hd => exact rfl)) | ((with_reducible apply n_guardU); (case hs => exact rfl); (case hv => exact rfl); (case hd => exact rfl)) | ((with_reducible apply g_val); (case hq => exact rfl); (case hv => exact rfl); (case he => exact xhw); (case hd => exact rfl)) | ((with_reducible apply g_none); (case hq => exact rfl); (case hv => exact rfl); (case he => exact xhw)) | ((with_reducible apply g_mem); (case hq => exact rfl); (case hv => exact rfl); (case he => exact xhw); (case hd => exact rfl)) | ((with_reducible apply n_nil)) | ((with_reducible apply c_seq)) | ((with_reducible apply seqQ_n)) | ((with_reducible apply c_region)) | ((with_reducible apply c_condT); (case he => exact rfl)) | ((with_reducible apply c_condF); (case he => exact rfl)) | ((with_reducible apply c_block)) | ((with_reducible apply c_skip)) | ((with_reducible apply c_exit)) | ((with_reducible apply c_ret)) | ((with_reducible apply seqQ_x)) | ((with_reducible apply seqQ_r)) | ((with_reducible apply blockQ_n)) | ((with_reducible apply blockQ_r)) | ((with_reducible apply blockQ_x); (case hb => exact rfl)) | ((with_reducible apply blockQ_y); (case hb => exact rfl)) | ((with_reducible apply loopQ_x)) | ((with_reducible apply loopQ_r)) | ((with_reducible apply c_label)) | (with_reducible refine joinF_r (by assumption) ?_) | (with_reducible refine joinF_x (by assumption) ?_) | ((with_reducible apply e_none); (case ho => exact rfl); (case hb => exact rfl); (case he => exact xhw)) | ((with_reducible apply e_valY); (case ho => exact rfl); (case hs => exact rfl); (case hv => exact rfl); (case hb => exact rfl); (case he => exact xhw)) | ((with_reducible apply e_mem); (case ho => exact rfl); (case hb => exact rfl); (case he => exact xhw)) | ((with_reducible apply d_next)) | ((with_reducible apply d_step); (case ho => exact rfl)) | ((with_reducible apply d_guardN); (case hs => exact rfl); (case hv => exact rfl); (case hd => exact rfl)) | ((with_reducible apply d_guardU); (case hs => exact rfl); (case hv => exact rfl); (case hd => exact rfl)) | ((with_reducible apply d_guardY); (case hs => exact rfl); (case hv => exact rfl)) | ((with_reducible apply d_go)) | ((with_reducible apply gd_val); (case hv => exact rfl); (case he => exact xhw); (case hd => exact rfl)) | ((with_reducible apply gd_none); (case hv => exact rfl); (case he => exact xhw)) | ((with_reducible apply gd_mem); (case hv => exact rfl); (case he => exact xhw); (case hd => exact rfl)) | ((with_reducible apply n_guardY); (case hs => exact rfl); (case hv => exact rfl)) | ((with_reducible apply n_go)))); exact hq.out) : p := s ⟨h⟩
theorem goe1 {p q : Prop} (h : q) (s : Box q → p := by intro hq; (repeat (first | ((with_reducible apply n_load); (case hp => exact rfl); (case hc => exact rfl); (case hm => exact rfl); (case hr => exact rfl); (case hk => kernel_rfl)) | ((with_reducible apply n_store); (case hp => exact rfl); (case hy => exact rfl); (case hc => exact rfl); (case hpe => exact Nat.zero_le _); (case hm => exact rfl); (case hs => exact rfl); (case hk => kernel_rfl)) | ((with_reducible apply n_box); (case hx => exact rfl); (case ht => exact rfl); (case hk => kernel_rfl)) | ((with_reducible apply n_alloc); (case ht => exact rfl); (case hz => exact rfl); (case hk => kernel_rfl)) | ((with_reducible apply n_val); (case hb => exact rfl); (case he => exact xhq)) | ((with_reducible apply n_nilS)) | ((with_reducible apply c_seqR)) | ((with_reducible apply n_app)) | ((with_reducible apply n_app0)) | ((with_reducible apply e_val); (case ho => exact rfl); (case hb => exact rfl); (case he => exact xhq)) | ((with_reducible apply d_end); (case ho => exact (show okDraw _ _ = true by kernel_rfl))) | ((with_reducible apply n_none); (case hb => exact rfl); (case he => exact xhq)) | ((with_reducible apply n_mem); (case hb => exact rfl); (case he => exact xhq)) | ((with_reducible apply n_valY); (case hs => exact rfl); (case hv => exact rfl); (case hb => exact rfl); (case he => exact xhq)) | ((with_reducible apply n_guardN); (case hs => exact rfl); (case hv => exact rfl); (case hd => exact rfl)) | ((with_reducible apply n_guardU); (case hs => exact rfl); (case hv => exact rfl); (case hd => exact rfl)) | ((with_reducible apply g_val); (case hq => exact rfl); (case hv => exact rfl); (case he => exact xhq); (case hd => exact rfl)) | ((with_reducible apply g_none); (case hq => exact rfl); (case hv => exact rfl); (case he => exact xhq)) | ((with_reducible apply g_mem); (case hq => exact rfl); (case hv => exact rfl); (case he => exact xhq); (case hd => exact rfl)) | ((with_reducible apply n_nil)) | ((with_reducible apply c_seq)) | ((with_reducible apply seqQ_n)) | ((with_reducible apply c_region)) | ((with_reducible apply c_condT); (case he => exact rfl)) | ((with_reducible apply c_condF); (case he => exact rfl)) | ((with_reducible apply c_block)) | ((with_reducible apply c_skip)) | ((with_reducible apply c_exit)) | ((with_reducible apply c_ret)) | ((with_reducible apply seqQ_x)) | ((with_reducible apply seqQ_r)) | ((with_reducible apply blockQ_n)) | ((with_reducible apply blockQ_r)) | ((with_reducible apply blockQ_x); (case hb => exact rfl)) | ((with_reducible apply blockQ_y); (case hb => exact rfl)) | ((with_reducible apply loopQ_x)) | ((with_reducible apply loopQ_r)) | ((with_reducible apply c_label)) | (with_reducible refine joinF_r (by assumption) ?_) | (with_reducible refine joinF_x (by assumption) ?_) | ((with_reducible apply e_none); (case ho => exact rfl); (case hb => exact rfl); (case he => exact xhq)) | ((with_reducible apply e_valY); (case ho => exact rfl); (case hs => exact rfl); (case hv => exact rfl); (case hb => exact rfl); (case he => exact xhq)) | ((with_reducible apply e_mem); (case ho => exact rfl); (case hb => exact rfl); (case he => exact xhq)) | ((with_reducible apply d_next)) | ((with_reducible apply d_step); (case ho => exact rfl)) | ((with_reducible apply d_guardN); (case hs => exact rfl); (case hv => exact rfl); (case hd => exact rfl)) | ((with_reducible apply d_guardU); (case hs => exact rfl); (case hv => exact rfl); (case hd => exact rfl)) | ((with_reducible apply d_guardY); (case hs => exact rfl); (case hv => exact rfl)) | ((with_reducible apply d_go)) | ((with_reducible apply gd_val); (case hv => exact rfl); (case he => exact xhq); (case hd => exact rfl)) | ((with_reducible apply gd_none); (case hv => exact rfl); (case he => exact xhq)) | ((with_reducible apply gd_mem); (case hv => exact rfl); (case he => exact xhq); (case hd => exact rfl)) | ((with_reducible apply n_guardY); (case hs => exact rfl); (case hv => exact rfl)) | ((with_reducible apply n_go)))); exact hq.out) : p := s ⟨h⟩
theorem vm {n0 : Nat} {E' : VE} {M' : VM} {n' : Nat} {E : VE} {M : VM} (σ bs : List (Nat × Nat)) (h1 : mE (sigA n0 σ) (fzb M bs) E' E := by exact mm) (h2 : mM (sigA n0 σ) (fzb M bs) M' (VM.bump M bs) := by exact mm) (h3 : okSg n0 n' σ = true := by exact rfl) (h4 : okB M bs := by exact mm) (h5 : M'.all (fun x => Nat.blt x.1 n') = true := by exact rfl) : VMatch n0 E' M' n' E M := VMatch.of σ bs h1 h2 h3 h4 h5
theorem sms {R : MV × Dl → Prop} {p q : Prop} {x : MV × Dl} (_hR : R x) (h : q) (s : Box q → p := by intro hq; first | ((with_reducible apply he_loadP); (case hp => exact rfl); (case hc => exact rfl); (case hm => exact rfl); (case hr => exact rfl); (case hk => kernel_rfl); (case hR => exact hR)) | ((with_reducible apply he_storeP); (case hp => exact rfl); (case hy => exact rfl); (case hc => exact rfl); (case hpe => exact Nat.zero_le _); (case hm => exact rfl); (case hs => exact rfl); (case hk => kernel_rfl); (case hR => exact hR)) | ((with_reducible apply he_box); (case hx => exact rfl); (case ht => exact rfl); (case hk => kernel_rfl); (case hR => exact hR)) | ((with_reducible apply he_alloc); (case ht => exact rfl); (case hz => exact rfl); (case hk => kernel_rfl); (case hR => exact hR)) | (repeat (first | exact hR | ((try conv => whnf); first | exact hR | (with_reducible refine And.intro (Nat.zero_le _) ?_) | (with_reducible refine And.intro rfl ?_) | (with_reducible refine ⟨_, idx_at (by omega), ?_⟩) | (with_reducible refine ⟨fun _ => ?_, fun h => Bool.noConfusion h⟩) | (with_reducible refine ⟨fun h => Bool.noConfusion h, fun _ => ?_⟩) | (with_reducible refine ⟨_, sv (wrap_in _ (by omega) (by omega)), ?_⟩) | (with_reducible refine ⟨_, sv (wrapu_in _ (by omega) (by omega)), ?_⟩) | (with_reducible refine ⟨_, sv (wrap8_in _ (by omega) (by omega)), ?_⟩) | (refine ⟨_, rfl, ?_⟩) | (refine And.intro (by omega) ?_)))); exact hq.out) : p := s ⟨h⟩
end
section
variable {G : GS}
theorem place_m (x n : Int) (hn : 0 < n) (hn2 : n < 9223372036854775808) : SemC Tryz.prog G 19 [.int .i64 x, .int .i64 n] (.int .i64 (x % n)) := by
 have hmod := emod_of x n hn
 have h1 : -9223372036854775808 ≤ x.tmod n + n ∧ x.tmod n + n < 9223372036854775808 ∨ ¬ x.tmod n < 0 := by
  have := Int.lt_tmod_of_pos x hn
  omega
 have hne := SideF.mk (show n ≠ 0 by omega)
 refine scq seat Tryz.func19 14 ?_
 refine go1 ?_
 ((with_reducible apply c_cond); (case he => exact rfl); (all_goals intro h))
 ·have hx := of_decide_eq_true h
  rw [if_pos hx] at hmod
  refine go1 ?_
  refine go0 ?_
  exact congrArg (MV.int .i64) hmod
 ·have hx := of_decide_eq_false h
  rw [if_neg hx] at hmod
  refine go1 ?_
  refine go0 ?_
  exact congrArg (MV.int .i64) hmod
def nextV (L : List Int) (N : Nat) (n : Int) : Int := (L[N]?.getD 0) % n
def numB (L : List Int) (N : Nat) : VM := [(0, ⟨95, 2, false, 0, [.st [intsM L, .int .i64 N]]⟩)]
abbrev numP : MV := .ptr 0 2 0 0 []
theorem next_r (L : List Int) (N : Nat) (n : Int) (hn : 0 < n) (hn2 : n < 9223372036854775808) (hN : N < 4611686018427387904) :
  SemR Tryz.prog G 18 [numP, .int .i64 n] (numB L N) 1 (.int .i64 (nextV L N n)) (numB L (N + 1)) 1 := by
 have cp := place_m (G := G) (L[N]?.getD 0) n hn hn2
 unfold nextV
 unfold numB
 generalize hx : (L[N]?.getD 0) = x at *
 by_cases hlt : N < L.length
 ·have hel := SomF.mk (show idxL (L.map (MV.int .i64)) L.length (N : Int) = some (.int .i64 x) by rw [intsM_at hlt, ← hx]; simp [hlt])
  unfold intsM
  refine srq seat Tryz.func18 36 ?_
  refine go1 ?_
  refine c_draw [(0, false), (1, false), (2, false), (3, false), (4, false), (5, false), (6, false), (7, false), (8, false), (9, false)] ?_
  refine go1 ?_
  ((with_reducible apply c_cond); (case he => exact rfl); (all_goals intro h))
  ·refine go1 ?_
   refine c_draw [(0, false), (1, false), (2, false), (3, false), (4, false), (5, false), (6, false), (7, false), (8, false), (9, false), (10, false)] ?_
   refine go1 ?_
   refine g_call2 rfl (fun _ h => h) rfl (semR_of_semC (cp)) rfl lm ?_
   refine go1 ?_
   refine ⟨[_], [], [], rfl, rfl, trivial, rfl, ⟨?_, trivial⟩, ?_⟩
   ·exact rv
   ·exact mm
  ·exact absurd (of_decide_eq_false h) (by omega)
 ·have hx0 : x = 0 := by rw [← hx]; simp [hlt]
  subst hx0
  unfold intsM
  refine srq seat Tryz.func18 36 ?_
  refine go1 ?_
  refine c_draw [(0, false), (1, false), (2, false), (3, false), (4, false), (5, false), (6, false), (7, false), (8, false), (9, false)] ?_
  refine go1 ?_
  ((with_reducible apply c_cond); (case he => exact rfl); (all_goals intro h))
  ·exact absurd (of_decide_eq_true h) (by omega)
  ·refine go1 ?_
   refine g_call2 rfl (fun _ h => h) rfl (semR_of_semC (cp)) rfl lm ?_
   refine go1 ?_
   refine ⟨[_], [], [], rfl, rfl, trivial, rfl, ⟨?_, trivial⟩, ?_⟩
   ·exact rv
   ·exact mm
end
section
open Go.ChangeShapes Go.WideShapes Go.ChangeAt Go.RowKit
theorem own : ownKnob Tryz.prog.godebug = none := by kernel_rfl
theorem laidOut : laidOutB Tryz.prog = true := by kernel_rfl
def G0 : GS := ⟨fun _ => True, fun _ => False, fun _ _ _ h => h.elim, fun _ _ _ _ _ _ => trivial⟩
theorem opn_int : Opn Tryz.prog 3 1 fun m => ∃ n, m = .int .i64 n ∧ (Lit.int .i64 n).wf = true := Opn.int Tryz.underlying3 (by kernel_rfl)
theorem opn_ints : Opn Tryz.prog 22 1 fun m => ∃ l, m = .sl l.length l ∧ (∀ x ∈ l, ∃ n, x = .int .i64 n ∧ (Lit.int .i64 n).wf = true) ∧ l.length ≤ 140737488355328 := Opn.slice Tryz.underlying22 (by kernel_rfl) (Nat.le_of_ble_eq_true (by kernel_rfl)) (by omega) opn_int
theorem ints_lift {m : MV} (h : ∃ l, m = .sl l.length l ∧ (∀ x ∈ l, ∃ n, x = .int .i64 n ∧ (Lit.int .i64 n).wf = true) ∧ l.length ≤ 140737488355328) : ∃ xs : List Int, m = intsM xs ∧ xs.length ≤ 140737488355328 := by
 obtain ⟨l, rfl, h, hl⟩ := h
 obtain ⟨us, rfl, _⟩ := lift_list l h
 exact ⟨us, by unfold intsM; rw [List.length_map], by simpa using hl⟩
end
section
def varS (n : Nat) : List UInt8 := if _h : n < 128 then [UInt8.ofNat n] else UInt8.ofNat (n % 128 + 128) :: varS (n / 128)
termination_by n
theorem varS_lo {n : Nat} (h : n < 128) : varS n = [UInt8.ofNat n] := by rw [varS, dif_pos h]
theorem varS_hi {n : Nat} (h : ¬ n < 128) : varS n = UInt8.ofNat (n % 128 + 128) :: varS (n / 128) := by rw [varS, dif_neg h]
def readS : List UInt8 → Nat → Nat → Nat × Nat × Nat
 | [], _, _ => (0, 0, 5)
 | x :: r, i, n =>
  if i = 9 ∧ 1 < x.toNat then (0, 0, 6) else if 0 < i ∧ x.toNat = 0 then (0, 0, 4) else
  if x.toNat < 128 then (n + x.toNat * 128 ^ i, i + 1, 0) else readS r (i + 1) (n + (x.toNat - 128) * 128 ^ i)
theorem ofNat_toNat {n : Nat} (h : n < 256) : (UInt8.ofNat n).toNat = n := by rw [UInt8.toNat_ofNat']; omega
theorem varS_len : ∀ (k n : Nat), n < 128 ^ (k + 1) → 1 ≤ (varS n).length ∧ (varS n).length ≤ k + 1
 | 0, n, h => by rw [varS_lo (by omega)]; simp
 | k + 1, n, h => by
  by_cases hn : n < 128
  ·rw [varS_lo hn]; simp
  ·rw [varS_hi hn]
   have := varS_len k (n / 128) (by rw [Nat.pow_succ] at h; omega)
   simp only [List.length_cons]
   omega
theorem varS_len10 {n : Nat} (h : n < 18446744073709551616) : 1 ≤ (varS n).length ∧ (varS n).length ≤ 10 := varS_len 9 n (by omega)
theorem read_var : ∀ (m n : Nat), n ≤ m → ∀ (i acc : Nat) (r : List UInt8), i ≤ 9 → n * 128 ^ i < 18446744073709551616 → (0 < i → 0 < n) → readS (varS n ++ r) i acc = (acc + n * 128 ^ i, i + (varS n).length, 0)
 | m, n, hm, i, acc, r, hi, hb, h0 => by
  have h9 : i = 9 → n ≤ 1 := fun h => by subst h; omega
  by_cases hn : n < 128
  ·rw [varS_lo hn]
   simp only [List.singleton_append, readS, ofNat_toNat (show n < 256 by omega), List.length_singleton]
   rw [if_neg (by omega), if_neg (by omega), if_pos hn]
  ·rw [varS_hi hn]
   have h9' : i ≠ 9 := fun h => by have := h9 h; omega
   simp only [List.cons_append, readS, ofNat_toNat (show n % 128 + 128 < 256 by omega), List.length_cons]
   rw [if_neg (by omega), if_neg (by omega), if_neg (by omega)]
   have e : n = 128 * (n / 128) + n % 128 := (Nat.div_add_mod n 128).symm
   have e2 : n * 128 ^ i = (n / 128) * 128 ^ (i + 1) + n % 128 * 128 ^ i := by
    rw [Nat.pow_succ]
    conv => lhs; rw [e, Nat.add_mul]
    rw [Nat.mul_comm 128 (n / 128), Nat.mul_assoc, Nat.mul_comm 128 (128 ^ i)]
   match m, hm with
   | 0, hm => exact absurd hm (by omega)
   | m + 1, hm =>
    rw [read_var m (n / 128) (by omega) (i + 1) _ r (by omega) (by omega) (by omega)]
    rw [show n % 128 + 128 - 128 = n % 128 by omega, e2]
    refine Prod.ext (by dsimp only; omega) (Prod.ext (by dsimp only; omega) rfl)
theorem read_var0 {n : Nat} (h : n < 18446744073709551616) (r : List UInt8) : readS (varS n ++ r) 0 0 = (n, (varS n).length, 0) := by
 have := read_var n n (Nat.le_refl n) 0 0 r (by omega) (by omega) (by omega)
 rw [this]
 refine Prod.ext (by dsimp only; omega) (Prod.ext (by dsimp only; omega) rfl)
theorem read_ok : ∀ (b : List UInt8) (i n : Nat), i ≤ 9 → n < 128 ^ i → (readS b i n).2.2 = 0 → i < (readS b i n).2.1 ∧ (readS b i n).2.1 ≤ i + b.length ∧ (readS b i n).1 < 18446744073709551616
 | [], i, n, _, _, h => by simp [readS] at h
 | x :: r, i, n, hi, hn, h => by
  have hx := x.toNat_lt
  rw [readS] at h ⊢
  have hp : i ≤ 8 → 128 ^ i ≤ 72057594037927936 := fun h => Nat.le_trans (Nat.pow_le_pow_right (by omega) h) (by decide)
  split at h
  ·cases h
  ·rename_i h1
   rw [if_neg h1]
   split at h
   ·cases h
   ·rename_i h2
    rw [if_neg h2]
    split at h
    ·rename_i h3
     rw [if_pos h3]
     refine ⟨by dsimp only; omega, by dsimp only; simp only [List.length_cons]; omega, ?_⟩
     dsimp only
     rcases Nat.lt_or_ge i 9 with h9 | h9
     ·have := hp (by omega)
      have h5 : x.toNat * 128 ^ i ≤ 127 * 128 ^ i := Nat.mul_le_mul_right _ (by omega)
      omega
     ·have : i = 9 := by omega
      subst this
      omega
    ·rename_i h3
     rw [if_neg h3]
     have h9 : i ≠ 9 := fun he => h1 ⟨he, by omega⟩
     have := read_ok r (i + 1) (n + (x.toNat - 128) * 128 ^ i) (by omega) (by
      rw [Nat.pow_succ]
      have : (x.toNat - 128) * 128 ^ i ≤ 127 * 128 ^ i := Nat.mul_le_mul_right _ (by omega)
      omega) h
     simp only [List.length_cons]
     omega
structure Fld where
 num : Nat
 kind : Nat
 val : Nat
 bytes : List UInt8
 deriving DecidableEq
def fld0 : Fld := ⟨0, 0, 0, []⟩
def fieldS (f : Fld) : List UInt8 := varS (f.num * 8 + f.kind) ++ (if f.kind = 0 then varS f.val else varS f.bytes.length ++ f.bytes)
def msgS (l : List Fld) : List UInt8 := (l.map fieldS).flatten
def okF (f : Fld) : Prop := 1 ≤ f.num ∧ f.num ≤ 536870911 ∧ (f.kind = 0 ∧ f.bytes = [] ∧ f.val < 18446744073709551616 ∨ f.kind = 2 ∧ f.val = 0 ∧ f.bytes.length < 18446744073709551616)
def oneS (b : List UInt8) : Fld × Nat × Nat :=
 match readS b 0 0 with
 | (tag, n, e) => if e ≠ 0 then (fld0, 0, e) else
  if tag / 8 < 1 ∨ 536870911 < tag / 8 ∨ (tag % 8 ≠ 0 ∧ tag % 8 ≠ 2) then (fld0, 0, 4) else
  match readS (b.drop n) 0 0 with
  | (v, k, e) => if e ≠ 0 then (fld0, 0, e) else
   if tag % 8 = 0 then (⟨tag / 8, 0, v, []⟩, n + k, 0) else
   if b.length - (n + k) < v then (fld0, 0, 5) else (⟨tag / 8, 2, 0, (b.drop (n + k)).take v⟩, n + k + v, 0)
theorem one_field {f : Fld} (h : okF f) (r : List UInt8) : oneS (fieldS f ++ r) = (f, (fieldS f).length, 0) := by
 obtain ⟨num, kind, val, bytes⟩ := f
 obtain ⟨h1, h2, h3⟩ := h
 dsimp only at h1 h2 h3
 unfold oneS fieldS
 dsimp only
 rw [List.append_assoc, read_var0 (by omega)]
 dsimp only
 rw [if_neg (by simp), if_neg (by omega), List.drop_left]
 rcases h3 with ⟨rfl, rfl, hv⟩ | ⟨rfl, rfl, hv⟩
 ·rw [if_pos rfl, read_var0 hv]
  dsimp only
  rw [if_neg (by simp), if_pos (by omega), List.length_append, show (num * 8 + 0) / 8 = num by omega]
 ·rw [if_neg (by omega : ¬ (2 : Nat) = 0), List.append_assoc, read_var0 hv]
  dsimp only
  have e : (varS (num * 8 + 2) ++ (varS bytes.length ++ (bytes ++ r))).drop ((varS (num * 8 + 2)).length + (varS bytes.length).length) = bytes ++ r := by
   rw [← List.append_assoc, ← List.length_append, List.drop_left]
  rw [if_neg (by simp), if_neg (by omega), if_neg (by simp only [List.length_append]; omega), e, List.take_left, show (num * 8 + 2) / 8 = num by omega]
  refine Prod.ext rfl (Prod.ext ?_ rfl)
  dsimp only
  simp only [List.length_append]
  omega
theorem one_ok {b : List UInt8} (h : (oneS b).2.2 = 0) : 1 ≤ (oneS b).2.1 ∧ (oneS b).2.1 ≤ b.length ∧ okF (oneS b).1 ∧ (oneS b).1.bytes.length ≤ b.length := by
 have h1 := read_ok b 0 0 (by omega) (by omega)
 unfold oneS at h ⊢
 generalize readS b 0 0 = t at *
 obtain ⟨tag, n, e⟩ := t
 dsimp only at *
 split at h
 ·contradiction
 rename_i he
 rw [if_neg he]
 have he : e = 0 := by omega
 split at h
 ·cases h
 rename_i ht
 rw [if_neg ht]
 have h2 := read_ok (b.drop n) 0 0 (by omega) (by omega)
 generalize readS (b.drop n) 0 0 = u at *
 obtain ⟨v, k, e2⟩ := u
 dsimp only at *
 split at h
 ·contradiction
 rename_i he2
 rw [if_neg he2]
 have hh := h1 he
 have hh2 := h2 (by omega)
 rw [List.length_drop] at hh2
 split at h
 ·rename_i hk
  rw [if_pos hk]
  exact ⟨by dsimp only; omega, by dsimp only; omega, ⟨by dsimp only; omega, by dsimp only; omega, .inl ⟨rfl, rfl, by dsimp only; omega⟩⟩, by simp⟩
 ·rename_i hk
  rw [if_neg hk]
  split at h
  ·cases h
  ·rename_i hv
   rw [if_neg hv]
   have hl : ((b.drop (n + k)).take v).length = v := by rw [List.length_take, List.length_drop]; omega
   exact ⟨by dsimp only; omega, by dsimp only; omega, ⟨by dsimp only; omega, by dsimp only; omega, .inr ⟨rfl, rfl, by dsimp only; omega⟩⟩, by dsimp only; omega⟩
def fieldsG : Nat → List UInt8 → Nat → List Fld → List Fld × Nat × Nat
 | _, [], _, acc => (acc, 0, 0)
 | 0, _ :: _, at_, _ => ([], at_, 3)
 | k + 1, x :: b, at_, acc => match oneS (x :: b) with
  | (f, n, e) => if e ≠ 0 then ([], at_, e) else fieldsG k ((x :: b).drop n) (at_ + n) (acc ++ [f])
def fieldsS (b : List UInt8) : List Fld × Nat × Nat := fieldsG 1024 b 0 []
theorem fields_msg : ∀ (l : List Fld) (k at_ : Nat) (acc : List Fld), (∀ f ∈ l, okF f) → l.length ≤ k → fieldsG k (msgS l) at_ acc = (acc ++ l, 0, 0)
 | [], k, at_, acc, _, _ => by
  have : msgS [] = [] := rfl
  rw [this, List.append_nil]
  cases k <;> rfl
 | f :: l, k + 1, at_, acc, h, hk => by
  have h1 : msgS (f :: l) = fieldS f ++ msgS l := by simp [msgS]
  have h0 : 1 ≤ (fieldS f).length := by
   unfold fieldS
   have hf := h f (by simp)
   have := (varS_len10 (n := f.num * 8 + f.kind) (by unfold okF at hf; omega)).1
   rw [List.length_append]; omega
  have hone := one_field (h f (by simp)) (msgS l)
  rw [h1]
  generalize hx : fieldS f ++ msgS l = x at *
  cases x with
  | nil => have := congrArg List.length hx; simp at this; simp [this.1] at h0
  | cons y b =>
   rw [fieldsG, hone]
   dsimp only
   rw [if_neg (by simp), ← hx, List.drop_left, fields_msg l k _ _ (fun g hg => h g (by simp [hg])) (by simpa using hk), List.append_assoc]
   rfl
end
section
variable {G : GS}
theorem cv8 (m : Nat) : IntKind.u8.wrap (m : Int) = ((UInt8.ofNat m).toNat : Int) := by
 rw [w8, UInt8.toNat_ofNat']
 exact (Int.natCast_emod _ 256).symm
theorem u8_all {p : UInt8 → Prop} (h : ∀ n : Fin 256, p (UInt8.ofNat n.val)) (x : UInt8) : p x := by
 have := h ⟨x.toNat, x.toNat_lt⟩
 rwa [UInt8.ofNat_toNat] at this
theorem or128_all (x : UInt8) : x ||| 128 = UInt8.ofNat (x.toNat % 128 + 128) := u8_all (p := fun x => x ||| 128 = UInt8.ofNat (x.toNat % 128 + 128)) (by decide +kernel) x
theorem or8 (x y : UInt8) : IntKind.u8.wrap ((BitVec.ofInt IntKind.u8.bits (x.toNat : Int) ||| BitVec.ofInt IntKind.u8.bits (y.toNat : Int)).toNat : Int) = ((x ||| y).toNat : Int) := by
 have h := t8 (x ||| y)
 rw [BitVec.toNat_or, bv_of _ _ (t8 x), bv_of _ _ (t8 y), ← UInt8.toNat_or, w8]; omega
theorem and8 (x y : UInt8) : IntKind.u8.wrap ((BitVec.ofInt IntKind.u8.bits (x.toNat : Int) &&& BitVec.ofInt IntKind.u8.bits (y.toNat : Int)).toNat : Int) = ((x &&& y).toNat : Int) := by
 have h := t8 (x &&& y)
 rw [BitVec.toNat_and, bv_of _ _ (t8 x), bv_of _ _ (t8 y), ← UInt8.toNat_and, w8]; omega
theorem or128 (m : Nat) : IntKind.u8.wrap ((BitVec.ofInt IntKind.u8.bits ((UInt8.ofNat m).toNat : Int) ||| BitVec.ofInt IntKind.u8.bits (128 : Int)).toNat : Int) = ((UInt8.ofNat (m % 128 + 128)).toNat : Int) := by
 have h := or8 (UInt8.ofNat m) 128
 rw [or128_all] at h
 rw [show (UInt8.ofNat m).toNat % 128 + 128 = m % 128 + 128 by rw [UInt8.toNat_ofNat']; omega] at h
 exact h
theorem shr7 (m : Nat) : ((m : Int).fdiv (2 ^ (min (7 : Int).toNat IntKind.u64.bits))) = ((m / 128 : Nat) : Int) := by
 rw [show min (7 : Int).toNat IntKind.u64.bits = 7 by rfl, Int.fdiv_eq_ediv_of_nonneg _ (by decide)]
 exact (Int.natCast_ediv m 128).symm
theorem varS_dec {p : List UInt8} {m n : Nat} (h : p ++ varS m = varS n) (hm : ¬ m < 128) : (p ++ [UInt8.ofNat (m % 128 + 128)]) ++ varS (m / 128) = varS n := by
 rw [varS_hi hm] at h
 rw [← h, List.append_assoc]; rfl
def rowB (l : List UInt8) : VM := [(0, ⟨5, 1, true, 0, u8s l⟩)]
theorem head_b : ∀ (b : List UInt8), headSize (u8s b) 1 = true
 | [] => rfl
 | _ :: _ => rfl
theorem p_len {p : List UInt8} {m n : Nat} (h : p ++ varS m = varS n) (hn : n < 18446744073709551616) : p.length ≤ 10 := by
 have := (varS_len10 hn).2
 rw [← h, List.length_append] at this
 omega
theorem varint_r (b : List UInt8) (n : Nat) (hb : b.length < 500000000) (hn : n < 18446744073709551616) :
  SemR Tryz.prog G 152 [.sl b.length (u8s b), .int .u64 n] [] 0 (.ms 0 1 0 (b.length + (varS n).length)) (rowB (b ++ varS n)) 1 := by
 unfold rowB
 refine srq seat Tryz.func152 24 ?_
 refine go1 ?_
 ((with_reducible apply g_mem); (case hq => exact rfl); (case hv => exact rfl); (case he => (intro R hR; refine sms hR ?_; refine And.intro (head_b b) ?_; refine And.intro ⟨pf, app_ok (by kernel_rfl) pf⟩ ?_; refine ⟨u8s b, sv pf, b.length, sv pf, ?_⟩; exact hR)); (case hd => exact rfl))
 refine go1 ?_
 refine c_loop (List UInt8 × Nat) (fun x => [(5, .ms 0 1 0 (b.length + x.1.length)), (1, .int .u64 x.2)]) (fun x => [(0, ⟨5, 1, true, 0, u8s (b ++ x.1)⟩)]) 1 (fun x => x.1 ++ varS x.2 = varS n ∧ x.2 < 18446744073709551616) (fun x => x.2) ([], n) ⟨rfl, hn⟩ (by dsimp only; rw [List.length_nil, List.append_nil]; exact (vm [(0, _)] [])) ?_
 rintro ⟨p, m⟩ ⟨hp, hm1⟩
 try dsimp only
 dsimp only at hp hm1
 refine go1 ?_
 ((with_reducible apply c_cond); (case he => exact rfl); (all_goals intro h))
 ·have hm : ¬ m < 128 := by have := of_decide_eq_true h; omega
  have h2 := varS_dec hp hm
  have l2 := p_len hp hn
  (have fct := EqF.mk (cv8 m); have fct := EqF.mk (or128 m); have fct := EqF.mk (shr7 m); refine go1 ?_)
  ((with_reducible apply g_mem); (case hq => exact rfl); (case hv => exact rfl); (case he => (intro R hR; refine sms hR ?_; (refine And.intro (Nat.le_refl _) ?_; refine ⟨_, rfl, ?_⟩; refine And.intro ⟨(by simp [u8s]), app_ok (by kernel_rfl) pf⟩ ?_; refine ⟨u8s (b ++ (p ++ [UInt8.ofNat (m % 128 + 128)])), sv (by simp [u8s, cutL, setL, repM]), b.length + (p.length + 1), sv pf, ?_⟩); exact hR)); (case hd => exact rfl))
  (have fct := EqF.mk (shr7 m); refine go1 ?_)
  exact ⟨(p ++ [UInt8.ofNat (m % 128 + 128)], m / 128), ⟨h2, by dsimp only; omega⟩, by dsimp only; omega, by dsimp only; rw [List.length_append, List.length_singleton]; exact (vm [(0, _)] [])⟩
 ·have hm : m < 128 := by have := of_decide_eq_false h; omega
  have l2 := p_len hp hn
  rw [varS_lo hm] at hp
  have l3 : (varS n).length = p.length + 1 := by rw [← hp]; simp
  (have fct := EqF.mk (cv8 m); refine go1 ?_)
  ((with_reducible apply g_mem); (case hq => exact rfl); (case hv => exact rfl); (case he => (intro R hR; refine sms hR ?_; (refine And.intro (Nat.le_refl _) ?_; refine ⟨_, rfl, ?_⟩; refine And.intro ⟨(by simp [u8s]), app_ok (by kernel_rfl) pf⟩ ?_; refine ⟨u8s (b ++ varS n), sv (by rw [← hp]; simp [u8s, cutL, setL, repM]), b.length + (varS n).length, sv pf, ?_⟩); exact hR)); (case hd => exact rfl))
  refine go1 ?_
  refine ⟨[_], [(0, 7)], [], rfl, rfl, trivial, rfl, ⟨?_, trivial⟩, ?_⟩
  ·exact rv
  ·exact mm
theorem pvarint_r (b : List UInt8) (n : Nat) (hb : b.length < 500000000) (hn : n < 18446744073709551616) :
  SemR Tryz.prog G 102 [.sl b.length (u8s b), .int .u64 n] [] 0 (.ms 0 1 0 (b.length + (varS n).length)) (rowB (b ++ varS n)) 1 := by
 unfold rowB
 refine srq seat Tryz.func102 23 ?_
 refine go1 ?_
 ((with_reducible apply g_mem); (case hq => exact rfl); (case hv => exact rfl); (case he => (intro R hR; refine sms hR ?_; refine And.intro (head_b b) ?_; refine And.intro (app_ok1 (by kernel_rfl) (by omega)) ?_; exact hR)); (case hd => exact rfl))
 refine go1 ?_
 refine c_loop (List UInt8 × Nat) (fun x => [(5, .ms 0 1 0 (b.length + x.1.length)), (1, .int .u64 x.2)]) (fun x => [(0, ⟨5, 1, true, 0, u8s (b ++ x.1)⟩)]) 1 (fun x => x.1 ++ varS x.2 = varS n ∧ x.2 < 18446744073709551616) (fun x => x.2) ([], n) ⟨rfl, hn⟩ (by dsimp only; rw [List.length_nil, List.append_nil]; exact (vm [(0, _)] [])) ?_
 rintro ⟨p, m⟩ ⟨hp, hm1⟩
 try dsimp only
 dsimp only at hp hm1
 refine go1 ?_
 ((with_reducible apply c_cond); (case he => exact rfl); (all_goals intro h))
 ·have hm : ¬ m < 128 := by have := of_decide_eq_true h; omega
  have h2 := varS_dec hp hm
  have l2 := p_len hp hn
  (have fct := EqF.mk (cv8 m); have fct := EqF.mk (or128 m); have fct := EqF.mk (shr7 m); refine go1 ?_)
  ((with_reducible apply g_mem); (case hq => exact rfl); (case hv => exact rfl); (case he => (intro R hR; refine sms hR ?_; (refine And.intro (Nat.le_refl _) ?_; refine ⟨_, rfl, ?_⟩; refine And.intro ⟨(by simp [u8s]), app_ok (by kernel_rfl) pf⟩ ?_; refine ⟨u8s (b ++ (p ++ [UInt8.ofNat (m % 128 + 128)])), sv (by simp [u8s, cutL, setL, repM]), b.length + (p.length + 1), sv pf, ?_⟩); exact hR)); (case hd => exact rfl))
  (have fct := EqF.mk (shr7 m); refine go1 ?_)
  exact ⟨(p ++ [UInt8.ofNat (m % 128 + 128)], m / 128), ⟨h2, by dsimp only; omega⟩, by dsimp only; omega, by dsimp only; rw [List.length_append, List.length_singleton]; exact (vm [(0, _)] [])⟩
 ·have hm : m < 128 := by have := of_decide_eq_false h; omega
  have l2 := p_len hp hn
  rw [varS_lo hm] at hp
  have l3 : (varS n).length = p.length + 1 := by rw [← hp]; simp
  (have fct := EqF.mk (cv8 m); refine go1 ?_)
  ((with_reducible apply g_mem); (case hq => exact rfl); (case hv => exact rfl); (case he => (intro R hR; refine sms hR ?_; (refine And.intro (Nat.le_refl _) ?_; refine ⟨_, rfl, ?_⟩; refine And.intro ⟨(by simp [u8s]), app_ok (by kernel_rfl) pf⟩ ?_; refine ⟨u8s (b ++ varS n), sv (by rw [← hp]; simp [u8s, cutL, setL, repM]), b.length + (varS n).length, sv pf, ?_⟩); exact hR)); (case hd => exact rfl))
  refine go1 ?_
  refine ⟨[_], [(0, 7)], [], rfl, rfl, trivial, rfl, ⟨?_, trivial⟩, ?_⟩
  ·exact rv
  ·exact mm
end
section
variable {G : GS}
attribute [local irreducible] vOpsN vOpsG vOpsD vOpGD NextD vC SeqQ BlockQ
theorem and127_all (x : UInt8) : x &&& 127 = UInt8.ofNat (x.toNat % 128) := u8_all (p := fun x => x &&& 127 = UInt8.ofNat (x.toNat % 128)) (by decide +kernel) x
theorem and127 (x : UInt8) : IntKind.u8.wrap ((BitVec.ofInt IntKind.u8.bits (x.toNat : Int) &&& BitVec.ofInt IntKind.u8.bits (127 : Int)).toNat : Int) = ((x.toNat % 128 : Nat) : Int) := by
 have h := and8 x 127
 rw [and127_all, UInt8.toNat_ofNat', Nat.mod_eq_of_lt (show x.toNat % 128 < 2 ^ 8 by omega)] at h
 exact h
theorem p128 (i : Nat) : 2 ^ (7 * i) = 128 ^ i := by rw [Nat.pow_mul]
theorem v_bound {y i : Nat} (h : i ≤ 8 ∧ y < 128 ∨ i = 9 ∧ y ≤ 1) : y * 128 ^ i + 128 ^ i ≤ 18446744073709551616 := by
 rcases h with ⟨h1, h2⟩ | ⟨rfl, h2⟩
 ·have : 128 ^ i ≤ 128 ^ 8 := Nat.pow_le_pow_right (by omega) h1
  have h3 : y * 128 ^ i ≤ 127 * 128 ^ i := Nat.mul_le_mul_right _ (by omega)
  omega
 ·omega
theorem shlv {y i : Nat} (h : i ≤ 8 ∧ y < 128 ∨ i = 9 ∧ y ≤ 1) : IntKind.u64.wrap ((y : Int) * 2 ^ (min (7 * (i : Int)).toNat IntKind.u64.bits)) = ((y * 128 ^ i : Nat) : Int) := by
 have e : min (7 * (i : Int)).toNat IntKind.u64.bits = 7 * i := by simp [IntKind.bits]; omega
 have hb := v_bound h
 have hp : 0 < 128 ^ i := Nat.pow_pos (by omega)
 rw [e, wu64, show ((y : Int) * 2 ^ (7 * i)) = ((y * 128 ^ i : Nat) : Int) by rw [← p128, Int.natCast_mul, Int.natCast_pow]; rfl]
 omega
theorem orv {n y i : Nat} (hn : n < 128 ^ i) (h : i ≤ 8 ∧ y < 128 ∨ i = 9 ∧ y ≤ 1) : IntKind.u64.wrap ((BitVec.ofInt IntKind.u64.bits (n : Int) ||| BitVec.ofInt IntKind.u64.bits ((y * 128 ^ i : Nat) : Int)).toNat : Int) = ((n + y * 128 ^ i : Nat) : Int) := by
 have hb := v_bound h
 have hp : 0 < 128 ^ i := Nat.pow_pos (by omega)
 have e : n ||| y * 128 ^ i = n + y * 128 ^ i := by
  rw [← p128] at hn ⊢
  have := Nat.shiftLeft_add_eq_or_of_lt hn y
  rw [Nat.shiftLeft_eq] at this
  rw [Nat.or_comm, ← this, Nat.add_comm]
 rw [BitVec.toNat_or, bv_of _ _ (show n < 2 ^ IntKind.u64.bits by show n < 18446744073709551616; omega), bv_of _ _ (show y * 128 ^ i < 2 ^ IntKind.u64.bits by show _ < 18446744073709551616; omega), e, wu64]
 omega
def readM (x : Nat × Nat × Nat) : MV := .tup [.int .u64 x.1, .int .i64 x.2.1, .int .i64 x.2.2]
theorem idx_u8 {l : List UInt8} {k : Nat} (hk : k < l.length) : idxL (u8s l) l.length (k : Int) = some (.int .u8 l[k].toNat) := index_at hk (by simp [u8s, hk])
theorem read_m (b : List UInt8) (hb : b.length < 4000000000) : SemC Tryz.prog G 175 [.sl b.length (u8s b)] (readM (readS b 0 0)) := by
  unfold readM
  generalize hr : readS b 0 0 = r at *
  obtain ⟨r1, r2, r3⟩ := r
  dsimp only
  refine scq seat Tryz.func175 53 ?_
  refine go1 ?_
  refine c_loop (Nat × Nat) (fun x => [(0, .sl b.length (u8s b)), (5, .int .u64 x.2), (6, .int .i64 x.1)]) (fun _ => []) 0 (fun x => x.1 ≤ 9 ∧ x.1 ≤ b.length ∧ x.2 < 128 ^ x.1 ∧ readS (b.drop x.1) x.1 x.2 = (r1, r2, r3)) (fun x => b.length - x.1) (0, 0) ⟨by dsimp only; omega, by dsimp only; omega, by dsimp only; omega, by dsimp only; rw [List.drop_zero]; exact hr⟩ (by dsimp only; exact (vm [] [])) ?_
  rintro ⟨i, n⟩ ⟨hi, hib, hn, hR⟩
  try dsimp only
  dsimp only at hi hib hn hR
  refine go1 ?_
  ((with_reducible apply c_cond); (case he => exact rfl); (all_goals intro h))
  · have hi' : i = b.length := by have := of_decide_eq_true h; omega
    rw [List.drop_eq_nil_of_le (by omega), readS] at hR
    simp only [Prod.mk.injEq] at hR
    obtain ⟨rfl, rfl, rfl⟩ := hR
    refine go1 ?_
    refine go0 ?_
    rfl
  · have hi' : i < b.length := by have := of_decide_eq_false h; omega
    have hel := idx_u8 hi'
    rw [List.drop_eq_getElem_cons hi', readS] at hR
    generalize b[i] = x at *
    have hx256 := x.toNat_lt
    refine go1 ?_
    ((with_reducible apply n_grd); (case hf => exact ⟨rfl, rfl, rfl⟩); (all_goals intro h))
    · have h9 : i = 9 := by have : (i : Int) = 9 := by simpa using h
                            omega
      (have fct := SomF.mk (hel); refine go1 ?_)
      ((with_reducible apply c_cond); (case he => exact rfl); (all_goals intro h))
      · have hx := of_decide_eq_true h
        rw [if_pos (by omega)] at hR
        simp only [Prod.mk.injEq] at hR
        obtain ⟨rfl, rfl, rfl⟩ := hR
        refine go1 ?_
        refine go0 ?_
        rfl
      · have hx := of_decide_eq_false h
        rw [if_neg (by omega)] at hR
        refine go1 ?_
        ((with_reducible apply n_grd); (case hf => exact ⟨rfl, rfl, rfl⟩); (all_goals intro h))
        · have h0 := of_decide_eq_true h
          (have fct := SomF.mk (hel); refine go1 ?_)
          ((with_reducible apply c_cond); (case he => exact rfl); (all_goals intro h))
          · have hx : x.toNat = 0 := by simpa using h
            rw [if_pos (by omega)] at hR
            simp only [Prod.mk.injEq] at hR
            obtain ⟨rfl, rfl, rfl⟩ := hR
            refine go1 ?_
            refine go0 ?_
            rfl
          · have hx : x.toNat ≠ 0 := by simpa using h
            rw [if_neg (by omega)] at hR
            have hv : i ≤ 8 ∧ x.toNat % 128 < 128 ∨ i = 9 ∧ x.toNat % 128 ≤ 1 := by omega
            (have fct := EqF.mk (and127 x); have fct := EqF.mk (shlv hv); have fct := EqF.mk (orv hn hv); have fct := SomF.mk (hel); refine go1 ?_)
            ((with_reducible apply c_cond); (case he => exact rfl); (all_goals intro h))
            · have hx := of_decide_eq_true h
              rw [if_pos (by omega)] at hR
              simp only [Prod.mk.injEq] at hR
              obtain ⟨rfl, rfl, rfl⟩ := hR
              refine go1 ?_
              refine go0 ?_
              rw [Nat.mod_eq_of_lt (show x.toNat < 128 by omega)]
              rfl
            · have hx := of_decide_eq_false h
              rw [if_neg (by omega)] at hR
              refine go1 ?_
              refine ⟨(i + 1, n + x.toNat % 128 * 128 ^ i), ⟨by dsimp only; omega, by dsimp only; omega, ?_, ?_⟩, by show b.length - (i + 1) < b.length - i; omega, (by dsimp only; exact (vm [] []))⟩
              · have h3 : x.toNat % 128 * 128 ^ i ≤ 127 * 128 ^ i := Nat.mul_le_mul_right _ (by omega)
                dsimp only
                rw [Nat.pow_succ]
                omega
              · dsimp only
                rw [show x.toNat % 128 = x.toNat - 128 by omega]
                exact hR
        · have h0 : ¬ (0 : Int) < i := by simpa using h
          rw [if_neg (by omega)] at hR
          have hv : i ≤ 8 ∧ x.toNat % 128 < 128 ∨ i = 9 ∧ x.toNat % 128 ≤ 1 := by omega
          (have fct := EqF.mk (and127 x); have fct := EqF.mk (shlv hv); have fct := EqF.mk (orv hn hv); have fct := SomF.mk (hel); refine go1 ?_)
          ((with_reducible apply c_cond); (case he => exact rfl); (all_goals intro h))
          · have hx := of_decide_eq_true h
            rw [if_pos (by omega)] at hR
            simp only [Prod.mk.injEq] at hR
            obtain ⟨rfl, rfl, rfl⟩ := hR
            refine go1 ?_
            refine go0 ?_
            rw [Nat.mod_eq_of_lt (show x.toNat < 128 by omega)]
            rfl
          · have hx := of_decide_eq_false h
            rw [if_neg (by omega)] at hR
            refine go1 ?_
            refine ⟨(i + 1, n + x.toNat % 128 * 128 ^ i), ⟨by dsimp only; omega, by dsimp only; omega, ?_, ?_⟩, by show b.length - (i + 1) < b.length - i; omega, (by dsimp only; exact (vm [] []))⟩
            · have h3 : x.toNat % 128 * 128 ^ i ≤ 127 * 128 ^ i := Nat.mul_le_mul_right _ (by omega)
              dsimp only
              rw [Nat.pow_succ]
              omega
            · dsimp only
              rw [show x.toNat % 128 = x.toNat - 128 by omega]
              exact hR
    · have h9 : i ≠ 9 := by have : ¬ (i : Int) = 9 := by simpa using h
                            omega
      rw [if_neg (by omega)] at hR
      refine go1 ?_
      ((with_reducible apply n_grd); (case hf => exact ⟨rfl, rfl, rfl⟩); (all_goals intro h))
      · have h0 := of_decide_eq_true h
        (have fct := SomF.mk (hel); refine go1 ?_)
        ((with_reducible apply c_cond); (case he => exact rfl); (all_goals intro h))
        · have hx : x.toNat = 0 := by simpa using h
          rw [if_pos (by omega)] at hR
          simp only [Prod.mk.injEq] at hR
          obtain ⟨rfl, rfl, rfl⟩ := hR
          refine go1 ?_
          refine go0 ?_
          rfl
        · have hx : x.toNat ≠ 0 := by simpa using h
          rw [if_neg (by omega)] at hR
          have hv : i ≤ 8 ∧ x.toNat % 128 < 128 ∨ i = 9 ∧ x.toNat % 128 ≤ 1 := by omega
          (have fct := EqF.mk (and127 x); have fct := EqF.mk (shlv hv); have fct := EqF.mk (orv hn hv); have fct := SomF.mk (hel); refine go1 ?_)
          ((with_reducible apply c_cond); (case he => exact rfl); (all_goals intro h))
          · have hx := of_decide_eq_true h
            rw [if_pos (by omega)] at hR
            simp only [Prod.mk.injEq] at hR
            obtain ⟨rfl, rfl, rfl⟩ := hR
            refine go1 ?_
            refine go0 ?_
            rw [Nat.mod_eq_of_lt (show x.toNat < 128 by omega)]
            rfl
          · have hx := of_decide_eq_false h
            rw [if_neg (by omega)] at hR
            refine go1 ?_
            refine ⟨(i + 1, n + x.toNat % 128 * 128 ^ i), ⟨by dsimp only; omega, by dsimp only; omega, ?_, ?_⟩, by show b.length - (i + 1) < b.length - i; omega, (by dsimp only; exact (vm [] []))⟩
            · have h3 : x.toNat % 128 * 128 ^ i ≤ 127 * 128 ^ i := Nat.mul_le_mul_right _ (by omega)
              dsimp only
              rw [Nat.pow_succ]
              omega
            · dsimp only
              rw [show x.toNat % 128 = x.toNat - 128 by omega]
              exact hR
      · have h0 : ¬ (0 : Int) < i := by simpa using h
        rw [if_neg (by omega)] at hR
        have hv : i ≤ 8 ∧ x.toNat % 128 < 128 ∨ i = 9 ∧ x.toNat % 128 ≤ 1 := by omega
        (have fct := EqF.mk (and127 x); have fct := EqF.mk (shlv hv); have fct := EqF.mk (orv hn hv); have fct := SomF.mk (hel); refine go1 ?_)
        ((with_reducible apply c_cond); (case he => exact rfl); (all_goals intro h))
        · have hx := of_decide_eq_true h
          rw [if_pos (by omega)] at hR
          simp only [Prod.mk.injEq] at hR
          obtain ⟨rfl, rfl, rfl⟩ := hR
          refine go1 ?_
          refine go0 ?_
          rw [Nat.mod_eq_of_lt (show x.toNat < 128 by omega)]
          rfl
        · have hx := of_decide_eq_false h
          rw [if_neg (by omega)] at hR
          refine go1 ?_
          refine ⟨(i + 1, n + x.toNat % 128 * 128 ^ i), ⟨by dsimp only; omega, by dsimp only; omega, ?_, ?_⟩, by show b.length - (i + 1) < b.length - i; omega, (by dsimp only; exact (vm [] []))⟩
          · have h3 : x.toNat % 128 * 128 ^ i ≤ 127 * 128 ^ i := Nat.mul_le_mul_right _ (by omega)
            dsimp only
            rw [Nat.pow_succ]
            omega
          · dsimp only
            rw [show x.toNat % 128 = x.toNat - 128 by omega]
            exact hR
end
section
variable {G : GS}
attribute [local irreducible] vOpsN vOpsG vOpsD vOpGD NextD vC SeqQ BlockQ
def fldM (f : Fld) : MV := .st [.int .i64 f.num, .int .i64 f.kind, .int .u64 f.val, .sl f.bytes.length (u8s f.bytes)]
theorem cut_u8 (b : List UInt8) (x y : Nat) : cutL (u8s b) x y = u8s ((b.drop x).take (y - x)) := by simp [cutL, u8s]
theorem head_cut (b : List UInt8) (x y : Nat) : headSize (cutL (u8s b) x y) 1 = true := by rw [cut_u8]; exact head_b _
theorem bndLo {n k : Nat} {κ : IntKind} (h : k ≤ n) : bounds n (some (.int κ (k : Int))) none = some (k, n) := by
 unfold bounds
 dsimp only
 rw [if_pos ⟨by omega, by omega⟩]
 simp
theorem bndHi {n k : Nat} {κ : IntKind} (h : k ≤ n) : bounds n none (some (.int κ (k : Int))) = some (0, k) := by
 unfold bounds
 dsimp only
 rw [if_pos ⟨by omega, by omega⟩]
 simp
theorem bnd_at {n lo hi : Nat} {a c : Int} {κ κ' : IntKind} (ha : a = lo) (hc : c = hi) (h1 : lo ≤ hi) (h2 : hi ≤ n) : bounds n (some (.int κ a)) (some (.int κ' c)) = some (lo, hi) := by
 subst ha hc
 unfold bounds
 dsimp only
 rw [if_pos ⟨by omega, by omega⟩]
 dsimp only
 rw [if_pos ⟨by omega, by simp; omega⟩]
 simp
theorem tmodn (a b : Nat) : (a : Int).tmod (b : Int) = ((a % b : Nat) : Int) := by
 rw [Int.tmod_eq_emod_of_nonneg (by omega)]; exact (Int.natCast_emod a b).symm
theorem tdivn {a : Nat} (b : Nat) (ha : a < 18446744073709551616) : IntKind.u64.wrap ((a : Int).tdiv (b : Int)) = ((a / b : Nat) : Int) := by
 have := Nat.div_le_self a b
 rw [Int.tdiv_eq_ediv_of_nonneg (by omega), ← Int.natCast_ediv, wu64]
 generalize a / b = c at *
 omega
theorem read_cut {b : List UInt8} (hb : b.length < 4000000000) {n : Nat} {r : Nat × Nat × Nat} (h : readS (b.drop n) 0 0 = r) : SemC Tryz.prog G 175 [.sl (b.length - n) (cutL (u8s b) n b.length)] (readM r) := by
 have := read_m (G := G) (b.drop n) (by rw [List.length_drop]; omega)
 rw [h, List.length_drop] at this
 rw [cut_u8, List.take_of_length_le (by rw [List.length_drop]; omega)]
 exact this
theorem one_r (b : List UInt8) (hb : b.length < 1000000000) : SemR Tryz.prog G 142 [.sl b.length (u8s b)] [] 0 (.tup [fldM (oneS b).1, .int .i64 (oneS b).2.1, .int .i64 (oneS b).2.2]) [] 0 := by
  have c1 := read_m (G := G) b (by omega)
  have h1ok := read_ok b 0 0 (by omega) (by omega)
  generalize hr : oneS b = r at *
  obtain ⟨f, m, e⟩ := r
  have hR := hr
  unfold oneS at hR
  generalize readS b 0 0 = t at *
  obtain ⟨T, n, e1⟩ := t
  dsimp only at hR h1ok
  unfold readM at c1
  unfold fldM
  dsimp only at c1
  dsimp only
  refine srq seat Tryz.func142 98 ?_
  refine go1 ?_
  refine g_call2 rfl (fun _ h => h) rfl (semR_of_semC (c1)) rfl lm ?_
  refine go1 ?_
  ((with_reducible apply c_cond); (case he => exact rfl); (all_goals intro h))
  · have he1 : e1 ≠ 0 := by intro h0; subst h0; cases h
    rw [if_pos he1] at hR
    simp only [Prod.mk.injEq] at hR
    obtain ⟨rfl, rfl, rfl⟩ := hR
    refine go1 ?_
    refine go0 ?_
    refine ⟨[_, _, _], [], [], rfl, rfl, trivial, rfl, ⟨?_, ?_, ?_, trivial⟩, ?_⟩
    · exact .inr ⟨_, rfl, ⟨rfl, rfl⟩, ⟨rfl, rfl⟩, ⟨rfl, rfl⟩, .inr ⟨rfl, rfl⟩, trivial⟩
    · exact rv
    · exact rv
    · exact mm
  have he1 : e1 = 0 := by have : (e1 : Int) = 0 := by simpa using h
                          omega
  subst he1
  have hT := (h1ok rfl).2.2
  rw [if_neg (by simp)] at hR
  have hmod : (T : Int).tmod 8 = ((T % 8 : Nat) : Int) := tmodn T 8
  have hdiv : IntKind.u64.wrap ((T : Int).tdiv 8) = ((T / 8 : Nat) : Int) := tdivn 8 hT
  have h2ok := read_ok (b.drop n) 0 0 (by omega) (by omega)
  generalize hr2 : readS (b.drop n) 0 0 = t2 at *
  obtain ⟨v, k, e2⟩ := t2
  have c2 := read_cut (G := G) (b := b) (by omega) hr2
  unfold readM at c2
  dsimp only at hR c2 h2ok
  generalize hD : T / 8 = D at *
  generalize hK : T % 8 = K at *
  (have fct := EqF.mk (hmod); have fct := EqF.mk (hdiv); refine go1 ?_)
  ((with_reducible apply n_grd); (case hf => exact ⟨rfl, rfl, rfl⟩); (all_goals intro h))
  · have hD1 : ¬ (D : Int) < 1 := by simpa using h
    (have fct := EqF.mk (hdiv); refine go1 ?_)
    ((with_reducible apply n_grd); (case hf => exact ⟨rfl, rfl, rfl⟩); (all_goals intro h))
    · have hD3 : ¬ (536870911 : Int) < D := by simpa using h
      refine go1 ?_
      ((with_reducible apply n_grd); (case hf => exact ⟨rfl, rfl, rfl⟩); (all_goals intro h))
      · have hK0 : K ≠ 0 := by have : ¬ (K : Int) = 0 := by simpa using h
                               omega
        refine go1 ?_
        ((with_reducible apply c_cond); (case he => exact rfl); (all_goals intro h))
        · have hK2 : K ≠ 2 := by have : ¬ (K : Int) = 2 := by simpa using h
                                 omega
          rw [if_pos (by omega)] at hR
          simp only [Prod.mk.injEq] at hR
          obtain ⟨rfl, rfl, rfl⟩ := hR
          refine go1 ?_
          refine go0 ?_
          refine ⟨[_, _, _], [], [], rfl, rfl, trivial, rfl, ⟨?_, ?_, ?_, trivial⟩, ?_⟩
          · exact .inr ⟨_, rfl, ⟨rfl, rfl⟩, ⟨rfl, rfl⟩, ⟨rfl, rfl⟩, .inr ⟨rfl, rfl⟩, trivial⟩
          · exact rv
          · exact rv
          · exact mm
        have hK2 : K = 2 := by have : (K : Int) = 2 := by simpa using h
                               omega
        subst hK2
        rw [if_neg (by omega)] at hR
        have hD2 : IntKind.u64.wrap ((T : Int).tdiv 8) = (D : Int) := hdiv
        have hnb : n ≤ b.length := by have := h1ok rfl; omega
        (have fct := EqF.mk (hdiv); have fct := SomF.mk (bndLo (κ := .i64) hnb); have fct := SideF.mk (head_b b); refine go1 ?_)
        refine g_call2 rfl (fun _ h => h) rfl (semR_of_semC (c2)) rfl lm ?_
        refine go1 ?_
        ((with_reducible apply c_cond); (case he => exact rfl); (all_goals intro h))
        · have he2 : e2 ≠ 0 := by intro h0; subst h0; cases h
          rw [if_pos he2] at hR
          simp only [Prod.mk.injEq] at hR
          obtain ⟨rfl, rfl, rfl⟩ := hR
          refine go1 ?_
          refine go0 ?_
          refine ⟨[_, _, _], [], [], rfl, rfl, trivial, rfl, ⟨?_, ?_, ?_, trivial⟩, ?_⟩
          · exact .inr ⟨_, rfl, ⟨rfl, rfl⟩, ⟨rfl, rfl⟩, ⟨rfl, rfl⟩, .inr ⟨rfl, rfl⟩, trivial⟩
          · exact rv
          · exact rv
          · exact mm
        have he2 : e2 = 0 := by have : (e2 : Int) = 0 := by simpa using h
                                omega
        subst he2
        have hk := h2ok rfl
        rw [List.length_drop] at hk
        rw [if_neg (by simp)] at hR
        rw [if_neg (by omega)] at hR
        refine go1 ?_
        ((with_reducible apply c_cond); (case he => exact rfl); (all_goals intro h))
        · have hv := of_decide_eq_true h
          rw [if_pos (by omega)] at hR
          simp only [Prod.mk.injEq] at hR
          obtain ⟨rfl, rfl, rfl⟩ := hR
          refine go1 ?_
          refine go0 ?_
          refine ⟨[_, _, _], [], [], rfl, rfl, trivial, rfl, ⟨?_, ?_, ?_, trivial⟩, ?_⟩
          · exact .inr ⟨_, rfl, ⟨rfl, rfl⟩, ⟨rfl, rfl⟩, ⟨rfl, rfl⟩, .inr ⟨rfl, rfl⟩, trivial⟩
          · exact rv
          · exact rv
          · exact mm
        have hv := of_decide_eq_false h
        rw [if_neg (by omega)] at hR
        simp only [Prod.mk.injEq] at hR
        obtain ⟨rfl, rfl, rfl⟩ := hR
        have hbn : bounds b.length (some (.int .i64 ((n : Int) + k))) (some (.int .i64 ((n : Int) + k + v))) = some (n + k, n + k + v) := bnd_at (by omega) (by omega) (by omega) (by omega)
        have hl : ((b.drop (n + k)).take v).length = v := by rw [List.length_take, List.length_drop]; omega
        (have fct := SomF.mk (hbn); have fct := SideF.mk (head_b b); refine go1 ?_)
        ((with_reducible apply g_mem); (case hq => exact rfl); (case hv => exact rfl); (case he => (intro R hR; refine sms hR ?_; refine And.intro (head_cut b _ _) ?_; refine And.intro ⟨(by simp), app_ok (by kernel_rfl) pf⟩ ?_; refine ⟨u8s ((b.drop (n + k)).take v), sv (by rw [cut_u8, show n + k + v - (n + k) = v by omega]; simp), v, sv pf, ?_⟩; exact hR)); (case hd => exact rfl))
        refine go1 ?_
        refine go0 ?_
        rw [show ((n + k + v : Nat) : Int) = (n : Int) + k + v by omega]
        dsimp only
        rw [hl]
        refine ⟨[_, _, _], [], [(75, v)], rfl, rfl, ?_, rfl, ⟨?_, ?_, ?_, trivial⟩, ?_⟩
        · exact ⟨by show v ≤ (u8s ((b.drop (n + k)).take v)).length; rw [show (u8s ((b.drop (n + k)).take v)).length = v by simp only [u8s, List.length_map]; exact hl]; exact Nat.le_refl _, trivial⟩
        · exact .inr ⟨_, rfl, ⟨rfl, rfl⟩, ⟨rfl, rfl⟩, ⟨rfl, rfl⟩, .inr ⟨rfl, rfl, rfl, Nat.le_of_eq (Nat.zero_add _), by simp [cutL, u8s, List.take_take]⟩, trivial⟩
        · exact rv
        · exact rv
        · exact mm
      · have hK0 : K = 0 := by have : (K : Int) = 0 := by simpa using h
                               omega
        subst hK0
        rw [if_neg (by omega)] at hR
        have hD2 : IntKind.u64.wrap ((T : Int).tdiv 8) = (D : Int) := hdiv
        have hnb : n ≤ b.length := by have := h1ok rfl; omega
        (have fct := EqF.mk (hdiv); have fct := SomF.mk (bndLo (κ := .i64) hnb); have fct := SideF.mk (head_b b); refine go1 ?_)
        refine g_call2 rfl (fun _ h => h) rfl (semR_of_semC (c2)) rfl lm ?_
        refine go1 ?_
        ((with_reducible apply c_cond); (case he => exact rfl); (all_goals intro h))
        · have he2 : e2 ≠ 0 := by intro h0; subst h0; cases h
          rw [if_pos he2] at hR
          simp only [Prod.mk.injEq] at hR
          obtain ⟨rfl, rfl, rfl⟩ := hR
          refine go1 ?_
          refine go0 ?_
          refine ⟨[_, _, _], [], [], rfl, rfl, trivial, rfl, ⟨?_, ?_, ?_, trivial⟩, ?_⟩
          · exact .inr ⟨_, rfl, ⟨rfl, rfl⟩, ⟨rfl, rfl⟩, ⟨rfl, rfl⟩, .inr ⟨rfl, rfl⟩, trivial⟩
          · exact rv
          · exact rv
          · exact mm
        have he2 : e2 = 0 := by have : (e2 : Int) = 0 := by simpa using h
                                omega
        subst he2
        have hk := h2ok rfl
        rw [List.length_drop] at hk
        rw [if_neg (by simp)] at hR
        rw [if_pos rfl] at hR
        simp only [Prod.mk.injEq] at hR
        obtain ⟨rfl, rfl, rfl⟩ := hR
        refine go1 ?_
        refine go0 ?_
        refine ⟨[_, _, _], [], [], rfl, rfl, trivial, rfl, ⟨?_, ?_, ?_, trivial⟩, ?_⟩
        · exact .inr ⟨_, rfl, ⟨rfl, rfl⟩, ⟨rfl, rfl⟩, ⟨rfl, rfl⟩, .inr ⟨rfl, rfl⟩, trivial⟩
        · exact rv
        · exact rv
        · exact mm
    · have hD3 : (536870911 : Int) < D := by simpa using h
      rw [if_pos (by omega)] at hR
      refine go1 ?_
      simp only [Prod.mk.injEq] at hR
      obtain ⟨rfl, rfl, rfl⟩ := hR
      refine go1 ?_
      refine go0 ?_
      refine ⟨[_, _, _], [], [], rfl, rfl, trivial, rfl, ⟨?_, ?_, ?_, trivial⟩, ?_⟩
      · exact .inr ⟨_, rfl, ⟨rfl, rfl⟩, ⟨rfl, rfl⟩, ⟨rfl, rfl⟩, .inr ⟨rfl, rfl⟩, trivial⟩
      · exact rv
      · exact rv
      · exact mm
  · have hD1 : (D : Int) < 1 := by simpa using h
    rw [if_pos (by omega)] at hR
    refine go1 ?_
    simp only [Prod.mk.injEq] at hR
    obtain ⟨rfl, rfl, rfl⟩ := hR
    refine go1 ?_
    refine go0 ?_
    refine ⟨[_, _, _], [], [], rfl, rfl, trivial, rfl, ⟨?_, ?_, ?_, trivial⟩, ?_⟩
    · exact .inr ⟨_, rfl, ⟨rfl, rfl⟩, ⟨rfl, rfl⟩, ⟨rfl, rfl⟩, .inr ⟨rfl, rfl⟩, trivial⟩
    · exact rv
    · exact rv
    · exact mm
end
section
variable {G : GS}
attribute [local irreducible] vOpsN vOpsG vOpsD vOpGD NextD vC SeqQ BlockQ
theorem one_cut {b : List UInt8} (hb : b.length < 1000000000) {n : Nat} : SemR Tryz.prog G 142 [.sl (b.length - n) (cutL (u8s b) n b.length)] [] 0 (.tup [fldM (oneS (b.drop n)).1, .int .i64 (oneS (b.drop n)).2.1, .int .i64 (oneS (b.drop n)).2.2]) [] 0 := by
 have := one_r (G := G) (b.drop n) (by rw [List.length_drop]; omega)
 rw [List.length_drop] at this
 rw [cut_u8, List.take_of_length_le (by rw [List.length_drop]; omega)]
 exact this
theorem fieldsG_end (k at_ : Nat) (acc : List Fld) : fieldsG k [] at_ acc = (acc, 0, 0) := by cases k <;> rfl
theorem fieldsG_full {b : List UInt8} (h : b ≠ []) (at_ : Nat) (acc : List Fld) : fieldsG 0 b at_ acc = ([], at_, 3) := by
 cases b with
 | nil => exact absurd rfl h
 | cons x b => rfl
theorem fieldsG_step {b : List UInt8} (h : b ≠ []) (k at_ : Nat) (acc : List Fld) : fieldsG (k + 1) b at_ acc = if (oneS b).2.2 ≠ 0 then ([], at_, (oneS b).2.2) else fieldsG k (b.drop (oneS b).2.1) (at_ + (oneS b).2.1) (acc ++ [(oneS b).1]) := by
 cases b with
 | nil => exact absurd rfl h
 | cons x b => rw [fieldsG]
theorem drop_ne {b : List UInt8} {n : Nat} (h : n < b.length) : b.drop n ≠ [] := by
 intro h0
 have := congrArg List.length h0
 rw [List.length_drop] at this
 simp at this; omega
theorem fields_r (b : List UInt8) (hb : b.length < 1000000000) : SemR Tryz.prog G 87 [.sl b.length (u8s b)] [] 0 (.tup [.sl (fieldsS b).1.length ((fieldsS b).1.map fldM), .int .i64 (fieldsS b).2.1, .int .i64 (fieldsS b).2.2]) [] 0 := by
  generalize hr : fieldsS b = r
  obtain ⟨l, at1, e1⟩ := r
  dsimp only
  refine srq seat Tryz.func87 38 ?_
  refine go1 ?_
  refine c_loop (Nat × List Fld) (fun x => [(6, .int .i64 x.1), (5, .ms 0 4 0 x.2.length), (0, .sl b.length (u8s b))]) (fun x => [(0, ⟨128, 4, true, 0, x.2.map fldM⟩)]) 1 (fun x => x.1 ≤ b.length ∧ x.2.length ≤ 1024 ∧ fieldsG (1024 - x.2.length) (b.drop x.1) x.1 x.2 = (l, at1, e1)) (fun x => b.length - x.1) (0, []) ⟨Nat.zero_le _, Nat.zero_le _, by dsimp only; rw [List.drop_zero]; exact hr⟩ (by dsimp only; exact (vm [] [])) ?_
  rintro ⟨i, acc⟩ ⟨hi, ha, hG⟩
  try dsimp only
  dsimp only at hi ha hG
  refine go1 ?_
  ((with_reducible apply c_cond); (case he => exact rfl); (all_goals intro h))
  · have hi' : i < b.length := by have := of_decide_eq_true h; omega
    have hne := drop_ne hi'
    refine go1 ?_
    ((with_reducible apply c_cond); (case he => exact rfl); (all_goals intro h))
    · have h4 : acc.length = 1024 := by have := of_decide_eq_true h; omega
      rw [h4, Nat.sub_self, fieldsG_full hne] at hG
      simp only [Prod.mk.injEq] at hG
      obtain ⟨rfl, rfl, rfl⟩ := hG
      refine go1 ?_
      refine ⟨[_, _, _], [], [], rfl, rfl, trivial, rfl, ⟨?_, ?_, ?_, trivial⟩, ?_⟩
      · exact .inr ⟨rfl, rfl⟩
      · exact rv
      · exact rv
      · exact mm
    · have h4 : acc.length < 1024 := by have := of_decide_eq_false h; omega
      have c1 := one_cut (G := G) hb (n := i)
      have hok := one_ok (b := b.drop i)
      rw [show 1024 - acc.length = (1023 - acc.length) + 1 by omega, fieldsG_step hne] at hG
      generalize oneS (b.drop i) = o at *
      obtain ⟨f, m, e⟩ := o
      dsimp only at c1 hok hG
      (have fct := SomF.mk (bndLo (κ := .i64) hi); have fct := SideF.mk (head_b b); refine go1 ?_)
      refine g_call2 rfl (fun _ h => h) rfl (c1) rfl lm ?_
      refine go1 ?_
      ((with_reducible apply c_cond); (case he => exact rfl); (all_goals intro h))
      · have he : e ≠ 0 := by intro h0; subst h0; cases h
        rw [if_pos he] at hG
        simp only [Prod.mk.injEq] at hG
        obtain ⟨rfl, rfl, rfl⟩ := hG
        refine go1 ?_
        refine ⟨[_, _, _], [], [], rfl, rfl, trivial, rfl, ⟨?_, ?_, ?_, trivial⟩, ?_⟩
        · exact .inr ⟨rfl, rfl⟩
        · exact rv
        · exact rv
        · exact mm
      · have he : e = 0 := by have : (e : Int) = 0 := by simpa using h
                              omega
        subst he
        rw [if_neg (by simp), List.drop_drop] at hG
        have hok := hok rfl
        rw [List.length_drop] at hok
        refine go1 ?_
        ((with_reducible apply g_mem); (case hq => exact rfl); (case hv => exact rfl); (case he => (intro R hR; refine sms hR ?_; (refine And.intro (Nat.le_refl _) ?_; refine ⟨_, rfl, ?_⟩; refine And.intro ⟨(by simp), app_ok (by kernel_rfl) pf⟩ ?_; refine ⟨(acc ++ [f]).map fldM, sv (by simp; rfl), acc.length + 1, sv pf, ?_⟩); exact hR)); (case hd => exact rfl))
        refine go1 ?_
        refine ⟨(i + m, acc ++ [f]), ⟨by dsimp only; omega, by dsimp only; rw [List.length_append, List.length_singleton]; omega, ?_⟩, by show b.length - (i + m) < b.length - i; omega, ?_⟩
        · dsimp only
          rw [List.length_append, List.length_singleton, show 1024 - (acc.length + 1) = 1023 - acc.length by omega]
          exact hG
        · dsimp only
          rw [List.length_append, List.length_singleton]
          exact (vm [(0, _)] [])
  · have hi' : b.length ≤ i := by have := of_decide_eq_false h; omega
    rw [List.drop_eq_nil_of_le hi', fieldsG_end] at hG
    simp only [Prod.mk.injEq] at hG
    obtain ⟨rfl, rfl, rfl⟩ := hG
    refine go1 ?_
    refine ⟨[_, _, _], [], [(0, acc.length)], rfl, rfl, ?_, rfl, ⟨?_, ?_, ?_, trivial⟩, ?_⟩
    · exact ⟨by show acc.length ≤ (acc.map fldM).length; simp, trivial⟩
    · exact .inr ⟨rfl, rfl, rfl, Nat.le_of_eq (Nat.zero_add _), cut_all fldM acc⟩
    · exact rv
    · exact rv
    · exact mm
end
section
variable {G : GS}
attribute [local irreducible] vOpsN vOpsG vOpsD vOpGD NextD vC SeqQ BlockQ
theorem fieldS_0 {f : Fld} (h : f.kind = 0) : fieldS f = varS (f.num * 8 + f.kind) ++ varS f.val := by unfold fieldS; rw [if_pos h]
theorem fieldS_2 {f : Fld} (h : f.kind = 2) : fieldS f = varS (f.num * 8 + f.kind) ++ (varS f.bytes.length ++ f.bytes) := by unfold fieldS; rw [if_neg (by omega)]
theorem right_m (f : Fld) (hf : okF f) : SemC Tryz.prog G 151 [fldM f] (.bool true) := by
 obtain ⟨num, kind, val, bytes⟩ := f
 obtain ⟨h1, h2, h3⟩ := hf
 dsimp only at h1 h2 h3
 unfold fldM
 dsimp only
 refine scq seat Tryz.func151 30 ?_
 refine go1 ?_
 ((with_reducible apply n_grd); (case hf => exact ⟨rfl, rfl, rfl⟩); (all_goals intro h))
 case h2 =>
  exfalso
  have : (num : Int) < 1 := by simpa using h
  omega
 refine go1 ?_
 ((with_reducible apply c_cond); (case he => exact rfl); (all_goals intro h))
 ·exfalso
  have := of_decide_eq_true h
  omega
 rcases h3 with ⟨rfl, rfl, hv⟩ | ⟨rfl, rfl, hv⟩
 ·refine go1 ?_
  refine go0 ?_
  rfl
 ·refine go1 ?_
  refine go0 ?_
  rfl
theorem pvalid_m (f : Fld) (hf : okF f) : SemC Tryz.prog G 101 [fldM f] (.bool true) := by
 obtain ⟨num, kind, val, bytes⟩ := f
 obtain ⟨h1, h2, h3⟩ := hf
 dsimp only at h1 h2 h3
 unfold fldM
 dsimp only
 refine scq seat Tryz.func101 30 ?_
 refine go1 ?_
 ((with_reducible apply n_grd); (case hf => exact ⟨rfl, rfl, rfl⟩); (all_goals intro h))
 case h2 =>
  exfalso
  have : (num : Int) < 1 := by simpa using h
  omega
 refine go1 ?_
 ((with_reducible apply c_cond); (case he => exact rfl); (all_goals intro h))
 ·exfalso
  have := of_decide_eq_true h
  omega
 rcases h3 with ⟨rfl, rfl, hv⟩ | ⟨rfl, rfl, hv⟩
 ·refine go1 ?_
  refine go0 ?_
  rfl
 ·refine go1 ?_
  refine go0 ?_
  rfl
theorem ptag_m (f : Fld) (hf : okF f) : SemC Tryz.prog G 103 [fldM f] (.int .u64 ((f.num * 8 + f.kind : Nat) : Int)) := by
 obtain ⟨num, kind, val, bytes⟩ := f
 obtain ⟨h1, h2, h3⟩ := hf
 dsimp only at h1 h2 h3
 unfold fldM
 dsimp only
 refine scq seat Tryz.func103 10 ?_
 refine go1 ?_
 refine go0 ?_
 exact congrArg (MV.int .u64) (by omega)
theorem varint_g (b : List UInt8) (n : Nat) (hb : b.length < 500000000) (hn : n < 18446744073709551616) :
  SemR Tryz.prog G 152 [.sl b.length (u8s b), .int .u64 n] [] 0 (.ms 0 1 0 (b ++ varS n).length) (rowB (b ++ varS n)) 1 := by
 rw [List.length_append]; exact varint_r b n hb hn
theorem pvarint_g (b : List UInt8) (n : Nat) (hb : b.length < 500000000) (hn : n < 18446744073709551616) :
  SemR Tryz.prog G 102 [.sl b.length (u8s b), .int .u64 n] [] 0 (.ms 0 1 0 (b ++ varS n).length) (rowB (b ++ varS n)) 1 := by
 rw [List.length_append]; exact pvarint_r b n hb hn
theorem field_r (b : List UInt8) (f : Fld) (hf : okF f) (hb : b.length + f.bytes.length < 400000000) :
  SemR Tryz.prog G 104 [.sl b.length (u8s b), fldM f] [] 0 (.tup [.ms 0 1 0 (b ++ fieldS f).length, .int .i64 0]) (rowB (b ++ fieldS f)) 1 := by
 have hr := right_m (G := G) f hf
 obtain ⟨num, kind, val, bytes⟩ := f
 obtain ⟨h1, h2, h3⟩ := hf
 dsimp only at h1 h2 h3
 have l1 := varS_len10 (n := num * 8 + kind) (by omega)
 have c1 := varint_g (G := G) b (num * 8 + kind) (by dsimp only at hb; omega) (by omega)
 have e0 := fieldS_0 (f := ⟨num, kind, val, bytes⟩)
 have e2 := fieldS_2 (f := ⟨num, kind, val, bytes⟩)
 unfold rowB at *
 unfold fldM at *
 dsimp only at hr hb e0 e2
 dsimp only
 generalize hp : b ++ varS (num * 8 + kind) = p at *
 refine srq seat Tryz.func104 36 ?_
 refine go1 ?_
 refine g_call2 rfl (fun _ h => h) rfl (semR_of_semC (hr)) rfl lm ?_
 have hpl : p.length ≤ b.length + 10 := by rw [← hp, List.length_append]; omega
 refine go1 ?_
 refine g_callR1 rfl (fun _ h => h) rfl (c1) [] [] ⟨rfl, trivial, rfl, lm, mm⟩ rfl rfl ?_
 refine go1 ?_
 rcases h3 with ⟨rfl, rfl, hv⟩ | ⟨rfl, rfl, hv⟩
 ·have c2 := varint_g (G := G) p val (by omega) hv
  rw [e0 rfl, ← List.append_assoc, hp]
  unfold rowB at c2
  generalize p ++ varS val = q at *
  refine go1 ?_
  refine g_callR1 rfl (fun _ h => h) rfl (c2) [] [(14, p.length)] ⟨rfl, mm, rfl, lm, mm⟩ rfl rfl ?_
  refine go1 ?_
  refine ⟨[_, _], [(0, 22)], [], rfl, rfl, trivial, rfl, ⟨?_, ?_, trivial⟩, ?_⟩
  ·exact rv
  ·exact rv
  ·exact mm
 ·have c2 := varint_g (G := G) p bytes.length (by omega) hv
  rw [e2 rfl, ← List.append_assoc, hp, ← List.append_assoc]
  have hql : (p ++ varS bytes.length).length ≤ p.length + 10 := by rw [List.length_append]; have := (varS_len10 hv).2; omega
  unfold rowB at c2
  generalize p ++ varS bytes.length = q at *
  refine go1 ?_
  refine c_draw [(0, false), (1, false), (2, false), (3, false), (4, false), (5, true), (6, false), (7, false), (8, false), (9, false), (10, false)] ?_
  refine go1 ?_
  refine gd_callR1 rfl (fun _ h => h) rfl [14] (c2) [] [(14, p.length)] ⟨rfl, mm, rfl, lm, mm⟩ rfl rfl rfl rfl ?_
  refine go1 ?_
  ((with_reducible apply gd_mem); (case hv => exact rfl); (case he => (intro R hR; refine sms hR ?_; refine And.intro (head_b bytes) ?_; refine And.intro ⟨(by simp [u8s]), app_ok (by kernel_rfl) pf⟩ ?_; refine ⟨u8s (q ++ bytes), sv (by simp [u8s]), (q ++ bytes).length, sv pf, ?_⟩; exact hR)); (case hd => exact rfl))
  refine go1 ?_
  refine ⟨[_, _], [(0, 27)], [], rfl, rfl, trivial, rfl, ⟨?_, ?_, trivial⟩, ?_⟩
  ·exact rv
  ·exact rv
  ·exact mm
theorem pfield_r (b : List UInt8) (f : Fld) (hf : okF f) (hb : b.length + f.bytes.length < 400000000) :
  SemR Tryz.prog G 65 [.sl b.length (u8s b), fldM f] [] 0 (.tup [.ms 0 1 0 (b ++ fieldS f).length, .int .i64 0]) (rowB (b ++ fieldS f)) 1 := by
 have hr := pvalid_m (G := G) f hf
 have ht := ptag_m (G := G) f hf
 obtain ⟨num, kind, val, bytes⟩ := f
 obtain ⟨h1, h2, h3⟩ := hf
 dsimp only at h1 h2 h3
 have l1 := varS_len10 (n := num * 8 + kind) (by omega)
 have c1 := pvarint_g (G := G) b (num * 8 + kind) (by dsimp only at hb; omega) (by omega)
 have e0 := fieldS_0 (f := ⟨num, kind, val, bytes⟩)
 have e2 := fieldS_2 (f := ⟨num, kind, val, bytes⟩)
 unfold rowB at *
 unfold fldM at *
 dsimp only at hr ht hb e0 e2
 dsimp only
 generalize hp : b ++ varS (num * 8 + kind) = p at *
 refine srq seat Tryz.func65 30 ?_
 refine go1 ?_
 refine g_call2 rfl (fun _ h => h) rfl (semR_of_semC (hr)) rfl lm ?_
 refine go1 ?_
 refine g_call2 rfl (fun _ h => h) rfl (semR_of_semC (ht)) rfl lm ?_
 have hpl : p.length ≤ b.length + 10 := by rw [← hp, List.length_append]; omega
 refine go1 ?_
 refine g_callR1 rfl (fun _ h => h) rfl (c1) [] [] ⟨rfl, trivial, rfl, lm, mm⟩ rfl rfl ?_
 refine go1 ?_
 rcases h3 with ⟨rfl, rfl, hv⟩ | ⟨rfl, rfl, hv⟩
 ·have c2 := pvarint_g (G := G) p val (by omega) hv
  rw [e0 rfl, ← List.append_assoc, hp]
  unfold rowB at c2
  generalize p ++ varS val = q at *
  refine go1 ?_
  refine g_callR1 rfl (fun _ h => h) rfl (c2) [] [(7, p.length)] ⟨rfl, mm, rfl, lm, mm⟩ rfl rfl ?_
  refine go1 ?_
  refine ⟨[_, _], [(0, 15)], [], rfl, rfl, trivial, rfl, ⟨?_, ?_, trivial⟩, ?_⟩
  ·exact rv
  ·exact rv
  ·exact mm
 ·have c2 := pvarint_g (G := G) p bytes.length (by omega) hv
  rw [e2 rfl, ← List.append_assoc, hp, ← List.append_assoc]
  have hql : (p ++ varS bytes.length).length ≤ p.length + 10 := by rw [List.length_append]; have := (varS_len10 hv).2; omega
  unfold rowB at c2
  generalize p ++ varS bytes.length = q at *
  refine go1 ?_
  refine c_draw [(0, false), (1, false), (2, false), (3, false), (4, false), (5, true), (6, false), (7, false), (8, false), (9, false), (10, false)] ?_
  refine go1 ?_
  refine gd_callR1 rfl (fun _ h => h) rfl [7] (c2) [] [(7, p.length)] ⟨rfl, mm, rfl, lm, mm⟩ rfl rfl rfl rfl ?_
  refine go1 ?_
  ((with_reducible apply gd_mem); (case hv => exact rfl); (case he => (intro R hR; refine sms hR ?_; refine And.intro (head_b bytes) ?_; refine And.intro ⟨(by simp [u8s]), app_ok (by kernel_rfl) pf⟩ ?_; refine ⟨u8s (q ++ bytes), sv (by simp [u8s]), (q ++ bytes).length, sv pf, ?_⟩; exact hR)); (case hd => exact rfl))
  refine go1 ?_
  refine ⟨[_, _], [(0, 20)], [], rfl, rfl, trivial, rfl, ⟨?_, ?_, trivial⟩, ?_⟩
  ·exact rv
  ·exact rv
  ·exact mm
end
section
variable {G : GS}
structure W8 where
 a : UInt32
 b : UInt32
 c : UInt32
 d : UInt32
 e : UInt32
 f : UInt32
 g : UInt32
 h : UInt32
def W8.toM (s : W8) : MV := .arr 8 1 [u32M s.a, u32M s.b, u32M s.c, u32M s.d, u32M s.e, u32M s.f, u32M s.g, u32M s.h]
def turnU (x : UInt32) (n : Nat) : UInt32 := (x >>> UInt32.ofNat n) ||| (x <<< UInt32.ofNat (32 - n))
def kL : List UInt32 := [1116352408, 1899447441, 3049323471, 3921009573, 961987163, 1508970993, 2453635748, 2870763221, 3624381080, 310598401, 607225278, 1426881987, 1925078388, 2162078206, 2614888103, 3248222580, 3835390401, 4022224774, 264347078, 604807628, 770255983, 1249150122, 1555081692, 1996064986, 2554220882, 2821834349, 2952996808, 3210313671, 3336571891, 3584528711, 113926993, 338241895, 666307205, 773529912, 1294757372, 1396182291, 1695183700, 1986661051, 2177026350, 2456956037, 2730485921, 2820302411, 3259730800, 3345764771, 3516065817, 3600352804, 4094571909, 275423344, 430227734, 506948616, 659060556, 883997877, 958139571, 1322822218, 1537002063, 1747873779, 1955562222, 2024104815, 2227730452, 2361852424, 2428436474, 2756734187, 3204031479, 3329325298]
def wsM (l : List UInt32) : MV := .arr 64 1 (l.map u32M)
def beU (b : List UInt8) (k : Nat) : UInt32 := (b.getD (4 * k) 0).toUInt32 <<< UInt32.ofNat 24 ||| (b.getD (4 * k + 1) 0).toUInt32 <<< UInt32.ofNat 16 ||| (b.getD (4 * k + 2) 0).toUInt32 <<< UInt32.ofNat 8 ||| (b.getD (4 * k + 3) 0).toUInt32
def fillW (b : List UInt8) : Nat → List UInt32
 | 0 => List.replicate 64 0
 | t + 1 => (fillW b t).set t (beU b t)
def stepW (l : List UInt32) (t : Nat) : UInt32 :=
 (turnU (l.getD (t - 2) 0) 17 ^^^ turnU (l.getD (t - 2) 0) 19 ^^^ l.getD (t - 2) 0 >>> UInt32.ofNat 10) + l.getD (t - 7) 0 + (turnU (l.getD (t - 15) 0) 7 ^^^ turnU (l.getD (t - 15) 0) 18 ^^^ l.getD (t - 15) 0 >>> UInt32.ofNat 3) + l.getD (t - 16) 0
def moreW (b : List UInt8) : Nat → List UInt32
 | 0 => fillW b 16
 | t + 1 => (moreW b t).set (16 + t) (stepW (moreW b t) (16 + t))
theorem fillW_len (b : List UInt8) : ∀ t, (fillW b t).length = 64
 | 0 => by simp [fillW]
 | t + 1 => by simp [fillW, fillW_len b t]
theorem moreW_len (b : List UInt8) : ∀ t, (moreW b t).length = 64
 | 0 => fillW_len b 16
 | t + 1 => by simp [moreW, moreW_len b t]
def tmp1 (k w : UInt32) (s : W8) : UInt32 := s.h + (turnU s.e 6 ^^^ turnU s.e 11 ^^^ turnU s.e 25) + (s.e &&& s.f ^^^ ~~~s.e &&& s.g) + k + w
def tmp2 (s : W8) : UInt32 := (turnU s.a 2 ^^^ turnU s.a 13 ^^^ turnU s.a 22) + (s.a &&& s.b ^^^ s.a &&& s.c ^^^ s.b &&& s.c)
def roundS (k w : UInt32) (s : W8) : W8 := ⟨tmp1 k w s + tmp2 s, s.a, s.b, s.c, s.d + tmp1 k w s, s.e, s.f, s.g⟩
def rounds (k w : List UInt32) (s : W8) : Nat → W8
 | 0 => s
 | t + 1 => roundS (k.getD t 0) (w.getD t 0) (rounds k w s t)
def addW (h s : W8) : Nat → W8
 | 0 => h
 | 1 => ⟨h.a + s.a, h.b, h.c, h.d, h.e, h.f, h.g, h.h⟩
 | 2 => ⟨h.a + s.a, h.b + s.b, h.c, h.d, h.e, h.f, h.g, h.h⟩
 | 3 => ⟨h.a + s.a, h.b + s.b, h.c + s.c, h.d, h.e, h.f, h.g, h.h⟩
 | 4 => ⟨h.a + s.a, h.b + s.b, h.c + s.c, h.d + s.d, h.e, h.f, h.g, h.h⟩
 | 5 => ⟨h.a + s.a, h.b + s.b, h.c + s.c, h.d + s.d, h.e + s.e, h.f, h.g, h.h⟩
 | 6 => ⟨h.a + s.a, h.b + s.b, h.c + s.c, h.d + s.d, h.e + s.e, h.f + s.f, h.g, h.h⟩
 | 7 => ⟨h.a + s.a, h.b + s.b, h.c + s.c, h.d + s.d, h.e + s.e, h.f + s.f, h.g + s.g, h.h⟩
 | _ => ⟨h.a + s.a, h.b + s.b, h.c + s.c, h.d + s.d, h.e + s.e, h.f + s.f, h.g + s.g, h.h + s.h⟩
def blockS (h : W8) (b : List UInt8) : W8 := addW h (rounds kL (moreW b 48) h 64) 8
theorem index_of {l : List MV} {n : Nat} {j : Int} {x : MV} (k : Nat) (hj : j = k) (hk : k < n) (hx : l[k]? = some x) : idxL l n j = some x := by
 subst hj; exact index_at hk hx
theorem idx_of {n : Nat} {j : Int} (k : Nat) (hj : j = k) (hk : k < n) : idx n j = some k := by
 subst hj; exact idx_at hk
theorem u8_at {b : List UInt8} {k : Nat} (h : k < b.length) : (u8s b)[k]? = some (u8M (b.getD k 0)) := by simp [u8s, h]
theorem ws_get {l : List UInt32} {k : Nat} (h : k < l.length) : getPO (wsM l) ([] ++ [k]) (0 + k * 1) = some (u32M (l.getD k 0)) := by
 show (match nthM (l.map u32M) k with | some m => bif Nat.ble (k * 1) (0 + k * 1) then getPO m [] (0 + k * 1 - k * 1) else none | none => none) = _
 have e : nthM (l.map u32M) k = some (u32M (l.getD k 0)) := by rw [nthM_eq]; simp [h]
 rw [e]
 have e2 : Nat.ble (k * 1) (0 + k * 1) = true := by simp
 simp only [e2, cond_true]
 simp [getPO]
theorem ws_set {l : List UInt32} {k : Nat} (h : k < l.length) (x : UInt32) : setPO (wsM l) ([] ++ [k]) (0 + k * 1) (u32M x) = some (wsM (l.set k x)) := by
 show (match nthM (l.map u32M) k with | some m => bif Nat.ble (k * 1) (0 + k * 1) && (u32M x).idFree then (match setPO m [] (0 + k * 1 - k * 1) (u32M x) with | some m' => some (MV.arr 64 1 (setL (l.map u32M) k m')) | none => none) else none | none => none) = _
 have e : nthM (l.map u32M) k = some (u32M (l.getD k 0)) := by rw [nthM_eq]; simp [h]
 rw [e]
 have e2 : Nat.ble (k * 1) (0 + k * 1) = true := by simp
 simp only [e2]
 simp [setPO, setL_eq, MV.idFree, MV.size, MV.isAgg, wsM, List.map_set]
def W8.nth (s : W8) : Nat → UInt32
 | 0 => s.a
 | 1 => s.b
 | 2 => s.c
 | 3 => s.d
 | 4 => s.e
 | 5 => s.f
 | 6 => s.g
 | _ => s.h
theorem get8 (s : W8) {i : Nat} (hi : i < 8) : getPO s.toM ([] ++ [i]) (0 + i * 1) = some (u32M (s.nth i)) := by
 have h8 : i = 0 ∨ i = 1 ∨ i = 2 ∨ i = 3 ∨ i = 4 ∨ i = 5 ∨ i = 6 ∨ i = 7 := by omega
 rcases h8 with rfl | rfl | rfl | rfl | rfl | rfl | rfl | rfl <;> rfl
theorem set8 (h s : W8) {i : Nat} (hi : i < 8) : setPO (addW h s i).toM ([] ++ [i]) (0 + i * 1) (u32M ((addW h s i).nth i + s.nth i)) = some (addW h s (i + 1)).toM := by
 have h8 : i = 0 ∨ i = 1 ∨ i = 2 ∨ i = 3 ∨ i = 4 ∨ i = 5 ∨ i = 6 ∨ i = 7 := by omega
 rcases h8 with rfl | rfl | rfl | rfl | rfl | rfl | rfl | rfl <;> rfl
theorem turn_m (x : UInt32) (n : Nat) (h0 : 0 < n) (h1 : n < 32) : SemC Tryz.prog G 105 [u32M x, .int .i64 n] (u32M (turnU x n)) := by
 refine scq seat Tryz.func105 13 ?_
 refine gow0 ?_
 refine ⟨[(0, false), (1, false), (2, false), (3, false), (4, false), (5, false), (6, false), (7, false), (8, false)], ?_⟩
 refine ⟨by omega, _, sv (shr32 x n h1), ?_⟩
 refine ⟨((32 - n : Nat) : Int), sv ((wrap_in _ (by omega) (by omega)).trans (by omega)), ?_⟩
 refine ⟨by omega, _, sv (shl32 x (32 - n) (by omega)), ?_⟩
 refine gow0 ?_
 rfl
theorem constants_m : SemC Tryz.prog G 106 [] (wsM kL) := by
 refine scq seat Tryz.func106 2 ?_
 refine gow0 ?_
 rfl
theorem block_m (h : W8) (b : List UInt8) (hb : b.length = 64) : SemC Tryz.prog G 67 [h.toM, .sl 64 (u8s b)] (blockS h b).toM := by
 unfold blockS
 refine scq seat Tryz.func67 193 ?_
 refine gow0 ?_
 refine ⟨Nat, fun t => [(6, .int .i64 t), (5, .ptr 2 64 0 0 []), (4, .ptr 1 8 0 0 []), (2, .ptr 0 8 0 0 []), (1, .sl 64 (u8s b))], fun t => [(0, ⟨137, 8, false, 0, [h.toM]⟩), (1, ⟨137, 8, false, 0, [W8.toM ⟨0, 0, 0, 0, 0, 0, 0, 0⟩]⟩), (2, ⟨183, 64, false, 0, [wsM (fillW b t)]⟩)], 3, fun t => t ≤ 16, fun t => 16 - t, ⟨0, by omega, (vm [(0, 0), (1, 1), (2, 2)] [])⟩, ?_⟩
 intro t ht
 refine gow0 ?_
 refine ⟨fun hc => ?_, fun hc => ?_⟩
 ·have ht' : t < 16 := by have := of_decide_eq_true hc; omega
  have hl := fillW_len b t
  refine gow0 ?_
  refine ⟨[(0, false), (1, false), (2, false), (3, false), (4, false), (5, false), (6, false), (7, false), (8, false), (9, false), (10, false), (11, false), (12, false), (13, false), (14, false), (15, false), (16, false), (17, false), (18, false), (19, false), (20, false), (21, false), (22, false), (23, false), (24, false), (25, false), (26, false), (27, false), (28, false), (29, false), (30, false), (31, false), (32, false), (33, false), (34, false), (35, false)], ?_⟩
  refine gow0 ?_
  refine ⟨_, index_of (4 * t) (by omega) (by omega) (u8_at (by omega)), ?_⟩
  refine gow0 ?_
  refine ⟨_, index_of (4 * t + 1) (by omega) (by omega) (u8_at (by omega)), ?_⟩
  refine gow0 ?_
  refine ⟨_, index_of (4 * t + 2) (by omega) (by omega) (u8_at (by omega)), ?_⟩
  refine gow0 ?_
  refine ⟨_, index_of (4 * t + 3) (by omega) (by omega) (u8_at (by omega)), ?_⟩
  refine gow0 ?_
  refine ⟨_, idx_at (by omega), ?_⟩
  refine gow0 ?_
  refine ⟨_, ws_set (by omega) _, ?_⟩
  refine gow0 ?_
  exact ⟨t + 1, by omega, by show 16 - (t + 1) < 16 - t; omega, (vm [(0, 0), (1, 1), (2, 2)] [])⟩
 ·have ht' : t = 16 := by have := of_decide_eq_false hc; omega
  subst ht'
  refine gow0 ?_
  refine ⟨Nat, fun t => [(7, .int .i64 ((16 + t : Nat) : Int)), (5, .ptr 2 64 0 0 []), (4, .ptr 1 8 0 0 []), (2, .ptr 0 8 0 0 [])], fun t => [(0, ⟨137, 8, false, 0, [h.toM]⟩), (1, ⟨137, 8, false, 0, [W8.toM ⟨0, 0, 0, 0, 0, 0, 0, 0⟩]⟩), (2, ⟨183, 64, false, 0, [wsM (moreW b t)]⟩)], 3, fun t => t ≤ 48, fun t => 48 - t, ⟨0, by omega, (vm [(0, 0), (1, 1), (2, 2)] [])⟩, ?_⟩
  intro t ht
  refine gow0 ?_
  refine ⟨fun hc => ?_, fun hc => ?_⟩
  ·have ht' : t < 48 := by have := of_decide_eq_true hc; omega
   have hl := moreW_len b t
   refine gow0 ?_
   refine ⟨[(0, false), (1, false), (2, false), (3, false), (4, false), (5, false), (6, false), (7, false), (8, false), (9, false)], ?_⟩
   refine gow0 ?_
   refine ⟨_, idx_of (16 + t - 15) (by omega) (by omega), ?_⟩
   refine gow0 ?_
   refine ⟨_, ws_get (by omega), ?_⟩
   refine gow0 ?_
   refine ⟨_, idx_of (16 + t - 2) (by omega) (by omega), ?_⟩
   refine gow0 ?_
   refine ⟨_, ws_get (by omega), ?_⟩
   refine gow0 ?_
   refine ⟨[(0, false), (1, false), (2, false), (3, false), (4, false), (5, false), (6, false), (7, false), (8, false), (9, false), (10, false), (11, false), (12, false), (13, false), (14, false), (15, false), (16, false), (17, false), (18, false), (19, false), (20, false), (21, false), (22, false), (23, false), (24, false), (25, false), (26, false), (27, false), (28, false), (29, false)], ?_⟩
   refine ⟨_, turn_m _ 17 (by omega) (by omega), ?_⟩
   refine ⟨_, turn_m _ 19 (by omega) (by omega), ?_⟩
   refine gow0 ?_
   refine ⟨_, idx_of (16 + t - 7) (by omega) (by omega), ?_⟩
   refine gow0 ?_
   refine ⟨_, ws_get (by omega), ?_⟩
   refine gow0 ?_
   refine ⟨_, turn_m _ 7 (by omega) (by omega), ?_⟩
   refine ⟨_, turn_m _ 18 (by omega) (by omega), ?_⟩
   refine gow0 ?_
   refine ⟨_, idx_of (16 + t - 16) (by omega) (by omega), ?_⟩
   refine gow0 ?_
   refine ⟨_, ws_get (by omega), ?_⟩
   refine gow0 ?_
   refine ⟨_, idx_of (16 + t) (by omega) (by omega), ?_⟩
   refine gow0 ?_
   refine ⟨_, ws_set (by omega) _, ?_⟩
   refine gow0 ?_
   exact ⟨t + 1, by show t + 1 ≤ 48; omega, by show 48 - (t + 1) < 48 - t; omega, (vm [(0, 0), (1, 1), (2, 2)] [])⟩
  ·have ht' : t = 48 := by have := of_decide_eq_false hc; omega
   subst ht'
   refine gow0 ?_
   refine .inl ⟨_, constants_m, ?_⟩
   refine gow0 ?_
   have hl := moreW_len b 48
   have hk : kL.length = 64 := rfl
   dsimp only
   generalize moreW b 48 = ws at *
   generalize kL = kl at *
   refine gow0 ?_
   refine ⟨Nat, fun t => [(12, .int .i64 t), (11, .ptr 4 8 0 0 []), (10, .ptr 3 64 0 0 []), (5, .ptr 2 64 0 0 []), (4, .ptr 1 8 0 0 []), (2, .ptr 0 8 0 0 [])], fun t => [(0, ⟨137, 8, false, 0, [h.toM]⟩), (1, ⟨137, 8, false, 0, [W8.toM ⟨0, 0, 0, 0, 0, 0, 0, 0⟩]⟩), (2, ⟨183, 64, false, 0, [wsM ws]⟩), (3, ⟨183, 64, false, 0, [wsM kl]⟩), (4, ⟨137, 8, false, 0, [(rounds kl ws h t).toM]⟩)], 5, fun t => t ≤ 64, fun t => 64 - t, ⟨0, by omega, (vm [(0, 0), (1, 1), (2, 2), (3, 6), (4, 9)] [])⟩, ?_⟩
   intro t ht
   refine gow0 ?_
   refine ⟨fun hc => ?_, fun hc => ?_⟩
   ·have ht' : t < 64 := by have := of_decide_eq_true hc; omega
    refine gow0 ?_
    refine ⟨[(0, false), (1, false), (2, false), (3, false), (4, false), (5, false)], ?_⟩
    refine gow0 ?_
    refine ⟨[(0, false), (1, false), (2, false), (3, false), (4, false), (5, false), (6, false), (7, false), (8, false), (9, false), (10, false), (11, false), (12, false), (13, false), (14, false), (15, false), (16, false), (17, false), (18, false), (19, false), (20, false), (21, false), (22, false), (23, false), (24, false), (25, false), (26, false), (27, false), (28, false), (29, false), (30, false)], ?_⟩
    refine gow0 ?_
    refine ⟨_, turn_m _ 6 (by omega) (by omega), ?_⟩
    refine ⟨_, turn_m _ 11 (by omega) (by omega), ?_⟩
    refine gow0 ?_
    refine ⟨_, turn_m _ 25 (by omega) (by omega), ?_⟩
    refine gow0 ?_
    refine ⟨_, idx_at (by omega), ?_⟩
    refine gow0 ?_
    refine ⟨_, ws_get (by omega), ?_⟩
    refine gow0 ?_
    refine ⟨_, idx_at (by omega), ?_⟩
    refine gow0 ?_
    refine ⟨_, ws_get (by omega), ?_⟩
    refine gow0 ?_
    refine ⟨[(0, false), (1, false), (2, false), (3, false), (4, false), (5, false), (6, false), (7, false), (8, false), (9, false), (10, false), (11, false), (12, false), (13, false), (14, false), (15, false), (16, false), (17, false), (18, false), (19, false), (20, false), (21, false), (22, false), (23, false), (24, false)], ?_⟩
    refine ⟨_, turn_m _ 2 (by omega) (by omega), ?_⟩
    refine ⟨_, turn_m _ 13 (by omega) (by omega), ?_⟩
    refine gow0 ?_
    refine ⟨_, turn_m _ 22 (by omega) (by omega), ?_⟩
    refine gow0 ?_
    exact ⟨t + 1, by show t + 1 ≤ 64; omega, by show 64 - (t + 1) < 64 - t; omega, (vm [(0, 0), (1, 1), (2, 2), (3, 3), (4, 4)] [])⟩
   ·have ht' : t = 64 := by have := of_decide_eq_false hc; omega
    subst ht'
    refine gow0 ?_
    refine ⟨Nat, fun i => [(180, .int .i64 i), (11, .ptr 2 8 0 0 []), (4, .ptr 1 8 0 0 []), (2, .ptr 0 8 0 0 [])], fun i => [(0, ⟨137, 8, false, 0, [(addW h (rounds kl ws h 64) i).toM]⟩), (1, ⟨137, 8, false, 0, [W8.toM ⟨0, 0, 0, 0, 0, 0, 0, 0⟩]⟩), (2, ⟨137, 8, false, 0, [(rounds kl ws h 64).toM]⟩)], 3, fun i => i ≤ 8, fun i => 8 - i, ⟨0, by omega, (vm [(0, 0), (1, 1), (2, 4)] [])⟩, ?_⟩
    intro i hi
    refine gow0 ?_
    refine ⟨fun hc => ?_, fun hc => ?_⟩
    ·have hi' : i < 8 := by have := of_decide_eq_true hc; omega
     refine gow0 ?_
     refine ⟨[(0, false), (1, false), (2, false), (3, false), (4, false), (5, false), (6, false), (7, false), (8, false)], ?_⟩
     generalize rounds kl ws h 64 = s at *
     refine gow0 ?_
     refine ⟨_, idx_at (by omega), ?_⟩
     refine gow0 ?_
     refine ⟨_, get8 _ hi', ?_⟩
     refine gow0 ?_
     refine ⟨_, idx_at (by omega), ?_⟩
     refine gow0 ?_
     refine ⟨_, get8 _ hi', ?_⟩
     refine gow0 ?_
     refine ⟨_, idx_at (by omega), ?_⟩
     refine gow0 ?_
     refine ⟨_, set8 h s hi', ?_⟩
     refine gow0 ?_
     exact ⟨i + 1, by show i + 1 ≤ 8; omega, by show 8 - (i + 1) < 8 - i; omega, (vm [(0, 0), (1, 1), (2, 2)] [])⟩
    ·have hi' : i = 8 := by have := of_decide_eq_false hc; omega
     subst hi'
     refine gow0 ?_
     rfl
end
end Go.Proofs.YtoagomdghimlbaaGreat
