/- Parts of a proof, one behind the other: EV3, EV4, EVK, EV5, EV6, EVM, Opens, Opn, PFrame, EV8. -/
import Derived.Test.YtdjcdmnemddjlaaGreatW07
set_option maxRecDepth 20000
set_option maxHeartbeats 16000000
set_option linter.unusedVariables false
set_option linter.unusedSimpArgs false
namespace Go.Proofs.YtdjcdmnemddjlaaGreat
open Go.RowKit
section
section
variable {Pg : Program} {T : Tab} {N : Nat} {ents : List FuncId} {G : GS} {ops : Array Oper} {e' : Nat → Option MV} {m' : FM} {w0 : World} {ex0 : Anc} {P0 : Prot} {Q : Exit → Act → World → Prop} {Z : Nat → Prop}
theorem any_okT (hS : SeatM Pg T ents G w0 ex0) {t : Nat} {ot : Oper} {Fin : Act → World → Prop} (ht : ops[t]? = some ot) (hta : ∀ k, k < ops.size → k ≠ t → (∃ ed ∈ ot.after.toList, Region.binds .any ed = true ∧ ed.on = k) ∨ pathO ops 3 t k = true) (hts : ∀ ed ∈ ot.after.toList, Region.binds .any ed = true → ed.on < ops.size ∧ ed.on ≠ t) (hF : ∀ a w, Fin a w → Q .normal a w) (hQ : ∀ K a w, (∀ a w, Fin a w → K a w) → SimS N w0 ex0 P0 e' m' Z a w → wpOp Pg ops Q t K a w) : ∀ (fuel : Nat) (L : List Dop) {listed : Array Bool} {e : Nat → Option MV} {m : FM} {a : Act} {w : World},
  (∃ M, VM.get M = m) → runL Pg T N ents G ops L e m e' m' → L.Pairwise (fun x y => okR ops x y = true) → (∀ x ∈ L, okS ops x.k = true) → L.Pairwise Dj → (∀ x ∈ L, ∀ c, x.own c → ¬ Z c) →
  SimS N w0 ex0 P0 e m (fun c => (∃ x ∈ L, x.own c) ∨ Z c) a w → (∀ k, k < ops.size → (listed.getD k true = false ↔ k ∈ L.map (·.k) ∨ k = t)) → t ∉ L.map (·.k) → listed.size = ops.size → ClosedO ops listed → (∀ x ∈ L, ∀ o, ops[x.k]? = some o → ∀ ed ∈ o.after.toList, Region.binds .any ed = true → ed.on ≠ t) → L.length < fuel → wpAny Pg .any ops Q fuel listed a w := by
 intro fuel
 induction fuel with
 | zero =>
  intro L listed e m a w hv hr hP hA hD hZ hs hl htL hsz hc hTl hlen
  omega
 | succ fuel ih =>
  intro L listed e m a w hv hr hP hA hD hZ hs hl htL hsz hc hTl hlen
  have htlt := (Array.getElem?_eq_some_iff.1 ht).1
  cases L with
  | nil =>
   obtain ⟨rfl, rfl⟩ := hr
   have hrd : t ∈ Region.ready .any ops listed := ready_in ((hl t htlt).2 (.inr rfl)) ht fun ed he hb => by
    obtain ⟨h1, h2⟩ := hts ed he hb
    rw [getD_any (d' := true) (by omega)]
    cases hh : listed.getD ed.on true with
    | true => rfl
    | false =>
     exfalso
     rcases (hl ed.on h1).1 hh with h | h
     ·simp at h
     ·exact h2 h
   refine ⟨fun h0 => (by rw [h0] at hrd; cases hrd), fun i hi => ?_⟩
   obtain ⟨h1, o, ho, _⟩ := ready_out hi
   have hlt := (Array.getElem?_eq_some_iff.1 ho).1
   have : i = t := by
    rcases (hl i hlt).1 h1 with h | h
    ·simp at h
    ·exact h
   subst this
   refine hQ _ a w (fun a w hf => wpAny_done (List.eq_nil_iff_forall_not_mem.2 fun j hj => ?_) (hF a w hf) _) (by simpa using hs)
   obtain ⟨h3, o3, ho3, _⟩ := ready_out hj
   have hjlt := (Array.getElem?_eq_some_iff.1 ho3).1
   rw [getD_set (by omega)] at h3
   split at h3
   ·cases h3
   ·rename_i hne
    rcases (hl j hjlt).1 h3 with h | h
    ·simp at h
    ·exact hne h.symm
  | cons x0 L0 =>
  generalize hL : x0 :: L0 = L at *
  have hx0 : x0 ∈ L := by rw [← hL]; simp
  have hunl : ∀ x ∈ L, listed.getD x.k true = false ∧ listed.getD x.k false = false := by
   intro x hx
   obtain ⟨o, ho, _⟩ := okS_out (hA x hx)
   have hlt := (Array.getElem?_eq_some_iff.1 ho).1
   have h1 := (hl x.k hlt).2 (.inl (List.mem_map_of_mem hx))
   exact ⟨h1, by rw [getD_any (d' := true) (by omega)]; exact h1⟩
  refine ⟨fun h0 => ?_, fun i hi => ?_⟩
  ·cases L with
   | nil => cases hL
   | cons x L =>
    exfalso
    obtain ⟨o, ho, h2⟩ := okS_out (hA x (by simp))
    have : x.k ∈ Region.ready .any ops listed := ready_in (hunl x (by simp)).1 ho fun ed he hb => by
     obtain ⟨h3, h4⟩ := h2 ed he hb
     rw [getD_any (d' := true) (by omega)]
     cases hh : listed.getD ed.on true with
     | true => rfl
     | false =>
      exfalso
      rcases (hl ed.on h3).1 hh with this | this
      rotate_left
      ·exact hTl x (by simp) o ho ed he hb this
      simp only [List.map_cons, List.mem_cons] at this
      rcases this with h5 | h5
      ·exact h4 h5
      ·obtain ⟨y, hy, hyk⟩ := List.mem_map.1 h5
       obtain ⟨a', b', p1, p2, p3, p4, p5⟩ := okR_out ((List.pairwise_cons.1 hP).1 y hy)
       rw [ho] at p1
       injection p1 with p1
       subst p1
       exact p4 ed he hb hyk.symm
    rw [h0] at this
    cases this
  ·obtain ⟨h1, o, ho, hready⟩ := ready_out hi
   have hlt := (Array.getElem?_eq_some_iff.1 ho).1
   have hmem : i ∈ L.map (·.k) := by
    rcases (hl i hlt).1 h1 with h | h
    ·exact h
    ·exfalso
     subst h
     rw [ht] at ho
     injection ho with ho
     subst ho
     obtain ⟨ox, hox, _⟩ := okS_out (hA x0 hx0)
     have hp := hta x0.k (Array.getElem?_eq_some_iff.1 hox).1 (fun e => htL (e ▸ List.mem_map_of_mem hx0))
     rcases hp with ⟨ed, he, hb, hon⟩ | hp
     rotate_left
     ·rw [pathO_false hc (hunl x0 hx0).2 3 i ot ht hready] at hp; cases hp
     have h5 := hready ed he hb
     rw [hon, (hunl x0 hx0).2] at h5
     cases h5
   obtain ⟨k, hk, rfl⟩ := List.mem_map.1 hmem
   obtain ⟨L1, L2, rfl⟩ := List.append_of_mem hk
   have hP1 := List.pairwise_append.1 hP
   have hD1 := List.pairwise_append.1 hD
   have hD2 := List.pairwise_cons.1 hD1.2.1
   have hP2 := List.pairwise_cons.1 hP1.2.1
   have hne1 : ∀ x ∈ L1, Dj x k := fun x hx => hD1.2.2 x hx k (by simp)
   have hne2 : ∀ x ∈ L2, Dj k x := fun x hx => hD2.1 x hx
   obtain ⟨o', e1, m1, p1, ⟨p2, _⟩, p3⟩ := runL_front hv hr (fun x hx => by
     obtain ⟨a', b', q1, q2, q3, _⟩ := okR_out (hP1.2.2 x hx k (by simp))
     refine ⟨a', b', q1, q2, ?_⟩
     rcases q3 with q3 | q3
     ·exact q3
     ·rw [pathO_false hc (hunl x (by simp [hx])).2 8 k.k o ho hready] at q3; cases q3)
    (fun x hx => ⟨hne1 x hx, hs.fresh _ (.inl ⟨x, by simp [hx], .inl rfl⟩)⟩) (hs.fresh _ (.inl ⟨k, by simp, .inl rfl⟩)) hD1.1
   rw [ho] at p1
   injection p1 with p1
   subst p1
   have hv1 : ∃ M, VM.get M = m1 := by obtain ⟨M, rfl⟩ := hv; exact step_vm p2
   unfold wpOp
   rw [ho]
   refine stepF_out (F' := fun c => (∃ x ∈ L1 ++ L2, x.own c) ∨ Z c) hS hs (.inl ⟨k, by simp, .inl rfl⟩) (fun h => .inl ⟨k, by simp, .inr ⟨rfl, h⟩⟩) (fun c hc' => ?_) p2 fun a' w' hs' => ?_
   ·rcases hc' with ⟨x, hx, ho'⟩ | hc'
    ·rcases List.mem_append.1 hx with hx | hx
     ·exact ⟨.inl ⟨x, by simp [hx], ho'⟩, hne1 x hx c ho'⟩
     ·exact ⟨.inl ⟨x, by simp [hx], ho'⟩, fun h => hne2 x hx c h ho'⟩
    ·exact ⟨.inr hc', fun hh => hZ k hk c hh hc'⟩
   ·have hnk : ∀ j, j ∈ (L1 ++ L2).map (·.k) → k.k ≠ j := by
     intro j hj
     obtain ⟨y, hy, rfl⟩ := List.mem_map.1 hj
     rcases List.mem_append.1 hy with hy | hy
     ·obtain ⟨_, _, _, _, _, _, q⟩ := okR_out (hP1.2.2 y hy k (by simp)); exact fun h => q h.symm
     ·obtain ⟨_, _, _, _, _, _, q⟩ := okR_out (hP2.1 y hy); exact q
    refine ih (L1 ++ L2) hv1 p3 ?_ (fun x hx => hA x ?_) ?_ (fun x hx => hZ x ?_) hs' (fun j hj => ?_) (fun h => htL ?_) (by simpa using hsz) ?_ (fun x hx => hTl x ?_) ?_
    ·exact List.pairwise_append.2 ⟨hP1.1, hP2.2, fun x hx y hy => hP1.2.2 x hx y (by simp only [List.mem_cons]; exact .inr hy)⟩
    ·rcases List.mem_append.1 hx with hx | hx <;> simp [hx]
    ·exact List.pairwise_append.2 ⟨hD1.1, hD2.2, fun x hx y hy => hD1.2.2 x hx y (by simp only [List.mem_cons]; exact .inr hy)⟩
    ·rcases List.mem_append.1 hx with hx | hx <;> simp [hx]
    ·rw [getD_set (by omega)]
     by_cases hkj : k.k = j
     ·rw [if_pos hkj]
      refine ⟨fun h => (by cases h), fun h => ?_⟩
      rcases h with h | h
      ·exact absurd hkj (hnk j h)
      ·exfalso; apply htL; rw [← h, ← hkj]; exact List.mem_map_of_mem (by simp)
     ·rw [if_neg hkj, hl j hj]
      simp only [List.map_append, List.map_cons, List.mem_append, List.mem_cons]
      constructor
      ·rintro ((h | h | h) | h)
       ·exact .inl (.inl h)
       ·exact absurd h.symm hkj
       ·exact .inl (.inr h)
       ·exact .inr h
      ·rintro ((h | h) | h)
       ·exact .inl (.inl h)
       ·exact .inl (.inr (.inr h))
       ·exact .inr h
    ·simp only [List.map_append, List.map_cons, List.mem_append, List.mem_cons] at h ⊢
     rcases h with h | h
     ·exact .inl h
     ·exact .inr (.inr h)
    ·intro j oj hj hjl ed he hb
     rw [getD_set (by omega)] at hjl ⊢
     split
     ·rfl
     ·split at hjl
      ·rename_i hkj
       subst hkj
       rw [ho] at hj
       injection hj with hj
       subst hj
       exact hready ed he hb
      ·exact hc j oj hj hjl ed he hb
    ·rcases List.mem_append.1 hx with hx | hx <;> simp [hx]
    ·simp only [List.length_append, List.length_cons] at hlen ⊢
     omega
end
end
section
mutual
def ptrsV : MV → List Nat
 | .ptr c .. => [c]
 | .mp c => [c]
 | .st l => bif MV.idFrees l then [] else ptrsVs l
 | .fn _ l => bif MV.idFrees l then [] else ptrsVs l
 | .ifc _ v => bif v.idFree then [] else ptrsV v
 | _ => []
def ptrsVs : List MV → List Nat
 | [] => []
 | m :: l => ptrsV m ++ ptrsVs l
end
def reach (M : VM) : Nat → List Nat → List Nat → List Nat
 | 0, _, s => s
 | _, [], s => s
 | k + 1, c :: t, s => bif s.any (Nat.beq c) then reach M k t s else match VM.get M c with
  | some b => reach M k ((bif b.row || isMpv b.l then [] else numsVs b.l) ++ t) (c :: s)
  | none => reach M k t s
def newOf (n : Nat) : List MV → Option Nat
 | [] => none
 | .ms c .. :: l => bif Nat.ble n c then some c else newOf n l
 | .ptr c .. :: l => bif Nat.ble n c then some c else newOf n l
 | .mp c :: l => bif Nat.ble n c then some c else newOf n l
 | _ :: l => newOf n l
def pairS (l : List Nat) : Bs := l.map fun c => (c, c)
def newS (n : Nat) : Option Nat → Bs
 | some c => [(n, c)]
 | none => []
def kapR (n : Nat) (k : Option Nat) (c : Nat) : Option Nat := bif Nat.blt c n then some c else match k with
 | some x => bif Nat.beq c x then some n else none
 | none => none
def gotS (n : Nat) (M : VM) : Option Nat → Bs
 | some c => match VM.get M c with
  | some _ => [(n, c)]
  | none => []
 | none => []
def isVC (o : Oper) : Bool := match o.op with
 | .call c => match c.callee with
  | .value _ => true
  | _ => false
 | _ => false
def okPr (ops : Array Oper) (i j : Nat) : Bool := match ops[i]?, ops[j]? with
 | some a, some b => ((a.apart ops b && ((!isVC a && !isVC b && okC (kls a) (kls b)) || (!isVC b && Nat.beq (kls b) 0 || !isVC a && Nat.beq (kls a) 0))) || pathO ops 8 j i) && a.after.toList.all (fun e => !Region.binds .any e || !Nat.beq e.on j) && !Nat.beq i j
 | _, _ => false
def badFrom (ops : Array Oper) (i : Nat) : List Nat → List (Nat × Nat)
 | [] => []
 | j :: l => bif okPr ops i j then badFrom ops i l else (i, j) :: badFrom ops i l
def badPrs (ops : Array Oper) : List Nat → List (Nat × Nat)
 | [] => []
 | i :: l => badFrom ops i l ++ badPrs ops l
def sameNs : List Nat → List Nat → Bool
 | [], [] => true
 | a :: l, b :: r => Nat.beq a b && sameNs l r
 | _, _ => false
def dynOK (ops : Array Oper) (D : List Dop) (ps : List (Nat × Nat)) : Bool := ps.all fun p => match D[p.1]?, D[p.2]? with
 | some x, some y => okR ops x y
 | _, _ => false
def okDr (ops : Array Oper) (D : List Dop) (n m : Nat) : Bool := (List.range m).all (okS ops) && sameNs (D.map (·.k)) (List.range m) && D.all (fun x => !x.rf || match ops[x.k]? with | some o => isVC o | none => false) && dynOK ops D (badPrs ops (List.range m)) && okTwo D n
theorem sameNs_ok : ∀ {l r : List Nat}, sameNs l r = true → l = r
 | [], [], _ => rfl
 | a :: l, b :: r, h => by
  unfold sameNs at h
  rw [Bool.and_eq_true] at h
  rw [Nat.eq_of_beq_eq_true h.1, sameNs_ok h.2]
 | [], _ :: _, h => by cases h
 | _ :: _, [], h => by cases h
theorem badFrom_ok {ops : Array Oper} {i : Nat} : ∀ {l : List Nat} {j : Nat}, j ∈ l → okPr ops i j = true ∨ (i, j) ∈ badFrom ops i l
 | k :: l, j, h => by
  unfold badFrom
  cases hk : okPr ops i k with
  | true =>
   rcases List.mem_cons.1 h with rfl | h
   ·exact .inl hk
   ·exact badFrom_ok h
  | false =>
   rcases List.mem_cons.1 h with rfl | h
   ·exact .inr (List.mem_cons_self ..)
   ·exact (badFrom_ok h).imp id (List.mem_cons_of_mem _)
theorem badPrs_ok {ops : Array Oper} : ∀ (l : List Nat), l.Pairwise fun i j => okPr ops i j = true ∨ (i, j) ∈ badPrs ops l
 | [] => .nil
 | i :: l => by
  refine List.pairwise_cons.2 ⟨fun j hj => (badFrom_ok hj).imp id (List.mem_append_left _), (badPrs_ok l).imp fun h => h.imp id (List.mem_append_right _)⟩
theorem okPr_R {ops : Array Oper} {x y : Dop} (h : okPr ops x.k y.k = true) (hx : x.rf = true → ∃ o, ops[x.k]? = some o ∧ isVC o = true) (hy : y.rf = true → ∃ o, ops[y.k]? = some o ∧ isVC o = true) : okR ops x y = true := by
 unfold okPr at h
 unfold okR
 split at h
 ·rename_i a b ha hb
  simp only [ha, hb]
  have rx : isVC a = false → x.rf = false := fun hc => by
   cases hr : x.rf with
   | false => rfl
   | true => obtain ⟨o, h1, h2⟩ := hx hr; rw [ha] at h1; injection h1 with h1; subst h1; rw [hc] at h2; cases h2
  have ry : isVC b = false → y.rf = false := fun hc => by
   cases hr : y.rf with
   | false => rfl
   | true => obtain ⟨o, h1, h2⟩ := hy hr; rw [hb] at h1; injection h1 with h1; subst h1; rw [hc] at h2; cases h2
  simp only [Bool.and_eq_true, Bool.or_eq_true, Bool.not_eq_true'] at h ⊢
  refine ⟨⟨?_, h.1.2⟩, h.2⟩
  rcases h.1.1 with ⟨h1, h2⟩ | h1
  ·refine .inl ⟨h1, ?_⟩
   unfold okC2
   simp only [Bool.and_eq_true, Bool.or_eq_true, Bool.not_eq_true']
   rcases h2 with ⟨⟨h3, h4⟩, h5⟩ | ⟨h3, h4⟩ | ⟨h3, h4⟩
   ·exact .inl ⟨⟨rx h3, ry h4⟩, h5⟩
   ·exact .inr (.inr (.inl ⟨ry h3, h4⟩))
   ·exact .inr (.inr (.inr ⟨rx h3, h4⟩))
  ·exact .inr h1
 ·cases h
theorem okDr_out {ops : Array Oper} {D : List Dop} {n m : Nat} (h : okDr ops D n m = true) : D.Pairwise (fun x y => okR ops x y = true) ∧ (∀ x ∈ D, okS ops x.k = true) ∧ okTwo D n = true ∧ D.map (·.k) = List.range m := by
 unfold okDr at h
 simp only [Bool.and_eq_true] at h
 obtain ⟨⟨⟨⟨h1, h2⟩, h3⟩, h4⟩, h5⟩ := h
 have h2 := sameNs_ok h2
 have hlen : D.length = m := by have := congrArg List.length h2; simpa using this
 have hk : ∀ (i : Nat) (hi : i < D.length), D[i].k = i := fun i hi => by
  have := congrArg (fun l => l[i]?) h2
  simp only [List.getElem?_map, List.getElem?_eq_getElem hi, Option.map_some] at this
  rw [List.getElem?_eq_getElem (by simpa using (hlen ▸ hi))] at this
  simpa using this
 have hrf : ∀ x ∈ D, x.rf = true → ∃ o, ops[x.k]? = some o ∧ isVC o = true := fun x hx hr => by
  have := List.all_eq_true.1 h3 x hx
  rw [hr] at this
  simp only [Bool.not_true, Bool.false_or] at this
  split at this
  ·rename_i o ho; exact ⟨o, ho, this⟩
  ·cases this
 refine ⟨?_, fun x hx => ?_, h5, h2⟩
 ·rw [List.pairwise_iff_getElem]
  intro i j hi hj hij
  have hb := (List.pairwise_iff_getElem.1 (badPrs_ok (ops := ops) (List.range m))) i j (by simpa using (hlen ▸ hi)) (by simpa using (hlen ▸ hj)) hij
  simp only [List.getElem_range] at hb
  rcases hb with hb | hb
  ·refine okPr_R (by rw [hk i hi, hk j hj]; exact hb) (hrf _ (List.getElem_mem _)) (hrf _ (List.getElem_mem _))
  ·have := List.all_eq_true.1 h4 _ hb
   simp only [List.getElem?_eq_getElem hi, List.getElem?_eq_getElem hj] at this
   exact this
 ·obtain ⟨i, hi, rfl⟩ := List.getElem_of_mem hx
  rw [hk i hi]
  exact List.all_eq_true.1 h1 i (by simpa using (hlen ▸ hi))
def tailOK (ops : Array Oper) (t : Nat) : Bool := match ops[t]? with
 | some o => (List.range ops.size).all (fun k => Nat.beq k t || (o.after.toList.any (fun e => Region.binds .any e && Nat.beq e.on k) || pathO ops 3 t k)) && okS ops t && (List.range ops.size).all (fun k => match ops[k]? with | some o' => Nat.beq k t || o'.after.toList.all (fun e => !Region.binds .any e || !Nat.beq e.on t) | none => false)
 | none => false
def putM (n : Nat) (R : List Nat) (M2 M : VM) (bs : Bs) : VM := match R, M2, bs with
 | [], [], [] => M
 | R, M2, bs => renM (rhoZ n n (pairS R)) M2 ++ delM (VM.bump M bs) (pairS R)
theorem putM_eq {n : Nat} {R : List Nat} {M2 M : VM} {bs : Bs} : putM n R M2 M bs = renM (rhoZ n n (pairS R)) M2 ++ delM (VM.bump M bs) (pairS R) := by
 unfold putM
 split <;> rfl
def cutM (n : Nat) : List MV → VM → VM
 | [], M => M
 | .ms c _ 0 k :: l, M => match VM.get M c with
  | some b => bif Nat.ble n c && b.row && Nat.ble b.pe k && Nat.blt k b.l.length then cutM n l (VM.upd M c (b.l.take k)) else cutM n l M
  | none => cutM n l M
 | _ :: l, M => cutM n l M
theorem cutM_ok {Pg : Program} {G : GS} {f : FuncId} {args : List MV} {M0 : VM} {n0 n1 : Nat} {res : MV} {n : Nat} : ∀ (l : List MV) {M1 : VM}, SemR Pg G f args M0 n0 res M1 n1 → SemR Pg G f args M0 n0 res (cutM n l M1) n1
 | [], _, h => h
 | m :: l, M1, h => by
  unfold cutM
  split
  ·exact h
  ·rename_i M' c es k l' e
   injection e with e1 e2
   subst e1; subst e2
   split
   ·rename_i b hb
    cases hc : (Nat.ble n c && b.row && Nat.ble b.pe k && Nat.blt k b.l.length) with
    | false => exact cutM_ok l h
    | true =>
     simp only [Bool.and_eq_true, Nat.ble_eq] at hc
     obtain ⟨⟨⟨_, q1⟩, q2⟩, q3⟩ := hc
     refine cutM_ok l ?_
     intro w P adr vals a1 a2 a3 a4 a5
     refine Calls.mono (h w P adr vals a1 a2 a3 a4 a5) ?_
     rintro e w' ⟨v, h1, P', adr', hI, h2⟩
     exact ⟨v, h1, P', adr', (inv_cut hb q1 q2 (by simpa [Nat.blt_eq] using q3)).2 hI, h2⟩
   ·exact cutM_ok l h
  ·rename_i e
   injection e with e1 e2
   subst e1; subst e2
   exact cutM_ok _ h
mutual
def eqV : MV → MV → Bool
 | .int k a, .int j b => decide (k = j) && decide (a = b)
 | .bool a, .bool b => bEq a b
 | .str s, .str t => decide (s = t)
 | .nilp, .nilp => true
 | .ptr c e k f p, .ptr c' e' k' f' p' => Nat.beq c c' && Nat.beq e e' && Nat.beq k k' && Nat.beq f f' && sameNs p p'
 | .gp g o, .gp g' o' => Nat.beq g g' && Nat.beq o o'
 | .ep v f p, .ep v' f' p' => eqV v v' && Nat.beq f f' && sameNs p p'
 | .sl n l, .sl m r => Nat.beq n m && eqVs l r
 | .nils, .nils => true
 | .ms c e o n, .ms c' e' o' n' => Nat.beq c c' && Nat.beq e e' && Nat.beq o o' && Nat.beq n n'
 | .fn f l, .fn g r => Nat.beq f g && eqVs l r
 | .nilf, .nilf => true
 | .nili, .nili => true
 | .ifc t v, .ifc u x => Nat.beq t u && eqV v x
 | .st l, .st r => eqVs l r
 | .arr n e l, .arr m f r => Nat.beq n m && Nat.beq e f && eqVs l r
 | .tup l, .tup r => eqVs l r
 | .mp c, .mp d => Nat.beq c d
 | .mpv k l, .mpv j r => eqVs k j && eqVs l r
 | .undef, .undef => true
 | _, _ => false
def eqVs : List MV → List MV → Bool
 | [], [] => true
 | a :: l, b :: r => eqV a b && eqVs l r
 | _, _ => false
end
mutual
theorem eqV_ok : ∀ {x y : MV}, eqV x y = true → x = y
 | .int .., y, h => by cases y <;> first | (cases h; done) | (unfold eqV at h; simp at h; simp [h])
 | .bool .., y, h => by cases y <;> first | (cases h; done) | (unfold eqV at h; rw [bEq_out h])
 | .str .., y, h => by cases y <;> first | (cases h; done) | (unfold eqV at h; simp at h; simp [h])
 | .nilp, y, h => by cases y <;> first | rfl | cases h
 | .ptr .., y, h => by cases y <;> first | (cases h; done) | (unfold eqV at h; simp only [Bool.and_eq_true, Nat.beq_eq] at h; obtain ⟨⟨⟨⟨rfl, rfl⟩, rfl⟩, rfl⟩, h⟩ := h; rw [sameNs_ok h])
 | .gp .., y, h => by cases y <;> first | (cases h; done) | (unfold eqV at h; simp only [Bool.and_eq_true, Nat.beq_eq] at h; obtain ⟨rfl, rfl⟩ := h; rfl)
 | .ep .., y, h => by cases y <;> first | (cases h; done) | (unfold eqV at h; simp only [Bool.and_eq_true, Nat.beq_eq] at h; obtain ⟨⟨h1, rfl⟩, h⟩ := h; rw [eqV_ok h1, sameNs_ok h])
 | .sl .., y, h => by cases y <;> first | (cases h; done) | (unfold eqV at h; simp only [Bool.and_eq_true, Nat.beq_eq] at h; obtain ⟨rfl, h⟩ := h; rw [eqVs_ok h])
 | .nils, y, h => by cases y <;> first | rfl | cases h
 | .ms .., y, h => by cases y <;> first | (cases h; done) | (unfold eqV at h; simp only [Bool.and_eq_true, Nat.beq_eq] at h; obtain ⟨⟨⟨rfl, rfl⟩, rfl⟩, rfl⟩ := h; rfl)
 | .fn .., y, h => by cases y <;> first | (cases h; done) | (unfold eqV at h; simp only [Bool.and_eq_true, Nat.beq_eq] at h; obtain ⟨rfl, h⟩ := h; rw [eqVs_ok h])
 | .nilf, y, h => by cases y <;> first | rfl | cases h
 | .nili, y, h => by cases y <;> first | rfl | cases h
 | .ifc .., y, h => by cases y <;> first | (cases h; done) | (unfold eqV at h; simp only [Bool.and_eq_true, Nat.beq_eq] at h; obtain ⟨rfl, h⟩ := h; rw [eqV_ok h])
 | .st _, y, h => by cases y <;> first | (cases h; done) | (unfold eqV at h; rw [eqVs_ok h])
 | .arr .., y, h => by cases y <;> first | (cases h; done) | (unfold eqV at h; simp only [Bool.and_eq_true, Nat.beq_eq] at h; obtain ⟨⟨rfl, rfl⟩, h⟩ := h; rw [eqVs_ok h])
 | .tup _, y, h => by cases y <;> first | (cases h; done) | (unfold eqV at h; rw [eqVs_ok h])
 | .mp _, y, h => by cases y <;> first | (cases h; done) | (unfold eqV at h; rw [Nat.eq_of_beq_eq_true h])
 | .mpv .., y, h => by cases y <;> first | (cases h; done) | (unfold eqV at h; rw [Bool.and_eq_true] at h; rw [eqVs_ok h.1, eqVs_ok h.2])
 | .undef, y, h => by cases y <;> first | rfl | cases h
theorem eqVs_ok : ∀ {x y : List MV}, eqVs x y = true → x = y
 | [], [], _ => rfl
 | a :: l, b :: r, h => by
  unfold eqVs at h
  rw [Bool.and_eq_true] at h
  rw [eqV_ok h.1, eqVs_ok h.2]
 | [], _ :: _, h => by cases h
 | _ :: _, [], h => by cases h
end
def eqB : Option MB → Option MB → Bool
 | some a, some b => Nat.beq a.ty b.ty && Nat.beq a.es b.es && bEq a.row b.row && Nat.beq a.pe b.pe && eqVs a.l b.l
 | none, none => true
 | _, _ => false
theorem eqB_ok : ∀ {a b : Option MB}, eqB a b = true → a = b
 | some ⟨_, _, _, _, _⟩, some ⟨_, _, _, _, _⟩, h => by
  unfold eqB at h
  simp only [Bool.and_eq_true, Nat.beq_eq] at h
  obtain ⟨⟨⟨⟨rfl, rfl⟩, h1⟩, rfl⟩, h2⟩ := h
  rw [bEq_out h1, eqVs_ok h2]
 | none, none, _ => rfl
 | some _, none, h => by cases h
 | none, some _, h => by cases h
def roOf (rf : Bool) (fp : List Nat) (M M' : VM) : List Nat := match rf with
 | true => fp.filter fun c => eqB (VM.get M' c) (VM.get M c)
 | false => []
theorem roOf_ok {rf : Bool} {fp : List Nat} {M M' : VM} {c : Nat} (h : c ∈ roOf rf fp M M') : VM.get M' c = VM.get M c := by
 unfold roOf at h
 split at h
 ·exact eqB_ok (List.mem_filter.1 h).2
 ·cases h
section
variable (Pg : Program) (T : Tab) (N : Nat) (ents : List FuncId)
def gCallZ (ra : Bool) (cf : CallF) (M : VM) (n : Nat) (f : FuncId) (vs : List MV) : Option (MV × VM × List Nat) := match reach M 1000 (bif ra then numsVs vs else ptrsVs vs ++ looseR 0 M (msVs vs) []) [] with
 | R => match mkAll 0 (pairS R) (fun c => bif R.any (Nat.beq c) then some c else none) M false (pairS R) vs with
  | some (args, M0, bs) => bif okSg 0 n (pairS R) && M0.all (fun x => Nat.blt x.1 n) && allIn M (pairS R) then (match cf f args M0 n with
   | some (res0, M10, _) => (match tight n res0 M10 (newOf n (comps res0)) with
    | some (res, M11, _) => (match cutM n (comps res) M11, newOf n (comps res) with
     | M1, k => (match mkAll n (newS n k) (kapR n k) M1 false (oldS n M1 ++ gotS n M1 k) (comps res) with
      | some (rv, M2, _) => bif okSg n (n + (newS n k).length) (newS n k) && M2.all (fun x => Nat.blt x.1 (n + (newS n k).length)) && okCo res && okNew (pairS R) n (n + (newS n k).length) M2 && Nat.ble (n + (newS n k).length) (n + 1) && subN ((pairS R).map (·.2)) (R ++ bs.map (·.1)) && subN (bs.map (·.1)) (R ++ bs.map (·.1)) then
       fD (renV (rhoZ n n (pairS R)) (tupM rv)) fun r => some (r, putM n R M2 M bs, R ++ bs.map (·.1)) else none
      | none => none))
    | none => none)
   | none => none) else none
  | none => none
def gEop (o : Oper) (E : VE) (M : VM) (n : Nat) : Option (Bool × MV × VM × List Nat) := match eG Pg T E M n o with
 | some (r, δ) => some (false, r, δ.app n M, numsO (VE.get E) o.op.operands.toList)
 | none => none
def gRunD (bv : FuncId → Nat) (cf : CallF) (o : Oper) (E : VE) (M : VM) (n : Nat) : Option (Bool × MV × VM × List Nat) := match o.op with
 | .call c => match c.callee with
  | .value f => match (vArgs E f c.args.toList).get with
   | some (f0, vs) => match ents.contains f0 with
    | true => match Nat.beq (bv f0) 1 with
     | true => match (vCall E M f c.args.toList).get with
      | some (f1, us, bs) => match ents.contains f1 with
       | true => match gByVal cf f1 us with
        | some r => some (false, r, VM.bump M bs, numsO (VE.get E) o.op.operands.toList)
        | none => none
       | false => none
      | none => none
     | false => match gCallZ (Nat.beq (bv f0) 2) cf M n f0 vs with
      | some (r, M', fp) => some (true, r, M', fp)
      | none => none
    | false => none
   | none => none
  | _ => gEop Pg T o E M n
 | _ => gEop Pg T o E M n
def gDoD (bv : FuncId → Nat) (cf : CallF) (o : Oper) (E : VE) (M : VM) (n : Nat) : Option (Bool × List Nat × VE × VM) := match gRunD Pg T ents bv cf o E M n with
 | some (rf, r, M, fp) => fW o.op r fun r => match gPut N o.dst r E with
  | some E => some (rf, fp, E, M)
  | none => none
 | none => none
def gSkipD (o : Oper) (E0 E : VE) (M : VM) : Option (Bool × List Nat × VE × VM) := match gPut N o.dst .undef E with
 | some E' => some (false, numsO (VE.get E0) o.op.operands.toList, E', M)
 | none => none
def gOpD (bv : FuncId → Nat) (cf : CallF) (ops : Array Oper) (o : Oper) (E : VE) (M : VM) (n : Nat) : Option (Bool × List Nat × VE × VM) := match o.guard with
 | none => gDoD Pg T N ents bv cf o E M n
 | some (j, want) => match (ops[j]?).bind (·.dst) with
  | none => none
  | some s => match VE.get E s with
   | some (.bool t) => match bEq t want with
    | true => gDoD Pg T N ents bv cf o ((s, .bool want) :: E) M n
    | false => gSkipD N o E ((s, .bool (!want)) :: E) M
   | some .undef => gSkipD N o E E M
   | _ => none
def gOpsD (bv : FuncId → Nat) (cf : CallF) (ops : Array Oper) : List Nat → List Dop → VE → VM → Nat → Option (VE × VM × Nat × List Dop)
 | [], A, E, M, n => some (E, M, n, A)
 | x :: L, A, E, M, n => match ops[x]? with
  | some o => match gOpD Pg T N ents bv cf ops o E M n with
   | some (rf, fp, E, M') => fN (n + 1) fun n' => gOpsD bv cf ops L (⟨x, n, rf, fp, roOf rf fp M M'⟩ :: A) E M' n'
   | none => none
  | none => none
def gDrA (bv : FuncId → Nat) (cf : CallF) (ops : Array Oper) (E : VE) (M : VM) (n : Nat) : Option (VE × VM × Nat) := match gOpsD Pg T N ents bv cf ops (List.range ops.size) [] E M n with
 | some (E, M, n, A) => bif okDr ops A.reverse n ops.size then some (E, M, n) else none
 | none => none
def gDrT (bv : FuncId → Nat) (cf : CallF) (ops : Array Oper) (t : Nat) (E : VE) (M : VM) (n : Nat) : Option (VE × VM × Nat) := match gOpsD Pg T N ents bv cf ops (List.range t) [] E M n with
 | some (E, M, n, A) => bif okDr ops A.reverse n t then (match ops[t]? with
  | some o => gOpF Pg T N ents bv cf ops o E M n
  | none => none) else none
 | none => none
def gDr (bv : FuncId → Nat) (cf : CallF) (ops : Array Oper) (E : VE) (M : VM) (n : Nat) : Option (VE × VM × Nat) := match ops.size with
 | 0 => none
 | t + 1 => bif tailOK ops t && Nat.beq (t + 1) ops.size then gDrT Pg T N ents bv cf ops t E M n else gDrA Pg T N ents bv cf ops E M n
abbrev TblF := FuncId → List MV → VM → Nat → Option (Option (MV × VM × Nat))
def gEv (tb : TblF) (bv : FuncId → Nat) (pr : FuncId → Nat → MV → VM → Nat → Bool) (lf : Nat) : Nat → CallF
 | 0 => fun _ _ _ _ => none
 | k + 1 => fun f vs M n => match tb f vs M n with
  | some r => r
  | none => gF Pg T ents bv (fun N cf => gDr Pg T N ents bv cf) pr lf (gEv tb bv pr lf k) f vs M n
end
section
variable {Pg : Program} {T : Tab} {N : Nat} {ents : List FuncId} {G : GS} {w0 w w' : World} {ex0 : Anc} {P0 P P' : Prot} {adr adr' : Adr} {E E' E2 : VE} {M M' : VM} {m : FM} {n n' : Nat} {a : Act} {r : MV} {u : Value} {o : Oper} {ops : Array Oper}
def TblOK (Pg : Program) (ents : List FuncId) (G : GS) (tb : TblF) : Prop := ∀ f vs M n r M' n', tb f vs M n = some (some (r, M', n')) → (∀ c, n ≤ c → VM.get M c = none) →
 n ≤ n' ∧ (∀ c, n' ≤ c → VM.get M' c = none) ∧ (ents.contains f = true → SemR Pg G f vs M n r M' n') ∧ (ents.contains f = false → SemP Pg G f vs M n r M' n')
theorem gCallZ_ok {ra : Bool} {cf : CallF} (hcf : CfOK Pg ents G cf) {f : FuncId} {vs : List MV} {fp : List Nat} {K : MV → VM → Prop} (h : gCallZ ra cf M n f vs = some (r, M', fp)) (hin : ents.contains f = true) (hk : K r M') : vCallZ Pg G M n f vs fp K := by
 unfold gCallZ at h
 dsimp only at h
 generalize reach M 1000 (bif ra then numsVs vs else ptrsVs vs ++ looseR 0 M (msVs vs) []) [] = R at h
 split at h
 ·rename_i args M0 bs ha
  obtain ⟨h0, h⟩ := bif_some h
  simp only [Bool.and_eq_true] at h0
  obtain ⟨⟨p1, p2⟩, p3⟩ := h0
  have hfr : ∀ c, n ≤ c → VM.get M0 c = none := fun c hc => all_lt p2 hc
  split at h
  ·rename_i res0 M10 n1 hc
   split at h
   rotate_left
   ·cases h
   rename_i res M11 n3 ht
   obtain ⟨n4, hs⟩ := tight_ok ((hcf _ _ _ _ _ _ _ hc hfr).2.2.1 hin) ht
   have hs := cutM_ok (n := n) (comps res) hs
   generalize cutM n (comps res) M11 = M1 at h hs
   generalize newOf n (comps res) = k at h
   split at h
   ·rename_i rv M2 bs2 hm
    obtain ⟨h0, h⟩ := bif_some h
    simp only [Bool.and_eq_true] at h0
    obtain ⟨⟨⟨⟨⟨⟨q1, q2⟩, q3⟩, q4⟩, q5⟩, q6⟩, q7⟩ := h0
    rw [fD_eq, putM_eq] at h
    injection h with h; injection h with e1 h; injection h with e2 e3
    subst e1; subst e2; subst e3
    have hsem := semR_match hs (mkAll_ok hm q1 q2) q3
    exact ⟨args, M0, n, _, M2, _, hsem, pairS R, bs, mkAll_ok ha p1 p2, p3, q4, by unfold okTw; rw [q5]; rfl, q6, q7, hk⟩
   ·cases h
  ·cases h
 ·cases h
theorem gEop_ok {rf : Bool} {M' : VM} {fp : List Nat} {K : MV → VM → List Nat → Prop} (h : gEop Pg T o E M n = some (rf, r, M', fp)) (hk : K r M' fp) : rf = false ∧ (eOp Pg T (VE.get E) (VM.get M) n o).runP fun x => K x.1 (x.2.app n M) (numsO (VE.get E) o.op.operands.toList) := by
 unfold gEop at h
 split at h
 ·rename_i x δ hx
  injection h with h; injection h with e1 h; injection h with e2 h; injection h with e3 e4
  subst e1; subst e2; subst e3; subst e4
  exact ⟨rfl, eG_ok hx hk⟩
 ·cases h
theorem gRunD_ok {bv : FuncId → Nat} {cf : CallF} (hcf : CfOK Pg ents G cf) {rf : Bool} {M' : VM} {fp : List Nat} {K : MV → VM → List Nat → Prop} (h : gRunD Pg T ents bv cf o E M n = some (rf, r, M', fp)) (hk : K r M' fp) : vRunD Pg T ents G rf o E M n K := by
 obtain ⟨dst, op, ty, pos, after, guard⟩ := o
 have plain : gEop Pg T ⟨dst, op, ty, pos, after, guard⟩ E M n = some (rf, r, M', fp) → rf = false ∧ (eOp Pg T (VE.get E) (VM.get M) n ⟨dst, op, ty, pos, after, guard⟩).runP fun x => K x.1 (x.2.app n M) (numsO (VE.get E) (⟨dst, op, ty, pos, after, guard⟩ : Oper).op.operands.toList) := fun h => gEop_ok h hk
 cases op with
 | call c =>
  obtain ⟨callee, args, ats⟩ := c
  cases callee with
  | value f =>
   clear plain
   replace h : (match (vArgs E f args.toList).get with
    | some (f0, vs) => match ents.contains f0 with
     | true => match Nat.beq (bv f0) 1 with
      | true => match (vCall E M f args.toList).get with
       | some (f1, us, bs) => match ents.contains f1 with
        | true => match gByVal cf f1 us with
         | some r => some (false, r, VM.bump M bs, numsO (VE.get E) (⟨dst, .call ⟨.value f, args, ats⟩, ty, pos, after, guard⟩ : Oper).op.operands.toList)
         | none => none
        | false => none
       | none => none
      | false => match gCallZ (Nat.beq (bv f0) 2) cf M n f0 vs with
       | some (r, M', fp) => some (true, r, M', fp)
       | none => none
     | false => none
    | none => none) = some (rf, r, M', fp) := h
   split at h
   ·rename_i f0 vs hg
    split at h
    ·rename_i hin
     split at h
     ·split at h
      ·rename_i f1 us bs hg1
       split at h
       ·rename_i hin1
        split at h
        ·rename_i r0 hr0
         injection h with h; injection h with e1 h; injection h with e2 h; injection h with e3 e4
         subst e1; subst e2; subst e3; subst e4
         show (vCall E M f args.toList).runP fun x => match ents.contains x.1 with | true => ∃ res, SemC Pg G x.1 x.2.1 res ∧ K res (VM.bump M x.2.2) _ | false => False
         refine Ask.ok _ _ _ hg1 ?_
         show match ents.contains f1 with | true => ∃ res, SemC Pg G f1 us res ∧ K res (VM.bump M bs) _ | false => False
         rw [hin1]
         exact ⟨_, gByVal_ok hcf hr0 hin1, hk⟩
        ·cases h
       ·cases h
      ·cases h
     ·split at h
      ·rename_i r0 M0 fp0 hz
       injection h with h; injection h with e1 h; injection h with e2 h; injection h with e3 e4
       subst e1; subst e2; subst e3; subst e4
       show (vArgs E f args.toList).runP fun x => match ents.contains x.1 with | true => ∃ fp, vCallZ Pg G M n x.1 x.2 fp fun r M' => K r M' fp | false => False
       refine Ask.ok _ _ _ hg ?_
       show match ents.contains f0 with | true => ∃ fp, vCallZ Pg G M n f0 vs fp fun r M' => K r M' fp | false => False
       rw [hin]
       exact ⟨_, gCallZ_ok hcf hz hin hk⟩
      ·cases h
    ·cases h
   ·cases h
  | builtin b => obtain ⟨e, h2⟩ := plain h; subst e; exact h2
  | invoke x name => obtain ⟨e, h2⟩ := plain h; subst e; exact h2
 | _ => obtain ⟨e, h2⟩ := plain h; subst e; exact h2
theorem gDoD_ok {bv : FuncId → Nat} {cf : CallF} (hcf : CfOK Pg ents G cf) {rf : Bool} {fp : List Nat} {K : List Nat → VE → VM → Prop} (h : gDoD Pg T N ents bv cf o E M n = some (rf, fp, E', M')) (hk : K fp E' M') : vRunD Pg T ents G rf o E M n fun r M fp => vPut N o.dst r E fun E => K fp E M := by
 unfold gDoD at h
 split at h
 ·rename_i rf1 r M1 fp1 hr
  rw [fW_eq] at h
  split at h
  ·rename_i E1 hp
   injection h with h; injection h with e1 h; injection h with e2 h; injection h with e3 e4
   subst e1; subst e2; subst e3; subst e4
   exact gRunD_ok hcf hr (gPut_ok hp hk)
  ·cases h
 ·cases h
theorem gSkipD_ok {E0 : VE} {rf : Bool} {fp : List Nat} {K : List Nat → VE → VM → Prop} (h : gSkipD N o E0 E M = some (rf, fp, E', M')) (hk : K fp E' M') : rf = false ∧ vPut N o.dst .undef E fun E' => K (numsO (VE.get E0) o.op.operands.toList) E' M := by
 unfold gSkipD at h
 split at h
 ·rename_i E1 hp
  injection h with h; injection h with e1 h; injection h with e2 h; injection h with e3 e4
  subst e1; subst e2; subst e3; subst e4
  exact ⟨rfl, gPut_ok hp hk⟩
 ·cases h
theorem gOpD_ok {bv : FuncId → Nat} {cf : CallF} (hcf : CfOK Pg ents G cf) {rf : Bool} {fp : List Nat} {K : List Nat → VE → VM → Prop} (h : gOpD Pg T N ents bv cf ops o E M n = some (rf, fp, E', M')) (hk : K fp E' M') : vOpD Pg T N ents G ops rf o K E M n := by
 unfold gOpD at h
 unfold vOpD
 split at h
 ·rename_i hg
  simp only [hg]
  exact gDoD_ok hcf h hk
 ·rename_i j want hg
  split at h
  ·cases h
  ·rename_i s hj
   simp only [hg, hj]
   split at h
   ·rename_i t ht
    simp only [ht]
    split at h
    ·rename_i hb
     have hw := bEq_out hb
     refine ⟨fun _ => gDoD_ok hcf h hk, fun e => ?_⟩
     rw [hw] at e
     cases want <;> cases e
    ·rename_i hb
     have hw := bEq_not hb
     obtain ⟨e, h2⟩ := gSkipD_ok h hk
     subst e
     exact ⟨fun e => absurd e hw, fun _ => h2⟩
   ·rename_i ht
    simp only [ht]
    obtain ⟨e, h2⟩ := gSkipD_ok h hk
    subst e
    exact h2
   ·cases h
theorem gOpsD_run {bv : FuncId → Nat} {cf : CallF} (hcf : CfOK Pg ents G cf) : ∀ (L : List Nat) {A : List Dop} {E : VE} {M : VM} {n : Nat} {E' : VE} {M' : VM} {n' : Nat} {A' : List Dop}, gOpsD Pg T N ents bv cf ops L A E M n = some (E', M', n', A') →
  ∃ D, A'.reverse = A.reverse ++ D ∧ n' = n + L.length ∧ NumB n n' D ∧ runL Pg T N ents G ops D (VE.get E) (VM.get M) (VE.get E') (VM.get M')
 | [], A, E, M, n, E', M', n', A', h => by
  injection h with h
  injection h with h1 h
  injection h with h2 h
  injection h with h3 h4
  subst h1; subst h2; subst h3; subst h4
  exact ⟨[], by simp, by simp, ⟨List.nodup_nil, fun _ h => nomatch h⟩, rfl, rfl⟩
 | x :: L, A, E, M, n, E', M', n', A', h => by
  unfold gOpsD at h
  split at h
  ·rename_i o ho
   split at h
   ·rename_i rf fp E1 M1 h1
    rw [fN_eq] at h
    obtain ⟨D, d1, d2, d3, d4⟩ := gOpsD_run hcf L h
    obtain ⟨fp', E2, M2, ⟨rfl, rfl, rfl⟩, hst⟩ := vOpD_toF (gOpD_ok (G := G) hcf h1 (K := fun fp' E' M' => fp' = fp ∧ E' = E1 ∧ M' = M1) ⟨rfl, rfl, rfl⟩)
    refine ⟨⟨x, n, rf, fp', roOf rf fp' M M2⟩ :: D, by rw [d1]; simp, by rw [d2, List.length_cons]; omega, ⟨List.nodup_cons.2 ⟨fun hm => ?_, d3.1⟩, fun y hy => ?_⟩, o, _, _, ho, ⟨hst, fun _ c hc => roOf_ok hc⟩, d4⟩
    ·obtain ⟨y, hy, he⟩ := List.mem_map.1 hm
     have := (d3.2 y hy).1
     simp only at he
     omega
    ·rcases List.mem_cons.1 hy with rfl | hy
     ·exact ⟨Nat.le_refl _, by simp only; omega⟩
     ·have := d3.2 y hy; omega
   ·cases h
  ·cases h
theorem gDrA_ok {bv : FuncId → Nat} {cf : CallF} (hcf : CfOK Pg ents G cf) : DrOK Pg T N ents G (gDrA Pg T N ents bv cf) := by
 intro w0 ex0 P0 id ops E M n E' M' n' a w hS h hs
 unfold gDrA at h
 split at h
 ·rename_i E1 M1 n1 A h1
  obtain ⟨hd, h⟩ := bif_some h
  injection h with h
  injection h with e1 h
  injection h with e2 e3
  subst e1; subst e2; subst e3
  obtain ⟨D, d1, d2, ⟨hnd, hnb⟩, hr⟩ := gOpsD_run (G := G) hcf _ h1
  rw [List.reverse_nil, List.nil_append] at d1
  rw [d1] at hd
  obtain ⟨hP, hA, htwo, hkr⟩ := okDr_out hd
  have hDl : D.length = ops.size := by have := congrArg List.length hkr; simpa using this
  refine wp_region_any hS.seat.mixed ?_
  refine any_ok (Z := fun c => n1 ≤ c) hS (fun a w hs' => ⟨rfl, hs'.toSim fun c hc => hc⟩) ops.size D ⟨M, rfl⟩ hr hP hA (dj_of htwo hnd) (fun x hx c ho hz => ?_) ?_ (fun k hk => ?_) (by simp) (fun k o ho hl => ?_) (by omega)
  ·have h1 := (hnb x hx).2
   replace hz : n1 ≤ c := hz
   rcases ho with rfl | ⟨rfl, ho⟩
   ·omega
   ·have := (okTwo_out htwo hx ho).1
    omega
  ·refine (hs.toS.drew).mono fun c hc => ?_
   rcases hc with ⟨x, hx, ho⟩ | hc
   ·show n ≤ c
    have := (hnb x hx).1
    rcases ho with rfl | ⟨rfl, _⟩ <;> omega
   ·show n ≤ c
    replace hc : n1 ≤ c := hc
    omega
  ·have h1 : (Array.replicate ops.size false).getD k true = false := by simp [Array.getD, hk]
   have h2 : k ∈ D.map (·.k) := by rw [hkr]; simpa using hk
   exact ⟨fun _ => h2, fun _ => h1⟩
  ·exfalso
   by_cases hk : k < ops.size
   ·simp [Array.getD, hk] at hl
   ·simp [Array.getD, hk] at hl
 ·cases h
theorem gDrT_ok {bv : FuncId → Nat} {cf : CallF} (hcf : CfOK Pg ents G cf) {t : Nat} (htl : tailOK ops t = true) (hsz : t + 1 = ops.size) (hS : SeatM Pg T ents G w0 ex0) {id : Nat} (h : gDrT Pg T N ents bv cf ops t E M n = some (E', M', n')) (hs : Sim N w0 ex0 P0 (VE.get E) (VM.get M) n a w) :
  (Code.region id ops true).wp Pg (fun e a w => e = .normal ∧ Sim N w0 ex0 P0 (VE.get E') (VM.get M') n' a w) a w := by
 unfold gDrT at h
 split at h
 rotate_left
 ·cases h
 rename_i E1 M1 n1 A h1
 obtain ⟨hd, h⟩ := bif_some h
 split at h
 rotate_left
 ·cases h
 rename_i o ho
 obtain ⟨D, d1, d2, ⟨hnd, hnb⟩, hr⟩ := gOpsD_run (G := G) hcf _ h1
 rw [List.reverse_nil, List.nil_append] at d1
 rw [d1] at hd
 obtain ⟨hP, hA, htwo, hkr⟩ := okDr_out hd
 rw [List.length_range] at d2
 have hDl : D.length = t := by have := congrArg List.length hkr; simpa using this
 have hmem : ∀ k, k ∈ D.map (·.k) ↔ k < t := fun k => by rw [hkr]; simp
 unfold tailOK at htl
 rw [ho] at htl
 simp only [Bool.and_eq_true, List.all_eq_true] at htl
 obtain ⟨⟨t1, t2⟩, t3⟩ := htl
 have hta : ∀ k, k < ops.size → k ≠ t → (∃ ed ∈ o.after.toList, Region.binds .any ed = true ∧ ed.on = k) ∨ pathO ops 3 t k = true := fun k hk hne => by
  have := t1 k (by simpa using hk)
  rw [Bool.or_eq_true, Bool.or_eq_true] at this
  rcases this with h | h | h
  ·exact absurd (Nat.eq_of_beq_eq_true h) hne
  ·obtain ⟨ed, he, hb⟩ := List.any_eq_true.1 h
   rw [Bool.and_eq_true] at hb
   exact .inl ⟨ed, he, hb.1, Nat.eq_of_beq_eq_true hb.2⟩
  ·exact .inr h
 have hts : ∀ ed ∈ o.after.toList, Region.binds .any ed = true → ed.on < ops.size ∧ ed.on ≠ t := by
  obtain ⟨o2, h3, h4⟩ := okS_out t2
  rw [ho] at h3
  injection h3 with h3
  subst h3
  exact h4
 have hTl : ∀ x ∈ D, ∀ o, ops[x.k]? = some o → ∀ ed ∈ o.after.toList, Region.binds .any ed = true → ed.on ≠ t := fun x hx o2 ho2 ed he hb => by
  have hlt := (Array.getElem?_eq_some_iff.1 ho2).1
  have := t3 x.k (by simpa using hlt)
  simp only [ho2, Bool.or_eq_true, List.all_eq_true, Bool.not_eq_true'] at this
  rcases this with h | h
  ·have h5 := (hmem x.k).1 (List.mem_map_of_mem hx)
   have := Nat.eq_of_beq_eq_true h
   omega
  ·rcases h ed he with h | h
   ·rw [hb] at h; cases h
   ·intro e; rw [e, Nat.beq_refl] at h; cases h
 refine wp_region_any hS.seat.mixed ?_
 refine any_okT (P0 := P0) (Z := fun c => n1 ≤ c) (Fin := fun a w => Sim N w0 ex0 P0 (VE.get E') (VM.get M') n' a w) (t := t) (ot := o) (e' := VE.get E1) (m' := VM.get M1) hS ho hta hts (fun a w hf => ⟨rfl, hf⟩) (fun K a w hK hs' => ?_) ops.size D ⟨M, rfl⟩ hr hP hA (dj_of htwo hnd) (fun x hx c ho' hz => ?_) ?_ (fun k hk => ?_) ?_ (by simp) (fun k o ho hl => ?_) hTl ?_
 ·unfold wpOp
  rw [ho]
  exact gOpF_ok hS hcf h (hs'.toSim fun c hc => hc) hK
 ·have h1 := (hnb x hx).2
  replace hz : n1 ≤ c := hz
  rcases ho' with rfl | ⟨rfl, ho'⟩
  ·omega
  ·have := (okTwo_out htwo hx ho').1
   omega
 ·refine (hs.toS.drew).mono fun c hc => ?_
  rcases hc with ⟨x, hx, ho⟩ | hc
  ·show n ≤ c
   have := (hnb x hx).1
   rcases ho with rfl | ⟨rfl, _⟩ <;> omega
  ·show n ≤ c
   replace hc : n1 ≤ c := hc
   omega
 ·have h1 : (Array.replicate ops.size false).getD k true = false := by simp [Array.getD, hk]
  refine ⟨fun _ => ?_, fun _ => h1⟩
  rcases Nat.lt_or_ge k t with h | h
  ·exact .inl ((hmem k).2 h)
  ·exact .inr (by omega)
 ·intro h
  have := (hmem t).1 h
  omega
 ·exfalso
  by_cases hk : k < ops.size
  ·simp [Array.getD, hk] at hl
  ·simp [Array.getD, hk] at hl
 ·omega
theorem gDr_ok {bv : FuncId → Nat} {cf : CallF} (hcf : CfOK Pg ents G cf) : DrOK Pg T N ents G (gDr Pg T N ents bv cf) := by
 intro w0 ex0 P0 id ops E M n E' M' n' a w hS h hs
 unfold gDr at h
 split at h
 ·cases h
 ·rename_i t hsz
  cases ht : (tailOK ops t && Nat.beq (t + 1) ops.size) with
  | true =>
   rw [ht] at h
   rw [Bool.and_eq_true] at ht
   exact gDrT_ok hcf ht.1 (Nat.eq_of_beq_eq_true ht.2) hS h hs
  | false =>
   rw [ht] at h
   exact gDrA_ok hcf hS h hs
theorem gF_ok {bv : FuncId → Nat} {cf : CallF} {dr : Nat → CallF → Array Oper → VE → VM → Nat → Option (VE × VM × Nat)} (hS : Seat Pg T ents) (hcf : CfOK Pg ents G cf) (hdr : ∀ N, DrOK Pg T N ents G (dr N cf)) {pr : FuncId → Nat → MV → VM → Nat → Bool} {lf : Nat} : CfOK Pg ents G (gF Pg T ents bv dr pr lf cf) := by
  intro f vs M n r M' n' h hM
  unfold gF at h
  split at h
  · rename_i fn hf
    split at h
    · rename_i c hb
      cases hc : (Nat.ble vs.length fn.ntmps && Nat.ble fn.results.size 6 && ents.contains f) with
      | false => rw [hc] at h; cases h
      | true =>
        rw [hc] at h
        simp only [Bool.and_eq_true, Nat.ble_eq] at hc
        obtain ⟨⟨h1, h2⟩, h3⟩ := hc
        have go : ∀ {e : Exit} {E' : VE} {M1 : VM} {n1 : Nat}, gC Pg T fn.ntmps ents bv (dr fn.ntmps cf) cf lf c (envM 0 vs) M n = some (e, E', M1, n1) → e = .ret ∨ e = .normal →
            (match gRets T M1 E' fn.results.toList with | some vs => bif vs.all MV.isVal then some (tupM vs, M1.filter fun x => Nat.blt x.1 (Nat.max n n1) && pr f n (tupM vs) M1 x.1, Nat.max n n1) else none | none => none) = some (r, M', n') →
            n ≤ n' ∧ (∀ c, n' ≤ c → VM.get M' c = none) ∧ (ents.contains f = true → SemR Pg G f vs M n r M' n') ∧ (ents.contains f = false → SemP Pg G f vs M n r M' n') := by
          intro e E' M1 n1 hg he h
          split at h
          · rename_i rs hr
            cases hv : rs.all MV.isVal with
            | false => rw [hv] at h; cases h
            | true =>
              rw [hv] at h
              injection h with h
              injection h with e1 h
              injection h with e2 e3
              subst e1; subst e2; subst e3
              have key := semR_of_g (G := G) (N := fn.ntmps) hS hcf (hdr _) hf hb h2 h1 rfl hM (p := fun c => Nat.blt c (Nat.max n n1) && pr f n (tupM rs) M1 c) hg he hr hv
              refine ⟨Nat.le_max_left _ _, fun c hc => ?_, fun _ => key, fun e => by rw [h3] at e; cases e⟩
              rw [get_filter (p := fun c => Nat.blt c (Nat.max n n1) && pr f n (tupM rs) M1 c)]
              have hb : Nat.blt c (Nat.max n n1) = false := by
                cases hx : Nat.blt c (Nat.max n n1) with
                | false => rfl
                | true => have : c < Nat.max n n1 := by simpa [Nat.blt_eq] using hx
                          omega
              rw [hb]; rfl
          · cases h
        dsimp only [cond_true] at h
        split at h
        · rename_i E1 M1 n1 hg; exact go hg (.inl rfl) h
        · rename_i E1 M1 n1 hg; exact go hg (.inr rfl) h
        · cases h
    · cases h
  · cases h
theorem gEv_ok (hS : Seat Pg T ents) {tb : TblF} (htb : TblOK Pg ents G tb) {bv : FuncId → Nat} {pr : FuncId → Nat → MV → VM → Nat → Bool} {lf : Nat} : ∀ k : Nat, CfOK Pg ents G (gEv Pg T ents tb bv pr lf k)
 | 0 => fun f vs M n r M' n' h => nomatch h
 | k + 1 => fun f vs M n r M' n' h hM => by
  replace h : (match tb f vs M n with | some r => r | none => gF Pg T ents bv (fun N cf => gDr Pg T N ents bv cf) pr lf (gEv Pg T ents tb bv pr lf k) f vs M n) = some (r, M', n') := h
  split at h
  ·rename_i x hx
   subst h
   exact htb _ _ _ _ _ _ _ hx hM
  ·exact gF_ok hS (gEv_ok hS htb k) (fun N => gDr_ok (gEv_ok hS htb k)) _ _ _ _ _ _ _ h hM
theorem semC_ev (hS : Seat Pg T ents) {tb : TblF} (htb : TblOK Pg ents G tb) {bv : FuncId → Nat} {pr : FuncId → Nat → MV → VM → Nat → Bool} {lf k : Nat} {f : FuncId} {args : List MV} {r : MV} (hin : ents.contains f = true) (h : gByVal (gEv Pg T ents tb bv pr lf k) f args = some r) : SemC Pg G f args r := gByVal_ok (gEv_ok hS htb k) h hin
end
end
section
def b8 (l : List Nat) : List UInt8 := l.map UInt8.ofNat
def sameU : List UInt8 → List UInt8 → Bool
 | [], [] => true
 | a :: l, b :: r => Nat.beq a.toNat b.toNat && sameU l r
 | _, _ => false
theorem sameU_ok : ∀ {l r : List UInt8}, sameU l r = true → l = r
 | [], [], _ => rfl
 | a :: l, b :: r, h => by
  unfold sameU at h
  rw [Bool.and_eq_true] at h
  rw [UInt8.toNat_inj.1 (Nat.eq_of_beq_eq_true h.1), sameU_ok h.2]
 | [], _ :: _, h => by cases h
 | _ :: _, [], h => by cases h
set_option maxRecDepth 1000000 in
theorem kn0 : sameU (shaS (b8 [])) (b8 [227, 176, 196, 66, 152, 252, 28, 20, 154, 251, 244, 200, 153, 111, 185, 36, 39, 174, 65, 228, 100, 155, 147, 76, 164, 149, 153, 27, 120, 82, 184, 85]) = true := by kernel_rfl
set_option maxRecDepth 1000000 in
theorem kn1 : sameU (shaS (b8 [0, 32, 0])) (b8 [234, 244, 82, 67, 118, 84, 229, 194, 171, 66, 168, 41, 170, 45, 215, 142, 157, 79, 222, 7, 127, 0, 24, 163, 224, 145, 242, 126, 29, 150, 204, 6]) = true := by kernel_rfl
set_option maxRecDepth 1000000 in
theorem kn2 : sameU (shaS (b8 [234, 244, 82, 67, 118, 84, 229, 194, 171, 66, 168, 41, 170, 45, 215, 142, 157, 79, 222, 7, 127, 0, 24, 163, 224, 145, 242, 126, 29, 150, 204, 6])) (b8 [0, 6, 111, 41, 100, 252, 192, 58, 27, 187, 250, 244, 248, 1, 112, 211, 100, 216, 37, 81, 220, 101, 86, 218, 22, 88, 177, 187, 219, 75, 145, 222]) = true := by kernel_rfl
set_option maxRecDepth 1000000 in
theorem kn3 : sameU (shaS (b8 [8, 1, 16, 1, 24, 1, 34, 32, 0, 6, 111, 41, 100, 252, 192, 58, 27, 187, 250, 244, 248, 1, 112, 211, 100, 216, 37, 81, 220, 101, 86, 218, 22, 88, 177, 187, 219, 75, 145, 222, 42, 32, 227, 176, 196, 66, 152, 252, 28, 20, 154, 251, 244, 200, 153, 111, 185, 36, 39, 174, 65, 228, 100, 155, 147, 76, 164, 149, 153, 27, 120, 82, 184, 85, 50, 32, 234, 244, 82, 67, 118, 84, 229, 194, 171, 66, 168, 41, 170, 45, 215, 142, 157, 79, 222, 7, 127, 0, 24, 163, 224, 145, 242, 126, 29, 150, 204, 6, 58, 32, 227, 176, 196, 66, 152, 252, 28, 20, 154, 251, 244, 200, 153, 111, 185, 36, 39, 174, 65, 228, 100, 155, 147, 76, 164, 149, 153, 27, 120, 82, 184, 85])) (b8 [46, 123, 37, 196, 9, 160, 172, 248, 38, 201, 72, 90, 162, 41, 219, 60, 157, 90, 150, 98, 174, 152, 232, 226, 35, 69, 184, 157, 212, 152, 230, 209]) = true := by kernel_rfl
set_option maxRecDepth 1000000 in
theorem kn4 : sameU (shaS (b8 [10, 142, 1, 8, 1, 16, 1, 24, 1, 34, 32, 0, 6, 111, 41, 100, 252, 192, 58, 27, 187, 250, 244, 248, 1, 112, 211, 100, 216, 37, 81, 220, 101, 86, 218, 22, 88, 177, 187, 219, 75, 145, 222, 42, 32, 227, 176, 196, 66, 152, 252, 28, 20, 154, 251, 244, 200, 153, 111, 185, 36, 39, 174, 65, 228, 100, 155, 147, 76, 164, 149, 153, 27, 120, 82, 184, 85, 50, 32, 234, 244, 82, 67, 118, 84, 229, 194, 171, 66, 168, 41, 170, 45, 215, 142, 157, 79, 222, 7, 127, 0, 24, 163, 224, 145, 242, 126, 29, 150, 204, 6, 58, 32, 227, 176, 196, 66, 152, 252, 28, 20, 154, 251, 244, 200, 153, 111, 185, 36, 39, 174, 65, 228, 100, 155, 147, 76, 164, 149, 153, 27, 120, 82, 184, 85])) (b8 [235, 191, 65, 214, 157, 124, 194, 121, 88, 127, 57, 218, 202, 152, 40, 230, 23, 181, 82, 47, 179, 74, 230, 139, 117, 189, 184, 255, 144, 190, 178, 35]) = true := by kernel_rfl
set_option maxRecDepth 1000000 in
theorem kn5 : sameU (shaS (b8 [8, 2, 16, 2, 24, 2, 34, 32, 46, 123, 37, 196, 9, 160, 172, 248, 38, 201, 72, 90, 162, 41, 219, 60, 157, 90, 150, 98, 174, 152, 232, 226, 35, 69, 184, 157, 212, 152, 230, 209, 42, 32, 227, 176, 196, 66, 152, 252, 28, 20, 154, 251, 244, 200, 153, 111, 185, 36, 39, 174, 65, 228, 100, 155, 147, 76, 164, 149, 153, 27, 120, 82, 184, 85, 50, 32, 234, 244, 82, 67, 118, 84, 229, 194, 171, 66, 168, 41, 170, 45, 215, 142, 157, 79, 222, 7, 127, 0, 24, 163, 224, 145, 242, 126, 29, 150, 204, 6, 58, 32, 227, 176, 196, 66, 152, 252, 28, 20, 154, 251, 244, 200, 153, 111, 185, 36, 39, 174, 65, 228, 100, 155, 147, 76, 164, 149, 153, 27, 120, 82, 184, 85])) (b8 [131, 219, 41, 176, 241, 158, 117, 34, 106, 36, 133, 100, 73, 39, 71, 52, 5, 0, 56, 12, 56, 242, 222, 47, 11, 212, 118, 138, 123, 16, 80, 208]) = true := by kernel_rfl
set_option maxRecDepth 1000000 in
theorem kn6 : sameU (shaS (b8 [10, 142, 1, 8, 2, 16, 2, 24, 2, 34, 32, 46, 123, 37, 196, 9, 160, 172, 248, 38, 201, 72, 90, 162, 41, 219, 60, 157, 90, 150, 98, 174, 152, 232, 226, 35, 69, 184, 157, 212, 152, 230, 209, 42, 32, 227, 176, 196, 66, 152, 252, 28, 20, 154, 251, 244, 200, 153, 111, 185, 36, 39, 174, 65, 228, 100, 155, 147, 76, 164, 149, 153, 27, 120, 82, 184, 85, 50, 32, 234, 244, 82, 67, 118, 84, 229, 194, 171, 66, 168, 41, 170, 45, 215, 142, 157, 79, 222, 7, 127, 0, 24, 163, 224, 145, 242, 126, 29, 150, 204, 6, 58, 32, 227, 176, 196, 66, 152, 252, 28, 20, 154, 251, 244, 200, 153, 111, 185, 36, 39, 174, 65, 228, 100, 155, 147, 76, 164, 149, 153, 27, 120, 82, 184, 85])) (b8 [22, 215, 228, 244, 211, 9, 138, 78, 165, 123, 7, 96, 251, 20, 55, 122, 62, 57, 200, 245, 35, 105, 35, 116, 122, 61, 57, 46, 167, 67, 193, 156]) = true := by kernel_rfl
set_option maxRecDepth 1000000 in
theorem kn7 : sameU (shaS (b8 [0, 10, 3, 97, 110, 110, 16, 232, 7, 24, 0])) (b8 [128, 62, 210, 240, 48, 188, 159, 120, 241, 88, 163, 26, 9, 219, 180, 141, 52, 0, 197, 157, 24, 239, 81, 160, 149, 172, 255, 14, 20, 170, 217, 246]) = true := by kernel_rfl
set_option maxRecDepth 1000000 in
theorem kn8 : sameU (shaS (b8 [1, 128, 62, 210, 240, 48, 188, 159, 120, 241, 88, 163, 26, 9, 219, 180, 141, 52, 0, 197, 157, 24, 239, 81, 160, 149, 172, 255, 14, 20, 170, 217, 246, 234, 244, 82, 67, 118, 84, 229, 194, 171, 66, 168, 41, 170, 45, 215, 142, 157, 79, 222, 7, 127, 0, 24, 163, 224, 145, 242, 126, 29, 150, 204, 6])) (b8 [209, 127, 123, 149, 121, 202, 248, 79, 80, 141, 224, 43, 118, 144, 59, 186, 221, 183, 63, 112, 102, 244, 72, 43, 176, 68, 132, 188, 149, 126, 111, 134]) = true := by kernel_rfl
set_option maxRecDepth 1000000 in
theorem kn9 : sameU (shaS (b8 [209, 127, 123, 149, 121, 202, 248, 79, 80, 141, 224, 43, 118, 144, 59, 186, 221, 183, 63, 112, 102, 244, 72, 43, 176, 68, 132, 188, 149, 126, 111, 134])) (b8 [148, 14, 171, 186, 98, 104, 89, 121, 60, 229, 37, 41, 190, 95, 20, 126, 63, 66, 30, 247, 231, 159, 159, 58, 213, 67, 47, 27, 15, 54, 25, 117]) = true := by kernel_rfl
set_option maxRecDepth 1000000 in
theorem kn10 : sameU (shaS (b8 [10, 3, 97, 110, 110, 24, 172, 2, 50, 7, 10, 3, 98, 111, 98, 16, 5])) (b8 [29, 140, 90, 159, 104, 185, 65, 91, 191, 131, 20, 91, 19, 232, 174, 164, 211, 235, 54, 187, 19, 247, 98, 47, 217, 114, 90, 50, 106, 57, 191, 0]) = true := by kernel_rfl
set_option maxRecDepth 1000000 in
theorem kn11 : sameU (shaS (b8 [0, 10, 3, 97, 110, 110, 24, 172, 2, 50, 7, 10, 3, 98, 111, 98, 16, 5])) (b8 [229, 93, 239, 165, 61, 68, 141, 67, 57, 105, 121, 0, 72, 163, 155, 168, 40, 183, 134, 173, 182, 205, 6, 48, 219, 112, 140, 208, 191, 100, 152, 154]) = true := by kernel_rfl
set_option maxRecDepth 1000000 in
theorem kn12 : sameU (shaS (b8 [8, 1, 16, 1, 24, 1, 34, 32, 148, 14, 171, 186, 98, 104, 89, 121, 60, 229, 37, 41, 190, 95, 20, 126, 63, 66, 30, 247, 231, 159, 159, 58, 213, 67, 47, 27, 15, 54, 25, 117, 42, 32, 229, 93, 239, 165, 61, 68, 141, 67, 57, 105, 121, 0, 72, 163, 155, 168, 40, 183, 134, 173, 182, 205, 6, 48, 219, 112, 140, 208, 191, 100, 152, 154, 50, 32, 209, 127, 123, 149, 121, 202, 248, 79, 80, 141, 224, 43, 118, 144, 59, 186, 221, 183, 63, 112, 102, 244, 72, 43, 176, 68, 132, 188, 149, 126, 111, 134, 58, 32, 227, 176, 196, 66, 152, 252, 28, 20, 154, 251, 244, 200, 153, 111, 185, 36, 39, 174, 65, 228, 100, 155, 147, 76, 164, 149, 153, 27, 120, 82, 184, 85])) (b8 [154, 225, 41, 186, 91, 220, 85, 72, 218, 210, 162, 111, 124, 33, 48, 150, 142, 204, 57, 200, 189, 233, 187, 248, 85, 16, 190, 184, 94, 101, 165, 9]) = true := by kernel_rfl
set_option maxRecDepth 1000000 in
theorem kn13 : sameU (shaS (b8 [10, 142, 1, 8, 1, 16, 1, 24, 1, 34, 32, 148, 14, 171, 186, 98, 104, 89, 121, 60, 229, 37, 41, 190, 95, 20, 126, 63, 66, 30, 247, 231, 159, 159, 58, 213, 67, 47, 27, 15, 54, 25, 117, 42, 32, 229, 93, 239, 165, 61, 68, 141, 67, 57, 105, 121, 0, 72, 163, 155, 168, 40, 183, 134, 173, 182, 205, 6, 48, 219, 112, 140, 208, 191, 100, 152, 154, 50, 32, 209, 127, 123, 149, 121, 202, 248, 79, 80, 141, 224, 43, 118, 144, 59, 186, 221, 183, 63, 112, 102, 244, 72, 43, 176, 68, 132, 188, 149, 126, 111, 134, 58, 32, 227, 176, 196, 66, 152, 252, 28, 20, 154, 251, 244, 200, 153, 111, 185, 36, 39, 174, 65, 228, 100, 155, 147, 76, 164, 149, 153, 27, 120, 82, 184, 85, 18, 17, 10, 3, 97, 110, 110, 24, 172, 2, 50, 7, 10, 3, 98, 111, 98, 16, 5])) (b8 [93, 213, 77, 89, 44, 86, 246, 134, 254, 110, 170, 115, 96, 31, 150, 63, 134, 78, 225, 59, 1, 27, 245, 231, 112, 45, 137, 203, 240, 18, 202, 177]) = true := by kernel_rfl
set_option maxRecDepth 1000000 in
theorem kn14 : sameU (shaS (b8 [0, 10, 3, 97, 110, 110, 16, 227, 7, 24, 1])) (b8 [128, 0, 215, 94, 200, 167, 227, 41, 128, 155, 23, 62, 11, 72, 172, 220, 21, 177, 197, 222, 28, 18, 72, 225, 130, 194, 236, 137, 189, 53, 11, 249]) = true := by kernel_rfl
set_option maxRecDepth 1000000 in
theorem kn15 : sameU (shaS (b8 [0, 10, 3, 98, 111, 98, 16, 5, 24, 0])) (b8 [35, 241, 28, 244, 242, 204, 254, 205, 62, 125, 219, 135, 15, 69, 39, 132, 34, 177, 61, 53, 97, 38, 167, 105, 242, 176, 6, 57, 10, 243, 7, 164]) = true := by kernel_rfl
set_option maxRecDepth 1000000 in
theorem kn16 : sameU (shaS (b8 [1, 128, 0, 215, 94, 200, 167, 227, 41, 128, 155, 23, 62, 11, 72, 172, 220, 21, 177, 197, 222, 28, 18, 72, 225, 130, 194, 236, 137, 189, 53, 11, 249, 35, 241, 28, 244, 242, 204, 254, 205, 62, 125, 219, 135, 15, 69, 39, 132, 34, 177, 61, 53, 97, 38, 167, 105, 242, 176, 6, 57, 10, 243, 7, 164])) (b8 [142, 32, 107, 110, 170, 124, 51, 140, 35, 40, 24, 172, 94, 10, 248, 24, 88, 177, 143, 34, 109, 134, 195, 39, 234, 9, 253, 81, 207, 148, 43, 117]) = true := by kernel_rfl
set_option maxRecDepth 1000000 in
theorem kn17 : sameU (shaS (b8 [1, 142, 32, 107, 110, 170, 124, 51, 140, 35, 40, 24, 172, 94, 10, 248, 24, 88, 177, 143, 34, 109, 134, 195, 39, 234, 9, 253, 81, 207, 148, 43, 117, 234, 244, 82, 67, 118, 84, 229, 194, 171, 66, 168, 41, 170, 45, 215, 142, 157, 79, 222, 7, 127, 0, 24, 163, 224, 145, 242, 126, 29, 150, 204, 6])) (b8 [68, 108, 135, 93, 236, 123, 254, 74, 215, 21, 182, 91, 228, 201, 104, 19, 180, 197, 231, 78, 151, 167, 186, 193, 252, 92, 144, 71, 49, 18, 6, 139]) = true := by kernel_rfl
set_option maxRecDepth 1000000 in
theorem kn18 : sameU (shaS (b8 [0, 8, 0, 16, 172, 2])) (b8 [29, 146, 20, 145, 175, 239, 235, 167, 73, 226, 183, 130, 152, 67, 126, 101, 68, 48, 90, 214, 180, 209, 18, 185, 245, 201, 129, 125, 193, 165, 206, 248]) = true := by kernel_rfl
theorem kp0 : shaS (b8 []) = b8 [227, 176, 196, 66, 152, 252, 28, 20, 154, 251, 244, 200, 153, 111, 185, 36, 39, 174, 65, 228, 100, 155, 147, 76, 164, 149, 153, 27, 120, 82, 184, 85] := sameU_ok kn0
theorem kp1 : shaS (b8 [0, 32, 0]) = b8 [234, 244, 82, 67, 118, 84, 229, 194, 171, 66, 168, 41, 170, 45, 215, 142, 157, 79, 222, 7, 127, 0, 24, 163, 224, 145, 242, 126, 29, 150, 204, 6] := sameU_ok kn1
theorem kp2 : shaS (b8 [234, 244, 82, 67, 118, 84, 229, 194, 171, 66, 168, 41, 170, 45, 215, 142, 157, 79, 222, 7, 127, 0, 24, 163, 224, 145, 242, 126, 29, 150, 204, 6]) = b8 [0, 6, 111, 41, 100, 252, 192, 58, 27, 187, 250, 244, 248, 1, 112, 211, 100, 216, 37, 81, 220, 101, 86, 218, 22, 88, 177, 187, 219, 75, 145, 222] := sameU_ok kn2
theorem kp3 : shaS (b8 [8, 1, 16, 1, 24, 1, 34, 32, 0, 6, 111, 41, 100, 252, 192, 58, 27, 187, 250, 244, 248, 1, 112, 211, 100, 216, 37, 81, 220, 101, 86, 218, 22, 88, 177, 187, 219, 75, 145, 222, 42, 32, 227, 176, 196, 66, 152, 252, 28, 20, 154, 251, 244, 200, 153, 111, 185, 36, 39, 174, 65, 228, 100, 155, 147, 76, 164, 149, 153, 27, 120, 82, 184, 85, 50, 32, 234, 244, 82, 67, 118, 84, 229, 194, 171, 66, 168, 41, 170, 45, 215, 142, 157, 79, 222, 7, 127, 0, 24, 163, 224, 145, 242, 126, 29, 150, 204, 6, 58, 32, 227, 176, 196, 66, 152, 252, 28, 20, 154, 251, 244, 200, 153, 111, 185, 36, 39, 174, 65, 228, 100, 155, 147, 76, 164, 149, 153, 27, 120, 82, 184, 85]) = b8 [46, 123, 37, 196, 9, 160, 172, 248, 38, 201, 72, 90, 162, 41, 219, 60, 157, 90, 150, 98, 174, 152, 232, 226, 35, 69, 184, 157, 212, 152, 230, 209] := sameU_ok kn3
theorem kp4 : shaS (b8 [10, 142, 1, 8, 1, 16, 1, 24, 1, 34, 32, 0, 6, 111, 41, 100, 252, 192, 58, 27, 187, 250, 244, 248, 1, 112, 211, 100, 216, 37, 81, 220, 101, 86, 218, 22, 88, 177, 187, 219, 75, 145, 222, 42, 32, 227, 176, 196, 66, 152, 252, 28, 20, 154, 251, 244, 200, 153, 111, 185, 36, 39, 174, 65, 228, 100, 155, 147, 76, 164, 149, 153, 27, 120, 82, 184, 85, 50, 32, 234, 244, 82, 67, 118, 84, 229, 194, 171, 66, 168, 41, 170, 45, 215, 142, 157, 79, 222, 7, 127, 0, 24, 163, 224, 145, 242, 126, 29, 150, 204, 6, 58, 32, 227, 176, 196, 66, 152, 252, 28, 20, 154, 251, 244, 200, 153, 111, 185, 36, 39, 174, 65, 228, 100, 155, 147, 76, 164, 149, 153, 27, 120, 82, 184, 85]) = b8 [235, 191, 65, 214, 157, 124, 194, 121, 88, 127, 57, 218, 202, 152, 40, 230, 23, 181, 82, 47, 179, 74, 230, 139, 117, 189, 184, 255, 144, 190, 178, 35] := sameU_ok kn4
theorem kp5 : shaS (b8 [8, 2, 16, 2, 24, 2, 34, 32, 46, 123, 37, 196, 9, 160, 172, 248, 38, 201, 72, 90, 162, 41, 219, 60, 157, 90, 150, 98, 174, 152, 232, 226, 35, 69, 184, 157, 212, 152, 230, 209, 42, 32, 227, 176, 196, 66, 152, 252, 28, 20, 154, 251, 244, 200, 153, 111, 185, 36, 39, 174, 65, 228, 100, 155, 147, 76, 164, 149, 153, 27, 120, 82, 184, 85, 50, 32, 234, 244, 82, 67, 118, 84, 229, 194, 171, 66, 168, 41, 170, 45, 215, 142, 157, 79, 222, 7, 127, 0, 24, 163, 224, 145, 242, 126, 29, 150, 204, 6, 58, 32, 227, 176, 196, 66, 152, 252, 28, 20, 154, 251, 244, 200, 153, 111, 185, 36, 39, 174, 65, 228, 100, 155, 147, 76, 164, 149, 153, 27, 120, 82, 184, 85]) = b8 [131, 219, 41, 176, 241, 158, 117, 34, 106, 36, 133, 100, 73, 39, 71, 52, 5, 0, 56, 12, 56, 242, 222, 47, 11, 212, 118, 138, 123, 16, 80, 208] := sameU_ok kn5
theorem kp6 : shaS (b8 [10, 142, 1, 8, 2, 16, 2, 24, 2, 34, 32, 46, 123, 37, 196, 9, 160, 172, 248, 38, 201, 72, 90, 162, 41, 219, 60, 157, 90, 150, 98, 174, 152, 232, 226, 35, 69, 184, 157, 212, 152, 230, 209, 42, 32, 227, 176, 196, 66, 152, 252, 28, 20, 154, 251, 244, 200, 153, 111, 185, 36, 39, 174, 65, 228, 100, 155, 147, 76, 164, 149, 153, 27, 120, 82, 184, 85, 50, 32, 234, 244, 82, 67, 118, 84, 229, 194, 171, 66, 168, 41, 170, 45, 215, 142, 157, 79, 222, 7, 127, 0, 24, 163, 224, 145, 242, 126, 29, 150, 204, 6, 58, 32, 227, 176, 196, 66, 152, 252, 28, 20, 154, 251, 244, 200, 153, 111, 185, 36, 39, 174, 65, 228, 100, 155, 147, 76, 164, 149, 153, 27, 120, 82, 184, 85]) = b8 [22, 215, 228, 244, 211, 9, 138, 78, 165, 123, 7, 96, 251, 20, 55, 122, 62, 57, 200, 245, 35, 105, 35, 116, 122, 61, 57, 46, 167, 67, 193, 156] := sameU_ok kn6
theorem kp7 : shaS (b8 [0, 10, 3, 97, 110, 110, 16, 232, 7, 24, 0]) = b8 [128, 62, 210, 240, 48, 188, 159, 120, 241, 88, 163, 26, 9, 219, 180, 141, 52, 0, 197, 157, 24, 239, 81, 160, 149, 172, 255, 14, 20, 170, 217, 246] := sameU_ok kn7
theorem kp8 : shaS (b8 [1, 128, 62, 210, 240, 48, 188, 159, 120, 241, 88, 163, 26, 9, 219, 180, 141, 52, 0, 197, 157, 24, 239, 81, 160, 149, 172, 255, 14, 20, 170, 217, 246, 234, 244, 82, 67, 118, 84, 229, 194, 171, 66, 168, 41, 170, 45, 215, 142, 157, 79, 222, 7, 127, 0, 24, 163, 224, 145, 242, 126, 29, 150, 204, 6]) = b8 [209, 127, 123, 149, 121, 202, 248, 79, 80, 141, 224, 43, 118, 144, 59, 186, 221, 183, 63, 112, 102, 244, 72, 43, 176, 68, 132, 188, 149, 126, 111, 134] := sameU_ok kn8
theorem kp9 : shaS (b8 [209, 127, 123, 149, 121, 202, 248, 79, 80, 141, 224, 43, 118, 144, 59, 186, 221, 183, 63, 112, 102, 244, 72, 43, 176, 68, 132, 188, 149, 126, 111, 134]) = b8 [148, 14, 171, 186, 98, 104, 89, 121, 60, 229, 37, 41, 190, 95, 20, 126, 63, 66, 30, 247, 231, 159, 159, 58, 213, 67, 47, 27, 15, 54, 25, 117] := sameU_ok kn9
theorem kp10 : shaS (b8 [10, 3, 97, 110, 110, 24, 172, 2, 50, 7, 10, 3, 98, 111, 98, 16, 5]) = b8 [29, 140, 90, 159, 104, 185, 65, 91, 191, 131, 20, 91, 19, 232, 174, 164, 211, 235, 54, 187, 19, 247, 98, 47, 217, 114, 90, 50, 106, 57, 191, 0] := sameU_ok kn10
theorem kp11 : shaS (b8 [0, 10, 3, 97, 110, 110, 24, 172, 2, 50, 7, 10, 3, 98, 111, 98, 16, 5]) = b8 [229, 93, 239, 165, 61, 68, 141, 67, 57, 105, 121, 0, 72, 163, 155, 168, 40, 183, 134, 173, 182, 205, 6, 48, 219, 112, 140, 208, 191, 100, 152, 154] := sameU_ok kn11
theorem kp12 : shaS (b8 [8, 1, 16, 1, 24, 1, 34, 32, 148, 14, 171, 186, 98, 104, 89, 121, 60, 229, 37, 41, 190, 95, 20, 126, 63, 66, 30, 247, 231, 159, 159, 58, 213, 67, 47, 27, 15, 54, 25, 117, 42, 32, 229, 93, 239, 165, 61, 68, 141, 67, 57, 105, 121, 0, 72, 163, 155, 168, 40, 183, 134, 173, 182, 205, 6, 48, 219, 112, 140, 208, 191, 100, 152, 154, 50, 32, 209, 127, 123, 149, 121, 202, 248, 79, 80, 141, 224, 43, 118, 144, 59, 186, 221, 183, 63, 112, 102, 244, 72, 43, 176, 68, 132, 188, 149, 126, 111, 134, 58, 32, 227, 176, 196, 66, 152, 252, 28, 20, 154, 251, 244, 200, 153, 111, 185, 36, 39, 174, 65, 228, 100, 155, 147, 76, 164, 149, 153, 27, 120, 82, 184, 85]) = b8 [154, 225, 41, 186, 91, 220, 85, 72, 218, 210, 162, 111, 124, 33, 48, 150, 142, 204, 57, 200, 189, 233, 187, 248, 85, 16, 190, 184, 94, 101, 165, 9] := sameU_ok kn12
theorem kp13 : shaS (b8 [10, 142, 1, 8, 1, 16, 1, 24, 1, 34, 32, 148, 14, 171, 186, 98, 104, 89, 121, 60, 229, 37, 41, 190, 95, 20, 126, 63, 66, 30, 247, 231, 159, 159, 58, 213, 67, 47, 27, 15, 54, 25, 117, 42, 32, 229, 93, 239, 165, 61, 68, 141, 67, 57, 105, 121, 0, 72, 163, 155, 168, 40, 183, 134, 173, 182, 205, 6, 48, 219, 112, 140, 208, 191, 100, 152, 154, 50, 32, 209, 127, 123, 149, 121, 202, 248, 79, 80, 141, 224, 43, 118, 144, 59, 186, 221, 183, 63, 112, 102, 244, 72, 43, 176, 68, 132, 188, 149, 126, 111, 134, 58, 32, 227, 176, 196, 66, 152, 252, 28, 20, 154, 251, 244, 200, 153, 111, 185, 36, 39, 174, 65, 228, 100, 155, 147, 76, 164, 149, 153, 27, 120, 82, 184, 85, 18, 17, 10, 3, 97, 110, 110, 24, 172, 2, 50, 7, 10, 3, 98, 111, 98, 16, 5]) = b8 [93, 213, 77, 89, 44, 86, 246, 134, 254, 110, 170, 115, 96, 31, 150, 63, 134, 78, 225, 59, 1, 27, 245, 231, 112, 45, 137, 203, 240, 18, 202, 177] := sameU_ok kn13
theorem kp14 : shaS (b8 [0, 10, 3, 97, 110, 110, 16, 227, 7, 24, 1]) = b8 [128, 0, 215, 94, 200, 167, 227, 41, 128, 155, 23, 62, 11, 72, 172, 220, 21, 177, 197, 222, 28, 18, 72, 225, 130, 194, 236, 137, 189, 53, 11, 249] := sameU_ok kn14
theorem kp15 : shaS (b8 [0, 10, 3, 98, 111, 98, 16, 5, 24, 0]) = b8 [35, 241, 28, 244, 242, 204, 254, 205, 62, 125, 219, 135, 15, 69, 39, 132, 34, 177, 61, 53, 97, 38, 167, 105, 242, 176, 6, 57, 10, 243, 7, 164] := sameU_ok kn15
theorem kp16 : shaS (b8 [1, 128, 0, 215, 94, 200, 167, 227, 41, 128, 155, 23, 62, 11, 72, 172, 220, 21, 177, 197, 222, 28, 18, 72, 225, 130, 194, 236, 137, 189, 53, 11, 249, 35, 241, 28, 244, 242, 204, 254, 205, 62, 125, 219, 135, 15, 69, 39, 132, 34, 177, 61, 53, 97, 38, 167, 105, 242, 176, 6, 57, 10, 243, 7, 164]) = b8 [142, 32, 107, 110, 170, 124, 51, 140, 35, 40, 24, 172, 94, 10, 248, 24, 88, 177, 143, 34, 109, 134, 195, 39, 234, 9, 253, 81, 207, 148, 43, 117] := sameU_ok kn16
theorem kp17 : shaS (b8 [1, 142, 32, 107, 110, 170, 124, 51, 140, 35, 40, 24, 172, 94, 10, 248, 24, 88, 177, 143, 34, 109, 134, 195, 39, 234, 9, 253, 81, 207, 148, 43, 117, 234, 244, 82, 67, 118, 84, 229, 194, 171, 66, 168, 41, 170, 45, 215, 142, 157, 79, 222, 7, 127, 0, 24, 163, 224, 145, 242, 126, 29, 150, 204, 6]) = b8 [68, 108, 135, 93, 236, 123, 254, 74, 215, 21, 182, 91, 228, 201, 104, 19, 180, 197, 231, 78, 151, 167, 186, 193, 252, 92, 144, 71, 49, 18, 6, 139] := sameU_ok kn17
theorem kp18 : shaS (b8 [0, 8, 0, 16, 172, 2]) = b8 [29, 146, 20, 145, 175, 239, 235, 167, 73, 226, 183, 130, 152, 67, 126, 101, 68, 48, 90, 214, 180, 209, 18, 185, 245, 201, 129, 125, 193, 165, 206, 248] := sameU_ok kn18
structure KnD where
 i : List UInt8
 d : List UInt8
 ok : shaS i = d
def knL : List KnD := [⟨_, _, kp0⟩, ⟨_, _, kp1⟩, ⟨_, _, kp2⟩, ⟨_, _, kp3⟩, ⟨_, _, kp4⟩, ⟨_, _, kp5⟩, ⟨_, _, kp6⟩, ⟨_, _, kp7⟩, ⟨_, _, kp8⟩, ⟨_, _, kp9⟩, ⟨_, _, kp10⟩, ⟨_, _, kp11⟩, ⟨_, _, kp12⟩, ⟨_, _, kp13⟩, ⟨_, _, kp14⟩, ⟨_, _, kp15⟩, ⟨_, _, kp16⟩, ⟨_, _, kp17⟩, ⟨_, _, kp18⟩]
def findD (b : List UInt8) : List KnD → Option (List UInt8)
 | [] => none
 | x :: l => bif sameU b x.i then some x.d else findD b l
def shaK (b : List UInt8) : List UInt8 := match findD b knL with
 | some d => d
 | none => shaS b
theorem findK_ok {b d : List UInt8} : ∀ {l : List KnD}, findD b l = some d → shaS b = d
 | [], h => by cases h
 | x :: l, h => by
  unfold findD at h
  cases hs : sameU b x.i with
  | true => exact (congrArg shaS (sameU_ok hs)).trans (x.ok.trans (Option.some.inj (show some x.d = some d by rw [hs] at h; exact h)))
  | false => exact findK_ok (show findD b l = some d by rw [hs] at h; exact h)
theorem shaK_eq (b : List UInt8) : shaK b = shaS b := by
 unfold shaK
 split
 ·rename_i d hd; exact (findK_ok hd).symm
 ·rfl
end
section
def olds (n : Nat) : VM → List Nat
 | [] => []
 | (c, b) :: M => bif Nat.blt c n && !(b.row || isMpv b.l) then numsVs b.l ++ olds n M else olds n M
def prD (fl : FuncId → Bool) (f : FuncId) (n : Nat) (r : MV) (M : VM) (c : Nat) : Bool := Nat.blt c n || (reach M 1000 (numsVs (comps r) ++ bif fl f then olds n M else []) []).any (Nat.beq c)
def rdB (M : VM) (v : MV) : Option (List UInt8) := match v with
 | .nils => some []
 | .sl n l => bif Nat.beq l.length n then bytesM l else none
 | .ms c es off n => match VM.get M c with
  | some b => bif b.row && Nat.beq b.es es && Nat.beq es 1 && Nat.ble (off + n) b.l.length then bytesM (cutL b.l off (off + n)) else none
  | none => none
 | _ => none
def key32 (v : MV) : Option (List UInt8) := match v with
 | .arr 32 1 l => bif Nat.beq l.length 32 then bytesM l else none
 | _ => none
def sumE (b : List UInt8) (M : VM) (n : Nat) : Option (MV × VM × Nat) := bif Nat.blt b.length 499999999 then some (keyM (shaK b), M, n) else none
def shaT : TblF := fun f vs M n =>
 bif Nat.beq f 111 then some (match vs with
  | [v] => (match rdB M v with
   | some b => sumE b M n
   | none => none)
  | _ => none)
 else bif Nat.beq f 207 then some (match vs with
  | [v] => (match rdB M v with
   | some b => bif Nat.blt b.length 499999999 then some (keyM (shaK (0 :: b)), M, n) else none
   | none => none)
  | _ => none)
 else bif Nat.beq f 209 then some (match vs with
  | [u, v] => (match key32 u, key32 v with
   | some a, some b => bif Nat.beq a.length 32 && Nat.beq b.length 32 then some (keyM (shaK (1 :: (a ++ b))), M, n) else none
   | _, _ => none)
  | _ => none)
 else bif Nat.beq f 245 then some (match vs with
  | [.int .u64 (.ofNat a), .int .u64 (.ofNat b), .int .u64 (.ofNat 0)] => some (.tup [.int .u64 ((a + b) % 18446744073709551616 : Nat), .int .u64 ((a + b) / 18446744073709551616 : Nat)], M, n)
  | _ => none)
 else none
section
variable {G : GS} {M : VM} {n : Nat}
theorem bytesM_out : ∀ {l : List MV} {b : List UInt8}, bytesM l = some b → l = u8s b
 | [], b, h => by injection h with h; subst h; rfl
 | m :: l, b, h => by
  unfold bytesM at h
  split at h
  ·rename_i e
   exact absurd e (by simp)
  ·rename_i k r e
   injection e with e1 e2
   subst e1; subst e2
   split at h
   ·rename_i hk
    split at h
    ·rename_i b' hb
     injection h with h
     subst h
     have := bytesM_out hb
     rw [this]
     show _ = MV.int .u8 _ :: _
     congr 2
     have : k.toNat < 256 := by omega
     rw [UInt8.toNat_ofNat_of_lt' (by simpa using this)]
     omega
    ·cases h
   ·cases h
  ·cases h
theorem flat_u8s : ∀ l : List UInt8, MV.flats (u8s l) = true
 | [] => rfl
 | a :: l => by
  show (true && MV.flats (u8s l)) = true
  rw [flat_u8s l]; rfl
theorem rdB_rd {v : MV} {b : List UInt8} (h : rdB M v = some b) : RD MV.idFree (VM.get M) (.sl b.length (u8s b)) v := by
 unfold rdB at h
 split at h
 ·injection h with h; subst h; exact .nils
 ·rename_i k l
  obtain ⟨h0, h⟩ := bif_some h
  have e := bytesM_out h
  have hl : l.length = b.length := by rw [e]; simp [u8s]
  rw [← e, ← hl, Nat.eq_of_beq_eq_true h0]
  exact .same rfl
 ·rename_i c es off k
  split at h
  ·rename_i b0 hb
   obtain ⟨h0, h⟩ := bif_some h
   simp only [Bool.and_eq_true, Nat.ble_eq] at h0
   obtain ⟨⟨⟨h1, h2⟩, h3⟩, h4⟩ := h0
   have e := bytesM_out h
   have hes := Nat.eq_of_beq_eq_true h3
   subst hes
   have hc : (cutL b0.l off (off + k)).length = k := by unfold cutL; rw [List.length_take, List.length_drop]; omega
   have hl : k = b.length := by rw [← hc, e]; simp [u8s]
   rw [← e, ← hl]
   refine .ms b0 hb (Nat.eq_of_beq_eq_true h2) (by decide) h4 hc fun j x y hx hy => ?_
   have hj : j < k := by rw [← hc]; exact (List.getElem?_eq_some_iff.1 hx).1
   have hx0 := hx
   unfold cutL at hx
   rw [List.getElem?_take_of_lt (by omega), List.getElem?_drop, hy] at hx
   injection hx with hx
   subst hx
   rw [e] at hx0
   refine .same ?_
   unfold u8s at hx0
   rw [List.getElem?_map] at hx0
   cases hb2 : b[j]? with
   | none => rw [hb2] at hx0; cases hx0
   | some z => rw [hb2] at hx0; injection hx0 with hx0; subst hx0; rfl
  ·cases h
 ·cases h
theorem key_t (k : List UInt8) : RDt MV.flat (VM.get []) (keyM k) (keyM k) := .one (.same (flat_u8s k))
theorem key32_out {v : MV} {b : List UInt8} (h : key32 v = some b) : v = keyM b := by
 unfold key32 at h
 split at h
 ·obtain ⟨_, h⟩ := bif_some h
  rw [bytesM_out h]; rfl
 ·cases h
theorem add64_g (a b : Nat) : SemP Tryz.prog G 245 [.int .u64 a, .int .u64 b, .int .u64 0] M n (.tup [.int .u64 ((a + b) % 18446744073709551616 : Nat), .int .u64 ((a + b) / 18446744073709551616 : Nat)]) M n := by
 intro w P adr vals hg hI hn hL hargs
 cases hargs with | cons a1 hargs => cases hargs with | cons a2 hargs => cases hargs with | cons a3 hargs =>
 cases hargs
 have e1 := a1.int_
 have e2 := a2.int_
 have e3 := a3.int_
 subst e1 e2 e3
 have hf : (callFunc 245 #[.int .u64 a, .int .u64 b, .int .u64 0]).run Tryz.prog w = _ :=
  run_callFunc_extern Tryz.func245 (by kernel_rfl) (by kernel_rfl) (by kernel_rfl) (e := add64Entry) (by kernel_rfl) _ w
 refine ⟨.tuple #[.int .u64 ((a + b) % 18446744073709551616 : Nat), .int .u64 ((a + b) / 18446744073709551616 : Nat)], w, hf.trans ?_, _, rfl, P, adr, hI, .tup [.int .u64 ((a + b) % 18446744073709551616 : Nat), .int .u64 ((a + b) / 18446744073709551616 : Nat)] rfl (fun j m u hj hu => ?_), Keep.refl _ _ _, fun _ _ => rfl, hn, fun c g hc => .inr ⟨c, hc⟩, fun b o ho => .inl ho, Since.refl _ _⟩
 ·have h := run_add64 (P := Tryz.prog) (a : Int) (b : Int) 0 (by omega) (by omega) (by omega) (by omega) w
  rw [h]
  have e1 : ((a : Int) + b + 0) % 18446744073709551616 = ((a + b) % 18446744073709551616 : Nat) := by omega
  have e2 : ((a : Int) + b + 0) / 18446744073709551616 = ((a + b) / 18446744073709551616 : Nat) := by omega
  rw [e1, e2]
  rfl
 ·match j with
  | 0 => simp at hj hu; subst hj; subst hu; exact ⟨_, .int, rfl⟩
  | 1 => simp at hj hu; subst hj; subst hu; exact ⟨_, .int, rfl⟩
  | j + 2 => simp at hj
theorem shaT_ok : TblOK Tryz.prog ents G shaT := by
 have done : ∀ {f : FuncId} {vs : List MV} {k : List UInt8} {M : VM} {n : Nat} {r : MV} {M' : VM} {n' : Nat}, ents.contains f = true → SemR Tryz.prog G f vs M n (keyM k) M n → (∀ c, n ≤ c → VM.get M c = none) → some (keyM k, M, n) = some (r, M', n') →
   n ≤ n' ∧ (∀ c, n' ≤ c → VM.get M' c = none) ∧ (ents.contains f = true → SemR Tryz.prog G f vs M n r M' n') ∧ (ents.contains f = false → SemP Tryz.prog G f vs M n r M' n') := by
  intro f vs k M n r M' n' hin hs hM h
  injection h with h; injection h with h1 h; injection h with h2 h3
  subst h1; subst h2; subst h3
  exact ⟨Nat.le_refl _, hM, fun _ => hs, fun e => by rw [hin] at e; cases e⟩
 intro f vs M n r M' n' h hM
 unfold shaT at h
 cases hf : Nat.beq f 111 with
 | true =>
  have e := Nat.eq_of_beq_eq_true hf
  subst e
  rw [hf] at h
  injection h with h
  split at h
  ·rename_i v
   split at h
   ·rename_i b hb
    obtain ⟨h0, h⟩ := bif_some h
    have h0 : b.length < 499999999 := by simpa [Nat.blt_eq] using h0
    exact done (by kernel_rfl) (borrow (semR_of_semC (by rw [shaK_eq]; exact psha_m b (by omega))) (.cons (rdB_rd hb) .nil) (key_t _)) hM h
   ·cases h
  ·cases h
 | false =>
  rw [hf] at h
  dsimp only [cond_false] at h
  cases hf2 : Nat.beq f 207 with
  | true =>
   have e := Nat.eq_of_beq_eq_true hf2
   subst e
   rw [hf2] at h
   injection h with h
   split at h
   ·rename_i v
    split at h
    ·rename_i b hb
     obtain ⟨h0, h⟩ := bif_some h
     have h0 : b.length < 499999999 := by simpa [Nat.blt_eq] using h0
     exact done (by kernel_rfl) (borrow (semR_of_semC (by rw [shaK_eq]; exact pleaf_m b (by omega))) (.cons (rdB_rd hb) .nil) (key_t _)) hM h
    ·cases h
   ·cases h
  | false =>
   rw [hf2] at h
   dsimp only [cond_false] at h
   cases hf3 : Nat.beq f 209 with
   | true =>
    have e := Nat.eq_of_beq_eq_true hf3
    subst e
    rw [hf3] at h
    injection h with h
    split at h
    ·rename_i u v
     split at h
     ·rename_i a b ha hb
      obtain ⟨h0, h⟩ := bif_some h
      rw [Bool.and_eq_true] at h0
      rw [key32_out ha, key32_out hb]
      exact done (by kernel_rfl) (borrow (semR_of_semC (by rw [shaK_eq]; exact pinner_m a b (Nat.eq_of_beq_eq_true h0.1) (Nat.eq_of_beq_eq_true h0.2))) (.cons (.same rfl) (.cons (.same rfl) .nil)) (key_t _)) hM h
     ·cases h
    ·cases h
   | false =>
    rw [hf3] at h
    dsimp only [cond_false] at h
    cases hf4 : Nat.beq f 245 with
    | true =>
     have e := Nat.eq_of_beq_eq_true hf4
     subst e
     rw [hf4] at h
     injection h with h
     split at h
     ·rename_i a b
      injection h with h; injection h with h1 h; injection h with h2 h3
      subst h1; subst h2; subst h3
      have hno : ents.contains 245 = false := by kernel_rfl
      exact ⟨Nat.le_refl _, hM, fun e => (by rw [hno] at e; cases e), fun _ => add64_g a b⟩
     ·cases h
    | false =>
     rw [hf4] at h
     cases h
end
end
section
open Go.RowKit Go.Lib
noncomputable abbrev hndM (t : Nat) : MV := .gp Tryz.prog.globals.size t
noncomputable def infS : TypeInfo := (Tryz.prog.info? 35).get (by kernel_rfl)
noncomputable def infE : TypeInfo := (Tryz.prog.info? 155).get (by kernel_rfl)
theorem info_S : Tryz.prog.info? 35 = some infS := by kernel_rfl
theorem info_E : Tryz.prog.info? 155 = some infE := by kernel_rfl
theorem desc_S : infS.desc = .slice 155 := by kernel_rfl
theorem pack_S : Tryz.prog.packed 35 = false := by kernel_rfl
theorem kind_E (w : World) : (Extern.Rtype.kind 155).run Tryz.prog w = .ok 25 w := by kernel_rfl
section
variable {G : GS} {w : World} {P : Prot} {adr : Adr} {M : VM} {n : Nat}
theorem vget_new (M : VM) (c : Nat) (b : MB) : fput (VM.get M) c b = VM.get ((c, b) :: M) := by
 funext x
 show (if x = c then some b else VM.get M x) = bif Nat.beq c x then some b else VM.get M x
 by_cases h : x = c
 ·subst h
  rw [Nat.beq_refl x]; simp
 ·have : Nat.beq c x = false := by
   rw [← Bool.not_eq_true]; intro h2; exact h (Nat.eq_of_beq_eq_true h2).symm
  simp [h, this]
theorem ifc_nils {t : Nat} {u : Value} (h : RepV w P adr (.ifc t .nils) u) : u = .iface t (.slice none 0 0) := by
 cases h with
 | val cs h =>
  cases h with
  | ifc cs hr => cases hr; rfl
theorem valueOf_n (hM : VM.get M n = none) : SemP Tryz.prog G 306 [.ifc 35 .nils] M n (.st [hndM 35, .ptr n 1 0 0 [], .int .u64 151]) ((n, ⟨35, 1, false, 0, [.nils]⟩) :: M) (n + 1) := by
 intro w P adr vals hg hI hn hL hargs
 cases hargs with | cons a1 hargs =>
 cases hargs
 obtain rfl := ifc_nils a1
 have hf : (callFunc 306 #[.iface 35 (.slice none 0 0)]).run Tryz.prog w = _ :=
  run_callFunc_extern Tryz.func306 (by kernel_rfl) (by kernel_rfl) (by kernel_rfl) (e := fun args => Extern.ReflectliteValue.unpack (args.getD 0 (.tuple #[]))) (by kernel_rfl) _ w
 rw [show (#[.iface 35 (.slice none 0 0)] : Array Value).getD 0 (.tuple #[]) = .iface 35 (.slice none 0 0) from rfl, run_valueOf_slice _ _ infS info_S desc_S] at hf
 have hb := Below.alloc1 w (.cells #[.slice none 0 0] 35)
 obtain ⟨i1, k1⟩ := hI.new (b := ⟨35, 1, false, 0, [.nils]⟩) (hn n (Nat.le_refl _)) hM hb (cur := #[.slice none 0 0]) (parts := [[.slice none 0 0]]) (by show (w.heap.push _)[w.heap.size]? = _; simp) rfl (by simp) (fun j x q hx hq => by
  match j with
  | 0 => simp at hx hq; subst hx hq; exact .nils
  | j + 1 => simp at hx) (by simp) (Nat.zero_le _)
 rw [vget_new] at i1
 refine ⟨_, _, hf, _, rfl, P, _, i1, ?_, k1, fun c hc => fput_ne _ _ (by omega), fun c hc => (fput_ne _ _ (by omega)).trans (hn c (by omega)), fun c g hc => ?_, fun b o ho => .inl ho, (Since.of_below hb).weak fun _ e => e.elim⟩
 ·exact .val _ (.st [[typeHandle Tryz.prog 35], [.pointer (some ⟨w.heap.size, 0, none⟩)], [.int .u64 151]] rfl fun j m q hm hq => by
   match j with
   | 0 => simp at hm hq; subst hm hq; exact .gp
   | 1 => simp at hm hq; subst hm hq; exact .ptr (fo := 0) (k := 0) w.heap.size (fput_same _ _ _)
   | 2 => simp at hm hq; subst hm hq; exact .int
   | j + 3 => simp at hm)
 ·by_cases h : c = n
  ·subst h; rw [fput_same] at hc; injection hc with hc; exact .inl (by omega)
  ·rw [fput_ne _ _ h] at hc; exact .inr ⟨c, hc⟩
theorem var_nil {c : Nat} {b : MB} {g : Nat} (hI : InvM w P adr (VM.get M)) (hb : VM.get M c = some b) (he : b.es = 1) (hl : b.l = [.nils]) (hg : adr c = some g) : w.cell? ⟨g, 0, none⟩ = some (.slice none 0 0) := by
 rcases hI.blk c b hb with h | ⟨g', h1, h2⟩
 ·rw [hg] at h; cases h.2.2.1
 ·rw [hg] at h1
  injection h1 with h1
  subst h1
  obtain ⟨cur, parts, q1, q2, q3, q4, q5⟩ := h2.ofE (by rw [he]; omega)
  rw [hl] at q2 q4
  match parts, q2 with
  | [s], _ =>
   have hr := q4 0 _ s rfl rfl
   cases hr
   rw [cell_of_row w g 0 cur _ (0, 0) q1]
   have := prefix_get q5 (j := 0) (x := .slice none 0 0) (by simp)
   simpa using this
theorem valueLen_n {c : Nat} {b : MB} (hb : VM.get M c = some b) (he : b.es = 1) (hl : b.l = [.nils]) : SemP Tryz.prog G 309 [.st [hndM 35, .ptr c 1 0 0 [], .int .u64 151]] M n (.int .i64 (0 : Nat)) M n := by
 intro w P adr vals hg hI hn hL hargs
 cases hargs with | cons a1 hargs =>
 cases hargs
 obtain ⟨cs, h1, rfl⟩ := a1.agg_ rfl
 cases h1 with | st parts hp hr =>
 match parts, hp with
 | [c0, c1, c2], _ =>
  have r0 := hr 0 _ c0 rfl rfl
  have r1 := hr 1 _ c1 rfl rfl
  have r2 := hr 2 _ c2 rfl rfl
  cases r0
  cases r2
  cases r1 with | ptr g h1 =>
  have hc := var_nil hI hb he hl h1
  have hf : (callFunc 309 #[.agg #[typeHandle Tryz.prog 35, .pointer (some ⟨g, 0, none⟩), .int .u64 151]]).run Tryz.prog w = _ :=
   run_callFunc_extern Tryz.func309 (by kernel_rfl) (by kernel_rfl) (by kernel_rfl) (e := Extern.ReflectliteValue.method (Extern.ReflectliteValue.valueError "reflectlite.Value.Len" 0) Extern.ReflectliteValue.len) (by kernel_rfl) _ w
  rw [run_valueLen_slice _ _ infS info_S desc_S pack_S _ _ _ _ _ hc] at hf
  exact ⟨_, _, hf, _, rfl, P, adr, hI, .val [_] .int, Keep.refl _ _ _, fun _ _ => rfl, hn, fun c g hc => .inr ⟨c, hc⟩, fun b o ho => .inl ho, Since.refl _ _⟩
theorem swapper_n : SemP Tryz.prog G 307 [.ifc 35 .nils] M n (.fn 322 []) M n := by
 intro w P adr vals hg hI hn hL hargs
 cases hargs with | cons a1 hargs =>
 cases hargs
 obtain rfl := ifc_nils a1
 have hf : (callFunc 307 #[.iface 35 (.slice none 0 0)]).run Tryz.prog w = _ :=
  run_callFunc_extern Tryz.func307 (by kernel_rfl) (by kernel_rfl) (by kernel_rfl) (e := Extern.ReflectliteSwapper.swapper "internal/reflectlite" (Extern.ReflectliteValue.valueError "Swapper")) (by kernel_rfl) _ w
 rw [run_swapper_slice _ _ infS infE info_S desc_S info_E 25 kind_E none 0 0 322 (by kernel_rfl)] at hf
 exact ⟨_, _, hf, _, rfl, P, adr, hI, .val _ (.fn [] rfl fun j m q h => by simp at h), Keep.refl _ _ _, fun _ _ => rfl, hn, fun c g hc => .inr ⟨c, hc⟩, fun b o ho => .inl ho, Since.refl _ _⟩
noncomputable def libT : TblF := fun f vs M n =>
 bif Nat.beq f 306 then some (match vs with
  | [.ifc t .nils] => bif Nat.beq t 35 then some (.st [hndM 35, .ptr n 1 0 0 [], .int .u64 151], (n, ⟨35, 1, false, 0, [.nils]⟩) :: M, n + 1) else none
  | _ => none)
 else bif Nat.beq f 307 then some (match vs with
  | [.ifc t .nils] => bif Nat.beq t 35 then some (.fn 322 [], M, n) else none
  | _ => none)
 else bif Nat.beq f 309 then some (match vs with
  | [.st [.gp g t, .ptr c 1 0 0 [], .int .u64 151]] => (match VM.get M c with
   | some b => (match b.l with
    | [.nils] => bif Nat.beq g Tryz.prog.globals.size && Nat.beq t 35 && Nat.beq b.es 1 then some (.int .i64 (0 : Nat), M, n) else none
    | _ => none)
   | none => none)
  | _ => none)
 else shaT f vs M n
theorem libT_ok : TblOK Tryz.prog ents G libT := by
 intro f vs M n r M' n' h hM
 unfold libT at h
 cases hf : Nat.beq f 306 with
 | true =>
  have e := Nat.eq_of_beq_eq_true hf
  subst e
  rw [hf] at h
  injection h with h
  split at h
  ·rename_i t
   obtain ⟨h0, h⟩ := bif_some h
   have h0 := Nat.eq_of_beq_eq_true h0
   subst h0
   injection h with h; injection h with h1 h; injection h with h2 h3
   subst h1; subst h2; subst h3
   have hno : ents.contains 306 = false := by kernel_rfl
   refine ⟨Nat.le_succ _, fun c hc => ?_, fun e => (by rw [hno] at e; cases e), fun _ => valueOf_n (hM n (Nat.le_refl _))⟩
   show (bif Nat.beq n c then some _ else VM.get M c) = none
   have hb : Nat.beq n c = false := by
    rw [← Bool.not_eq_true]; intro h2; have := Nat.eq_of_beq_eq_true h2; omega
   rw [hb]
   exact hM c (by omega)
  ·cases h
 | false =>
  rw [hf] at h
  dsimp only [cond_false] at h
  cases hf2 : Nat.beq f 307 with
  | true =>
   have e := Nat.eq_of_beq_eq_true hf2
   subst e
   rw [hf2] at h
   injection h with h
   split at h
   ·rename_i t
    obtain ⟨h0, h⟩ := bif_some h
    have h0 := Nat.eq_of_beq_eq_true h0
    subst h0
    injection h with h; injection h with h1 h; injection h with h2 h3
    subst h1; subst h2; subst h3
    have hno : ents.contains 307 = false := by kernel_rfl
    exact ⟨Nat.le_refl _, hM, fun e => (by rw [hno] at e; cases e), fun _ => swapper_n⟩
   ·cases h
  | false =>
   rw [hf2] at h
   dsimp only [cond_false] at h
   cases hf3 : Nat.beq f 309 with
   | true =>
    have e := Nat.eq_of_beq_eq_true hf3
    subst e
    rw [hf3] at h
    injection h with h
    split at h
    ·rename_i g t c
     split at h
     ·rename_i b hb
      split at h
      ·rename_i hl
       obtain ⟨h0, hx⟩ := bif_some h
       simp only [Bool.and_eq_true] at h0
       obtain ⟨⟨h4, h5⟩, h6⟩ := h0
       have h4 := Nat.eq_of_beq_eq_true h4
       have h5 := Nat.eq_of_beq_eq_true h5
       subst h4; subst h5
       have e := Option.some.inj hx
       have e1 := (Prod.mk.inj e).1
       have e2 := (Prod.mk.inj (Prod.mk.inj e).2).1
       have e3 := (Prod.mk.inj (Prod.mk.inj e).2).2
       subst e1; subst e2; subst e3
       have hno : ents.contains 309 = false := by kernel_rfl
       exact ⟨Nat.le_refl _, hM, fun e => (by rw [hno] at e; cases e), fun _ => valueLen_n hb (Nat.eq_of_beq_eq_true h6) hl⟩
      ·cases h
     ·cases h
    ·cases h
   | false =>
    rw [hf3] at h
    exact shaT_ok f vs M n r M' n' h hM
end
end
section
def kb (l : List Nat) : List MV := l.map fun x => .int .u8 (x : Nat)
mutual
def sameMV : MV → MV → Bool
 | .int k a, .int j b => decide (k = j) && decide (a = b)
 | .bool a, .bool b => bEq a b
 | .str s, .str t => sameU s t
 | .nilp, .nilp => true
 | .nils, .nils => true
 | .nilf, .nilf => true
 | .nili, .nili => true
 | .sl n l, .sl m r => Nat.beq n m && sameMVs l r
 | .arr n e l, .arr m f r => Nat.beq n m && Nat.beq e f && sameMVs l r
 | .st l, .st r => sameMVs l r
 | .ifc t v, .ifc u x => Nat.beq t u && sameMV v x
 | _, _ => false
def sameMVs : List MV → List MV → Bool
 | [], [] => true
 | a :: l, b :: r => sameMV a b && sameMVs l r
 | _, _ => false
end
mutual
theorem sameMV_ok : ∀ {x y : MV}, sameMV x y = true → x = y ∧ x.idFree = true
 | .int k a, .int j b, h => by
  unfold sameMV at h
  rw [Bool.and_eq_true] at h
  rw [of_decide_eq_true h.1, of_decide_eq_true h.2]; exact ⟨rfl, rfl⟩
 | .bool a, .bool b, h => by unfold sameMV at h; rw [bEq_out h]; exact ⟨rfl, rfl⟩
 | .str s, .str t, h => by unfold sameMV at h; rw [sameU_ok h]; exact ⟨rfl, rfl⟩
 | .nilp, .nilp, _ => ⟨rfl, rfl⟩
 | .nils, .nils, _ => ⟨rfl, rfl⟩
 | .nilf, .nilf, _ => ⟨rfl, rfl⟩
 | .nili, .nili, _ => ⟨rfl, rfl⟩
 | .sl n l, .sl m r, h => by
  unfold sameMV at h
  rw [Bool.and_eq_true] at h
  rw [Nat.eq_of_beq_eq_true h.1, (sameMVs_ok h.2).1]; exact ⟨rfl, rfl⟩
 | .arr n e l, .arr m f r, h => by
  unfold sameMV at h
  simp only [Bool.and_eq_true] at h
  rw [Nat.eq_of_beq_eq_true h.1.1, Nat.eq_of_beq_eq_true h.1.2, (sameMVs_ok h.2).1]; exact ⟨rfl, rfl⟩
 | .st l, .st r, h => by
  unfold sameMV at h
  obtain ⟨h1, h2⟩ := sameMVs_ok h
  exact ⟨by rw [h1], h2⟩
 | .ifc t v, .ifc u x, h => by
  unfold sameMV at h
  rw [Bool.and_eq_true] at h
  obtain ⟨h1, h2⟩ := sameMV_ok h.2
  exact ⟨by rw [Nat.eq_of_beq_eq_true h.1, h1], h2⟩
 | .ptr .., y, h => by cases y <;> cases h
 | .gp .., y, h => by cases y <;> cases h
 | .ep .., y, h => by cases y <;> cases h
 | .ms .., y, h => by cases y <;> cases h
 | .fn .., y, h => by cases y <;> cases h
 | .tup .., y, h => by cases y <;> cases h
 | .mp .., y, h => by cases y <;> cases h
 | .mpv .., y, h => by cases y <;> cases h
 | .undef, y, h => by cases y <;> cases h
theorem sameMVs_ok : ∀ {x y : List MV}, sameMVs x y = true → x = y ∧ MV.idFrees x = true
 | [], [], _ => ⟨rfl, rfl⟩
 | a :: l, b :: r, h => by
  unfold sameMVs at h
  rw [Bool.and_eq_true] at h
  obtain ⟨h1, h2⟩ := sameMV_ok h.1
  obtain ⟨h3, h4⟩ := sameMVs_ok h.2
  refine ⟨by rw [h1, h3], ?_⟩
  show (a.idFree && MV.idFrees l) = true
  rw [h2, h4]; rfl
 | [], _ :: _, h => by cases h
 | _ :: _, [], h => by cases h
end
def sameR : MV → MV → Bool
 | .tup l, .tup r => sameMVs l r
 | a, b => sameMV a b
theorem sameR_ok {x y : MV} (h : sameR x y = true) : x = y := by
 unfold sameR at h
 split at h
 ·rw [(sameMVs_ok h).1]
 ·exact (sameMV_ok h).1
theorem repVs_free {w : World} {P : Prot} {adr : Adr} : ∀ {l : List MV} {vs : List Value}, MV.idFrees l = true → RepVs w P adr l vs → RepVs w P noAdr l vs
 | [], _, _, .nil => .nil
 | p :: l, v :: vs, hf, .cons h t => by
  have hf : (p.idFree && MV.idFrees l) = true := hf
  rw [Bool.and_eq_true] at hf
  refine .cons ?_ (repVs_free hf.2 t)
  obtain ⟨cs, h1, h2⟩ := h.ofVal (idFree_val _ hf.1)
  rw [h2]; exact .val cs (h1.free hf.1)
theorem semR_at {Pg : Program} {G : GS} {f : FuncId} {args : List MV} {res : MV} {M : VM} {n : Nat} (h : SemC Pg G f args res) (ha : MV.idFrees args = true) : SemR Pg G f args M n res M n := by
 intro w P adr vals hg hI hn hL hargs
 refine (h w P vals hg hI.prot (repVs_free ha hargs)).mono ?_
 rintro e w' ⟨v, rfl, h1, h2⟩
 have hb := Keep.below (adr := adr) hI.prot h2
 refine ⟨v, rfl, protNew w w' P, adr, hI.below h2, h1.ofNone, hb, fun _ _ => rfl, hn, fun c g hc => .inr ⟨c, hc⟩, fun b o ho => ?_, (Since.of_below h2).weak fun _ e => e.elim⟩
 rcases ho with h | h
 ·exact .inl h
 ·exact .inr (.inl h.1)
structure Mem1 (Pg : Program) (ents : List FuncId) (G : GS) where
 f : FuncId
 vs : List MV
 r : MV
 ok : SemC Pg G f vs r
 inn : ents.contains f = true
section
variable {Pg : Program} {ents : List FuncId} {G : GS}
def findMm (f : FuncId) (vs : List MV) : List (Mem1 Pg ents G) → Option MV
 | [] => none
 | x :: l => bif Nat.beq x.f f && sameMVs vs x.vs then some x.r else findMm f vs l
def memT (L : List (Mem1 Pg ents G)) (tb : TblF) : TblF := fun f vs M n => match findMm f vs L with
 | some r => some (some (r, M, n))
 | none => tb f vs M n
theorem findMm_ok {f : FuncId} {vs : List MV} {r : MV} : ∀ {L : List (Mem1 Pg ents G)}, findMm f vs L = some r → SemC Pg G f vs r ∧ ents.contains f = true ∧ MV.idFrees vs = true
 | [], h => by cases h
 | x :: l, h => by
  unfold findMm at h
  cases hc : (Nat.beq x.f f && sameMVs vs x.vs) with
  | true =>
   have hr : x.r = r := Option.some.inj (show some x.r = some r by rw [hc] at h; exact h)
   rw [Bool.and_eq_true] at hc
   have e := Nat.eq_of_beq_eq_true hc.1
   obtain ⟨h1, h2⟩ := sameMVs_ok hc.2
   rw [← e, h1, ← hr]
   exact ⟨x.ok, x.inn, by rw [← h1]; exact h2⟩
  | false => exact findMm_ok (show findMm f vs l = some r by rw [hc] at h; exact h)
theorem memT_ok {L : List (Mem1 Pg ents G)} {tb : TblF} (h : TblOK Pg ents G tb) : TblOK Pg ents G (memT L tb) := by
 intro f vs M n r M' n' hr hM
 unfold memT at hr
 split at hr
 ·rename_i r0 hf
  obtain ⟨h1, h2, h3⟩ := findMm_ok hf
  have e := Option.some.inj hr
  have e := Option.some.inj e
  have e1 := (Prod.mk.inj e).1
  have e2 := (Prod.mk.inj (Prod.mk.inj e).2).1
  have e3 := (Prod.mk.inj (Prod.mk.inj e).2).2
  subst e1; subst e2; subst e3
  exact ⟨Nat.le_refl _, hM, fun _ => semR_at h1 h3, fun e => by rw [h2] at e; cases e⟩
 ·exact h f vs M n r M' n' hr hM
end
end
section
open Go.RowKit Go.ChangeShapes Go.Deep
theorem reach_le : reachBytes ≤ 140737488355328 := by decide
theorem weightsAll_mem {H : Type} {P : Program} {e : TypeId} {l : List (DataW H)} (h : (DataW.weightsAll P e l).all (· ≤ reachBytes) = true) {d : DataW H} (hd : d ∈ l) : (d.weights P e).all (· ≤ reachBytes) = true := by
 induction l with
 | nil => cases hd
 | cons x l ih =>
  simp only [DataW.weightsAll, List.all_append, Bool.and_eq_true] at h
  rcases List.mem_cons.1 hd with rfl | hd
  ·exact h.1
  ·exact ih h.2 hd
end
section
open Go.RowKit Go.ChangeShapes Go.Deep
def allP (W : World) : Prot := fun b _ => b < W.heap.size
mutual
def MV.bulk : MV → Nat
 | .str s => s.length + 1
 | .sl _ l => MV.bulks l + 1
 | .st l => MV.bulks l + 1
 | _ => 1
def MV.bulks : List MV → Nat
 | [] => 0
 | m :: l => MV.bulk m + MV.bulks l
end
theorem bulk_one {H : Type} (d : DataW H) : 1 ≤ Rows.uptoBulk d := by
 cases d with
 | lit l => cases l <;> simp [Rows.uptoBulk]
 | nil => simp [Rows.uptoBulk]
 | ptr d => simp [Rows.uptoBulk]
 | slice elems spare => simp [Rows.uptoBulk]
 | agg parts => simp [Rows.uptoBulk]
 | iface t d => simp [Rows.uptoBulk]
 | map entries => simp [Rows.uptoBulk]
 | held h => simp [Rows.uptoBulk]
theorem bulks_map {H : Type} (f : Nat → MV) (D : Nat → DataW H) : ∀ (l : List Nat), (∀ i ∈ l, (f i).bulk ≤ Rows.uptoBulk (D i)) → MV.bulks (l.map f) ≤ Rows.uptoBulkAll (l.map D)
 | [], _ => Nat.le_refl _
 | i :: l, h => by
  have h1 := h i (by simp)
  have h2 := bulks_map f D l fun j hj => h j (by simp [hj])
  simp only [List.map_cons, MV.bulks, Rows.uptoBulkAll]
  omega
def Opn (P : Program) (t : TypeId) (n : Nat) (Q : MV → Prop) : Prop :=
 P.cellsOf t = n ∧ ∀ {H : Type} (enc : TypeId × Value → H) (W : World) (spare : Nat → Bool) (held : Bool) (fuel : Nat) (cs : List Value) (d : DataW H) (p : List MemPlace),
  DataW.trod enc P W 0 spare held fuel t cs = some (d, p) → (d.weights P t).all (· ≤ reachBytes) = true → cs.length = n ∧ ∃ m, Q m ∧ Rep W (allP W) noAdr m cs ∧ m.bulk ≤ Rows.uptoBulk d
section
variable {P : Program} {t e : TypeId}
theorem Opn.int {k : IntKind} (hu : P.underlying t = some (.int k)) (hc : P.cellsOf t = 1) : Opn P t 1 fun m => ∃ n, m = .int k n ∧ (Lit.int k n).wf = true :=
 ⟨hc, fun enc W spare held fuel cs d p h _ => by
  obtain ⟨n, rfl, _, hw⟩ := DataW.trod_int hu h
  exact ⟨rfl, _, ⟨n, rfl, hw⟩, .int, bulk_one d⟩⟩
theorem Opn.bool (hu : P.underlying t = some .bool) (hc : P.cellsOf t = 1) : Opn P t 1 fun m => ∃ b, m = .bool b :=
 ⟨hc, fun enc W spare held fuel cs d p h _ => by
  obtain ⟨b, rfl, _⟩ := DataW.trod_bool hu h
  exact ⟨rfl, _, ⟨b, rfl⟩, .bool, bulk_one d⟩⟩
theorem Opn.str (hu : P.underlying t = some .string) (hc : P.cellsOf t = 1) : Opn P t 1 fun m => ∃ s, m = .str s ∧ s.length ≤ 140737488355328 :=
 ⟨hc, fun enc W spare held fuel cs d p h hw => by
  obtain ⟨s, rfl, hx, _⟩ := DataW.trod_string hu h
  simp only [Prod.mk.injEq] at hx
  obtain ⟨rfl, rfl⟩ := hx
  have h2 : s.data.size ≤ reachBytes := by simpa [DataW.weights] using hw
  exact ⟨rfl, _, ⟨s.data.toList, rfl, by simpa using Nat.le_trans h2 reach_le⟩, .str, by simp [MV.bulk, Rows.uptoBulk]⟩⟩
theorem Opn.slice {n : Nat} {Q : MV → Prop} (hu : P.underlying t = some (.slice e)) (hc : P.cellsOf t = 1) (hb : 0 < P.bytesOf e) (hpos : 0 < n) (hr : Opn P e n Q) : Opn P t 1 fun m => ∃ l, m = .sl l.length l ∧ (∀ x ∈ l, Q x) ∧ l.length ≤ 140737488355328 := by
 refine ⟨hc, fun {H} enc W spare held fuel cs d p h hw => ?_⟩
 rcases open_slice hu h with ⟨rfl, _⟩ | ⟨a, len, cap, m, nn, D, Pl, rfl, _, hle, _, hm, hx, hi⟩
 ·exact ⟨rfl, _, ⟨[], rfl, by simp, by simp⟩, .sl none 0 0 [] rfl rfl (fun p hp => nomatch hp) (fun _ => ⟨rfl, rfl⟩) (Nat.le_refl _) (fun h => absurd rfl h) (fun j m p h => by simp at h), bulk_one _⟩
 ·simp only [Prod.mk.injEq] at hx
  obtain ⟨rfl, rfl⟩ := hx
  simp only [DataW.weights, hu, List.all_cons, List.all_append, Bool.and_eq_true, List.length_map, List.length_range] at hw
  have hmle : len ≤ m := by rw [hm]; split <;> omega
  have hlen : len ≤ 140737488355328 := by
   have h1 := of_decide_eq_true hw.1
   have h3 := reach_le
   have h2 : len * 1 ≤ (len + (m - len)) * P.bytesOf e := Nat.mul_le_mul (by omega) hb
   omega
  have key : ∀ i, i < len → ∃ x : MV × List Value, Q x.1 ∧ Rep W (allP W) noAdr x.1 x.2 ∧ x.2.length = n ∧ (∀ j v, x.2[j]? = some v → W.cell? (a.add (i * n + j)) = some v) ∧ x.1.bulk ≤ Rows.uptoBulk (D i) := by
   intro i hil
   obtain ⟨cs', hc', ht⟩ := hi i (by omega)
   rw [hr.1] at hc'
   obtain ⟨_, hl, hat⟩ := World.cells?_some hc'
   have hmem : D i ∈ List.map D (List.range len) := List.mem_map.2 ⟨i, List.mem_range.2 hil, rfl⟩
   obtain ⟨hl2, x, hx1, hx2, hx3⟩ := hr.2 enc W spare held nn cs' (D i) (Pl i) ht (weightsAll_mem hw.2.1 hmem)
   refine ⟨(x, cs'), hx1, hx2, hl2, fun j v hv => ?_, hx3⟩
   have hj : j < cs'.length := (List.getElem?_eq_some_iff.1 hv).1
   have := hat j (by omega)
   rw [Go.Deep.add_add] at this
   rw [this, hv]
  have ex : ∃ f : Nat → MV × List Value, ∀ i, i < len → Q (f i).1 ∧ Rep W (allP W) noAdr (f i).1 (f i).2 ∧ (f i).2.length = n ∧ (∀ j v, (f i).2[j]? = some v → W.cell? (a.add (i * n + j)) = some v) ∧ (f i).1.bulk ≤ Rows.uptoBulk (D i) :=
   ⟨fun i => Classical.epsilon fun x => Q x.1 ∧ Rep W (allP W) noAdr x.1 x.2 ∧ x.2.length = n ∧ (∀ j v, x.2[j]? = some v → W.cell? (a.add (i * n + j)) = some v) ∧ x.1.bulk ≤ Rows.uptoBulk (D i), fun i hil => Classical.epsilon_spec (key i hil)⟩
  obtain ⟨f, hf⟩ := ex
  refine ⟨rfl, .sl len ((List.range len).map fun i => (f i).1), ⟨(List.range len).map fun i => (f i).1, by simp, fun x hx => ?_, by simpa using hlen⟩, ?_, ?_⟩
  ·obtain ⟨i, hi, rfl⟩ := List.mem_map.1 hx
   exact (hf i (List.mem_range.1 hi)).1
  case refine_3 =>
   have hb := bulks_map (fun i => (f i).1) D (List.range len) fun i hi => (hf i (List.mem_range.1 hi)).2.2.2.2
   simp only [MV.bulk, Rows.uptoBulk]
   omega
  ·obtain ⟨b, o, spot⟩ := a
   have hparts : ∀ p ∈ (List.range len).map fun i => (f i).2, p.length = n := fun p hp => by
    obtain ⟨i, hi, rfl⟩ := List.mem_map.1 hp
    exact (hf i (List.mem_range.1 hi)).2.2.1
   refine .sl _ cap n ((List.range len).map fun i => (f i).2) (by simp) (by simp) hparts (fun h => nomatch h) hle (fun h0 => ?_) fun j m p hm hp => ?_
   ·have hspot : spot = none := by
     obtain ⟨_, _, hl, hc', _⟩ := hf 0 (by omega)
     have hv : (f 0).2[0]? = some ((f 0).2[0]'(by omega)) := List.getElem?_eq_getElem (by omega)
     have hcell := hc' 0 _ hv
     have e0 : (⟨b, o, spot⟩ : Addr).add (0 * n + 0) = ⟨b, o, spot⟩ := by simp [Addr.add]
     rw [e0] at hcell
     simpa using World.cell?_spot hcell
    subst hspot
    refine ⟨b, o, rfl, fun j u hj => ?_⟩
    have hjl := (List.getElem?_eq_some_iff.1 hj).1
    rw [flatten_const hparts] at hjl
    simp at hjl
    obtain ⟨i, k, hk, hji⟩ : ∃ i k, k < n ∧ j = i * n + k := ⟨j / n, j % n, Nat.mod_lt _ hpos, by rw [Nat.mul_comm]; exact (Nat.div_add_mod j n).symm⟩
    have hil : i < len := by
     rcases Nat.lt_or_ge i len with h | h
     ·exact h
     ·have := Nat.mul_le_mul_right n h; omega
    have hget : (f i).2[k]? = some u := by
     have hl := (hf i hil).2.2.1
     have hp : ((List.range len).map fun i => (f i).2)[i]? = some (f i).2 := by simp [hil]
     have h2 : ((List.range len).map fun i => (f i).2).flatten[i * n + k]? = (f i).2[k]? := by
      have hsp := flatten_split hp
      have hpre : (((List.range len).map fun i => (f i).2).take i).flatten.length = i * n := by
       rw [flatten_const fun p hp => hparts p (List.mem_of_mem_take hp)]
       rw [List.length_take, List.length_map, List.length_range, Nat.min_eq_left (Nat.le_of_lt hil)]
      rw [hsp, List.append_assoc, List.getElem?_append_right (by omega), hpre, show i * n + k - i * n = k by omega, List.getElem?_append_left (by omega)]
     rw [← h2, ← hji]; exact hj
    have := (hf i hil).2.2.2.1 k u hget
    rw [Addr.add_mid] at this
    have hc2 : W.cell? ⟨b, o + j, none⟩ = some u := by rw [hji]; exact this
    exact ⟨hc2, World.block_lt_of_cell? W _ hc2⟩
   ·rw [List.getElem?_map] at hm hp
    cases hj : (List.range len)[j]? with
    | none => rw [hj] at hm; cases hm
    | some i =>
     rw [hj] at hm hp
     injection hm with hm
     injection hp with hp
     subst hm; subst hp
     have hi : i < len := by
      have := List.mem_range.1 (List.mem_of_getElem? hj)
      exact this
     exact (hf i hi).2.1
theorem lift_list {α : Type} {f : α → MV} {R : α → Prop} : ∀ (l : List MV), (∀ x ∈ l, ∃ a, x = f a ∧ R a) → ∃ us : List α, l = us.map f ∧ ∀ a ∈ us, R a
 | [], _ => ⟨[], rfl, by simp⟩
 | x :: l, h => by
  obtain ⟨a, e, hr⟩ := h x (by simp)
  obtain ⟨us, e2, has⟩ := lift_list l fun y hy => h y (by simp [hy])
  refine ⟨a :: us, by rw [e, e2]; rfl, fun b hb => ?_⟩
  rcases List.mem_cons.1 hb with rfl | hb
  ·exact hr
  ·exact has b hb
def OpnL (P : Program) : Nat → List Field → List (Nat × (MV → Prop)) → Prop
 | _, [], [] => True
 | o, f :: fs, q :: qs => f.offset = o ∧ Opn P f.type q.1 q.2 ∧ OpnL P (o + q.1) fs qs
 | _, _, _ => False
def sumN : List (Nat × (MV → Prop)) → Nat
 | [] => 0
 | q :: qs => q.1 + sumN qs
def AllQ : List (Nat × (MV → Prop)) → List MV → Prop
 | [], [] => True
 | q :: qs, m :: l => q.2 m ∧ AllQ qs l
 | _, _ => False
theorem OpnL.out {H : Type} (enc : TypeId × Value → H) (W : World) (spare : Nat → Bool) (held : Bool) (fuel : Nat) (cs : List Value) : ∀ (fs : List Field) (qs : List (Nat × (MV → Prop))) (xs : List (DataW H × List MemPlace)) (o : Nat), OpnL P o fs qs → xs.length = fs.length → o + sumN qs = cs.length →
  (∀ (i : Nat) (f : Field), fs[i]? = some f → DataW.trod enc P W 0 spare held fuel f.type ((cs.drop f.offset).take (P.cellsOf f.type)) = xs[i]?) → (∀ (i : Nat) (f : Field) (x : DataW H × List MemPlace), fs[i]? = some f → xs[i]? = some x → (x.1.weights P f.type).all (· ≤ reachBytes) = true) →
  ∃ (l : List MV) (parts : List (List Value)), AllQ qs l ∧ parts.length = l.length ∧ cs.drop o = parts.flatten ∧ MV.bulks l ≤ Rows.uptoBulkAll (xs.map (·.1)) ∧ ∀ (j : Nat) m p, l[j]? = some m → parts[j]? = some p → Rep W (allP W) noAdr m p
 | [], [], _, o, _, _, hs, _, _ => ⟨[], [], trivial, rfl, by simp only [sumN] at hs; rw [List.drop_eq_nil_of_le (by omega)]; rfl, Nat.zero_le _, fun j m p h => by simp at h⟩
 | f :: fs, q :: qs, x :: xs, o, ho, hl, hs, hx, hw => by
  obtain ⟨h1, h2, h3⟩ := ho
  have ht := hx 0 f rfl
  rw [h1, h2.1] at ht
  obtain ⟨d, p⟩ := x
  obtain ⟨hlen, m, hq, hr, hb⟩ := h2.2 enc W spare held fuel _ d p ht (hw 0 f (d, p) rfl rfl)
  obtain ⟨l, parts, a1, a2, a3, a5, a4⟩ := OpnL.out enc W spare held fuel cs fs qs xs (o + q.1) h3 (by simpa using hl) (by simp only [sumN] at hs; omega) (fun i f hf => hx (i + 1) f hf) fun i f x hf hx => hw (i + 1) f x hf hx
  refine ⟨m :: l, (cs.drop o).take q.1 :: parts, ⟨hq, a1⟩, by simp [a2], ?_, by simp only [List.map_cons, MV.bulks, Rows.uptoBulkAll]; omega, fun j m' p' hm hp => ?_⟩
  ·rw [List.flatten_cons, ← a3, ← List.drop_drop, List.take_append_drop]
  ·cases j with
   | zero => simp at hm hp; subst hm; subst hp; exact hr
   | succ j => exact a4 j m' p' (by simpa using hm) (by simpa using hp)
 | [], _ :: _, _, _, h, _, _, _, _ => h.elim
 | _ :: _, [], _, _, h, _, _, _, _ => h.elim
 | _ :: _, _ :: _, [], _, _, h, _, _, _ => by simp at h
theorem Opn.struct {fs : List Field} {qs : List (Nat × (MV → Prop))} (hu : P.underlying t = some (.struct fs.toArray)) (hc : P.cellsOf t = sumN qs) (h : OpnL P 0 fs qs) : Opn P t (sumN qs) fun m => ∃ l, m = .st l ∧ AllQ qs l := by
 refine ⟨hc, fun {H} enc W spare held fuel cs d p h' hw => ?_⟩
 obtain ⟨xs, n, _, hx, hl, hlen, hf⟩ := DataW.trod_struct hu h'
 simp only [Prod.mk.injEq] at hx
 obtain ⟨rfl, rfl⟩ := hx
 simp only [DataW.weights, hu] at hw
 have hw2 : ∀ (fs : List Field) (xs : List (DataW H × List MemPlace)), (DataW.weightsEach P (fs.map (·.type)) (xs.map (·.1))).all (· ≤ reachBytes) = true → ∀ (i : Nat) (f : Field) (x : DataW H × List MemPlace), fs[i]? = some f → xs[i]? = some x → (x.1.weights P f.type).all (· ≤ reachBytes) = true := by
  intro fs
  induction fs with
  | nil => intro xs _ i f x hf; simp at hf
  | cons g fs ih =>
   intro xs hw i f x hf hx
   cases xs with
   | nil => simp at hx
   | cons y xs =>
    simp only [List.map_cons, DataW.weightsEach, List.all_append, Bool.and_eq_true] at hw
    cases i with
    | zero => simp at hf hx; subst hf; subst hx; exact hw.1
    | succ i => exact ih xs hw.2 i f x (by simpa using hf) (by simpa using hx)
 obtain ⟨l, parts, a1, a2, a3, a5, a4⟩ := OpnL.out enc W spare held n cs fs qs xs 0 h (by simpa using hlen) (by rw [hl, hc]; omega) (fun i f hi => hf i f (by simpa using hi)) (hw2 fs xs (by simpa using hw))
 rw [List.drop_zero] at a3
 exact ⟨hl.trans hc, .st l, ⟨l, rfl, a1⟩, by rw [a3]; exact .st parts a2 a4, by simp only [MV.bulk, Rows.uptoBulk]; omega⟩
end
end
section
open Go.ChangeShapes Go.WideShapes Go.ChangeAt Go.RowKit
theorem own : ownKnob Tryz.prog.godebug = none := by kernel_rfl
theorem laidOut : laidOutB Tryz.prog = true := by kernel_rfl
def G0 : GS := ⟨fun _ => True, fun _ => False, fun _ _ _ h => h.elim, fun _ _ _ _ _ _ => trivial⟩
theorem opn_int : Opn Tryz.prog 3 1 fun m => ∃ n, m = .int .i64 n ∧ (Lit.int .i64 n).wf = true := Opn.int Tryz.underlying3 (by kernel_rfl)
theorem opn_ints : Opn Tryz.prog 22 1 fun m => ∃ l, m = .sl l.length l ∧ (∀ x ∈ l, ∃ n, x = .int .i64 n ∧ (Lit.int .i64 n).wf = true) ∧ l.length ≤ 140737488355328 := Opn.slice Tryz.underlying22 (by kernel_rfl) (Nat.le_of_ble_eq_true (by kernel_rfl)) (by omega) opn_int
theorem ints_lift {m : MV} (h : ∃ l, m = .sl l.length l ∧ (∀ x ∈ l, ∃ n, x = .int .i64 n ∧ (Lit.int .i64 n).wf = true) ∧ l.length ≤ 140737488355328) : ∃ xs : List Int, m = intsM xs ∧ xs.length ≤ 140737488355328 := by
 obtain ⟨l, rfl, h, hl⟩ := h
 obtain ⟨us, rfl, _⟩ := lift_list l h
 exact ⟨us, by unfold intsM; rw [List.length_map], by simpa using hl⟩
end
section
def mem' (l : List Nat) (f : Nat) : Bool := l.any (Nat.beq f)
def byV : List Nat := [199, 164, 110, 112, 358, 359, 271, 316, 317, 304, 319, 318, 111, 270, 398, 381, 399, 60, 109, 108, 286, 377, 378, 91, 92, 397, 57, 61]
def byR : List Nat := [197, 196]
def modes : FuncId → Nat := fun f => bif mem' byV f then 1 else bif mem' byR f then 2 else 0
def flags : FuncId → Bool := fun f => mem' [335, 18, 376, 268, 353, 354, 375, 405, 406, 407] f
noncomputable def evL (L : List (Mem1 Tryz.prog ents G0)) (f : FuncId) (args : List MV) : Option MV := gByVal (gEv Tryz.prog tab ents (memT L libT) modes (prD flags) 300 60) f args
def isT : Option MV → Bool
 | some (.bool true) => true
 | _ => false
theorem isT_out {o : Option MV} (h : isT o = true) : o = some (.bool true) := by
 unfold isT at h
 split at h
 ·rfl
 ·cases h
theorem sem_evL {L : List (Mem1 Tryz.prog ents G0)} {f : FuncId} {args : List MV} (hin : ents.contains f = true) (h : isT (evL L f args) = true) : SemC Tryz.prog G0 f args (.bool true) := semC_ev seat (memT_ok libT_ok) hin (isT_out h)
noncomputable def memB (L : List (Mem1 Tryz.prog ents G0)) (f : FuncId) (args : List MV) (r : MV) : Bool := match evL L f args with
 | some x => sameR x r
 | none => false
theorem memB_ok {L : List (Mem1 Tryz.prog ents G0)} {f : FuncId} {args : List MV} {r : MV} (hin : ents.contains f = true) (h : memB L f args r = true) : SemC Tryz.prog G0 f args r := by
 unfold memB at h
 split at h
 ·rename_i x hx
  rw [sameR_ok h] at hx
  exact semC_ev seat (memT_ok libT_ok) hin hx
 ·cases h
end
end Go.Proofs.YtdjcdmnemddjlaaGreat
