/- Parts of a proof, one behind the other: EV3, EV4, EVK, BW, EV5, EV6, LE, LF, LH, LJ, Shelf3, LP, LZ. -/
import Derived.Test.YtbiaaogbohfimaaGreatDoorW06
set_option maxRecDepth 20000
set_option maxHeartbeats 16000000
set_option linter.unusedVariables false
set_option linter.unusedSimpArgs false
namespace Go.Proofs.YtbiaaogbohfimaaGreatDoor
open Go.RowKit
section
section
variable {Pg : Program} {T : Tab} {N : Nat} {ents : List FuncId} {G : GS} {ops : Array Oper} {e' : Nat → Option MV} {m' : FM} {w0 : World} {ex0 : Anc} {P0 : Prot} {Q : Exit → Act → World → Prop} {Z : Nat → Prop}
theorem any_okT (hS : SeatM Pg T ents G w0 ex0) {t : Nat} {ot : Oper} {Fin : Act → World → Prop} (ht : ops[t]? = some ot) (hta : ∀ k, k < ops.size → k ≠ t → (∃ ed ∈ ot.after.toList, Region.binds .any ed = true ∧ ed.on = k) ∨ pathO ops 6 t k = true) (hts : ∀ ed ∈ ot.after.toList, Region.binds .any ed = true → ed.on < ops.size ∧ ed.on ≠ t) (hF : ∀ a w, Fin a w → Q .normal a w) (hQ : ∀ K a w, (∀ a w, Fin a w → K a w) → SimS N w0 ex0 P0 e' m' Z a w → wpOp Pg ops Q t K a w) : ∀ (fuel : Nat) (L : List Dop) {listed : Array Bool} {e : Nat → Option MV} {m : FM} {a : Act} {w : World},
  (∃ M, VM.get M = m) → runL Pg T N ents G ops L e m e' m' → L.Pairwise (fun x y => okR ops x y = true) → (∀ x ∈ L, okS ops x.k = true) → L.Pairwise Dj → (∀ x ∈ L, ∀ c, x.own c → ¬ Z c) →
  SimS N w0 ex0 P0 e m (fun c => (∃ x ∈ L, x.own c) ∨ Z c) a w → (∀ k, k < ops.size → (listed.getD k true = false ↔ k ∈ L.map (·.k) ∨ k = t)) → t ∉ L.map (·.k) → listed.size = ops.size → ClosedO ops listed → (∀ x ∈ L, ∀ o, ops[x.k]? = some o → ∀ ed ∈ o.after.toList, Region.binds .any ed = true → ed.on ≠ t) → L.length < fuel → wpAny Pg .any ops Q fuel listed a w := by
 intro fuel
 induction fuel with
 | zero =>
  intro L listed e m a w hv hr hP hA hD hZ hs hl htL hsz hc hTl hlen
  omega
 | succ fuel ih =>
  intro L listed e m a w hv hr hP hA hD hZ hs hl htL hsz hc hTl hlen
  have htlt := (Array.getElem?_eq_some_iff.1 ht).1
  cases L with
  | nil =>
   obtain ⟨rfl, rfl⟩ := hr
   have hrd : t ∈ Region.ready .any ops listed := ready_in ((hl t htlt).2 (.inr rfl)) ht fun ed he hb => by
    obtain ⟨h1, h2⟩ := hts ed he hb
    rw [getD_any (d' := true) (by omega)]
    cases hh : listed.getD ed.on true with
    | true => rfl
    | false =>
     exfalso
     rcases (hl ed.on h1).1 hh with h | h
     ·simp at h
     ·exact h2 h
   refine ⟨fun h0 => (by rw [h0] at hrd; cases hrd), fun i hi => ?_⟩
   obtain ⟨h1, o, ho, _⟩ := ready_out hi
   have hlt := (Array.getElem?_eq_some_iff.1 ho).1
   have : i = t := by
    rcases (hl i hlt).1 h1 with h | h
    ·simp at h
    ·exact h
   subst this
   refine hQ _ a w (fun a w hf => wpAny_done (List.eq_nil_iff_forall_not_mem.2 fun j hj => ?_) (hF a w hf) _) (by simpa using hs)
   obtain ⟨h3, o3, ho3, _⟩ := ready_out hj
   have hjlt := (Array.getElem?_eq_some_iff.1 ho3).1
   rw [getD_set (by omega)] at h3
   split at h3
   ·cases h3
   ·rename_i hne
    rcases (hl j hjlt).1 h3 with h | h
    ·simp at h
    ·exact hne h.symm
  | cons x0 L0 =>
  generalize hL : x0 :: L0 = L at *
  have hx0 : x0 ∈ L := by rw [← hL]; simp
  have hunl : ∀ x ∈ L, listed.getD x.k true = false ∧ listed.getD x.k false = false := by
   intro x hx
   obtain ⟨o, ho, _⟩ := okS_out (hA x hx)
   have hlt := (Array.getElem?_eq_some_iff.1 ho).1
   have h1 := (hl x.k hlt).2 (.inl (List.mem_map_of_mem hx))
   exact ⟨h1, by rw [getD_any (d' := true) (by omega)]; exact h1⟩
  refine ⟨fun h0 => ?_, fun i hi => ?_⟩
  ·cases L with
   | nil => cases hL
   | cons x L =>
    exfalso
    obtain ⟨o, ho, h2⟩ := okS_out (hA x (by simp))
    have : x.k ∈ Region.ready .any ops listed := ready_in (hunl x (by simp)).1 ho fun ed he hb => by
     obtain ⟨h3, h4⟩ := h2 ed he hb
     rw [getD_any (d' := true) (by omega)]
     cases hh : listed.getD ed.on true with
     | true => rfl
     | false =>
      exfalso
      rcases (hl ed.on h3).1 hh with this | this
      rotate_left
      ·exact hTl x (by simp) o ho ed he hb this
      simp only [List.map_cons, List.mem_cons] at this
      rcases this with h5 | h5
      ·exact h4 h5
      ·obtain ⟨y, hy, hyk⟩ := List.mem_map.1 h5
       obtain ⟨a', b', p1, p2, p3, p4, p5⟩ := okR_out ((List.pairwise_cons.1 hP).1 y hy)
       rw [ho] at p1
       injection p1 with p1
       subst p1
       exact p4 ed he hb hyk.symm
    rw [h0] at this
    cases this
  ·obtain ⟨h1, o, ho, hready⟩ := ready_out hi
   have hlt := (Array.getElem?_eq_some_iff.1 ho).1
   have hmem : i ∈ L.map (·.k) := by
    rcases (hl i hlt).1 h1 with h | h
    ·exact h
    ·exfalso
     subst h
     rw [ht] at ho
     injection ho with ho
     subst ho
     obtain ⟨ox, hox, _⟩ := okS_out (hA x0 hx0)
     have hp := hta x0.k (Array.getElem?_eq_some_iff.1 hox).1 (fun e => htL (e ▸ List.mem_map_of_mem hx0))
     rcases hp with ⟨ed, he, hb, hon⟩ | hp
     rotate_left
     ·rw [pathO_false hc (hunl x0 hx0).2 6 i ot ht hready] at hp; cases hp
     have h5 := hready ed he hb
     rw [hon, (hunl x0 hx0).2] at h5
     cases h5
   obtain ⟨k, hk, rfl⟩ := List.mem_map.1 hmem
   obtain ⟨L1, L2, rfl⟩ := List.append_of_mem hk
   have hP1 := List.pairwise_append.1 hP
   have hD1 := List.pairwise_append.1 hD
   have hD2 := List.pairwise_cons.1 hD1.2.1
   have hP2 := List.pairwise_cons.1 hP1.2.1
   have hne1 : ∀ x ∈ L1, Dj x k := fun x hx => hD1.2.2 x hx k (by simp)
   have hne2 : ∀ x ∈ L2, Dj k x := fun x hx => hD2.1 x hx
   obtain ⟨o', e1, m1, p1, ⟨p2, _⟩, p3⟩ := runL_front hv hr (fun x hx => by
     obtain ⟨a', b', q1, q2, q3, _⟩ := okR_out (hP1.2.2 x hx k (by simp))
     refine ⟨a', b', q1, q2, ?_⟩
     rcases q3 with q3 | q3
     ·exact q3
     ·rw [pathO_false hc (hunl x (by simp [hx])).2 8 k.k o ho hready] at q3; cases q3)
    (fun x hx => ⟨hne1 x hx, hs.fresh _ (.inl ⟨x, by simp [hx], .inl rfl⟩)⟩) (hs.fresh _ (.inl ⟨k, by simp, .inl rfl⟩)) hD1.1
   rw [ho] at p1
   injection p1 with p1
   subst p1
   have hv1 : ∃ M, VM.get M = m1 := by obtain ⟨M, rfl⟩ := hv; exact step_vm p2
   unfold wpOp
   rw [ho]
   refine stepF_out (F' := fun c => (∃ x ∈ L1 ++ L2, x.own c) ∨ Z c) hS hs (.inl ⟨k, by simp, .inl rfl⟩) (fun h => .inl ⟨k, by simp, .inr ⟨rfl, h⟩⟩) (fun c hc' => ?_) p2 fun a' w' hs' => ?_
   ·rcases hc' with ⟨x, hx, ho'⟩ | hc'
    ·rcases List.mem_append.1 hx with hx | hx
     ·exact ⟨.inl ⟨x, by simp [hx], ho'⟩, hne1 x hx c ho'⟩
     ·exact ⟨.inl ⟨x, by simp [hx], ho'⟩, fun h => hne2 x hx c h ho'⟩
    ·exact ⟨.inr hc', fun hh => hZ k hk c hh hc'⟩
   ·have hnk : ∀ j, j ∈ (L1 ++ L2).map (·.k) → k.k ≠ j := by
     intro j hj
     obtain ⟨y, hy, rfl⟩ := List.mem_map.1 hj
     rcases List.mem_append.1 hy with hy | hy
     ·obtain ⟨_, _, _, _, _, _, q⟩ := okR_out (hP1.2.2 y hy k (by simp)); exact fun h => q h.symm
     ·obtain ⟨_, _, _, _, _, _, q⟩ := okR_out (hP2.1 y hy); exact q
    refine ih (L1 ++ L2) hv1 p3 ?_ (fun x hx => hA x ?_) ?_ (fun x hx => hZ x ?_) hs' (fun j hj => ?_) (fun h => htL ?_) (by simpa using hsz) ?_ (fun x hx => hTl x ?_) ?_
    ·exact List.pairwise_append.2 ⟨hP1.1, hP2.2, fun x hx y hy => hP1.2.2 x hx y (by simp only [List.mem_cons]; exact .inr hy)⟩
    ·rcases List.mem_append.1 hx with hx | hx <;> simp [hx]
    ·exact List.pairwise_append.2 ⟨hD1.1, hD2.2, fun x hx y hy => hD1.2.2 x hx y (by simp only [List.mem_cons]; exact .inr hy)⟩
    ·rcases List.mem_append.1 hx with hx | hx <;> simp [hx]
    ·rw [getD_set (by omega)]
     by_cases hkj : k.k = j
     ·rw [if_pos hkj]
      refine ⟨fun h => (by cases h), fun h => ?_⟩
      rcases h with h | h
      ·exact absurd hkj (hnk j h)
      ·exfalso; apply htL; rw [← h, ← hkj]; exact List.mem_map_of_mem (by simp)
     ·rw [if_neg hkj, hl j hj]
      simp only [List.map_append, List.map_cons, List.mem_append, List.mem_cons]
      constructor
      ·rintro ((h | h | h) | h)
       ·exact .inl (.inl h)
       ·exact absurd h.symm hkj
       ·exact .inl (.inr h)
       ·exact .inr h
      ·rintro ((h | h) | h)
       ·exact .inl (.inl h)
       ·exact .inl (.inr (.inr h))
       ·exact .inr h
    ·simp only [List.map_append, List.map_cons, List.mem_append, List.mem_cons] at h ⊢
     rcases h with h | h
     ·exact .inl h
     ·exact .inr (.inr h)
    ·intro j oj hj hjl ed he hb
     rw [getD_set (by omega)] at hjl ⊢
     split
     ·rfl
     ·split at hjl
      ·rename_i hkj
       subst hkj
       rw [ho] at hj
       injection hj with hj
       subst hj
       exact hready ed he hb
      ·exact hc j oj hj hjl ed he hb
    ·rcases List.mem_append.1 hx with hx | hx <;> simp [hx]
    ·simp only [List.length_append, List.length_cons] at hlen ⊢
     omega
end
end
section
mutual
def ptrsV : MV → List Nat
 | .ptr c .. => [c]
 | .mp c => [c]
 | .st l => bif MV.idFrees l then [] else ptrsVs l
 | .fn _ l => bif MV.idFrees l then [] else ptrsVs l
 | .ifc _ v => bif v.idFree then [] else ptrsV v
 | _ => []
def ptrsVs : List MV → List Nat
 | [] => []
 | m :: l => ptrsV m ++ ptrsVs l
end
def reach (M : VM) : Nat → List Nat → List Nat → List Nat
 | 0, _, s => s
 | _, [], s => s
 | k + 1, c :: t, s => bif s.any (Nat.beq c) then reach M k t s else match VM.get M c with
  | some b => reach M k ((bif b.row || isMpv b.l then [] else numsVs b.l) ++ t) (c :: s)
  | none => reach M k t s
def newOf (n : Nat) : List MV → Option Nat
 | [] => none
 | .ms c .. :: l => bif Nat.ble n c then some c else newOf n l
 | .ptr c .. :: l => bif Nat.ble n c then some c else newOf n l
 | .mp c :: l => bif Nat.ble n c then some c else newOf n l
 | _ :: l => newOf n l
def pairS (l : List Nat) : Bs := l.map fun c => (c, c)
def newS (n : Nat) : Option Nat → Bs
 | some c => [(n, c)]
 | none => []
def kapR (n : Nat) (k : Option Nat) (c : Nat) : Option Nat := bif Nat.blt c n then some c else match k with
 | some x => bif Nat.beq c x then some n else none
 | none => none
def gotS (n : Nat) (M : VM) : Option Nat → Bs
 | some c => match VM.get M c with
  | some _ => [(n, c)]
  | none => []
 | none => []
def isVC (o : Oper) : Bool := match o.op with
 | .call c => match c.callee with
  | .value _ => true
  | _ => false
 | _ => false
def okPr (ops : Array Oper) (i j : Nat) : Bool := match ops[i]?, ops[j]? with
 | some a, some b => ((a.apart ops b && ((!isVC a && !isVC b && okC (kls a) (kls b)) || (!isVC b && Nat.beq (kls b) 0 || !isVC a && Nat.beq (kls a) 0))) || pathO ops 8 j i) && a.after.toList.all (fun e => !Region.binds .any e || !Nat.beq e.on j) && !Nat.beq i j
 | _, _ => false
def badFrom (ops : Array Oper) (i : Nat) : List Nat → List (Nat × Nat)
 | [] => []
 | j :: l => bif okPr ops i j then badFrom ops i l else (i, j) :: badFrom ops i l
def badPrs (ops : Array Oper) : List Nat → List (Nat × Nat)
 | [] => []
 | i :: l => badFrom ops i l ++ badPrs ops l
def sameNs : List Nat → List Nat → Bool
 | [], [] => true
 | a :: l, b :: r => Nat.beq a b && sameNs l r
 | _, _ => false
def dynOK (ops : Array Oper) (D : List Dop) (ps : List (Nat × Nat)) : Bool := ps.all fun p => match D[p.1]?, D[p.2]? with
 | some x, some y => okR ops x y
 | _, _ => false
def okDr (ops : Array Oper) (D : List Dop) (n m : Nat) : Bool := (List.range m).all (okS ops) && sameNs (D.map (·.k)) (List.range m) && D.all (fun x => !x.rf || match ops[x.k]? with | some o => isVC o | none => false) && dynOK ops D (badPrs ops (List.range m)) && okTwo D n
theorem sameNs_ok : ∀ {l r : List Nat}, sameNs l r = true → l = r
 | [], [], _ => rfl
 | a :: l, b :: r, h => by
  unfold sameNs at h
  rw [Bool.and_eq_true] at h
  rw [Nat.eq_of_beq_eq_true h.1, sameNs_ok h.2]
 | [], _ :: _, h => by cases h
 | _ :: _, [], h => by cases h
theorem badFrom_ok {ops : Array Oper} {i : Nat} : ∀ {l : List Nat} {j : Nat}, j ∈ l → okPr ops i j = true ∨ (i, j) ∈ badFrom ops i l
 | k :: l, j, h => by
  unfold badFrom
  cases hk : okPr ops i k with
  | true =>
   rcases List.mem_cons.1 h with rfl | h
   ·exact .inl hk
   ·exact badFrom_ok h
  | false =>
   rcases List.mem_cons.1 h with rfl | h
   ·exact .inr (List.mem_cons_self ..)
   ·exact (badFrom_ok h).imp id (List.mem_cons_of_mem _)
theorem badPrs_ok {ops : Array Oper} : ∀ (l : List Nat), l.Pairwise fun i j => okPr ops i j = true ∨ (i, j) ∈ badPrs ops l
 | [] => .nil
 | i :: l => by
  refine List.pairwise_cons.2 ⟨fun j hj => (badFrom_ok hj).imp id (List.mem_append_left _), (badPrs_ok l).imp fun h => h.imp id (List.mem_append_right _)⟩
theorem okPr_R {ops : Array Oper} {x y : Dop} (h : okPr ops x.k y.k = true) (hx : x.rf = true → ∃ o, ops[x.k]? = some o ∧ isVC o = true) (hy : y.rf = true → ∃ o, ops[y.k]? = some o ∧ isVC o = true) : okR ops x y = true := by
 unfold okPr at h
 unfold okR
 split at h
 ·rename_i a b ha hb
  simp only [ha, hb]
  have rx : isVC a = false → x.rf = false := fun hc => by
   cases hr : x.rf with
   | false => rfl
   | true => obtain ⟨o, h1, h2⟩ := hx hr; rw [ha] at h1; injection h1 with h1; subst h1; rw [hc] at h2; cases h2
  have ry : isVC b = false → y.rf = false := fun hc => by
   cases hr : y.rf with
   | false => rfl
   | true => obtain ⟨o, h1, h2⟩ := hy hr; rw [hb] at h1; injection h1 with h1; subst h1; rw [hc] at h2; cases h2
  simp only [Bool.and_eq_true, Bool.or_eq_true, Bool.not_eq_true'] at h ⊢
  refine ⟨⟨?_, h.1.2⟩, h.2⟩
  rcases h.1.1 with ⟨h1, h2⟩ | h1
  ·refine .inl ⟨h1, ?_⟩
   unfold okC2
   simp only [Bool.and_eq_true, Bool.or_eq_true, Bool.not_eq_true']
   rcases h2 with ⟨⟨h3, h4⟩, h5⟩ | ⟨h3, h4⟩ | ⟨h3, h4⟩
   ·exact .inl ⟨⟨rx h3, ry h4⟩, h5⟩
   ·exact .inr (.inr (.inl ⟨ry h3, h4⟩))
   ·exact .inr (.inr (.inr ⟨rx h3, h4⟩))
  ·exact .inr h1
 ·cases h
theorem okDr_out {ops : Array Oper} {D : List Dop} {n m : Nat} (h : okDr ops D n m = true) : D.Pairwise (fun x y => okR ops x y = true) ∧ (∀ x ∈ D, okS ops x.k = true) ∧ okTwo D n = true ∧ D.map (·.k) = List.range m := by
 unfold okDr at h
 simp only [Bool.and_eq_true] at h
 obtain ⟨⟨⟨⟨h1, h2⟩, h3⟩, h4⟩, h5⟩ := h
 have h2 := sameNs_ok h2
 have hlen : D.length = m := by have := congrArg List.length h2; simpa using this
 have hk : ∀ (i : Nat) (hi : i < D.length), D[i].k = i := fun i hi => by
  have := congrArg (fun l => l[i]?) h2
  simp only [List.getElem?_map, List.getElem?_eq_getElem hi, Option.map_some] at this
  rw [List.getElem?_eq_getElem (by simpa using (hlen ▸ hi))] at this
  simpa using this
 have hrf : ∀ x ∈ D, x.rf = true → ∃ o, ops[x.k]? = some o ∧ isVC o = true := fun x hx hr => by
  have := List.all_eq_true.1 h3 x hx
  rw [hr] at this
  simp only [Bool.not_true, Bool.false_or] at this
  split at this
  ·rename_i o ho; exact ⟨o, ho, this⟩
  ·cases this
 refine ⟨?_, fun x hx => ?_, h5, h2⟩
 ·rw [List.pairwise_iff_getElem]
  intro i j hi hj hij
  have hb := (List.pairwise_iff_getElem.1 (badPrs_ok (ops := ops) (List.range m))) i j (by simpa using (hlen ▸ hi)) (by simpa using (hlen ▸ hj)) hij
  simp only [List.getElem_range] at hb
  rcases hb with hb | hb
  ·refine okPr_R (by rw [hk i hi, hk j hj]; exact hb) (hrf _ (List.getElem_mem _)) (hrf _ (List.getElem_mem _))
  ·have := List.all_eq_true.1 h4 _ hb
   simp only [List.getElem?_eq_getElem hi, List.getElem?_eq_getElem hj] at this
   exact this
 ·obtain ⟨i, hi, rfl⟩ := List.getElem_of_mem hx
  rw [hk i hi]
  exact List.all_eq_true.1 h1 i (by simpa using (hlen ▸ hi))
def tailOK (ops : Array Oper) (t : Nat) : Bool := match ops[t]? with
 | some o => (List.range ops.size).all (fun k => Nat.beq k t || (o.after.toList.any (fun e => Region.binds .any e && Nat.beq e.on k) || pathO ops 6 t k)) && okS ops t && (List.range ops.size).all (fun k => match ops[k]? with | some o' => Nat.beq k t || o'.after.toList.all (fun e => !Region.binds .any e || !Nat.beq e.on t) | none => false)
 | none => false
def putM (n : Nat) (R : List Nat) (M2 M : VM) (bs : Bs) : VM := match R, M2, bs with
 | [], [], [] => M
 | R, M2, bs => renM (rhoZ n n (pairS R)) M2 ++ delM (VM.bump M bs) (pairS R)
theorem putM_eq {n : Nat} {R : List Nat} {M2 M : VM} {bs : Bs} : putM n R M2 M bs = renM (rhoZ n n (pairS R)) M2 ++ delM (VM.bump M bs) (pairS R) := by
 unfold putM
 split <;> rfl
def cutM (n : Nat) : List MV → VM → VM
 | [], M => M
 | .ms c _ 0 k :: l, M => match VM.get M c with
  | some b => bif Nat.ble n c && b.row && Nat.ble b.pe k && Nat.blt k b.l.length then cutM n l (VM.upd M c (b.l.take k)) else cutM n l M
  | none => cutM n l M
 | _ :: l, M => cutM n l M
theorem cutM_ok {Pg : Program} {G : GS} {f : FuncId} {args : List MV} {M0 : VM} {n0 n1 : Nat} {res : MV} {n : Nat} : ∀ (l : List MV) {M1 : VM}, SemR Pg G f args M0 n0 res M1 n1 → SemR Pg G f args M0 n0 res (cutM n l M1) n1
 | [], _, h => h
 | m :: l, M1, h => by
  unfold cutM
  split
  ·exact h
  ·rename_i M' c es k l' e
   injection e with e1 e2
   subst e1; subst e2
   split
   ·rename_i b hb
    cases hc : (Nat.ble n c && b.row && Nat.ble b.pe k && Nat.blt k b.l.length) with
    | false => exact cutM_ok l h
    | true =>
     simp only [Bool.and_eq_true, Nat.ble_eq] at hc
     obtain ⟨⟨⟨_, q1⟩, q2⟩, q3⟩ := hc
     refine cutM_ok l ?_
     intro w P adr vals a1 a2 a3 a4 a5
     refine Calls.mono (h w P adr vals a1 a2 a3 a4 a5) ?_
     rintro e w' ⟨v, h1, P', adr', hI, h2⟩
     exact ⟨v, h1, P', adr', (inv_cut hb q1 q2 (by simpa [Nat.blt_eq] using q3)).2 hI, h2⟩
   ·exact cutM_ok l h
  ·rename_i e
   injection e with e1 e2
   subst e1; subst e2
   exact cutM_ok _ h
mutual
def eqV : MV → MV → Bool
 | .int k a, .int j b => decide (k = j) && decide (a = b)
 | .bool a, .bool b => bEq a b
 | .str s, .str t => decide (s = t)
 | .nilp, .nilp => true
 | .ptr c e k f p, .ptr c' e' k' f' p' => Nat.beq c c' && Nat.beq e e' && Nat.beq k k' && Nat.beq f f' && sameNs p p'
 | .gp g o, .gp g' o' => Nat.beq g g' && Nat.beq o o'
 | .ep v f p, .ep v' f' p' => eqV v v' && Nat.beq f f' && sameNs p p'
 | .sl n l, .sl m r => Nat.beq n m && eqVs l r
 | .nils, .nils => true
 | .ms c e o n, .ms c' e' o' n' => Nat.beq c c' && Nat.beq e e' && Nat.beq o o' && Nat.beq n n'
 | .fn f l, .fn g r => Nat.beq f g && eqVs l r
 | .nilf, .nilf => true
 | .nili, .nili => true
 | .ifc t v, .ifc u x => Nat.beq t u && eqV v x
 | .st l, .st r => eqVs l r
 | .arr n e l, .arr m f r => Nat.beq n m && Nat.beq e f && eqVs l r
 | .tup l, .tup r => eqVs l r
 | .mp c, .mp d => Nat.beq c d
 | .mpv k l, .mpv j r => eqVs k j && eqVs l r
 | .undef, .undef => true
 | _, _ => false
def eqVs : List MV → List MV → Bool
 | [], [] => true
 | a :: l, b :: r => eqV a b && eqVs l r
 | _, _ => false
end
mutual
theorem eqV_ok : ∀ {x y : MV}, eqV x y = true → x = y
 | .int .., y, h => by cases y <;> first | (cases h; done) | (unfold eqV at h; simp at h; simp [h])
 | .bool .., y, h => by cases y <;> first | (cases h; done) | (unfold eqV at h; rw [bEq_out h])
 | .str .., y, h => by cases y <;> first | (cases h; done) | (unfold eqV at h; simp at h; simp [h])
 | .nilp, y, h => by cases y <;> first | rfl | cases h
 | .ptr .., y, h => by cases y <;> first | (cases h; done) | (unfold eqV at h; simp only [Bool.and_eq_true, Nat.beq_eq] at h; obtain ⟨⟨⟨⟨rfl, rfl⟩, rfl⟩, rfl⟩, h⟩ := h; rw [sameNs_ok h])
 | .gp .., y, h => by cases y <;> first | (cases h; done) | (unfold eqV at h; simp only [Bool.and_eq_true, Nat.beq_eq] at h; obtain ⟨rfl, rfl⟩ := h; rfl)
 | .ep .., y, h => by cases y <;> first | (cases h; done) | (unfold eqV at h; simp only [Bool.and_eq_true, Nat.beq_eq] at h; obtain ⟨⟨h1, rfl⟩, h⟩ := h; rw [eqV_ok h1, sameNs_ok h])
 | .sl .., y, h => by cases y <;> first | (cases h; done) | (unfold eqV at h; simp only [Bool.and_eq_true, Nat.beq_eq] at h; obtain ⟨rfl, h⟩ := h; rw [eqVs_ok h])
 | .nils, y, h => by cases y <;> first | rfl | cases h
 | .ms .., y, h => by cases y <;> first | (cases h; done) | (unfold eqV at h; simp only [Bool.and_eq_true, Nat.beq_eq] at h; obtain ⟨⟨⟨rfl, rfl⟩, rfl⟩, rfl⟩ := h; rfl)
 | .fn .., y, h => by cases y <;> first | (cases h; done) | (unfold eqV at h; simp only [Bool.and_eq_true, Nat.beq_eq] at h; obtain ⟨rfl, h⟩ := h; rw [eqVs_ok h])
 | .nilf, y, h => by cases y <;> first | rfl | cases h
 | .nili, y, h => by cases y <;> first | rfl | cases h
 | .ifc .., y, h => by cases y <;> first | (cases h; done) | (unfold eqV at h; simp only [Bool.and_eq_true, Nat.beq_eq] at h; obtain ⟨rfl, h⟩ := h; rw [eqV_ok h])
 | .st _, y, h => by cases y <;> first | (cases h; done) | (unfold eqV at h; rw [eqVs_ok h])
 | .arr .., y, h => by cases y <;> first | (cases h; done) | (unfold eqV at h; simp only [Bool.and_eq_true, Nat.beq_eq] at h; obtain ⟨⟨rfl, rfl⟩, h⟩ := h; rw [eqVs_ok h])
 | .tup _, y, h => by cases y <;> first | (cases h; done) | (unfold eqV at h; rw [eqVs_ok h])
 | .mp _, y, h => by cases y <;> first | (cases h; done) | (unfold eqV at h; rw [Nat.eq_of_beq_eq_true h])
 | .mpv .., y, h => by cases y <;> first | (cases h; done) | (unfold eqV at h; rw [Bool.and_eq_true] at h; rw [eqVs_ok h.1, eqVs_ok h.2])
 | .undef, y, h => by cases y <;> first | rfl | cases h
theorem eqVs_ok : ∀ {x y : List MV}, eqVs x y = true → x = y
 | [], [], _ => rfl
 | a :: l, b :: r, h => by
  unfold eqVs at h
  rw [Bool.and_eq_true] at h
  rw [eqV_ok h.1, eqVs_ok h.2]
 | [], _ :: _, h => by cases h
 | _ :: _, [], h => by cases h
end
def eqB : Option MB → Option MB → Bool
 | some a, some b => Nat.beq a.ty b.ty && Nat.beq a.es b.es && bEq a.row b.row && Nat.beq a.pe b.pe && eqVs a.l b.l
 | none, none => true
 | _, _ => false
theorem eqB_ok : ∀ {a b : Option MB}, eqB a b = true → a = b
 | some ⟨_, _, _, _, _⟩, some ⟨_, _, _, _, _⟩, h => by
  unfold eqB at h
  simp only [Bool.and_eq_true, Nat.beq_eq] at h
  obtain ⟨⟨⟨⟨rfl, rfl⟩, h1⟩, rfl⟩, h2⟩ := h
  rw [bEq_out h1, eqVs_ok h2]
 | none, none, _ => rfl
 | some _, none, h => by cases h
 | none, some _, h => by cases h
def roOf (rf : Bool) (fp : List Nat) (M M' : VM) : List Nat := match rf with
 | true => fp.filter fun c => eqB (VM.get M' c) (VM.get M c)
 | false => []
theorem roOf_ok {rf : Bool} {fp : List Nat} {M M' : VM} {c : Nat} (h : c ∈ roOf rf fp M M') : VM.get M' c = VM.get M c := by
 unfold roOf at h
 split at h
 ·exact eqB_ok (List.mem_filter.1 h).2
 ·cases h
section
variable (Pg : Program) (T : Tab) (N : Nat) (ents : List FuncId)
def gCallZ (ra : Bool) (cf : CallF) (M : VM) (n : Nat) (f : FuncId) (vs : List MV) : Option (MV × VM × List Nat) := match reach M 1000 (bif ra then numsVs vs else ptrsVs vs ++ looseR 0 M (msVs vs) []) [] with
 | R => match mkAll 0 (pairS R) (fun c => bif R.any (Nat.beq c) then some c else none) M false (pairS R) vs with
  | some (args, M0, bs) => bif okSg 0 n (pairS R) && M0.all (fun x => Nat.blt x.1 n) && allIn M (pairS R) then (match cf f args M0 n with
   | some (res0, M10, _) => (match tight n res0 M10 (newOf n (comps res0)) with
    | some (res, M11, _) => (match cutM n (comps res) M11, newOf n (comps res) with
     | M1, k => (match mkAll n (newS n k) (kapR n k) M1 false (oldS n M1 ++ gotS n M1 k) (comps res) with
      | some (rv, M2, _) => bif okSg n (n + (newS n k).length) (newS n k) && M2.all (fun x => Nat.blt x.1 (n + (newS n k).length)) && okCo res && okNew (pairS R) n (n + (newS n k).length) M2 && Nat.ble (n + (newS n k).length) (n + 1) && subN ((pairS R).map (·.2)) (R ++ bs.map (·.1)) && subN (bs.map (·.1)) (R ++ bs.map (·.1)) then
       fD (renV (rhoZ n n (pairS R)) (tupM rv)) fun r => some (r, putM n R M2 M bs, R ++ bs.map (·.1)) else none
      | none => none))
    | none => none)
   | none => none) else none
  | none => none
def gEop (o : Oper) (E : VE) (M : VM) (n : Nat) : Option (Bool × MV × VM × List Nat) := match eG Pg T E M n o with
 | some (r, δ) => some (false, r, δ.app n M, numsO (VE.get E) o.op.operands.toList)
 | none => none
def gRunD (bv : FuncId → Nat) (cf : CallF) (o : Oper) (E : VE) (M : VM) (n : Nat) : Option (Bool × MV × VM × List Nat) := match o.op with
 | .call c => match c.callee with
  | .value f => match (vArgs E f c.args.toList).get with
   | some (f0, vs) => match ents.contains f0 with
    | true => match Nat.beq (bv f0) 1 with
     | true => match (vCall E M f c.args.toList).get with
      | some (f1, us, bs) => match ents.contains f1 with
       | true => match gByVal cf f1 us with
        | some r => some (false, r, VM.bump M bs, numsO (VE.get E) o.op.operands.toList)
        | none => none
       | false => none
      | none => none
     | false => match gCallZ (Nat.beq (bv f0) 2) cf M n f0 vs with
      | some (r, M', fp) => some (true, r, M', fp)
      | none => none
    | false => none
   | none => none
  | _ => gEop Pg T o E M n
 | _ => gEop Pg T o E M n
def gDoD (bv : FuncId → Nat) (cf : CallF) (o : Oper) (E : VE) (M : VM) (n : Nat) : Option (Bool × List Nat × VE × VM) := match gRunD Pg T ents bv cf o E M n with
 | some (rf, r, M, fp) => fW o.op r fun r => match gPut N o.dst r E with
  | some E => some (rf, fp, E, M)
  | none => none
 | none => none
def gSkipD (o : Oper) (E0 E : VE) (M : VM) : Option (Bool × List Nat × VE × VM) := match gPut N o.dst .undef E with
 | some E' => some (false, numsO (VE.get E0) o.op.operands.toList, E', M)
 | none => none
def gOpD (bv : FuncId → Nat) (cf : CallF) (ops : Array Oper) (o : Oper) (E : VE) (M : VM) (n : Nat) : Option (Bool × List Nat × VE × VM) := match o.guard with
 | none => gDoD Pg T N ents bv cf o E M n
 | some (j, want) => match (ops[j]?).bind (·.dst) with
  | none => none
  | some s => match VE.get E s with
   | some (.bool t) => match bEq t want with
    | true => gDoD Pg T N ents bv cf o ((s, .bool want) :: E) M n
    | false => gSkipD N o E ((s, .bool (!want)) :: E) M
   | some .undef => gSkipD N o E E M
   | _ => none
def gOpsD (bv : FuncId → Nat) (cf : CallF) (ops : Array Oper) : List Nat → List Dop → VE → VM → Nat → Option (VE × VM × Nat × List Dop)
 | [], A, E, M, n => some (E, M, n, A)
 | x :: L, A, E, M, n => match ops[x]? with
  | some o => match gOpD Pg T N ents bv cf ops o E M n with
   | some (rf, fp, E, M') => fN (n + 1) fun n' => gOpsD bv cf ops L (⟨x, n, rf, fp, roOf rf fp M M'⟩ :: A) E M' n'
   | none => none
  | none => none
def gDrA (bv : FuncId → Nat) (cf : CallF) (ops : Array Oper) (E : VE) (M : VM) (n : Nat) : Option (VE × VM × Nat) := match gOpsD Pg T N ents bv cf ops (List.range ops.size) [] E M n with
 | some (E, M, n, A) => bif okDr ops A.reverse n ops.size then some (E, M, n) else none
 | none => none
def gDrT (bv : FuncId → Nat) (cf : CallF) (ops : Array Oper) (t : Nat) (E : VE) (M : VM) (n : Nat) : Option (VE × VM × Nat) := match gOpsD Pg T N ents bv cf ops (List.range t) [] E M n with
 | some (E, M, n, A) => bif okDr ops A.reverse n t then (match ops[t]? with
  | some o => gOpF Pg T N ents bv cf ops o E M n
  | none => none) else none
 | none => none
def gDr (bv : FuncId → Nat) (cf : CallF) (ops : Array Oper) (E : VE) (M : VM) (n : Nat) : Option (VE × VM × Nat) := match ops.size with
 | 0 => none
 | t + 1 => bif tailOK ops t && Nat.beq (t + 1) ops.size then gDrT Pg T N ents bv cf ops t E M n else gDrA Pg T N ents bv cf ops E M n
abbrev TblF := FuncId → List MV → VM → Nat → Option (Option (MV × VM × Nat))
def gEv (tb : TblF) (bv : FuncId → Nat) (pr : FuncId → Nat → MV → VM → Nat → Bool) (lf : Nat) : Nat → CallF
 | 0 => fun _ _ _ _ => none
 | k + 1 => fun f vs M n => match tb f vs M n with
  | some r => r
  | none => gF Pg T ents bv (fun N cf => gDr Pg T N ents bv cf) pr lf (gEv tb bv pr lf k) f vs M n
end
section
variable {Pg : Program} {T : Tab} {N : Nat} {ents : List FuncId} {G : GS} {w0 w w' : World} {ex0 : Anc} {P0 P P' : Prot} {adr adr' : Adr} {E E' E2 : VE} {M M' : VM} {m : FM} {n n' : Nat} {a : Act} {r : MV} {u : Value} {o : Oper} {ops : Array Oper}
def TblOK (Pg : Program) (ents : List FuncId) (G : GS) (tb : TblF) : Prop := ∀ f vs M n r M' n', tb f vs M n = some (some (r, M', n')) → (∀ c, n ≤ c → VM.get M c = none) →
 n ≤ n' ∧ (∀ c, n' ≤ c → VM.get M' c = none) ∧ (ents.contains f = true → SemR Pg G f vs M n r M' n') ∧ (ents.contains f = false → SemP Pg G f vs M n r M' n')
theorem gCallZ_ok {ra : Bool} {cf : CallF} (hcf : CfOK Pg ents G cf) {f : FuncId} {vs : List MV} {fp : List Nat} {K : MV → VM → Prop} (h : gCallZ ra cf M n f vs = some (r, M', fp)) (hin : ents.contains f = true) (hk : K r M') : vCallZ Pg G M n f vs fp K := by
 unfold gCallZ at h
 dsimp only at h
 generalize reach M 1000 (bif ra then numsVs vs else ptrsVs vs ++ looseR 0 M (msVs vs) []) [] = R at h
 split at h
 ·rename_i args M0 bs ha
  obtain ⟨h0, h⟩ := bif_some h
  simp only [Bool.and_eq_true] at h0
  obtain ⟨⟨p1, p2⟩, p3⟩ := h0
  have hfr : ∀ c, n ≤ c → VM.get M0 c = none := fun c hc => all_lt p2 hc
  split at h
  ·rename_i res0 M10 n1 hc
   split at h
   rotate_left
   ·cases h
   rename_i res M11 n3 ht
   obtain ⟨n4, hs⟩ := tight_ok ((hcf _ _ _ _ _ _ _ hc hfr).2.2.1 hin) ht
   have hs := cutM_ok (n := n) (comps res) hs
   generalize cutM n (comps res) M11 = M1 at h hs
   generalize newOf n (comps res) = k at h
   split at h
   ·rename_i rv M2 bs2 hm
    obtain ⟨h0, h⟩ := bif_some h
    simp only [Bool.and_eq_true] at h0
    obtain ⟨⟨⟨⟨⟨⟨q1, q2⟩, q3⟩, q4⟩, q5⟩, q6⟩, q7⟩ := h0
    rw [fD_eq, putM_eq] at h
    injection h with h; injection h with e1 h; injection h with e2 e3
    subst e1; subst e2; subst e3
    have hsem := semR_match hs (mkAll_ok hm q1 q2) q3
    exact ⟨args, M0, n, _, M2, _, hsem, pairS R, bs, mkAll_ok ha p1 p2, p3, q4, by unfold okTw; rw [q5]; rfl, q6, q7, hk⟩
   ·cases h
  ·cases h
 ·cases h
theorem gEop_ok {rf : Bool} {M' : VM} {fp : List Nat} {K : MV → VM → List Nat → Prop} (h : gEop Pg T o E M n = some (rf, r, M', fp)) (hk : K r M' fp) : rf = false ∧ (eOp Pg T (VE.get E) (VM.get M) n o).runP fun x => K x.1 (x.2.app n M) (numsO (VE.get E) o.op.operands.toList) := by
 unfold gEop at h
 split at h
 ·rename_i x δ hx
  injection h with h; injection h with e1 h; injection h with e2 h; injection h with e3 e4
  subst e1; subst e2; subst e3; subst e4
  exact ⟨rfl, eG_ok hx hk⟩
 ·cases h
theorem gRunD_ok {bv : FuncId → Nat} {cf : CallF} (hcf : CfOK Pg ents G cf) {rf : Bool} {M' : VM} {fp : List Nat} {K : MV → VM → List Nat → Prop} (h : gRunD Pg T ents bv cf o E M n = some (rf, r, M', fp)) (hk : K r M' fp) : vRunD Pg T ents G rf o E M n K := by
 obtain ⟨dst, op, ty, pos, after, guard⟩ := o
 have plain : gEop Pg T ⟨dst, op, ty, pos, after, guard⟩ E M n = some (rf, r, M', fp) → rf = false ∧ (eOp Pg T (VE.get E) (VM.get M) n ⟨dst, op, ty, pos, after, guard⟩).runP fun x => K x.1 (x.2.app n M) (numsO (VE.get E) (⟨dst, op, ty, pos, after, guard⟩ : Oper).op.operands.toList) := fun h => gEop_ok h hk
 cases op with
 | call c =>
  obtain ⟨callee, args, ats⟩ := c
  cases callee with
  | value f =>
   clear plain
   replace h : (match (vArgs E f args.toList).get with
    | some (f0, vs) => match ents.contains f0 with
     | true => match Nat.beq (bv f0) 1 with
      | true => match (vCall E M f args.toList).get with
       | some (f1, us, bs) => match ents.contains f1 with
        | true => match gByVal cf f1 us with
         | some r => some (false, r, VM.bump M bs, numsO (VE.get E) (⟨dst, .call ⟨.value f, args, ats⟩, ty, pos, after, guard⟩ : Oper).op.operands.toList)
         | none => none
        | false => none
       | none => none
      | false => match gCallZ (Nat.beq (bv f0) 2) cf M n f0 vs with
       | some (r, M', fp) => some (true, r, M', fp)
       | none => none
     | false => none
    | none => none) = some (rf, r, M', fp) := h
   split at h
   ·rename_i f0 vs hg
    split at h
    ·rename_i hin
     split at h
     ·split at h
      ·rename_i f1 us bs hg1
       split at h
       ·rename_i hin1
        split at h
        ·rename_i r0 hr0
         injection h with h; injection h with e1 h; injection h with e2 h; injection h with e3 e4
         subst e1; subst e2; subst e3; subst e4
         show (vCall E M f args.toList).runP fun x => match ents.contains x.1 with | true => ∃ res, SemC Pg G x.1 x.2.1 res ∧ K res (VM.bump M x.2.2) _ | false => False
         refine Ask.ok _ _ _ hg1 ?_
         show match ents.contains f1 with | true => ∃ res, SemC Pg G f1 us res ∧ K res (VM.bump M bs) _ | false => False
         rw [hin1]
         exact ⟨_, gByVal_ok hcf hr0 hin1, hk⟩
        ·cases h
       ·cases h
      ·cases h
     ·split at h
      ·rename_i r0 M0 fp0 hz
       injection h with h; injection h with e1 h; injection h with e2 h; injection h with e3 e4
       subst e1; subst e2; subst e3; subst e4
       show (vArgs E f args.toList).runP fun x => match ents.contains x.1 with | true => ∃ fp, vCallZ Pg G M n x.1 x.2 fp fun r M' => K r M' fp | false => False
       refine Ask.ok _ _ _ hg ?_
       show match ents.contains f0 with | true => ∃ fp, vCallZ Pg G M n f0 vs fp fun r M' => K r M' fp | false => False
       rw [hin]
       exact ⟨_, gCallZ_ok hcf hz hin hk⟩
      ·cases h
    ·cases h
   ·cases h
  | builtin b => obtain ⟨e, h2⟩ := plain h; subst e; exact h2
  | invoke x name => obtain ⟨e, h2⟩ := plain h; subst e; exact h2
 | _ => obtain ⟨e, h2⟩ := plain h; subst e; exact h2
theorem gDoD_ok {bv : FuncId → Nat} {cf : CallF} (hcf : CfOK Pg ents G cf) {rf : Bool} {fp : List Nat} {K : List Nat → VE → VM → Prop} (h : gDoD Pg T N ents bv cf o E M n = some (rf, fp, E', M')) (hk : K fp E' M') : vRunD Pg T ents G rf o E M n fun r M fp => vPut N o.dst r E fun E => K fp E M := by
 unfold gDoD at h
 split at h
 ·rename_i rf1 r M1 fp1 hr
  rw [fW_eq] at h
  split at h
  ·rename_i E1 hp
   injection h with h; injection h with e1 h; injection h with e2 h; injection h with e3 e4
   subst e1; subst e2; subst e3; subst e4
   exact gRunD_ok hcf hr (gPut_ok hp hk)
  ·cases h
 ·cases h
theorem gSkipD_ok {E0 : VE} {rf : Bool} {fp : List Nat} {K : List Nat → VE → VM → Prop} (h : gSkipD N o E0 E M = some (rf, fp, E', M')) (hk : K fp E' M') : rf = false ∧ vPut N o.dst .undef E fun E' => K (numsO (VE.get E0) o.op.operands.toList) E' M := by
 unfold gSkipD at h
 split at h
 ·rename_i E1 hp
  injection h with h; injection h with e1 h; injection h with e2 h; injection h with e3 e4
  subst e1; subst e2; subst e3; subst e4
  exact ⟨rfl, gPut_ok hp hk⟩
 ·cases h
theorem gOpD_ok {bv : FuncId → Nat} {cf : CallF} (hcf : CfOK Pg ents G cf) {rf : Bool} {fp : List Nat} {K : List Nat → VE → VM → Prop} (h : gOpD Pg T N ents bv cf ops o E M n = some (rf, fp, E', M')) (hk : K fp E' M') : vOpD Pg T N ents G ops rf o K E M n := by
 unfold gOpD at h
 unfold vOpD
 split at h
 ·rename_i hg
  simp only [hg]
  exact gDoD_ok hcf h hk
 ·rename_i j want hg
  split at h
  ·cases h
  ·rename_i s hj
   simp only [hg, hj]
   split at h
   ·rename_i t ht
    simp only [ht]
    split at h
    ·rename_i hb
     have hw := bEq_out hb
     refine ⟨fun _ => gDoD_ok hcf h hk, fun e => ?_⟩
     rw [hw] at e
     cases want <;> cases e
    ·rename_i hb
     have hw := bEq_not hb
     obtain ⟨e, h2⟩ := gSkipD_ok h hk
     subst e
     exact ⟨fun e => absurd e hw, fun _ => h2⟩
   ·rename_i ht
    simp only [ht]
    obtain ⟨e, h2⟩ := gSkipD_ok h hk
    subst e
    exact h2
   ·cases h
theorem gOpsD_run {bv : FuncId → Nat} {cf : CallF} (hcf : CfOK Pg ents G cf) : ∀ (L : List Nat) {A : List Dop} {E : VE} {M : VM} {n : Nat} {E' : VE} {M' : VM} {n' : Nat} {A' : List Dop}, gOpsD Pg T N ents bv cf ops L A E M n = some (E', M', n', A') →
  ∃ D, A'.reverse = A.reverse ++ D ∧ n' = n + L.length ∧ NumB n n' D ∧ runL Pg T N ents G ops D (VE.get E) (VM.get M) (VE.get E') (VM.get M')
 | [], A, E, M, n, E', M', n', A', h => by
  injection h with h
  injection h with h1 h
  injection h with h2 h
  injection h with h3 h4
  subst h1; subst h2; subst h3; subst h4
  exact ⟨[], by simp, by simp, ⟨List.nodup_nil, fun _ h => nomatch h⟩, rfl, rfl⟩
 | x :: L, A, E, M, n, E', M', n', A', h => by
  unfold gOpsD at h
  split at h
  ·rename_i o ho
   split at h
   ·rename_i rf fp E1 M1 h1
    rw [fN_eq] at h
    obtain ⟨D, d1, d2, d3, d4⟩ := gOpsD_run hcf L h
    obtain ⟨fp', E2, M2, ⟨rfl, rfl, rfl⟩, hst⟩ := vOpD_toF (gOpD_ok (G := G) hcf h1 (K := fun fp' E' M' => fp' = fp ∧ E' = E1 ∧ M' = M1) ⟨rfl, rfl, rfl⟩)
    refine ⟨⟨x, n, rf, fp', roOf rf fp' M M2⟩ :: D, by rw [d1]; simp, by rw [d2, List.length_cons]; omega, ⟨List.nodup_cons.2 ⟨fun hm => ?_, d3.1⟩, fun y hy => ?_⟩, o, _, _, ho, ⟨hst, fun _ c hc => roOf_ok hc⟩, d4⟩
    ·obtain ⟨y, hy, he⟩ := List.mem_map.1 hm
     have := (d3.2 y hy).1
     simp only at he
     omega
    ·rcases List.mem_cons.1 hy with rfl | hy
     ·exact ⟨Nat.le_refl _, by simp only; omega⟩
     ·have := d3.2 y hy; omega
   ·cases h
  ·cases h
theorem gDrA_ok {bv : FuncId → Nat} {cf : CallF} (hcf : CfOK Pg ents G cf) : DrOK Pg T N ents G (gDrA Pg T N ents bv cf) := by
 intro w0 ex0 P0 id ops E M n E' M' n' a w hS h hs
 unfold gDrA at h
 split at h
 ·rename_i E1 M1 n1 A h1
  obtain ⟨hd, h⟩ := bif_some h
  injection h with h
  injection h with e1 h
  injection h with e2 e3
  subst e1; subst e2; subst e3
  obtain ⟨D, d1, d2, ⟨hnd, hnb⟩, hr⟩ := gOpsD_run (G := G) hcf _ h1
  rw [List.reverse_nil, List.nil_append] at d1
  rw [d1] at hd
  obtain ⟨hP, hA, htwo, hkr⟩ := okDr_out hd
  have hDl : D.length = ops.size := by have := congrArg List.length hkr; simpa using this
  refine wp_region_any hS.seat.mixed ?_
  refine any_ok (Z := fun c => n1 ≤ c) hS (fun a w hs' => ⟨rfl, hs'.toSim fun c hc => hc⟩) ops.size D ⟨M, rfl⟩ hr hP hA (dj_of htwo hnd) (fun x hx c ho hz => ?_) ?_ (fun k hk => ?_) (by simp) (fun k o ho hl => ?_) (by omega)
  ·have h1 := (hnb x hx).2
   replace hz : n1 ≤ c := hz
   rcases ho with rfl | ⟨rfl, ho⟩
   ·omega
   ·have := (okTwo_out htwo hx ho).1
    omega
  ·refine (hs.toS.drew).mono fun c hc => ?_
   rcases hc with ⟨x, hx, ho⟩ | hc
   ·show n ≤ c
    have := (hnb x hx).1
    rcases ho with rfl | ⟨rfl, _⟩ <;> omega
   ·show n ≤ c
    replace hc : n1 ≤ c := hc
    omega
  ·have h1 : (Array.replicate ops.size false).getD k true = false := by simp [Array.getD, hk]
   have h2 : k ∈ D.map (·.k) := by rw [hkr]; simpa using hk
   exact ⟨fun _ => h2, fun _ => h1⟩
  ·exfalso
   by_cases hk : k < ops.size
   ·simp [Array.getD, hk] at hl
   ·simp [Array.getD, hk] at hl
 ·cases h
theorem gDrT_ok {bv : FuncId → Nat} {cf : CallF} (hcf : CfOK Pg ents G cf) {t : Nat} (htl : tailOK ops t = true) (hsz : t + 1 = ops.size) (hS : SeatM Pg T ents G w0 ex0) {id : Nat} (h : gDrT Pg T N ents bv cf ops t E M n = some (E', M', n')) (hs : Sim N w0 ex0 P0 (VE.get E) (VM.get M) n a w) :
  (Code.region id ops true).wp Pg (fun e a w => e = .normal ∧ Sim N w0 ex0 P0 (VE.get E') (VM.get M') n' a w) a w := by
 unfold gDrT at h
 split at h
 rotate_left
 ·cases h
 rename_i E1 M1 n1 A h1
 obtain ⟨hd, h⟩ := bif_some h
 split at h
 rotate_left
 ·cases h
 rename_i o ho
 obtain ⟨D, d1, d2, ⟨hnd, hnb⟩, hr⟩ := gOpsD_run (G := G) hcf _ h1
 rw [List.reverse_nil, List.nil_append] at d1
 rw [d1] at hd
 obtain ⟨hP, hA, htwo, hkr⟩ := okDr_out hd
 rw [List.length_range] at d2
 have hDl : D.length = t := by have := congrArg List.length hkr; simpa using this
 have hmem : ∀ k, k ∈ D.map (·.k) ↔ k < t := fun k => by rw [hkr]; simp
 unfold tailOK at htl
 rw [ho] at htl
 simp only [Bool.and_eq_true, List.all_eq_true] at htl
 obtain ⟨⟨t1, t2⟩, t3⟩ := htl
 have hta : ∀ k, k < ops.size → k ≠ t → (∃ ed ∈ o.after.toList, Region.binds .any ed = true ∧ ed.on = k) ∨ pathO ops 6 t k = true := fun k hk hne => by
  have := t1 k (by simpa using hk)
  rw [Bool.or_eq_true, Bool.or_eq_true] at this
  rcases this with h | h | h
  ·exact absurd (Nat.eq_of_beq_eq_true h) hne
  ·obtain ⟨ed, he, hb⟩ := List.any_eq_true.1 h
   rw [Bool.and_eq_true] at hb
   exact .inl ⟨ed, he, hb.1, Nat.eq_of_beq_eq_true hb.2⟩
  ·exact .inr h
 have hts : ∀ ed ∈ o.after.toList, Region.binds .any ed = true → ed.on < ops.size ∧ ed.on ≠ t := by
  obtain ⟨o2, h3, h4⟩ := okS_out t2
  rw [ho] at h3
  injection h3 with h3
  subst h3
  exact h4
 have hTl : ∀ x ∈ D, ∀ o, ops[x.k]? = some o → ∀ ed ∈ o.after.toList, Region.binds .any ed = true → ed.on ≠ t := fun x hx o2 ho2 ed he hb => by
  have hlt := (Array.getElem?_eq_some_iff.1 ho2).1
  have := t3 x.k (by simpa using hlt)
  simp only [ho2, Bool.or_eq_true, List.all_eq_true, Bool.not_eq_true'] at this
  rcases this with h | h
  ·have h5 := (hmem x.k).1 (List.mem_map_of_mem hx)
   have := Nat.eq_of_beq_eq_true h
   omega
  ·rcases h ed he with h | h
   ·rw [hb] at h; cases h
   ·intro e; rw [e, Nat.beq_refl] at h; cases h
 refine wp_region_any hS.seat.mixed ?_
 refine any_okT (P0 := P0) (Z := fun c => n1 ≤ c) (Fin := fun a w => Sim N w0 ex0 P0 (VE.get E') (VM.get M') n' a w) (t := t) (ot := o) (e' := VE.get E1) (m' := VM.get M1) hS ho hta hts (fun a w hf => ⟨rfl, hf⟩) (fun K a w hK hs' => ?_) ops.size D ⟨M, rfl⟩ hr hP hA (dj_of htwo hnd) (fun x hx c ho' hz => ?_) ?_ (fun k hk => ?_) ?_ (by simp) (fun k o ho hl => ?_) hTl ?_
 ·unfold wpOp
  rw [ho]
  exact gOpF_ok hS hcf h (hs'.toSim fun c hc => hc) hK
 ·have h1 := (hnb x hx).2
  replace hz : n1 ≤ c := hz
  rcases ho' with rfl | ⟨rfl, ho'⟩
  ·omega
  ·have := (okTwo_out htwo hx ho').1
   omega
 ·refine (hs.toS.drew).mono fun c hc => ?_
  rcases hc with ⟨x, hx, ho⟩ | hc
  ·show n ≤ c
   have := (hnb x hx).1
   rcases ho with rfl | ⟨rfl, _⟩ <;> omega
  ·show n ≤ c
   replace hc : n1 ≤ c := hc
   omega
 ·have h1 : (Array.replicate ops.size false).getD k true = false := by simp [Array.getD, hk]
  refine ⟨fun _ => ?_, fun _ => h1⟩
  rcases Nat.lt_or_ge k t with h | h
  ·exact .inl ((hmem k).2 h)
  ·exact .inr (by omega)
 ·intro h
  have := (hmem t).1 h
  omega
 ·exfalso
  by_cases hk : k < ops.size
  ·simp [Array.getD, hk] at hl
  ·simp [Array.getD, hk] at hl
 ·omega
theorem gDr_ok {bv : FuncId → Nat} {cf : CallF} (hcf : CfOK Pg ents G cf) : DrOK Pg T N ents G (gDr Pg T N ents bv cf) := by
 intro w0 ex0 P0 id ops E M n E' M' n' a w hS h hs
 unfold gDr at h
 split at h
 ·cases h
 ·rename_i t hsz
  cases ht : (tailOK ops t && Nat.beq (t + 1) ops.size) with
  | true =>
   rw [ht] at h
   rw [Bool.and_eq_true] at ht
   exact gDrT_ok hcf ht.1 (Nat.eq_of_beq_eq_true ht.2) hS h hs
  | false =>
   rw [ht] at h
   exact gDrA_ok hcf hS h hs
theorem gF_ok {bv : FuncId → Nat} {cf : CallF} {dr : Nat → CallF → Array Oper → VE → VM → Nat → Option (VE × VM × Nat)} (hS : Seat Pg T ents) (hcf : CfOK Pg ents G cf) (hdr : ∀ N, DrOK Pg T N ents G (dr N cf)) {pr : FuncId → Nat → MV → VM → Nat → Bool} {lf : Nat} : CfOK Pg ents G (gF Pg T ents bv dr pr lf cf) := by
  intro f vs M n r M' n' h hM
  unfold gF at h
  split at h
  · rename_i fn hf
    split at h
    · rename_i c hb
      cases hc : (Nat.ble vs.length fn.ntmps && Nat.ble fn.results.size 6 && ents.contains f) with
      | false => rw [hc] at h; cases h
      | true =>
        rw [hc] at h
        simp only [Bool.and_eq_true, Nat.ble_eq] at hc
        obtain ⟨⟨h1, h2⟩, h3⟩ := hc
        have go : ∀ {e : Exit} {E' : VE} {M1 : VM} {n1 : Nat}, gC Pg T fn.ntmps ents bv (dr fn.ntmps cf) cf lf c (envM 0 vs) M n = some (e, E', M1, n1) → e = .ret ∨ e = .normal →
            (match gRets T M1 E' fn.results.toList with | some vs => bif vs.all MV.isVal then some (tupM vs, M1.filter fun x => Nat.blt x.1 (Nat.max n n1) && pr f n (tupM vs) M1 x.1, Nat.max n n1) else none | none => none) = some (r, M', n') →
            n ≤ n' ∧ (∀ c, n' ≤ c → VM.get M' c = none) ∧ (ents.contains f = true → SemR Pg G f vs M n r M' n') ∧ (ents.contains f = false → SemP Pg G f vs M n r M' n') := by
          intro e E' M1 n1 hg he h
          split at h
          · rename_i rs hr
            cases hv : rs.all MV.isVal with
            | false => rw [hv] at h; cases h
            | true =>
              rw [hv] at h
              injection h with h
              injection h with e1 h
              injection h with e2 e3
              subst e1; subst e2; subst e3
              have key := semR_of_g (G := G) (N := fn.ntmps) hS hcf (hdr _) hf hb h2 h1 rfl hM (p := fun c => Nat.blt c (Nat.max n n1) && pr f n (tupM rs) M1 c) hg he hr hv
              refine ⟨Nat.le_max_left _ _, fun c hc => ?_, fun _ => key, fun e => by rw [h3] at e; cases e⟩
              rw [get_filter (p := fun c => Nat.blt c (Nat.max n n1) && pr f n (tupM rs) M1 c)]
              have hb : Nat.blt c (Nat.max n n1) = false := by
                cases hx : Nat.blt c (Nat.max n n1) with
                | false => rfl
                | true => have : c < Nat.max n n1 := by simpa [Nat.blt_eq] using hx
                          omega
              rw [hb]; rfl
          · cases h
        dsimp only [cond_true] at h
        split at h
        · rename_i E1 M1 n1 hg; exact go hg (.inl rfl) h
        · rename_i E1 M1 n1 hg; exact go hg (.inr rfl) h
        · cases h
    · cases h
  · cases h
theorem gEv_ok (hS : Seat Pg T ents) {tb : TblF} (htb : TblOK Pg ents G tb) {bv : FuncId → Nat} {pr : FuncId → Nat → MV → VM → Nat → Bool} {lf : Nat} : ∀ k : Nat, CfOK Pg ents G (gEv Pg T ents tb bv pr lf k)
 | 0 => fun f vs M n r M' n' h => nomatch h
 | k + 1 => fun f vs M n r M' n' h hM => by
  replace h : (match tb f vs M n with | some r => r | none => gF Pg T ents bv (fun N cf => gDr Pg T N ents bv cf) pr lf (gEv Pg T ents tb bv pr lf k) f vs M n) = some (r, M', n') := h
  split at h
  ·rename_i x hx
   subst h
   exact htb _ _ _ _ _ _ _ hx hM
  ·exact gF_ok hS (gEv_ok hS htb k) (fun N => gDr_ok (gEv_ok hS htb k)) _ _ _ _ _ _ _ h hM
theorem semC_ev (hS : Seat Pg T ents) {tb : TblF} (htb : TblOK Pg ents G tb) {bv : FuncId → Nat} {pr : FuncId → Nat → MV → VM → Nat → Bool} {lf k : Nat} {f : FuncId} {args : List MV} {r : MV} (hin : ents.contains f = true) (h : gByVal (gEv Pg T ents tb bv pr lf k) f args = some r) : SemC Pg G f args r := gByVal_ok (gEv_ok hS htb k) h hin
end
end
section
def b8 (l : List Nat) : List UInt8 := l.map UInt8.ofNat
def sameU : List UInt8 → List UInt8 → Bool
 | [], [] => true
 | a :: l, b :: r => Nat.beq a.toNat b.toNat && sameU l r
 | _, _ => false
theorem sameU_ok : ∀ {l r : List UInt8}, sameU l r = true → l = r
 | [], [], _ => rfl
 | a :: l, b :: r, h => by
  unfold sameU at h
  rw [Bool.and_eq_true] at h
  rw [UInt8.toNat_inj.1 (Nat.eq_of_beq_eq_true h.1), sameU_ok h.2]
 | [], _ :: _, h => by cases h
 | _ :: _, [], h => by cases h
set_option maxRecDepth 1000000 in
theorem kn0 : sameU (shaS (b8 [0, 10, 3, 97, 110, 110, 16, 50, 24, 0])) (b8 [33, 203, 188, 2, 41, 91, 229, 168, 111, 59, 133, 41, 35, 73, 218, 140, 7, 98, 208, 222, 62, 50, 212, 164, 8, 138, 103, 233, 71, 184, 214, 58]) = true := by kernel_rfl
set_option maxRecDepth 1000000 in
theorem kn1 : sameU (shaS (b8 [0, 32, 0])) (b8 [234, 244, 82, 67, 118, 84, 229, 194, 171, 66, 168, 41, 170, 45, 215, 142, 157, 79, 222, 7, 127, 0, 24, 163, 224, 145, 242, 126, 29, 150, 204, 6]) = true := by kernel_rfl
set_option maxRecDepth 1000000 in
theorem kn2 : sameU (shaS (b8 [1, 33, 203, 188, 2, 41, 91, 229, 168, 111, 59, 133, 41, 35, 73, 218, 140, 7, 98, 208, 222, 62, 50, 212, 164, 8, 138, 103, 233, 71, 184, 214, 58, 234, 244, 82, 67, 118, 84, 229, 194, 171, 66, 168, 41, 170, 45, 215, 142, 157, 79, 222, 7, 127, 0, 24, 163, 224, 145, 242, 126, 29, 150, 204, 6])) (b8 [42, 132, 41, 17, 213, 153, 133, 199, 200, 59, 122, 236, 113, 85, 34, 37, 31, 253, 13, 156, 105, 205, 69, 246, 118, 54, 94, 220, 149, 255, 207, 25]) = true := by kernel_rfl
set_option maxRecDepth 1000000 in
theorem kn3 : sameU (shaS (b8 [42, 132, 41, 17, 213, 153, 133, 199, 200, 59, 122, 236, 113, 85, 34, 37, 31, 253, 13, 156, 105, 205, 69, 246, 118, 54, 94, 220, 149, 255, 207, 25])) (b8 [58, 238, 154, 181, 96, 71, 150, 10, 231, 94, 165, 239, 86, 69, 15, 93, 242, 211, 137, 86, 139, 19, 91, 50, 244, 196, 251, 125, 12, 63, 8, 94]) = true := by kernel_rfl
set_option maxRecDepth 1000000 in
theorem kn4 : sameU (shaS (b8 [])) (b8 [227, 176, 196, 66, 152, 252, 28, 20, 154, 251, 244, 200, 153, 111, 185, 36, 39, 174, 65, 228, 100, 155, 147, 76, 164, 149, 153, 27, 120, 82, 184, 85]) = true := by kernel_rfl
set_option maxRecDepth 1000000 in
theorem kn5 : sameU (shaS (b8 [10, 3, 97, 110, 110, 24, 172, 2, 32, 9, 42, 3, 97, 32, 98, 50, 7, 10, 3, 98, 111, 98, 16, 3])) (b8 [205, 168, 140, 128, 86, 229, 122, 81, 108, 246, 176, 105, 89, 105, 131, 104, 169, 194, 82, 21, 108, 45, 147, 204, 101, 174, 141, 49, 142, 167, 88, 24]) = true := by kernel_rfl
theorem kp0 : shaS (b8 [0, 10, 3, 97, 110, 110, 16, 50, 24, 0]) = b8 [33, 203, 188, 2, 41, 91, 229, 168, 111, 59, 133, 41, 35, 73, 218, 140, 7, 98, 208, 222, 62, 50, 212, 164, 8, 138, 103, 233, 71, 184, 214, 58] := sameU_ok kn0
theorem kp1 : shaS (b8 [0, 32, 0]) = b8 [234, 244, 82, 67, 118, 84, 229, 194, 171, 66, 168, 41, 170, 45, 215, 142, 157, 79, 222, 7, 127, 0, 24, 163, 224, 145, 242, 126, 29, 150, 204, 6] := sameU_ok kn1
theorem kp2 : shaS (b8 [1, 33, 203, 188, 2, 41, 91, 229, 168, 111, 59, 133, 41, 35, 73, 218, 140, 7, 98, 208, 222, 62, 50, 212, 164, 8, 138, 103, 233, 71, 184, 214, 58, 234, 244, 82, 67, 118, 84, 229, 194, 171, 66, 168, 41, 170, 45, 215, 142, 157, 79, 222, 7, 127, 0, 24, 163, 224, 145, 242, 126, 29, 150, 204, 6]) = b8 [42, 132, 41, 17, 213, 153, 133, 199, 200, 59, 122, 236, 113, 85, 34, 37, 31, 253, 13, 156, 105, 205, 69, 246, 118, 54, 94, 220, 149, 255, 207, 25] := sameU_ok kn2
theorem kp3 : shaS (b8 [42, 132, 41, 17, 213, 153, 133, 199, 200, 59, 122, 236, 113, 85, 34, 37, 31, 253, 13, 156, 105, 205, 69, 246, 118, 54, 94, 220, 149, 255, 207, 25]) = b8 [58, 238, 154, 181, 96, 71, 150, 10, 231, 94, 165, 239, 86, 69, 15, 93, 242, 211, 137, 86, 139, 19, 91, 50, 244, 196, 251, 125, 12, 63, 8, 94] := sameU_ok kn3
theorem kp4 : shaS (b8 []) = b8 [227, 176, 196, 66, 152, 252, 28, 20, 154, 251, 244, 200, 153, 111, 185, 36, 39, 174, 65, 228, 100, 155, 147, 76, 164, 149, 153, 27, 120, 82, 184, 85] := sameU_ok kn4
theorem kp5 : shaS (b8 [10, 3, 97, 110, 110, 24, 172, 2, 32, 9, 42, 3, 97, 32, 98, 50, 7, 10, 3, 98, 111, 98, 16, 3]) = b8 [205, 168, 140, 128, 86, 229, 122, 81, 108, 246, 176, 105, 89, 105, 131, 104, 169, 194, 82, 21, 108, 45, 147, 204, 101, 174, 141, 49, 142, 167, 88, 24] := sameU_ok kn5
structure KnD where
 i : List UInt8
 d : List UInt8
 ok : shaS i = d
def knL : List KnD := [⟨_, _, kp0⟩, ⟨_, _, kp1⟩, ⟨_, _, kp2⟩, ⟨_, _, kp3⟩, ⟨_, _, kp4⟩, ⟨_, _, kp5⟩]
def findD (b : List UInt8) : List KnD → Option (List UInt8)
 | [] => none
 | x :: l => bif sameU b x.i then some x.d else findD b l
def shaK (b : List UInt8) : List UInt8 := match findD b knL with
 | some d => d
 | none => shaS b
theorem findK_ok {b d : List UInt8} : ∀ {l : List KnD}, findD b l = some d → shaS b = d
 | [], h => by cases h
 | x :: l, h => by
  unfold findD at h
  cases hs : sameU b x.i with
  | true => exact (congrArg shaS (sameU_ok hs)).trans (x.ok.trans (Option.some.inj (show some x.d = some d by rw [hs] at h; exact h)))
  | false => exact findK_ok (show findD b l = some d by rw [hs] at h; exact h)
theorem shaK_eq (b : List UInt8) : shaK b = shaS b := by
 unfold shaK
 split
 ·rename_i d hd; exact (findK_ok hd).symm
 ·rfl
end
section
inductive RD (q : MV → Bool) (m : FM) : MV → MV → Prop where
 | same {v} (h : q v = true) : RD q m v v
 | nils : RD q m (.sl 0 []) .nils
 | ms {c off n es l'} (b : MB) (hb : m c = some b) (he : b.es = es) (h0 : es ≠ 0) (hn : off + n ≤ b.l.length) (hl : l'.length = n) (h : ∀ (j : Nat) x y, l'[j]? = some x → b.l[off + j]? = some y → RD q m x y) : RD q m (.sl n l') (.ms c es off n)
 | ptr {c es k fo path x} (b : MB) (y : MV) (hb : m c = some b) (he : b.es = es) (h0 : es ≠ 0) (hx : b.l[k]? = some y) (h : RD q m x y) : RD q m (.ep x fo path) (.ptr c es k fo path)
 | st {l' l} (hl : l'.length = l.length) (h : ∀ (j : Nat) x y, l'[j]? = some x → l[j]? = some y → RD q m x y) : RD q m (.st l') (.st l)
 | fn {f l' l} (hl : l'.length = l.length) (h : ∀ (j : Nat) x y, l'[j]? = some x → l[j]? = some y → RD q m x y) : RD q m (.fn f l') (.fn f l)
inductive RDs (q : MV → Bool) (m : FM) : List MV → List MV → Prop where
 | nil : RDs q m [] []
 | cons {x y l r} (h : RD q m x y) (t : RDs q m l r) : RDs q m (x :: l) (y :: r)
inductive RDt (q : MV → Bool) (m : FM) : MV → MV → Prop where
 | one {x y} (h : RD q m x y) : RDt q m x y
 | tup {l r} (h : RDs q m l r) : RDt q m (.tup l) (.tup r)
mutual
def MV.flat : MV → Bool
 | .int .. => true
 | .bool .. => true
 | .str .. => true
 | .st l => MV.flats l
 | .arr _ _ l => MV.flats l
 | _ => false
def MV.flats : List MV → Bool
 | [] => true
 | m :: l => MV.flat m && MV.flats l
end
theorem flats_get : ∀ {l : List MV} {j : Nat} {r : MV}, MV.flats l = true → l[j]? = some r → r.flat = true
 | a :: l, 0, r, h, hj => by
  have h : (a.flat && MV.flats l) = true := h
  rw [Bool.and_eq_true] at h
  injection hj with hj; subst hj; exact h.1
 | a :: l, j + 1, r, h, hj => by
  have h : (a.flat && MV.flats l) = true := h
  rw [Bool.and_eq_true] at h
  exact flats_get h.2 (by simpa using hj)
theorem RDs.get {q : MV → Bool} {m : FM} : ∀ {l r : List MV}, RDs q m l r → l.length = r.length ∧ ∀ {j : Nat} {x : MV}, l[j]? = some x → ∃ y, r[j]? = some y ∧ RD q m x y
 | _, _, .nil => ⟨rfl, fun h => by simp at h⟩
 | _, _, .cons h t => by
  obtain ⟨h1, h2⟩ := t.get
  refine ⟨by simpa using h1, fun {j x} hj => ?_⟩
  cases j with
  | zero => injection hj with hj; subst hj; exact ⟨_, rfl, h⟩
  | succ j => exact h2 (by simpa using hj)
section
variable {w w' : World} {P P' P2 : Prot} {adr adr' : Adr} {m : FM} {x v : MV} {cs : List Value} {q : MV → Bool}
theorem flat_rep {r : MV} (hr : Rep w P adr r cs) : r.flat = true → ∀ {adr' : Adr}, Rep w' P' adr' r cs := by
 induction hr with
 | int => intro _ _; exact .int
 | bool => intro _ _; exact .bool
 | str => intro _ _; exact .str
 | st parts hp hr ih => intro hf _; exact .st parts hp fun j m p h1 h2 => ih j m p h1 h2 (flats_get hf h1)
 | arr parts hl hp hes hr ih => intro hf _; exact .arr parts hl hp hes fun j m p h1 h2 => ih j m p h1 h2 (flats_get hf h1)
 | _ => intro hf; cases hf
theorem RD.agg (h : RD q m x v) : x.isAgg = v.isAgg := by cases h <;> rfl
def pAll (w : World) : Prot := fun b _ => b < w.heap.size
theorem nil_rep : Rep w P adr (.sl 0 []) [.slice none 0 0] := .sl none 0 0 [] rfl rfl (fun p hp => nomatch hp) (fun _ => ⟨rfl, rfl⟩) (Nat.le_refl _) (fun h => absurd rfl h) (fun j m p h => by simp at h)
theorem RD.rep (hI : InvM w P adr m) (hq : ∀ {v : MV} {a : Adr} {cs : List Value}, q v = true → Rep w P a v cs → Rep w P2 noAdr v cs) (hp2 : ∀ c g, adr c = some g → g < w.heap.size → ∀ o, P2 g o) (h : RD q m x v) : ∀ {a : Adr} {cs : List Value}, (∀ c g, a c = some g → adr c = some g) → Rep w P a v cs → Rep w P2 noAdr x cs := by
 have cellA : ∀ {c g : Nat} {cur : Array Value} {t : TypeId} {fz : Nat × Nat} {i : Nat} {u : Value}, adr c = some g → w.heap[g]? = some (.cells cur t fz) → cur.toList[i]? = some u → w.cell? ⟨g, i, none⟩ = some u ∧ P2 g i := fun {c g cur t fz i u} ha hg hu => by
  refine ⟨?_, hp2 c g ha (Array.getElem?_eq_some_iff.1 hg).1 _⟩
  rw [cell_of_row w g _ cur t fz hg]
  simpa using hu
 have sub : ∀ {b : MB} {c g : Nat}, (if b.row then noAdr else adr) c = some g → adr c = some g := fun {b c g} h => by
  split at h
  ·cases h
  ·exact h
 induction h with
 | same hf => intro a cs _ hr; exact hq hf hr
 | nils =>
  intro a cs _ hr
  cases hr
  exact nil_rep
 | @ms c off n es l' b hb he h0 hn hl h ih =>
  intro a cs ha hr
  cases hr with
  | ms0 =>
   have : l' = [] := List.length_eq_zero_iff.1 hl
   subst this
   exact nil_rep
  | ms g o cap hg ho hcap hcap2 hsz =>
   have hg := ha _ _ hg
   rcases hI.blk c b hb with ⟨_, _, h3, _⟩ | ⟨g', h1, h2⟩
   ·rw [hg] at h3; cases h3
   rw [hg] at h1
   injection h1 with h1
   subst h1
   obtain ⟨cur, parts, fz, c1, _, c2, c3, c4, c5⟩ := h2.ofE (by rw [he]; exact h0)
   have hpes : ∀ p ∈ parts, p.length = es := fun p hp => by rw [c3 p hp, he]
   have hall : ∀ p ∈ (parts.drop off).take n, p.length = es := fun p hp => hpes p (List.mem_of_mem_drop (List.mem_of_mem_take hp))
   have hlen2 : ((parts.drop off).take n).length = n := by rw [List.length_take, List.length_drop]; omega
   refine .sl (some ⟨g, o, none⟩) cap es ((parts.drop off).take n) hl hlen2 hall (fun h => nomatch h) hcap (fun hn0 => ⟨g, o, rfl, fun j u hj => ?_⟩) fun j y p hy hp => ?_
   ·have ho := ho (.inl hn0)
    subst ho
    exact cellA hg c1 (prefix_get c5 (flatten_take hpes off n hj (by omega)))
   ·have hjl := (List.getElem?_eq_some_iff.1 hy).1
    rw [List.getElem?_take_of_lt (by omega), List.getElem?_drop] at hp
    obtain ⟨z, hz⟩ : ∃ z, b.l[off + j]? = some z := ⟨b.l[off + j]'(by omega), List.getElem?_eq_getElem (by omega)⟩
    exact ih j y z hy hz (fun _ _ h => sub h) (c4 _ z p hz hp)
 | @ptr c es k fo path x b y hb he h0 hx h ih =>
  intro a cs ha hr
  cases hr with
  | ptr g hg =>
   have hg := ha _ _ hg
   rcases hI.blk c b hb with ⟨_, _, h3, _⟩ | ⟨g', h1, h2⟩
   ·rw [hg] at h3; cases h3
   rw [hg] at h1
   injection h1 with h1
   subst h1
   obtain ⟨cur, parts, fz, c1, _, c2, c3, c4, c5⟩ := h2.ofE (by rw [he]; exact h0)
   have hpes : ∀ p ∈ parts, p.length = es := fun p hp => by rw [c3 p hp, he]
   have hkl := (List.getElem?_eq_some_iff.1 hx).1
   have hk2 : k < parts.length := by omega
   refine .ep g (k * es) parts[k] (fun j u hj => cellA hg c1 (prefix_get c5 (flatten_take hpes k 1 (x := u) ?_ (by omega)))) (ih (fun _ _ h => sub h) (c4 k y parts[k] hx (List.getElem?_eq_getElem hk2)))
   rw [show (parts.drop k).take 1 = [parts[k]] by rw [List.drop_eq_getElem_cons hk2]; rfl]
   simpa using hj
 | @st l' l hl h ih =>
  intro a cs ha hr
  cases hr with
  | st parts hp hr =>
   refine .st parts (by omega) fun j x p hx hp2 => ?_
   have hj := (List.getElem?_eq_some_iff.1 hp2).1
   have hz : l[j]? = some (l[j]'(by omega)) := List.getElem?_eq_getElem (by omega)
   exact ih j x _ hx hz ha (hr j _ p hz hp2)
 | @fn f l' l hl h ih =>
  intro a cs ha hr
  cases hr with
  | fn parts hp hr =>
   have e : List.zipWith valM l parts = List.zipWith valM l' parts := by
    apply List.ext_getElem?
    intro j
    rw [List.getElem?_zipWith, List.getElem?_zipWith]
    by_cases hj : j < l.length
    ·have h1 : l[j]? = some (l[j]'hj) := List.getElem?_eq_getElem hj
     have h2 : l'[j]? = some (l'[j]'(by omega)) := List.getElem?_eq_getElem (by omega)
     have h3 : parts[j]? = some (parts[j]'(by omega)) := List.getElem?_eq_getElem (by omega)
     rw [h1, h2, h3]
     show some (valM _ _) = some (valM _ _)
     unfold valM
     rw [(h j _ _ h2 h1).agg]
    ·have h1 : l[j]? = none := List.getElem?_eq_none (by omega)
     have h2 : l'[j]? = none := List.getElem?_eq_none (by omega)
     rw [h1, h2]
   rw [e]
   refine .fn parts (by omega) fun j x p hx hp2 => ?_
   have hj := (List.getElem?_eq_some_iff.1 hp2).1
   have hz : l[j]? = some (l[j]'(by omega)) := List.getElem?_eq_getElem (by omega)
   exact ih j x _ hx hz ha (hr j _ p hz hp2)
theorem RD.val (hq : ∀ v : MV, q v = true → v.isVal = true) (h : RD q m x v) : v.isVal = true := by
 cases h with
 | same h => exact hq _ h
 | _ => rfl
theorem RD.repV {u : Value} (hI : InvM w P adr m) (hv : ∀ v : MV, q v = true → v.isVal = true) (hq : ∀ {v : MV} {a : Adr} {cs : List Value}, q v = true → Rep w P a v cs → Rep w P2 noAdr v cs) (hp2 : ∀ c g, adr c = some g → g < w.heap.size → ∀ o, P2 g o) (h : RD q m x v) (hr : RepV w P adr v u) : RepV w P2 noAdr x u := by
 have hv := h.val hv
 cases hr with
 | val cs hr =>
  have e : valM v cs = valM x cs := by unfold valM; rw [h.agg]
  rw [e]
  exact .val cs (h.rep hI hq hp2 (fun _ _ h => h) hr)
 | undef => cases hv
 | tup vs hl h2 => cases hv
theorem RDs.repVs (hI : InvM w P adr m) (hv : ∀ v : MV, q v = true → v.isVal = true) (hq : ∀ {v : MV} {a : Adr} {cs : List Value}, q v = true → Rep w P a v cs → Rep w P2 noAdr v cs) (hp2 : ∀ c g, adr c = some g → g < w.heap.size → ∀ o, P2 g o) : ∀ {l r : List MV} {us : List Value}, RDs q m l r → RepVs w P adr r us → RepVs w P2 noAdr l us
 | _, _, _, .nil, .nil => .nil
 | _, _, _, .cons h t, .cons h2 t2 => .cons (h.repV hI hv hq hp2 h2) (RDs.repVs hI hv hq hp2 t t2)
theorem RDt.repV {u : Value} (hI : InvM w P adr m) (hv : ∀ v : MV, q v = true → v.isVal = true) (hq : ∀ {v : MV} {a : Adr} {cs : List Value}, q v = true → Rep w P a v cs → Rep w P2 noAdr v cs) (hp2 : ∀ c g, adr c = some g → g < w.heap.size → ∀ o, P2 g o) (h : RDt q m x v) (hr : RepV w P adr v u) : RepV w P2 noAdr x u := by
 cases h with
 | one h => exact h.repV hI hv hq hp2 hr
 | tup h =>
  obtain ⟨h1, h2⟩ := h.get
  cases hr with
  | val cs hr => cases hr
  | tup vs hl h3 =>
   refine .tup vs (by omega) fun j x u hx hu => ?_
   obtain ⟨y, hy, hd⟩ := h2 hx
   obtain ⟨cs, h4, rfl⟩ := h3 j y u hy hu
   exact ⟨cs, hd.rep hI hq hp2 (fun _ _ h => h) h4, by unfold valM; rw [hd.agg]⟩
theorem idFree_val : ∀ v : MV, v.idFree = true → v.isVal = true := fun v h => by cases v <;> first | rfl | cases h
theorem flat_val : ∀ v : MV, v.flat = true → v.isVal = true := fun v h => by cases v <;> first | rfl | cases h
end
theorem borrow {Pg : Program} {G : GS} {f : FuncId} {args' args : List MV} {res res1 : MV} {M1 : VM} {n1 : Nat} (hc : SemR Pg G f args' [] 0 res1 M1 n1) {M0 : VM} {n0 : Nat} (hd : RDs MV.idFree (VM.get M0) args' args) (hf : RDt MV.flat (VM.get M1) res res1) : SemR Pg G f args M0 n0 res M0 n0 := by
 intro w P adr vals hG hI hn hL hr
 have ha := hd.repVs (P2 := pAll w) hI idFree_val (fun {v a cs} hv hr => (hr.free hv).keep ⟨fun b o h => hI.prot b o h, fun _ _ _ => rfl, fun _ _ h => h, fun _ _ _ _ _ h => nomatch h⟩) (fun c g _ hg o => hg) hr
 refine Calls.mono (hc w (pAll w) noAdr vals hG ⟨fun c b h => (nomatch h), fun c c' b b' g h => (nomatch h), fun b o h => h⟩ (fun _ _ => rfl) (fun c g h => nomatch h) ha) ?_
 rintro e w' ⟨v, h1, P1, a1, hI1, h2, _, _, _, hnew, _, h3⟩
 have h3 : Since (fun _ => False) w w' := ⟨h3.os, h3.tape, h3.output, h3.size, fun b hb _ => h3.block b hb (fun ⟨_, h⟩ => nomatch h)⟩
 have hb := h3.below
 refine ⟨v, h1, protNew w w' P, adr, hI.below hb, ?_, Keep.below hI.prot hb, fun _ _ => rfl, hn, fun c g h => .inr ⟨c, h⟩, fun b o h => ?_, ⟨h3.os, h3.tape, h3.output, h3.size, fun b hb2 _ => h3.block b hb2 (fun e => e)⟩⟩
 ·refine (hf.repV hI1 flat_val (fun hv hr => flat_rep hr hv) (fun c g hg hlt o => .inr ⟨?_, hlt⟩) h2).ofNone
  rcases hnew c g hg with h | ⟨_, h⟩
  ·exact h
  ·cases h
 ·rcases h with h | h
  ·exact .inl h
  ·exact .inr (.inl h.1)
end
section
def olds (n : Nat) : VM → List Nat
 | [] => []
 | (c, b) :: M => bif Nat.blt c n && !(b.row || isMpv b.l) then numsVs b.l ++ olds n M else olds n M
def prD (fl : FuncId → Bool) (f : FuncId) (n : Nat) (r : MV) (M : VM) (c : Nat) : Bool := Nat.blt c n || (reach M 1000 (numsVs (comps r) ++ bif fl f then olds n M else []) []).any (Nat.beq c)
def rdB (M : VM) (v : MV) : Option (List UInt8) := match v with
 | .nils => some []
 | .sl n l => bif Nat.beq l.length n then bytesM l else none
 | .ms c es off n => match VM.get M c with
  | some b => bif b.row && Nat.beq b.es es && Nat.beq es 1 && Nat.ble (off + n) b.l.length then bytesM (cutL b.l off (off + n)) else none
  | none => none
 | _ => none
def key32 (v : MV) : Option (List UInt8) := match v with
 | .arr 32 1 l => bif Nat.beq l.length 32 then bytesM l else none
 | _ => none
def sumE (b : List UInt8) (M : VM) (n : Nat) : Option (MV × VM × Nat) := bif Nat.blt b.length 499999999 then some (keyM (shaK b), M, n) else none
def shaT : TblF := fun f vs M n =>
 bif Nat.beq f 77 then some (match vs with
  | [v] => (match rdB M v with
   | some b => sumE b M n
   | none => none)
  | _ => none)
 else bif Nat.beq f 203 then some (match vs with
  | [v] => (match rdB M v with
   | some b => bif Nat.blt b.length 499999999 then some (keyM (shaK (0 :: b)), M, n) else none
   | none => none)
  | _ => none)
 else bif Nat.beq f 205 then some (match vs with
  | [u, v] => (match key32 u, key32 v with
   | some a, some b => bif Nat.beq a.length 32 && Nat.beq b.length 32 then some (keyM (shaK (1 :: (a ++ b))), M, n) else none
   | _, _ => none)
  | _ => none)
 else bif Nat.beq f 319 then some (match vs with
  | [.int .u64 (.ofNat a), .int .u64 (.ofNat b), .int .u64 (.ofNat 0)] => some (.tup [.int .u64 ((a + b) % 18446744073709551616 : Nat), .int .u64 ((a + b) / 18446744073709551616 : Nat)], M, n)
  | _ => none)
 else none
section
variable {G : GS} {M : VM} {n : Nat}
theorem bytesM_out : ∀ {l : List MV} {b : List UInt8}, bytesM l = some b → l = u8s b
 | [], b, h => by injection h with h; subst h; rfl
 | m :: l, b, h => by
  unfold bytesM at h
  split at h
  ·rename_i e
   exact absurd e (by simp)
  ·rename_i k r e
   injection e with e1 e2
   subst e1; subst e2
   split at h
   ·rename_i hk
    split at h
    ·rename_i b' hb
     injection h with h
     subst h
     have := bytesM_out hb
     rw [this]
     show _ = MV.int .u8 _ :: _
     congr 2
     have : k.toNat < 256 := by omega
     rw [UInt8.toNat_ofNat_of_lt' (by simpa using this)]
     omega
    ·cases h
   ·cases h
  ·cases h
theorem flat_u8s : ∀ l : List UInt8, MV.flats (u8s l) = true
 | [] => rfl
 | a :: l => by
  show (true && MV.flats (u8s l)) = true
  rw [flat_u8s l]; rfl
theorem rdB_rd {v : MV} {b : List UInt8} (h : rdB M v = some b) : RD MV.idFree (VM.get M) (.sl b.length (u8s b)) v := by
 unfold rdB at h
 split at h
 ·injection h with h; subst h; exact .nils
 ·rename_i k l
  obtain ⟨h0, h⟩ := bif_some h
  have e := bytesM_out h
  have hl : l.length = b.length := by rw [e]; simp [u8s]
  rw [← e, ← hl, Nat.eq_of_beq_eq_true h0]
  exact .same rfl
 ·rename_i c es off k
  split at h
  ·rename_i b0 hb
   obtain ⟨h0, h⟩ := bif_some h
   simp only [Bool.and_eq_true, Nat.ble_eq] at h0
   obtain ⟨⟨⟨h1, h2⟩, h3⟩, h4⟩ := h0
   have e := bytesM_out h
   have hes := Nat.eq_of_beq_eq_true h3
   subst hes
   have hc : (cutL b0.l off (off + k)).length = k := by unfold cutL; rw [List.length_take, List.length_drop]; omega
   have hl : k = b.length := by rw [← hc, e]; simp [u8s]
   rw [← e, ← hl]
   refine .ms b0 hb (Nat.eq_of_beq_eq_true h2) (by decide) h4 hc fun j x y hx hy => ?_
   have hj : j < k := by rw [← hc]; exact (List.getElem?_eq_some_iff.1 hx).1
   have hx0 := hx
   unfold cutL at hx
   rw [List.getElem?_take_of_lt (by omega), List.getElem?_drop, hy] at hx
   injection hx with hx
   subst hx
   rw [e] at hx0
   refine .same ?_
   unfold u8s at hx0
   rw [List.getElem?_map] at hx0
   cases hb2 : b[j]? with
   | none => rw [hb2] at hx0; cases hx0
   | some z => rw [hb2] at hx0; injection hx0 with hx0; subst hx0; rfl
  ·cases h
 ·cases h
theorem key_t (k : List UInt8) : RDt MV.flat (VM.get []) (keyM k) (keyM k) := .one (.same (flat_u8s k))
theorem key32_out {v : MV} {b : List UInt8} (h : key32 v = some b) : v = keyM b := by
 unfold key32 at h
 split at h
 ·obtain ⟨_, h⟩ := bif_some h
  rw [bytesM_out h]; rfl
 ·cases h
theorem add64_g (a b : Nat) : SemP Tryz.prog G 319 [.int .u64 a, .int .u64 b, .int .u64 0] M n (.tup [.int .u64 ((a + b) % 18446744073709551616 : Nat), .int .u64 ((a + b) / 18446744073709551616 : Nat)]) M n := by
 intro w P adr vals hg hI hn hL hargs
 cases hargs with | cons a1 hargs => cases hargs with | cons a2 hargs => cases hargs with | cons a3 hargs =>
 cases hargs
 have e1 := a1.int_
 have e2 := a2.int_
 have e3 := a3.int_
 subst e1 e2 e3
 have hf : (callFunc 319 #[.int .u64 a, .int .u64 b, .int .u64 0]).run Tryz.prog w = _ :=
  run_callFunc_extern Tryz.func319 (by kernel_rfl) (by kernel_rfl) (by kernel_rfl) (e := add64Entry) (by kernel_rfl) _ w
 refine ⟨.tuple #[.int .u64 ((a + b) % 18446744073709551616 : Nat), .int .u64 ((a + b) / 18446744073709551616 : Nat)], w, hf.trans ?_, _, rfl, P, adr, hI, .tup [.int .u64 ((a + b) % 18446744073709551616 : Nat), .int .u64 ((a + b) / 18446744073709551616 : Nat)] rfl (fun j m u hj hu => ?_), Keep.refl _ _ _, fun _ _ => rfl, hn, fun c g hc => .inr ⟨c, hc⟩, fun b o ho => .inl ho, Since.refl _ _⟩
 ·have h := run_add64 (P := Tryz.prog) (a : Int) (b : Int) 0 (by omega) (by omega) (by omega) (by omega) w
  rw [h]
  have e1 : ((a : Int) + b + 0) % 18446744073709551616 = ((a + b) % 18446744073709551616 : Nat) := by omega
  have e2 : ((a : Int) + b + 0) / 18446744073709551616 = ((a + b) / 18446744073709551616 : Nat) := by omega
  rw [e1, e2]
  rfl
 ·match j with
  | 0 => simp at hj hu; subst hj; subst hu; exact ⟨_, .int, rfl⟩
  | 1 => simp at hj hu; subst hj; subst hu; exact ⟨_, .int, rfl⟩
  | j + 2 => simp at hj
theorem shaT_ok : TblOK Tryz.prog ents G shaT := by
 have done : ∀ {f : FuncId} {vs : List MV} {k : List UInt8} {M : VM} {n : Nat} {r : MV} {M' : VM} {n' : Nat}, ents.contains f = true → SemR Tryz.prog G f vs M n (keyM k) M n → (∀ c, n ≤ c → VM.get M c = none) → some (keyM k, M, n) = some (r, M', n') →
   n ≤ n' ∧ (∀ c, n' ≤ c → VM.get M' c = none) ∧ (ents.contains f = true → SemR Tryz.prog G f vs M n r M' n') ∧ (ents.contains f = false → SemP Tryz.prog G f vs M n r M' n') := by
  intro f vs k M n r M' n' hin hs hM h
  injection h with h; injection h with h1 h; injection h with h2 h3
  subst h1; subst h2; subst h3
  exact ⟨Nat.le_refl _, hM, fun _ => hs, fun e => by rw [hin] at e; cases e⟩
 intro f vs M n r M' n' h hM
 unfold shaT at h
 cases hf : Nat.beq f 77 with
 | true =>
  have e := Nat.eq_of_beq_eq_true hf
  subst e
  rw [hf] at h
  injection h with h
  split at h
  ·rename_i v
   split at h
   ·rename_i b hb
    obtain ⟨h0, h⟩ := bif_some h
    have h0 : b.length < 499999999 := by simpa [Nat.blt_eq] using h0
    exact done (by kernel_rfl) (borrow (semR_of_semC (by rw [shaK_eq]; exact psha_m b (by omega))) (.cons (rdB_rd hb) .nil) (key_t _)) hM h
   ·cases h
  ·cases h
 | false =>
  rw [hf] at h
  dsimp only [cond_false] at h
  cases hf2 : Nat.beq f 203 with
  | true =>
   have e := Nat.eq_of_beq_eq_true hf2
   subst e
   rw [hf2] at h
   injection h with h
   split at h
   ·rename_i v
    split at h
    ·rename_i b hb
     obtain ⟨h0, h⟩ := bif_some h
     have h0 : b.length < 499999999 := by simpa [Nat.blt_eq] using h0
     exact done (by kernel_rfl) (borrow (semR_of_semC (by rw [shaK_eq]; exact pleaf_m b (by omega))) (.cons (rdB_rd hb) .nil) (key_t _)) hM h
    ·cases h
   ·cases h
  | false =>
   rw [hf2] at h
   dsimp only [cond_false] at h
   cases hf3 : Nat.beq f 205 with
   | true =>
    have e := Nat.eq_of_beq_eq_true hf3
    subst e
    rw [hf3] at h
    injection h with h
    split at h
    ·rename_i u v
     split at h
     ·rename_i a b ha hb
      obtain ⟨h0, h⟩ := bif_some h
      rw [Bool.and_eq_true] at h0
      rw [key32_out ha, key32_out hb]
      exact done (by kernel_rfl) (borrow (semR_of_semC (by rw [shaK_eq]; exact pinner_m a b (Nat.eq_of_beq_eq_true h0.1) (Nat.eq_of_beq_eq_true h0.2))) (.cons (.same rfl) (.cons (.same rfl) .nil)) (key_t _)) hM h
     ·cases h
    ·cases h
   | false =>
    rw [hf3] at h
    dsimp only [cond_false] at h
    cases hf4 : Nat.beq f 319 with
    | true =>
     have e := Nat.eq_of_beq_eq_true hf4
     subst e
     rw [hf4] at h
     injection h with h
     split at h
     ·rename_i a b
      injection h with h; injection h with h1 h; injection h with h2 h3
      subst h1; subst h2; subst h3
      have hno : ents.contains 319 = false := by kernel_rfl
      exact ⟨Nat.le_refl _, hM, fun e => (by rw [hno] at e; cases e), fun _ => add64_g a b⟩
     ·cases h
    | false =>
     rw [hf4] at h
     cases h
end
end
section
open Go.RowKit Go.Lib
noncomputable abbrev hndM (t : Nat) : MV := .gp Tryz.prog.globals.size t
noncomputable def infS : TypeInfo := (Tryz.prog.info? 88).get (by kernel_rfl)
noncomputable def infE : TypeInfo := (Tryz.prog.info? 171).get (by kernel_rfl)
theorem info_S : Tryz.prog.info? 88 = some infS := by kernel_rfl
theorem info_E : Tryz.prog.info? 171 = some infE := by kernel_rfl
theorem desc_S : infS.desc = .slice 171 := by kernel_rfl
theorem pack_S : Tryz.prog.packed 88 = false := by kernel_rfl
theorem kind_E (w : World) : (Extern.Rtype.kind 171).run Tryz.prog w = .ok 25 w := by kernel_rfl
section
variable {G : GS} {w : World} {P : Prot} {adr : Adr} {M : VM} {n : Nat}
theorem vget_new (M : VM) (c : Nat) (b : MB) : fput (VM.get M) c b = VM.get ((c, b) :: M) := by
 funext x
 show (if x = c then some b else VM.get M x) = bif Nat.beq c x then some b else VM.get M x
 by_cases h : x = c
 ·subst h
  rw [Nat.beq_refl x]; simp
 ·have : Nat.beq c x = false := by
   rw [← Bool.not_eq_true]; intro h2; exact h (Nat.eq_of_beq_eq_true h2).symm
  simp [h, this]
theorem ifc_nils {t : Nat} {u : Value} (h : RepV w P adr (.ifc t .nils) u) : u = .iface t (.slice none 0 0) := by
 cases h with
 | val cs h =>
  cases h with
  | ifc cs hr => cases hr; rfl
theorem valueOf_n (hM : VM.get M n = none) : SemP Tryz.prog G 393 [.ifc 88 .nils] M n (.st [hndM 88, .ptr n 1 0 0 [], .int .u64 151]) ((n, ⟨88, 1, false, 0, [.nils]⟩) :: M) (n + 1) := by
 intro w P adr vals hg hI hn hL hargs
 cases hargs with | cons a1 hargs =>
 cases hargs
 obtain rfl := ifc_nils a1
 have hf : (callFunc 393 #[.iface 88 (.slice none 0 0)]).run Tryz.prog w = _ :=
  run_callFunc_extern Tryz.func393 (by kernel_rfl) (by kernel_rfl) (by kernel_rfl) (e := fun args => Extern.ReflectliteValue.unpack (args.getD 0 (.tuple #[]))) (by kernel_rfl) _ w
 rw [show (#[.iface 88 (.slice none 0 0)] : Array Value).getD 0 (.tuple #[]) = .iface 88 (.slice none 0 0) from rfl, run_valueOf_slice _ _ infS info_S desc_S] at hf
 have hb := Below.alloc1 w (.cells #[.slice none 0 0] 88)
 obtain ⟨i1, k1⟩ := hI.new (b := ⟨88, 1, false, 0, [.nils]⟩) (hn n (Nat.le_refl _)) hM hb (cur := #[.slice none 0 0]) (parts := [[.slice none 0 0]]) (by show (w.heap.push _)[w.heap.size]? = _; simp) rfl (by simp) (fun j x q hx hq => by
  match j with
  | 0 => simp at hx hq; subst hx hq; exact .nils
  | j + 1 => simp at hx) (by simp) (Nat.zero_le _)
 rw [vget_new] at i1
 refine ⟨_, _, hf, _, rfl, P, _, i1, ?_, k1, fun c hc => fput_ne _ _ (by omega), fun c hc => (fput_ne _ _ (by omega)).trans (hn c (by omega)), fun c g hc => ?_, fun b o ho => .inl ho, (Since.of_below hb).weak fun _ e => e.elim⟩
 ·exact .val _ (.st [[typeHandle Tryz.prog 88], [.pointer (some ⟨w.heap.size, 0, none⟩)], [.int .u64 151]] rfl fun j m q hm hq => by
   match j with
   | 0 => simp at hm hq; subst hm hq; exact .gp
   | 1 => simp at hm hq; subst hm hq; exact .ptr (fo := 0) (k := 0) w.heap.size (fput_same _ _ _)
   | 2 => simp at hm hq; subst hm hq; exact .int
   | j + 3 => simp at hm)
 ·by_cases h : c = n
  ·subst h; rw [fput_same] at hc; injection hc with hc; exact .inl (by omega)
  ·rw [fput_ne _ _ h] at hc; exact .inr ⟨c, hc⟩
theorem var_nil {c : Nat} {b : MB} {g : Nat} (hI : InvM w P adr (VM.get M)) (hb : VM.get M c = some b) (he : b.es = 1) (hl : b.l = [.nils]) (hg : adr c = some g) : w.cell? ⟨g, 0, none⟩ = some (.slice none 0 0) := by
 rcases hI.blk c b hb with h | ⟨g', h1, h2⟩
 ·rw [hg] at h; cases h.2.2.1
 ·rw [hg] at h1
  injection h1 with h1
  subst h1
  obtain ⟨cur, parts, fz, q1, _, q2, q3, q4, q5⟩ := h2.ofE (by rw [he]; omega)
  rw [hl] at q2 q4
  match parts, q2 with
  | [s], _ =>
   have hr := q4 0 _ s rfl rfl
   cases hr
   rw [cell_of_row w g 0 cur _ fz q1]
   have := prefix_get q5 (j := 0) (x := .slice none 0 0) (by simp)
   simpa using this
theorem valueLen_n {c : Nat} {b : MB} (hb : VM.get M c = some b) (he : b.es = 1) (hl : b.l = [.nils]) : SemP Tryz.prog G 396 [.st [hndM 88, .ptr c 1 0 0 [], .int .u64 151]] M n (.int .i64 (0 : Nat)) M n := by
 intro w P adr vals hg hI hn hL hargs
 cases hargs with | cons a1 hargs =>
 cases hargs
 obtain ⟨cs, h1, rfl⟩ := a1.agg_ rfl
 cases h1 with | st parts hp hr =>
 match parts, hp with
 | [c0, c1, c2], _ =>
  have r0 := hr 0 _ c0 rfl rfl
  have r1 := hr 1 _ c1 rfl rfl
  have r2 := hr 2 _ c2 rfl rfl
  cases r0
  cases r2
  cases r1 with | ptr g h1 =>
  have hc := var_nil hI hb he hl h1
  have hf : (callFunc 396 #[.agg #[typeHandle Tryz.prog 88, .pointer (some ⟨g, 0, none⟩), .int .u64 151]]).run Tryz.prog w = _ :=
   run_callFunc_extern Tryz.func396 (by kernel_rfl) (by kernel_rfl) (by kernel_rfl) (e := Extern.ReflectliteValue.method (Extern.ReflectliteValue.valueError "reflectlite.Value.Len" 0) Extern.ReflectliteValue.len) (by kernel_rfl) _ w
  rw [run_valueLen_slice _ _ infS info_S desc_S pack_S _ _ _ _ _ hc] at hf
  exact ⟨_, _, hf, _, rfl, P, adr, hI, .val [_] .int, Keep.refl _ _ _, fun _ _ => rfl, hn, fun c g hc => .inr ⟨c, hc⟩, fun b o ho => .inl ho, Since.refl _ _⟩
theorem swapper_n : SemP Tryz.prog G 394 [.ifc 88 .nils] M n (.fn 407 []) M n := by
 intro w P adr vals hg hI hn hL hargs
 cases hargs with | cons a1 hargs =>
 cases hargs
 obtain rfl := ifc_nils a1
 have hf : (callFunc 394 #[.iface 88 (.slice none 0 0)]).run Tryz.prog w = _ :=
  run_callFunc_extern Tryz.func394 (by kernel_rfl) (by kernel_rfl) (by kernel_rfl) (e := Extern.ReflectliteSwapper.swapper "internal/reflectlite" (Extern.ReflectliteValue.valueError "Swapper")) (by kernel_rfl) _ w
 rw [run_swapper_slice _ _ infS infE info_S desc_S info_E 25 kind_E none 0 0 407 (by kernel_rfl)] at hf
 exact ⟨_, _, hf, _, rfl, P, adr, hI, .val _ (.fn [] rfl fun j m q h => by simp at h), Keep.refl _ _ _, fun _ _ => rfl, hn, fun c g hc => .inr ⟨c, hc⟩, fun b o ho => .inl ho, Since.refl _ _⟩
noncomputable def libT : TblF := fun f vs M n =>
 bif Nat.beq f 393 then some (match vs with
  | [.ifc t .nils] => bif Nat.beq t 88 then some (.st [hndM 88, .ptr n 1 0 0 [], .int .u64 151], (n, ⟨88, 1, false, 0, [.nils]⟩) :: M, n + 1) else none
  | _ => none)
 else bif Nat.beq f 394 then some (match vs with
  | [.ifc t .nils] => bif Nat.beq t 88 then some (.fn 407 [], M, n) else none
  | _ => none)
 else bif Nat.beq f 396 then some (match vs with
  | [.st [.gp g t, .ptr c 1 0 0 [], .int .u64 151]] => (match VM.get M c with
   | some b => (match b.l with
    | [.nils] => bif Nat.beq g Tryz.prog.globals.size && Nat.beq t 88 && Nat.beq b.es 1 then some (.int .i64 (0 : Nat), M, n) else none
    | _ => none)
   | none => none)
  | _ => none)
 else shaT f vs M n
theorem libT_ok : TblOK Tryz.prog ents G libT := by
 intro f vs M n r M' n' h hM
 unfold libT at h
 cases hf : Nat.beq f 393 with
 | true =>
  have e := Nat.eq_of_beq_eq_true hf
  subst e
  rw [hf] at h
  injection h with h
  split at h
  ·rename_i t
   obtain ⟨h0, h⟩ := bif_some h
   have h0 := Nat.eq_of_beq_eq_true h0
   subst h0
   injection h with h; injection h with h1 h; injection h with h2 h3
   subst h1; subst h2; subst h3
   have hno : ents.contains 393 = false := by kernel_rfl
   refine ⟨Nat.le_succ _, fun c hc => ?_, fun e => (by rw [hno] at e; cases e), fun _ => valueOf_n (hM n (Nat.le_refl _))⟩
   show (bif Nat.beq n c then some _ else VM.get M c) = none
   have hb : Nat.beq n c = false := by
    rw [← Bool.not_eq_true]; intro h2; have := Nat.eq_of_beq_eq_true h2; omega
   rw [hb]
   exact hM c (by omega)
  ·cases h
 | false =>
  rw [hf] at h
  dsimp only [cond_false] at h
  cases hf2 : Nat.beq f 394 with
  | true =>
   have e := Nat.eq_of_beq_eq_true hf2
   subst e
   rw [hf2] at h
   injection h with h
   split at h
   ·rename_i t
    obtain ⟨h0, h⟩ := bif_some h
    have h0 := Nat.eq_of_beq_eq_true h0
    subst h0
    injection h with h; injection h with h1 h; injection h with h2 h3
    subst h1; subst h2; subst h3
    have hno : ents.contains 394 = false := by kernel_rfl
    exact ⟨Nat.le_refl _, hM, fun e => (by rw [hno] at e; cases e), fun _ => swapper_n⟩
   ·cases h
  | false =>
   rw [hf2] at h
   dsimp only [cond_false] at h
   cases hf3 : Nat.beq f 396 with
   | true =>
    have e := Nat.eq_of_beq_eq_true hf3
    subst e
    rw [hf3] at h
    injection h with h
    split at h
    ·rename_i g t c
     split at h
     ·rename_i b hb
      split at h
      ·rename_i hl
       obtain ⟨h0, hx⟩ := bif_some h
       simp only [Bool.and_eq_true] at h0
       obtain ⟨⟨h4, h5⟩, h6⟩ := h0
       have h4 := Nat.eq_of_beq_eq_true h4
       have h5 := Nat.eq_of_beq_eq_true h5
       subst h4; subst h5
       have e := Option.some.inj hx
       have e1 := (Prod.mk.inj e).1
       have e2 := (Prod.mk.inj (Prod.mk.inj e).2).1
       have e3 := (Prod.mk.inj (Prod.mk.inj e).2).2
       subst e1; subst e2; subst e3
       have hno : ents.contains 396 = false := by kernel_rfl
       exact ⟨Nat.le_refl _, hM, fun e => (by rw [hno] at e; cases e), fun _ => valueLen_n hb (Nat.eq_of_beq_eq_true h6) hl⟩
      ·cases h
     ·cases h
    ·cases h
   | false =>
    rw [hf3] at h
    exact shaT_ok f vs M n r M' n' h hM
end
end
section
noncomputable def evS (f : FuncId) (args : List MV) : Option MV := gByVal (gEv Tryz.prog tab ents libT (fun _ => 0) (prD fun _ => false) 300 60) f args
def sameS : MV → MV → Bool
 | .str a, .str b => decide (a = b)
 | _, _ => false
theorem sameS_ok {x y : MV} (h : sameS x y = true) : x = y := by
 unfold sameS at h
 split at h
 ·rw [of_decide_eq_true h]
 ·cases h
noncomputable def outS (f : FuncId) (args : List MV) (r : MV) : Bool := match evS f args with
 | some x => sameS x r
 | none => false
theorem outS_ok {G : GS} {f : FuncId} {args : List MV} {r : MV} (hin : ents.contains f = true) (h : outS f args r = true) : SemC Tryz.prog G f args r := by
 unfold outS at h
 split at h
 ·rename_i x hx
  rw [sameS_ok h] at hx
  exact semC_ev seat libT_ok hin hx
 ·cases h
def lowV : List Nat := [127, 0, 1, 2, 3, 4, 5, 6, 7, 8, 9, 10, 11, 12, 13, 14, 15, 16, 17, 18, 19, 20, 21, 22, 23, 24, 25, 26, 27, 28, 29, 30, 31]
set_option maxRecDepth 1000000 in
theorem quoted_sp : (spS.all fun c => outS 17 [.str c] (.str (quotedS c))) = true := by kernel_rfl
end
section
theorem fix_at {s : List UInt8} {i : Nat} (hi : i < s.length) : (runeS s i = 0 → fixS (s.drop i) = [239, 191, 189] :: fixS (s.drop (i + 1))) ∧ (runeS s i ≠ 0 → fixS (s.drop i) = (s.drop i).take (runeS s i) :: fixS (s.drop (i + runeS s i))) := by
 have hne : s.drop i ≠ [] := fun e => by have := congrArg List.length e; simp at this; omega
 rw [runeS_drop]
 refine ⟨fun h => ?_, fun h => ?_⟩
 ·rw [fixS_bad hne h, List.drop_drop]
 ·rw [fixS_good hne h, List.drop_drop]
theorem quoted_len {c : List UInt8} (hc : isRune c) : (quotedS c).length ≤ 8 := by
 by_cases h : c ∈ spS
 ·have : ∀ c ∈ spS, (quotedS c).length ≤ 8 := by decide +kernel
  exact this c h
 ·rw [(quoted_nsp hc h).1, ← hc.2]
  have := runeS_le c 0
  omega
def escS (t : List UInt8) : List UInt8 × Nat := match spS.find? fun c => (quotedS c).isPrefixOf t with
 | some c => (c, (quotedS c).length)
 | none => ([], 0)
theorem esc_out {t c : List UInt8} {k : Nat} (h : escS t = (c, k)) (hk : k ≠ 0) : c ∈ spS ∧ k = (quotedS c).length ∧ k ≤ t.length := by
 unfold escS at h
 split at h
 ·rename_i d hd
  injection h with h1 h2
  subst h1; subst h2
  have hp := List.find?_some hd
  have hp : (quotedS d).isPrefixOf t = true := hp
  exact ⟨List.mem_of_find?_eq_some hd, rfl, (List.isPrefixOf_iff_prefix.1 hp).length_le⟩
 ·injection h with _ h2
  exact absurd h2.symm hk
theorem esc_zero {t : List UInt8} (h : (escS t).2 = 0) : escS t = ([], 0) := by
 unfold escS at h ⊢
 split at h
 ·rename_i d hd
  have := (sp_head d (List.mem_of_find?_eq_some hd)).2
  simp only at h
  omega
 ·rfl
theorem esc_form {t d y : List UInt8} (hd : isRune d) (ht : t = quotedS d ++ y) : (d ∈ spS → escS t = (d, (quotedS d).length)) ∧ (d ∉ spS → escS t = ([], 0)) := by
 have key : ∀ c, spS.find? (fun c => (quotedS c).isPrefixOf t) = some c → c = d := fun c hc => by
  have hp : (quotedS c).isPrefixOf t = true := List.find?_some (p := fun c => (quotedS c).isPrefixOf t) hc
  exact form_sp (List.mem_of_find?_eq_some hc) hd ht hp
 unfold escS
 cases hf : spS.find? (fun c => (quotedS c).isPrefixOf t) with
 | some c =>
  have := key c hf
  subst this
  exact ⟨fun _ => rfl, fun h => absurd (List.mem_of_find?_eq_some hf) h⟩
 | none =>
  refine ⟨fun h => ?_, fun _ => rfl⟩
  have := List.find?_eq_none.1 hf d h
  exact absurd (List.isPrefixOf_iff_prefix.2 ⟨y, ht.symm⟩) this
theorem ref_form {s : List UInt8} {i k : Nat} {L : List (List UInt8)} {c : List UInt8} (h : Rd s i L) (hi : i + 1 < s.length) (he : escS (s.drop i) = (c, k)) (hk : k ≠ 0) : Rd s (i + k) (L ++ [c]) := by
 obtain ⟨h1, h2, h3⟩ := esc_out he hk
 rw [List.length_drop] at h3
 refine h.step hi (sp_rune c h1) (by omega) fun d z hd hs => ?_
 by_cases hsp : d ∈ spS
 ·rw [(esc_form hd hs).1 hsp] at he
  injection he with e1 e2
  exact ⟨e1.symm, e2.symm⟩
 ·rw [(esc_form hd hs).2 hsp] at he
  injection he with _ e2
  exact absurd e2.symm hk
theorem ref_bad {s : List UInt8} {i : Nat} {L : List (List UInt8)} (h : Rd s i L) (hi : i + 1 < s.length) (he : escS (s.drop i) = ([], 0)) (hr : runeS s i = 0) : unqS s = ([], false) := by
 refine h.bad hi fun d z hd hs => ?_
 have h0 := pos_ne hd.1
 by_cases hsp : d ∈ spS
 ·rw [(esc_form hd hs).1 hsp] at he
  injection he with _ e2
  have := (sp_head d hsp).2
  omega
 ·rw [(quoted_nsp hd hsp).1] at hs
  rw [runeS_drop, hs, rune_app hd] at hr
  omega
theorem ref_rune {s : List UInt8} {i k : Nat} {L : List (List UInt8)} (h : Rd s i L) (hi : i + 1 < s.length) (he : escS (s.drop i) = ([], 0)) (hr : runeS s i = k) (hk : k ≠ 0) : Rd s (i + k) (L ++ [(s.drop i).take k]) := by
 have hne : s.drop i ≠ [] := fun e => by have := congrArg List.length e; simp at this; omega
 have hr' : runeS (s.drop i) 0 = k := by rw [← runeS_drop]; exact hr
 have hle := runeS_lenI (s := s) (i := i) (by omega)
 refine h.step hi (by rw [← hr']; exact rune_take hne (by omega)) (by omega) fun d z hd hs => ?_
 by_cases hsp : d ∈ spS
 ·rw [(esc_form hd hs).1 hsp] at he
  injection he with _ e2
  have := (sp_head d hsp).2
  omega
 ·rw [(quoted_nsp hd hsp).1] at hs ⊢
  have e := rune_app (r := z ++ [34]) hd
  rw [← hs, hr'] at e
  subst e
  exact ⟨by rw [hs, List.take_left], rfl⟩
theorem body_drop {s B : List UInt8} (hs : s = 34 :: (B ++ [34])) {j : Nat} (hj : j ≤ B.length) : s.drop (j + 1) = B.drop j ++ [34] := by
 rw [hs, List.drop_succ_cons, List.drop_append_of_le_length hj]
theorem body_form {s B d z : List UInt8} (hs : s = 34 :: (B ++ [34])) {j : Nat} (hj : j ≤ B.length) (h : s.drop (j + 1) = quotedS d ++ (z ++ [34])) : B.drop j = quotedS d ++ z := by
 rw [body_drop hs hj, ← List.append_assoc] at h
 exact List.append_cancel_right h
theorem dec_rune {d z : List UInt8} (hd : isRune d) : ∃ v, Lib.decodeGo ⟨(d ++ z).toArray⟩ = (v, d.length) ∧ encN v = d := by
 obtain ⟨v, h1, h2, _⟩ := enc_dec (r := z) hd
 refine ⟨v, ?_, h2⟩
 have h0 := pos_ne hd.1
 have := decGo_drop (s := d ++ z) (i := 0) (by rw [List.length_append]; omega)
 rw [List.drop_zero] at this
 rw [this, h1]
theorem getD_app {d z : List UInt8} (hd : d ≠ []) : (d ++ z).getD 0 0 = d.getD 0 0 := by
 have := pos_ne hd
 simp only [List.getD_eq_getElem?_getD]
 rw [List.getElem?_append_left this]
theorem dec_solidus {t : List UInt8} (h : t.getD 0 0 = 92) (ht : t ≠ []) : Lib.decodeGo ⟨t.toArray⟩ = (92, 1) := by
 match t with
 | [] => exact absurd rfl ht
 | b :: t =>
  have hb : b = 92 := h
  subst hb
  obtain ⟨v, h1, h2⟩ := dec_rune (d := [92]) (z := t) (sp_rune _ (by decide +kernel))
  have e : v = 92 := by
   by_cases hv : v < 128
   ·have key : ∀ v, v < 128 → encN v = [92] → v = 92 := by decide +kernel
    exact key v hv h2
   ·have hl := congrArg List.length h2
    unfold encN at hl
    rw [if_neg hv] at hl
    repeat' split at hl
    all_goals simp at hl
  rw [e] at h1
  exact h1
theorem prg_rune {s B : List UInt8} {j v w : Nat} {L : List (List UInt8)} (hs : s = 34 :: (B ++ [34])) (h : Rd s (j + 1) L) (hj : j < B.length) (hd : Lib.decodeGo ⟨(B.drop j).toArray⟩ = (v, w)) (hv : v ≠ 92) (hw : j + w ≤ B.length) : Rd s (j + w + 1) (L ++ [encN v]) := by
 have hl : s.length = B.length + 2 := by rw [hs]; simp
 have := h.step (k := w) (c := encN v) (by omega) (enc_rune v) (by omega) fun d z hr hf => ?_
 ·rwa [show j + 1 + w = j + w + 1 by omega] at this
 ·have hB := body_form hs (Nat.le_of_lt hj) hf
  by_cases hsp : d ∈ spS
  ·exfalso
   have h1 := sp_head d hsp
   have hne : quotedS d ≠ [] := quoted_ne hr
   have := dec_solidus (t := B.drop j) (by rw [hB, getD_app hne]; exact h1.1) (by rw [hB]; simp [hne])
   rw [this] at hd
   injection hd with e1 _
   exact hv e1.symm
  ·rw [(quoted_nsp hr hsp).1] at hB ⊢
   obtain ⟨v', h1, h2⟩ := dec_rune (z := z) hr
   rw [← hB, hd] at h1
   injection h1 with e1 e2
   subst e1; subst e2
   exact ⟨h2, rfl⟩
def tailS (d : List UInt8) : List UInt8 := (quotedS d).drop 1
theorem tail_sp {d : List UInt8} (h : d ∈ spS) : quotedS d = 92 :: tailS d ∧ (tailS d).length + 1 = (quotedS d).length := by
 have key : ∀ d ∈ spS, quotedS d = 92 :: tailS d ∧ (tailS d).length + 1 = (quotedS d).length := by decide +kernel
 exact key d h
theorem prg_esc {s B : List UInt8} {j v m : Nat} {L : List (List UInt8)} {c : List UInt8} (hs : s = 34 :: (B ++ [34])) (h : Rd s (j + 1) L) (hj : j < B.length) (hd : Lib.decodeGo ⟨(B.drop j).toArray⟩ = (92, v)) (hc : isRune c) (hm : j + 1 + m ≤ B.length) (hu : ∀ d z, d ∈ spS → B.drop (j + 1) = tailS d ++ z → c = d ∧ m = (tailS d).length) : Rd s (j + 1 + m + 1) (L ++ [c]) := by
 have hl : s.length = B.length + 2 := by rw [hs]; simp
 have := h.step (k := 1 + m) (c := c) (by omega) hc (by omega) fun d z hr hf => ?_
 ·rwa [show j + 1 + (1 + m) = j + 1 + m + 1 by omega] at this
 ·have hB := body_form hs (Nat.le_of_lt hj) hf
  by_cases hsp : d ∈ spS
  ·obtain ⟨t1, t2⟩ := tail_sp hsp
   have e : B.drop (j + 1) = tailS d ++ z := by
    rw [← List.drop_drop, hB, t1]; rfl
   obtain ⟨e1, e2⟩ := hu d z hsp e
   exact ⟨e1, by omega⟩
  ·exfalso
   have hq := quoted_nsp hr hsp
   rw [hq.1] at hB
   obtain ⟨v', h1, h2⟩ := dec_rune (z := z) hr
   rw [← hB, hd] at h1
   injection h1 with e1 e2
   subst e1
   have : encN 92 = [92] := by decide +kernel
   rw [this] at h2
   exact hq.2.1 (by rw [← h2]; rfl)
theorem prg_bad {s B : List UInt8} {j v : Nat} {L : List (List UInt8)} (hs : s = 34 :: (B ++ [34])) (h : Rd s (j + 1) L) (hj : j < B.length) (hd : Lib.decodeGo ⟨(B.drop j).toArray⟩ = (92, v)) (hu : ∀ d z, d ∈ spS → B.drop (j + 1) ≠ tailS d ++ z) : unqS s = ([], false) := by
 have hl : s.length = B.length + 2 := by rw [hs]; simp
 refine h.bad (by omega) fun d z hr hf => ?_
 have hB := body_form hs (Nat.le_of_lt hj) hf
 by_cases hsp : d ∈ spS
 ·obtain ⟨t1, _⟩ := tail_sp hsp
  exact hu d z hsp (by rw [← List.drop_drop, hB, t1]; rfl)
 ·have hq := quoted_nsp hr hsp
  rw [hq.1] at hB
  obtain ⟨v', h1, h2⟩ := dec_rune (z := z) hr
  rw [← hB, hd] at h1
  injection h1 with e1 e2
  subst e1
  have : encN 92 = [92] := by decide +kernel
  rw [this] at h2
  exact hq.2.1 (by rw [← h2]; rfl)
theorem unq_short {s : List UInt8} (h : s.length < 2 ∨ s.getD 0 0 ≠ 34 ∨ s.getD (s.length - 1) 0 ≠ 34) : unqS s = ([], false) := unq_no fun K hK => by
 have e := hK.2
 have hl : s.length = (K.flatMap quotedS).length + 2 := by rw [e]; simp
 rcases h with h | h | h
 ·omega
 ·exact h (by rw [e]; rfl)
 ·refine h ?_
  rw [hl]
  rw [e]
  simp only [List.getD_eq_getElem?_getD]
  rw [show (K.flatMap quotedS).length + 2 - 1 = (K.flatMap quotedS).length + 1 by omega, List.getElem?_cons_succ, List.getElem?_append_right (Nat.le_refl _)]
  simp
theorem body_of {s : List UInt8} (h : 2 ≤ s.length) (h0 : s.getD 0 0 = 34) (h1 : s.getD (s.length - 1) 0 = 34) : s = 34 :: ((s.drop 1).take (s.length - 2) ++ [34]) := by
 match s, h with
 | a :: t, h =>
  have ha : a = 34 := h0
  subst ha
  congr 1
  have hl : t.length = (t.length - 1) + 1 := by simp at h; omega
  have e : t = t.take (t.length - 1) ++ t.drop (t.length - 1) := (List.take_append_drop _ _).symm
  have e2 : t.drop (t.length - 1) = [34] := by
   rw [List.drop_eq_getElem_cons (by omega), List.drop_eq_nil_of_le (by omega)]
   congr 1
   simp only [List.length_cons, Nat.add_sub_cancel, List.getD_eq_getElem?_getD] at h1
   rw [hl, List.getElem?_cons_succ, List.getElem?_eq_getElem (by omega)] at h1
   simpa using h1
  rw [e2] at e
  simpa using e
end
section
theorem flat_le {n : Nat} : ∀ {L : List (List UInt8)}, (∀ c ∈ L, c.length ≤ n) → L.flatten.length ≤ n * L.length
 | [], _ => Nat.zero_le _
 | c :: L, h => by
  rw [List.flatten_cons, List.length_append, List.length_cons, Nat.mul_succ]
  have h1 := flat_le (L := L) fun d hd => h d (by simp [hd])
  have h2 := h c (by simp)
  omega
theorem rune_le4 {c : List UInt8} (h : isRune c) : c.length ≤ 4 := by rw [← h.2]; exact runeS_le c 0
theorem fixG_len : ∀ (f : Nat) (s : List UInt8), (fixG f s).length ≤ s.length
 | 0, _ => Nat.zero_le _
 | f + 1, s => by
  rw [fixG]
  split
  ·exact Nat.zero_le _
  rename_i h0
  have hs : s ≠ [] := fun e => h0 (by rw [e]; rfl)
  split
  ·have := fixG_len f (s.drop 1); rw [List.length_drop] at this; rw [List.length_cons]; omega
  ·have h1 := fixG_len f (s.drop (runeS s 0)); rw [List.length_drop] at h1; rw [List.length_cons]; omega
theorem fix_len (s : List UInt8) : (fixS s).length ≤ s.length := fixG_len _ _
theorem fixf_len (s : List UInt8) : (fixS s).flatten.length ≤ 4 * s.length := by
 have h1 := flat_le (n := 4) (L := fixS s) fun c hc => rune_le4 (fixS_rune s c hc)
 have h2 := fix_len s
 omega
theorem quotedL_len {L : List (List UInt8)} (h : ∀ c ∈ L, isRune c) : (L.flatMap quotedS).length ≤ 8 * L.length := by
 rw [List.flatMap_def]
 have h1 := flat_le (n := 8) (L := L.map quotedS) fun c hc => by
  obtain ⟨d, hd, rfl⟩ := List.mem_map.1 hc
  exact quoted_len (h d hd)
 rw [List.length_map] at h1
 exact h1
theorem quote_len (s : List UInt8) : (quoteS s).length ≤ 8 * s.length + 2 := by
 have h1 := quotedL_len (fixS_rune s)
 have h2 := fix_len s
 unfold quoteS
 rw [List.length_cons, List.length_append, List.length_singleton]
 omega
theorem rd_len {L : List (List UInt8)} (h : ∀ c ∈ L, isRune c) : L.flatten.length ≤ 4 * L.length := flat_le fun c hc => rune_le4 (h c hc)
def EscOK (s : List UInt8) (r : Nat) (k : Nat) (ok : Bool) : Prop := r < 2147483648 ∧ (ok = true → 1 ≤ k ∧ k ≤ s.length) ∧ ∀ d z, d ∈ spS → s = tailS d ++ z → ok = true ∧ encN r = d ∧ k = (tailS d).length
end
section
theorem dec_drop {s : List UInt8} {i : Nat} (hi : i < s.length) : Utf8.decode ⟨(s.drop i).toArray⟩ 0 = Utf8.decode ⟨s.toArray⟩ i := by
 rw [← decGo_drop hi, ← decGo_drop (s := s.drop i) (i := 0) (by rw [List.length_drop]; omega), List.drop_zero]
theorem next_piece {s : List UInt8} {i : Nat} (hi : i < s.length) : ∃ v w d, Utf8.decode ⟨s.toArray⟩ i = (v, w) ∧ isRune d ∧ fixS (s.drop i) = d :: fixS (s.drop (i + w)) ∧ encN v = d ∧ pieceS v = quotedS d ∧ v ≤ 1114111 ∧ 1 ≤ w ∧ i + w ≤ s.length := by
 have hlaw := decN_rune (s.length - i) (s.getD i 0).toNat (s.getD (i + 1) 0).toNat (s.getD (i + 2) 0).toNat (s.getD (i + 3) 0).toNat (UInt8.toNat_lt _) (UInt8.toNat_lt _) (UInt8.toNat_lt _) (UInt8.toNat_lt _)
 rw [← runeS_N, ← dec_at] at hlaw
 have hfix := fix_at hi
 by_cases h0 : runeS s i = 0
 ·exact ⟨65533, 1, [239, 191, 189], hlaw.1 h0, fffd_rune, hfix.1 h0, by decide +kernel, by decide +kernel, by decide, by decide, by omega⟩
 ·have hne : s.drop i ≠ [] := fun e => by have := congrArg List.length e; simp at this; omega
  have hr : isRune ((s.drop i).take (runeS s i)) := by
   rw [runeS_drop] at h0 ⊢
   exact rune_take hne h0
  have hle := runeS_lenI hi
  obtain ⟨v, e1, e2, e3, e4⟩ := enc_dec (r := (s.drop i).drop (runeS s i)) hr
  rw [List.take_append_drop, dec_drop hi] at e1
  have hl : ((s.drop i).take (runeS s i)).length = runeS s i := by rw [List.length_take, List.length_drop]; omega
  rw [hl] at e1
  exact ⟨v, runeS s i, _, e1, hr, hfix.2 h0, e2, piece_eq e2 e4, e3, by omega, hle⟩
end
end Go.Proofs.YtbiaaogbohfimaaGreatDoor
namespace Go.Proofs
open Go.Shelf
def Tryz.laysC245_ren : Go.Shelf.Ren := ⟨fun | 245 => 57 | 279 => 105 | 280 => 106 | 281 => 107 | 282 => 108 | 316 => 163 | 171 => 81 | 205 => 164 | 243 => 151 | 246 => 39 | 283 => 60 | 284 => 61 | 285 => 62 | 286 => 63 | 129 => 110 | 317 => 109 | 318 => 111 | 319 => 112 | 320 => 113 | 337 => 165 | 338 => 166 | n => n, fun | 9 => 9 | 3 => 3 | 75 => 55 | 167 => 191 | 4 => 4 | 168 => 194 | 210 => 251 | 37 => 22 | 0 => 0 | 127 => 83 | 145 => 325 | 143 => 323 | 2 => 2 | 171 => 142 | 53 => 33 | 5 => 5 | 173 => 145 | 212 => 199 | 51 => 141 | 20 => 20 | 213 => 200 | 46 => 134 | 232 => 92 | 233 => 326 | 80 => 58 | n => n, fun | 15 => 4 | 16 => 5 | 17 => 2 | 18 => 6 | 19 => 7 | n => n⟩
theorem Tryz.laysC245 : Go.Proofs.LaysC.n245 Tryz.prog Tryz.laysC245_ren := {
 mixed := by kernel_rfl
 f129 := Tryz.func110.trans (congrArg some (by kernel_rfl))
 f171 := Tryz.func81.trans (congrArg some (by kernel_rfl))
 f205 := Tryz.func164.trans (congrArg some (by kernel_rfl))
 f243 := Tryz.func151.trans (congrArg some (by kernel_rfl))
 f245 := Tryz.func57.trans (congrArg some (by kernel_rfl))
 f246 := Tryz.func39.trans (congrArg some (by kernel_rfl))
 f279 := Tryz.func105.trans (congrArg some (by kernel_rfl))
 f280 := Tryz.func106.trans (congrArg some (by kernel_rfl))
 f281 := Tryz.func107.trans (congrArg some (by kernel_rfl))
 f282 := Tryz.func108.trans (congrArg some (by kernel_rfl))
 f283 := Tryz.func60.trans (congrArg some (by kernel_rfl))
 f284 := Tryz.func61.trans (congrArg some (by kernel_rfl))
 f285 := Tryz.func62.trans (congrArg some (by kernel_rfl))
 f286 := Tryz.func63.trans (congrArg some (by kernel_rfl))
 f316 := Tryz.func163.trans (congrArg some (by kernel_rfl))
 f317 := Tryz.func109.trans (congrArg some (by kernel_rfl))
 f318 := Tryz.func111.trans (congrArg some (by kernel_rfl))
 f319 := Tryz.func112.trans (congrArg some (by kernel_rfl))
 f320 := Tryz.func113.trans (congrArg some (by kernel_rfl))
 f337 := Tryz.func165.trans (congrArg some (by kernel_rfl))
 f338 := Tryz.func166.trans (congrArg some (by kernel_rfl))
 t0 := Tryz.underlying0
 a0 := Tryz.isAgg0
 z0 := Tryz.sizeOf0
 v0 := Tryz.zeroValue0
 t2 := Tryz.underlying2
 a2 := Tryz.isAgg2
 z2 := Tryz.sizeOf2
 v2 := Tryz.zeroValue2
 t3 := Tryz.underlying3
 a3 := Tryz.isAgg3
 z3 := Tryz.sizeOf3
 v3 := Tryz.zeroValue3
 t4 := Tryz.underlying4
 a4 := Tryz.isAgg4
 z4 := Tryz.sizeOf4
 v4 := Tryz.zeroValue4
 t5 := Tryz.underlying5
 a5 := Tryz.isAgg5
 z5 := Tryz.sizeOf5
 v5 := Tryz.zeroValue5
 t9 := Tryz.underlying9
 a9 := Tryz.isAgg9
 z9 := Tryz.sizeOf9
 v9 := Tryz.zeroValue9
 t20 := Tryz.underlying20
 a20 := Tryz.isAgg20
 z20 := Tryz.sizeOf20
 v20 := Tryz.zeroValue20
 t37 := Tryz.underlying22
 a37 := Tryz.isAgg22
 z37 := Tryz.sizeOf22
 v37 := Tryz.zeroValue22
 t46 := Tryz.underlying134
 a46 := Tryz.isAgg134
 z46 := Tryz.sizeOf134
 v46 := Tryz.zeroValue134
 t51 := Tryz.underlying141
 a51 := Tryz.isAgg141
 z51 := Tryz.sizeOf141
 v51 := Tryz.zeroValue141
 t53 := Tryz.underlying33
 a53 := Tryz.isAgg33
 z53 := Tryz.sizeOf33
 v53 := Tryz.zeroValue33
 t75 := Tryz.underlying55
 a75 := Tryz.isAgg55
 z75 := Tryz.sizeOf55
 v75 := Tryz.zeroValue55
 t127 := Tryz.underlying83
 a127 := Tryz.isAgg83
 z127 := Tryz.sizeOf83
 v127 := Tryz.zeroValue83
 t143 := Tryz.underlying323
 a143 := Tryz.isAgg323
 z143 := Tryz.sizeOf323
 v143 := Tryz.zeroValue323
 t145 := Tryz.underlying325
 a145 := Tryz.isAgg325
 z145 := Tryz.sizeOf325
 v145 := Tryz.zeroValue325
 t167 := Tryz.underlying191
 a167 := Tryz.isAgg191
 z167 := Tryz.sizeOf191
 v167 := Tryz.zeroValue191
 t168 := Tryz.underlying194
 a168 := Tryz.isAgg194
 z168 := Tryz.sizeOf194
 v168 := Tryz.zeroValue194
 t171 := Tryz.underlying142
 a171 := Tryz.isAgg142
 z171 := Tryz.sizeOf142
 v171 := Tryz.zeroValue142
 t173 := Tryz.underlying145
 a173 := Tryz.isAgg145
 z173 := Tryz.sizeOf145
 v173 := Tryz.zeroValue145
 t210 := Tryz.underlying251
 a210 := Tryz.isAgg251
 z210 := Tryz.sizeOf251
 v210 := Tryz.zeroValue251
 t212 := Tryz.underlying199
 a212 := Tryz.isAgg199
 z212 := Tryz.sizeOf199
 v212 := Tryz.zeroValue199
 t213 := Tryz.underlying200
 a213 := Tryz.isAgg200
 z213 := Tryz.sizeOf200
 t232 := Tryz.underlying92
 a232 := Tryz.isAgg92
 z232 := Tryz.sizeOf92
 v232 := Tryz.zeroValue92
 t233 := Tryz.underlying326
 a233 := Tryz.isAgg326
 z233 := Tryz.sizeOf326
 v233 := Tryz.zeroValue326
 g15 := by kernel_rfl
 g16 := by kernel_rfl
 g17 := by kernel_rfl
 g18 := by kernel_rfl
 g19 := by kernel_rfl
 t80 := Tryz.underlying58
 a80 := Tryz.isAgg58
 z80 := Tryz.sizeOf58
 v80 := Tryz.zeroValue58
 i0 := by kernel_rfl
 i2 := by kernel_rfl
 i3 := by kernel_rfl
 i4 := by kernel_rfl
 i5 := by kernel_rfl
 i9 := by kernel_rfl
 i20 := by kernel_rfl
 i37 := by kernel_rfl
 i46 := by kernel_rfl
 i51 := by kernel_rfl
 i53 := by kernel_rfl
 i75 := by kernel_rfl
 i80 := by kernel_rfl
 i127 := by kernel_rfl
 i143 := by kernel_rfl
 i145 := by kernel_rfl
 i167 := by kernel_rfl
 i168 := by kernel_rfl
 i171 := by kernel_rfl
 i173 := by kernel_rfl
 i210 := by kernel_rfl
 i212 := by kernel_rfl
 i232 := by kernel_rfl
 i233 := by kernel_rfl
 m15 := by kernel_rfl
 m16 := by kernel_rfl
 m17 := by kernel_rfl
 m18 := by kernel_rfl
 m19 := by kernel_rfl
 c0 := by kernel_rfl
 c2 := by kernel_rfl
 c3 := by kernel_rfl
 c4 := by kernel_rfl
 c5 := by kernel_rfl
 c9 := by kernel_rfl
 c20 := by kernel_rfl
 c37 := by kernel_rfl
 c46 := by kernel_rfl
 c51 := by kernel_rfl
 c53 := by kernel_rfl
 c75 := by kernel_rfl
 c80 := by kernel_rfl
 c127 := by kernel_rfl
 c143 := by kernel_rfl
 c145 := by kernel_rfl
 c167 := by kernel_rfl
 c168 := by kernel_rfl
 c171 := by kernel_rfl
 c173 := by kernel_rfl
 c210 := by kernel_rfl
 c212 := by kernel_rfl
 c213 := by kernel_rfl
 c232 := by kernel_rfl
 c233 := by kernel_rfl }
open Go.RowKit in
theorem Tryz.strconv_toError_syntax (fn s : ByteArray) (base bits : Int) (ev : Value) (w : World) (hlim : s.size ≤ 281474976710656) (hv : w.cell? ⟨4, 0, none⟩ = some ev) (hev : ev = .nilIface ∨ ∃ te pe, ev = .iface te pe) :
  Calls Tryz.prog 57 #[.string fn, .string s, .int .i64 base, .int .i64 bits, .iface 191 (.int .i64 2)] w fun e w' => ∃ N, e = .returned (.iface 194 (.pointer (some ⟨N, 0, none⟩))) ∧ w.heap.size ≤ N ∧ w'.heap[N]? = some (.cells #[.string fn, .string s, ev] 251 (0, 0)) ∧ Below w.heap.size w w' := Any.strconv_toError_syntax Tryz.laysC245 fn s base bits ev w hlim hv hev
open Go.RowKit in
theorem Tryz.strconv_toError_range (fn s : ByteArray) (base bits : Int) (ev : Value) (w : World) (hlim : s.size ≤ 281474976710656) (hv : w.cell? ⟨5, 0, none⟩ = some ev) (hev : ev = .nilIface ∨ ∃ te pe, ev = .iface te pe) :
  Calls Tryz.prog 57 #[.string fn, .string s, .int .i64 base, .int .i64 bits, .iface 191 (.int .i64 1)] w fun e w' => ∃ N, e = .returned (.iface 194 (.pointer (some ⟨N, 0, none⟩))) ∧ w.heap.size ≤ N ∧ w'.heap[N]? = some (.cells #[.string fn, .string s, ev] 251 (0, 0)) ∧ Below w.heap.size w w' := Any.strconv_toError_range Tryz.laysC245 fn s base bits ev w hlim hv hev
end Go.Proofs
namespace Go.Proofs.YtbiaaogbohfimaaGreatDoor
open Go.RowKit
section
def LX (g : Nat) : Prop := LU g ∨ g = 4 ∨ g = 5 ∨ g = 7 ∨ g = 2
structure XOK (w : World) : Prop where
 utf : UtfOK w
 syn : ∃ te pe, w.cell? ⟨4, 0, none⟩ = some (.iface te pe)
 rng : ∃ te pe, w.cell? ⟨5, 0, none⟩ = some (.iface te pe)
 tab : w.cell? ⟨7, 15, none⟩ = some (.int .u8 4)
 pow : Lib.TabIs Tryz.prog w "internal/strconv.uint64pow10" .u64 Lib.pow10Tab
theorem var_same {w w' : World} {n : String} {g : Nat} {cs : Array Value} (hn : Tryz.prog.globalNamed n = some g) (hs : w'.heap[g]? = w.heap[g]?) (h : w.var? Tryz.prog n = some cs) : w'.var? Tryz.prog n = some cs := by
 unfold World.var? at h ⊢
 rw [hn] at h ⊢
 simp only [Option.bind_some] at h ⊢
 rw [hs]
 exact h
theorem var_lt {w : World} {n : String} {g : Nat} {cs : Array Value} (hn : Tryz.prog.globalNamed n = some g) (h : w.var? Tryz.prog n = some cs) : g < w.heap.size := by
 unfold World.var? at h
 rw [hn] at h
 simp only [Option.bind_some] at h
 rcases Nat.lt_or_ge g w.heap.size with h' | h'
 ·exact h'
 ·simp [Array.getElem?_eq_none h'] at h
theorem pow_named : Tryz.prog.globalNamed "internal/strconv.uint64pow10" = some 2 := by kernel_rfl
theorem XOK.lt {w : World} (h : XOK w) {g : Nat} (hg : LX g) : g < w.heap.size := by
 rcases hg with hg | rfl | rfl | rfl | rfl
 ·exact h.utf.lt hg
 ·obtain ⟨_, _, h⟩ := h.syn; exact World.block_lt_of_cell? _ _ h
 ·obtain ⟨_, _, h⟩ := h.rng; exact World.block_lt_of_cell? _ _ h
 ·exact World.block_lt_of_cell? _ _ h.tab
 ·exact var_lt pow_named h.pow
theorem XOK.same {w w' : World} (h : XOK w) (hs : ∀ g, LX g → w'.heap[g]? = w.heap[g]?) : XOK w' :=
 ⟨h.utf.same fun g hg => hs g (.inl hg), by obtain ⟨a, b, c⟩ := h.syn; exact ⟨a, b, (cell_same (hs _ (.inr (.inl rfl)))).trans c⟩, by obtain ⟨a, b, c⟩ := h.rng; exact ⟨a, b, (cell_same (hs _ (.inr (.inr (.inl rfl))))).trans c⟩, (cell_same (hs _ (.inr (.inr (.inr (.inl rfl)))))).trans h.tab, var_same pow_named (hs _ (.inr (.inr (.inr (.inr rfl))))) h.pow⟩
def GX : GS := ⟨XOK, LX, fun _ _ h hg => h.lt hg, fun _ _ _ h hx hs => h.same fun _ hg => hs.block _ (h.lt hg) (fun e => hx _ e hg)⟩
theorem semC_up {f : FuncId} {args : List MV} {res : MV} (h : SemC Tryz.prog GU f args res) : SemC Tryz.prog GX f args res := fun w P vals hg => h w P vals hg.utf
theorem toErr_x (fn s : List UInt8) (b z : Int) (k : Int) (hk : k = 1 ∨ k = 2) (hs : s.length ≤ 100000000) : SemX Tryz.prog GX 57 [.str fn, .str s, .int .i64 b, .int .i64 z, .ifc 191 (.int .i64 k)] (fun r => ∃ g : Nat, r = .ifc 194 (.gp g 0)) := by
 intro w P adr vals hg hI hn hL hargs
 cases hargs with | cons a1 hargs => cases hargs with | cons a2 hargs => cases hargs with | cons a3 hargs => cases hargs with | cons a4 hargs => cases hargs with | cons a5 hargs =>
 cases hargs
 obtain rfl := a1.str_
 obtain rfl := a2.str_
 have e3 := a3.int_
 have e4 := a4.int_
 subst e3 e4
 have e5 : ∀ {u : Value}, RepV w P adr (.ifc 191 (.int .i64 k)) u → u = .iface 191 (.int .i64 k) := by
  intro u h
  cases h with
  | val cs h =>
   cases h with
   | ifc cs hr => cases hr; rfl
 obtain rfl := e5 a5
 have fin : ∀ {X : Nat → World → Prop} (e : Ending) (w' : World), (∃ N, e = .returned (.iface 194 (.pointer (some ⟨N, 0, none⟩))) ∧ w.heap.size ≤ N ∧ X N w' ∧ Below w.heap.size w w') → ∃ v, e = .returned v ∧ ∃ (res : MV) (M1 : VM) (n1 : Nat), (((∃ g : Nat, res = .ifc 194 (.gp g 0)) ∧ nfree res = true) ∧ M1 = [] ∧ n1 = 0) ∧ ∃ P' adr', InvM w' P' adr' (VM.get M1) ∧ RepV w' P' adr' res v ∧ Keep w w' P P' adr adr' ∧ (∀ c, c < 0 → adr' c = adr c) ∧ (∀ c, n1 ≤ c → adr' c = none) ∧
   (∀ c g, adr' c = some g → w.heap.size ≤ g ∨ ∃ c0, adr c0 = some g) ∧ (∀ b o, P' b o → P b o ∨ w.heap.size ≤ b ∨ ∃ c0, adr c0 = some b) ∧ Since (fun g => ∃ c0, adr c0 = some g) w w' := by
  rintro X e w' ⟨N, rfl, _, _, hb⟩
  refine ⟨_, rfl, .ifc 194 (.gp N 0), [], 0, ⟨⟨⟨N, rfl⟩, rfl⟩, rfl, rfl⟩, protNew w w' P, adr, hI.below hb, .val [_] (.ifc [_] .gp), Keep.below hI.prot hb, fun _ _ => rfl, hn, fun c g hc => .inr ⟨c, hc⟩, fun b o ho => ?_, (Since.of_below hb).weak fun _ e => e.elim⟩
  rcases ho with h | h
  ·exact .inl h
  ·exact .inr (.inl h.1)
 rcases hk with rfl | rfl
 ·obtain ⟨te, pe, hv⟩ := hg.rng
  exact (Tryz.strconv_toError_range ⟨fn.toArray⟩ ⟨s.toArray⟩ b z _ w (by show s.toArray.size ≤ _; simp; omega) hv (.inr ⟨te, pe, rfl⟩)).mono (fin (X := fun N w' => w'.heap[N]? = _))
 ·obtain ⟨te, pe, hv⟩ := hg.syn
  exact (Tryz.strconv_toError_syntax ⟨fn.toArray⟩ ⟨s.toArray⟩ b z _ w (by show s.toArray.size ≤ _; simp; omega) hv (.inr ⟨te, pe, rfl⟩)).mono (fin (X := fun N w' => w'.heap[N]? = _))
section
variable {G : GS}
attribute [local irreducible] vOpsN vOpsG vOpsD vOpGD NextD vC SeqQ BlockQ
attribute [local irreducible] Int.decLt Int.decLe
def lowN (c : Nat) : Nat := c ||| 32
theorem lowN_lt {c : Nat} (h : c < 256) : lowN c < 256 := Nat.or_lt_two_pow (n := 8) h (by decide)
theorem lower_m (c : Nat) (h : c < 256) : SemC Tryz.prog G 103 [.int .u8 c] (.int .u8 (lowN c)) := by
 have e : EqF (IntKind.u8.wrap ((BitVec.ofInt IntKind.u8.bits (c : Int) ||| BitVec.ofInt IntKind.u8.bits 32).toNat : Int)) ((lowN c : Nat) : Int) := ⟨by
  rw [BitVec.toNat_or, bv_of _ c h, show BitVec.ofInt IntKind.u8.bits 32 = BitVec.ofInt IntKind.u8.bits ((32 : Nat) : Int) from rfl, bv_of _ 32 (by decide), w8]
  have := lowN_lt h
  unfold lowN at *
  omega⟩
 refine scq seat Tryz.func103 5 ?_
 refine go1 ?_
 refine go0 ?_
 rfl
theorem parse0_x (t : List UInt8) (ht : t.length ≤ 100000000) : SemX Tryz.prog G 56 [.str t, .int .i64 16, .int .i64 31] (fun r => ∃ (n : Nat) (e : MV), r = .tup [.int .u64 n, e] ∧ n < 2147483648 ∧ (e = .nili ∨ ∃ k : Int, e = .ifc 191 (.int .i64 k) ∧ (k = 1 ∨ k = 2))) := by
 have m1 : EqF (IntKind.u64.wrap ((1 : Int) * 2 ^ (min (Int.toNat 31) IntKind.u64.bits))) 2147483648 := ⟨by decide +kernel⟩
 have m2 : EqF (IntKind.u64.wrap ((2147483648 : Int) - 1)) 2147483647 := ⟨by decide +kernel⟩
 by_cases h0 : t = []
 ·subst h0
  unfold SemX
  refine semE_of_vc seat Tryz.func56 rfl rfl (Nat.le_of_ble_eq_true rfl) (Nat.le_of_ble_eq_true rfl) (N := 172) rfl rfl ?_
  (iterate 3 ((all_goals (refine go1 ?_)); (all_goals (first | (refine n_guard rfl rfl (fun h => ?_) rfl (fun h => ?_); all_goals ((try simp only [pl] at h); (try (simp at h; done)); (try (exfalso; omega)))) | (refine c_cond rfl (fun h => ?_) (fun h => ?_); all_goals ((try simp only [pl] at h); (try (simp at h; done)); (try (exfalso; omega)))) | skip))))
  exact ⟨_, _, _, ⟨⟨⟨0, _, rfl, by decide, .inr ⟨2, rfl, .inr rfl⟩⟩, rfl⟩, rfl, rfl⟩, en [_, _]⟩
 ·unfold SemX
  refine semE_of_vc seat Tryz.func56 rfl rfl (Nat.le_of_ble_eq_true rfl) (Nat.le_of_ble_eq_true rfl) (N := 172) rfl rfl ?_
  (iterate 6 ((all_goals (refine go1 ?_)); (all_goals (first | (refine n_guard rfl rfl (fun h => ?_) rfl (fun h => ?_); all_goals ((try simp only [pl] at h); (try (exact absurd h h0)); (try (exfalso; omega)))) | (refine c_cond rfl (fun h => ?_) (fun h => ?_); all_goals ((try simp only [pl] at h); (try (exact absurd h h0)); (try (exfalso; omega)))) | skip))))
  refine c_loop (Nat × Nat) (fun x => [(101, .int .i64 x.1), (100, .int .i64 t.length), (99, .sl t.length (u8s t)), (13, .int .u64 x.2), (12, .bool false), (11, .int .u64 2147483647), (10, .int .u64 1152921504606846976), (9, .str t), (8, .bool false), (2, .int .i64 31), (1, .int .i64 16), (0, .str t)]) (fun _ => []) 0 (fun x => x.1 ≤ t.length ∧ x.2 < 2147483648) (fun x => t.length - x.1) (0, 0) ⟨Nat.zero_le _, by decide⟩ (by dsimp only; exact (vm [] [])) ?_
  rintro ⟨i, n⟩ ⟨hi, hn⟩
  try dsimp only
  dsimp only at hi hn
  by_cases hi' : i < t.length
  ·have hel : SomF (idxL (u8s t) t.length (i : Int)) (.int .u8 ((t.getD i 0).toNat : Int)) := ⟨index_at hi' (by unfold u8s; rw [List.getElem?_map, List.getElem?_eq_getElem hi', List.getD_eq_getElem?_getD, List.getElem?_eq_getElem hi']; rfl)⟩
   have hc := UInt8.toNat_lt (t.getD i 0)
   have cl := lower_m (G := G) _ hc
   have hl := lowN_lt hc
   generalize (t.getD i 0).toNat = c at *
   generalize lowN c = l at *
   by_cases hd : 48 ≤ c ∧ c ≤ 57
   ·(iterate 26 ((all_goals (refine go1 ?_)); (all_goals (first | (refine g_call3 rfl (fun _ h => h) rfl (semR_of_semC (cl)) rfl rfl ?_) | (refine n_guard rfl rfl (fun h => ?_) rfl (fun h => ?_); all_goals ((try simp only [pl] at h); (try (exfalso; omega)))) | (refine c_cond rfl (fun h => ?_) (fun h => ?_); all_goals ((try simp only [pl] at h); (try (exfalso; omega)))) | skip))))
    all_goals try (exact ⟨_, _, _, ⟨⟨⟨0, .ifc 191 (.int .i64 2), rfl, Nat.le_of_ble_eq_true rfl, .inr ⟨2, rfl, .inr rfl⟩⟩, rfl⟩, rfl, rfl⟩, ⟨[_, _], [], [], rfl, rfl, trivial, rfl, ⟨⟨rfl, rfl⟩, .inl ⟨rfl, rfl⟩, trivial⟩, trivial⟩⟩)
    all_goals try (exact ⟨_, _, _, ⟨⟨⟨2147483647, .ifc 191 (.int .i64 1), rfl, Nat.le_of_ble_eq_true rfl, .inr ⟨1, rfl, .inl rfl⟩⟩, rfl⟩, rfl, rfl⟩, ⟨[_, _], [], [], rfl, rfl, trivial, rfl, ⟨⟨rfl, rfl⟩, .inl ⟨rfl, rfl⟩, trivial⟩, trivial⟩⟩)
    all_goals exact ⟨(i + 1, n * 16 + (c - 48)), ⟨by dsimp only; omega, by dsimp only; omega⟩, by dsimp only; omega, (by dsimp only; exact (vm [] []))⟩
   ·(iterate 26 ((all_goals (refine go1 ?_)); (all_goals (first | (refine g_call3 rfl (fun _ h => h) rfl (semR_of_semC (cl)) rfl rfl ?_) | (refine n_guard rfl rfl (fun h => ?_) rfl (fun h => ?_); all_goals ((try simp only [pl] at h); (try (exfalso; omega)))) | (refine c_cond rfl (fun h => ?_) (fun h => ?_); all_goals ((try simp only [pl] at h); (try (exfalso; omega)))) | skip))))
    all_goals try (exact ⟨_, _, _, ⟨⟨⟨0, .ifc 191 (.int .i64 2), rfl, Nat.le_of_ble_eq_true rfl, .inr ⟨2, rfl, .inr rfl⟩⟩, rfl⟩, rfl, rfl⟩, ⟨[_, _], [], [], rfl, rfl, trivial, rfl, ⟨⟨rfl, rfl⟩, .inl ⟨rfl, rfl⟩, trivial⟩, trivial⟩⟩)
    all_goals try (exact ⟨_, _, _, ⟨⟨⟨2147483647, .ifc 191 (.int .i64 1), rfl, Nat.le_of_ble_eq_true rfl, .inr ⟨1, rfl, .inl rfl⟩⟩, rfl⟩, rfl, rfl⟩, ⟨[_, _], [], [], rfl, rfl, trivial, rfl, ⟨⟨rfl, rfl⟩, .inl ⟨rfl, rfl⟩, trivial⟩, trivial⟩⟩)
    all_goals exact ⟨(i + 1, n * 16 + (l - 97 + 10)), ⟨by dsimp only; omega, by dsimp only; omega⟩, by dsimp only; omega, (by dsimp only; exact (vm [] []))⟩
  ·obtain rfl : i = t.length := by omega
   (iterate 6 ((all_goals (refine go1 ?_)); (all_goals (first | (refine n_guard rfl rfl (fun h => ?_) rfl (fun h => ?_); all_goals ((try simp only [pl] at h); (try (exfalso; omega)))) | (refine c_cond rfl (fun h => ?_) (fun h => ?_); all_goals ((try simp only [pl] at h); (try (exfalso; omega)))) | skip))))
   all_goals exact ⟨_, _, _, ⟨⟨⟨n, .nili, rfl, hn, .inl rfl⟩, rfl⟩, rfl, rfl⟩, ⟨[_, _], [], [], rfl, rfl, trivial, rfl, ⟨⟨rfl, rfl⟩, ⟨rfl, rfl⟩, trivial⟩, trivial⟩⟩
end
end
section
open Go.ChangeShapes Go.WideShapes Go.ChangeAt Go.RowKit
theorem own : ownKnob Tryz.prog.godebug = none := by kernel_rfl
theorem laidOut : laidOutB Tryz.prog = true := by kernel_rfl
noncomputable abbrev laidL : List (String × DataW Unit) := Rows.consoleQuotesRow.laid
theorem first_eq : Rows.laid_unicode_utf8_first = Lib.firstData := by kernel_rfl
theorem accept_eq : (Rows.laid_unicode_utf8_acceptRanges : DataW Unit) = Lib.acceptData := by kernel_rfl
theorem tab_of_reads {W : World} {name : String} {k : IntKind} {zs : List Int} {g : Nat} {t e : TypeId} {n : Nat}
  (hg : Tryz.prog.globalNamed name = some g) (hty : (Tryz.prog.globals[g]?).map (·.type) = some t) (ht : Tryz.prog.underlying t = some (.array n e)) (he : Tryz.prog.underlying e = some (.int k)) (hce : Tryz.prog.cellsOf e = 1) (hct : Tryz.prog.cellsOf t = n)
  (h : Lib.VarReads Tryz.prog W name (Lib.tabData k zs)) : Lib.TabIs Tryz.prog W name k zs := by
 obtain ⟨g', t', cs, fuel, p, hg', ht', hvar, hd⟩ := h
 obtain rfl := Option.some.inj (hg.symm.trans hg')
 obtain rfl := Option.some.inj (hty.symm.trans ht')
 unfold Lib.TabIs
 rw [hvar, ← Lib.cells_of_tab ht he hce hct hd]
theorem rowES (u : TypeId) (h : Tryz.prog.typeName? 3 u = some "*errors.errorString") : u = 323 :=
 typeName_ptr_named (nm := "errors.errorString") (by rw [show "*" ++ "errors.errorString" = "*errors.errorString" by decide]; kernel_rfl) (by kernel_rfl) (by decide) u (by rw [show "*" ++ "errors.errorString" = "*errors.errorString" by decide]; exact h)
theorem cell_of_var {W : World} {n : String} {g c : Nat} {cs : Array Value} (hg : Tryz.prog.globalNamed n = some g) (hv : W.var? Tryz.prog n = some cs) {v : Value} (h : cs[c]? = some v) : W.cell? ⟨g, c, none⟩ = some v := by
 rw [World.var?_cell hg hv c, h]
theorem libOK_of {W : World} (hL : laidMet Tryz.prog laidL W) (_hs : W.ShapedOpen Tryz.prog) : GX.ok W where
 pow := tab_of_reads (g := 2) (t := 199) (e := 33) (n := 20) (by kernel_rfl) (by kernel_rfl) (by kernel_rfl) (by kernel_rfl) (by kernel_rfl) (by kernel_rfl)
  (Lib.laidMet.reads hL (List.Mem.tail _ (List.Mem.tail _ (List.Mem.head _))))
 tab := by
  have h : Lib.TabIs Tryz.prog W "math/bits.deBruijn64tab" .u8 (Lib.deBruijn64tab.map fun n : Nat => (n : Int)) := tab_of_reads (g := 7) (t := 326) (e := 5) (n := 64) (by kernel_rfl) (by kernel_rfl) (by kernel_rfl) (by kernel_rfl) (by kernel_rfl) (by kernel_rfl)
   (Lib.laidMet.reads hL (List.Mem.tail _ (List.Mem.head _)))
  exact cell_of_var (by kernel_rfl) h rfl
 syn := by
  obtain ⟨a, s, hv, _⟩ := laid_sentinel hL.tail.tail.tail.tail.tail (g := 4) (ti := 55) (by kernel_rfl) (by kernel_rfl) Tryz.underlying55 rowES Tryz.underlying323 Tryz.underlying325 rfl rfl (ts := 9) Tryz.underlying9 (by kernel_rfl) (by kernel_rfl)
  exact ⟨_, _, cell_of_var (by kernel_rfl) hv rfl⟩
 rng := by
  obtain ⟨a, s, hv, _⟩ := laid_sentinel hL.tail.tail.tail.tail (g := 5) (ti := 55) (by kernel_rfl) (by kernel_rfl) Tryz.underlying55 rowES Tryz.underlying323 Tryz.underlying325 rfl rfl (ts := 9) Tryz.underlying9 (by kernel_rfl) (by kernel_rfl)
  exact ⟨_, _, cell_of_var (by kernel_rfl) hv rfl⟩
 utf := utf8Tabs_of_readsT (U8Types.of260 Tryz.lays260) ⟨by kernel_rfl, by kernel_rfl, by kernel_rfl, by kernel_rfl, by kernel_rfl, by kernel_rfl, by kernel_rfl⟩
  (by rw [← first_eq]; exact Lib.laidMet.reads hL (List.Mem.tail _ (List.Mem.tail _ (List.Mem.tail _ (List.Mem.tail _ (List.Mem.tail _ (List.Mem.tail _ (List.Mem.head _))))))))
  (by rw [← accept_eq]; exact Lib.laidMet.reads hL (List.Mem.tail _ (List.Mem.tail _ (List.Mem.tail _ (List.Mem.head _)))))
noncomputable abbrev laidW (os : Os) : World := World.laidAll Tryz.prog os laidL
theorem witness_zip {C : Checked} {os : Os} {f : FuncId} {fn : Func} {H : Type} {enc : TypeId × Value → H} {s : OpenSpec} {conds : List PathCond} {apart : Bool} {laid : List (String × DataW Unit)} (w0 : World) (hos : w0.os = os) (args : Array Value)
  (hsh : (w0.forCall (fun _ _ => 0) ⟨#[], args, []⟩).Shaped C.prog)
  (hok : Input.okWideB C.prog (w0.forCall (fun _ _ => 0) ⟨#[], args, []⟩) f ⟨#[], args, []⟩ = true)
  (hrow : s.preRow enc C.prog fn conds apart laid (w0.forCall (fun _ _ => 0) ⟨#[], args, []⟩).memory args) :
  ∃ (w : World) (tape : Tape) (i : Input), w.os = os ∧ (w.forCall tape i).Shaped C.prog ∧ i.vars = [] ∧ Input.okWide C.prog (w.forCall tape i) .any w.heap.size f i ∧
   s.preRow enc C.prog fn conds apart laid (w.forCall tape i).memory i.args ∧ ({} : Assume).holds C.prog (lone (Frame.enter C.prog f i.args .normal) [] (w.forCall tape i)) :=
 ⟨w0, fun _ _ => 0, ⟨#[], args, []⟩, hos, hsh, (Input.okWide_of_okWideB (base := 0) hok).1, (Input.okWide_of_okWideB hok).2, hrow, by
  simp only [Assume.holds]
  exact ⟨by simp, by simp, by simp, by simp, by simp⟩⟩
theorem shapedW (os : Os) (args : Array Value) : ((laidW os).forCall (fun _ _ => 0) ⟨#[], args, []⟩).Shaped Tryz.prog := World.shaped_of_ZipB (by kernel_rfl) (by kernel_rfl)
theorem laid_met (os : Os) (args : Array Value) : laidMet Tryz.prog laidL ((laidW os).forCall (fun _ _ => 0) ⟨#[], args, []⟩).memory := laidMet_laidAll args (by kernel_rfl) (by kernel_rfl)
theorem opn_u8 : Opn Tryz.prog 5 1 fun m => ∃ n, m = .int .u8 n ∧ (Lit.int .u8 n).wf = true := Opn.int Tryz.underlying5 (by kernel_rfl)
theorem opn_bytes : Opn Tryz.prog 22 1 fun m => ∃ l, m = .sl l.length l ∧ (∀ x ∈ l, ∃ n, x = .int .u8 n ∧ (Lit.int .u8 n).wf = true) ∧ l.length ≤ 140737488355328 := Opn.slice Tryz.underlying22 (by kernel_rfl) (Nat.le_of_ble_eq_true (by kernel_rfl)) (by omega) opn_u8
theorem bytes_lift {m : MV} (h : ∃ l, m = .sl l.length l ∧ (∀ x ∈ l, ∃ n, x = .int .u8 n ∧ (Lit.int .u8 n).wf = true) ∧ l.length ≤ 140737488355328) : ∃ xs : List UInt8, m = .sl xs.length (u8s xs) ∧ xs.length ≤ 140737488355328 := by
 obtain ⟨l, rfl, h, hl⟩ := h
 obtain ⟨us, hu, _⟩ := lift_list (f := fun b : UInt8 => MV.int .u8 b.toNat) (R := fun _ => True) l fun x hx => by
  obtain ⟨n, rfl, hw⟩ := h x hx
  simp [Lit.wf, IntKind.min, IntKind.max, IntKind.bits, IntKind.signed] at hw
  refine ⟨UInt8.ofNat n.toNat, ?_, trivial⟩
  congr 1
  rw [UInt8.toNat_ofNat', Nat.mod_eq_of_lt (by omega)]
  omega
 subst hu
 exact ⟨us, by unfold u8s; rw [List.length_map], by simpa using hl⟩
theorem opn_strC : Opn Tryz.prog 9 1 fun m => ∃ s, m = .str s ∧ s.length ≤ 140737488355328 := Opn.str Tryz.underlying9 (by kernel_rfl)
theorem opn_i32 : Opn Tryz.prog 21 1 fun m => ∃ n, m = .int .i32 n ∧ (Lit.int .i32 n).wf = true := Opn.int Tryz.underlying21 (by kernel_rfl)
theorem opn_runes : Opn Tryz.prog 29 1 fun m => ∃ l, m = .sl l.length l ∧ (∀ x ∈ l, ∃ n, x = .int .i32 n ∧ (Lit.int .i32 n).wf = true) ∧ l.length ≤ 140737488355328 := Opn.slice Tryz.underlying29 (by kernel_rfl) (Nat.le_of_ble_eq_true (by kernel_rfl)) (by omega) opn_i32
theorem runes_lift {m : MV} (h : ∃ l, m = .sl l.length l ∧ (∀ x ∈ l, ∃ n, x = .int .i32 n ∧ (Lit.int .i32 n).wf = true) ∧ l.length ≤ 140737488355328) : ∃ xs : List Int, m = .sl xs.length (xs.map (MV.int .i32)) ∧ xs.length ≤ 140737488355328 := by
 obtain ⟨l, rfl, h, hl⟩ := h
 obtain ⟨us, rfl, _⟩ := lift_list l h
 exact ⟨us, by rw [List.length_map], by simpa using hl⟩
end
end Go.Proofs.YtbiaaogbohfimaaGreatDoor
