/- Parts of a proof, one behind the other: EV3, EV4, M33, M34, M35, KL, Seat, S0, S2, U32, K, A1, B1, B2, B3, B4, B5, H1, H2. -/
import Derived.Test.YtmeeeigfjlbnkaaGreatProg
import Derived.Test.YtmeeeigfjlbnkaaGreatW06
namespace Go.Proofs.YtmeeeigfjlbnkaaGreat
open Go.RowKit
section
variable {Pg : Program} {T : Tab} {N : Nat} {ents : List FuncId} {G : GS} {ops : Array Oper} {e' : Nat → Option MV} {m' : FM} {w0 : World} {ex0 : Anc} {P0 : Prot} {Q : Exit → Act → World → Prop} {Z : Nat → Prop}
theorem any_okT (hS : SeatM Pg T ents G w0 ex0) {t : Nat} {ot : Oper} {Fin : Act → World → Prop} (ht : ops[t]? = some ot) (hta : ∀ k, k < ops.size → k ≠ t → (∃ ed ∈ ot.after.toList, Region.binds .any ed = true ∧ ed.on = k) ∨ pathO ops 3 t k = true) (hts : ∀ ed ∈ ot.after.toList, Region.binds .any ed = true → ed.on < ops.size ∧ ed.on ≠ t) (hF : ∀ a w, Fin a w → Q .normal a w) (hQ : ∀ K a w, (∀ a w, Fin a w → K a w) → SimS N w0 ex0 P0 e' m' Z a w → wpOp Pg ops Q t K a w) : ∀ (fuel : Nat) (L : List Dop) {listed : Array Bool} {e : Nat → Option MV} {m : FM} {a : Act} {w : World},
    (∃ M, VM.get M = m) → runL Pg T N ents G ops L e m e' m' → L.Pairwise (fun x y => okR ops x y = true) → (∀ x ∈ L, okS ops x.k = true) → L.Pairwise Dj → (∀ x ∈ L, ∀ c, x.own c → ¬ Z c) →
    SimS N w0 ex0 P0 e m (fun c => (∃ x ∈ L, x.own c) ∨ Z c) a w → (∀ k, k < ops.size → (listed.getD k true = false ↔ k ∈ L.map (·.k) ∨ k = t)) → t ∉ L.map (·.k) → listed.size = ops.size → ClosedO ops listed → (∀ x ∈ L, ∀ o, ops[x.k]? = some o → ∀ ed ∈ o.after.toList, Region.binds .any ed = true → ed.on ≠ t) → L.length < fuel → wpAny Pg .any ops Q fuel listed a w := by
  intro fuel
  induction fuel with
  | zero =>
    intro L listed e m a w hv hr hP hA hD hZ hs hl htL hsz hc hTl hlen
    omega
  | succ fuel ih =>
    intro L listed e m a w hv hr hP hA hD hZ hs hl htL hsz hc hTl hlen
    have htlt := (Array.getElem?_eq_some_iff.1 ht).1
    cases L with
    | nil =>
      obtain ⟨rfl, rfl⟩ := hr
      have hrd : t ∈ Region.ready .any ops listed := ready_in ((hl t htlt).2 (.inr rfl)) ht fun ed he hb => by
        obtain ⟨h1, h2⟩ := hts ed he hb
        rw [getD_any (d' := true) (by omega)]
        cases hh : listed.getD ed.on true with
        | true => rfl
        | false =>
          exfalso
          rcases (hl ed.on h1).1 hh with h | h
          · simp at h
          · exact h2 h
      refine ⟨fun h0 => (by rw [h0] at hrd; cases hrd), fun i hi => ?_⟩
      obtain ⟨h1, o, ho, _⟩ := ready_out hi
      have hlt := (Array.getElem?_eq_some_iff.1 ho).1
      have : i = t := by
        rcases (hl i hlt).1 h1 with h | h
        · simp at h
        · exact h
      subst this
      refine hQ _ a w (fun a w hf => wpAny_done (List.eq_nil_iff_forall_not_mem.2 fun j hj => ?_) (hF a w hf) _) (by simpa using hs)
      obtain ⟨h3, o3, ho3, _⟩ := ready_out hj
      have hjlt := (Array.getElem?_eq_some_iff.1 ho3).1
      rw [getD_set (by omega)] at h3
      split at h3
      · cases h3
      · rename_i hne
        rcases (hl j hjlt).1 h3 with h | h
        · simp at h
        · exact hne h.symm
    | cons x0 L0 =>
    generalize hL : x0 :: L0 = L at *
    have hx0 : x0 ∈ L := by rw [← hL]; simp
    have hunl : ∀ x ∈ L, listed.getD x.k true = false ∧ listed.getD x.k false = false := by
      intro x hx
      obtain ⟨o, ho, _⟩ := okS_out (hA x hx)
      have hlt := (Array.getElem?_eq_some_iff.1 ho).1
      have h1 := (hl x.k hlt).2 (.inl (List.mem_map_of_mem hx))
      exact ⟨h1, by rw [getD_any (d' := true) (by omega)]; exact h1⟩
    refine ⟨fun h0 => ?_, fun i hi => ?_⟩
    · cases L with
      | nil => cases hL
      | cons x L =>
        exfalso
        obtain ⟨o, ho, h2⟩ := okS_out (hA x (by simp))
        have : x.k ∈ Region.ready .any ops listed := ready_in (hunl x (by simp)).1 ho fun ed he hb => by
          obtain ⟨h3, h4⟩ := h2 ed he hb
          rw [getD_any (d' := true) (by omega)]
          cases hh : listed.getD ed.on true with
          | true => rfl
          | false =>
            exfalso
            rcases (hl ed.on h3).1 hh with this | this
            rotate_left
            · exact hTl x (by simp) o ho ed he hb this
            simp only [List.map_cons, List.mem_cons] at this
            rcases this with h5 | h5
            · exact h4 h5
            · obtain ⟨y, hy, hyk⟩ := List.mem_map.1 h5
              obtain ⟨a', b', p1, p2, p3, p4, p5⟩ := okR_out ((List.pairwise_cons.1 hP).1 y hy)
              rw [ho] at p1
              injection p1 with p1
              subst p1
              exact p4 ed he hb hyk.symm
        rw [h0] at this
        cases this
    · obtain ⟨h1, o, ho, hready⟩ := ready_out hi
      have hlt := (Array.getElem?_eq_some_iff.1 ho).1
      have hmem : i ∈ L.map (·.k) := by
        rcases (hl i hlt).1 h1 with h | h
        · exact h
        · exfalso
          subst h
          rw [ht] at ho
          injection ho with ho
          subst ho
          obtain ⟨ox, hox, _⟩ := okS_out (hA x0 hx0)
          have hp := hta x0.k (Array.getElem?_eq_some_iff.1 hox).1 (fun e => htL (e ▸ List.mem_map_of_mem hx0))
          rcases hp with ⟨ed, he, hb, hon⟩ | hp
          rotate_left
          · rw [pathO_false hc (hunl x0 hx0).2 3 i ot ht hready] at hp; cases hp
          have h5 := hready ed he hb
          rw [hon, (hunl x0 hx0).2] at h5
          cases h5
      obtain ⟨k, hk, rfl⟩ := List.mem_map.1 hmem
      obtain ⟨L1, L2, rfl⟩ := List.append_of_mem hk
      have hP1 := List.pairwise_append.1 hP
      have hD1 := List.pairwise_append.1 hD
      have hD2 := List.pairwise_cons.1 hD1.2.1
      have hP2 := List.pairwise_cons.1 hP1.2.1
      have hne1 : ∀ x ∈ L1, Dj x k := fun x hx => hD1.2.2 x hx k (by simp)
      have hne2 : ∀ x ∈ L2, Dj k x := fun x hx => hD2.1 x hx
      obtain ⟨o', e1, m1, p1, p2, p3⟩ := runL_front hv hr (fun x hx => by
          obtain ⟨a', b', q1, q2, q3, _⟩ := okR_out (hP1.2.2 x hx k (by simp))
          refine ⟨a', b', q1, q2, ?_⟩
          rcases q3 with q3 | q3
          · exact q3
          · rw [pathO_false hc (hunl x (by simp [hx])).2 8 k.k o ho hready] at q3; cases q3)
        (fun x hx => ⟨hne1 x hx, hs.fresh _ (.inl ⟨x, by simp [hx], .inl rfl⟩)⟩) (hs.fresh _ (.inl ⟨k, by simp, .inl rfl⟩)) hD1.1
      rw [ho] at p1
      injection p1 with p1
      subst p1
      have hv1 : ∃ M, VM.get M = m1 := by obtain ⟨M, rfl⟩ := hv; exact step_vm p2
      unfold wpOp
      rw [ho]
      refine stepF_out (F' := fun c => (∃ x ∈ L1 ++ L2, x.own c) ∨ Z c) hS hs (.inl ⟨k, by simp, .inl rfl⟩) (fun h => .inl ⟨k, by simp, .inr ⟨rfl, h⟩⟩) (fun c hc' => ?_) p2 fun a' w' hs' => ?_
      · rcases hc' with ⟨x, hx, ho'⟩ | hc'
        · rcases List.mem_append.1 hx with hx | hx
          · exact ⟨.inl ⟨x, by simp [hx], ho'⟩, hne1 x hx c ho'⟩
          · exact ⟨.inl ⟨x, by simp [hx], ho'⟩, fun h => hne2 x hx c h ho'⟩
        · exact ⟨.inr hc', fun hh => hZ k hk c hh hc'⟩
      · have hnk : ∀ j, j ∈ (L1 ++ L2).map (·.k) → k.k ≠ j := by
          intro j hj
          obtain ⟨y, hy, rfl⟩ := List.mem_map.1 hj
          rcases List.mem_append.1 hy with hy | hy
          · obtain ⟨_, _, _, _, _, _, q⟩ := okR_out (hP1.2.2 y hy k (by simp)); exact fun h => q h.symm
          · obtain ⟨_, _, _, _, _, _, q⟩ := okR_out (hP2.1 y hy); exact q
        refine ih (L1 ++ L2) hv1 p3 ?_ (fun x hx => hA x ?_) ?_ (fun x hx => hZ x ?_) hs' (fun j hj => ?_) (fun h => htL ?_) (by simpa using hsz) ?_ (fun x hx => hTl x ?_) ?_
        · exact List.pairwise_append.2 ⟨hP1.1, hP2.2, fun x hx y hy => hP1.2.2 x hx y (by simp only [List.mem_cons]; exact .inr hy)⟩
        · rcases List.mem_append.1 hx with hx | hx <;> simp [hx]
        · exact List.pairwise_append.2 ⟨hD1.1, hD2.2, fun x hx y hy => hD1.2.2 x hx y (by simp only [List.mem_cons]; exact .inr hy)⟩
        · rcases List.mem_append.1 hx with hx | hx <;> simp [hx]
        · rw [getD_set (by omega)]
          by_cases hkj : k.k = j
          · rw [if_pos hkj]
            refine ⟨fun h => (by cases h), fun h => ?_⟩
            rcases h with h | h
            · exact absurd hkj (hnk j h)
            · exfalso; apply htL; rw [← h, ← hkj]; exact List.mem_map_of_mem (by simp)
          · rw [if_neg hkj, hl j hj]
            simp only [List.map_append, List.map_cons, List.mem_append, List.mem_cons]
            constructor
            · rintro ((h | h | h) | h)
              · exact .inl (.inl h)
              · exact absurd h.symm hkj
              · exact .inl (.inr h)
              · exact .inr h
            · rintro ((h | h) | h)
              · exact .inl (.inl h)
              · exact .inl (.inr (.inr h))
              · exact .inr h
        · simp only [List.map_append, List.map_cons, List.mem_append, List.mem_cons] at h ⊢
          rcases h with h | h
          · exact .inl h
          · exact .inr (.inr h)
        · intro j oj hj hjl ed he hb
          rw [getD_set (by omega)] at hjl ⊢
          split
          · rfl
          · split at hjl
            · rename_i hkj
              subst hkj
              rw [ho] at hj
              injection hj with hj
              subst hj
              exact hready ed he hb
            · exact hc j oj hj hjl ed he hb
        · rcases List.mem_append.1 hx with hx | hx <;> simp [hx]
        · simp only [List.length_append, List.length_cons] at hlen ⊢
          omega
end
end Go.Proofs.YtmeeeigfjlbnkaaGreat
namespace Go.Proofs.YtmeeeigfjlbnkaaGreat
open Go.RowKit
mutual
def ptrsV : MV → List Nat
  | .ptr c .. => [c]
  | .mp c => [c]
  | .st l => bif MV.idFrees l then [] else ptrsVs l
  | .fn _ l => bif MV.idFrees l then [] else ptrsVs l
  | .ifc _ v => bif v.idFree then [] else ptrsV v
  | _ => []
def ptrsVs : List MV → List Nat
  | [] => []
  | m :: l => ptrsV m ++ ptrsVs l
end
def reach (M : VM) : Nat → List Nat → List Nat → List Nat
  | 0, _, s => s
  | _, [], s => s
  | k + 1, c :: t, s => bif s.any (Nat.beq c) then reach M k t s else match VM.get M c with
    | some b => reach M k ((bif b.row || isMpv b.l then [] else numsVs b.l) ++ t) (c :: s)
    | none => reach M k t s
def newOf (n : Nat) : List MV → Option Nat
  | [] => none
  | .ms c .. :: l => bif Nat.ble n c then some c else newOf n l
  | .ptr c .. :: l => bif Nat.ble n c then some c else newOf n l
  | .mp c :: l => bif Nat.ble n c then some c else newOf n l
  | _ :: l => newOf n l
def pairS (l : List Nat) : Bs := l.map fun c => (c, c)
def newS (n : Nat) : Option Nat → Bs
  | some c => [(n, c)]
  | none => []
def kapR (n : Nat) (k : Option Nat) (c : Nat) : Option Nat := bif Nat.blt c n then some c else match k with
  | some x => bif Nat.beq c x then some n else none
  | none => none
def gotS (n : Nat) (M : VM) : Option Nat → Bs
  | some c => match VM.get M c with
    | some _ => [(n, c)]
    | none => []
  | none => []
def isVC (o : Oper) : Bool := match o.op with
  | .call c => match c.callee with
    | .value _ => true
    | _ => false
  | _ => false
def okPr (ops : Array Oper) (i j : Nat) : Bool := match ops[i]?, ops[j]? with
  | some a, some b => ((a.apart ops b && ((!isVC a && !isVC b && okC (kls a) (kls b)) || (!isVC b && Nat.beq (kls b) 0 || !isVC a && Nat.beq (kls a) 0))) || pathO ops 8 j i) && a.after.toList.all (fun e => !Region.binds .any e || !Nat.beq e.on j) && !Nat.beq i j
  | _, _ => false
def badFrom (ops : Array Oper) (i : Nat) : List Nat → List (Nat × Nat)
  | [] => []
  | j :: l => bif okPr ops i j then badFrom ops i l else (i, j) :: badFrom ops i l
def badPrs (ops : Array Oper) : List Nat → List (Nat × Nat)
  | [] => []
  | i :: l => badFrom ops i l ++ badPrs ops l
def sameNs : List Nat → List Nat → Bool
  | [], [] => true
  | a :: l, b :: r => Nat.beq a b && sameNs l r
  | _, _ => false
def dynOK (ops : Array Oper) (D : List Dop) (ps : List (Nat × Nat)) : Bool := ps.all fun p => match D[p.1]?, D[p.2]? with
  | some x, some y => okR ops x y
  | _, _ => false
def okDr (ops : Array Oper) (D : List Dop) (n m : Nat) : Bool := (List.range m).all (okS ops) && sameNs (D.map (·.k)) (List.range m) && D.all (fun x => !x.rf || match ops[x.k]? with | some o => isVC o | none => false) && dynOK ops D (badPrs ops (List.range m)) && okTwo D n
theorem sameNs_ok : ∀ {l r : List Nat}, sameNs l r = true → l = r
  | [], [], _ => rfl
  | a :: l, b :: r, h => by
    unfold sameNs at h
    rw [Bool.and_eq_true] at h
    rw [Nat.eq_of_beq_eq_true h.1, sameNs_ok h.2]
  | [], _ :: _, h => by cases h
  | _ :: _, [], h => by cases h
theorem badFrom_ok {ops : Array Oper} {i : Nat} : ∀ {l : List Nat} {j : Nat}, j ∈ l → okPr ops i j = true ∨ (i, j) ∈ badFrom ops i l
  | k :: l, j, h => by
    unfold badFrom
    cases hk : okPr ops i k with
    | true =>
      rcases List.mem_cons.1 h with rfl | h
      · exact .inl hk
      · exact badFrom_ok h
    | false =>
      rcases List.mem_cons.1 h with rfl | h
      · exact .inr (List.mem_cons_self ..)
      · exact (badFrom_ok h).imp id (List.mem_cons_of_mem _)
theorem badPrs_ok {ops : Array Oper} : ∀ (l : List Nat), l.Pairwise fun i j => okPr ops i j = true ∨ (i, j) ∈ badPrs ops l
  | [] => .nil
  | i :: l => by
    refine List.pairwise_cons.2 ⟨fun j hj => (badFrom_ok hj).imp id (List.mem_append_left _), (badPrs_ok l).imp fun h => h.imp id (List.mem_append_right _)⟩
theorem okLs_of {ops : Array Oper} : ∀ {D : List Dop}, D.Pairwise (fun x y => okR ops x y = true) → (∀ x ∈ D, okS ops x.k = true) → okLs ops D = true
  | [], _, _ => rfl
  | x :: D, h, k => by
    obtain ⟨h1, h2⟩ := List.pairwise_cons.1 h
    unfold okLs
    rw [k x (by simp), okLs_of h2 fun y hy => k y (by simp [hy]), List.all_eq_true.2 h1]
    rfl
theorem okPr_R {ops : Array Oper} {x y : Dop} (h : okPr ops x.k y.k = true) (hx : x.rf = true → ∃ o, ops[x.k]? = some o ∧ isVC o = true) (hy : y.rf = true → ∃ o, ops[y.k]? = some o ∧ isVC o = true) : okR ops x y = true := by
  unfold okPr at h
  unfold okR
  split at h
  · rename_i a b ha hb
    simp only [ha, hb]
    have rx : isVC a = false → x.rf = false := fun hc => by
      cases hr : x.rf with
      | false => rfl
      | true => obtain ⟨o, h1, h2⟩ := hx hr; rw [ha] at h1; injection h1 with h1; subst h1; rw [hc] at h2; cases h2
    have ry : isVC b = false → y.rf = false := fun hc => by
      cases hr : y.rf with
      | false => rfl
      | true => obtain ⟨o, h1, h2⟩ := hy hr; rw [hb] at h1; injection h1 with h1; subst h1; rw [hc] at h2; cases h2
    simp only [Bool.and_eq_true, Bool.or_eq_true, Bool.not_eq_true'] at h ⊢
    refine ⟨⟨?_, h.1.2⟩, h.2⟩
    rcases h.1.1 with ⟨h1, h2⟩ | h1
    · refine .inl ⟨h1, ?_⟩
      unfold okC2
      simp only [Bool.and_eq_true, Bool.or_eq_true, Bool.not_eq_true']
      rcases h2 with ⟨⟨h3, h4⟩, h5⟩ | ⟨h3, h4⟩ | ⟨h3, h4⟩
      · exact .inl ⟨⟨rx h3, ry h4⟩, h5⟩
      · exact .inr (.inr (.inl ⟨ry h3, h4⟩))
      · exact .inr (.inr (.inr ⟨rx h3, h4⟩))
    · exact .inr h1
  · cases h
theorem okDr_out {ops : Array Oper} {D : List Dop} {n m : Nat} (h : okDr ops D n m = true) : D.Pairwise (fun x y => okR ops x y = true) ∧ (∀ x ∈ D, okS ops x.k = true) ∧ okTwo D n = true ∧ D.map (·.k) = List.range m := by
  unfold okDr at h
  simp only [Bool.and_eq_true] at h
  obtain ⟨⟨⟨⟨h1, h2⟩, h3⟩, h4⟩, h5⟩ := h
  have h2 := sameNs_ok h2
  have hlen : D.length = m := by have := congrArg List.length h2; simpa using this
  have hk : ∀ (i : Nat) (hi : i < D.length), D[i].k = i := fun i hi => by
    have := congrArg (fun l => l[i]?) h2
    simp only [List.getElem?_map, List.getElem?_eq_getElem hi, Option.map_some] at this
    rw [List.getElem?_eq_getElem (by simpa using (hlen ▸ hi))] at this
    simpa using this
  have hrf : ∀ x ∈ D, x.rf = true → ∃ o, ops[x.k]? = some o ∧ isVC o = true := fun x hx hr => by
    have := List.all_eq_true.1 h3 x hx
    rw [hr] at this
    simp only [Bool.not_true, Bool.false_or] at this
    split at this
    · rename_i o ho; exact ⟨o, ho, this⟩
    · cases this
  refine ⟨?_, fun x hx => ?_, h5, h2⟩
  · rw [List.pairwise_iff_getElem]
    intro i j hi hj hij
    have hb := (List.pairwise_iff_getElem.1 (badPrs_ok (ops := ops) (List.range m))) i j (by simpa using (hlen ▸ hi)) (by simpa using (hlen ▸ hj)) hij
    simp only [List.getElem_range] at hb
    rcases hb with hb | hb
    · refine okPr_R (by rw [hk i hi, hk j hj]; exact hb) (hrf _ (List.getElem_mem _)) (hrf _ (List.getElem_mem _))
    · have := List.all_eq_true.1 h4 _ hb
      simp only [List.getElem?_eq_getElem hi, List.getElem?_eq_getElem hj] at this
      exact this
  · obtain ⟨i, hi, rfl⟩ := List.getElem_of_mem hx
    rw [hk i hi]
    exact List.all_eq_true.1 h1 i (by simpa using (hlen ▸ hi))
theorem okDr_ok {ops : Array Oper} {D : List Dop} {n : Nat} (h : okDr ops D n ops.size = true) : okDraw ops D n = true := by
  obtain ⟨h1, h2, h3, h4⟩ := okDr_out h
  have hlen : D.length = ops.size := by have := congrArg List.length h4; simpa using this
  unfold okDraw
  rw [okLs_of h1 h2, h3, h4]
  simp [hlen]
def tailOK (ops : Array Oper) (t : Nat) : Bool := match ops[t]? with
  | some o => (List.range ops.size).all (fun k => Nat.beq k t || (o.after.toList.any (fun e => Region.binds .any e && Nat.beq e.on k) || pathO ops 3 t k)) && okS ops t && (List.range ops.size).all (fun k => match ops[k]? with | some o' => Nat.beq k t || o'.after.toList.all (fun e => !Region.binds .any e || !Nat.beq e.on t) | none => false)
  | none => false
def putM (n : Nat) (R : List Nat) (M2 M : VM) (bs : Bs) : VM := match R, M2, bs with
  | [], [], [] => M
  | R, M2, bs => renM (rhoZ n n (pairS R)) M2 ++ delM (VM.bump M bs) (pairS R)
theorem putM_eq {n : Nat} {R : List Nat} {M2 M : VM} {bs : Bs} : putM n R M2 M bs = renM (rhoZ n n (pairS R)) M2 ++ delM (VM.bump M bs) (pairS R) := by
  unfold putM
  split <;> rfl
def cutM (n : Nat) : List MV → VM → VM
  | [], M => M
  | .ms c _ 0 k :: l, M => match VM.get M c with
    | some b => bif Nat.ble n c && b.row && Nat.ble b.pe k && Nat.blt k b.l.length then cutM n l (VM.upd M c (b.l.take k)) else cutM n l M
    | none => cutM n l M
  | _ :: l, M => cutM n l M
theorem cutM_ok {Pg : Program} {G : GS} {f : FuncId} {args : List MV} {M0 : VM} {n0 n1 : Nat} {res : MV} {n : Nat} : ∀ (l : List MV) {M1 : VM}, SemR Pg G f args M0 n0 res M1 n1 → SemR Pg G f args M0 n0 res (cutM n l M1) n1
  | [], _, h => h
  | m :: l, M1, h => by
    unfold cutM
    split
    · exact h
    · rename_i M' c es k l' e
      injection e with e1 e2
      subst e1; subst e2
      split
      · rename_i b hb
        cases hc : (Nat.ble n c && b.row && Nat.ble b.pe k && Nat.blt k b.l.length) with
        | false => exact cutM_ok l h
        | true =>
          simp only [Bool.and_eq_true, Nat.ble_eq] at hc
          obtain ⟨⟨⟨_, q1⟩, q2⟩, q3⟩ := hc
          refine cutM_ok l ?_
          intro w P adr vals a1 a2 a3 a4 a5
          refine Calls.mono (h w P adr vals a1 a2 a3 a4 a5) ?_
          rintro e w' ⟨v, h1, P', adr', hI, h2⟩
          exact ⟨v, h1, P', adr', (inv_cut hb q1 q2 (by simpa [Nat.blt_eq] using q3)).2 hI, h2⟩
      · exact cutM_ok l h
    · rename_i e
      injection e with e1 e2
      subst e1; subst e2
      exact cutM_ok _ h
section
variable (Pg : Program) (T : Tab) (N : Nat) (ents : List FuncId)
def gCallZ (ra : Bool) (cf : CallF) (M : VM) (n : Nat) (f : FuncId) (vs : List MV) : Option (MV × VM × List Nat) := match reach M 1000 (bif ra then numsVs vs else ptrsVs vs ++ looseR 0 M (msVs vs) []) [] with
  | R => match mkAll 0 (pairS R) (fun c => bif R.any (Nat.beq c) then some c else none) M false (pairS R) vs with
    | some (args, M0, bs) => bif okSg 0 n (pairS R) && M0.all (fun x => Nat.blt x.1 n) && allIn M (pairS R) then (match cf f args M0 n with
      | some (res0, M10, _) => (match tight n res0 M10 (newOf n (comps res0)) with
        | some (res, M11, _) => (match cutM n (comps res) M11, newOf n (comps res) with
          | M1, k => (match mkAll n (newS n k) (kapR n k) M1 false (oldS n M1 ++ gotS n M1 k) (comps res) with
            | some (rv, M2, _) => bif okSg n (n + (newS n k).length) (newS n k) && M2.all (fun x => Nat.blt x.1 (n + (newS n k).length)) && okCo res && okNew (pairS R) n (n + (newS n k).length) M2 && Nat.ble (n + (newS n k).length) (n + 1) && subN ((pairS R).map (·.2)) (R ++ bs.map (·.1)) && subN (bs.map (·.1)) (R ++ bs.map (·.1)) then
              fD (renV (rhoZ n n (pairS R)) (tupM rv)) fun r => some (r, putM n R M2 M bs, R ++ bs.map (·.1)) else none
            | none => none))
        | none => none)
      | none => none) else none
    | none => none
def gEop (o : Oper) (E : VE) (M : VM) (n : Nat) : Option (Bool × MV × VM × List Nat) := match eG Pg T E M n o with
  | some (r, δ) => some (false, r, δ.app n M, numsO (VE.get E) o.op.operands.toList)
  | none => none
def gRunD (bv : FuncId → Nat) (cf : CallF) (o : Oper) (E : VE) (M : VM) (n : Nat) : Option (Bool × MV × VM × List Nat) := match o.op with
  | .call c => match c.callee with
    | .value f => match (vArgs E f c.args.toList).get with
      | some (f0, vs) => match ents.contains f0 with
        | true => match Nat.beq (bv f0) 1 with
          | true => match (vCall E M f c.args.toList).get with
            | some (f1, us, bs) => match ents.contains f1 with
              | true => match gByVal cf f1 us with
                | some r => some (false, r, VM.bump M bs, numsO (VE.get E) o.op.operands.toList)
                | none => none
              | false => none
            | none => none
          | false => match gCallZ (Nat.beq (bv f0) 2) cf M n f0 vs with
            | some (r, M', fp) => some (true, r, M', fp)
            | none => none
        | false => none
      | none => none
    | _ => gEop Pg T o E M n
  | _ => gEop Pg T o E M n
def gDoD (bv : FuncId → Nat) (cf : CallF) (o : Oper) (E : VE) (M : VM) (n : Nat) : Option (Bool × List Nat × VE × VM) := match gRunD Pg T ents bv cf o E M n with
  | some (rf, r, M, fp) => fW o.op r fun r => match gPut N o.dst r E with
    | some E => some (rf, fp, E, M)
    | none => none
  | none => none
def gSkipD (o : Oper) (E0 E : VE) (M : VM) : Option (Bool × List Nat × VE × VM) := match gPut N o.dst .undef E with
  | some E' => some (false, numsO (VE.get E0) o.op.operands.toList, E', M)
  | none => none
def gOpD (bv : FuncId → Nat) (cf : CallF) (ops : Array Oper) (o : Oper) (E : VE) (M : VM) (n : Nat) : Option (Bool × List Nat × VE × VM) := match o.guard with
  | none => gDoD Pg T N ents bv cf o E M n
  | some (j, want) => match (ops[j]?).bind (·.dst) with
    | none => none
    | some s => match VE.get E s with
      | some (.bool t) => match bEq t want with
        | true => gDoD Pg T N ents bv cf o ((s, .bool want) :: E) M n
        | false => gSkipD N o E ((s, .bool (!want)) :: E) M
      | some .undef => gSkipD N o E E M
      | _ => none
def gOpsD (bv : FuncId → Nat) (cf : CallF) (ops : Array Oper) : List Nat → List Dop → VE → VM → Nat → Option (VE × VM × Nat × List Dop)
  | [], A, E, M, n => some (E, M, n, A)
  | x :: L, A, E, M, n => match ops[x]? with
    | some o => match gOpD Pg T N ents bv cf ops o E M n with
      | some (rf, fp, E, M) => fN (n + 1) fun n' => gOpsD bv cf ops L (⟨x, n, rf, fp⟩ :: A) E M n'
      | none => none
    | none => none
def gDrA (bv : FuncId → Nat) (cf : CallF) (ops : Array Oper) (E : VE) (M : VM) (n : Nat) : Option (VE × VM × Nat) := match gOpsD Pg T N ents bv cf ops (List.range ops.size) [] E M n with
  | some (E, M, n, A) => bif okDr ops A.reverse n ops.size then some (E, M, n) else none
  | none => none
def gDrT (bv : FuncId → Nat) (cf : CallF) (ops : Array Oper) (t : Nat) (E : VE) (M : VM) (n : Nat) : Option (VE × VM × Nat) := match gOpsD Pg T N ents bv cf ops (List.range t) [] E M n with
  | some (E, M, n, A) => bif okDr ops A.reverse n t then (match ops[t]? with
    | some o => gOpF Pg T N ents bv cf ops o E M n
    | none => none) else none
  | none => none
def gDr (bv : FuncId → Nat) (cf : CallF) (ops : Array Oper) (E : VE) (M : VM) (n : Nat) : Option (VE × VM × Nat) := match ops.size with
  | 0 => none
  | t + 1 => bif tailOK ops t && Nat.beq (t + 1) ops.size then gDrT Pg T N ents bv cf ops t E M n else gDrA Pg T N ents bv cf ops E M n
abbrev TblF := FuncId → List MV → VM → Nat → Option (Option (MV × VM × Nat))
def gEv (tb : TblF) (bv : FuncId → Nat) (pr : FuncId → Nat → MV → VM → Nat → Bool) (lf : Nat) : Nat → CallF
  | 0 => fun _ _ _ _ => none
  | k + 1 => fun f vs M n => match tb f vs M n with
    | some r => r
    | none => gF Pg T ents bv (fun N cf => gDr Pg T N ents bv cf) pr lf (gEv tb bv pr lf k) f vs M n
end
section
variable {Pg : Program} {T : Tab} {N : Nat} {ents : List FuncId} {G : GS} {w0 w w' : World} {ex0 : Anc} {P0 P P' : Prot} {adr adr' : Adr} {E E' E2 : VE} {M M' : VM} {m : FM} {n n' : Nat} {a : Act} {r : MV} {u : Value} {o : Oper} {ops : Array Oper}
def TblOK (Pg : Program) (ents : List FuncId) (G : GS) (tb : TblF) : Prop := ∀ f vs M n r M' n', tb f vs M n = some (some (r, M', n')) → (∀ c, n ≤ c → VM.get M c = none) →
  n ≤ n' ∧ (∀ c, n' ≤ c → VM.get M' c = none) ∧ (ents.contains f = true → SemR Pg G f vs M n r M' n') ∧ (ents.contains f = false → SemP Pg G f vs M n r M' n')
theorem gCallZ_ok {ra : Bool} {cf : CallF} (hcf : CfOK Pg ents G cf) {f : FuncId} {vs : List MV} {fp : List Nat} {K : MV → VM → Prop} (h : gCallZ ra cf M n f vs = some (r, M', fp)) (hin : ents.contains f = true) (hk : K r M') : vCallZ Pg G M n f vs fp K := by
  unfold gCallZ at h
  dsimp only at h
  generalize reach M 1000 (bif ra then numsVs vs else ptrsVs vs ++ looseR 0 M (msVs vs) []) [] = R at h
  split at h
  · rename_i args M0 bs ha
    obtain ⟨h0, h⟩ := bif_some h
    simp only [Bool.and_eq_true] at h0
    obtain ⟨⟨p1, p2⟩, p3⟩ := h0
    have hfr : ∀ c, n ≤ c → VM.get M0 c = none := fun c hc => all_lt p2 hc
    split at h
    · rename_i res0 M10 n1 hc
      split at h
      rotate_left
      · cases h
      rename_i res M11 n3 ht
      obtain ⟨n4, hs⟩ := tight_ok ((hcf _ _ _ _ _ _ _ hc hfr).2.2.1 hin) ht
      have hs := cutM_ok (n := n) (comps res) hs
      generalize cutM n (comps res) M11 = M1 at h hs
      generalize newOf n (comps res) = k at h
      split at h
      · rename_i rv M2 bs2 hm
        obtain ⟨h0, h⟩ := bif_some h
        simp only [Bool.and_eq_true] at h0
        obtain ⟨⟨⟨⟨⟨⟨q1, q2⟩, q3⟩, q4⟩, q5⟩, q6⟩, q7⟩ := h0
        rw [fD_eq, putM_eq] at h
        injection h with h; injection h with e1 h; injection h with e2 e3
        subst e1; subst e2; subst e3
        have hsem := semR_match hs (mkAll_ok hm q1 q2) q3
        exact ⟨args, M0, n, _, M2, _, hsem, pairS R, bs, mkAll_ok ha p1 p2, p3, q4, by unfold okTw; rw [q5]; rfl, q6, q7, hk⟩
      · cases h
    · cases h
  · cases h
theorem gEop_ok {rf : Bool} {M' : VM} {fp : List Nat} {K : MV → VM → List Nat → Prop} (h : gEop Pg T o E M n = some (rf, r, M', fp)) (hk : K r M' fp) : rf = false ∧ (eOp Pg T (VE.get E) (VM.get M) n o).runP fun x => K x.1 (x.2.app n M) (numsO (VE.get E) o.op.operands.toList) := by
  unfold gEop at h
  split at h
  · rename_i x δ hx
    injection h with h; injection h with e1 h; injection h with e2 h; injection h with e3 e4
    subst e1; subst e2; subst e3; subst e4
    exact ⟨rfl, eG_ok hx hk⟩
  · cases h
theorem gRunD_ok {bv : FuncId → Nat} {cf : CallF} (hcf : CfOK Pg ents G cf) {rf : Bool} {M' : VM} {fp : List Nat} {K : MV → VM → List Nat → Prop} (h : gRunD Pg T ents bv cf o E M n = some (rf, r, M', fp)) (hk : K r M' fp) : vRunD Pg T ents G rf o E M n K := by
  obtain ⟨dst, op, ty, pos, after, guard⟩ := o
  have plain : gEop Pg T ⟨dst, op, ty, pos, after, guard⟩ E M n = some (rf, r, M', fp) → rf = false ∧ (eOp Pg T (VE.get E) (VM.get M) n ⟨dst, op, ty, pos, after, guard⟩).runP fun x => K x.1 (x.2.app n M) (numsO (VE.get E) (⟨dst, op, ty, pos, after, guard⟩ : Oper).op.operands.toList) := fun h => gEop_ok h hk
  cases op with
  | call c =>
    obtain ⟨callee, args, ats⟩ := c
    cases callee with
    | value f =>
      clear plain
      replace h : (match (vArgs E f args.toList).get with
        | some (f0, vs) => match ents.contains f0 with
          | true => match Nat.beq (bv f0) 1 with
            | true => match (vCall E M f args.toList).get with
              | some (f1, us, bs) => match ents.contains f1 with
                | true => match gByVal cf f1 us with
                  | some r => some (false, r, VM.bump M bs, numsO (VE.get E) (⟨dst, .call ⟨.value f, args, ats⟩, ty, pos, after, guard⟩ : Oper).op.operands.toList)
                  | none => none
                | false => none
              | none => none
            | false => match gCallZ (Nat.beq (bv f0) 2) cf M n f0 vs with
              | some (r, M', fp) => some (true, r, M', fp)
              | none => none
          | false => none
        | none => none) = some (rf, r, M', fp) := h
      split at h
      · rename_i f0 vs hg
        split at h
        · rename_i hin
          split at h
          · split at h
            · rename_i f1 us bs hg1
              split at h
              · rename_i hin1
                split at h
                · rename_i r0 hr0
                  injection h with h; injection h with e1 h; injection h with e2 h; injection h with e3 e4
                  subst e1; subst e2; subst e3; subst e4
                  show (vCall E M f args.toList).runP fun x => match ents.contains x.1 with | true => ∃ res, SemC Pg G x.1 x.2.1 res ∧ K res (VM.bump M x.2.2) _ | false => False
                  refine Ask.ok _ _ _ hg1 ?_
                  show match ents.contains f1 with | true => ∃ res, SemC Pg G f1 us res ∧ K res (VM.bump M bs) _ | false => False
                  rw [hin1]
                  exact ⟨_, gByVal_ok hcf hr0 hin1, hk⟩
                · cases h
              · cases h
            · cases h
          · split at h
            · rename_i r0 M0 fp0 hz
              injection h with h; injection h with e1 h; injection h with e2 h; injection h with e3 e4
              subst e1; subst e2; subst e3; subst e4
              show (vArgs E f args.toList).runP fun x => match ents.contains x.1 with | true => ∃ fp, vCallZ Pg G M n x.1 x.2 fp fun r M' => K r M' fp | false => False
              refine Ask.ok _ _ _ hg ?_
              show match ents.contains f0 with | true => ∃ fp, vCallZ Pg G M n f0 vs fp fun r M' => K r M' fp | false => False
              rw [hin]
              exact ⟨_, gCallZ_ok hcf hz hin hk⟩
            · cases h
        · cases h
      · cases h
    | builtin b => obtain ⟨e, h2⟩ := plain h; subst e; exact h2
    | invoke x name => obtain ⟨e, h2⟩ := plain h; subst e; exact h2
  | _ => obtain ⟨e, h2⟩ := plain h; subst e; exact h2
theorem gDoD_ok {bv : FuncId → Nat} {cf : CallF} (hcf : CfOK Pg ents G cf) {rf : Bool} {fp : List Nat} {K : List Nat → VE → VM → Prop} (h : gDoD Pg T N ents bv cf o E M n = some (rf, fp, E', M')) (hk : K fp E' M') : vRunD Pg T ents G rf o E M n fun r M fp => vPut N o.dst r E fun E => K fp E M := by
  unfold gDoD at h
  split at h
  · rename_i rf1 r M1 fp1 hr
    rw [fW_eq] at h
    split at h
    · rename_i E1 hp
      injection h with h; injection h with e1 h; injection h with e2 h; injection h with e3 e4
      subst e1; subst e2; subst e3; subst e4
      exact gRunD_ok hcf hr (gPut_ok hp hk)
    · cases h
  · cases h
theorem gSkipD_ok {E0 : VE} {rf : Bool} {fp : List Nat} {K : List Nat → VE → VM → Prop} (h : gSkipD N o E0 E M = some (rf, fp, E', M')) (hk : K fp E' M') : rf = false ∧ vPut N o.dst .undef E fun E' => K (numsO (VE.get E0) o.op.operands.toList) E' M := by
  unfold gSkipD at h
  split at h
  · rename_i E1 hp
    injection h with h; injection h with e1 h; injection h with e2 h; injection h with e3 e4
    subst e1; subst e2; subst e3; subst e4
    exact ⟨rfl, gPut_ok hp hk⟩
  · cases h
theorem gOpD_ok {bv : FuncId → Nat} {cf : CallF} (hcf : CfOK Pg ents G cf) {rf : Bool} {fp : List Nat} {K : List Nat → VE → VM → Prop} (h : gOpD Pg T N ents bv cf ops o E M n = some (rf, fp, E', M')) (hk : K fp E' M') : vOpD Pg T N ents G ops rf o K E M n := by
  unfold gOpD at h
  unfold vOpD
  split at h
  · rename_i hg
    simp only [hg]
    exact gDoD_ok hcf h hk
  · rename_i j want hg
    split at h
    · cases h
    · rename_i s hj
      simp only [hg, hj]
      split at h
      · rename_i t ht
        simp only [ht]
        split at h
        · rename_i hb
          have hw := bEq_out hb
          refine ⟨fun _ => gDoD_ok hcf h hk, fun e => ?_⟩
          rw [hw] at e
          cases want <;> cases e
        · rename_i hb
          have hw := bEq_not hb
          obtain ⟨e, h2⟩ := gSkipD_ok h hk
          subst e
          exact ⟨fun e => absurd e hw, fun _ => h2⟩
      · rename_i ht
        simp only [ht]
        obtain ⟨e, h2⟩ := gSkipD_ok h hk
        subst e
        exact h2
      · cases h
theorem gOpsD_ok {bv : FuncId → Nat} {cf : CallF} (hcf : CfOK Pg ents G cf) {K : VK} : ∀ (L : List Nat) {A : List Dop} {E : VE} {M : VM} {n : Nat} {E' : VE} {M' : VM} {n' : Nat} {A' : List Dop}, gOpsD Pg T N ents bv cf ops L A E M n = some (E', M', n', A') → okDraw ops A'.reverse n' = true → K E' M' n' → ∃ L', vOpsD Pg T N ents G ops L' A K E M n
  | [], A, E, M, n, E', M', n', A', h, hd, hk => by
    injection h with h
    injection h with h1 h
    injection h with h2 h
    injection h with h3 h4
    subst h1; subst h2; subst h3; subst h4
    exact ⟨[], hd, hk⟩
  | x :: L, A, E, M, n, E', M', n', A', h, hd, hk => by
    unfold gOpsD at h
    split at h
    · rename_i o ho
      split at h
      · rename_i rf fp E1 M1 h1
        rw [fN_eq] at h
        obtain ⟨L', h2⟩ := gOpsD_ok hcf L h hd hk
        refine ⟨(x, rf) :: L', ?_⟩
        show (match ops[x]? with | some o => vOpD Pg T N ents G ops rf o (fun fp E M => vOpsD Pg T N ents G ops L' (⟨x, n, rf, fp⟩ :: A) K E M (n + 1)) E M n | none => _ : Prop)
        rw [ho]
        exact gOpD_ok hcf h1 (K := fun fp E M => vOpsD Pg T N ents G ops L' (⟨x, n, rf, fp⟩ :: A) K E M (n + 1)) h2
      · cases h
    · cases h
theorem gDrA_ok {bv : FuncId → Nat} {cf : CallF} (hcf : CfOK Pg ents G cf) : DrOK Pg T N ents G (gDrA Pg T N ents bv cf) := by
  intro w0 ex0 P0 id ops E M n E' M' n' a w hS h hs
  unfold gDrA at h
  split at h
  · rename_i E1 M1 n1 A h1
    obtain ⟨hd, h⟩ := bif_some h
    have hd := okDr_ok hd
    injection h with h
    injection h with e1 h
    injection h with e2 e3
    subst e1; subst e2; subst e3
    obtain ⟨L', h2⟩ := gOpsD_ok hcf (G := G) (K := fun E M n => Exit.normal = Exit.normal ∧ E = E1 ∧ M = M1 ∧ n = n1) _ h1 hd ⟨rfl, rfl, rfl, rfl⟩
    refine Code.wp_mono (fun e a w hq => ?_) (draw_ok (id := id) (Q := fun e E M n => e = .normal ∧ E = E1 ∧ M = M1 ∧ n = n1) hS h2 hs)
    obtain ⟨E2, M2, n2, ⟨rfl, rfl, rfl, rfl⟩, hs⟩ := hq
    exact ⟨rfl, hs⟩
  · cases h
theorem gOpsD_run {bv : FuncId → Nat} {cf : CallF} (hcf : CfOK Pg ents G cf) : ∀ (L : List Nat) {A : List Dop} {E : VE} {M : VM} {n : Nat} {E' : VE} {M' : VM} {n' : Nat} {A' : List Dop}, gOpsD Pg T N ents bv cf ops L A E M n = some (E', M', n', A') →
    ∃ D, A'.reverse = A.reverse ++ D ∧ n' = n + L.length ∧ NumB n n' D ∧ runL Pg T N ents G ops D (VE.get E) (VM.get M) (VE.get E') (VM.get M')
  | [], A, E, M, n, E', M', n', A', h => by
    injection h with h
    injection h with h1 h
    injection h with h2 h
    injection h with h3 h4
    subst h1; subst h2; subst h3; subst h4
    exact ⟨[], by simp, by simp, ⟨List.nodup_nil, fun _ h => nomatch h⟩, rfl, rfl⟩
  | x :: L, A, E, M, n, E', M', n', A', h => by
    unfold gOpsD at h
    split at h
    · rename_i o ho
      split at h
      · rename_i rf fp E1 M1 h1
        rw [fN_eq] at h
        obtain ⟨D, d1, d2, d3, d4⟩ := gOpsD_run hcf L h
        obtain ⟨fp', E2, M2, ⟨rfl, rfl, rfl⟩, hst⟩ := vOpD_toF (gOpD_ok (G := G) hcf h1 (K := fun fp' E' M' => fp' = fp ∧ E' = E1 ∧ M' = M1) ⟨rfl, rfl, rfl⟩)
        refine ⟨⟨x, n, rf, fp'⟩ :: D, by rw [d1]; simp, by rw [d2, List.length_cons]; omega, ⟨List.nodup_cons.2 ⟨fun hm => ?_, d3.1⟩, fun y hy => ?_⟩, o, _, _, ho, hst, d4⟩
        · obtain ⟨y, hy, he⟩ := List.mem_map.1 hm
          have := (d3.2 y hy).1
          simp only at he
          omega
        · rcases List.mem_cons.1 hy with rfl | hy
          · exact ⟨Nat.le_refl _, by simp only; omega⟩
          · have := d3.2 y hy; omega
      · cases h
    · cases h
theorem gDrT_ok {bv : FuncId → Nat} {cf : CallF} (hcf : CfOK Pg ents G cf) {t : Nat} (htl : tailOK ops t = true) (hsz : t + 1 = ops.size) (hS : SeatM Pg T ents G w0 ex0) {id : Nat} (h : gDrT Pg T N ents bv cf ops t E M n = some (E', M', n')) (hs : Sim N w0 ex0 P0 (VE.get E) (VM.get M) n a w) :
    (Code.region id ops true).wp Pg (fun e a w => e = .normal ∧ Sim N w0 ex0 P0 (VE.get E') (VM.get M') n' a w) a w := by
  unfold gDrT at h
  split at h
  rotate_left
  · cases h
  rename_i E1 M1 n1 A h1
  obtain ⟨hd, h⟩ := bif_some h
  split at h
  rotate_left
  · cases h
  rename_i o ho
  obtain ⟨D, d1, d2, ⟨hnd, hnb⟩, hr⟩ := gOpsD_run (G := G) hcf _ h1
  rw [List.reverse_nil, List.nil_append] at d1
  rw [d1] at hd
  obtain ⟨hP, hA, htwo, hkr⟩ := okDr_out hd
  rw [List.length_range] at d2
  have hDl : D.length = t := by have := congrArg List.length hkr; simpa using this
  have hmem : ∀ k, k ∈ D.map (·.k) ↔ k < t := fun k => by rw [hkr]; simp
  unfold tailOK at htl
  rw [ho] at htl
  simp only [Bool.and_eq_true, List.all_eq_true] at htl
  obtain ⟨⟨t1, t2⟩, t3⟩ := htl
  have hta : ∀ k, k < ops.size → k ≠ t → (∃ ed ∈ o.after.toList, Region.binds .any ed = true ∧ ed.on = k) ∨ pathO ops 3 t k = true := fun k hk hne => by
    have := t1 k (by simpa using hk)
    rw [Bool.or_eq_true, Bool.or_eq_true] at this
    rcases this with h | h | h
    · exact absurd (Nat.eq_of_beq_eq_true h) hne
    · obtain ⟨ed, he, hb⟩ := List.any_eq_true.1 h
      rw [Bool.and_eq_true] at hb
      exact .inl ⟨ed, he, hb.1, Nat.eq_of_beq_eq_true hb.2⟩
    · exact .inr h
  have hts : ∀ ed ∈ o.after.toList, Region.binds .any ed = true → ed.on < ops.size ∧ ed.on ≠ t := by
    obtain ⟨o2, h3, h4⟩ := okS_out t2
    rw [ho] at h3
    injection h3 with h3
    subst h3
    exact h4
  have hTl : ∀ x ∈ D, ∀ o, ops[x.k]? = some o → ∀ ed ∈ o.after.toList, Region.binds .any ed = true → ed.on ≠ t := fun x hx o2 ho2 ed he hb => by
    have hlt := (Array.getElem?_eq_some_iff.1 ho2).1
    have := t3 x.k (by simpa using hlt)
    simp only [ho2, Bool.or_eq_true, List.all_eq_true, Bool.not_eq_true'] at this
    rcases this with h | h
    · have h5 := (hmem x.k).1 (List.mem_map_of_mem hx)
      have := Nat.eq_of_beq_eq_true h
      omega
    · rcases h ed he with h | h
      · rw [hb] at h; cases h
      · intro e; rw [e, Nat.beq_refl] at h; cases h
  refine wp_region_any hS.seat.mixed ?_
  refine any_okT (P0 := P0) (Z := fun c => n1 ≤ c) (Fin := fun a w => Sim N w0 ex0 P0 (VE.get E') (VM.get M') n' a w) (t := t) (ot := o) (e' := VE.get E1) (m' := VM.get M1) hS ho hta hts (fun a w hf => ⟨rfl, hf⟩) (fun K a w hK hs' => ?_) ops.size D ⟨M, rfl⟩ hr hP hA (dj_of htwo hnd) (fun x hx c ho' hz => ?_) ?_ (fun k hk => ?_) ?_ (by simp) (fun k o ho hl => ?_) hTl ?_
  · unfold wpOp
    rw [ho]
    exact gOpF_ok hS hcf h (hs'.toSim fun c hc => hc) hK
  · have h1 := (hnb x hx).2
    replace hz : n1 ≤ c := hz
    rcases ho' with rfl | ⟨rfl, ho'⟩
    · omega
    · have := (okTwo_out htwo hx ho').1
      omega
  · refine (hs.toS.drew).mono fun c hc => ?_
    rcases hc with ⟨x, hx, ho⟩ | hc
    · show n ≤ c
      have := (hnb x hx).1
      rcases ho with rfl | ⟨rfl, _⟩ <;> omega
    · show n ≤ c
      replace hc : n1 ≤ c := hc
      omega
  · have h1 : (Array.replicate ops.size false).getD k true = false := by simp [Array.getD, hk]
    refine ⟨fun _ => ?_, fun _ => h1⟩
    rcases Nat.lt_or_ge k t with h | h
    · exact .inl ((hmem k).2 h)
    · exact .inr (by omega)
  · intro h
    have := (hmem t).1 h
    omega
  · exfalso
    by_cases hk : k < ops.size
    · simp [Array.getD, hk] at hl
    · simp [Array.getD, hk] at hl
  · omega
theorem gDr_ok {bv : FuncId → Nat} {cf : CallF} (hcf : CfOK Pg ents G cf) : DrOK Pg T N ents G (gDr Pg T N ents bv cf) := by
  intro w0 ex0 P0 id ops E M n E' M' n' a w hS h hs
  unfold gDr at h
  split at h
  · cases h
  · rename_i t hsz
    cases ht : (tailOK ops t && Nat.beq (t + 1) ops.size) with
    | true =>
      rw [ht] at h
      rw [Bool.and_eq_true] at ht
      exact gDrT_ok hcf ht.1 (Nat.eq_of_beq_eq_true ht.2) hS h hs
    | false =>
      rw [ht] at h
      exact gDrA_ok hcf hS h hs
theorem gF_ok {bv : FuncId → Nat} {cf : CallF} {dr : Nat → CallF → Array Oper → VE → VM → Nat → Option (VE × VM × Nat)} (hS : Seat Pg T ents) (hcf : CfOK Pg ents G cf) (hdr : ∀ N, DrOK Pg T N ents G (dr N cf)) {pr : FuncId → Nat → MV → VM → Nat → Bool} {lf : Nat} : CfOK Pg ents G (gF Pg T ents bv dr pr lf cf) := by
  intro f vs M n r M' n' h hM
  unfold gF at h
  split at h
  · rename_i fn hf
    split at h
    · rename_i c hb
      cases hc : (Nat.ble vs.length fn.ntmps && Nat.ble fn.results.size 6 && ents.contains f) with
      | false => rw [hc] at h; cases h
      | true =>
        rw [hc] at h
        simp only [Bool.and_eq_true, Nat.ble_eq] at hc
        obtain ⟨⟨h1, h2⟩, h3⟩ := hc
        have go : ∀ {e : Exit} {E' : VE} {M1 : VM} {n1 : Nat}, gC Pg T fn.ntmps ents bv (dr fn.ntmps cf) cf lf c (envM 0 vs) M n = some (e, E', M1, n1) → e = .ret ∨ e = .normal →
            (match gRets T M1 E' fn.results.toList with | some vs => bif vs.all MV.isVal then some (tupM vs, M1.filter fun x => Nat.blt x.1 (Nat.max n n1) && pr f n (tupM vs) M1 x.1, Nat.max n n1) else none | none => none) = some (r, M', n') →
            n ≤ n' ∧ (∀ c, n' ≤ c → VM.get M' c = none) ∧ (ents.contains f = true → SemR Pg G f vs M n r M' n') ∧ (ents.contains f = false → SemP Pg G f vs M n r M' n') := by
          intro e E' M1 n1 hg he h
          split at h
          · rename_i rs hr
            cases hv : rs.all MV.isVal with
            | false => rw [hv] at h; cases h
            | true =>
              rw [hv] at h
              injection h with h
              injection h with e1 h
              injection h with e2 e3
              subst e1; subst e2; subst e3
              have key := semR_of_g (G := G) (N := fn.ntmps) hS hcf (hdr _) hf hb h2 h1 rfl hM (p := fun c => Nat.blt c (Nat.max n n1) && pr f n (tupM rs) M1 c) hg he hr hv
              refine ⟨Nat.le_max_left _ _, fun c hc => ?_, fun _ => key, fun e => by rw [h3] at e; cases e⟩
              rw [get_filter (p := fun c => Nat.blt c (Nat.max n n1) && pr f n (tupM rs) M1 c)]
              have hb : Nat.blt c (Nat.max n n1) = false := by
                cases hx : Nat.blt c (Nat.max n n1) with
                | false => rfl
                | true => have : c < Nat.max n n1 := by simpa [Nat.blt_eq] using hx
                          omega
              rw [hb]; rfl
          · cases h
        dsimp only [cond_true] at h
        split at h
        · rename_i E1 M1 n1 hg; exact go hg (.inl rfl) h
        · rename_i E1 M1 n1 hg; exact go hg (.inr rfl) h
        · cases h
    · cases h
  · cases h
theorem gEv_ok (hS : Seat Pg T ents) {tb : TblF} (htb : TblOK Pg ents G tb) {bv : FuncId → Nat} {pr : FuncId → Nat → MV → VM → Nat → Bool} {lf : Nat} : ∀ k : Nat, CfOK Pg ents G (gEv Pg T ents tb bv pr lf k)
  | 0 => fun f vs M n r M' n' h => nomatch h
  | k + 1 => fun f vs M n r M' n' h hM => by
    replace h : (match tb f vs M n with | some r => r | none => gF Pg T ents bv (fun N cf => gDr Pg T N ents bv cf) pr lf (gEv Pg T ents tb bv pr lf k) f vs M n) = some (r, M', n') := h
    split at h
    · rename_i x hx
      subst h
      exact htb _ _ _ _ _ _ _ hx hM
    · exact gF_ok hS (gEv_ok hS htb k) (fun N => gDr_ok (gEv_ok hS htb k)) _ _ _ _ _ _ _ h hM
theorem semC_ev (hS : Seat Pg T ents) {tb : TblF} (htb : TblOK Pg ents G tb) {bv : FuncId → Nat} {pr : FuncId → Nat → MV → VM → Nat → Bool} {lf k : Nat} {f : FuncId} {args : List MV} {r : MV} (hin : ents.contains f = true) (h : gByVal (gEv Pg T ents tb bv pr lf k) f args = some r) : SemC Pg G f args r := gByVal_ok (gEv_ok hS htb k) h hin
end
end Go.Proofs.YtmeeeigfjlbnkaaGreat
namespace Go.Proofs.YtmeeeigfjlbnkaaGreat
open Go.RowKit
section
variable {Pg : Program} {T : Tab} {N : Nat} {ents : List FuncId} {G : GS} {n0 : Nat}
def SeqQ (Pg : Program) (T : Tab) (N : Nat) (ents : List FuncId) (G : GS) (n0 : Nat) (y : Code) (Q : Exit → VK) : Exit → VK := fun e E M n => match e with | .normal => Rs n0 (vC Pg T N ents G n0 y Q) E M n | e => Q e E M n
def BlockQ (id : Nat) (Q : Exit → VK) : Exit → VK := fun e E M n => match e with | .exit i => (bif Nat.beq i id then Q .normal E M n else Q (.exit i) E M n) | e => Q e E M n
def LoopQ (n0 : Nat) {X : Type} (E' : X → VE) (M' : X → VM) (n' : Nat) (I : X → Prop) (μ : X → Nat) (x : X) (Q : Exit → VK) : Exit → VK := fun e E1 M1 n1 => match e with | .normal => ∃ x', I x' ∧ μ x' < μ x ∧ VMatch n0 (E' x') (M' x') n' E1 M1 | e => Q e E1 M1 n1
variable {Q : Exit → VK} {E : VE} {M : VM} {n : Nat} {x y c : Code} {id i : Nat}
theorem c_seq (h : vC Pg T N ents G n0 x (SeqQ Pg T N ents G n0 y Q) E M n) : vC Pg T N ents G n0 (.seq x y) Q E M n := h
theorem c_skip (h : Q .normal E M n) : vC Pg T N ents G n0 .skip Q E M n := h
theorem c_label {l : Nat} (h : Q .normal E M n) : vC Pg T N ents G n0 (.label l) Q E M n := h
theorem c_exit (h : Q (.exit id) E M n) : vC Pg T N ents G n0 (.exit id) Q E M n := h
theorem c_ret (h : Q .ret E M n) : vC Pg T N ents G n0 .ret Q E M n := h
theorem c_block (h : vC Pg T N ents G n0 c (BlockQ id Q) E M n) : vC Pg T N ents G n0 (.block id c) Q E M n := h
theorem c_region {l : List Oper} (h : vOpsN Pg T N ents G (List.toArray l) l (Q .normal) E M n) : vC Pg T N ents G n0 (.region id (List.toArray l) false) Q E M n := h
theorem c_draw {ops : Array Oper} (L : List (Nat × Bool)) (h : vOpsD Pg T N ents G ops L [] (Q .normal) E M n) : vC Pg T N ents G n0 (.region id ops true) Q E M n := ⟨L, h⟩
theorem c_cond {o : Operand} {t : Bool} (he : evM (VE.get E) o = some (.bool t)) (h1 : t = true → vC Pg T N ents G n0 x Q E M n) (h2 : t = false → vC Pg T N ents G n0 y Q E M n) : vC Pg T N ents G n0 (.cond o x y) Q E M n := by
  unfold vC; rw [he]; exact ⟨h1, h2⟩
theorem c_condT {o : Operand} (he : evM (VE.get E) o = some (.bool true)) (h : vC Pg T N ents G n0 x Q E M n) : vC Pg T N ents G n0 (.cond o x y) Q E M n := c_cond he (fun _ => h) (fun h => Bool.noConfusion h)
theorem c_condF {o : Operand} (he : evM (VE.get E) o = some (.bool false)) (h : vC Pg T N ents G n0 y Q E M n) : vC Pg T N ents G n0 (.cond o x y) Q E M n := c_cond he (fun h => Bool.noConfusion h) (fun _ => h)
theorem c_loop (X : Type) (E' : X → VE) (M' : X → VM) (n' : Nat) (I : X → Prop) (μ : X → Nat) (x0 : X) (hI : I x0) (hm : VMatch n0 (E' x0) (M' x0) n' E M) (h : ∀ x, I x → vC Pg T N ents G n0 c (LoopQ n0 E' M' n' I μ x Q) (E' x) (M' x) n') : vC Pg T N ents G n0 (.loop c) Q E M n := ⟨X, E', M', n', I, μ, ⟨x0, hI, hm⟩, h⟩
theorem seqQ_n (h : vC Pg T N ents G n0 y Q E M n) : SeqQ Pg T N ents G n0 y Q .normal E M n := Rs.go h
structure JoinF (n0 : Nat) {X : Type} (E' : X → VE) (M' : X → VM) (n' : X → Nat) (I : X → Prop) (Q JQ : Exit → VK) : Prop where
  nrm : ∀ (p : X) {E : VE} {M : VM} {n : Nat}, I p → VMatch n0 (E' p) (M' p) (n' p) E M → JQ .normal E M n
  ret : ∀ {E : VE} {M : VM} {n : Nat}, Q .ret E M n → JQ .ret E M n
  ext : ∀ {i : Nat} {E : VE} {M : VM} {n : Nat}, Q (.exit i) E M n → JQ (.exit i) E M n
theorem q_join (X : Type) (E' : X → VE) (M' : X → VM) (n' : X → Nat) (I : X → Prop) (h1 : ∀ JQ : Exit → VK, JoinF n0 E' M' n' I Q JQ → vC Pg T N ents G n0 c JQ E M n) (h2 : ∀ p, I p → vC Pg T N ents G n0 y Q (E' p) (M' p) (n' p)) : vC Pg T N ents G n0 c (SeqQ Pg T N ents G n0 y Q) E M n :=
  h1 _ ⟨fun p _ _ _ hI hm => Rs.re _ _ _ hm (h2 p hI), fun h => h, fun h => h⟩
theorem q_joinN {ops : Array Oper} {l : List Oper} (X : Type) (E' : X → VE) (M' : X → VM) (n' : X → Nat) (I : X → Prop) (h1 : ∀ JQ : Exit → VK, JoinF n0 E' M' n' I Q JQ → vOpsN Pg T N ents G ops l (SeqQ Pg T N ents G n0 c JQ .normal) E M n) (h2 : ∀ p, I p → vC Pg T N ents G n0 y Q (E' p) (M' p) (n' p)) : vOpsN Pg T N ents G ops l (SeqQ Pg T N ents G n0 c (SeqQ Pg T N ents G n0 y Q) .normal) E M n :=
  h1 _ ⟨fun p _ _ _ hI hm => Rs.re _ _ _ hm (h2 p hI), fun h => h, fun h => h⟩
theorem q_joinB (X : Type) (E' : X → VE) (M' : X → VM) (n' : X → Nat) (I : X → Prop) (h1 : ∀ JQ : Exit → VK, JoinF n0 E' M' n' I Q JQ → vC Pg T N ents G n0 c (BlockQ id JQ) E M n) (h2 : ∀ p, I p → vC Pg T N ents G n0 y Q (E' p) (M' p) (n' p)) : vC Pg T N ents G n0 c (BlockQ id (SeqQ Pg T N ents G n0 y Q)) E M n :=
  h1 _ ⟨fun p _ _ _ hI hm => Rs.re _ _ _ hm (h2 p hI), fun h => h, fun h => h⟩
theorem joinF_r {X : Type} {E' : X → VE} {M' : X → VM} {n' : X → Nat} {I : X → Prop} {JQ : Exit → VK} (hj : JoinF n0 E' M' n' I Q JQ) (h : Q .ret E M n) : JQ .ret E M n := hj.ret h
theorem joinF_x {X : Type} {E' : X → VE} {M' : X → VM} {n' : X → Nat} {I : X → Prop} {JQ : Exit → VK} (hj : JoinF n0 E' M' n' I Q JQ) (h : Q (.exit i) E M n) : JQ (.exit i) E M n := hj.ext h
theorem seqQ_x (h : Q (.exit i) E M n) : SeqQ Pg T N ents G n0 y Q (.exit i) E M n := h
theorem seqQ_r (h : Q .ret E M n) : SeqQ Pg T N ents G n0 y Q .ret E M n := h
theorem blockQ_n (h : Q .normal E M n) : BlockQ id Q .normal E M n := h
theorem blockQ_r (h : Q .ret E M n) : BlockQ id Q .ret E M n := h
theorem blockQ_x (hb : Nat.beq i id = true) (h : Q .normal E M n) : BlockQ id Q (.exit i) E M n := by
  show (bif Nat.beq i id then _ else _); rw [hb]; exact h
theorem blockQ_y (hb : Nat.beq i id = false) (h : Q (.exit i) E M n) : BlockQ id Q (.exit i) E M n := by
  show (bif Nat.beq i id then _ else _); rw [hb]; exact h
theorem loopQ_x {X : Type} {E' : X → VE} {M' : X → VM} {n' : Nat} {I : X → Prop} {μ : X → Nat} {x : X} (h : Q (.exit i) E M n) : LoopQ n0 E' M' n' I μ x Q (.exit i) E M n := h
theorem loopQ_r {X : Type} {E' : X → VE} {M' : X → VM} {n' : Nat} {I : X → Prop} {μ : X → Nat} {x : X} (h : Q .ret E M n) : LoopQ n0 E' M' n' I μ x Q .ret E M n := h
theorem loopQ_n {X : Type} {E' : X → VE} {M' : X → VM} {n' : Nat} {I : X → Prop} {μ : X → Nat} {x : X} (x' : X) (hI : I x') (hμ : μ x' < μ x) (hm : VMatch n0 (E' x') (M' x') n' E M) : LoopQ n0 E' M' n' I μ x Q .normal E M n := ⟨x', hI, hμ, hm⟩
def vOpsG (Pg : Program) (T : Tab) (N : Nat) (ents : List FuncId) (G : GS) (ops : Array Oper) (o : Oper) (rest : List Oper) (K : VK) (E : VE) (M : VM) (n : Nat) : Prop :=
  vRunN Pg T ents G o E M n fun r M n => vPut N o.dst r E fun E => vOpsN Pg T N ents G ops rest K E M n
def plainO : Op → Bool
  | .call c => match c.callee with
    | .value _ => false
    | _ => true
  | _ => true
variable {ops : Array Oper} {dst : Option Tmp} {d : Tmp} {op : Op} {ty : TypeId} {pos : String} {after : Array Edge} {g : Option (Nat × Bool)} {rest : List Oper} {K : VK} {r : MV} {δ : Dl} {o : Oper} {j s : Nat} {want t : Bool}
theorem n_nil (h : K E M n) : vOpsN Pg T N ents G ops [] K E M n := h
theorem n_go (h : vOpsG Pg T N ents G ops ⟨dst, op, ty, pos, after, none⟩ rest K E M n) : vOpsN Pg T N ents G ops (⟨dst, op, ty, pos, after, none⟩ :: rest) K E M n := Rt.go h
theorem n_guard (hs : (ops[j]?).bind (·.dst) = some s) (hv : VE.get E s = some (.bool t)) (h1 : t = want → vOpsG Pg T N ents G ops ⟨some d, op, ty, pos, after, some (j, want)⟩ rest K ((s, .bool want) :: E) M n) (hd : Nat.blt d N = true)
    (h2 : t = !want → vOpsN Pg T N ents G ops rest K ((d, .undef) :: (s, .bool (!want)) :: E) M (n + 1)) : vOpsN Pg T N ents G ops (⟨some d, op, ty, pos, after, some (j, want)⟩ :: rest) K E M n := by
  unfold vOpsN
  refine Rt.go ?_
  unfold vOpN
  simp only [hs, hv]
  refine ⟨h1, fun ht => ?_⟩
  unfold vPut
  simp only [hd]
  exact h2 ht
theorem n_guardY (hs : (ops[j]?).bind (·.dst) = some s) (hv : VE.get E s = some (.bool want)) (h : vOpsG Pg T N ents G ops ⟨dst, op, ty, pos, after, some (j, want)⟩ rest K ((s, .bool want) :: E) M n) : vOpsN Pg T N ents G ops (⟨dst, op, ty, pos, after, some (j, want)⟩ :: rest) K E M n := by
  unfold vOpsN
  refine Rt.go ?_
  unfold vOpN
  simp only [hs, hv]
  exact ⟨fun _ => h, fun ht => by cases want <;> cases ht⟩
theorem n_guardN (hs : (ops[j]?).bind (·.dst) = some s) (hv : VE.get E s = some (.bool (!want))) (hd : Nat.blt d N = true) (h : vOpsN Pg T N ents G ops rest K ((d, .undef) :: (s, .bool (!want)) :: E) M (n + 1)) : vOpsN Pg T N ents G ops (⟨some d, op, ty, pos, after, some (j, want)⟩ :: rest) K E M n :=
  n_guard hs hv (fun ht => by cases want <;> cases ht) hd (fun _ => h)
theorem n_guardU (hs : (ops[j]?).bind (·.dst) = some s) (hv : VE.get E s = some .undef) (hd : Nat.blt d N = true) (h : vOpsN Pg T N ents G ops rest K ((d, .undef) :: E) M (n + 1)) : vOpsN Pg T N ents G ops (⟨some d, op, ty, pos, after, some (j, want)⟩ :: rest) K E M n := by
  unfold vOpsN
  refine Rt.go ?_
  unfold vOpN
  simp only [hs, hv]
  unfold vPut
  simp only [hd]
  exact h
theorem n_app {l1 l2 : List Oper} (h : vOpsN Pg T N ents G ops (o :: List.append l1 l2) K E M n) : vOpsN Pg T N ents G ops (List.append (o :: l1) l2) K E M n := h
theorem n_app0 {l2 : List Oper} (h : vOpsN Pg T N ents G ops l2 K E M n) : vOpsN Pg T N ents G ops (List.append [] l2) K E M n := h
theorem g_run (hq : nilQ T E ⟨dst, op, ty, pos, after, g⟩ = none) (hv : plainO op = true) (he : ∀ R : MV × Dl → Prop, R (r, δ) → (eOp Pg T (VE.get E) (VM.get M) n ⟨dst, op, ty, pos, after, g⟩).runP R)
    (h : vPut N dst r E fun E => vOpsN Pg T N ents G ops rest K E (δ.app n M) (n + 1)) : vOpsG Pg T N ents G ops ⟨dst, op, ty, pos, after, g⟩ rest K E M n := by
  unfold vOpsG vRunN
  rw [hq]
  show vRunP Pg T ents G _ E M n _
  cases op with
  | call c =>
    obtain ⟨callee, args, ats⟩ := c
    cases callee with
    | value f => cases hv
    | builtin b => exact .inl (he _ h)
    | invoke r n => exact he _ h
  | _ => exact he _ h
theorem or_len {p : Prop} {E : VE} {M : VM} {o : Oper} {K : Nat → Prop} (h : p) : p ∨ vLenM Pg E M o K := .inl h
theorem g_lenM {b : Builtin} {args : Array Operand} {ats : Array TypeId} {k : Nat} (hl : mapLen Pg E M ⟨some d, .call ⟨.builtin b, args, ats⟩, ty, pos, after, g⟩ = some k) (hd : Nat.blt d N = true) (h : vOpsN Pg T N ents G ops rest K ((d, .int .i64 k) :: E) M (n + 1)) : vOpsG Pg T N ents G ops ⟨some d, .call ⟨.builtin b, args, ats⟩, ty, pos, after, g⟩ rest K E M n := by
  refine .inr ⟨k, hl, ?_⟩
  unfold vPut
  simp only [hd]
  exact h
theorem g_val (hq : nilQ T E ⟨some d, op, ty, pos, after, g⟩ = none) (hv : plainO op = true) (he : ∀ R : MV × Dl → Prop, R (r, .none) → (eOp Pg T (VE.get E) (VM.get M) n ⟨some d, op, ty, pos, after, g⟩).runP R) (hd : Nat.blt d N = true)
    (h : vOpsN Pg T N ents G ops rest K ((d, r) :: E) M (n + 1)) : vOpsG Pg T N ents G ops ⟨some d, op, ty, pos, after, g⟩ rest K E M n := by
  refine g_run hq hv he ?_
  unfold vPut
  simp only [hd]
  exact h
theorem g_mem (hq : nilQ T E ⟨some d, op, ty, pos, after, g⟩ = none) (hv : plainO op = true) (he : ∀ R : MV × Dl → Prop, R (r, δ) → (eOp Pg T (VE.get E) (VM.get M) n ⟨some d, op, ty, pos, after, g⟩).runP R) (hd : Nat.blt d N = true)
    (h : vOpsN Pg T N ents G ops rest K ((d, r) :: E) (δ.app n M) (n + 1)) : vOpsG Pg T N ents G ops ⟨some d, op, ty, pos, after, g⟩ rest K E M n := by
  refine g_run hq hv he ?_
  unfold vPut
  simp only [hd]
  exact h
theorem g_none (hq : nilQ T E ⟨none, op, ty, pos, after, g⟩ = none) (hv : plainO op = true) (he : ∀ R : MV × Dl → Prop, R (r, δ) → (eOp Pg T (VE.get E) (VM.get M) n ⟨none, op, ty, pos, after, g⟩).runP R)
    (h : vOpsN Pg T N ents G ops rest K E (δ.app n M) (n + 1)) : vOpsG Pg T N ents G ops ⟨none, op, ty, pos, after, g⟩ rest K E M n := g_run hq hv he h
theorem g_nil {k : Nat} {neg : Bool} (hq : nilQ T E ⟨some d, op, ty, pos, after, g⟩ = some (k, neg)) (hd : Nat.blt d N = true) (h : ∀ b : Bool, (b = true → k = 0) → vOpsN Pg T N ents G ops rest K ((d, .bool (bif neg then !b else b)) :: E) M (n + 1)) : vOpsG Pg T N ents G ops ⟨some d, op, ty, pos, after, g⟩ rest K E M n := by
  unfold vOpsG vRunN
  rw [hq]
  intro b hb
  unfold vPut
  simp only [hd]
  have := h b hb
  cases neg <;> exact this
section
variable {f : Operand} {args : Array Operand} {ats : Array TypeId} {f0 : FuncId} {vs : List MV} {bs : List (Nat × Nat)} {res : MV}
theorem g_callV (hd : ∀ d, dst = some d → Nat.blt d N = true) (h1 : ∀ R : FuncId × List MV × List (Nat × Nat) → Prop, R (f0, vs, bs) → (vCall E M f args.toList).runP R) (h2 : ents.contains f0 = true) (hc : SemC Pg G f0 vs res)
    (h : vOpsN Pg T N ents G ops rest K (match dst with | some d => (d, res) :: E | none => E) (VM.bump M bs) (n + 1)) : vOpsG Pg T N ents G ops ⟨dst, .call ⟨.value f, args, ats⟩, ty, pos, after, g⟩ rest K E M n := by
  show (vRun Pg T ents G _ E M n _) ∨ _
  refine .inl ?_
  show (vCall E M f args.toList).runP _
  refine h1 _ ?_
  show (match ents.contains f0 with | true => ∃ res, SemC Pg G f0 vs res ∧ _ | false => False)
  rw [h2]
  refine ⟨res, hc, ?_⟩
  unfold vPut
  cases dst with
  | none => exact h
  | some d =>
    simp only [hd d rfl]
    exact h
theorem g_callR (hd : ∀ d, dst = some d → Nat.blt d N = true) (h1 : ∀ R : FuncId × List MV → Prop, R (f0, vs) → (vArgs E f args.toList).runP R) (h2 : ents.contains f0 = true) {args' : List MV} {M0 : VM} {n0 : Nat} {M1 : VM} {n1 : Nat} (hc : SemR Pg G f0 args' M0 n0 res M1 n1) (σ bs : List (Nat × Nat))
    (hm : LMatch 0 args' M0 n0 vs M σ bs) (h3 : allIn M σ = true) (h4 : M1.all (fun x => Nat.blt x.1 n1) = true) (h : vOpsN Pg T N ents G ops rest K (match dst with | some d => (d, renV (rho n σ) res) :: E | none => E) (renM (rho n σ) M1 ++ delM (VM.bump M bs) σ) (n + n1)) :
    vOpsG Pg T N ents G ops ⟨dst, .call ⟨.value f, args, ats⟩, ty, pos, after, g⟩ rest K E M n := by
  show (vRun Pg T ents G _ E M n _) ∨ (vArgs E f args.toList).runP _
  refine .inr (h1 _ ?_)
  show (match ents.contains f0 with | true => vCallR Pg G SemE M n f0 vs _ | false => vCallR Pg G SemPE M n f0 vs _)
  rw [h2]
  refine ⟨args', M0, n0, fun r M' n' => r = res ∧ M' = M1 ∧ n' = n1, semWE_of (fun h k => h.mono k) hc ⟨rfl, rfl, rfl⟩, σ, bs, hm, h3, ?_⟩
  rintro _ _ _ ⟨rfl, rfl, rfl⟩
  refine ⟨h4, ?_⟩
  unfold vPut
  cases dst with
  | none => exact h
  | some d =>
    simp only [hd d rfl]
    exact h
theorem g_callP (hd : ∀ d, dst = some d → Nat.blt d N = true) (h1 : ∀ R : FuncId × List MV → Prop, R (f0, vs) → (vArgs E f args.toList).runP R) (h2 : ents.contains f0 = false) {args' : List MV} {M0 : VM} {n0 : Nat} {M1 : VM} {n1 : Nat} (hc : SemP Pg G f0 args' M0 n0 res M1 n1) (σ bs : List (Nat × Nat))
    (hm : LMatch 0 args' M0 n0 vs M σ bs) (h3 : allIn M σ = true) (h4 : M1.all (fun x => Nat.blt x.1 n1) = true) (h : vOpsN Pg T N ents G ops rest K (match dst with | some d => (d, renV (rho n σ) res) :: E | none => E) (renM (rho n σ) M1 ++ delM (VM.bump M bs) σ) (n + n1)) :
    vOpsG Pg T N ents G ops ⟨dst, .call ⟨.value f, args, ats⟩, ty, pos, after, g⟩ rest K E M n := by
  show (vRun Pg T ents G _ E M n _) ∨ (vArgs E f args.toList).runP _
  refine .inr (h1 _ ?_)
  show (match ents.contains f0 with | true => vCallR Pg G SemE M n f0 vs _ | false => vCallR Pg G SemPE M n f0 vs _)
  rw [h2]
  refine ⟨args', M0, n0, fun r M' n' => r = res ∧ M' = M1 ∧ n' = n1, semWE_of (fun h k => h.mono k) hc ⟨rfl, rfl, rfl⟩, σ, bs, hm, h3, ?_⟩
  rintro _ _ _ ⟨rfl, rfl, rfl⟩
  refine ⟨h4, ?_⟩
  unfold vPut
  cases dst with
  | none => exact h
  | some d =>
    simp only [hd d rfl]
    exact h
end
def okO (T : Tab) (N : Nat) (E : VE) (o : Oper) : Bool := (match nilQ T E o with | none => true | some _ => false) && (plainO o.op && (match o.dst with | some d => Nat.blt d N | none => true))
theorem okO_out (h : okO T N E o = true) : nilQ T E o = none ∧ plainO o.op = true ∧ ∀ d, o.dst = some d → Nat.blt d N = true := by
  unfold okO at h
  simp only [Bool.and_eq_true] at h
  obtain ⟨h1, h2, h3⟩ := h
  refine ⟨?_, h2, fun d hd => ?_⟩
  · split at h1
    · assumption
    · cases h1
  · rw [hd] at h3; exact h3
theorem n_val (hb : okO T N E ⟨some d, op, ty, pos, after, none⟩ = true) (he : ∀ R : MV × Dl → Prop, R (r, .none) → (eOp Pg T (VE.get E) (VM.get M) n ⟨some d, op, ty, pos, after, none⟩).runP R) (h : vOpsN Pg T N ents G ops rest K ((d, r) :: E) M (n + 1)) : vOpsN Pg T N ents G ops (⟨some d, op, ty, pos, after, none⟩ :: rest) K E M n :=
  n_go (g_val (okO_out hb).1 (okO_out hb).2.1 he ((okO_out hb).2.2 d rfl) h)
theorem n_mem (hb : okO T N E ⟨some d, op, ty, pos, after, none⟩ = true) (he : ∀ R : MV × Dl → Prop, R (r, δ) → (eOp Pg T (VE.get E) (VM.get M) n ⟨some d, op, ty, pos, after, none⟩).runP R) (h : vOpsN Pg T N ents G ops rest K ((d, r) :: E) (δ.app n M) (n + 1)) : vOpsN Pg T N ents G ops (⟨some d, op, ty, pos, after, none⟩ :: rest) K E M n :=
  n_go (g_mem (okO_out hb).1 (okO_out hb).2.1 he ((okO_out hb).2.2 d rfl) h)
theorem n_none (hb : okO T N E ⟨none, op, ty, pos, after, none⟩ = true) (he : ∀ R : MV × Dl → Prop, R (r, δ) → (eOp Pg T (VE.get E) (VM.get M) n ⟨none, op, ty, pos, after, none⟩).runP R) (h : vOpsN Pg T N ents G ops rest K E (δ.app n M) (n + 1)) : vOpsN Pg T N ents G ops (⟨none, op, ty, pos, after, none⟩ :: rest) K E M n :=
  n_go (g_none (okO_out hb).1 (okO_out hb).2.1 he h)
theorem n_valY (hs : (ops[j]?).bind (·.dst) = some s) (hv : VE.get E s = some (.bool want)) (hb : okO T N ((s, .bool want) :: E) ⟨some d, op, ty, pos, after, some (j, want)⟩ = true) (he : ∀ R : MV × Dl → Prop, R (r, .none) → (eOp Pg T (VE.get ((s, .bool want) :: E)) (VM.get M) n ⟨some d, op, ty, pos, after, some (j, want)⟩).runP R)
    (h : vOpsN Pg T N ents G ops rest K ((d, r) :: (s, .bool want) :: E) M (n + 1)) : vOpsN Pg T N ents G ops (⟨some d, op, ty, pos, after, some (j, want)⟩ :: rest) K E M n :=
  n_guardY hs hv (g_val (okO_out hb).1 (okO_out hb).2.1 he ((okO_out hb).2.2 d rfl) h)
theorem c_seqR {l : List Oper} (h : vOpsN Pg T N ents G (List.toArray l) l (SeqQ Pg T N ents G n0 y Q .normal) E M n) : vC Pg T N ents G n0 (.seq (.region id (List.toArray l) false) y) Q E M n := h
theorem n_nilS (h : vC Pg T N ents G n0 y Q E M n) : vOpsN Pg T N ents G ops [] (SeqQ Pg T N ents G n0 y Q .normal) E M n := Rs.go h
section
variable {f : Operand} {args : Array Operand} {ats : Array TypeId} {f0 : FuncId} {vs : List MV} {bs : List (Nat × Nat)} {res : MV}
theorem g_callV1 (hd : Nat.blt d N = true) (h1 : ∀ R : FuncId × List MV × List (Nat × Nat) → Prop, R (f0, vs, bs) → (vCall E M f args.toList).runP R) (h2 : ents.contains f0 = true) (hc : SemC Pg G f0 vs res)
    (h : vOpsN Pg T N ents G ops rest K ((d, res) :: E) (VM.bump M bs) (n + 1)) : vOpsG Pg T N ents G ops ⟨some d, .call ⟨.value f, args, ats⟩, ty, pos, after, g⟩ rest K E M n := g_callV (fun d' e => by injection e with e; subst e; exact hd) h1 h2 hc h
theorem g_callV0 (h1 : ∀ R : FuncId × List MV × List (Nat × Nat) → Prop, R (f0, vs, bs) → (vCall E M f args.toList).runP R) (h2 : ents.contains f0 = true) (hc : SemC Pg G f0 vs res)
    (h : vOpsN Pg T N ents G ops rest K E (VM.bump M bs) (n + 1)) : vOpsG Pg T N ents G ops ⟨none, .call ⟨.value f, args, ats⟩, ty, pos, after, g⟩ rest K E M n := g_callV (fun _ e => nomatch e) h1 h2 hc h
theorem g_callR1 (hd : Nat.blt d N = true) (h1 : ∀ R : FuncId × List MV → Prop, R (f0, vs) → (vArgs E f args.toList).runP R) (h2 : ents.contains f0 = true) {args' : List MV} {M0 : VM} {n0 : Nat} {M1 : VM} {n1 : Nat} (hc : SemR Pg G f0 args' M0 n0 res M1 n1) (σ bs : List (Nat × Nat))
    (hm : LMatch 0 args' M0 n0 vs M σ bs) (h3 : allIn M σ = true) (h4 : M1.all (fun x => Nat.blt x.1 n1) = true) (h : vOpsN Pg T N ents G ops rest K ((d, renV (rho n σ) res) :: E) (renM (rho n σ) M1 ++ delM (VM.bump M bs) σ) (n + n1)) :
    vOpsG Pg T N ents G ops ⟨some d, .call ⟨.value f, args, ats⟩, ty, pos, after, g⟩ rest K E M n := g_callR (fun d' e => by injection e with e; subst e; exact hd) h1 h2 hc σ bs hm h3 h4 h
theorem g_callE1 (hd : Nat.blt d N = true) (h1 : ∀ R : FuncId × List MV → Prop, R (f0, vs) → (vArgs E f args.toList).runP R) (h2 : ents.contains f0 = true) {args' : List MV} {M0 : VM} {n0 : Nat} {Φ : MV → VM → Nat → Prop} (hc : SemE Pg G f0 args' M0 n0 Φ) (σ bs : List (Nat × Nat))
    (hm : LMatch 0 args' M0 n0 vs M σ bs) (h3 : allIn M σ = true) (h : ∀ (res : MV) (M1 : VM) (n1 : Nat), Φ res M1 n1 → M1.all (fun x => Nat.blt x.1 n1) = true ∧ vOpsN Pg T N ents G ops rest K ((d, renV (rho n σ) res) :: E) (renM (rho n σ) M1 ++ delM (VM.bump M bs) σ) (n + n1)) :
    vOpsG Pg T N ents G ops ⟨some d, .call ⟨.value f, args, ats⟩, ty, pos, after, g⟩ rest K E M n := by
  show (vRun Pg T ents G _ E M n _) ∨ (vArgs E f args.toList).runP _
  refine .inr (h1 _ ?_)
  show (match ents.contains f0 with | true => vCallR Pg G SemE M n f0 vs _ | false => vCallR Pg G SemPE M n f0 vs _)
  rw [h2]
  refine ⟨args', M0, n0, Φ, hc, σ, bs, hm, h3, fun r M' n' hΦ => ⟨(h r M' n' hΦ).1, ?_⟩⟩
  unfold vPut
  simp only [hd]
  exact (h r M' n' hΦ).2
theorem g_callR0 (h1 : ∀ R : FuncId × List MV → Prop, R (f0, vs) → (vArgs E f args.toList).runP R) (h2 : ents.contains f0 = true) {args' : List MV} {M0 : VM} {n0 : Nat} {M1 : VM} {n1 : Nat} (hc : SemR Pg G f0 args' M0 n0 res M1 n1) (σ bs : List (Nat × Nat))
    (hm : LMatch 0 args' M0 n0 vs M σ bs) (h3 : allIn M σ = true) (h4 : M1.all (fun x => Nat.blt x.1 n1) = true) (h : vOpsN Pg T N ents G ops rest K E (renM (rho n σ) M1 ++ delM (VM.bump M bs) σ) (n + n1)) :
    vOpsG Pg T N ents G ops ⟨none, .call ⟨.value f, args, ats⟩, ty, pos, after, g⟩ rest K E M n := g_callR (fun _ e => nomatch e) h1 h2 hc σ bs hm h3 h4 h
theorem g_callP1 (hd : Nat.blt d N = true) (h1 : ∀ R : FuncId × List MV → Prop, R (f0, vs) → (vArgs E f args.toList).runP R) (h2 : ents.contains f0 = false) {args' : List MV} {M0 : VM} {n0 : Nat} {M1 : VM} {n1 : Nat} (hc : SemP Pg G f0 args' M0 n0 res M1 n1) (σ bs : List (Nat × Nat))
    (hm : LMatch 0 args' M0 n0 vs M σ bs) (h3 : allIn M σ = true) (h4 : M1.all (fun x => Nat.blt x.1 n1) = true) (h : vOpsN Pg T N ents G ops rest K ((d, renV (rho n σ) res) :: E) (renM (rho n σ) M1 ++ delM (VM.bump M bs) σ) (n + n1)) :
    vOpsG Pg T N ents G ops ⟨some d, .call ⟨.value f, args, ats⟩, ty, pos, after, g⟩ rest K E M n := g_callP (fun d' e => by injection e with e; subst e; exact hd) h1 h2 hc σ bs hm h3 h4 h
theorem g_callP0 (h1 : ∀ R : FuncId × List MV → Prop, R (f0, vs) → (vArgs E f args.toList).runP R) (h2 : ents.contains f0 = false) {args' : List MV} {M0 : VM} {n0 : Nat} {M1 : VM} {n1 : Nat} (hc : SemP Pg G f0 args' M0 n0 res M1 n1) (σ bs : List (Nat × Nat))
    (hm : LMatch 0 args' M0 n0 vs M σ bs) (h3 : allIn M σ = true) (h4 : M1.all (fun x => Nat.blt x.1 n1) = true) (h : vOpsN Pg T N ents G ops rest K E (renM (rho n σ) M1 ++ delM (VM.bump M bs) σ) (n + n1)) :
    vOpsG Pg T N ents G ops ⟨none, .call ⟨.value f, args, ats⟩, ty, pos, after, g⟩ rest K E M n := g_callP (fun _ e => nomatch e) h1 h2 hc σ bs hm h3 h4 h
end
theorem vOpsN_callR {f : Operand} {args : Array Operand} {ats : Array TypeId} {f0 : FuncId} {vs : List MV}
    (h1 : ∀ R : FuncId × List MV → Prop, R (f0, vs) → (vArgs E f args.toList).runP R) (h2 : ents.contains f0 = true) {args' : List MV} {M0 : VM} {n0 : Nat} {res : MV} {M1 : VM} {n1 : Nat} (hc : SemR Pg G f0 args' M0 n0 res M1 n1) (σ bs : List (Nat × Nat))
    (hm : LMatch 0 args' M0 n0 vs M σ bs) (h3 : allIn M σ = true) (h4 : M1.all (fun x => Nat.blt x.1 n1) = true) (hk : vPut N dst (renV (rho n σ) res) E fun E => vOpsN Pg T N ents G ops rest K E (renM (rho n σ) M1 ++ delM (VM.bump M bs) σ) (n + n1)) :
    vOpsN Pg T N ents G ops (⟨dst, .call ⟨.value f, args, ats⟩, ty, pos, after, none⟩ :: rest) K E M n := by
  refine Rt.go ?_
  show (vRun Pg T ents G _ E M n _) ∨ (vArgs E f args.toList).runP _
  refine .inr (h1 _ ?_)
  show (match ents.contains f0 with | true => vCallR Pg G SemE M n f0 vs _ | false => vCallR Pg G SemPE M n f0 vs _)
  rw [h2]
  refine ⟨args', M0, n0, fun r M' n' => r = res ∧ M' = M1 ∧ n' = n1, semWE_of (fun h k => h.mono k) hc ⟨rfl, rfl, rfl⟩, σ, bs, hm, h3, ?_⟩
  rintro _ _ _ ⟨rfl, rfl, rfl⟩
  exact ⟨h4, hk⟩
theorem vCallR_of {f0 : FuncId} {vs args' : List MV} {M0 : VM} {n0 : Nat} {res : MV} {M1 : VM} {n1 : Nat} {K : MV → VM → Nat → Prop} (hc : SemR Pg G f0 args' M0 n0 res M1 n1) (σ bs : List (Nat × Nat))
    (hm : LMatch 0 args' M0 n0 vs M σ bs) (h3 : allIn M σ = true) (h4 : M1.all (fun x => Nat.blt x.1 n1) = true) (h : K (renV (rho n σ) res) (renM (rho n σ) M1 ++ delM (VM.bump M bs) σ) (n + n1)) : vCallR Pg G SemE M n f0 vs K := by
  refine ⟨args', M0, n0, fun r M' n' => r = res ∧ M' = M1 ∧ n' = n1, semWE_of (fun h k => h.mono k) hc ⟨rfl, rfl, rfl⟩, σ, bs, hm, h3, ?_⟩
  rintro _ _ _ ⟨rfl, rfl, rfl⟩
  exact ⟨h4, h⟩
theorem n_re (E' : VE) (M' : VM) (bs : List (Nat × Nat)) (h1 : okB M bs) (h2 : M'.all (fun x => Nat.blt x.1 n) = true) (h3 : mE (sigA n []) (fzb M bs) E' E) (h4 : mM (sigA n []) (fzb M bs) M' (VM.bump M bs)) (h : vOpsN Pg T N ents G ops (o :: rest) K E' M' n) : vOpsN Pg T N ents G ops (o :: rest) K E M n :=
  Rt.re E' M' ⟨bs, h1, h2, h3, h4⟩ h
end
end Go.Proofs.YtmeeeigfjlbnkaaGreat
namespace Go.Proofs.YtmeeeigfjlbnkaaGreat
open Go.RowKit
section
variable {Pg : Program} {T : Tab} {N : Nat} {ents : List FuncId} {G : GS} {ops : Array Oper} {dst : Option Tmp} {d : Tmp} {op : Op} {ty : TypeId} {pos : String} {after : Array Edge} {g : Option (Nat × Bool)} {K : VK} {r : MV} {δ : Dl} {o : Oper} {j s k : Nat} {want t rf : Bool}
  {E : VE} {M : VM} {n : Nat} {J : List Nat → VE → VM → Prop} {L : List (Nat × Bool)} {A : List Dop} {fp : List Nat}
def NextD (Pg : Program) (T : Tab) (N : Nat) (ents : List FuncId) (G : GS) (ops : Array Oper) (L : List (Nat × Bool)) (A : List Dop) (K : VK) (k n : Nat) (rf : Bool) : List Nat → VE → VM → Prop := fun fp E M => vOpsD Pg T N ents G ops L (⟨k, n, rf, fp⟩ :: A) K E M (n + 1)
theorem d_end (ho : okDraw ops A.reverse n = true) (h : K E M n) : vOpsD Pg T N ents G ops [] A K E M n := ⟨ho, h⟩
def nthO : List Oper → Nat → Option Oper
  | [], _ => none
  | o :: _, 0 => some o
  | _ :: l, k + 1 => nthO l k
theorem nthO_eq : ∀ (l : List Oper) (k : Nat), l[k]? = nthO l k
  | [], _ => by simp [nthO]
  | o :: _, 0 => rfl
  | o :: l, k + 1 => by simp [nthO, nthO_eq l k]
theorem d_step {l : List Oper} (ho : nthO l k = some o) (h : vOpD Pg T N ents G (List.toArray l) rf o (NextD Pg T N ents G (List.toArray l) L A K k n rf) E M n) : vOpsD Pg T N ents G (List.toArray l) ((k, rf) :: L) A K E M n := by
  unfold vOpsD
  have e : (List.toArray l)[k]? = some o := by rw [← ho, ← nthO_eq]; simp
  simp only [e]
  exact h
theorem d_skip {l : List Oper} (ho : nthO l k = none) (h : vOpsD Pg T N ents G (List.toArray l) L A K E M (n + 1)) : vOpsD Pg T N ents G (List.toArray l) ((k, rf) :: L) A K E M n := by
  unfold vOpsD
  have e : (List.toArray l)[k]? = none := by rw [← ho, ← nthO_eq]; simp
  simp only [e]
  exact h
theorem d_next (h : vOpsD Pg T N ents G ops L (⟨k, n, rf, fp⟩ :: A) K E M (n + 1)) : NextD Pg T N ents G ops L A K k n rf fp E M := h
def vOpGD (Pg : Program) (T : Tab) (N : Nat) (ents : List FuncId) (G : GS) (rf : Bool) (o : Oper) (J : List Nat → VE → VM → Prop) (E : VE) (M : VM) (n : Nat) : Prop := vRunD Pg T ents G rf o E M n fun r M fp => vPut N o.dst r E fun E => J fp E M
theorem d_go (h : vOpGD Pg T N ents G rf ⟨dst, op, ty, pos, after, none⟩ J E M n) : vOpD Pg T N ents G ops rf ⟨dst, op, ty, pos, after, none⟩ J E M n := h
theorem d_guard (hs : (ops[j]?).bind (·.dst) = some s) (hv : VE.get E s = some (.bool t)) (h1 : t = want → vOpGD Pg T N ents G rf ⟨some d, op, ty, pos, after, some (j, want)⟩ J ((s, .bool want) :: E) M n) (hd : Nat.blt d N = true)
    (h2 : t = !want → J (bif rf then [] else numsO (VE.get E) op.operands.toList) ((d, .undef) :: (s, .bool (!want)) :: E) M) : vOpD Pg T N ents G ops rf ⟨some d, op, ty, pos, after, some (j, want)⟩ J E M n := by
  unfold vOpD
  simp only [hs, hv]
  refine ⟨h1, fun ht => ?_⟩
  unfold vPut
  simp only [hd]
  exact h2 ht
theorem d_guardY (hs : (ops[j]?).bind (·.dst) = some s) (hv : VE.get E s = some (.bool want)) (h : vOpGD Pg T N ents G rf ⟨dst, op, ty, pos, after, some (j, want)⟩ J ((s, .bool want) :: E) M n) : vOpD Pg T N ents G ops rf ⟨dst, op, ty, pos, after, some (j, want)⟩ J E M n := by
  unfold vOpD
  simp only [hs, hv]
  exact ⟨fun _ => h, fun ht => by cases want <;> cases ht⟩
theorem d_guardN (hs : (ops[j]?).bind (·.dst) = some s) (hv : VE.get E s = some (.bool (!want))) (hd : Nat.blt d N = true) (h : J (bif rf then [] else numsO (VE.get E) op.operands.toList) ((d, .undef) :: (s, .bool (!want)) :: E) M) : vOpD Pg T N ents G ops rf ⟨some d, op, ty, pos, after, some (j, want)⟩ J E M n :=
  d_guard hs hv (fun ht => by cases want <;> cases ht) hd (fun _ => h)
theorem d_guardU (hs : (ops[j]?).bind (·.dst) = some s) (hv : VE.get E s = some .undef) (hd : Nat.blt d N = true) (h : J (bif rf then [] else numsO (VE.get E) op.operands.toList) ((d, .undef) :: E) M) : vOpD Pg T N ents G ops rf ⟨some d, op, ty, pos, after, some (j, want)⟩ J E M n := by
  unfold vOpD
  simp only [hs, hv]
  unfold vPut
  simp only [hd]
  exact h
theorem gd_run (hv : plainO op = true) (he : ∀ R : MV × Dl → Prop, R (r, δ) → (eOp Pg T (VE.get E) (VM.get M) n ⟨dst, op, ty, pos, after, g⟩).runP R)
    (h : vPut N dst r E fun E2 => J (numsO (VE.get E) op.operands.toList) E2 (δ.app n M)) : vOpGD Pg T N ents G false ⟨dst, op, ty, pos, after, g⟩ J E M n := by
  unfold vOpGD vRunD vRun
  dsimp only
  cases op with
  | call c =>
    obtain ⟨callee, args, ats⟩ := c
    cases callee with
    | value f => cases hv
    | builtin b => exact he _ h
    | invoke r n => exact he _ h
  | _ => exact he _ h
theorem gd_val (hv : plainO op = true) (he : ∀ R : MV × Dl → Prop, R (r, .none) → (eOp Pg T (VE.get E) (VM.get M) n ⟨some d, op, ty, pos, after, g⟩).runP R) (hd : Nat.blt d N = true)
    (h : J (numsO (VE.get E) op.operands.toList) ((d, r) :: E) M) : vOpGD Pg T N ents G false ⟨some d, op, ty, pos, after, g⟩ J E M n := by
  refine gd_run hv he ?_
  unfold vPut
  simp only [hd]
  exact h
theorem gd_mem (hv : plainO op = true) (he : ∀ R : MV × Dl → Prop, R (r, δ) → (eOp Pg T (VE.get E) (VM.get M) n ⟨some d, op, ty, pos, after, g⟩).runP R) (hd : Nat.blt d N = true)
    (h : J (numsO (VE.get E) op.operands.toList) ((d, r) :: E) (δ.app n M)) : vOpGD Pg T N ents G false ⟨some d, op, ty, pos, after, g⟩ J E M n := by
  refine gd_run hv he ?_
  unfold vPut
  simp only [hd]
  exact h
theorem gd_none (hv : plainO op = true) (he : ∀ R : MV × Dl → Prop, R (r, δ) → (eOp Pg T (VE.get E) (VM.get M) n ⟨none, op, ty, pos, after, g⟩).runP R)
    (h : J (numsO (VE.get E) op.operands.toList) E (δ.app n M)) : vOpGD Pg T N ents G false ⟨none, op, ty, pos, after, g⟩ J E M n := gd_run hv he h
theorem e_val {l : List Oper} (ho : nthO l k = some ⟨some d, op, ty, pos, after, none⟩) (hb : (plainO op && Nat.blt d N) = true) (he : ∀ R : MV × Dl → Prop, R (r, .none) → (eOp Pg T (VE.get E) (VM.get M) n ⟨some d, op, ty, pos, after, none⟩).runP R)
    (h : vOpsD Pg T N ents G (List.toArray l) L (⟨k, n, false, numsO (VE.get E) op.operands.toList⟩ :: A) K ((d, r) :: E) M (n + 1)) : vOpsD Pg T N ents G (List.toArray l) ((k, false) :: L) A K E M n := by
  rw [Bool.and_eq_true] at hb
  exact d_step ho (d_go (gd_val hb.1 he hb.2 h))
theorem e_mem {l : List Oper} (ho : nthO l k = some ⟨some d, op, ty, pos, after, none⟩) (hb : (plainO op && Nat.blt d N) = true) (he : ∀ R : MV × Dl → Prop, R (r, δ) → (eOp Pg T (VE.get E) (VM.get M) n ⟨some d, op, ty, pos, after, none⟩).runP R)
    (h : vOpsD Pg T N ents G (List.toArray l) L (⟨k, n, false, numsO (VE.get E) op.operands.toList⟩ :: A) K ((d, r) :: E) (δ.app n M) (n + 1)) : vOpsD Pg T N ents G (List.toArray l) ((k, false) :: L) A K E M n := by
  rw [Bool.and_eq_true] at hb
  exact d_step ho (d_go (gd_mem hb.1 he hb.2 h))
theorem e_none {l : List Oper} (ho : nthO l k = some ⟨none, op, ty, pos, after, none⟩) (hb : plainO op = true) (he : ∀ R : MV × Dl → Prop, R (r, δ) → (eOp Pg T (VE.get E) (VM.get M) n ⟨none, op, ty, pos, after, none⟩).runP R)
    (h : vOpsD Pg T N ents G (List.toArray l) L (⟨k, n, false, numsO (VE.get E) op.operands.toList⟩ :: A) K E (δ.app n M) (n + 1)) : vOpsD Pg T N ents G (List.toArray l) ((k, false) :: L) A K E M n :=
  d_step ho (d_go (gd_none hb he h))
theorem e_valY {l : List Oper} (ho : nthO l k = some ⟨some d, op, ty, pos, after, some (j, want)⟩) (hs : ((List.toArray l)[j]?).bind (·.dst) = some s) (hv : VE.get E s = some (.bool want)) (hb : (plainO op && Nat.blt d N) = true) (he : ∀ R : MV × Dl → Prop, R (r, .none) → (eOp Pg T (VE.get ((s, .bool want) :: E)) (VM.get M) n ⟨some d, op, ty, pos, after, some (j, want)⟩).runP R)
    (h : vOpsD Pg T N ents G (List.toArray l) L (⟨k, n, false, numsO (VE.get ((s, .bool want) :: E)) op.operands.toList⟩ :: A) K ((d, r) :: (s, .bool want) :: E) M (n + 1)) : vOpsD Pg T N ents G (List.toArray l) ((k, false) :: L) A K E M n := by
  rw [Bool.and_eq_true] at hb
  exact d_step ho (d_guardY hs hv (gd_val hb.1 he hb.2 h))
section
variable {f : Operand} {args : Array Operand} {ats : Array TypeId} {f0 : FuncId} {vs : List MV} {bs : List (Nat × Nat)} {res : MV}
theorem gd_callV (hd : ∀ d, dst = some d → Nat.blt d N = true) (h1 : ∀ R : FuncId × List MV × List (Nat × Nat) → Prop, R (f0, vs, bs) → (vCall E M f args.toList).runP R) (h2 : ents.contains f0 = true) (hc : SemC Pg G f0 vs res)
    (h : J (numsO (VE.get E) (Op.call ⟨.value f, args, ats⟩).operands.toList) (match dst with | some d => (d, res) :: E | none => E) (VM.bump M bs)) : vOpGD Pg T N ents G false ⟨dst, .call ⟨.value f, args, ats⟩, ty, pos, after, g⟩ J E M n := by
  show (vCall E M f args.toList).runP _
  refine h1 _ ?_
  show (match ents.contains f0 with | true => ∃ res, SemC Pg G f0 vs res ∧ _ | false => False)
  rw [h2]
  refine ⟨res, hc, ?_⟩
  unfold vPut
  cases dst with
  | none => exact h
  | some d =>
    simp only [hd d rfl]
    exact h
theorem gd_callR (hd : ∀ d, dst = some d → Nat.blt d N = true) (h1 : ∀ R : FuncId × List MV → Prop, R (f0, vs) → (vArgs E f args.toList).runP R) (h2 : ents.contains f0 = true) (fp : List Nat) {args' : List MV} {M0 : VM} {n0 : Nat} {M1 : VM} {n1 : Nat} (hc : SemR Pg G f0 args' M0 n0 res M1 n1) (σ bs : List (Nat × Nat))
    (hm : LMatch 0 args' M0 n0 vs M σ bs) (h3 : allIn M σ = true) (h4 : okNew σ n0 n1 M1 = true) (h7 : okTw n n0 n1 fp = true) (h5 : subN (σ.map (·.2)) fp = true) (h6 : subN (bs.map (·.1)) fp = true)
    (h : J fp (match dst with | some d => (d, renV (rhoZ n0 n σ) res) :: E | none => E) (renM (rhoZ n0 n σ) M1 ++ delM (VM.bump M bs) σ)) : vOpGD Pg T N ents G true ⟨dst, .call ⟨.value f, args, ats⟩, ty, pos, after, g⟩ J E M n := by
  show (vArgs E f args.toList).runP _
  refine h1 _ ?_
  show (match ents.contains f0 with | true => ∃ fp, vCallZ Pg G M n f0 vs fp _ | false => False)
  rw [h2]
  refine ⟨fp, args', M0, n0, res, M1, n1, hc, σ, bs, hm, h3, h4, h7, h5, h6, ?_⟩
  unfold vPut
  cases dst with
  | none => exact h
  | some d =>
    simp only [hd d rfl]
    exact h
theorem gd_callV1 (hd : Nat.blt d N = true) (h1 : ∀ R : FuncId × List MV × List (Nat × Nat) → Prop, R (f0, vs, bs) → (vCall E M f args.toList).runP R) (h2 : ents.contains f0 = true) (hc : SemC Pg G f0 vs res)
    (h : J (numsO (VE.get E) (Op.call ⟨.value f, args, ats⟩).operands.toList) ((d, res) :: E) (VM.bump M bs)) : vOpGD Pg T N ents G false ⟨some d, .call ⟨.value f, args, ats⟩, ty, pos, after, g⟩ J E M n := gd_callV (fun d' e => by injection e with e; subst e; exact hd) h1 h2 hc h
theorem gd_callR1 (hd : Nat.blt d N = true) (h1 : ∀ R : FuncId × List MV → Prop, R (f0, vs) → (vArgs E f args.toList).runP R) (h2 : ents.contains f0 = true) (fp : List Nat) {args' : List MV} {M0 : VM} {n0 : Nat} {M1 : VM} {n1 : Nat} (hc : SemR Pg G f0 args' M0 n0 res M1 n1) (σ bs : List (Nat × Nat))
    (hm : LMatch 0 args' M0 n0 vs M σ bs) (h3 : allIn M σ = true) (h4 : okNew σ n0 n1 M1 = true) (h7 : okTw n n0 n1 fp = true) (h5 : subN (σ.map (·.2)) fp = true) (h6 : subN (bs.map (·.1)) fp = true)
    (h : J fp ((d, renV (rhoZ n0 n σ) res) :: E) (renM (rhoZ n0 n σ) M1 ++ delM (VM.bump M bs) σ)) : vOpGD Pg T N ents G true ⟨some d, .call ⟨.value f, args, ats⟩, ty, pos, after, g⟩ J E M n := gd_callR (fun d' e => by injection e with e; subst e; exact hd) h1 h2 fp hc σ bs hm h3 h4 h7 h5 h6 h
end
end
end Go.Proofs.YtmeeeigfjlbnkaaGreat
namespace Go.Proofs.YtmeeeigfjlbnkaaGreat
open Go.RowKit
mutual
def nfree : MV → Bool
  | .tup l => nfrees l
  | .undef => true
  | m => m.idFree
def nfrees : List MV → Bool
  | [] => true
  | m :: l => nfree m && nfrees l
end
theorem renV_free {ρ : Nat → Nat} : ∀ m : MV, m.idFree = true → renV ρ m = m
  | .st l, h => by
    have h : MV.idFrees l = true := h
    simp only [renV, h, cond_true]
  | .fn f l, h => by
    have h : MV.idFrees l = true := h
    simp only [renV, h, cond_true]
  | .ifc t v, h => by
    have h : MV.idFree v = true := h
    simp only [renV, h, cond_true]
  | .ptr .., h => by cases h
  | .ms .., h => by cases h
  | .tup .., h => by cases h
  | .undef, h => by cases h
  | .mp _, h => by cases h
  | .mpv .., h => by cases h
  | .int .., _ => by simp only [renV]
  | .bool .., _ => by simp only [renV]
  | .str .., _ => by simp only [renV]
  | .nilp, _ => by simp only [renV]
  | .gp .., _ => by simp only [renV]
  | .ep .., _ => by simp only [renV]
  | .sl .., _ => by simp only [renV]
  | .nils, _ => by simp only [renV]
  | .nilf, _ => by simp only [renV]
  | .nili, _ => by simp only [renV]
  | .arr .., _ => by simp only [renV]
mutual
theorem renV_nfree {ρ : Nat → Nat} : ∀ m : MV, nfree m = true → renV ρ m = m
  | .tup l, h => by
    simp only [nfree] at h
    simp only [renV, renVs_nfree l h]
  | .undef, _ => by simp only [renV]
  | .st l, h => renV_free _ (by simpa only [nfree] using h)
  | .fn f l, h => renV_free _ (by simpa only [nfree] using h)
  | .ifc t v, h => renV_free _ (by simpa only [nfree] using h)
  | .ptr .., h => by simp only [nfree] at h; cases h
  | .ms .., h => by simp only [nfree] at h; cases h
  | .mp _, h => by simp only [nfree] at h; cases h
  | .mpv .., h => by simp only [nfree] at h; cases h
  | .int .., _ => by simp only [renV]
  | .bool .., _ => by simp only [renV]
  | .str .., _ => by simp only [renV]
  | .nilp, _ => by simp only [renV]
  | .gp .., _ => by simp only [renV]
  | .ep .., _ => by simp only [renV]
  | .sl .., _ => by simp only [renV]
  | .nils, _ => by simp only [renV]
  | .nilf, _ => by simp only [renV]
  | .nili, _ => by simp only [renV]
  | .arr .., _ => by simp only [renV]
theorem renVs_nfree {ρ : Nat → Nat} : ∀ l : List MV, nfrees l = true → renVs ρ l = l
  | [], _ => by simp only [renVs]
  | m :: l, h => by
    simp only [nfrees, Bool.and_eq_true] at h
    simp only [renVs, renV_nfree m h.1, renVs_nfree l h.2]
end
section
variable {Pg : Program} {T : Tab} {N : Nat} {ents : List FuncId} {G : GS} {ops : Array Oper} {d : Tmp} {ty : TypeId} {pos : String} {after : Array Edge} {g : Option (Nat × Bool)} {rest : List Oper} {K : VK} {E : VE} {M : VM} {n : Nat}
  {f : Operand} {args : Array Operand} {ats : Array TypeId} {f0 : FuncId} {vs : List MV} {res : MV} {J : List Nat → VE → VM → Prop}
theorem LMatch_nil {args' l : List MV} {_σ' : List (Nat × Nat)} {bs : List (Nat × Nat)} (hb : okB M bs) (h : relV.relVs (sigA 0 []) (fzb M bs) args' l) : LMatch 0 args' [] 0 l M [] bs := ⟨rfl, hb, rfl, h, trivial⟩
theorem g_call1 (hd : Nat.blt d N = true) (h1 : ∀ R : FuncId × List MV → Prop, R (f0, vs) → (vArgs E f args.toList).runP R) (h2 : ents.contains f0 = true) {args' : List MV} (hc : SemR Pg G f0 args' [] 0 res [] 0) (hf : nfree res = true) (bs : List (Nat × Nat)) (hb : okB M bs)
    (hm : relV.relVs (sigA 0 []) (fzb M bs) args' vs) (h : vOpsN Pg T N ents G ops rest K ((d, res) :: E) (VM.bump M bs) n) : vOpsG Pg T N ents G ops ⟨some d, .call ⟨.value f, args, ats⟩, ty, pos, after, g⟩ rest K E M n := by
  refine g_callR1 hd h1 h2 hc [] bs ⟨rfl, hb, rfl, hm, trivial⟩ rfl rfl ?_
  rw [renV_nfree res hf]
  exact h
theorem g_call2 (hd : Nat.blt d N = true) (h1 : ∀ R : FuncId × List MV → Prop, R (f0, vs) → (vArgs E f args.toList).runP R) (h2 : ents.contains f0 = true) {args' : List MV} (hc : SemR Pg G f0 args' [] 0 res [] 0) (hf : nfree res = true)
    (hm : relV.relVs (sigA 0 []) (fzb M []) args' vs) (h : vOpsN Pg T N ents G ops rest K ((d, res) :: E) M n) : vOpsG Pg T N ents G ops ⟨some d, .call ⟨.value f, args, ats⟩, ty, pos, after, g⟩ rest K E M n :=
  g_call1 hd h1 h2 hc hf [] trivial hm h
theorem gd_call1 (hd : Nat.blt d N = true) (h1 : ∀ R : FuncId × List MV → Prop, R (f0, vs) → (vArgs E f args.toList).runP R) (h2 : ents.contains f0 = true) (fp : List Nat) {args' : List MV} (hc : SemR Pg G f0 args' [] 0 res [] 0) (hf : nfree res = true) (bs : List (Nat × Nat)) (hb : okB M bs)
    (hm : relV.relVs (sigA 0 []) (fzb M bs) args' vs) (h6 : subN (bs.map (·.1)) fp = true) (h : J fp ((d, res) :: E) (VM.bump M bs)) : vOpGD Pg T N ents G true ⟨some d, .call ⟨.value f, args, ats⟩, ty, pos, after, g⟩ J E M n := by
  refine gd_callR1 hd h1 h2 fp hc [] bs ⟨rfl, hb, rfl, hm, trivial⟩ rfl rfl rfl rfl h6 ?_
  rw [renV_nfree res hf]
  exact h
end
end Go.Proofs.YtmeeeigfjlbnkaaGreat
namespace Go.Proofs.YtmeeeigfjlbnkaaGreat
open Go.RowKit
section
variable {Pg : Program} {T : Tab} {E : VE} {M : VM} {n : Nat} {dst : Option Tmp} {t ty : TypeId} {pos : String} {after : Array Edge} {g : Option (Nat × Bool)} {R : MV × Dl → Prop} {x y : Operand} {c es k fo : Nat} {path : List Nat} {b : MB} {m m' r v : MV} {d : TD}
def okLd (T : Tab) (t : TypeId) (es' es : Nat) (r : MV) : Bool := match Tab.find T t with | some d => Nat.beq es' es && fits d r | none => false
def okSt (T : Tab) (t : TypeId) (es' es : Nat) (row : Bool) (v : MV) : Bool := match Tab.find T t with | some d => Nat.beq es' es && fits d v && (!row || v.idFree) | none => false
def getP : MV → List Nat → Option MV
  | m, [] => some m
  | .st l, i :: p => match nthM l i with
    | some m => getP m p
    | none => none
  | .arr _ _ l, i :: p => match nthM l i with
    | some m => getP m p
    | none => none
  | _, _ :: _ => none
def okP : MV → List Nat → Nat → Bool
  | _, [], fo => Nat.beq fo 0
  | .st l, i :: p, fo => match nthM l i with
    | some m => Nat.ble (sizesTo l i) fo && okP m p (fo - sizesTo l i)
    | none => false
  | .arr _ es l, i :: p, fo => match nthM l i with
    | some m => Nat.ble (i * es) fo && okP m p (fo - i * es)
    | none => false
  | _, _ :: _, _ => false
theorem getPO_of : ∀ {p : List Nat} {m : MV} {fo : Nat}, okP m p fo = true → getPO m p fo = getP m p
  | [], m, fo, h => by
    have h' : Nat.beq fo 0 = true := by unfold okP at h; exact h
    unfold getPO getP
    rw [h']
    rfl
  | i :: p, m, fo, h => by
    unfold okP at h
    unfold getPO getP
    split at h
    · exact nomatch ‹i :: p = []›
    · rename_i heq
      injection heq with h1 h2
      subst h1 h2
      dsimp only
      split at h
      · rename_i hn
        rw [Bool.and_eq_true] at h
        rw [hn]
        dsimp only
        rw [h.1]
        exact getPO_of h.2
      · exact Bool.noConfusion h
    · rename_i heq
      injection heq with h1 h2
      subst h1 h2
      dsimp only
      split at h
      · rename_i hn
        rw [Bool.and_eq_true] at h
        rw [hn]
        dsimp only
        rw [h.1]
        exact getPO_of h.2
      · exact Bool.noConfusion h
    · exact Bool.noConfusion h
def setP : MV → List Nat → MV → Option MV
  | _, [], v => some v
  | .st l, i :: p, v => match nthM l i with
    | some m => (match setP m p v with | some m' => some (.st (setL l i m')) | none => none)
    | none => none
  | .arr n es l, i :: p, v => match nthM l i with
    | some m => (match setP m p v with | some m' => some (.arr n es (setL l i m')) | none => none)
    | none => none
  | _, _ :: _, _ => none
def okSto : MV → List Nat → Nat → MV → Bool
  | m, [], fo, v => (Nat.beq fo 0 && Nat.beq v.size m.size) && bEq v.isAgg m.isAgg
  | .st l, i :: p, fo, v => match nthM l i with
    | some m => Nat.ble (sizesTo l i) fo && okSto m p (fo - sizesTo l i) v
    | none => false
  | .arr _ es l, i :: p, fo, v => match nthM l i with
    | some m => (Nat.ble (i * es) fo && v.idFree) && okSto m p (fo - i * es) v
    | none => false
  | _, _ :: _, _, _ => false
theorem setPO_of : ∀ {p : List Nat} {m : MV} {fo : Nat} {v : MV}, okSto m p fo v = true → setPO m p fo v = setP m p v
  | [], m, fo, v, h => by
    have h' : ((Nat.beq fo 0 && Nat.beq v.size m.size) && bEq v.isAgg m.isAgg) = true := by unfold okSto at h; exact h
    rw [Bool.and_eq_true] at h'
    unfold setPO setP
    rw [h'.1]
    have h2 := h'.2
    generalize v.isAgg = a at *
    generalize m.isAgg = b at *
    cases a <;> cases b <;> first | rfl | exact Bool.noConfusion h2
  | i :: p, m, fo, v, h => by
    unfold okSto at h
    unfold setPO setP
    split at h
    · exact nomatch ‹i :: p = []›
    · rename_i heq
      injection heq with h1 h2
      subst h1 h2
      dsimp only
      split at h
      · rename_i hn
        rw [Bool.and_eq_true] at h
        rw [hn]
        dsimp only
        rw [h.1, setPO_of h.2]
        rfl
      · exact Bool.noConfusion h
    · rename_i heq
      injection heq with h1 h2
      subst h1 h2
      dsimp only
      split at h
      · rename_i hn
        rw [Bool.and_eq_true] at h
        rw [hn]
        dsimp only
        rw [h.1, setPO_of h.2]
        rfl
      · exact Bool.noConfusion h
    · exact Bool.noConfusion h
theorem he_load (hp : evM (VE.get E) x = some (.ptr c es k fo path)) (hc : VM.get M c = some b) (hm : nthM b.l k = some m) (hr : getPO m path fo = some r) (hk : okLd T t b.es es r = true) (hR : R (r, .none)) : (eOp Pg T (VE.get E) (VM.get M) n ⟨dst, .load t x, ty, pos, after, g⟩).runP R := by
  show (rd (VE.get E) x fun p => oLoad T (VM.get M) t p).runP R
  unfold rd
  rw [hp]
  unfold okLd at hk
  show (oLoad T (VM.get M) t (.ptr c es k fo path)).runP R
  unfold oLoad
  cases ht : Tab.find T t with
  | none => rw [ht] at hk; exact Bool.noConfusion hk
  | some d =>
    rw [ht] at hk
    simp only [Bool.and_eq_true] at hk
    simp only [hc, hk.1, cond_true]
    refine ⟨m, hm, r, hr, ?_⟩
    simp only [hk.2, cond_true]
    exact hR
theorem he_store (hp : evM (VE.get E) x = some (.ptr c es k fo path)) (hy : evM (VE.get E) y = some v) (hc : VM.get M c = some b) (hpe : b.pe ≤ k) (hm : nthM b.l k = some m) (hs : setPO m path fo v = some m') (hk : okSt T t b.es es b.row v = true) (hR : R (.undef, .upd c (setL b.l k m'))) : (eOp Pg T (VE.get E) (VM.get M) n ⟨dst, .store t x y, ty, pos, after, g⟩).runP R := by
  show (rd (VE.get E) x fun p => rd (VE.get E) y fun v => oStore T (VM.get M) t p v).runP R
  unfold rd
  rw [hp]
  dsimp only
  rw [hy]
  unfold okSt at hk
  show (oStore T (VM.get M) t (.ptr c es k fo path) v).runP R
  unfold oStore
  cases ht : Tab.find T t with
  | none => rw [ht] at hk; exact Bool.noConfusion hk
  | some d =>
    rw [ht] at hk
    simp only [hc]
    have hk' : (Nat.beq b.es es && fits d v && (!b.row || v.idFree)) = true := hk
    rw [hk']
    exact ⟨hpe, m, hm, m', hs, _, rfl, hR⟩
theorem he_box (hx : evM (VE.get E) x = some v) (ht : Tab.find T t = some d) (hk : fits d v = true) (hR : R (.ptr n d.size 0 0 [], .new ⟨t, d.size, false, 0, [v]⟩)) : (eOp Pg T (VE.get E) (VM.get M) n ⟨dst, .box t x, ty, pos, after, g⟩).runP R := by
  show (rd (VE.get E) x fun v => oBox T n t v).runP R
  unfold rd
  rw [hx]
  show (oBox T n t v).runP R
  unfold oBox
  rw [ht]
  simp only [hk, cond_true]
  exact hR
theorem he_alloc (ht : Tab.find T t = some d) (hz : zeroM T 9 t = some v) (hk : fits d v = true) (hR : R (.ptr n d.size 0 0 [], .new ⟨t, d.size, false, 0, [v]⟩)) : (eOp Pg T (VE.get E) (VM.get M) n ⟨dst, .alloc t, ty, pos, after, g⟩).runP R := by
  show (oAlloc T n t).runP R
  unfold oAlloc
  rw [ht, hz]
  simp only [hk, cond_true]
  exact hR
theorem he_loadP (hp : evM (VE.get E) x = some (.ptr c es k fo path)) (hc : VM.get M c = some b) (hm : nthM b.l k = some m) (hr : getP m path = some r) (hk : (okLd T t b.es es r && okP m path fo) = true) (hR : R (r, .none)) : (eOp Pg T (VE.get E) (VM.get M) n ⟨dst, .load t x, ty, pos, after, g⟩).runP R := by
  rw [Bool.and_eq_true] at hk
  exact he_load hp hc hm ((getPO_of hk.2).trans hr) hk.1 hR
theorem he_storeP (hp : evM (VE.get E) x = some (.ptr c es k fo path)) (hy : evM (VE.get E) y = some v) (hc : VM.get M c = some b) (hpe : b.pe ≤ k) (hm : nthM b.l k = some m) (hs : setP m path v = some m') (hk : (okSt T t b.es es b.row v && okSto m path fo v) = true) (hR : R (.undef, .upd c (setL b.l k m'))) : (eOp Pg T (VE.get E) (VM.get M) n ⟨dst, .store t x y, ty, pos, after, g⟩).runP R := by
  rw [Bool.and_eq_true] at hk
  exact he_store hp hy hc hpe hm ((setPO_of hk.2).trans hs) hk.1 hR
variable {N : Nat} {ents : List FuncId} {G : GS} {ops : Array Oper} {rest : List Oper} {K : VK} {dd : Tmp}
theorem n_load (hp : evM (VE.get E) x = some (.ptr c es k fo path)) (hc : VM.get M c = some b) (hm : nthM b.l k = some m) (hr : getP m path = some r) (hk : ((okO T N E ⟨some dd, .load t x, ty, pos, after, none⟩ && okLd T t b.es es r) && okP m path fo) = true) (h : vOpsN Pg T N ents G ops rest K ((dd, r) :: E) M (n + 1)) : vOpsN Pg T N ents G ops (⟨some dd, .load t x, ty, pos, after, none⟩ :: rest) K E M n := by
  rw [Bool.and_eq_true, Bool.and_eq_true] at hk
  exact n_val hk.1.1 (fun R hR => he_load hp hc hm ((getPO_of hk.2).trans hr) hk.1.2 hR) h
theorem n_store (hp : evM (VE.get E) x = some (.ptr c es k fo path)) (hy : evM (VE.get E) y = some v) (hc : VM.get M c = some b) (hpe : b.pe ≤ k) (hm : nthM b.l k = some m) (hs : setP m path v = some m') (hk : ((okO T N E ⟨none, .store t x y, ty, pos, after, none⟩ && okSt T t b.es es b.row v) && okSto m path fo v) = true) (h : vOpsN Pg T N ents G ops rest K E (Dl.app n (.upd c (setL b.l k m')) M) (n + 1)) : vOpsN Pg T N ents G ops (⟨none, .store t x y, ty, pos, after, none⟩ :: rest) K E M n := by
  rw [Bool.and_eq_true, Bool.and_eq_true] at hk
  exact n_none hk.1.1 (fun R hR => he_store hp hy hc hpe hm ((setPO_of hk.2).trans hs) hk.1.2 hR) h
theorem e_load {l : List Oper} {q : Nat} {L : List (Nat × Bool)} {A : List Dop} (ho : nthO l q = some ⟨some dd, .load t x, ty, pos, after, none⟩) (hp : evM (VE.get E) x = some (.ptr c es k fo path)) (hc : VM.get M c = some b) (hm : nthM b.l k = some m) (hr : getP m path = some r) (hk : ((Nat.blt dd N && okLd T t b.es es r) && okP m path fo) = true) (h : vOpsD Pg T N ents G (List.toArray l) L (⟨q, n, false, numsO (VE.get E) (Op.load t x).operands.toList⟩ :: A) K ((dd, r) :: E) M (n + 1)) : vOpsD Pg T N ents G (List.toArray l) ((q, false) :: L) A K E M n := by
  rw [Bool.and_eq_true, Bool.and_eq_true] at hk
  exact e_val ho (by rw [show plainO (Op.load t x) = true from rfl, Bool.true_and]; exact hk.1.1) (fun R hR => he_load hp hc hm ((getPO_of hk.2).trans hr) hk.1.2 hR) h
theorem e_store {l : List Oper} {q : Nat} {L : List (Nat × Bool)} {A : List Dop} (ho : nthO l q = some ⟨none, .store t x y, ty, pos, after, none⟩) (hp : evM (VE.get E) x = some (.ptr c es k fo path)) (hy : evM (VE.get E) y = some v) (hc : VM.get M c = some b) (hpe : b.pe ≤ k) (hm : nthM b.l k = some m) (hs : setP m path v = some m') (hk : (okSt T t b.es es b.row v && okSto m path fo v) = true) (h : vOpsD Pg T N ents G (List.toArray l) L (⟨q, n, false, numsO (VE.get E) (Op.store t x y).operands.toList⟩ :: A) K E (Dl.app n (.upd c (setL b.l k m')) M) (n + 1)) : vOpsD Pg T N ents G (List.toArray l) ((q, false) :: L) A K E M n := by
  rw [Bool.and_eq_true] at hk
  exact e_none ho rfl (fun R hR => he_store hp hy hc hpe hm ((setPO_of hk.2).trans hs) hk.1 hR) h
theorem n_box (hx : evM (VE.get E) x = some v) (ht : Tab.find T t = some d) (hk : (okO T N E ⟨some dd, .box t x, ty, pos, after, none⟩ && fits d v) = true) (h : vOpsN Pg T N ents G ops rest K ((dd, .ptr n d.size 0 0 []) :: E) (Dl.app n (.new ⟨t, d.size, false, 0, [v]⟩) M) (n + 1)) : vOpsN Pg T N ents G ops (⟨some dd, .box t x, ty, pos, after, none⟩ :: rest) K E M n := by
  rw [Bool.and_eq_true] at hk
  exact n_mem hk.1 (fun R hR => he_box hx ht hk.2 hR) h
theorem n_alloc (ht : Tab.find T t = some d) (hz : zeroM T 9 t = some v) (hk : (okO T N E ⟨some dd, .alloc t, ty, pos, after, none⟩ && fits d v) = true) (h : vOpsN Pg T N ents G ops rest K ((dd, .ptr n d.size 0 0 []) :: E) (Dl.app n (.new ⟨t, d.size, false, 0, [v]⟩) M) (n + 1)) : vOpsN Pg T N ents G ops (⟨some dd, .alloc t, ty, pos, after, none⟩ :: rest) K E M n := by
  rw [Bool.and_eq_true] at hk
  exact n_mem hk.1 (fun R hR => he_alloc ht hz hk.2 hR) h
end
section
mutual
def clnV : MV → Bool
  | .int _ _ => true
  | .bool _ => true
  | .str _ => true
  | .nilp => true
  | .arr .. => true
  | .sl .. => true
  | .st l => clnVs l
  | _ => false
def clnVs : List MV → Bool
  | [] => true
  | m :: l => bif clnV m then clnVs l else false
end
mutual
theorem frz_cln {M : FM} : ∀ {v : MV} {K : MV × List (Nat × Nat) → Prop}, clnV v = true → K (v, []) → (frz M v).runP K
  | .int _ _, _, _, h => h
  | .bool _, _, _, h => h
  | .str _, _, _, h => h
  | .nilp, _, _, h => h
  | .nilf, _, hc, _ => Bool.noConfusion hc
  | .nili, _, hc, _ => Bool.noConfusion hc
  | .arr .., _, _, h => h
  | .sl .., _, _, h => h
  | .st l, _, hc, h => frzs_cln (v := l) hc h
  | .nils, _, hc, _ => Bool.noConfusion hc
  | .ptr .., _, hc, _ => Bool.noConfusion hc
  | .gp .., _, hc, _ => Bool.noConfusion hc
  | .ep .., _, hc, _ => Bool.noConfusion hc
  | .ms .., _, hc, _ => Bool.noConfusion hc
  | .fn .., _, hc, _ => Bool.noConfusion hc
  | .ifc .., _, hc, _ => Bool.noConfusion hc
  | .tup _, _, hc, _ => Bool.noConfusion hc
  | .undef, _, hc, _ => Bool.noConfusion hc
theorem frzs_cln {M : FM} : ∀ {v : List MV} {K : List MV × List (Nat × Nat) → Prop}, clnVs v = true → K (v, []) → (frzs M v).runP K
  | [], _, _, h => h
  | m :: l, _, hc, h => by
    unfold clnVs at hc
    cases hm : clnV m with
    | false => rw [hm] at hc; exact Bool.noConfusion hc
    | true =>
      rw [hm] at hc
      exact frz_cln hm (frzs_cln hc h)
end
theorem oLoad_mono {T : Tab} {M : FM} {ty : TypeId} {p : MV} {K K' : MV × Dl → Prop} (hk : ∀ x, K x → K' x) (h : (oLoad T M ty p).runP K) : (oLoad T M ty p).runP K' := by
  unfold oLoad at h ⊢
  split at h
  · exact h
  · split at h
    · split at h
      · rename_i b _
        cases hb : Nat.beq b.es _ with
        | false => rw [hb] at h; exact h
        | true =>
          rw [hb] at h
          obtain ⟨m, hm, r, hr, h⟩ := h
          refine ⟨m, hm, r, hr, ?_⟩
          dsimp only at h ⊢
          generalize fits _ r = q at *
          cases q
          · exact h
          · exact hk _ h
      · exact h
    · obtain ⟨r, hr, h⟩ := h
      refine ⟨r, hr, ?_⟩
      dsimp only at h ⊢
      generalize fits _ r = q at *
      cases q
      · exact h
      · exact hk _ h
    · exact h
theorem vRets_mono {T : Tab} {M : VM} {E : VE} : ∀ {rs : List ResultVar} {K K' : List MV → Prop}, (∀ v, K v → K' v) → vRets T M E rs K → vRets T M E rs K'
  | [], _, _, hk, h => hk _ h
  | .tmp t :: l, K, K', hk, h => by
    unfold vRets at h ⊢
    split at h
    · exact vRets_mono (fun v hv => hk _ hv) h
    · exact h
  | .cell p ty :: l, K, K', hk, h => by
    unfold vRets at h ⊢
    split at h
    · exact oLoad_mono (fun x hx => vRets_mono (fun v hv => hk _ hv) hx) h
    · exact h
theorem ret_c {T : Tab} {rs : List ResultVar} {res : MV} {M : VM} {E : VE} {n : Nat} (vs : List MV) (hR : tupM vs = res) (hc : clnVs vs = true) (h1 : vRets T M E rs (fun v => v = vs)) : vRetQ T rs (fun r => r = res) .ret E M n :=
  vRets_mono (fun v hv => by subst hv; exact frzs_cln hc hR) h1
end
end Go.Proofs.YtmeeeigfjlbnkaaGreat
namespace Go.Proofs.YtmeeeigfjlbnkaaGreat
def tab : Tab := [(1, .fn), (2, .int .i64), (3, .int .i64), (4, .bool), (5, .int .u8), (6, .int .u8), (7, .struct [(0, 2), (1, 3), (2, 4), (3, 6)] 4), (8, .struct [(0, 2), (1, 3), (2, 4), (3, 6)] 4), (9, .str), (10, .str), (11, .str), (12, .int .u64), (13, .struct [(0, 9), (1, 12)] 2), (14, .struct [(0, 9), (1, 12)] 2), (15, .ptr), (16, .ptr), (17, .ptr), (18, .struct [(0, 17)] 1), (19, .struct [(0, 17)] 1), (20, .iface), (21, .int .i32), (22, .slice 5 1), (23, .struct [(0, 3), (1, 3), (2, 3), (3, 3), (4, 22)] 5), (24, .struct [(0, 3), (1, 3), (2, 3), (3, 3), (4, 22)] 5), (25, .ptr), (26, .fn), (27, .int .i64), (28, .arr 32 5 1), (29, .arr 32 5 1), (30, .int .u64), (31, .slice 29 32), (32, .slice 22 1), (33, .struct [(0, 27), (1, 29), (33, 30), (34, 31), (35, 31), (36, 31), (37, 31), (38, 31), (39, 32), (40, 3), (41, 29)] 73), (34, .struct [(0, 27), (1, 29), (33, 30), (34, 31), (35, 31), (36, 31), (37, 31), (38, 31), (39, 32), (40, 3), (41, 29)] 73), (35, .fn), (36, .fn), (37, .struct [(0, 3), (1, 3), (2, 3), (3, 3), (4, 3), (5, 3), (6, 4), (7, 3), (8, 3), (9, 30), (10, 3), (11, 3)] 12), (38, .struct [(0, 3), (1, 3), (2, 3), (3, 3), (4, 3), (5, 3), (6, 4), (7, 3), (8, 3), (9, 30), (10, 3), (11, 3)] 12), (39, .slice 93 3), (40, .struct [(0, 39), (1, 30)] 2), (41, .struct [(0, 39), (1, 30)] 2), (42, .struct [(0, 41), (2, 41), (4, 41), (6, 4), (7, 30)] 8), (43, .struct [(0, 41), (2, 41), (4, 41), (6, 4), (7, 30)] 8), (44, .slice 140 41), (45, .struct [(0, 38), (12, 43), (20, 3), (21, 3), (22, 3), (23, 44), (24, 31)] 25), (46, .struct [(0, 38), (12, 43), (20, 3), (21, 3), (22, 3), (23, 44), (24, 31)] 25), (47, .fn), (48, .struct [(0, 3), (1, 3), (2, 29), (34, 29), (66, 29)] 98), (49, .struct [(0, 3), (1, 3), (2, 29), (34, 29), (66, 29)] 98), (50, .fn), (51, .slice 87 132), (52, .fn), (53, .fn), (54, .fn), (55, .fn), (56, .fn), (57, .struct [(0, 3), (1, 3), (2, 3), (3, 3), (4, 22)] 5), (58, .struct [(0, 3), (1, 3), (2, 3), (3, 3), (4, 22)] 5), (59, .ptr), (61, .fn), (62, .fn), (63, .fn), (64, .slice 107 4), (65, .fn), (67, .fn), (68, .fn), (69, .fn), (70, .fn), (71, .fn), (72, .fn), (73, .iface), (74, .iface), (76, .fn), (77, .fn), (78, .fn), (79, .fn), (80, .fn), (81, .arr 16 31 1), (82, .struct [(0, 46), (25, 49), (123, 51), (124, 81), (140, 51), (141, 22)] 142), (83, .struct [(0, 46), (25, 49), (123, 51), (124, 81), (140, 51), (141, 22)] 142), (84, .struct [(0, 3), (1, 3), (2, 3), (3, 29), (35, 29), (67, 29), (99, 29)] 131), (85, .struct [(0, 3), (1, 3), (2, 3), (3, 29), (35, 29), (67, 29), (99, 29)] 131), (86, .struct [(0, 85), (131, 32)] 132), (87, .struct [(0, 85), (131, 32)] 132), (88, .fn), (89, .fn), (90, .fn), (91, .fn), (92, .struct [(0, 9), (1, 30), (2, 30)] 3), (93, .struct [(0, 9), (1, 30), (2, 30)] 3), (95, .fn), (96, .fn), (97, .fn), (98, .fn), (99, .slice 25 1), (100, .struct [(0, 38), (12, 39), (13, 99), (14, 32), (15, 64)] 16), (101, .struct [(0, 38), (12, 39), (13, 99), (14, 32), (15, 64)] 16), (102, .fn), (103, .fn), (104, .fn), (105, .fn), (106, .struct [(0, 3), (1, 3), (2, 4), (3, 22)] 4), (107, .struct [(0, 3), (1, 3), (2, 4), (3, 22)] 4), (108, .fn), (109, .fn), (111, .fn), (113, .fn), (114, .fn), (116, .fn), (117, .struct [(0, 9), (1, 30)] 2), (118, .struct [(0, 9), (1, 30)] 2), (119, .slice 118 2), (120, .struct [(0, 9), (1, 30), (2, 30), (3, 30), (4, 9), (5, 119)] 6), (121, .struct [(0, 9), (1, 30), (2, 30), (3, 30), (4, 9), (5, 119)] 6), (122, .struct [(0, 22), (1, 3)] 2), (123, .struct [(0, 22), (1, 3)] 2), (124, .struct [(0, 3)] 1), (125, .struct [(0, 3)] 1), (126, .struct [(0, 3), (1, 3)] 2), (127, .struct [(0, 3), (1, 3)] 2), (128, .struct [] 0), (129, .struct [] 0), (130, .struct [(0, 22)] 1), (131, .struct [(0, 22)] 1), (132, .struct [(0, 22)] 1), (133, .struct [] 0), (134, .struct [(0, 3)] 1), (135, .struct [(0, 3)] 1), (136, .fn), (137, .fn), (138, .slice 3 1), (139, .struct [(0, 29), (32, 22), (33, 9), (34, 30), (35, 30), (36, 30), (37, 3), (38, 3), (39, 3), (40, 138)] 41), (140, .struct [(0, 29), (32, 22), (33, 9), (34, 30), (35, 30), (36, 30), (37, 3), (38, 3), (39, 3), (40, 138)] 41), (141, .fn), (142, .fn), (143, .fn), (145, .fn), (146, .fn), (147, .fn), (148, .fn), (149, .slice 153 4), (151, .fn), (152, .struct [(0, 3), (1, 3), (2, 30), (3, 22)] 4), (153, .struct [(0, 3), (1, 3), (2, 30), (3, 22)] 4), (155, .fn), (156, .fn), (157, .fn), (158, .fn), (159, .fn), (160, .fn), (161, .fn), (163, .fn), (164, .fn), (165, .fn), (166, .fn), (167, .fn), (168, .fn), (169, .int .u64), (171, .fn), (172, .ptr), (173, .arr 3 172 1), (175, .fn), (176, .ptr), (177, .arr 4 176 1), (179, .fn), (180, .fn), (181, .fn), (182, .fn), (183, .fn), (184, .fn), (185, .struct [(0, 30), (1, 4)] 2), (186, .struct [(0, 30), (1, 4)] 2), (187, .struct [(0, 9), (1, 186), (3, 186), (5, 186)] 7), (188, .struct [(0, 9), (1, 186), (3, 186), (5, 186)] 7), (189, .arr 12 188 7), (190, .fn), (192, .fn), (193, .fn), (195, .fn), (196, .fn), (197, .fn), (198, .ptr), (199, .fn), (200, .fn), (201, .fn), (202, .slice 204 5), (203, .struct [(0, 27), (1, 9), (2, 30), (3, 30), (4, 30)] 5), (204, .struct [(0, 27), (1, 9), (2, 30), (3, 30), (4, 30)] 5), (205, .fn), (206, .arr 3 3 1), (207, .arr 4 29 32), (209, .fn), (210, .fn), (211, .fn), (212, .arr 12 172 1), (213, .fn), (214, .ptr), (215, .fn), (216, .other), (219, .fn), (220, .fn), (221, .fn), (222, .fn), (223, .fn), (224, .fn), (225, .int .u32), (226, .arr 8 225 1), (227, .arr 8 225 1), (228, .fn), (229, .struct [(0, 227), (8, 22), (9, 3)] 10), (230, .struct [(0, 227), (8, 22), (9, 3)] 10), (231, .fn), (232, .fn), (233, .fn), (234, .fn), (235, .fn), (236, .slice 30 1), (237, .fn), (238, .fn), (239, .fn), (240, .arr 64 225 1), (241, .fn), (242, .ptr), (243, .fn), (244, .fn), (245, .fn), (246, .fn), (247, .fn), (248, .int .i64), (250, .fn), (251, .fn), (252, .fn), (253, .fn), (254, .fn), (255, .fn), (257, .fn), (258, .fn), (259, .int .u64), (260, .fn), (261, .fn), (262, .fn), (263, .fn), (264, .ptr), (266, .fn), (267, .fn), (268, .struct [(0, 17), (1, 17), (2, 17), (3, 9)] 4), (269, .struct [(0, 17), (1, 17), (2, 17), (3, 9)] 4), (273, .fn), (274, .int .u8), (275, .int .u8), (276, .fn), (277, .ptr), (278, .int .i32), (279, .int .i32), (280, .struct [(0, 12), (1, 12), (2, 225), (3, 274), (4, 5), (5, 5), (6, 275), (7, 276), (8, 277), (9, 278), (10, 279)] 11), (281, .struct [(0, 12), (1, 12), (2, 225), (3, 274), (4, 5), (5, 5), (6, 275), (7, 276), (8, 277), (9, 278), (10, 279)] 11), (283, .fn), (284, .fn), (285, .fn), (286, .fn), (287, .fn), (288, .fn), (289, .fn), (291, .fn), (292, .fn), (293, .fn), (294, .fn), (295, .fn), (296, .fn), (297, .fn), (298, .fn), (299, .fn), (300, .fn), (301, .fn), (302, .fn), (304, .fn), (305, .fn), (306, .fn), (307, .fn), (308, .fn), (309, .fn), (311, .fn), (312, .fn), (313, .fn), (314, .fn), (315, .ptr), (316, .int .u64), (317, .struct [(0, 17), (1, 315), (2, 316)] 3), (318, .struct [(0, 17), (1, 315), (2, 316)] 3), (319, .fn), (320, .fn), (321, .fn), (322, .fn), (323, .struct [(0, 308), (1, 320)] 2), (324, .struct [(0, 308), (1, 320)] 2), (325, .fn), (326, .fn), (327, .fn), (328, .fn), (329, .fn), (330, .fn), (331, .fn), (332, .struct [(0, 17)] 1), (333, .struct [(0, 17)] 1), (334, .ptr), (335, .fn), (336, .fn), (337, .fn), (338, .struct [(0, 22)] 1), (339, .struct [(0, 22)] 1), (340, .fn), (341, .fn), (342, .fn), (343, .fn), (344, .fn), (345, .fn), (346, .fn), (347, .ptr), (351, .fn), (352, .iface), (353, .iface), (354, .fn), (355, .arr 256 5 1), (356, .struct [(0, 5), (1, 5)] 2), (357, .struct [(0, 5), (1, 5)] 2), (358, .arr 16 357 2), (359, .ptr), (360, .fn), (361, .fn), (362, .fn), (363, .fn), (364, .fn), (365, .fn), (366, .fn), (367, .fn), (368, .fn), (369, .fn), (370, .fn), (371, .fn), (372, .fn), (373, .fn), (375, .fn), (376, .fn), (377, .fn), (378, .fn), (379, .fn), (380, .fn), (382, .fn), (384, .fn), (385, .fn), (386, .other), (387, .fn), (388, .fn), (389, .fn), (390, .fn), (391, .fn), (392, .fn), (393, .fn), (395, .fn), (396, .fn), (397, .fn), (398, .fn), (399, .fn), (400, .struct [(0, 9), (1, 275)] 2), (401, .struct [(0, 9), (1, 275)] 2), (402, .struct [(0, 9)] 1), (403, .struct [(0, 9)] 1)]
def ents : List FuncId := [2, 3, 4, 5, 6, 7, 8, 9, 10, 11, 12, 13, 14, 15, 16, 17, 18, 19, 20, 21, 22, 23, 24, 25, 26, 27, 28, 29, 30, 31, 32, 33, 34, 35, 36, 37, 38, 39, 40, 41, 42, 43, 44, 45, 46, 47, 48, 49, 50, 51, 52, 53, 54, 55, 56, 57, 58, 59, 60, 61, 62, 63, 64, 65, 66, 67, 68, 69, 70, 71, 72, 73, 74, 75, 76, 77, 78, 79, 80, 81, 82, 83, 84, 85, 86, 87, 88, 89, 90, 91, 92, 93, 94, 95, 96, 97, 98, 99, 100, 101, 102, 103, 104, 105, 106, 107, 108, 109, 110, 111, 112, 113, 114, 115, 116, 117, 118, 119, 120, 121, 122, 123, 124, 125, 126, 127, 128, 129, 130, 131, 132, 133, 134, 135, 136, 137, 138, 140, 141, 142, 143, 144, 145, 146, 162, 163, 164, 165, 166, 167, 168, 169, 170, 171, 172, 173, 174, 175, 176, 177, 178, 179, 180, 181, 182, 183, 184, 185, 186, 187, 188, 189, 190, 191, 192, 193, 194, 195, 196, 197, 198, 199, 202, 204, 205, 206, 207, 208, 209, 210, 211, 212, 213, 214, 224, 225, 226, 227, 228, 229, 230, 231, 232, 233, 234, 236, 237, 238, 239, 240, 241, 242, 243, 244, 245, 246, 247, 248, 249, 250, 251, 252, 253, 254, 255, 256, 257, 258, 259, 260, 261, 262, 263, 264, 265, 266, 267, 268, 269, 270, 271, 272, 273, 274, 275, 276, 277, 278, 279, 280, 281, 282, 283, 284, 285, 286, 287, 288, 289, 290, 291, 292, 293, 294, 301]
def entB (P : Program) (f : FuncId) : Bool := match P.funcs[f]? with | some fn => fn.body.isSome && !(fn.name == "runtime.NumGoroutine") | none => false
theorem enters_of_entB {P : Program} {f : FuncId} (h : entB P f = true) (args : Array Value) (w : World) : (callFunc f args).run P w = .ok (.enter f args) w := by
  unfold entB at h
  split at h
  · rename_i fn hf
    simp only [Bool.and_eq_true, Bool.not_eq_true'] at h
    obtain ⟨h1, h2⟩ := h
    obtain ⟨c, hc⟩ := Option.isSome_iff_exists.1 h1
    exact enters_of hf h2 hc args w
  · cases h
theorem seat : Seat Tryz.prog tab ents := ⟨⟨by kernel_rfl⟩, fun f hf => enters_of_entB (List.all_eq_true.1 (show ents.all (entB Tryz.prog) = true by kernel_rfl) f hf), by kernel_rfl⟩
end Go.Proofs.YtmeeeigfjlbnkaaGreat
namespace Go.Proofs.YtmeeeigfjlbnkaaGreat
open Go.RowKit
theorem sv {α : Type} {a b : α} (h : a = b) : some a = some b := congrArg some h
theorem VMatch.of {n0 : Nat} {E' : VE} {M' : VM} {n' : Nat} {E : VE} {M : VM} (σ bs : List (Nat × Nat)) (h1 : mE (sigA n0 σ) (fzb M bs) E' E) (h2 : mM (sigA n0 σ) (fzb M bs) M' (VM.bump M bs)) (h3 : okSg n0 n' σ = true) (h4 : okB M bs) (h5 : M'.all (fun x => Nat.blt x.1 n') = true) : VMatch n0 E' M' n' E M := ⟨σ, bs, h3, h4, h5, h1, h2⟩
theorem emod_of (x n : Int) (hn : 0 < n) : (if x.tmod n < 0 then x.tmod n + n else x.tmod n) = x % n := by
  rw [Int.tmod_eq_emod]
  have h1 := Int.emod_nonneg x (show n ≠ 0 by omega)
  have h2 := Int.emod_lt_of_pos x hn
  have e : (n.natAbs : Int) = n := by omega
  split <;> split at * <;> omega
theorem index_at {l : List MV} {n k : Nat} {x : MV} (hk : k < n) (hx : l[k]? = some x) : idxL l n (k : Int) = some x := by
  unfold idxL
  rw [if_pos (by omega)]
  simpa using hx
theorem idx_at {n k : Nat} (hk : k < n) : idx n (k : Int) = some k := by
  unfold idx
  rw [if_pos (by omega)]
  simp
theorem cut_all {α : Type} (f : α → MV) (l : List α) : cutL (l.map f) 0 (0 + l.length) = l.map f := by simp [cutL, List.take_of_length_le]
theorem app_ok {n m k : Nat} (hb : Nat.ble k 4096 = true) (h : n + m ≤ 2000000000) : (n + m) * k ≤ 140737488355328 ∧ n + m ≤ maxLen := by
  have hb := Nat.le_of_ble_eq_true hb
  have := Nat.mul_le_mul h hb
  have e : maxLen = 9223372036854775807 := rfl
  omega
theorem app_ok1 {m k : Nat} (hb : Nat.ble k 4096 = true) (h : m ≤ 2000000000) : m * k ≤ 140737488355328 ∧ m ≤ maxLen := by
  have := app_ok (n := 0) (m := m) hb (by omega)
  rw [Nat.zero_add] at this
  exact this
def intsM (l : List Int) : MV := .sl l.length (l.map (.int .i64))
theorem intsM_at {l : List Int} {k : Nat} (hk : k < l.length) : idxL (l.map (MV.int .i64)) l.length (k : Int) = some (.int .i64 l[k]) := index_at hk (by simp [hk])
end Go.Proofs.YtmeeeigfjlbnkaaGreat
namespace Go.Proofs.YtmeeeigfjlbnkaaGreat
open Go.RowKit
variable {R : MV × Dl → Prop}
theorem eqs_i {x : Int} (h : R (.bool true, .none)) : R (.bool (x == x), .none) := by rw [beq_self_eq_true]; exact h
theorem nes_i {x : Int} (h : R (.bool false, .none)) : R (.bool (x != x), .none) := by rw [bne_self_eq_false]; exact h
theorem eqs_s {x : List UInt8} (h : R (.bool true, .none)) : R (.bool (x == x), .none) := by rw [beq_self_eq_true]; exact h
theorem nes_s {x : List UInt8} (h : R (.bool false, .none)) : R (.bool (!(x == x)), .none) := by rw [beq_self_eq_true]; exact h
theorem bytesM_u8 : ∀ l : List UInt8, bytesM (u8s l) = some l
  | [] => rfl
  | a :: l => by
    show (if 0 ≤ (a.toNat : Int) ∧ (a.toNat : Int) < 256 then (match bytesM (u8s l) with | some r => some (UInt8.ofNat (Int.toNat (a.toNat : Int)) :: r) | none => none) else none) = _
    have := a.toNat_lt
    rw [if_pos (by omega), bytesM_u8 l]
    simp
end Go.Proofs.YtmeeeigfjlbnkaaGreat
namespace Go.Proofs.YtmeeeigfjlbnkaaGreat
open Go.RowKit
theorem w32 (n : Int) : IntKind.u32.wrap n = n % 4294967296 := by
  simp only [IntKind.wrap, IntKind.bits, IntKind.signed]; simp
theorem w8 (n : Int) : IntKind.u8.wrap n = n % 256 := by
  simp only [IntKind.wrap, IntKind.bits, IntKind.signed]; simp
theorem wu64 (n : Int) : IntKind.u64.wrap n = n % 18446744073709551616 := by
  simp only [IntKind.wrap, IntKind.bits, IntKind.signed]; simp
abbrev u32M (x : UInt32) : MV := .int .u32 x.toNat
abbrev u8M (x : UInt8) : MV := .int .u8 x.toNat
abbrev u64M (x : UInt64) : MV := .int .u64 x.toNat
theorem bv_of (n m : Nat) (h : m < 2 ^ n) : (BitVec.ofInt n (m : Int)).toNat = m := by
  rw [BitVec.toNat_ofInt]
  have e : ((2 ^ n : Nat) : Int) = (2 : Int) ^ n := by simp
  have : ((m : Int) % ((2 ^ n : Nat) : Int)).toNat = m := by
    rw [← Int.natCast_emod, Int.toNat_natCast, Nat.mod_eq_of_lt h]
  exact this
theorem t32 (x : UInt32) : x.toNat < 4294967296 := x.toNat_lt
theorem t8 (x : UInt8) : x.toNat < 256 := x.toNat_lt
theorem t64 (x : UInt64) : x.toNat < 18446744073709551616 := x.toNat_lt
theorem add32 (x y : UInt32) : IntKind.u32.wrap ((x.toNat : Int) + (y.toNat : Int)) = ((x + y).toNat : Int) := by
  rw [w32, UInt32.toNat_add]; omega
theorem add64 (x y : UInt64) : IntKind.u64.wrap ((x.toNat : Int) + (y.toNat : Int)) = ((x + y).toNat : Int) := by
  rw [wu64, UInt64.toNat_add]; omega
theorem and32 (x y : UInt32) : IntKind.u32.wrap ((BitVec.ofInt IntKind.u32.bits (x.toNat : Int) &&& BitVec.ofInt IntKind.u32.bits (y.toNat : Int)).toNat : Int) = ((x &&& y).toNat : Int) := by
  have h := t32 (x &&& y)
  rw [BitVec.toNat_and, bv_of _ _ (t32 x), bv_of _ _ (t32 y), ← UInt32.toNat_and, w32]; omega
theorem or32 (x y : UInt32) : IntKind.u32.wrap ((BitVec.ofInt IntKind.u32.bits (x.toNat : Int) ||| BitVec.ofInt IntKind.u32.bits (y.toNat : Int)).toNat : Int) = ((x ||| y).toNat : Int) := by
  have h := t32 (x ||| y)
  rw [BitVec.toNat_or, bv_of _ _ (t32 x), bv_of _ _ (t32 y), ← UInt32.toNat_or, w32]; omega
theorem xor32 (x y : UInt32) : IntKind.u32.wrap ((BitVec.ofInt IntKind.u32.bits (x.toNat : Int) ^^^ BitVec.ofInt IntKind.u32.bits (y.toNat : Int)).toNat : Int) = ((x ^^^ y).toNat : Int) := by
  have h := t32 (x ^^^ y)
  rw [BitVec.toNat_xor, bv_of _ _ (t32 x), bv_of _ _ (t32 y), ← UInt32.toNat_xor, w32]; omega
theorem not32 (y : UInt32) : IntKind.u32.wrap ((BitVec.ofInt IntKind.u32.bits (if IntKind.u32.signed then -1 else IntKind.u32.max) ^^^ BitVec.ofInt IntKind.u32.bits (y.toNat : Int)).toNat : Int) = ((~~~y).toNat : Int) := by
  have e : (if IntKind.u32.signed then (-1 : Int) else IntKind.u32.max) = (((-1 : UInt32)).toNat : Int) := by rfl
  rw [e, xor32]
  have h : (-1 : UInt32) ^^^ y = ~~~y := by
    apply UInt32.toBitVec_inj.1
    rw [UInt32.toBitVec_xor, UInt32.toBitVec_not]
    exact BitVec.allOnes_xor
  rw [h]
theorem shl32 (x : UInt32) (k : Nat) (hk : k < 32) : IntKind.u32.wrap ((x.toNat : Int) * 2 ^ (min (k : Int).toNat IntKind.u32.bits)) = ((x <<< UInt32.ofNat k).toNat : Int) := by
  have e : min (k : Int).toNat IntKind.u32.bits = k := by simp [IntKind.bits]; omega
  rw [e, w32, UInt32.toNat_shiftLeft, UInt32.toNat_ofNat', Nat.mod_eq_of_lt (show k < 2 ^ 32 by omega), Nat.mod_eq_of_lt hk, Nat.shiftLeft_eq]
  rw [show (x.toNat : Int) * 2 ^ k = ((x.toNat * 2 ^ k : Nat) : Int) by rw [Int.natCast_mul, Int.natCast_pow]; rfl]
  exact (Int.natCast_emod (x.toNat * 2 ^ k) 4294967296).symm
theorem shr32 (x : UInt32) (k : Nat) (hk : k < 32) : ((x.toNat : Int).fdiv (2 ^ (min (k : Int).toNat IntKind.u32.bits))) = ((x >>> UInt32.ofNat k).toNat : Int) := by
  have e : min (k : Int).toNat IntKind.u32.bits = k := by simp [IntKind.bits]; omega
  rw [e, UInt32.toNat_shiftRight, UInt32.toNat_ofNat', Nat.mod_eq_of_lt (show k < 2 ^ 32 by omega), Nat.mod_eq_of_lt hk, Nat.shiftRight_eq_div_pow, Int.fdiv_eq_ediv_of_nonneg _ (Int.le_of_lt (Int.pow_pos (by omega)))]
  rw [Int.natCast_ediv, Int.natCast_pow]; rfl
theorem shlI (x : UInt32) (j : Int) (h0 : 0 ≤ j) (h1 : j < 32) : IntKind.u32.wrap ((x.toNat : Int) * 2 ^ (min j.toNat IntKind.u32.bits)) = ((x <<< UInt32.ofNat j.toNat).toNat : Int) := by
  have := shl32 x j.toNat (by omega)
  rwa [Int.toNat_of_nonneg h0] at this
theorem shrI (x : UInt32) (j : Int) (h0 : 0 ≤ j) (h1 : j < 32) : ((x.toNat : Int).fdiv (2 ^ (min j.toNat IntKind.u32.bits))) = ((x >>> UInt32.ofNat j.toNat).toNat : Int) := by
  have := shr32 x j.toNat (by omega)
  rwa [Int.toNat_of_nonneg h0] at this
theorem conv832 (x : UInt8) : IntKind.u32.wrap (x.toNat : Int) = ((x.toUInt32).toNat : Int) := by
  have := t8 x
  rw [w32, UInt8.toNat_toUInt32]; omega
theorem conv328 (x : UInt32) : IntKind.u8.wrap (x.toNat : Int) = ((x.toUInt8).toNat : Int) := by
  rw [w8, UInt32.toNat_toUInt8]; omega
end Go.Proofs.YtmeeeigfjlbnkaaGreat
namespace Go.Proofs.YtmeeeigfjlbnkaaGreat
open Go.RowKit
structure Box (q : Prop) : Prop where
  out : q
structure EqF {α : Type} (a b : α) : Prop where
  out : a = b
structure SomF {α : Type} (a : Option α) (b : α) : Prop where
  out' : a = some b
theorem SomF.out {α : Type} {a : Option α} {b : α} (h : SomF a b) : a = some b := h.out'
structure SideF (p : Prop) : Prop where
  out : p
theorem pf {p : Prop} (h : p := by first | rfl | omega | (simp [u8s, cutL, setL, repM, List.replicate_succ', List.range_succ]; done) | (simp [u8s, cutL, setL, repM]; omega)) : p := h
theorem rv0 {p : Prop} (h : p := by (first | exact ⟨rfl, rfl⟩ | exact .inr ⟨rfl, rfl⟩ | exact .inr ⟨rfl, rfl, rfl, Nat.le_refl _, rfl⟩ | exact .inl rfl | exact .inl ⟨rfl, rfl⟩ | exact ⟨_, rfl, rfl⟩ | exact .inr ⟨_, rfl, rfl⟩ | exact .inl ⟨rfl, rfl, rfl⟩ | exact ⟨congrArg (MV.int _) (by omega), rfl⟩ | exact .inr ⟨rfl, rfl, rfl, Nat.le_of_eq (Nat.zero_add _), cut_all _ _⟩ | fail)) : p := h
theorem lm0 {p : Prop} (h : p := by (repeat (first | exact trivial | refine And.intro rv0 ?_)); first | done | fail) : p := h
theorem rv1 {p : Prop} (h : p := by (first | exact rv0 | (refine .inr ⟨_, rfl, ?_⟩; exact rv0) | (refine .inr ⟨_, rfl, ?_⟩; exact lm0) | fail)) : p := h
theorem lm1 {p : Prop} (h : p := by (repeat (first | exact trivial | refine And.intro rv1 ?_)); first | done | fail) : p := h
theorem rv2 {p : Prop} (h : p := by (first | exact rv1 | (refine .inr ⟨_, rfl, ?_⟩; exact rv1) | (refine .inr ⟨_, rfl, ?_⟩; exact lm1) | fail)) : p := h
theorem lm2 {p : Prop} (h : p := by (repeat (first | exact trivial | refine And.intro rv2 ?_)); first | done | fail) : p := h
theorem rv {p : Prop} (h : p := by (first | exact rv2 | (refine .inr ⟨_, rfl, ?_⟩; exact rv2) | (refine .inr ⟨_, rfl, ?_⟩; exact lm2) | fail)) : p := h
theorem lm {p : Prop} (h : p := by (repeat (first | exact trivial | refine And.intro rv ?_))) : p := h
theorem mm {p : Prop} (h : p := by (repeat (first | exact trivial | refine ⟨Nat.le_refl _, ?_⟩ | refine ⟨⟨_, rfl, rv⟩, ?_⟩ | refine ⟨.inl ⟨rfl, rfl, rfl, rfl⟩, ?_⟩ | refine ⟨.inr ⟨_, _, rfl, rfl, rfl, rfl, .inl rfl, .inl rfl, .inl ⟨rfl, rfl⟩⟩, ?_⟩ | refine ⟨.inr ⟨_, _, rfl, rfl, rfl, rfl, .inl rfl, .inl rfl, .inl ⟨(by simp [u8s]), rfl⟩⟩, ?_⟩ | refine ⟨.inr ⟨_, _, rfl, rfl, rfl, rfl, .inl rfl, .inr ⟨(by first | exact Nat.max_le.2 ⟨Nat.zero_le _, Nat.le_refl _⟩ | exact Nat.max_le.2 ⟨Nat.le_refl _, Nat.le_refl _⟩), (by simp [u8s])⟩, .inl ⟨rfl, rfl⟩⟩, ?_⟩ | refine ⟨.inr ⟨_, _, rfl, rfl, rfl, rfl, .inl rfl, .inl rfl, .inr ⟨rv, trivial⟩⟩, ?_⟩ | refine ⟨(show _ ≤ _ by simp [u8s]), ?_⟩ | refine ⟨.inr ⟨_, _, rfl, rfl, rfl, rfl, .inr (.inl ⟨rfl, rfl, rfl, SideF.out (by assumption)⟩), .inl rfl, .inl ⟨rfl, rfl⟩⟩, ?_⟩))) : p := h
theorem xhv {p : Prop} (h : p := by intro R hR; first | ((with_reducible apply he_loadP); exact rfl; exact rfl; exact rfl; exact rfl; kernel_rfl; exact hR) | ((with_reducible apply he_storeP); exact rfl; exact rfl; exact rfl; exact Nat.zero_le _; exact rfl; exact rfl; kernel_rfl; exact hR) | ((with_reducible apply he_box); exact rfl; exact rfl; kernel_rfl; exact hR) | ((with_reducible apply he_alloc); exact rfl; exact rfl; kernel_rfl; exact hR) | (repeat (first | exact hR | ((try conv => whnf); first | exact hR | (with_reducible refine ⟨_, sv (EqF.out (by assumption)), ?_⟩) | (with_reducible refine And.intro (SideF.out (by assumption)) ?_) | (with_reducible refine And.intro (Nat.zero_le _) ?_) | (with_reducible refine And.intro rfl ?_) | (with_reducible refine ⟨_, idx_at (by omega), ?_⟩) | (with_reducible refine ⟨fun _ => ?_, fun h => Bool.noConfusion h⟩) | (with_reducible refine ⟨fun h => Bool.noConfusion h, fun _ => ?_⟩) | (with_reducible refine ⟨_, sv (wrap_in _ (by omega) (by omega)), ?_⟩) | (with_reducible refine ⟨_, sv (wrapu_in _ (by omega) (by omega)), ?_⟩) | (with_reducible refine ⟨_, sv (wrap8_in _ (by omega) (by omega)), ?_⟩) | (refine ⟨_, rfl, ?_⟩) | (refine ⟨_, SomF.out (by assumption), ?_⟩) | (refine And.intro (by omega) ?_)))); first | done | fail) : p := h
theorem xhw {p : Prop} (h : p := by intro R hR; first | ((with_reducible apply he_loadP); exact rfl; exact rfl; exact rfl; exact rfl; kernel_rfl; exact hR) | ((with_reducible apply he_storeP); exact rfl; exact rfl; exact rfl; exact Nat.zero_le _; exact rfl; exact rfl; kernel_rfl; exact hR) | ((with_reducible apply he_box); exact rfl; exact rfl; kernel_rfl; exact hR) | ((with_reducible apply he_alloc); exact rfl; exact rfl; kernel_rfl; exact hR) | (repeat (first | exact hR | ((try conv => whnf); first | exact hR | (with_reducible refine ⟨_, sv (EqF.out (by assumption)), ?_⟩) | (with_reducible refine And.intro (SideF.out (by assumption)) ?_) | (with_reducible refine And.intro (Nat.zero_le _) ?_) | (with_reducible refine And.intro rfl ?_) | (with_reducible refine ⟨_, sv (add32 _ _), ?_⟩) | (with_reducible refine ⟨_, sv (xor32 _ _), ?_⟩) | (with_reducible refine ⟨_, sv (and32 _ _), ?_⟩) | (with_reducible refine ⟨_, sv (or32 _ _), ?_⟩) | (with_reducible refine ⟨_, sv (not32 _), ?_⟩) | (with_reducible refine ⟨_, sv (shlI _ _ (by omega) (by omega)), ?_⟩) | (with_reducible refine ⟨_, sv (shrI _ _ (by omega) (by omega)), ?_⟩) | (with_reducible refine ⟨_, sv (conv832 _), ?_⟩) | (with_reducible refine ⟨_, sv (conv328 _), ?_⟩) | (with_reducible refine ⟨fun _ => ?_, fun h => Bool.noConfusion h⟩) | (with_reducible refine ⟨fun h => Bool.noConfusion h, fun _ => ?_⟩) | (with_reducible refine ⟨_, sv (wrap_in _ (by omega) (by omega)), ?_⟩) | (with_reducible refine ⟨_, sv (wrapu_in _ (by omega) (by omega)), ?_⟩) | (with_reducible refine ⟨_, sv (wrap8_in _ (by omega) (by omega)), ?_⟩) | (refine ⟨_, rfl, ?_⟩) | (refine ⟨_, SomF.out (by assumption), ?_⟩) | (refine And.intro (by omega) ?_)))); first | done | fail) : p := h
theorem xhq {p : Prop} (h : p := by intro R hR; first | ((with_reducible apply he_loadP); exact rfl; exact rfl; exact rfl; exact rfl; kernel_rfl; exact hR) | ((with_reducible apply he_storeP); exact rfl; exact rfl; exact rfl; exact Nat.zero_le _; exact rfl; exact rfl; kernel_rfl; exact hR) | ((with_reducible apply he_box); exact rfl; exact rfl; kernel_rfl; exact hR) | ((with_reducible apply he_alloc); exact rfl; exact rfl; kernel_rfl; exact hR) | (repeat ((try conv => whnf); first | (with_reducible exact eqs_i hR) | (with_reducible exact nes_i hR) | (with_reducible exact eqs_s hR) | (with_reducible exact nes_s hR) | exact hR | (with_reducible refine ⟨_, sv (EqF.out (by assumption)), ?_⟩) | (with_reducible refine And.intro (SideF.out (by assumption)) ?_) | (with_reducible refine And.intro (Nat.zero_le _) ?_) | (with_reducible refine And.intro rfl ?_) | (with_reducible refine ⟨_, idx_at (by omega), ?_⟩) | (with_reducible refine ⟨fun _ => ?_, fun h => Bool.noConfusion h⟩) | (with_reducible refine ⟨fun h => Bool.noConfusion h, fun _ => ?_⟩) | (with_reducible refine ⟨_, sv (wrap_in _ (by omega) (by omega)), ?_⟩) | (with_reducible refine ⟨_, sv (wrapu_in _ (by omega) (by omega)), ?_⟩) | (with_reducible refine ⟨_, sv (wrap8_in _ (by omega) (by omega)), ?_⟩) | (refine ⟨_, rfl, ?_⟩) | (refine ⟨_, SomF.out (by assumption), ?_⟩) | (refine And.intro (by omega) ?_))); first | done | fail) : p := h
theorem go0 {p q : Prop} (h : q) (s : Box q → p := by intro hq; (repeat ((try conv => whnf); first | (with_reducible refine Rt.go ?_) | (with_reducible refine Rs.go ?_) | (with_reducible refine or_len ?_) | (with_reducible refine And.intro (Nat.zero_le _) ?_) | (with_reducible refine And.intro rfl ?_) | (with_reducible refine ⟨_, idx_at (by omega), ?_⟩) | (with_reducible refine ⟨fun _ => ?_, fun h => Bool.noConfusion h⟩) | (with_reducible refine ⟨fun h => Bool.noConfusion h, fun _ => ?_⟩) | (with_reducible refine ⟨_, sv (wrap_in _ (by omega) (by omega)), ?_⟩) | (with_reducible refine ⟨_, sv (wrapu_in _ (by omega) (by omega)), ?_⟩) | (with_reducible refine ⟨_, sv (wrap8_in _ (by omega) (by omega)), ?_⟩) | refine ⟨_, rfl, ?_⟩ | refine And.intro (show okDraw _ _ _ = true by kernel_rfl) ?_ | refine And.intro (by omega) ?_)); exact hq.out) : p := s ⟨h⟩
theorem gow0 {p q : Prop} (h : q) (s : Box q → p := by intro hq; (repeat ((try conv => whnf); first | (with_reducible refine Rt.go ?_) | (with_reducible refine Rs.go ?_) | (with_reducible refine or_len ?_) | (with_reducible refine And.intro (Nat.zero_le _) ?_) | (with_reducible refine And.intro rfl ?_) | (with_reducible refine ⟨fun _ => ?_, fun h => Bool.noConfusion h⟩) | (with_reducible refine ⟨fun h => Bool.noConfusion h, fun _ => ?_⟩) | (with_reducible refine ⟨_, sv (add32 _ _), ?_⟩) | (with_reducible refine ⟨_, sv (xor32 _ _), ?_⟩) | (with_reducible refine ⟨_, sv (and32 _ _), ?_⟩) | (with_reducible refine ⟨_, sv (or32 _ _), ?_⟩) | (with_reducible refine ⟨_, sv (not32 _), ?_⟩) | (with_reducible refine ⟨_, sv (shlI _ _ (by omega) (by omega)), ?_⟩) | (with_reducible refine ⟨_, sv (shrI _ _ (by omega) (by omega)), ?_⟩) | (with_reducible refine ⟨_, sv (conv832 _), ?_⟩) | (with_reducible refine ⟨_, sv (conv328 _), ?_⟩) | (with_reducible refine ⟨_, sv (wrap_in _ (by omega) (by omega)), ?_⟩) | (with_reducible refine ⟨_, sv (wrapu_in _ (by omega) (by omega)), ?_⟩) | (with_reducible refine ⟨_, sv (wrap8_in _ (by omega) (by omega)), ?_⟩) | refine ⟨_, rfl, ?_⟩ | refine And.intro (show okDraw _ _ _ = true by kernel_rfl) ?_ | refine And.intro (by omega) ?_)); exact hq.out) : p := s ⟨h⟩
theorem go1 {p q : Prop} (h : q) (s : Box q → p := by intro hq; (repeat (first | ((with_reducible apply n_load); exact rfl; exact rfl; exact rfl; exact rfl; kernel_rfl) | ((with_reducible apply n_store); exact rfl; exact rfl; exact rfl; exact Nat.zero_le _; exact rfl; exact rfl; kernel_rfl) | ((with_reducible apply n_box); exact rfl; exact rfl; kernel_rfl) | ((with_reducible apply n_alloc); exact rfl; exact rfl; kernel_rfl) | ((with_reducible apply n_val); exact rfl; exact xhv) | ((with_reducible apply n_nilS)) | ((with_reducible apply c_seqR)) | ((with_reducible apply n_app)) | ((with_reducible apply n_app0)) | ((with_reducible apply e_load); exact rfl; exact rfl; exact rfl; exact rfl; exact rfl; kernel_rfl) | ((with_reducible apply e_store); exact rfl; exact rfl; exact rfl; exact rfl; exact Nat.zero_le _; exact rfl; exact rfl; kernel_rfl) | ((with_reducible apply e_val); exact rfl; exact rfl; exact xhv) | ((with_reducible apply d_end); (exact (show okDraw _ _ _ = true by kernel_rfl))) | ((with_reducible apply n_none); exact rfl; exact xhv) | ((with_reducible apply n_mem); exact rfl; exact xhv) | ((with_reducible apply n_valY); exact rfl; exact rfl; exact rfl; exact xhv) | ((with_reducible apply n_guardN); exact rfl; exact rfl; exact rfl) | ((with_reducible apply n_guardU); exact rfl; exact rfl; exact rfl) | ((with_reducible apply g_val); exact rfl; exact rfl; exact xhv; exact rfl) | ((with_reducible apply g_none); exact rfl; exact rfl; exact xhv) | ((with_reducible apply g_mem); exact rfl; exact rfl; exact xhv; exact rfl) | ((with_reducible apply n_nil)) | ((with_reducible apply c_seq)) | ((with_reducible apply seqQ_n)) | ((with_reducible apply c_region)) | ((with_reducible apply c_condT); exact rfl) | ((with_reducible apply c_condF); exact rfl) | ((with_reducible apply c_block)) | ((with_reducible apply c_skip)) | ((with_reducible apply c_exit)) | ((with_reducible apply c_ret)) | ((with_reducible apply seqQ_x)) | ((with_reducible apply seqQ_r)) | ((with_reducible apply blockQ_n)) | ((with_reducible apply blockQ_r)) | ((with_reducible apply blockQ_x); exact rfl) | ((with_reducible apply blockQ_y); exact rfl) | ((with_reducible apply loopQ_x)) | ((with_reducible apply loopQ_r)) | ((with_reducible apply c_label)) | (with_reducible refine joinF_r (by assumption) ?_) | (with_reducible refine joinF_x (by assumption) ?_) | ((with_reducible apply e_none); exact rfl; exact rfl; exact xhv) | ((with_reducible apply e_valY); exact rfl; exact rfl; exact rfl; exact rfl; exact xhv) | ((with_reducible apply e_mem); exact rfl; exact rfl; exact xhv) | ((with_reducible apply d_next)) | ((with_reducible apply d_step); exact rfl) | ((with_reducible apply d_skip); exact rfl) | ((with_reducible apply d_guardN); exact rfl; exact rfl; exact rfl) | ((with_reducible apply d_guardU); exact rfl; exact rfl; exact rfl) | ((with_reducible apply d_guardY); exact rfl; exact rfl) | ((with_reducible apply d_go)) | ((with_reducible apply gd_val); exact rfl; exact xhv; exact rfl) | ((with_reducible apply gd_none); exact rfl; exact xhv) | ((with_reducible apply gd_mem); exact rfl; exact xhv; exact rfl) | ((with_reducible apply n_guardY); exact rfl; exact rfl) | ((with_reducible apply n_go)))); exact hq.out) : p := s ⟨h⟩
theorem gos {p q : Prop} (h : q) (s : Box q → p := by intro hq; ((first | ((with_reducible apply n_load); exact rfl; exact rfl; exact rfl; exact rfl; kernel_rfl) | ((with_reducible apply n_store); exact rfl; exact rfl; exact rfl; exact Nat.zero_le _; exact rfl; exact rfl; kernel_rfl) | ((with_reducible apply n_box); exact rfl; exact rfl; kernel_rfl) | ((with_reducible apply n_alloc); exact rfl; exact rfl; kernel_rfl) | ((with_reducible apply n_val); exact rfl; exact xhv) | ((with_reducible apply n_nilS)) | ((with_reducible apply c_seqR)) | ((with_reducible apply n_app)) | ((with_reducible apply n_app0)) | ((with_reducible apply e_load); exact rfl; exact rfl; exact rfl; exact rfl; exact rfl; kernel_rfl) | ((with_reducible apply e_store); exact rfl; exact rfl; exact rfl; exact rfl; exact Nat.zero_le _; exact rfl; exact rfl; kernel_rfl) | ((with_reducible apply e_val); exact rfl; exact rfl; exact xhv) | ((with_reducible apply d_end); (exact (show okDraw _ _ _ = true by kernel_rfl))) | ((with_reducible apply n_none); exact rfl; exact xhv) | ((with_reducible apply n_mem); exact rfl; exact xhv) | ((with_reducible apply n_valY); exact rfl; exact rfl; exact rfl; exact xhv) | ((with_reducible apply n_guardN); exact rfl; exact rfl; exact rfl) | ((with_reducible apply n_guardU); exact rfl; exact rfl; exact rfl) | ((with_reducible apply g_val); exact rfl; exact rfl; exact xhv; exact rfl) | ((with_reducible apply g_none); exact rfl; exact rfl; exact xhv) | ((with_reducible apply g_mem); exact rfl; exact rfl; exact xhv; exact rfl) | ((with_reducible apply n_nil)) | ((with_reducible apply c_seq)) | ((with_reducible apply seqQ_n)) | ((with_reducible apply c_region)) | ((with_reducible apply c_condT); exact rfl) | ((with_reducible apply c_condF); exact rfl) | ((with_reducible apply c_block)) | ((with_reducible apply c_skip)) | ((with_reducible apply c_exit)) | ((with_reducible apply c_ret)) | ((with_reducible apply seqQ_x)) | ((with_reducible apply seqQ_r)) | ((with_reducible apply blockQ_n)) | ((with_reducible apply blockQ_r)) | ((with_reducible apply blockQ_x); exact rfl) | ((with_reducible apply blockQ_y); exact rfl) | ((with_reducible apply loopQ_x)) | ((with_reducible apply loopQ_r)) | ((with_reducible apply c_label)) | (with_reducible refine joinF_r (by assumption) ?_) | (with_reducible refine joinF_x (by assumption) ?_) | ((with_reducible apply e_none); exact rfl; exact rfl; exact xhv) | ((with_reducible apply e_valY); exact rfl; exact rfl; exact rfl; exact rfl; exact xhv) | ((with_reducible apply e_mem); exact rfl; exact rfl; exact xhv) | ((with_reducible apply d_next)) | ((with_reducible apply d_step); exact rfl) | ((with_reducible apply d_skip); exact rfl) | ((with_reducible apply d_guardN); exact rfl; exact rfl; exact rfl) | ((with_reducible apply d_guardU); exact rfl; exact rfl; exact rfl) | ((with_reducible apply d_guardY); exact rfl; exact rfl) | ((with_reducible apply d_go)) | ((with_reducible apply gd_val); exact rfl; exact xhv; exact rfl) | ((with_reducible apply gd_none); exact rfl; exact xhv) | ((with_reducible apply gd_mem); exact rfl; exact xhv; exact rfl) | ((with_reducible apply n_guardY); exact rfl; exact rfl) | ((with_reducible apply n_go)))); exact hq.out) : p := s ⟨h⟩
theorem gow1 {p q : Prop} (h : q) (s : Box q → p := by intro hq; (repeat (first | ((with_reducible apply n_load); exact rfl; exact rfl; exact rfl; exact rfl; kernel_rfl) | ((with_reducible apply n_store); exact rfl; exact rfl; exact rfl; exact Nat.zero_le _; exact rfl; exact rfl; kernel_rfl) | ((with_reducible apply n_box); exact rfl; exact rfl; kernel_rfl) | ((with_reducible apply n_alloc); exact rfl; exact rfl; kernel_rfl) | ((with_reducible apply n_val); exact rfl; exact xhw) | ((with_reducible apply n_nilS)) | ((with_reducible apply c_seqR)) | ((with_reducible apply n_app)) | ((with_reducible apply n_app0)) | ((with_reducible apply e_load); exact rfl; exact rfl; exact rfl; exact rfl; exact rfl; kernel_rfl) | ((with_reducible apply e_store); exact rfl; exact rfl; exact rfl; exact rfl; exact Nat.zero_le _; exact rfl; exact rfl; kernel_rfl) | ((with_reducible apply e_val); exact rfl; exact rfl; exact xhw) | ((with_reducible apply d_end); (exact (show okDraw _ _ _ = true by kernel_rfl))) | ((with_reducible apply n_none); exact rfl; exact xhw) | ((with_reducible apply n_mem); exact rfl; exact xhw) | ((with_reducible apply n_valY); exact rfl; exact rfl; exact rfl; exact xhw) | ((with_reducible apply n_guardN); exact rfl; exact rfl; exact rfl) | ((with_reducible apply n_guardU); exact rfl; exact rfl; exact rfl) | ((with_reducible apply g_val); exact rfl; exact rfl; exact xhw; exact rfl) | ((with_reducible apply g_none); exact rfl; exact rfl; exact xhw) | ((with_reducible apply g_mem); exact rfl; exact rfl; exact xhw; exact rfl) | ((with_reducible apply n_nil)) | ((with_reducible apply c_seq)) | ((with_reducible apply seqQ_n)) | ((with_reducible apply c_region)) | ((with_reducible apply c_condT); exact rfl) | ((with_reducible apply c_condF); exact rfl) | ((with_reducible apply c_block)) | ((with_reducible apply c_skip)) | ((with_reducible apply c_exit)) | ((with_reducible apply c_ret)) | ((with_reducible apply seqQ_x)) | ((with_reducible apply seqQ_r)) | ((with_reducible apply blockQ_n)) | ((with_reducible apply blockQ_r)) | ((with_reducible apply blockQ_x); exact rfl) | ((with_reducible apply blockQ_y); exact rfl) | ((with_reducible apply loopQ_x)) | ((with_reducible apply loopQ_r)) | ((with_reducible apply c_label)) | (with_reducible refine joinF_r (by assumption) ?_) | (with_reducible refine joinF_x (by assumption) ?_) | ((with_reducible apply e_none); exact rfl; exact rfl; exact xhw) | ((with_reducible apply e_valY); exact rfl; exact rfl; exact rfl; exact rfl; exact xhw) | ((with_reducible apply e_mem); exact rfl; exact rfl; exact xhw) | ((with_reducible apply d_next)) | ((with_reducible apply d_step); exact rfl) | ((with_reducible apply d_skip); exact rfl) | ((with_reducible apply d_guardN); exact rfl; exact rfl; exact rfl) | ((with_reducible apply d_guardU); exact rfl; exact rfl; exact rfl) | ((with_reducible apply d_guardY); exact rfl; exact rfl) | ((with_reducible apply d_go)) | ((with_reducible apply gd_val); exact rfl; exact xhw; exact rfl) | ((with_reducible apply gd_none); exact rfl; exact xhw) | ((with_reducible apply gd_mem); exact rfl; exact xhw; exact rfl) | ((with_reducible apply n_guardY); exact rfl; exact rfl) | ((with_reducible apply n_go)))); exact hq.out) : p := s ⟨h⟩
theorem goe1 {p q : Prop} (h : q) (s : Box q → p := by intro hq; (repeat (first | ((with_reducible apply n_load); exact rfl; exact rfl; exact rfl; exact rfl; kernel_rfl) | ((with_reducible apply n_store); exact rfl; exact rfl; exact rfl; exact Nat.zero_le _; exact rfl; exact rfl; kernel_rfl) | ((with_reducible apply n_box); exact rfl; exact rfl; kernel_rfl) | ((with_reducible apply n_alloc); exact rfl; exact rfl; kernel_rfl) | ((with_reducible apply n_val); exact rfl; exact xhq) | ((with_reducible apply n_nilS)) | ((with_reducible apply c_seqR)) | ((with_reducible apply n_app)) | ((with_reducible apply n_app0)) | ((with_reducible apply e_load); exact rfl; exact rfl; exact rfl; exact rfl; exact rfl; kernel_rfl) | ((with_reducible apply e_store); exact rfl; exact rfl; exact rfl; exact rfl; exact Nat.zero_le _; exact rfl; exact rfl; kernel_rfl) | ((with_reducible apply e_val); exact rfl; exact rfl; exact xhq) | ((with_reducible apply d_end); (exact (show okDraw _ _ _ = true by kernel_rfl))) | ((with_reducible apply n_none); exact rfl; exact xhq) | ((with_reducible apply n_mem); exact rfl; exact xhq) | ((with_reducible apply n_valY); exact rfl; exact rfl; exact rfl; exact xhq) | ((with_reducible apply n_guardN); exact rfl; exact rfl; exact rfl) | ((with_reducible apply n_guardU); exact rfl; exact rfl; exact rfl) | ((with_reducible apply g_val); exact rfl; exact rfl; exact xhq; exact rfl) | ((with_reducible apply g_none); exact rfl; exact rfl; exact xhq) | ((with_reducible apply g_mem); exact rfl; exact rfl; exact xhq; exact rfl) | ((with_reducible apply n_nil)) | ((with_reducible apply c_seq)) | ((with_reducible apply seqQ_n)) | ((with_reducible apply c_region)) | ((with_reducible apply c_condT); exact rfl) | ((with_reducible apply c_condF); exact rfl) | ((with_reducible apply c_block)) | ((with_reducible apply c_skip)) | ((with_reducible apply c_exit)) | ((with_reducible apply c_ret)) | ((with_reducible apply seqQ_x)) | ((with_reducible apply seqQ_r)) | ((with_reducible apply blockQ_n)) | ((with_reducible apply blockQ_r)) | ((with_reducible apply blockQ_x); exact rfl) | ((with_reducible apply blockQ_y); exact rfl) | ((with_reducible apply loopQ_x)) | ((with_reducible apply loopQ_r)) | ((with_reducible apply c_label)) | (with_reducible refine joinF_r (by assumption) ?_) | (with_reducible refine joinF_x (by assumption) ?_) | ((with_reducible apply e_none); exact rfl; exact rfl; exact xhq) | ((with_reducible apply e_valY); exact rfl; exact rfl; exact rfl; exact rfl; exact xhq) | ((with_reducible apply e_mem); exact rfl; exact rfl; exact xhq) | ((with_reducible apply d_next)) | ((with_reducible apply d_step); exact rfl) | ((with_reducible apply d_skip); exact rfl) | ((with_reducible apply d_guardN); exact rfl; exact rfl; exact rfl) | ((with_reducible apply d_guardU); exact rfl; exact rfl; exact rfl) | ((with_reducible apply d_guardY); exact rfl; exact rfl) | ((with_reducible apply d_go)) | ((with_reducible apply gd_val); exact rfl; exact xhq; exact rfl) | ((with_reducible apply gd_none); exact rfl; exact xhq) | ((with_reducible apply gd_mem); exact rfl; exact xhq; exact rfl) | ((with_reducible apply n_guardY); exact rfl; exact rfl) | ((with_reducible apply n_go)))); exact hq.out) : p := s ⟨h⟩
theorem vm {n0 : Nat} {E' : VE} {M' : VM} {n' : Nat} {E : VE} {M : VM} (σ bs : List (Nat × Nat)) (h1 : mE (sigA n0 σ) (fzb M bs) E' E := by exact mm) (h2 : mM (sigA n0 σ) (fzb M bs) M' (VM.bump M bs) := by exact mm) (h3 : okSg n0 n' σ = true := by exact rfl) (h4 : okB M bs := by exact mm) (h5 : M'.all (fun x => Nat.blt x.1 n') = true := by exact rfl) : VMatch n0 E' M' n' E M := VMatch.of σ bs h1 h2 h3 h4 h5
theorem sms {R : MV × Dl → Prop} {p q : Prop} {x : MV × Dl} (_hR : R x) (h : q) (s : Box q → p := by intro hq; first | ((with_reducible apply he_loadP); exact rfl; exact rfl; exact rfl; exact rfl; kernel_rfl; exact hR) | ((with_reducible apply he_storeP); exact rfl; exact rfl; exact rfl; exact Nat.zero_le _; exact rfl; exact rfl; kernel_rfl; exact hR) | ((with_reducible apply he_box); exact rfl; exact rfl; kernel_rfl; exact hR) | ((with_reducible apply he_alloc); exact rfl; exact rfl; kernel_rfl; exact hR) | (repeat (first | exact hR | ((try conv => whnf); first | exact hR | (with_reducible refine And.intro (Nat.zero_le _) ?_) | (with_reducible refine And.intro rfl ?_) | (with_reducible refine ⟨_, idx_at (by omega), ?_⟩) | (with_reducible refine ⟨fun _ => ?_, fun h => Bool.noConfusion h⟩) | (with_reducible refine ⟨fun h => Bool.noConfusion h, fun _ => ?_⟩) | (with_reducible refine ⟨_, sv (wrap_in _ (by omega) (by omega)), ?_⟩) | (with_reducible refine ⟨_, sv (wrapu_in _ (by omega) (by omega)), ?_⟩) | (with_reducible refine ⟨_, sv (wrap8_in _ (by omega) (by omega)), ?_⟩) | (refine ⟨_, rfl, ?_⟩) | (refine And.intro (by omega) ?_)))); exact hq.out) : p := s ⟨h⟩
theorem pl : (∀ (p : Prop) [Decidable p], (decide p = true) = p) ∧ (∀ (p : Prop) [Decidable p], (decide p = false) = ¬p) ∧ (∀ {α : Type} [BEq α] [LawfulBEq α] {a b : α}, ((a == b) = true) = (a = b)) ∧ (∀ {α : Type} [BEq α] [LawfulBEq α] {a b : α}, ((a != b) = true) = (a ≠ b)) ∧ (∀ {α : Type} (a b : α), (a ≠ b) = ¬(a = b)) ∧ (!true) = false ∧ (!false) = true ∧
    (∀ {α : Type} [BEq α] [LawfulBEq α] {a b : α}, ((a == b) = false) = (a ≠ b)) ∧ (∀ {α : Type} [BEq α] [LawfulBEq α] {a b : α}, ((a != b) = false) = (a = b)) ∧ (∀ b : Bool, (¬b = true) = (b = false)) ∧ (∀ b : Bool, (¬b = false) = (b = true)) ∧ (∀ {a b : Bool}, ((!a) = b) = (a = !b)) :=
  ⟨fun p _ => decide_eq_true_eq, fun _ _ => propext decide_eq_false_iff_not, propext beq_iff_eq, propext bne_iff_ne, ne_eq, rfl, rfl, propext beq_eq_false_iff_ne, propext bne_eq_false_iff_eq, Bool.not_eq_true, Bool.not_eq_false, propext Bool.not_eq_eq_eq_not⟩
theorem en {n0 n1 : Nat} {res : MV} {M1 M : VM} {vs : List MV} (rv : List MV) (h1 : tupM rv = res := by exact rfl) (h2 : relV.relVs (sigA n0 []) (fzb M []) rv vs := by exact lm) (h3 : mM (sigA n0 []) (fzb M []) M1 (VM.bump M []) := by exact mm) (h4 : okSg n0 n1 [] = true := by exact rfl) (h5 : M1.all (fun x => Nat.blt x.1 n1) = true := by exact rfl) : ∃ (rv : List MV) (σ bs : List (Nat × Nat)), tupM rv = res ∧ LMatch n0 rv M1 n1 vs M σ bs := ⟨rv, [], [], h1, h4, trivial, h5, h2, h3⟩
theorem eb {n0 n1 : Nat} {res : MV} {M1 M : VM} {vs : List MV} (rv : List MV) (σ bs : List (Nat × Nat)) (h1 : tupM rv = res := by exact rfl) (h2 : relV.relVs (sigA n0 σ) (fzb M bs) rv vs := by exact lm) (h3 : mM (sigA n0 σ) (fzb M bs) M1 (VM.bump M bs) := by exact mm) (h4 : okSg n0 n1 σ = true := by exact rfl) (h5 : M1.all (fun x => Nat.blt x.1 n1) = true := by exact rfl) (h6 : okB M bs := by exact mm) : ∃ (rv : List MV) (σ bs : List (Nat × Nat)), tupM rv = res ∧ LMatch n0 rv M1 n1 vs M σ bs := ⟨rv, σ, bs, h1, h4, h6, h5, h2, h3⟩
section
variable {Pg : Program} {T : Tab} {N : Nat} {ents : List FuncId} {G : GS} {n0 : Nat} {ops : Array Oper} {d : Tmp} {ty : TypeId} {pos : String} {after : Array Edge} {g : Option (Nat × Bool)} {rest : List Oper} {K : VK} {J : List Nat → VE → VM → Prop} {E : VE} {M : VM} {n : Nat} {f : Operand} {args : Array Operand} {ats : Array TypeId} {f0 : FuncId} {vs args' : List MV} {res : MV}
theorem yr (hc : SemR Pg G f0 args' [] 0 res [] 0) (h : vOpsN Pg T N ents G ops rest K ((d, res) :: E) M n) (h1 : ∀ R : FuncId × List MV → Prop, R (f0, vs) → (vArgs E f args.toList).runP R := by exact fun _ h => h) (hd : Nat.blt d N = true := by exact rfl) (h2 : ents.contains f0 = true := by exact rfl) (hf : nfree res = true := by exact rfl) (hm : relV.relVs (sigA 0 []) (fzb M []) args' vs := by exact lm) : vOpsG Pg T N ents G ops ⟨some d, .call ⟨.value f, args, ats⟩, ty, pos, after, g⟩ rest K E M n := g_call2 hd h1 h2 hc hf hm h
theorem yv (hc : SemC Pg G f0 args' res) (h : vOpsN Pg T N ents G ops rest K ((d, res) :: E) M n) (h1 : ∀ R : FuncId × List MV → Prop, R (f0, vs) → (vArgs E f args.toList).runP R := by exact fun _ h => h) (hd : Nat.blt d N = true := by exact rfl) (h2 : ents.contains f0 = true := by exact rfl) (hf : nfree res = true := by exact rfl) (hm : relV.relVs (sigA 0 []) (fzb M []) args' vs := by exact lm) : vOpsG Pg T N ents G ops ⟨some d, .call ⟨.value f, args, ats⟩, ty, pos, after, g⟩ rest K E M n := g_call2 hd h1 h2 (semR_of_semC hc) hf hm h
theorem ydr (hc : SemR Pg G f0 args' [] 0 res [] 0) (h : J [] ((d, res) :: E) M) (h1 : ∀ R : FuncId × List MV → Prop, R (f0, vs) → (vArgs E f args.toList).runP R := by exact fun _ h => h) (hd : Nat.blt d N = true := by exact rfl) (h2 : ents.contains f0 = true := by exact rfl) (hf : nfree res = true := by exact rfl) (hm : relV.relVs (sigA 0 []) (fzb M []) args' vs := by exact lm) : vOpGD Pg T N ents G true ⟨some d, .call ⟨.value f, args, ats⟩, ty, pos, after, g⟩ J E M n := gd_call1 hd h1 h2 [] hc hf [] trivial hm rfl h
theorem ydv (hc : SemC Pg G f0 args' res) (h : J [] ((d, res) :: E) M) (h1 : ∀ R : FuncId × List MV → Prop, R (f0, vs) → (vArgs E f args.toList).runP R := by exact fun _ h => h) (hd : Nat.blt d N = true := by exact rfl) (h2 : ents.contains f0 = true := by exact rfl) (hf : nfree res = true := by exact rfl) (hm : relV.relVs (sigA 0 []) (fzb M []) args' vs := by exact lm) : vOpGD Pg T N ents G true ⟨some d, .call ⟨.value f, args, ats⟩, ty, pos, after, g⟩ J E M n := gd_call1 hd h1 h2 [] (semR_of_semC hc) hf [] trivial hm rfl h
theorem yc {M0 : VM} {M1 : VM} {n1 : Nat} (hc : SemR Pg G f0 args' M0 n0 res M1 n1) (σ : List (Nat × Nat)) (h : vOpsN Pg T N ents G ops rest K ((d, renV (rho n σ) res) :: E) (renM (rho n σ) M1 ++ delM M σ) (n + n1)) (h1 : ∀ R : FuncId × List MV → Prop, R (f0, vs) → (vArgs E f args.toList).runP R := by exact fun _ h => h) (hd : Nat.blt d N = true := by exact rfl) (h2 : ents.contains f0 = true := by exact rfl) (h5 : okSg 0 n0 σ = true := by exact rfl) (h6 : M0.all (fun x => Nat.blt x.1 n0) = true := by exact rfl) (hm : relV.relVs (sigA 0 σ) (fzb M []) args' vs := by exact lm) (h7 : mM (sigA 0 σ) (fzb M []) M0 (VM.bump M []) := by exact mm) (h3 : allIn M σ = true := by exact rfl) (h4 : M1.all (fun x => Nat.blt x.1 n1) = true := by exact rfl) : vOpsG Pg T N ents G ops ⟨some d, .call ⟨.value f, args, ats⟩, ty, pos, after, g⟩ rest K E M n := g_callR1 hd h1 h2 hc σ [] ⟨h5, trivial, h6, hm, h7⟩ h3 h4 h
end
end Go.Proofs.YtmeeeigfjlbnkaaGreat
namespace Go.Proofs.YtmeeeigfjlbnkaaGreat
def varS (n : Nat) : List UInt8 := if _h : n < 128 then [UInt8.ofNat n] else UInt8.ofNat (n % 128 + 128) :: varS (n / 128)
termination_by n
theorem varS_lo {n : Nat} (h : n < 128) : varS n = [UInt8.ofNat n] := by rw [varS, dif_pos h]
theorem varS_hi {n : Nat} (h : ¬ n < 128) : varS n = UInt8.ofNat (n % 128 + 128) :: varS (n / 128) := by rw [varS, dif_neg h]
def readS : List UInt8 → Nat → Nat → Nat × Nat × Nat
  | [], _, _ => (0, 0, 5)
  | x :: r, i, n =>
    if i = 9 ∧ 1 < x.toNat then (0, 0, 6) else if 0 < i ∧ x.toNat = 0 then (0, 0, 4) else
    if x.toNat < 128 then (n + x.toNat * 128 ^ i, i + 1, 0) else readS r (i + 1) (n + (x.toNat - 128) * 128 ^ i)
theorem ofNat_toNat {n : Nat} (h : n < 256) : (UInt8.ofNat n).toNat = n := by rw [UInt8.toNat_ofNat']; omega
theorem varS_len : ∀ (k n : Nat), n < 128 ^ (k + 1) → 1 ≤ (varS n).length ∧ (varS n).length ≤ k + 1
  | 0, n, h => by rw [varS_lo (by omega)]; simp
  | k + 1, n, h => by
    by_cases hn : n < 128
    · rw [varS_lo hn]; simp
    · rw [varS_hi hn]
      have := varS_len k (n / 128) (by rw [Nat.pow_succ] at h; omega)
      simp only [List.length_cons]
      omega
theorem varS_len10 {n : Nat} (h : n < 18446744073709551616) : 1 ≤ (varS n).length ∧ (varS n).length ≤ 10 := varS_len 9 n (by omega)
theorem read_var : ∀ (m n : Nat), n ≤ m → ∀ (i acc : Nat) (r : List UInt8), i ≤ 9 → n * 128 ^ i < 18446744073709551616 → (0 < i → 0 < n) → readS (varS n ++ r) i acc = (acc + n * 128 ^ i, i + (varS n).length, 0)
  | m, n, hm, i, acc, r, hi, hb, h0 => by
    have h9 : i = 9 → n ≤ 1 := fun h => by subst h; omega
    by_cases hn : n < 128
    · rw [varS_lo hn]
      simp only [List.singleton_append, readS, ofNat_toNat (show n < 256 by omega), List.length_singleton]
      rw [if_neg (by omega), if_neg (by omega), if_pos hn]
    · rw [varS_hi hn]
      have h9' : i ≠ 9 := fun h => by have := h9 h; omega
      simp only [List.cons_append, readS, ofNat_toNat (show n % 128 + 128 < 256 by omega), List.length_cons]
      rw [if_neg (by omega), if_neg (by omega), if_neg (by omega)]
      have e : n = 128 * (n / 128) + n % 128 := (Nat.div_add_mod n 128).symm
      have e2 : n * 128 ^ i = (n / 128) * 128 ^ (i + 1) + n % 128 * 128 ^ i := by
        rw [Nat.pow_succ]
        conv => lhs; rw [e, Nat.add_mul]
        rw [Nat.mul_comm 128 (n / 128), Nat.mul_assoc, Nat.mul_comm 128 (128 ^ i)]
      match m, hm with
      | 0, hm => exact absurd hm (by omega)
      | m + 1, hm =>
        rw [read_var m (n / 128) (by omega) (i + 1) _ r (by omega) (by omega) (by omega)]
        rw [show n % 128 + 128 - 128 = n % 128 by omega, e2]
        refine Prod.ext (by dsimp only; omega) (Prod.ext (by dsimp only; omega) rfl)
theorem read_var0 {n : Nat} (h : n < 18446744073709551616) (r : List UInt8) : readS (varS n ++ r) 0 0 = (n, (varS n).length, 0) := by
  have := read_var n n (Nat.le_refl n) 0 0 r (by omega) (by omega) (by omega)
  rw [this]
  refine Prod.ext (by dsimp only; omega) (Prod.ext (by dsimp only; omega) rfl)
theorem read_ok : ∀ (b : List UInt8) (i n : Nat), i ≤ 9 → n < 128 ^ i → (readS b i n).2.2 = 0 → i < (readS b i n).2.1 ∧ (readS b i n).2.1 ≤ i + b.length ∧ (readS b i n).1 < 18446744073709551616
  | [], i, n, _, _, h => by simp [readS] at h
  | x :: r, i, n, hi, hn, h => by
    have hx := x.toNat_lt
    rw [readS] at h ⊢
    have hp : i ≤ 8 → 128 ^ i ≤ 72057594037927936 := fun h => Nat.le_trans (Nat.pow_le_pow_right (by omega) h) (by decide)
    split at h
    · cases h
    · rename_i h1
      rw [if_neg h1]
      split at h
      · cases h
      · rename_i h2
        rw [if_neg h2]
        split at h
        · rename_i h3
          rw [if_pos h3]
          refine ⟨by dsimp only; omega, by dsimp only; simp only [List.length_cons]; omega, ?_⟩
          dsimp only
          rcases Nat.lt_or_ge i 9 with h9 | h9
          · have := hp (by omega)
            have h5 : x.toNat * 128 ^ i ≤ 127 * 128 ^ i := Nat.mul_le_mul_right _ (by omega)
            omega
          · have : i = 9 := by omega
            subst this
            omega
        · rename_i h3
          rw [if_neg h3]
          have h9 : i ≠ 9 := fun he => h1 ⟨he, by omega⟩
          have := read_ok r (i + 1) (n + (x.toNat - 128) * 128 ^ i) (by omega) (by
            rw [Nat.pow_succ]
            have : (x.toNat - 128) * 128 ^ i ≤ 127 * 128 ^ i := Nat.mul_le_mul_right _ (by omega)
            omega) h
          simp only [List.length_cons]
          omega
structure Fld where
  num : Nat
  kind : Nat
  val : Nat
  bytes : List UInt8
  deriving DecidableEq
def fld0 : Fld := ⟨0, 0, 0, []⟩
def fieldS (f : Fld) : List UInt8 := varS (f.num * 8 + f.kind) ++ (if f.kind = 0 then varS f.val else varS f.bytes.length ++ f.bytes)
def msgS (l : List Fld) : List UInt8 := (l.map fieldS).flatten
def okF (f : Fld) : Prop := 1 ≤ f.num ∧ f.num ≤ 536870911 ∧ (f.kind = 0 ∧ f.bytes = [] ∧ f.val < 18446744073709551616 ∨ f.kind = 2 ∧ f.val = 0 ∧ f.bytes.length < 18446744073709551616)
def oneS (b : List UInt8) : Fld × Nat × Nat :=
  match readS b 0 0 with
  | (tag, n, e) => if e ≠ 0 then (fld0, 0, e) else
    if tag / 8 < 1 ∨ 536870911 < tag / 8 ∨ (tag % 8 ≠ 0 ∧ tag % 8 ≠ 2) then (fld0, 0, 4) else
    match readS (b.drop n) 0 0 with
    | (v, k, e) => if e ≠ 0 then (fld0, 0, e) else
      if tag % 8 = 0 then (⟨tag / 8, 0, v, []⟩, n + k, 0) else
      if b.length - (n + k) < v then (fld0, 0, 5) else (⟨tag / 8, 2, 0, (b.drop (n + k)).take v⟩, n + k + v, 0)
theorem one_field {f : Fld} (h : okF f) (r : List UInt8) : oneS (fieldS f ++ r) = (f, (fieldS f).length, 0) := by
  obtain ⟨num, kind, val, bytes⟩ := f
  obtain ⟨h1, h2, h3⟩ := h
  dsimp only at h1 h2 h3
  unfold oneS fieldS
  dsimp only
  rw [List.append_assoc, read_var0 (by omega)]
  dsimp only
  rw [if_neg (by simp), if_neg (by omega), List.drop_left]
  rcases h3 with ⟨rfl, rfl, hv⟩ | ⟨rfl, rfl, hv⟩
  · rw [if_pos rfl, read_var0 hv]
    dsimp only
    rw [if_neg (by simp), if_pos (by omega), List.length_append, show (num * 8 + 0) / 8 = num by omega]
  · rw [if_neg (by omega : ¬ (2 : Nat) = 0), List.append_assoc, read_var0 hv]
    dsimp only
    have e : (varS (num * 8 + 2) ++ (varS bytes.length ++ (bytes ++ r))).drop ((varS (num * 8 + 2)).length + (varS bytes.length).length) = bytes ++ r := by
      rw [← List.append_assoc, ← List.length_append, List.drop_left]
    rw [if_neg (by simp), if_neg (by omega), if_neg (by simp only [List.length_append]; omega), e, List.take_left, show (num * 8 + 2) / 8 = num by omega]
    refine Prod.ext rfl (Prod.ext ?_ rfl)
    dsimp only
    simp only [List.length_append]
    omega
theorem one_ok {b : List UInt8} (h : (oneS b).2.2 = 0) : 1 ≤ (oneS b).2.1 ∧ (oneS b).2.1 ≤ b.length ∧ okF (oneS b).1 ∧ (oneS b).1.bytes.length ≤ b.length := by
  have h1 := read_ok b 0 0 (by omega) (by omega)
  unfold oneS at h ⊢
  generalize readS b 0 0 = t at *
  obtain ⟨tag, n, e⟩ := t
  dsimp only at *
  split at h
  · contradiction
  rename_i he
  rw [if_neg he]
  have he : e = 0 := by omega
  split at h
  · cases h
  rename_i ht
  rw [if_neg ht]
  have h2 := read_ok (b.drop n) 0 0 (by omega) (by omega)
  generalize readS (b.drop n) 0 0 = u at *
  obtain ⟨v, k, e2⟩ := u
  dsimp only at *
  split at h
  · contradiction
  rename_i he2
  rw [if_neg he2]
  have hh := h1 he
  have hh2 := h2 (by omega)
  rw [List.length_drop] at hh2
  split at h
  · rename_i hk
    rw [if_pos hk]
    exact ⟨by dsimp only; omega, by dsimp only; omega, ⟨by dsimp only; omega, by dsimp only; omega, .inl ⟨rfl, rfl, by dsimp only; omega⟩⟩, by simp⟩
  · rename_i hk
    rw [if_neg hk]
    split at h
    · cases h
    · rename_i hv
      rw [if_neg hv]
      have hl : ((b.drop (n + k)).take v).length = v := by rw [List.length_take, List.length_drop]; omega
      exact ⟨by dsimp only; omega, by dsimp only; omega, ⟨by dsimp only; omega, by dsimp only; omega, .inr ⟨rfl, rfl, by dsimp only; omega⟩⟩, by dsimp only; omega⟩
def fieldsG : Nat → List UInt8 → Nat → List Fld → List Fld × Nat × Nat
  | _, [], _, acc => (acc, 0, 0)
  | 0, _ :: _, at_, _ => ([], at_, 3)
  | k + 1, x :: b, at_, acc => match oneS (x :: b) with
    | (f, n, e) => if e ≠ 0 then ([], at_, e) else fieldsG k ((x :: b).drop n) (at_ + n) (acc ++ [f])
def fieldsS (b : List UInt8) : List Fld × Nat × Nat := fieldsG 1024 b 0 []
theorem fields_msg : ∀ (l : List Fld) (k at_ : Nat) (acc : List Fld), (∀ f ∈ l, okF f) → l.length ≤ k → fieldsG k (msgS l) at_ acc = (acc ++ l, 0, 0)
  | [], k, at_, acc, _, _ => by
    have : msgS [] = [] := rfl
    rw [this, List.append_nil]
    cases k <;> rfl
  | f :: l, k + 1, at_, acc, h, hk => by
    have h1 : msgS (f :: l) = fieldS f ++ msgS l := by simp [msgS]
    have h0 : 1 ≤ (fieldS f).length := by
      unfold fieldS
      have hf := h f (by simp)
      have := (varS_len10 (n := f.num * 8 + f.kind) (by unfold okF at hf; omega)).1
      rw [List.length_append]; omega
    have hone := one_field (h f (by simp)) (msgS l)
    rw [h1]
    generalize hx : fieldS f ++ msgS l = x at *
    cases x with
    | nil => have := congrArg List.length hx; simp at this; simp [this.1] at h0
    | cons y b =>
      rw [fieldsG, hone]
      dsimp only
      rw [if_neg (by simp), ← hx, List.drop_left, fields_msg l k _ _ (fun g hg => h g (by simp [hg])) (by simpa using hk), List.append_assoc]
      rfl
end Go.Proofs.YtmeeeigfjlbnkaaGreat
namespace Go.Proofs.YtmeeeigfjlbnkaaGreat
open Go.RowKit
variable {G : GS}
theorem cv8 (m : Nat) : IntKind.u8.wrap (m : Int) = ((UInt8.ofNat m).toNat : Int) := by
  rw [w8, UInt8.toNat_ofNat']
  exact (Int.natCast_emod _ 256).symm
theorem u8_all {p : UInt8 → Prop} (h : ∀ n : Fin 256, p (UInt8.ofNat n.val)) (x : UInt8) : p x := by
  have := h ⟨x.toNat, x.toNat_lt⟩
  rwa [UInt8.ofNat_toNat] at this
theorem or128_all (x : UInt8) : x ||| 128 = UInt8.ofNat (x.toNat % 128 + 128) := u8_all (p := fun x => x ||| 128 = UInt8.ofNat (x.toNat % 128 + 128)) (by decide +kernel) x
theorem or8 (x y : UInt8) : IntKind.u8.wrap ((BitVec.ofInt IntKind.u8.bits (x.toNat : Int) ||| BitVec.ofInt IntKind.u8.bits (y.toNat : Int)).toNat : Int) = ((x ||| y).toNat : Int) := by
  have h := t8 (x ||| y)
  rw [BitVec.toNat_or, bv_of _ _ (t8 x), bv_of _ _ (t8 y), ← UInt8.toNat_or, w8]; omega
theorem and8 (x y : UInt8) : IntKind.u8.wrap ((BitVec.ofInt IntKind.u8.bits (x.toNat : Int) &&& BitVec.ofInt IntKind.u8.bits (y.toNat : Int)).toNat : Int) = ((x &&& y).toNat : Int) := by
  have h := t8 (x &&& y)
  rw [BitVec.toNat_and, bv_of _ _ (t8 x), bv_of _ _ (t8 y), ← UInt8.toNat_and, w8]; omega
theorem or128 (m : Nat) : IntKind.u8.wrap ((BitVec.ofInt IntKind.u8.bits ((UInt8.ofNat m).toNat : Int) ||| BitVec.ofInt IntKind.u8.bits (128 : Int)).toNat : Int) = ((UInt8.ofNat (m % 128 + 128)).toNat : Int) := by
  have h := or8 (UInt8.ofNat m) 128
  rw [or128_all] at h
  rw [show (UInt8.ofNat m).toNat % 128 + 128 = m % 128 + 128 by rw [UInt8.toNat_ofNat']; omega] at h
  exact h
theorem shr7 (m : Nat) : ((m : Int).fdiv (2 ^ (min (7 : Int).toNat IntKind.u64.bits))) = ((m / 128 : Nat) : Int) := by
  rw [show min (7 : Int).toNat IntKind.u64.bits = 7 by rfl, Int.fdiv_eq_ediv_of_nonneg _ (by decide)]
  exact (Int.natCast_ediv m 128).symm
theorem varS_dec {p : List UInt8} {m n : Nat} (h : p ++ varS m = varS n) (hm : ¬ m < 128) : (p ++ [UInt8.ofNat (m % 128 + 128)]) ++ varS (m / 128) = varS n := by
  rw [varS_hi hm] at h
  rw [← h, List.append_assoc]; rfl
def rowB (l : List UInt8) : VM := [(0, ⟨5, 1, true, 0, u8s l⟩)]
theorem head_b : ∀ (b : List UInt8), headSize (u8s b) 1 = true
  | [] => rfl
  | _ :: _ => rfl
theorem p_len {p : List UInt8} {m n : Nat} (h : p ++ varS m = varS n) (hn : n < 18446744073709551616) : p.length ≤ 10 := by
  have := (varS_len10 hn).2
  rw [← h, List.length_append] at this
  omega
set_option maxHeartbeats 2000000 in
set_option maxRecDepth 20000 in
theorem varint_r (b : List UInt8) (n : Nat) (hb : b.length < 500000000) (hn : n < 18446744073709551616) :
    SemR Tryz.prog G 118 [.sl b.length (u8s b), .int .u64 n] [] 0 (.ms 0 1 0 (b.length + (varS n).length)) (rowB (b ++ varS n)) 1 := by
  unfold rowB
  refine semR_of_vc seat Tryz.func118 rfl rfl (Nat.le_of_ble_eq_true rfl) (Nat.le_of_ble_eq_true rfl) (N := 24) rfl rfl ?_
  refine go1 ?_
  refine g_mem rfl rfl (by intro R hR; refine sms hR ?_; refine And.intro (head_b b) ?_; refine And.intro ⟨pf, app_ok (by kernel_rfl) pf⟩ ?_; refine ⟨u8s b, sv pf, b.length, sv pf, ?_⟩; exact hR) rfl ?_
  refine go1 ?_
  refine c_loop (List UInt8 × Nat) (fun x => [(5, .ms 0 1 0 (b.length + x.1.length)), (1, .int .u64 x.2)]) (fun x => [(0, ⟨5, 1, true, 0, u8s (b ++ x.1)⟩)]) 1 (fun x => x.1 ++ varS x.2 = varS n ∧ x.2 < 18446744073709551616) (fun x => x.2) ([], n) ⟨rfl, hn⟩ (by dsimp only; rw [List.length_nil, List.append_nil]; exact (vm [(0, _)] [])) ?_
  rintro ⟨p, m⟩ ⟨hp, hm1⟩
  try dsimp only
  dsimp only at hp hm1
  refine go1 ?_
  refine c_cond rfl (fun h => ?_) (fun h => ?_)
  · have hm : ¬ m < 128 := by have := of_decide_eq_true h; omega
    have h2 := varS_dec hp hm
    have l2 := p_len hp hn
    (have fct := EqF.mk (cv8 m); have fct := EqF.mk (or128 m); have fct := EqF.mk (shr7 m); refine go1 ?_)
    refine g_mem rfl rfl (by intro R hR; refine sms hR ?_; (refine And.intro (Nat.le_refl _) ?_; refine ⟨_, rfl, ?_⟩; refine And.intro ⟨(by simp [u8s]), app_ok (by kernel_rfl) pf⟩ ?_; refine ⟨u8s (b ++ (p ++ [UInt8.ofNat (m % 128 + 128)])), sv (by simp [u8s, cutL, setL, repM]), b.length + (p.length + 1), sv pf, ?_⟩); exact hR) rfl ?_
    (have fct := EqF.mk (shr7 m); refine go1 ?_)
    exact ⟨(p ++ [UInt8.ofNat (m % 128 + 128)], m / 128), ⟨h2, by dsimp only; omega⟩, by dsimp only; omega, by dsimp only; rw [List.length_append, List.length_singleton]; exact (vm [(0, _)] [])⟩
  · have hm : m < 128 := by have := of_decide_eq_false h; omega
    have l2 := p_len hp hn
    rw [varS_lo hm] at hp
    have l3 : (varS n).length = p.length + 1 := by rw [← hp]; simp
    (have fct := EqF.mk (cv8 m); refine go1 ?_)
    refine g_mem rfl rfl (by intro R hR; refine sms hR ?_; (refine And.intro (Nat.le_refl _) ?_; refine ⟨_, rfl, ?_⟩; refine And.intro ⟨(by simp [u8s]), app_ok (by kernel_rfl) pf⟩ ?_; refine ⟨u8s (b ++ varS n), sv (by rw [← hp]; simp [u8s, cutL, setL, repM]), b.length + (varS n).length, sv pf, ?_⟩); exact hR) rfl ?_
    refine go1 ?_
    exact eb [_] [(0, 7)] []
set_option maxHeartbeats 2000000 in
set_option maxRecDepth 20000 in
theorem pvarint_r (b : List UInt8) (n : Nat) (hb : b.length < 500000000) (hn : n < 18446744073709551616) :
    SemR Tryz.prog G 114 [.sl b.length (u8s b), .int .u64 n] [] 0 (.ms 0 1 0 (b.length + (varS n).length)) (rowB (b ++ varS n)) 1 := by
  unfold rowB
  refine semR_of_vc seat Tryz.func114 rfl rfl (Nat.le_of_ble_eq_true rfl) (Nat.le_of_ble_eq_true rfl) (N := 23) rfl rfl ?_
  refine go1 ?_
  refine g_mem rfl rfl (by intro R hR; refine sms hR ?_; refine And.intro (head_b b) ?_; refine And.intro (app_ok1 (by kernel_rfl) (by omega)) ?_; exact hR) rfl ?_
  refine go1 ?_
  refine c_loop (List UInt8 × Nat) (fun x => [(5, .ms 0 1 0 (b.length + x.1.length)), (1, .int .u64 x.2)]) (fun x => [(0, ⟨5, 1, true, 0, u8s (b ++ x.1)⟩)]) 1 (fun x => x.1 ++ varS x.2 = varS n ∧ x.2 < 18446744073709551616) (fun x => x.2) ([], n) ⟨rfl, hn⟩ (by dsimp only; rw [List.length_nil, List.append_nil]; exact (vm [(0, _)] [])) ?_
  rintro ⟨p, m⟩ ⟨hp, hm1⟩
  try dsimp only
  dsimp only at hp hm1
  refine go1 ?_
  refine c_cond rfl (fun h => ?_) (fun h => ?_)
  · have hm : ¬ m < 128 := by have := of_decide_eq_true h; omega
    have h2 := varS_dec hp hm
    have l2 := p_len hp hn
    (have fct := EqF.mk (cv8 m); have fct := EqF.mk (or128 m); have fct := EqF.mk (shr7 m); refine go1 ?_)
    refine g_mem rfl rfl (by intro R hR; refine sms hR ?_; (refine And.intro (Nat.le_refl _) ?_; refine ⟨_, rfl, ?_⟩; refine And.intro ⟨(by simp [u8s]), app_ok (by kernel_rfl) pf⟩ ?_; refine ⟨u8s (b ++ (p ++ [UInt8.ofNat (m % 128 + 128)])), sv (by simp [u8s, cutL, setL, repM]), b.length + (p.length + 1), sv pf, ?_⟩); exact hR) rfl ?_
    (have fct := EqF.mk (shr7 m); refine go1 ?_)
    exact ⟨(p ++ [UInt8.ofNat (m % 128 + 128)], m / 128), ⟨h2, by dsimp only; omega⟩, by dsimp only; omega, by dsimp only; rw [List.length_append, List.length_singleton]; exact (vm [(0, _)] [])⟩
  · have hm : m < 128 := by have := of_decide_eq_false h; omega
    have l2 := p_len hp hn
    rw [varS_lo hm] at hp
    have l3 : (varS n).length = p.length + 1 := by rw [← hp]; simp
    (have fct := EqF.mk (cv8 m); refine go1 ?_)
    refine g_mem rfl rfl (by intro R hR; refine sms hR ?_; (refine And.intro (Nat.le_refl _) ?_; refine ⟨_, rfl, ?_⟩; refine And.intro ⟨(by simp [u8s]), app_ok (by kernel_rfl) pf⟩ ?_; refine ⟨u8s (b ++ varS n), sv (by rw [← hp]; simp [u8s, cutL, setL, repM]), b.length + (varS n).length, sv pf, ?_⟩); exact hR) rfl ?_
    refine go1 ?_
    exact eb [_] [(0, 7)] []
end Go.Proofs.YtmeeeigfjlbnkaaGreat
namespace Go.Proofs.YtmeeeigfjlbnkaaGreat
open Go.RowKit
variable {G : GS}
attribute [local irreducible] vOpsN vOpsG vOpsD vOpGD NextD vC SeqQ BlockQ
theorem and127_all (x : UInt8) : x &&& 127 = UInt8.ofNat (x.toNat % 128) := u8_all (p := fun x => x &&& 127 = UInt8.ofNat (x.toNat % 128)) (by decide +kernel) x
theorem and127 (x : UInt8) : IntKind.u8.wrap ((BitVec.ofInt IntKind.u8.bits (x.toNat : Int) &&& BitVec.ofInt IntKind.u8.bits (127 : Int)).toNat : Int) = ((x.toNat % 128 : Nat) : Int) := by
  have h := and8 x 127
  rw [and127_all, UInt8.toNat_ofNat', Nat.mod_eq_of_lt (show x.toNat % 128 < 2 ^ 8 by omega)] at h
  exact h
theorem p128 (i : Nat) : 2 ^ (7 * i) = 128 ^ i := by rw [Nat.pow_mul]
theorem v_bound {y i : Nat} (h : i ≤ 8 ∧ y < 128 ∨ i = 9 ∧ y ≤ 1) : y * 128 ^ i + 128 ^ i ≤ 18446744073709551616 := by
  rcases h with ⟨h1, h2⟩ | ⟨rfl, h2⟩
  · have : 128 ^ i ≤ 128 ^ 8 := Nat.pow_le_pow_right (by omega) h1
    have h3 : y * 128 ^ i ≤ 127 * 128 ^ i := Nat.mul_le_mul_right _ (by omega)
    omega
  · omega
theorem shlv {y i : Nat} (h : i ≤ 8 ∧ y < 128 ∨ i = 9 ∧ y ≤ 1) : IntKind.u64.wrap ((y : Int) * 2 ^ (min (7 * (i : Int)).toNat IntKind.u64.bits)) = ((y * 128 ^ i : Nat) : Int) := by
  have e : min (7 * (i : Int)).toNat IntKind.u64.bits = 7 * i := by simp [IntKind.bits]; omega
  have hb := v_bound h
  have hp : 0 < 128 ^ i := Nat.pow_pos (by omega)
  rw [e, wu64, show ((y : Int) * 2 ^ (7 * i)) = ((y * 128 ^ i : Nat) : Int) by rw [← p128, Int.natCast_mul, Int.natCast_pow]; rfl]
  omega
theorem orv {n y i : Nat} (hn : n < 128 ^ i) (h : i ≤ 8 ∧ y < 128 ∨ i = 9 ∧ y ≤ 1) : IntKind.u64.wrap ((BitVec.ofInt IntKind.u64.bits (n : Int) ||| BitVec.ofInt IntKind.u64.bits ((y * 128 ^ i : Nat) : Int)).toNat : Int) = ((n + y * 128 ^ i : Nat) : Int) := by
  have hb := v_bound h
  have hp : 0 < 128 ^ i := Nat.pow_pos (by omega)
  have e : n ||| y * 128 ^ i = n + y * 128 ^ i := by
    rw [← p128] at hn ⊢
    have := Nat.shiftLeft_add_eq_or_of_lt hn y
    rw [Nat.shiftLeft_eq] at this
    rw [Nat.or_comm, ← this, Nat.add_comm]
  rw [BitVec.toNat_or, bv_of _ _ (show n < 2 ^ IntKind.u64.bits by show n < 18446744073709551616; omega), bv_of _ _ (show y * 128 ^ i < 2 ^ IntKind.u64.bits by show _ < 18446744073709551616; omega), e, wu64]
  omega
def readM (x : Nat × Nat × Nat) : MV := .tup [.int .u64 x.1, .int .i64 x.2.1, .int .i64 x.2.2]
theorem idx_u8 {l : List UInt8} {k : Nat} (hk : k < l.length) : idxL (u8s l) l.length (k : Int) = some (.int .u8 l[k].toNat) := index_at hk (by simp [u8s, hk])
end Go.Proofs.YtmeeeigfjlbnkaaGreat
namespace Go.Proofs.YtmeeeigfjlbnkaaGreat
open Go.RowKit
variable {G : GS}
attribute [local irreducible] vOpsN vOpsG vOpsD vOpGD NextD vC SeqQ BlockQ
def fldM (f : Fld) : MV := .st [.int .i64 f.num, .int .i64 f.kind, .int .u64 f.val, .sl f.bytes.length (u8s f.bytes)]
theorem cut_u8 (b : List UInt8) (x y : Nat) : cutL (u8s b) x y = u8s ((b.drop x).take (y - x)) := by simp [cutL, u8s]
theorem head_cut (b : List UInt8) (x y : Nat) : headSize (cutL (u8s b) x y) 1 = true := by rw [cut_u8]; exact head_b _
theorem bndLo {n k : Nat} {κ : IntKind} (h : k ≤ n) : bounds n (some (.int κ (k : Int))) none = some (k, n) := by
  unfold bounds
  dsimp only
  rw [if_pos ⟨by omega, by omega⟩]
  simp
theorem bndHi {n k : Nat} {κ : IntKind} (h : k ≤ n) : bounds n none (some (.int κ (k : Int))) = some (0, k) := by
  unfold bounds
  dsimp only
  rw [if_pos ⟨by omega, by omega⟩]
  simp
theorem bnd_at {n lo hi : Nat} {a c : Int} {κ κ' : IntKind} (ha : a = lo) (hc : c = hi) (h1 : lo ≤ hi) (h2 : hi ≤ n) : bounds n (some (.int κ a)) (some (.int κ' c)) = some (lo, hi) := by
  subst ha hc
  unfold bounds
  dsimp only
  rw [if_pos ⟨by omega, by omega⟩]
  dsimp only
  rw [if_pos ⟨by omega, by simp; omega⟩]
  simp
theorem tmodn (a b : Nat) : (a : Int).tmod (b : Int) = ((a % b : Nat) : Int) := by
  rw [Int.tmod_eq_emod_of_nonneg (by omega)]; exact (Int.natCast_emod a b).symm
theorem tdivn {a : Nat} (b : Nat) (ha : a < 18446744073709551616) : IntKind.u64.wrap ((a : Int).tdiv (b : Int)) = ((a / b : Nat) : Int) := by
  have := Nat.div_le_self a b
  rw [Int.tdiv_eq_ediv_of_nonneg (by omega), ← Int.natCast_ediv, wu64]
  generalize a / b = c at *
  omega
end Go.Proofs.YtmeeeigfjlbnkaaGreat
namespace Go.Proofs.YtmeeeigfjlbnkaaGreat
open Go.RowKit
variable {G : GS}
attribute [local irreducible] vOpsN vOpsG vOpsD vOpGD NextD vC SeqQ BlockQ
theorem fieldsG_end (k at_ : Nat) (acc : List Fld) : fieldsG k [] at_ acc = (acc, 0, 0) := by cases k <;> rfl
theorem fieldsG_full {b : List UInt8} (h : b ≠ []) (at_ : Nat) (acc : List Fld) : fieldsG 0 b at_ acc = ([], at_, 3) := by
  cases b with
  | nil => exact absurd rfl h
  | cons x b => rfl
theorem fieldsG_step {b : List UInt8} (h : b ≠ []) (k at_ : Nat) (acc : List Fld) : fieldsG (k + 1) b at_ acc = if (oneS b).2.2 ≠ 0 then ([], at_, (oneS b).2.2) else fieldsG k (b.drop (oneS b).2.1) (at_ + (oneS b).2.1) (acc ++ [(oneS b).1]) := by
  cases b with
  | nil => exact absurd rfl h
  | cons x b => rw [fieldsG]
theorem drop_ne {b : List UInt8} {n : Nat} (h : n < b.length) : b.drop n ≠ [] := by
  intro h0
  have := congrArg List.length h0
  rw [List.length_drop] at this
  simp at this; omega
end Go.Proofs.YtmeeeigfjlbnkaaGreat
namespace Go.Proofs.YtmeeeigfjlbnkaaGreat
open Go.RowKit
variable {G : GS}
attribute [local irreducible] vOpsN vOpsG vOpsD vOpGD NextD vC SeqQ BlockQ
theorem fieldS_0 {f : Fld} (h : f.kind = 0) : fieldS f = varS (f.num * 8 + f.kind) ++ varS f.val := by unfold fieldS; rw [if_pos h]
theorem fieldS_2 {f : Fld} (h : f.kind = 2) : fieldS f = varS (f.num * 8 + f.kind) ++ (varS f.bytes.length ++ f.bytes) := by unfold fieldS; rw [if_neg (by omega)]
set_option maxHeartbeats 2000000 in
set_option maxRecDepth 20000 in
theorem right_m (f : Fld) (hf : okF f) : SemC Tryz.prog G 117 [fldM f] (.bool true) := by
  obtain ⟨num, kind, val, bytes⟩ := f
  obtain ⟨h1, h2, h3⟩ := hf
  dsimp only at h1 h2 h3
  unfold fldM
  dsimp only
  refine semC_of_vc seat Tryz.func117 rfl rfl (Nat.le_of_ble_eq_true rfl) (Nat.le_of_ble_eq_true rfl) (N := 30) rfl ?_
  refine go1 ?_
  refine n_guard rfl rfl (fun h => ?_) rfl (fun h => ?_)
  rotate_left
  · exfalso
    have : (num : Int) < 1 := by simpa using h
    omega
  refine go1 ?_
  refine c_cond rfl (fun h => ?_) (fun h => ?_)
  · exfalso
    have := of_decide_eq_true h
    omega
  rcases h3 with ⟨rfl, rfl, hv⟩ | ⟨rfl, rfl, hv⟩
  · refine go1 ?_
    refine go0 ?_
    rfl
  · refine go1 ?_
    refine go0 ?_
    rfl
set_option maxHeartbeats 2000000 in
set_option maxRecDepth 20000 in
theorem pvalid_m (f : Fld) (hf : okF f) : SemC Tryz.prog G 113 [fldM f] (.bool true) := by
  obtain ⟨num, kind, val, bytes⟩ := f
  obtain ⟨h1, h2, h3⟩ := hf
  dsimp only at h1 h2 h3
  unfold fldM
  dsimp only
  refine semC_of_vc seat Tryz.func113 rfl rfl (Nat.le_of_ble_eq_true rfl) (Nat.le_of_ble_eq_true rfl) (N := 30) rfl ?_
  refine go1 ?_
  refine n_guard rfl rfl (fun h => ?_) rfl (fun h => ?_)
  rotate_left
  · exfalso
    have : (num : Int) < 1 := by simpa using h
    omega
  refine go1 ?_
  refine c_cond rfl (fun h => ?_) (fun h => ?_)
  · exfalso
    have := of_decide_eq_true h
    omega
  rcases h3 with ⟨rfl, rfl, hv⟩ | ⟨rfl, rfl, hv⟩
  · refine go1 ?_
    refine go0 ?_
    rfl
  · refine go1 ?_
    refine go0 ?_
    rfl
set_option maxHeartbeats 2000000 in
set_option maxRecDepth 20000 in
theorem ptag_m (f : Fld) (hf : okF f) : SemC Tryz.prog G 115 [fldM f] (.int .u64 ((f.num * 8 + f.kind : Nat) : Int)) := by
  obtain ⟨num, kind, val, bytes⟩ := f
  obtain ⟨h1, h2, h3⟩ := hf
  dsimp only at h1 h2 h3
  unfold fldM
  dsimp only
  refine semC_of_vc seat Tryz.func115 rfl rfl (Nat.le_of_ble_eq_true rfl) (Nat.le_of_ble_eq_true rfl) (N := 10) rfl ?_
  refine go1 ?_
  refine go0 ?_
  exact congrArg (MV.int .u64) (by omega)
theorem varint_g (b : List UInt8) (n : Nat) (hb : b.length < 500000000) (hn : n < 18446744073709551616) :
    SemR Tryz.prog G 118 [.sl b.length (u8s b), .int .u64 n] [] 0 (.ms 0 1 0 (b ++ varS n).length) (rowB (b ++ varS n)) 1 := by
  rw [List.length_append]; exact varint_r b n hb hn
theorem pvarint_g (b : List UInt8) (n : Nat) (hb : b.length < 500000000) (hn : n < 18446744073709551616) :
    SemR Tryz.prog G 114 [.sl b.length (u8s b), .int .u64 n] [] 0 (.ms 0 1 0 (b ++ varS n).length) (rowB (b ++ varS n)) 1 := by
  rw [List.length_append]; exact pvarint_r b n hb hn
set_option maxHeartbeats 2000000 in
set_option maxRecDepth 20000 in
theorem field_r (b : List UInt8) (f : Fld) (hf : okF f) (hb : b.length + f.bytes.length < 400000000) :
    SemR Tryz.prog G 99 [.sl b.length (u8s b), fldM f] [] 0 (.tup [.ms 0 1 0 (b ++ fieldS f).length, .int .i64 0]) (rowB (b ++ fieldS f)) 1 := by
  have hr := right_m (G := G) f hf
  obtain ⟨num, kind, val, bytes⟩ := f
  obtain ⟨h1, h2, h3⟩ := hf
  dsimp only at h1 h2 h3
  have l1 := varS_len10 (n := num * 8 + kind) (by omega)
  have c1 := varint_g (G := G) b (num * 8 + kind) (by dsimp only at hb; omega) (by omega)
  have e0 := fieldS_0 (f := ⟨num, kind, val, bytes⟩)
  have e2 := fieldS_2 (f := ⟨num, kind, val, bytes⟩)
  unfold rowB at *
  unfold fldM at *
  dsimp only at hr hb e0 e2
  dsimp only
  generalize hp : b ++ varS (num * 8 + kind) = p at *
  refine semR_of_vc seat Tryz.func99 rfl rfl (Nat.le_of_ble_eq_true rfl) (Nat.le_of_ble_eq_true rfl) (N := 36) rfl rfl ?_
  refine go1 ?_
  refine yv (hr) ?_
  have hpl : p.length ≤ b.length + 10 := by rw [← hp, List.length_append]; omega
  refine go1 ?_
  refine yc (c1) [] ?_
  refine go1 ?_
  rcases h3 with ⟨rfl, rfl, hv⟩ | ⟨rfl, rfl, hv⟩
  · have c2 := varint_g (G := G) p val (by omega) hv
    rw [e0 rfl, ← List.append_assoc, hp]
    unfold rowB at c2
    generalize p ++ varS val = q at *
    refine go1 ?_
    refine g_callR1 rfl (fun _ h => h) rfl (c2) [] [(14, p.length)] ⟨rfl, mm, rfl, lm, mm⟩ rfl rfl ?_
    refine go1 ?_
    exact eb [_, _] [(0, 22)] []
  · have c2 := varint_g (G := G) p bytes.length (by omega) hv
    rw [e2 rfl, ← List.append_assoc, hp, ← List.append_assoc]
    have hql : (p ++ varS bytes.length).length ≤ p.length + 10 := by rw [List.length_append]; have := (varS_len10 hv).2; omega
    unfold rowB at c2
    generalize p ++ varS bytes.length = q at *
    refine go1 ?_
    refine c_draw [(0, false), (1, false), (2, false), (3, false), (4, false), (5, true), (6, false), (7, false), (8, false), (9, false), (10, false)] ?_
    refine go1 ?_
    refine gd_callR1 rfl (fun _ h => h) rfl [14] (c2) [] [(14, p.length)] ⟨rfl, mm, rfl, lm, mm⟩ rfl rfl rfl rfl rfl ?_
    refine go1 ?_
    refine gd_mem rfl (by intro R hR; refine sms hR ?_; refine And.intro (head_b bytes) ?_; refine And.intro ⟨(by simp [u8s]), app_ok (by kernel_rfl) pf⟩ ?_; refine ⟨u8s (q ++ bytes), sv (by simp [u8s]), (q ++ bytes).length, sv pf, ?_⟩; exact hR) rfl ?_
    refine go1 ?_
    exact eb [_, _] [(0, 27)] []
set_option maxHeartbeats 2000000 in
set_option maxRecDepth 20000 in
theorem pfield_r (b : List UInt8) (f : Fld) (hf : okF f) (hb : b.length + f.bytes.length < 400000000) :
    SemR Tryz.prog G 96 [.sl b.length (u8s b), fldM f] [] 0 (.tup [.ms 0 1 0 (b ++ fieldS f).length, .int .i64 0]) (rowB (b ++ fieldS f)) 1 := by
  have hr := pvalid_m (G := G) f hf
  have ht := ptag_m (G := G) f hf
  obtain ⟨num, kind, val, bytes⟩ := f
  obtain ⟨h1, h2, h3⟩ := hf
  dsimp only at h1 h2 h3
  have l1 := varS_len10 (n := num * 8 + kind) (by omega)
  have c1 := pvarint_g (G := G) b (num * 8 + kind) (by dsimp only at hb; omega) (by omega)
  have e0 := fieldS_0 (f := ⟨num, kind, val, bytes⟩)
  have e2 := fieldS_2 (f := ⟨num, kind, val, bytes⟩)
  unfold rowB at *
  unfold fldM at *
  dsimp only at hr ht hb e0 e2
  dsimp only
  generalize hp : b ++ varS (num * 8 + kind) = p at *
  refine semR_of_vc seat Tryz.func96 rfl rfl (Nat.le_of_ble_eq_true rfl) (Nat.le_of_ble_eq_true rfl) (N := 30) rfl rfl ?_
  refine go1 ?_
  refine yv (hr) ?_
  refine go1 ?_
  refine yv (ht) ?_
  have hpl : p.length ≤ b.length + 10 := by rw [← hp, List.length_append]; omega
  refine go1 ?_
  refine yc (c1) [] ?_
  refine go1 ?_
  rcases h3 with ⟨rfl, rfl, hv⟩ | ⟨rfl, rfl, hv⟩
  · have c2 := pvarint_g (G := G) p val (by omega) hv
    rw [e0 rfl, ← List.append_assoc, hp]
    unfold rowB at c2
    generalize p ++ varS val = q at *
    refine go1 ?_
    refine g_callR1 rfl (fun _ h => h) rfl (c2) [] [(7, p.length)] ⟨rfl, mm, rfl, lm, mm⟩ rfl rfl ?_
    refine go1 ?_
    exact eb [_, _] [(0, 15)] []
  · have c2 := pvarint_g (G := G) p bytes.length (by omega) hv
    rw [e2 rfl, ← List.append_assoc, hp, ← List.append_assoc]
    have hql : (p ++ varS bytes.length).length ≤ p.length + 10 := by rw [List.length_append]; have := (varS_len10 hv).2; omega
    unfold rowB at c2
    generalize p ++ varS bytes.length = q at *
    refine go1 ?_
    refine c_draw [(0, false), (1, false), (2, false), (3, false), (4, false), (5, true), (6, false), (7, false), (8, false), (9, false), (10, false)] ?_
    refine go1 ?_
    refine gd_callR1 rfl (fun _ h => h) rfl [7] (c2) [] [(7, p.length)] ⟨rfl, mm, rfl, lm, mm⟩ rfl rfl rfl rfl rfl ?_
    refine go1 ?_
    refine gd_mem rfl (by intro R hR; refine sms hR ?_; refine And.intro (head_b bytes) ?_; refine And.intro ⟨(by simp [u8s]), app_ok (by kernel_rfl) pf⟩ ?_; refine ⟨u8s (q ++ bytes), sv (by simp [u8s]), (q ++ bytes).length, sv pf, ?_⟩; exact hR) rfl ?_
    refine go1 ?_
    exact eb [_, _] [(0, 20)] []
end Go.Proofs.YtmeeeigfjlbnkaaGreat
namespace Go.Proofs.YtmeeeigfjlbnkaaGreat
open Go.RowKit
variable {G : GS}
structure W8 where
  a : UInt32
  b : UInt32
  c : UInt32
  d : UInt32
  e : UInt32
  f : UInt32
  g : UInt32
  h : UInt32
def W8.toM (s : W8) : MV := .arr 8 1 [u32M s.a, u32M s.b, u32M s.c, u32M s.d, u32M s.e, u32M s.f, u32M s.g, u32M s.h]
def turnU (x : UInt32) (n : Nat) : UInt32 := (x >>> UInt32.ofNat n) ||| (x <<< UInt32.ofNat (32 - n))
def kL : List UInt32 := [1116352408, 1899447441, 3049323471, 3921009573, 961987163, 1508970993, 2453635748, 2870763221, 3624381080, 310598401, 607225278, 1426881987, 1925078388, 2162078206, 2614888103, 3248222580, 3835390401, 4022224774, 264347078, 604807628, 770255983, 1249150122, 1555081692, 1996064986, 2554220882, 2821834349, 2952996808, 3210313671, 3336571891, 3584528711, 113926993, 338241895, 666307205, 773529912, 1294757372, 1396182291, 1695183700, 1986661051, 2177026350, 2456956037, 2730485921, 2820302411, 3259730800, 3345764771, 3516065817, 3600352804, 4094571909, 275423344, 430227734, 506948616, 659060556, 883997877, 958139571, 1322822218, 1537002063, 1747873779, 1955562222, 2024104815, 2227730452, 2361852424, 2428436474, 2756734187, 3204031479, 3329325298]
def wsM (l : List UInt32) : MV := .arr 64 1 (l.map u32M)
def beU (b : List UInt8) (k : Nat) : UInt32 := (b.getD (4 * k) 0).toUInt32 <<< UInt32.ofNat 24 ||| (b.getD (4 * k + 1) 0).toUInt32 <<< UInt32.ofNat 16 ||| (b.getD (4 * k + 2) 0).toUInt32 <<< UInt32.ofNat 8 ||| (b.getD (4 * k + 3) 0).toUInt32
def fillW (b : List UInt8) : Nat → List UInt32
  | 0 => List.replicate 64 0
  | t + 1 => (fillW b t).set t (beU b t)
def stepW (l : List UInt32) (t : Nat) : UInt32 :=
  (turnU (l.getD (t - 2) 0) 17 ^^^ turnU (l.getD (t - 2) 0) 19 ^^^ l.getD (t - 2) 0 >>> UInt32.ofNat 10) + l.getD (t - 7) 0 + (turnU (l.getD (t - 15) 0) 7 ^^^ turnU (l.getD (t - 15) 0) 18 ^^^ l.getD (t - 15) 0 >>> UInt32.ofNat 3) + l.getD (t - 16) 0
def moreW (b : List UInt8) : Nat → List UInt32
  | 0 => fillW b 16
  | t + 1 => (moreW b t).set (16 + t) (stepW (moreW b t) (16 + t))
theorem fillW_len (b : List UInt8) : ∀ t, (fillW b t).length = 64
  | 0 => by simp [fillW]
  | t + 1 => by simp [fillW, fillW_len b t]
theorem moreW_len (b : List UInt8) : ∀ t, (moreW b t).length = 64
  | 0 => fillW_len b 16
  | t + 1 => by simp [moreW, moreW_len b t]
def tmp1 (k w : UInt32) (s : W8) : UInt32 := s.h + (turnU s.e 6 ^^^ turnU s.e 11 ^^^ turnU s.e 25) + (s.e &&& s.f ^^^ ~~~s.e &&& s.g) + k + w
def tmp2 (s : W8) : UInt32 := (turnU s.a 2 ^^^ turnU s.a 13 ^^^ turnU s.a 22) + (s.a &&& s.b ^^^ s.a &&& s.c ^^^ s.b &&& s.c)
def roundS (k w : UInt32) (s : W8) : W8 := ⟨tmp1 k w s + tmp2 s, s.a, s.b, s.c, s.d + tmp1 k w s, s.e, s.f, s.g⟩
def rounds (k w : List UInt32) (s : W8) : Nat → W8
  | 0 => s
  | t + 1 => roundS (k.getD t 0) (w.getD t 0) (rounds k w s t)
def addW (h s : W8) : Nat → W8
  | 0 => h
  | 1 => ⟨h.a + s.a, h.b, h.c, h.d, h.e, h.f, h.g, h.h⟩
  | 2 => ⟨h.a + s.a, h.b + s.b, h.c, h.d, h.e, h.f, h.g, h.h⟩
  | 3 => ⟨h.a + s.a, h.b + s.b, h.c + s.c, h.d, h.e, h.f, h.g, h.h⟩
  | 4 => ⟨h.a + s.a, h.b + s.b, h.c + s.c, h.d + s.d, h.e, h.f, h.g, h.h⟩
  | 5 => ⟨h.a + s.a, h.b + s.b, h.c + s.c, h.d + s.d, h.e + s.e, h.f, h.g, h.h⟩
  | 6 => ⟨h.a + s.a, h.b + s.b, h.c + s.c, h.d + s.d, h.e + s.e, h.f + s.f, h.g, h.h⟩
  | 7 => ⟨h.a + s.a, h.b + s.b, h.c + s.c, h.d + s.d, h.e + s.e, h.f + s.f, h.g + s.g, h.h⟩
  | _ => ⟨h.a + s.a, h.b + s.b, h.c + s.c, h.d + s.d, h.e + s.e, h.f + s.f, h.g + s.g, h.h + s.h⟩
def blockS (h : W8) (b : List UInt8) : W8 := addW h (rounds kL (moreW b 48) h 64) 8
theorem index_of {l : List MV} {n : Nat} {j : Int} {x : MV} (k : Nat) (hj : j = k) (hk : k < n) (hx : l[k]? = some x) : idxL l n j = some x := by
  subst hj; exact index_at hk hx
theorem idx_of {n : Nat} {j : Int} (k : Nat) (hj : j = k) (hk : k < n) : idx n j = some k := by
  subst hj; exact idx_at hk
theorem u8_at {b : List UInt8} {k : Nat} (h : k < b.length) : (u8s b)[k]? = some (u8M (b.getD k 0)) := by simp [u8s, h]
theorem ws_get {l : List UInt32} {k : Nat} (h : k < l.length) : getPO (wsM l) ([] ++ [k]) (0 + k * 1) = some (u32M (l.getD k 0)) := by
  show (match nthM (l.map u32M) k with | some m => bif Nat.ble (k * 1) (0 + k * 1) then getPO m [] (0 + k * 1 - k * 1) else none | none => none) = _
  have e : nthM (l.map u32M) k = some (u32M (l.getD k 0)) := by rw [nthM_eq]; simp [h]
  rw [e]
  have e2 : Nat.ble (k * 1) (0 + k * 1) = true := by simp
  simp only [e2, cond_true]
  simp [getPO]
theorem ws_set {l : List UInt32} {k : Nat} (h : k < l.length) (x : UInt32) : setPO (wsM l) ([] ++ [k]) (0 + k * 1) (u32M x) = some (wsM (l.set k x)) := by
  show (match nthM (l.map u32M) k with | some m => bif Nat.ble (k * 1) (0 + k * 1) && (u32M x).idFree then (match setPO m [] (0 + k * 1 - k * 1) (u32M x) with | some m' => some (MV.arr 64 1 (setL (l.map u32M) k m')) | none => none) else none | none => none) = _
  have e : nthM (l.map u32M) k = some (u32M (l.getD k 0)) := by rw [nthM_eq]; simp [h]
  rw [e]
  have e2 : Nat.ble (k * 1) (0 + k * 1) = true := by simp
  simp only [e2]
  simp [setPO, setL_eq, MV.idFree, MV.size, MV.isAgg, wsM, List.map_set]
def W8.nth (s : W8) : Nat → UInt32
  | 0 => s.a
  | 1 => s.b
  | 2 => s.c
  | 3 => s.d
  | 4 => s.e
  | 5 => s.f
  | 6 => s.g
  | _ => s.h
theorem get8 (s : W8) {i : Nat} (hi : i < 8) : getPO s.toM ([] ++ [i]) (0 + i * 1) = some (u32M (s.nth i)) := by
  have h8 : i = 0 ∨ i = 1 ∨ i = 2 ∨ i = 3 ∨ i = 4 ∨ i = 5 ∨ i = 6 ∨ i = 7 := by omega
  rcases h8 with rfl | rfl | rfl | rfl | rfl | rfl | rfl | rfl <;> rfl
theorem set8 (h s : W8) {i : Nat} (hi : i < 8) : setPO (addW h s i).toM ([] ++ [i]) (0 + i * 1) (u32M ((addW h s i).nth i + s.nth i)) = some (addW h s (i + 1)).toM := by
  have h8 : i = 0 ∨ i = 1 ∨ i = 2 ∨ i = 3 ∨ i = 4 ∨ i = 5 ∨ i = 6 ∨ i = 7 := by omega
  rcases h8 with rfl | rfl | rfl | rfl | rfl | rfl | rfl | rfl <;> rfl
end Go.Proofs.YtmeeeigfjlbnkaaGreat
namespace Go.Proofs.YtmeeeigfjlbnkaaGreat
open Go.RowKit
variable {G : GS}
theorem quo_nat (i n : Nat) (h : i < 4611686018427387904) : IntKind.i64.wrap ((i : Int).tdiv (n : Int)) = ((i / n : Nat) : Int) := by
  have e : (i : Int).tdiv (n : Int) = ((i / n : Nat) : Int) := rfl
  have := Nat.div_le_self i n
  generalize i / n = q at *
  rw [e, wrap_in _ (by omega) (by omega)]
theorem rem_nat (i n : Nat) : (i : Int).tmod (n : Int) = ((i % n : Nat) : Int) := rfl
theorem bounds_at {n a c : Nat} {k k' : IntKind} {lo hi : Int} (ha : lo = (a : Int)) (hc : hi = (c : Int)) (h1 : a ≤ c) (h2 : c ≤ n) : bounds n (some (.int k lo)) (some (.int k' hi)) = some (a, c) := by
  subst ha; subst hc
  unfold bounds
  simp only
  rw [if_pos (by omega)]
  simp only [Int.toNat_natCast]
  rw [if_pos (by omega)]
theorem head_u8 (m : List UInt8) : headSize (u8s m) 1 = true := by cases m <;> rfl
def padN (n : Nat) : Nat := (119 - n % 64) % 64
def byteAt (n k : Nat) : UInt8 := UInt8.ofNat (n / 2 ^ (8 * (7 - k)))
def be64 (n : Nat) : List UInt8 := (List.range 8).map (byteAt n)
def padS (b : List UInt8) : List UInt8 := b ++ [128] ++ List.replicate (padN b.length) 0 ++ be64 (8 * b.length)
def initW : W8 := ⟨1779033703, 3144134277, 1013904242, 2773480762, 1359893119, 2600822924, 528734635, 1541459225⟩
def absorb (s : W8) (m : List UInt8) : Nat → W8
  | 0 => s
  | k + 1 => blockS (absorb s m k) ((m.drop (64 * k)).take 64)
def outAt (s : W8) (i : Nat) : UInt8 := (s.nth (i / 4) >>> UInt32.ofNat (24 - i % 4 * 8)).toUInt8
def outK (s : W8) : Nat → List UInt8
  | 0 => List.replicate 32 0
  | i + 1 => (outK s i).set i (outAt s i)
theorem outK_len (s : W8) : ∀ i, (outK s i).length = 32
  | 0 => by simp [outK]
  | i + 1 => by simp [outK, outK_len s i]
def shaS (b : List UInt8) : List UInt8 := outK (absorb initW (padS b) ((padS b).length / 64)) 32
theorem shaS_len (b : List UInt8) : (shaS b).length = 32 := outK_len _ _
def keyM (k : List UInt8) : MV := .arr 32 1 (u8s k)
theorem padS_len (b : List UInt8) : (padS b).length = b.length + 9 + padN b.length := by simp [padS, be64]; omega
theorem padS_div (b : List UInt8) : (padS b).length = 64 * ((padS b).length / 64) := by rw [padS_len]; unfold padN; omega
theorem key_get {k : List UInt8} {i : Nat} (h : i < k.length) : getPO (keyM k) ([] ++ [i]) (0 + i * 1) = some (u8M (k.getD i 0)) := by
  show (match nthM (u8s k) i with | some m => bif Nat.ble (i * 1) (0 + i * 1) then getPO m [] (0 + i * 1 - i * 1) else none | none => none) = _
  have e : nthM (u8s k) i = some (u8M (k.getD i 0)) := by rw [nthM_eq]; exact u8_at h
  rw [e]
  have e2 : Nat.ble (i * 1) (0 + i * 1) = true := by simp
  simp only [e2, cond_true]
  simp [getPO]
theorem key_set {k : List UInt8} {i : Nat} (h : i < k.length) (x : UInt8) : setPO (keyM k) ([] ++ [i]) (0 + i * 1) (u8M x) = some (keyM (k.set i x)) := by
  show (match nthM (u8s k) i with | some m => bif Nat.ble (i * 1) (0 + i * 1) && (u8M x).idFree then (match setPO m [] (0 + i * 1 - i * 1) (u8M x) with | some m' => some (MV.arr 32 1 (setL (u8s k) i m')) | none => none) else none | none => none) = _
  have e : nthM (u8s k) i = some (u8M (k.getD i 0)) := by rw [nthM_eq]; exact u8_at h
  rw [e]
  have e2 : Nat.ble (i * 1) (0 + i * 1) = true := by simp
  simp only [e2]
  simp [setPO, setL_eq, MV.idFree, MV.size, MV.isAgg, keyM, u8s, List.map_set]
theorem byteAt_eq (n k : Nat) (hk : k < 8) : IntKind.u8.wrap (((n : Int) * 8).fdiv (2 ^ (min (8 * (7 - (k : Int))).toNat IntKind.u64.bits))) = ((byteAt (8 * n) k).toNat : Int) := by
  have e : min (8 * (7 - (k : Int))).toNat IntKind.u64.bits = 8 * (7 - k) := by simp [IntKind.bits]; omega
  have e2 : ((n : Int) * 8) = ((8 * n : Nat) : Int) := by omega
  rw [e, e2, Int.fdiv_eq_ediv_of_nonneg _ (Int.le_of_lt (Int.pow_pos (by omega))), w8, byteAt, UInt8.toNat_ofNat']
  have e3 : (2 : Int) ^ (8 * (7 - k)) = ((2 ^ (8 * (7 - k)) : Nat) : Int) := by rw [Int.natCast_pow]; rfl
  rw [e3, ← Int.natCast_ediv]
  exact (Int.natCast_emod _ 256).symm
end Go.Proofs.YtmeeeigfjlbnkaaGreat
