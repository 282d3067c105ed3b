/- Parts of a proof, one behind the other: EV2. -/
import Derived.Test.YtbiaaogbohfimaaGreatDoorW04
set_option maxRecDepth 20000
set_option maxHeartbeats 16000000
set_option linter.unusedVariables false
set_option linter.unusedSimpArgs false
namespace Go.Proofs.YtbiaaogbohfimaaGreatDoor
open Go.RowKit
section
abbrev Bs := List (Nat × Nat)
section
variable (n0 : Nat) (σ : Bs) (κ : Nat → Option Nat) (M : VM)
def okTo (d c : Nat) : Bool := match sigA n0 σ d with
 | some x => Nat.beq x c
 | none => false
mutual
def mkV : MV → Option (MV × Bs)
 | .ms c es off n => match κ c with
  | some d => bif okTo n0 σ d c then some (.ms d es off n, []) else none
  | none => match VM.get M c with
   | some b => bif b.row && Nat.beq b.es es && Nat.ble (off + n) b.l.length then some (.sl n (cutL b.l off (off + n)), [(c, b.l.length)]) else none
   | none => none
 | .ptr c es k fo path => match κ c with
  | some d => bif okTo n0 σ d c then some (.ptr d es k fo path, []) else none
  | none => match VM.get M c with
   | some b => match nthM b.l k with
    | some x => bif Nat.beq b.es es && x.idFree then some (.ep x fo path, [(c, b.l.length)]) else none
    | none => none
   | none => none
 | .mp c => match κ c with
  | some d => bif okTo n0 σ d c then some (.mp d, []) else none
  | none => none
 | .st l => bif MV.idFrees l then some (.st l, []) else match mkVs l with
  | some (r, b) => some (.st r, b)
  | none => none
 | .fn f l => bif MV.idFrees l then some (.fn f l, []) else match mkVs l with
  | some (r, b) => some (.fn f r, b)
  | none => none
 | .ifc t x => bif x.idFree then some (.ifc t x, []) else match mkV x with
  | some (y, b) => some (.ifc t y, b)
  | none => none
 | .tup _ => none
 | .mpv .. => none
 | .undef => none
 | m => some (m, [])
def mkVs : List MV → Option (List MV × Bs)
 | [] => some ([], [])
 | m :: l => match mkV m with
  | some (x, b) => match mkVs l with
   | some (r, c) => some (x :: r, b ++ c)
   | none => none
  | none => none
end
def mkC : Bs → Option (List (Nat × Nat × MB × List MV) × Bs)
 | [] => some ([], [])
 | (d, c) :: cs => match VM.get M c with
  | some b => match mkC cs with
   | some (r, bs) => bif okTo n0 σ d c then (bif b.row || isMpv b.l then some ((d, c, b, b.l) :: r, bs) else match mkVs n0 σ κ M b.l with
    | some (l, b2) => some ((d, c, b, l) :: r, b2 ++ bs)
    | none => none) else none
   | none => none
  | none => none
def mkB (up : Bool) (bs : Bs) : List (Nat × Nat × MB × List MV) → VM
 | [] => []
 | (d, c, b, l) :: r => (d, { b with l := l, pe := Nat.max b.pe (mxB bs c), row := b.row || (up && Nat.ble n0 d && !isMpv b.l && MV.idFrees l) }) :: mkB up bs r
def mkAll (up : Bool) (cs : Bs) (vs : List MV) : Option (List MV × VM × Bs) := match mkVs n0 σ κ M vs with
 | some (rv, b1) => match mkC n0 σ κ M cs with
  | some (r, b2) => some (rv, mkB n0 up (b1 ++ b2) r, b1 ++ b2)
  | none => none
 | none => none
end
section
variable {n0 n' : Nat} {σ : Bs} {κ : Nat → Option Nat} {M M' : VM} {bs : Bs}
def GoodB (M : VM) (bs : Bs) : Prop := ∀ c k, (c, k) ∈ bs → ∃ b, VM.get M c = some b ∧ k = b.l.length
theorem fzb_of : ∀ {bs : Bs}, GoodB M bs → ∀ {c k : Nat}, (c, k) ∈ bs → ∃ b, VM.get M c = some b ∧ fzb M bs c = some (b, b.l.length)
 | (x, j) :: l, hg, c, k, h => by
  obtain ⟨b, h1, h2⟩ := hg c k h
  refine ⟨b, h1, ?_⟩
  show (bif Nat.beq x c then (match VM.get M c with | some b => some (b, j) | none => none) else fzb M l c) = _
  cases hx : Nat.beq x c with
  | true =>
   have := Nat.eq_of_beq_eq_true hx
   subst this
   obtain ⟨b', h3, h4⟩ := hg x j (by simp)
   rw [h1] at h3
   injection h3 with h3
   subst h3
   simp only [cond_true, h1, h4]
  | false =>
   rcases List.mem_cons.1 h with e | h
   ·injection e with e1 e2
    subst e1
    rw [Nat.beq_refl] at hx; cases hx
   ·obtain ⟨b', h3, h4⟩ := fzb_of (bs := l) (fun c k h => hg c k (List.mem_cons_of_mem _ h)) h
    rw [h1] at h3
    injection h3 with h3
    subst h3
    exact h4
theorem okB_of : ∀ {bs : Bs}, GoodB M bs → okB M bs
 | [], _ => trivial
 | (c, k) :: l, h => by
  refine ⟨?_, okB_of fun c k hc => h c k (List.mem_cons_of_mem _ hc)⟩
  obtain ⟨b, h1, h2⟩ := h c k (by simp)
  rw [h1]
  exact Nat.le_of_eq h2
theorem okTo_out {d c : Nat} (h : okTo n0 σ d c = true) : sigA n0 σ d = some c := by
 unfold okTo at h
 split at h
 ·rename_i x hx
  rw [hx, Nat.eq_of_beq_eq_true h]
 ·cases h
theorem bif_some {α : Type} {p : Bool} {x : Option α} {y : α} (h : (bif p then x else none) = some y) : p = true ∧ x = some y := by cases p <;> first | exact ⟨rfl, h⟩ | cases h
mutual
theorem mkV_good : ∀ {v v' : MV} {b : Bs}, mkV n0 σ κ M v = some (v', b) → GoodB M b
 | .ms c es off n, v', b, h => by
  unfold mkV at h
  split at h
  ·obtain ⟨_, h⟩ := bif_some h
   injection h with h; injection h with h1 h2; subst h2; exact fun _ _ h => nomatch h
  ·split at h
   ·rename_i b0 hb
    obtain ⟨_, h⟩ := bif_some h
    injection h with h; injection h with h1 h2; subst h2
    intro c' k hc
    rw [List.mem_singleton] at hc
    injection hc with e1 e2
    subst e1
    exact ⟨b0, hb, e2⟩
   ·cases h
 | .ptr c es k fo path, v', b, h => by
  unfold mkV at h
  split at h
  ·obtain ⟨_, h⟩ := bif_some h
   injection h with h; injection h with h1 h2; subst h2; exact fun _ _ h => nomatch h
  ·split at h
   ·rename_i b0 hb
    split at h
    ·obtain ⟨_, h⟩ := bif_some h
     injection h with h; injection h with h1 h2; subst h2
     intro c' k hc
     rw [List.mem_singleton] at hc
     injection hc with e1 e2
     subst e1
     exact ⟨b0, hb, e2⟩
    ·cases h
   ·cases h
 | .mp c, v', b, h => by
  unfold mkV at h
  split at h
  ·obtain ⟨_, h⟩ := bif_some h
   injection h with h; injection h with h1 h2; subst h2; exact fun _ _ h => nomatch h
  ·cases h
 | .st l, v', b, h => by
  unfold mkV at h
  cases hf : MV.idFrees l with
  | true => rw [hf] at h; injection h with h; injection h with h1 h2; subst h2; exact fun _ _ h => nomatch h
  | false =>
   rw [hf] at h
   dsimp only [cond_false] at h
   split at h
   ·rename_i r b1 hr
    injection h with h; injection h with h1 h2; subst h2; exact mkVs_good hr
   ·cases h
 | .fn f l, v', b, h => by
  unfold mkV at h
  cases hf : MV.idFrees l with
  | true => rw [hf] at h; injection h with h; injection h with h1 h2; subst h2; exact fun _ _ h => nomatch h
  | false =>
   rw [hf] at h
   dsimp only [cond_false] at h
   split at h
   ·rename_i r b1 hr
    injection h with h; injection h with h1 h2; subst h2; exact mkVs_good hr
   ·cases h
 | .ifc t x, v', b, h => by
  unfold mkV at h
  cases hf : x.idFree with
  | true => rw [hf] at h; injection h with h; injection h with h1 h2; subst h2; exact fun _ _ h => nomatch h
  | false =>
   rw [hf] at h
   dsimp only [cond_false] at h
   split at h
   ·rename_i r b1 hr
    injection h with h; injection h with h1 h2; subst h2; exact mkV_good hr
   ·cases h
 | .tup _, v', b, h => by cases h
 | .mpv .., v', b, h => by cases h
 | .undef, v', b, h => by cases h
 | .int .., v', b, h => by injection h with h; injection h with h1 h2; subst h2; exact fun _ _ h => nomatch h
 | .bool .., v', b, h => by injection h with h; injection h with h1 h2; subst h2; exact fun _ _ h => nomatch h
 | .str .., v', b, h => by injection h with h; injection h with h1 h2; subst h2; exact fun _ _ h => nomatch h
 | .nilp, v', b, h => by injection h with h; injection h with h1 h2; subst h2; exact fun _ _ h => nomatch h
 | .gp .., v', b, h => by injection h with h; injection h with h1 h2; subst h2; exact fun _ _ h => nomatch h
 | .ep .., v', b, h => by injection h with h; injection h with h1 h2; subst h2; exact fun _ _ h => nomatch h
 | .sl .., v', b, h => by injection h with h; injection h with h1 h2; subst h2; exact fun _ _ h => nomatch h
 | .nils, v', b, h => by injection h with h; injection h with h1 h2; subst h2; exact fun _ _ h => nomatch h
 | .nilf, v', b, h => by injection h with h; injection h with h1 h2; subst h2; exact fun _ _ h => nomatch h
 | .nili, v', b, h => by injection h with h; injection h with h1 h2; subst h2; exact fun _ _ h => nomatch h
 | .arr .., v', b, h => by injection h with h; injection h with h1 h2; subst h2; exact fun _ _ h => nomatch h
theorem mkVs_good : ∀ {l r : List MV} {b : Bs}, mkVs n0 σ κ M l = some (r, b) → GoodB M b
 | [], r, b, h => by injection h with h; injection h with h1 h2; subst h2; exact fun _ _ h => nomatch h
 | m :: l, r, b, h => by
  unfold mkVs at h
  split at h
  ·rename_i x b1 hx
   split at h
   ·rename_i r1 b2 hr
    injection h with h; injection h with h1 h2; subst h2
    intro c k hc
    exact (List.mem_append.1 hc).elim (mkV_good hx c k) (mkVs_good hr c k)
   ·cases h
  ·cases h
end
mutual
theorem mkV_ok (hg : GoodB M bs) : ∀ {v v' : MV} {b : Bs}, mkV n0 σ κ M v = some (v', b) → (∀ x ∈ b, x ∈ bs) → relV (sigA n0 σ) (fzb M bs) v' v
 | .ms c es off n, v', b, h, hs => by
  unfold mkV at h
  split at h
  ·obtain ⟨h0, h⟩ := bif_some h
   injection h with h; injection h with h1 h2; subst h1
   exact .inr ⟨c, okTo_out h0, rfl⟩
  ·split at h
   ·rename_i b0 hb
    obtain ⟨h0, h⟩ := bif_some h
    injection h with h; injection h with h1 h2; subst h1; subst h2
    simp only [Bool.and_eq_true, Nat.ble_eq] at h0
    obtain ⟨⟨q1, q2⟩, q3⟩ := h0
    obtain ⟨b', e1, e2⟩ := fzb_of hg (hs (c, b0.l.length) (by simp))
    rw [hb] at e1
    injection e1 with e1
    subst e1
    refine .inr ?_
    show (match fzb M bs c with | some (b, k) => _ | none => False : Prop)
    rw [e2]
    exact ⟨q1, Nat.eq_of_beq_eq_true q2, rfl, q3, rfl⟩
   ·cases h
 | .ptr c es k fo path, v', b, h, hs => by
  unfold mkV at h
  split at h
  ·obtain ⟨h0, h⟩ := bif_some h
   injection h with h; injection h with h1 h2; subst h1
   exact ⟨c, okTo_out h0, rfl⟩
  ·split at h
   ·rename_i b0 hb
    split at h
    ·rename_i x hx
     obtain ⟨h0, h⟩ := bif_some h
     injection h with h; injection h with h1 h2; subst h1; subst h2
     simp only [Bool.and_eq_true] at h0
     obtain ⟨b', e1, e2⟩ := fzb_of hg (hs (c, b0.l.length) (by simp))
     rw [hb] at e1
     injection e1 with e1
     subst e1
     refine .inr ?_
     show (match fzb M bs c with | some (b, kk) => _ | none => False : Prop)
     rw [e2]
     have hk : k < b0.l.length := by rw [nthM_eq] at hx; exact (List.getElem?_eq_some_iff.1 hx).1
     exact ⟨Nat.eq_of_beq_eq_true h0.1, hk, rfl, rfl, hx, h0.2⟩
    ·cases h
   ·cases h
 | .mp c, v', b, h, hs => by
  unfold mkV at h
  split at h
  ·obtain ⟨h0, h⟩ := bif_some h
   injection h with h; injection h with h1 h2; subst h1
   exact ⟨c, okTo_out h0, rfl⟩
  ·cases h
 | .st l, v', b, h, hs => by
  unfold mkV at h
  cases hf : MV.idFrees l with
  | true => rw [hf] at h; injection h with h; injection h with h1 h2; subst h1; exact .inl ⟨rfl, hf⟩
  | false =>
   rw [hf] at h
   dsimp only [cond_false] at h
   split at h
   ·rename_i r b1 hr
    injection h with h; injection h with h1 h2; subst h1; subst h2; exact .inr ⟨l, rfl, mkVs_ok hg hr hs⟩
   ·cases h
 | .fn f l, v', b, h, hs => by
  unfold mkV at h
  cases hf : MV.idFrees l with
  | true => rw [hf] at h; injection h with h; injection h with h1 h2; subst h1; exact .inl ⟨rfl, hf⟩
  | false =>
   rw [hf] at h
   dsimp only [cond_false] at h
   split at h
   ·rename_i r b1 hr
    injection h with h; injection h with h1 h2; subst h1; subst h2; exact .inr ⟨l, rfl, mkVs_ok hg hr hs⟩
   ·cases h
 | .ifc t x, v', b, h, hs => by
  unfold mkV at h
  cases hf : x.idFree with
  | true => rw [hf] at h; injection h with h; injection h with h1 h2; subst h1; exact .inl ⟨rfl, hf⟩
  | false =>
   rw [hf] at h
   dsimp only [cond_false] at h
   split at h
   ·rename_i r b1 hr
    injection h with h; injection h with h1 h2; subst h1; subst h2; exact .inr ⟨x, rfl, mkV_ok hg hr hs⟩
   ·cases h
 | .tup _, v', b, h, hs => by cases h
 | .mpv .., v', b, h, hs => by cases h
 | .undef, v', b, h, hs => by cases h
 | .int .., v', b, h, hs => by injection h with h; injection h with h1 h2; subst h1; exact ⟨rfl, rfl⟩
 | .bool .., v', b, h, hs => by injection h with h; injection h with h1 h2; subst h1; exact ⟨rfl, rfl⟩
 | .str .., v', b, h, hs => by injection h with h; injection h with h1 h2; subst h1; exact ⟨rfl, rfl⟩
 | .nilp, v', b, h, hs => by injection h with h; injection h with h1 h2; subst h1; exact ⟨rfl, rfl⟩
 | .gp .., v', b, h, hs => by injection h with h; injection h with h1 h2; subst h1; exact ⟨rfl, rfl⟩
 | .ep .., v', b, h, hs => by injection h with h; injection h with h1 h2; subst h1; exact .inl rfl
 | .sl .., v', b, h, hs => by injection h with h; injection h with h1 h2; subst h1; exact .inl rfl
 | .nils, v', b, h, hs => by injection h with h; injection h with h1 h2; subst h1; exact ⟨rfl, rfl⟩
 | .nilf, v', b, h, hs => by injection h with h; injection h with h1 h2; subst h1; exact ⟨rfl, rfl⟩
 | .nili, v', b, h, hs => by injection h with h; injection h with h1 h2; subst h1; exact ⟨rfl, rfl⟩
 | .arr .., v', b, h, hs => by injection h with h; injection h with h1 h2; subst h1; exact ⟨rfl, rfl⟩
theorem mkVs_ok (hg : GoodB M bs) : ∀ {l r : List MV} {b : Bs}, mkVs n0 σ κ M l = some (r, b) → (∀ x ∈ b, x ∈ bs) → relV.relVs (sigA n0 σ) (fzb M bs) r l
 | [], r, b, h, hs => by injection h with h; injection h with h1 h2; subst h1; exact trivial
 | m :: l, r, b, h, hs => by
  unfold mkVs at h
  split at h
  ·rename_i x b1 hx
   split at h
   ·rename_i r1 b2 hr
    injection h with h; injection h with h1 h2; subst h1; subst h2
    exact ⟨mkV_ok hg hx fun y hy => hs y (List.mem_append_left _ hy), mkVs_ok hg hr fun y hy => hs y (List.mem_append_right _ hy)⟩
   ·cases h
  ·cases h
end
theorem mkC_ok {up : Bool} : ∀ {cs : Bs} {r : List (Nat × Nat × MB × List MV)} {b : Bs}, mkC n0 σ κ M cs = some (r, b) → GoodB M b ∧ ∀ {bs : Bs}, GoodB M bs → (∀ x ∈ b, x ∈ bs) → mM (sigA n0 σ) (fzb M bs) (mkB n0 up bs r) (VM.bump M bs)
 | [], r, b, h => by injection h with h; injection h with h1 h2; subst h1; subst h2; exact ⟨fun _ _ h => (nomatch h), fun _ _ => trivial⟩
 | (d, c) :: cs, r, b, h => by
  unfold mkC at h
  split at h
  ·rename_i b0 hb
   split at h
   ·rename_i r1 b1 hr
    obtain ⟨h0, h⟩ := bif_some h
    have hd := okTo_out h0
    obtain ⟨k1, k2⟩ := mkC_ok (up := up) hr
    have hrow : ∀ (l : List MV) (p : Nat), RowR { b0 with l := l, pe := p, row := b0.row || (up && Nat.ble n0 d && !isMpv b0.l && MV.idFrees l) } { b0 with pe := p } := fun l p => by
     cases hr0 : b0.row with
     | true => exact .inl (by simp [hr0])
     | false =>
      cases hu : (up && Nat.ble n0 d && !isMpv b0.l && MV.idFrees l) with
      | false => exact .inl (by simp [hr0, hu])
      | true =>
       simp only [Bool.and_eq_true] at hu
       exact .inr (.inr ⟨rfl, by simp [hu], hu.2⟩)
    have hgb : ∀ bs : Bs, VM.get (VM.bump M bs) c = some { b0 with pe := Nat.max b0.pe (mxB bs c) } := fun bs => by
     rw [VM.get_bump, bumpF_get, hb]; rfl
    cases hx : (b0.row || isMpv b0.l) with
    | true =>
     rw [hx] at h
     injection h with h; injection h with h1 h2; subst h1; subst h2
     refine ⟨k1, fun {bs} hg hs => ⟨.inr ⟨c, _, hd, hgb bs, rfl, rfl, hrow _ _, .inl rfl, .inl ⟨rfl, hx⟩⟩, k2 hg hs⟩⟩
    | false =>
     rw [hx] at h
     dsimp only [cond_false] at h
     split at h
     ·rename_i l2 b2 hl
      injection h with h; injection h with h1 h2; subst h1; subst h2
      refine ⟨fun c k hc => (List.mem_append.1 hc).elim (mkVs_good hl c k) (k1 c k), fun {bs} hg hs => ⟨.inr ⟨c, _, hd, hgb bs, rfl, rfl, hrow _ _, .inl rfl, .inr ?_⟩, k2 hg fun x hx => hs x (List.mem_append_right _ hx)⟩⟩
      exact mkVs_ok hg hl fun x hx => hs x (List.mem_append_left _ hx)
     ·cases h
   ·cases h
  ·cases h
theorem mkAll_ok {up : Bool} {cs : Bs} {vs rv : List MV} (h : mkAll n0 σ κ M up cs vs = some (rv, M', bs)) (h1 : okSg n0 n' σ = true) (h2 : M'.all (fun x => Nat.blt x.1 n') = true) : LMatch n0 rv M' n' vs M σ bs := by
 unfold mkAll at h
 split at h
 ·rename_i r1 b1 hr
  split at h
  ·rename_i r2 b2 hc
   injection h with h; injection h with e1 h; injection h with e2 e3
   subst e1; subst e2; subst e3
   obtain ⟨k1, k2⟩ := mkC_ok (up := up) hc
   have hg : GoodB M (b1 ++ b2) := fun c k hc => (List.mem_append.1 hc).elim (mkVs_good hr c k) (k1 c k)
   exact ⟨h1, okB_of hg, h2, mkVs_ok hg hr fun x hx => List.mem_append_left _ hx, k2 hg fun x hx => List.mem_append_right _ hx⟩
  ·cases h
 ·cases h
end
mutual
def msV : MV → List Nat
 | .ms c .. => [c]
 | .st l => bif MV.idFrees l then [] else msVs l
 | .fn _ l => bif MV.idFrees l then [] else msVs l
 | .ifc _ v => bif v.idFree then [] else msV v
 | _ => []
def msVs : List MV → List Nat
 | [] => []
 | m :: l => msV m ++ msVs l
end
def looseR (n : Nat) (M : VM) : List Nat → List Nat → List Nat
 | [], s => s
 | c :: t, s => bif Nat.blt c n || s.any (Nat.beq c) then looseR n M t s else match VM.get M c with
  | some b => bif b.row || isMpv b.l then looseR n M t s else looseR n M t (c :: s)
  | none => looseR n M t s
def oldL (n : Nat) : VM → List MV
 | [] => []
 | (c, b) :: M => bif Nat.blt c n && !(b.row || isMpv b.l) then b.l ++ oldL n M else oldL n M
def oldS (n : Nat) : VM → Bs
 | [] => []
 | (c, _) :: M => bif Nat.blt c n then (c, c) :: oldS n M else oldS n M
def numbS : Nat → List Nat → Bs
 | _, [] => []
 | n, c :: l => (n, c) :: numbS (n + 1) l
def rsig : Bs → Nat → Option Nat
 | [], _ => none
 | (d, c) :: l, x => bif Nat.beq c x then some d else rsig l x
def tight (n : Nat) (r : MV) (M : VM) (k : Option Nat) : Option (MV × VM × Nat) := match looseR n M (msVs (comps r) ++ msVs (oldL n M)) [] with
 | [] => some (r, M, n)
 | K => match numbS n (match k with | some c => bif K.any (Nat.beq c) then K else c :: K | none => K) with
  | σ => match mkAll n σ (fun c => bif Nat.blt c n then some c else rsig σ c) M true (oldS n M ++ σ) (comps r) with
   | some (rv, M2, _) => bif okSg n (n + σ.length) σ && M2.all (fun x => Nat.blt x.1 (n + σ.length)) && okCo r then some (tupM rv, M2, n + σ.length) else none
   | none => none
theorem tight_ok {Pg : Program} {G : GS} {f : FuncId} {args : List MV} {M0 M1 M2 : VM} {n n1 n2 : Nat} {r r2 : MV} {k : Option Nat} (h : SemR Pg G f args M0 n r M1 n1) (ht : tight n r M1 k = some (r2, M2, n2)) : ∃ n3, SemR Pg G f args M0 n r2 M2 n3 := by
 unfold tight at ht
 split at ht
 ·injection ht with ht; injection ht with e1 ht; injection ht with e2 e3
  subst e1; subst e2
  exact ⟨n1, h⟩
 ·dsimp only at ht
  generalize numbS n _ = σ at ht
  split at ht
  ·rename_i rv M3 bs hm
   obtain ⟨h0, hx⟩ := bif_some ht
   simp only [Bool.and_eq_true] at h0
   obtain ⟨⟨q1, q2⟩, q3⟩ := h0
   injection hx with hx; injection hx with e1 hx; injection hx with e2 e3
   subst e1; subst e2
   exact ⟨_, semR_match h (mkAll_ok hm q1 q2) q3⟩
  ·cases ht
end
end Go.Proofs.YtbiaaogbohfimaaGreatDoor
