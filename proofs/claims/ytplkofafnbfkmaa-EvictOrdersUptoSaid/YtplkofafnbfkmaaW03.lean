/- Parts of a proof, one behind the other: M29, M30, M20, M21, M22, M23, M32, M24, M25, M26, M27, M28, M31, M33. -/
import Derived.Test.YtplkofafnbfkmaaW02
/- Blocks under other numbers, and rows made fit, at a loop's head, at a call and at a return. -/
namespace Go.Proofs.Ytplkofafnbfkmaa
open Go.RowKit

def mxB : List (Nat × Nat) → Nat → Nat
  | [], _ => 0
  | (k, n) :: l, c => if k = c then Nat.max n (mxB l c) else mxB l c
theorem bumpF_get : ∀ {l : List (Nat × Nat)} {m : FM} {c : Nat}, bumpF m l c = (m c).map fun b => { b with pe := Nat.max b.pe (mxB l c) }
  | [], m, c => by
    show m c = _
    cases m c with
    | none => rfl
    | some b => simp [mxB]
  | (k, n) :: l, m, c => by
    show bumpF (match m k with | some b => fput m k { b with pe := Nat.max b.pe n } | none => m) l c = _
    rw [bumpF_get]
    by_cases hk : k = c
    · subst hk
      cases hb : m k with
      | none => simp [hb]
      | some b => simp [fput, mxB, Nat.max_assoc]
    · have hk' : c ≠ k := fun h => hk h.symm
      cases hb : m k with
      | none => simp [mxB, hk]
      | some b => simp [fput, mxB, hk, hk']
abbrev Fz := Nat → Option (MB × Nat)
/-- Which blocks are written no more, and how far. -/
def fzb (M : VM) : List (Nat × Nat) → Fz
  | [], _ => none
  | (x, k) :: l, c => bif Nat.beq x c then (match VM.get M c with | some b => some (b, k) | none => none) else fzb M l c
/-- A row that is written no more is a list. -/
def FzR (fz : Fz) (v : MV) (n : Nat) (l : List MV) : Prop := match v with
  | .ms c es off n' => match fz c with
    | some (b, k) => b.row = true ∧ b.es = es ∧ n' = n ∧ off + n ≤ k ∧ cutL b.l off (off + n) = l
    | none => False
  | .nils => n = 0 ∧ l = []
  | _ => False
def FzP (fz : Fz) (v : MV) (x : MV) (fo : Nat) (path : List Nat) : Prop := match v with
  | .ptr c es k fo' path' => match fz c with
    | some (b, kk) => b.es = es ∧ k < kk ∧ fo' = fo ∧ path' = path ∧ nthM b.l k = some x ∧ x.idFree = true
    | none => False
  | _ => False
/-- A value whose blocks bear other numbers. -/
def relV (σ : Nat → Option Nat) (fz : Fz) : MV → MV → Prop
  | .ms c es off n, v => (v = .nils ∧ off = 0 ∧ n = 0) ∨ ∃ c0, σ c = some c0 ∧ v = .ms c0 es off n
  | .ptr c es k fo path, v => ∃ c0, σ c = some c0 ∧ v = .ptr c0 es k fo path
  | .st l, v => (MV.st l = v ∧ MV.idFrees l = true) ∨ ∃ l0, v = .st l0 ∧ relVs σ fz l l0
  | .fn f l, v => (MV.fn f l = v ∧ MV.idFrees l = true) ∨ ∃ l0, v = .fn f l0 ∧ relVs σ fz l l0
  | .ifc t x, v => (MV.ifc t x = v ∧ x.idFree = true) ∨ ∃ y, v = .ifc t y ∧ relV σ fz x y
  | .sl n l, v => MV.sl n l = v ∨ FzR fz v n l
  | .ep x fo path, v => MV.ep x fo path = v ∨ FzP fz v x fo path
  | m, v => m = v ∧ m.idFree = true
where relVs (σ : Nat → Option Nat) (fz : Fz) : List MV → List MV → Prop
  | [], [] => True
  | m :: l, v :: r => relV σ fz m v ∧ relVs σ fz l r
  | _, _ => False
def sig : List (Nat × Nat) → Nat → Option Nat
  | [], _ => none
  | (a, b) :: l, c => bif Nat.beq a c then some b else sig l c
/-- The first n0 numbers stay. -/
def sigA (n0 : Nat) (σ : List (Nat × Nat)) (c : Nat) : Option Nat := bif Nat.blt c n0 then some c else sig σ c
def mE (σ : Nat → Option Nat) (fz : Fz) : VE → VE → Prop
  | [], _ => True
  | (t, v) :: E', E => (∃ u, VE.get E t = some u ∧ relV σ fz v u) ∧ mE σ fz E' E
def mB (σ : Nat → Option Nat) (fz : Fz) (M : VM) (c : Nat) (b' : MB) : Prop :=
  (b'.row = true ∧ b'.l = [] ∧ b'.pe = 0 ∧ σ c = none) ∨ ∃ c0 b, σ c = some c0 ∧ VM.get M c0 = some b ∧ b'.ty = b.ty ∧ b'.es = b.es ∧ b'.row = b.row ∧ (b'.pe = b.pe ∨ (b.pe ≤ b'.pe ∧ b'.pe ≤ b'.l.length)) ∧ (b'.l = b.l ∧ b'.row = true ∨ relV.relVs σ fz b'.l b.l)
def mM (σ : Nat → Option Nat) (fz : Fz) : VM → VM → Prop
  | [], _ => True
  | (c, b') :: M', M => mB σ fz M c b' ∧ mM σ fz M' M
def inj2 : List (Nat × Nat) → Bool
  | [] => true
  | (_, b) :: l => l.all (fun x => !Nat.beq x.2 b) && inj2 l
def okSg (n0 n' : Nat) (σ : List (Nat × Nat)) : Bool := Nat.ble n0 n' && inj2 σ && σ.all (fun x => Nat.blt x.1 n' && Nat.ble n0 x.1 && Nat.ble n0 x.2)
def okB (M : VM) : List (Nat × Nat) → Prop
  | [] => True
  | (c, k) :: l => (match VM.get M c with | some b => k ≤ b.l.length | none => False) ∧ okB M l
def VMatch (n0 : Nat) (E' : VE) (M' : VM) (n' : Nat) (E : VE) (M : VM) : Prop :=
  ∃ (σ bs : List (Nat × Nat)), okSg n0 n' σ = true ∧ okB M bs ∧ M'.all (fun x => Nat.blt x.1 n') = true ∧ mE (sigA n0 σ) (fzb M bs) E' E ∧ mM (sigA n0 σ) (fzb M bs) M' (VM.bump M bs)
/-- The same for lists of values. -/
def LMatch (n0 : Nat) (l' : List MV) (M' : VM) (n' : Nat) (l : List MV) (M : VM) (σ bs : List (Nat × Nat)) : Prop :=
  okSg n0 n' σ = true ∧ okB M bs ∧ M'.all (fun x => Nat.blt x.1 n') = true ∧ relV.relVs (sigA n0 σ) (fzb M bs) l' l ∧ mM (sigA n0 σ) (fzb M bs) M' (VM.bump M bs)

theorem relV_agg {σ : Nat → Option Nat} {fz : Fz} : ∀ {p v : MV}, relV σ fz p v → p.isAgg = v.isAgg
  | .ms c es off n, v, h => by rcases h with ⟨rfl, _⟩ | ⟨_, _, rfl⟩ <;> rfl
  | .ptr .., v, h => by obtain ⟨_, _, rfl⟩ := h; rfl
  | .st .., v, h => by rcases h with ⟨rfl, _⟩ | ⟨_, rfl, _⟩ <;> rfl
  | .fn .., v, h => by rcases h with ⟨rfl, _⟩ | ⟨_, rfl, _⟩ <;> rfl
  | .ifc .., v, h => by rcases h with ⟨rfl, _⟩ | ⟨_, rfl, _⟩ <;> rfl
  | .sl n l, v, h => by
    rcases h with rfl | h
    · rfl
    · unfold FzR at h; split at h <;> first | rfl | exact h.elim
  | .ep x fo path, v, h => by
    rcases h with rfl | h
    · rfl
    · unfold FzP at h; split at h <;> first | rfl | exact h.elim
  | .int .., v, h => by obtain ⟨rfl, _⟩ := h; rfl
  | .bool .., v, h => by obtain ⟨rfl, _⟩ := h; rfl
  | .str .., v, h => by obtain ⟨rfl, _⟩ := h; rfl
  | .nilp, v, h => by obtain ⟨rfl, _⟩ := h; rfl
  | .gp .., v, h => by obtain ⟨rfl, _⟩ := h; rfl
  | .nils, v, h => by obtain ⟨rfl, _⟩ := h; rfl
  | .nilf, v, h => by obtain ⟨rfl, _⟩ := h; rfl
  | .nili, v, h => by obtain ⟨rfl, _⟩ := h; rfl
  | .arr .., v, h => by obtain ⟨rfl, _⟩ := h; rfl
  | .tup .., v, h => by obtain ⟨rfl, _⟩ := h; rfl
  | .undef, v, h => by obtain ⟨rfl, _⟩ := h; rfl
section
variable {N : Nat} {w0 w w' : World} {ex0 : Anc} {P0 P : Prot} {adr : Adr} {E : VE} {M : VM} {m m0 : FM} {n : Nat} {a : Act} {u : Value} {fz : Fz}
/-- What is known of blocks that are written no more. -/
def FzOK (w : World) (P : Prot) (adr : Adr) (fz : Fz) : Prop := ∀ c b k, fz c = some (b, k) → ∀ g, adr c = some g →
  ∃ (cur : Array Value) (parts : List (List Value)), w.heap[g]? = some (.cells cur b.ty (0, 0)) ∧ parts.length = b.l.length ∧ (∀ p ∈ parts, p.length = b.es) ∧
    (∀ (j : Nat) x p, b.l[j]? = some x → parts[j]? = some p → Rep w P (if b.row then noAdr else adr) x p) ∧ parts.flatten <+: cur.toList ∧ (∀ o, o < k * b.es → P g o) ∧ k ≤ b.l.length
theorem bumpAll : ∀ (bs : List (Nat × Nat)) {m : FM} {P : Prot}, SameB m0 m → InvM w P adr m → (∀ c k, (c, k) ∈ bs → ∃ b, m0 c = some b ∧ k ≤ b.l.length) →
    ∃ P', InvM w P' adr (bumpF m bs) ∧ Keep w w P P' adr adr ∧ (∀ x o, P' x o → P x o ∨ ∃ c, adr c = some x) ∧ SameB m0 (bumpF m bs) ∧ ∀ c k, (c, k) ∈ bs → ∀ b, m0 c = some b → ∀ g, adr c = some g → ∀ o, o < k * b.es → P' g o
  | [], m, P, hs, hI, _ => ⟨P, hI, Keep.refl _ _ _, fun _ _ h => .inl h, hs, fun _ _ h => nomatch h⟩
  | (c, k) :: bs, m, P, hs, hI, hb => by
    obtain ⟨b, h1, h2⟩ := hb c k (by simp)
    obtain ⟨b', h3, e1, e2, e3, e4⟩ := hs c b h1
    obtain ⟨P1, a1, a2, a3, a4⟩ := hI.bump1 h3 (n := k) (by rw [e1]; exact h2)
    have e5 : bumpF m ((c, k) :: bs) = bumpF (fput m c { b' with pe := Nat.max b'.pe k }) bs := by
      show bumpF (match m c with | some b => fput m c { b with pe := Nat.max b.pe k } | none => m) bs = _
      rw [h3]
    have hs1 : SameB m0 (fput m c { b' with pe := Nat.max b'.pe k }) := by
      have := hs.bump c k
      rw [h3] at this
      exact this
    obtain ⟨P2, b1, b2, b3, b4, b5⟩ := bumpAll bs hs1 a1 fun c k h => hb c k (by simp [h])
    refine ⟨P2, ?_, a2.trans b2, fun x o hp => ?_, ?_, fun c' k' hm b2' hb2 g hg o ho => ?_⟩
    · rw [e5]; exact b1
    · rcases b3 x o hp with h | h
      · exact a3 x o h
      · exact .inr h
    · rw [e5]; exact b4
    · rcases List.mem_cons.1 hm with h | h
      · injection h with x1 x2
        subst x1; subst x2
        rw [h1] at hb2
        injection hb2 with hb2
        subst hb2
        exact b2.prot _ _ (a4 g hg o (by rw [e3]; exact ho))
      · exact b5 c' k' h b2' hb2 g hg o ho
theorem okB_mem : ∀ {bs : List (Nat × Nat)}, okB M bs → ∀ c k, (c, k) ∈ bs → ∃ b, VM.get M c = some b ∧ k ≤ b.l.length
  | (x, y) :: bs, h, c, k, hm => by
    rcases List.mem_cons.1 hm with e | hm
    · injection e with e1 e2
      subst e1; subst e2
      have h1 := h.1
      cases hb : VM.get M c with
      | none => rw [hb] at h1; exact h1.elim
      | some b => rw [hb] at h1; exact ⟨b, rfl, h1⟩
    · exact okB_mem h.2 c k hm
theorem fzb_mem : ∀ {bs : List (Nat × Nat)} {c : Nat} {b : MB} {k : Nat}, fzb M bs c = some (b, k) → (c, k) ∈ bs ∧ VM.get M c = some b
  | (x, y) :: bs, c, b, k, h => by
    have h' : (bif Nat.beq x c then (match VM.get M c with | some b => some (b, y) | none => none) else fzb M bs c) = some (b, k) := h
    by_cases e : x = c
    · subst e
      simp only [Nat.beq_refl, cond_true] at h'
      cases hb : VM.get M x with
      | none => rw [hb] at h'; cases h'
      | some b' => rw [hb] at h'; injection h' with h'; injection h' with h1 h2; subst h1; subst h2; exact ⟨by simp, rfl⟩
    · simp only [beq_ne e, cond_false] at h'
      obtain ⟨h1, h2⟩ := fzb_mem h'
      exact ⟨by simp [h1], h2⟩
/-- Behind what is written no more. -/
theorem InvM.frozen (hI : InvM w P adr (VM.get M)) {bs : List (Nat × Nat)} (h : okB M bs) :
    ∃ P', InvM w P' adr (VM.get (VM.bump M bs)) ∧ Keep w w P P' adr adr ∧ (∀ x o, P' x o → P x o ∨ ∃ c, adr c = some x) ∧ FzOK w P' adr (fzb M bs) := by
  obtain ⟨P', h1, h2, h3, h4, h5⟩ := bumpAll bs (SameB.refl _) hI (okB_mem h)
  refine ⟨P', by rw [VM.get_bump]; exact h1, h2, h3, fun c b k hc g hg => ?_⟩
  obtain ⟨q1, q2⟩ := fzb_mem hc
  obtain ⟨b0, q3, q4⟩ := okB_mem h c k q1
  rw [q2] at q3
  injection q3 with q3
  subst q3
  obtain ⟨b', r1, r2, r3, r4, r5⟩ := h4 c b q2
  rcases h1.blk c b' r1 with s | ⟨g', s1, s2⟩
  · rw [hg] at s; cases s.2.2.1
  · rw [hg] at s1
    injection s1 with s1
    subst s1
    obtain ⟨cur, parts, c1, c2, c3, c4, c5⟩ := s2.has
    exact ⟨cur, parts, by rw [← r5]; exact c1, by rw [← r2]; exact c2, by rw [← r4]; exact c3, by rw [← r2, ← r3]; exact c4, c5, h5 c k q1 b q2 g hg, q4⟩

def adrS (σ : Nat → Option Nat) (adr : Adr) : Adr := fun c => (σ c).bind adr
theorem fzR_rep (hf : FzOK w P adr fz) {v : MV} {k : Nat} {l : List MV} {cs : List Value} (h : FzR fz v k l) (hr : Rep w P adr v cs) {a2 : Adr} : Rep w P a2 (.sl k l) cs := by
  have nil : Rep w P a2 (.sl 0 []) [.slice none 0 0] := .sl none 0 0 [] rfl rfl (fun p hp => nomatch hp) (fun _ => ⟨rfl, rfl⟩) (Nat.le_refl _) (fun h => absurd rfl h) (fun j m p h => by simp at h)
  unfold FzR at h
  cases hr with
  | nils => obtain ⟨rfl, rfl⟩ := h; exact nil
  | ms0 =>
    rename_i c es
    simp only at h
    split at h
    · obtain ⟨_, _, rfl, _, rfl⟩ := h
      simpa [cutL] using nil
    · exact h.elim
  | ms g o cap hg ho hcap hcap2 hsz =>
    rename_i c es off n
    simp only at h
    split at h
    · rename_i b kk hb
      obtain ⟨hrow, hes, rfl, hk, rfl⟩ := h
      obtain ⟨cur, parts, c1, c2, c3, c4, c5, c6, c7⟩ := hf c b kk hb g hg
      rw [hrow] at c4
      have hcut : (cutL b.l off (off + n)).length = n := by unfold cutL; rw [List.length_take, List.length_drop]; omega
      have hpes : ∀ p ∈ parts, p.length = es := fun p hp => by rw [c3 p hp, hes]
      have hall : ∀ p ∈ (parts.drop off).take n, p.length = es := fun p hp => hpes p (List.mem_of_mem_drop (List.mem_of_mem_take hp))
      have hlen2 : ((parts.drop off).take n).length = n := by rw [List.length_take, List.length_drop]; omega
      refine .sl (some ⟨g, o, none⟩) cap es ((parts.drop off).take n) hcut hlen2 hall (fun h => nomatch h) hcap (fun hn0 => ⟨g, o, rfl, fun j u hj => ?_⟩) fun j x p hx hp => ?_
      · have ho := ho (.inl hn0)
        subst ho
        have hjl := (List.getElem?_eq_some_iff.1 hj).1
        rw [flatten_const hall, hlen2] at hjl
        refine ⟨?_, c6 _ ?_⟩
        · rw [cell_of_row w g _ cur b.ty (0, 0) c1]
          have := prefix_get c5 (flatten_take hpes off n hj (by omega))
          simpa using this
        · rw [hes]
          have := Nat.mul_le_mul_right es hk
          rw [Nat.add_mul] at this; omega
      · obtain ⟨hx, hj⟩ := cutL_get hx
        rw [List.getElem?_take] at hp
        split at hp
        · rw [List.getElem?_drop] at hp
          exact c4 _ x p hx hp
        · cases hp
    · exact h.elim
  | _ => exact h.elim
theorem fzP_rep (hf : FzOK w P adr fz) {v x : MV} {fo : Nat} {path : List Nat} {cs : List Value} (h : FzP fz v x fo path) (hr : Rep w P adr v cs) {a2 : Adr} : Rep w P a2 (.ep x fo path) cs := by
  unfold FzP at h
  cases hr with
  | ptr g hg =>
    rename_i c es k fo' path'
    simp only at h
    split at h
    · rename_i b kk hb
      obtain ⟨hes, hk, rfl, rfl, hx, hfr⟩ := h
      obtain ⟨cur, parts, c1, c2, c3, c4, c5, c6, c7⟩ := hf c b kk hb g hg
      have hpes : ∀ p ∈ parts, p.length = es := fun p hp => by rw [c3 p hp, hes]
      have hk2 : k < parts.length := by omega
      have hpk : parts[k]? = some parts[k] := by simp [hk2]
      have hrep := c4 k x parts[k] ((nthM_eq b.l k).symm.trans hx) hpk
      refine .ep g (k * es) parts[k] (fun j u hj => ?_) (hrep.free hfr)
      have hjl := (List.getElem?_eq_some_iff.1 hj).1
      rw [hpes _ (List.getElem_mem hk2)] at hjl
      refine ⟨?_, c6 _ ?_⟩
      · rw [cell_of_row w g _ cur b.ty (0, 0) c1]
        have := prefix_get c5 (flatten_take hpes k 1 (x := u) (by
          have : (parts.drop k).take 1 = [parts[k]] := by rw [List.drop_eq_getElem_cons hk2]; rfl
          rw [this]; simpa using hj) (by omega))
        simpa using this
      · rw [hes]
        have := Nat.mul_le_mul_right es (show k + 1 ≤ kk by omega)
        rw [Nat.add_mul] at this; omega
    · exact h.elim
  | _ => exact h.elim
mutual
theorem relV_rep {σ : Nat → Option Nat} (hf : FzOK w P adr fz) : ∀ {p v : MV} {cs : List Value}, relV σ fz p v → Rep w P adr v cs → Rep w P (adrS σ adr) p cs
  | .ms c es off n, v, cs, h, hr => by
    rcases h with ⟨rfl, rfl, rfl⟩ | ⟨c0, h1, rfl⟩
    · cases hr; exact .ms0
    · cases hr with
      | ms0 => exact .ms0
      | ms g o cap a1 a2 a3 a4 a5 => exact .ms g o cap (by simp [adrS, h1, a1]) a2 a3 a4 a5
  | .ptr c es k fo path, v, cs, h, hr => by
    obtain ⟨c0, h1, rfl⟩ := h
    cases hr with
    | ptr g a1 => exact .ptr g (by simp [adrS, h1, a1])
  | .st l, v, cs, h, hr => by
    rcases h with ⟨rfl, h2⟩ | ⟨l0, rfl, h2⟩
    · exact (hr.free h2).ofNone
    · cases hr with
      | st parts hp hr =>
        obtain ⟨h3, h4, _⟩ := relVs_rep hf h2 hp hr
        exact .st parts h3 h4
  | .fn f l, v, cs, h, hr => by
    rcases h with ⟨rfl, h2⟩ | ⟨l0, rfl, h2⟩
    · exact (hr.free h2).ofNone
    · cases hr with
      | fn parts hp hr =>
        obtain ⟨h3, h4, h5⟩ := relVs_rep hf h2 hp hr
        rw [← zip_same h5]
        exact .fn parts h3 h4
  | .ifc t x, v, cs, h, hr => by
    rcases h with ⟨rfl, h2⟩ | ⟨y, rfl, h2⟩
    · exact (hr.free h2).ofNone
    · cases hr with
      | ifc cs hr =>
        have h3 := relV_rep hf h2 hr
        have e : valM y cs = valM x cs := by unfold valM; rw [relV_agg h2]
        rw [e]
        exact .ifc cs h3
  | .sl n l, v, cs, h, hr => by
    rcases h with rfl | h
    · exact (hr.free rfl).ofNone
    · exact fzR_rep hf h hr
  | .ep x fo path, v, cs, h, hr => by
    rcases h with rfl | h
    · exact (hr.free rfl).ofNone
    · exact fzP_rep hf h hr
  | .int .., v, cs, h, hr => by obtain ⟨rfl, h2⟩ := h; exact (hr.free h2).ofNone
  | .bool .., v, cs, h, hr => by obtain ⟨rfl, h2⟩ := h; exact (hr.free h2).ofNone
  | .str .., v, cs, h, hr => by obtain ⟨rfl, h2⟩ := h; exact (hr.free h2).ofNone
  | .nilp, v, cs, h, hr => by obtain ⟨rfl, h2⟩ := h; exact (hr.free h2).ofNone
  | .gp .., v, cs, h, hr => by obtain ⟨rfl, h2⟩ := h; exact (hr.free h2).ofNone
  | .nils, v, cs, h, hr => by obtain ⟨rfl, h2⟩ := h; exact (hr.free h2).ofNone
  | .nilf, v, cs, h, hr => by obtain ⟨rfl, h2⟩ := h; exact (hr.free h2).ofNone
  | .nili, v, cs, h, hr => by obtain ⟨rfl, h2⟩ := h; exact (hr.free h2).ofNone
  | .arr .., v, cs, h, hr => by obtain ⟨rfl, h2⟩ := h; exact (hr.free h2).ofNone
  | .tup .., v, cs, h, hr => by obtain ⟨rfl, h2⟩ := h; exact (hr.free h2).ofNone
  | .undef, v, cs, h, hr => by obtain ⟨rfl, h2⟩ := h; exact (hr.free h2).ofNone
theorem relVs_rep {σ : Nat → Option Nat} (hf : FzOK w P adr fz) : ∀ {l l0 : List MV} {parts : List (List Value)}, relV.relVs σ fz l l0 → parts.length = l0.length → (∀ (j : Nat) m p, l0[j]? = some m → parts[j]? = some p → Rep w P adr m p) →
    parts.length = l.length ∧ (∀ (j : Nat) m p, l[j]? = some m → parts[j]? = some p → Rep w P (adrS σ adr) m p) ∧ l.map MV.isAgg = l0.map MV.isAgg
  | [], [], parts, _, hp, _ => ⟨hp, fun j m p h => by simp at h, rfl⟩
  | m :: l, v :: l0, [], h, hp, _ => by simp at hp
  | m :: l, v :: l0, q :: parts, h, hp, hr => by
    obtain ⟨h1, h2⟩ := h
    obtain ⟨h3, h4, h5⟩ := relVs_rep hf h2 (parts := parts) (by simpa using hp) fun j m p a b => hr (j + 1) m p a b
    refine ⟨by simp [h3], fun j x p hx hq => ?_, by simp [h5, relV_agg h1]⟩
    cases j with
    | zero => simp at hx hq; subst hx; subst hq; exact relV_rep hf h1 (hr 0 v q rfl rfl)
    | succ j => exact h4 j x p (by simpa using hx) (by simpa using hq)
  | [], _ :: _, _, h, _, _ => h.elim
  | _ :: _, [], _, h, _, _ => h.elim
end
theorem relV_val {σ : Nat → Option Nat} {p v : MV} (h : relV σ fz p v) : v.isVal = true ∧ p.isVal = true := by
  cases p with
  | ms => rcases h with ⟨rfl, _⟩ | ⟨_, _, rfl⟩ <;> exact ⟨rfl, rfl⟩
  | ptr => obtain ⟨_, _, rfl⟩ := h; exact ⟨rfl, rfl⟩
  | st => rcases h with ⟨rfl, _⟩ | ⟨_, rfl, _⟩ <;> exact ⟨rfl, rfl⟩
  | fn => rcases h with ⟨rfl, _⟩ | ⟨_, rfl, _⟩ <;> exact ⟨rfl, rfl⟩
  | ifc => rcases h with ⟨rfl, _⟩ | ⟨_, rfl, _⟩ <;> exact ⟨rfl, rfl⟩
  | sl =>
    rcases h with rfl | h
    · exact ⟨rfl, rfl⟩
    · unfold FzR at h; split at h <;> first | exact ⟨rfl, rfl⟩ | exact h.elim
  | ep =>
    rcases h with rfl | h
    · exact ⟨rfl, rfl⟩
    · unfold FzP at h; split at h <;> first | exact ⟨rfl, rfl⟩ | exact h.elim
  | _ => first | (obtain ⟨rfl, h2⟩ := h; exact ⟨rfl, rfl⟩) | (obtain ⟨_, h2⟩ := h; cases h2)
theorem relV_repV {σ : Nat → Option Nat} (hf : FzOK w P adr fz) {p v : MV} {u : Value} (h : relV σ fz p v) (hr : RepV w P adr v u) : RepV w P (adrS σ adr) p u := by
  cases hr with
  | val cs hr =>
    have e : valM v cs = valM p cs := by unfold valM; rw [relV_agg h]
    rw [e]
    exact .val cs (relV_rep hf h hr)
  | undef => cases (relV_val h).1
  | tup vs hl hr => cases (relV_val h).1
theorem relVs_repVs {σ : Nat → Option Nat} (hf : FzOK w P adr fz) : ∀ {l l0 : List MV} {vs : List Value}, relV.relVs σ fz l l0 → RepVs w P adr l0 vs → RepVs w P (adrS σ adr) l vs ∧ ∀ p ∈ l, p.isVal = true
  | [], [], _, _, .nil => ⟨.nil, fun _ h => nomatch h⟩
  | m :: l, v :: l0, _, h, .cons h1 h2 => by
    obtain ⟨h3, h4⟩ := relVs_repVs hf h.2 h2
    refine ⟨.cons (relV_repV hf h.1 h1) h3, fun p hp => ?_⟩
    rcases List.mem_cons.1 hp with rfl | hp
    · exact (relV_val h.1).2
    · exact h4 p hp
theorem sig_mem : ∀ {σ : List (Nat × Nat)} {c c0 : Nat}, sig σ c = some c0 → (c, c0) ∈ σ
  | (x, y) :: σ, c, c0, h => by
    have h' : (bif Nat.beq x c then some y else sig σ c) = some c0 := h
    by_cases e : x = c
    · subst e; simp at h'; subst h'; exact List.mem_cons_self
    · simp only [beq_ne e, cond_false] at h'
      exact List.mem_cons_of_mem _ (sig_mem h')
theorem sig_inj : ∀ {σ : List (Nat × Nat)}, inj2 σ = true → ∀ {c d c0 : Nat}, sig σ c = some c0 → sig σ d = some c0 → c = d
  | [], _, c, d, c0, h, _ => by cases h
  | (x, y) :: σ, hi, c, d, c0, h1, h2 => by
    have hi : (σ.all (fun z => !Nat.beq z.2 y) && inj2 σ) = true := hi
    rw [Bool.and_eq_true, List.all_eq_true] at hi
    have h1' : (bif Nat.beq x c then some y else sig σ c) = some c0 := h1
    have h2' : (bif Nat.beq x d then some y else sig σ d) = some c0 := h2
    have no : ∀ {e : Nat}, sig σ e = some y → False := by
      intro e he
      have := hi.1 _ (sig_mem he)
      simp at this
    by_cases e1 : x = c
    · subst e1
      simp at h1'
      subst h1'
      by_cases e2 : x = d
      · exact e2
      · simp only [beq_ne e2, cond_false] at h2'
        exact (no h2').elim
    · simp only [beq_ne e1, cond_false] at h1'
      by_cases e2 : x = d
      · subst e2
        simp at h2'
        subst h2'
        exact (no h1').elim
      · simp only [beq_ne e2, cond_false] at h2'
        exact sig_inj hi.2 h1' h2'
structure OkSg (n0 n' : Nat) (σ : List (Nat × Nat)) : Prop where
  le : n0 ≤ n'
  lt : ∀ {c d}, sigA n0 σ c = some d → c < n'
  inj : ∀ {c d e}, sigA n0 σ c = some e → sigA n0 σ d = some e → c = d
  same : ∀ {c}, c < n0 → sigA n0 σ c = some c
theorem okSg_out {n0 n' : Nat} {σ : List (Nat × Nat)} (h : okSg n0 n' σ = true) : OkSg n0 n' σ := by
  unfold okSg at h
  simp only [Bool.and_eq_true, List.all_eq_true, Nat.ble_eq, Nat.blt_eq] at h
  obtain ⟨⟨h1, h2⟩, h3⟩ := h
  have lo : ∀ {c d}, sigA n0 σ c = some d → (c < n0 ∧ d = c) ∨ (n0 ≤ c ∧ n0 ≤ d ∧ c < n' ∧ sig σ c = some d) := by
    intro c d h
    unfold sigA at h
    by_cases hc : c < n0
    · rw [show Nat.blt c n0 = true by simpa [Nat.blt_eq] using hc] at h
      injection h with h
      exact .inl ⟨hc, h.symm⟩
    · have hb : Nat.blt c n0 = false := by
        cases hb : Nat.blt c n0 with
        | false => rfl
        | true => exact absurd (by simpa [Nat.blt_eq] using hb) hc
      rw [hb] at h
      obtain ⟨⟨q1, q2⟩, q3⟩ := h3 _ (sig_mem h)
      exact .inr ⟨q2, q3, q1, h⟩
  refine ⟨h1, fun h => ?_, fun {c d e} ha hb => ?_, fun {c} hc => by unfold sigA; rw [show Nat.blt c n0 = true by simpa [Nat.blt_eq] using hc]; rfl⟩
  · rcases lo h with ⟨q1, _⟩ | ⟨_, _, q, _⟩ <;> omega
  · rcases lo ha with ⟨q1, q2⟩ | ⟨q1, q2, q3, q4⟩ <;> rcases lo hb with ⟨r1, r2⟩ | ⟨r1, r2, r3, r4⟩
    · omega
    · omega
    · omega
    · exact sig_inj h2 q4 r4
theorem mE_get {σ : Nat → Option Nat} : ∀ {E' E : VE}, mE σ fz E' E → ∀ {t : Nat} {v : MV}, VE.get E' t = some v → ∃ u, VE.get E t = some u ∧ relV σ fz v u
  | (s, x) :: E', E, h, t, v, hv => by
    rw [VE.get_cons] at hv
    split at hv
    · rename_i e; subst e; injection hv with hv; subst hv; exact h.1
    · exact mE_get h.2 hv
theorem mM_get {σ : Nat → Option Nat} : ∀ {M' M : VM}, mM σ fz M' M → ∀ {c : Nat} {b' : MB}, VM.get M' c = some b' → mB σ fz M c b'
  | (s, x) :: M', M, h, c, b', hv => by
    rw [VM.get_cons] at hv
    split at hv
    · rename_i e; subst e; injection hv with hv; subst hv; exact h.1
    · exact mM_get h.2 hv
theorem VM.get_mem : ∀ {M : VM} {c : Nat} {b : MB}, VM.get M c = some b → (c, b) ∈ M
  | (s, x) :: M, c, b, h => by
    rw [VM.get_cons] at h
    split at h
    · rename_i e; subst e; injection h with h; subst h; exact List.mem_cons_self
    · exact List.mem_cons_of_mem _ (VM.get_mem h)
/-- Memory under other numbers. -/
theorem InvM.matched {n0 n' : Nat} {σ : List (Nat × Nat)} {M' : VM} (hσ : OkSg n0 n' σ) (hf : FzOK w P adr fz) (hI : InvM w P adr (VM.get M)) (h5 : mM (sigA n0 σ) fz M' M) : InvM w P (adrS (sigA n0 σ) adr) (VM.get M') := by
  refine ⟨fun c b' hc => ?_, fun c d b b' g hc hd hg hg' => ?_, hI.prot⟩
  · rcases mM_get h5 hc with ⟨a1, a2, a3, a4⟩ | ⟨c0, b, a1, a2, a3, a4, a5, a6, a7⟩
    · exact .inl ⟨a1, a2, by simp [adrS, a4], a3⟩
    · rcases hI.blk c0 b a2 with b1 | ⟨g, b1, b2⟩
      · have hnil : b'.l = [] := by
          rcases a7 with ⟨a7, a8⟩ | a7
          · rw [a7, b1.2.1]
          · rw [b1.2.1] at a7
            cases hl : b'.l with
            | nil => rfl
            | cons x l => rw [hl] at a7; exact a7.elim
        refine .inl ⟨by rw [a5, b1.1], hnil, by simp [adrS, a1, b1.2.2.1], ?_⟩
        rcases a6 with a6 | ⟨_, a6⟩
        · rw [a6, b1.2.2.2]
        · rw [hnil] at a6; exact Nat.le_zero.1 a6
      · refine .inr ⟨g, by simp [adrS, a1, b1], ?_⟩
        obtain ⟨cur, parts, c1, c2, c3, c4, c5⟩ := b2.has
        have hl : parts.length = b'.l.length ∧ ∀ (j : Nat) x p, b'.l[j]? = some x → parts[j]? = some p → Rep w P (if b'.row then noAdr else adrS (sigA n0 σ) adr) x p := by
          rcases a7 with ⟨a7, a8⟩ | a7
          · rw [← a5, a8] at c4
            rw [a7, a8]
            exact ⟨c2, c4⟩
          · rw [← a5] at c4
            cases hrow : b'.row with
            | true =>
              rw [hrow] at c4
              have hf0 : FzOK w P noAdr fz := fun c b k _ g hg => nomatch hg
              obtain ⟨d1, d2, _⟩ := relVs_rep hf0 a7 c2 c4
              have e : adrS (sigA n0 σ) noAdr = noAdr := by
                funext c
                unfold adrS
                cases sigA n0 σ c <;> rfl
              rw [e] at d2
              exact ⟨d1, d2⟩
            | false =>
              rw [hrow] at c4
              obtain ⟨d1, d2, _⟩ := relVs_rep hf a7 c2 c4
              exact ⟨d1, d2⟩
        have hpe : b.pe ≤ b'.pe ∧ b'.pe ≤ b'.l.length := by
          have := b2.le
          rcases a6 with a6 | a6
          · rw [a6, ← hl.1, c2]; exact ⟨Nat.le_refl _, this⟩
          · exact a6
        exact ⟨⟨cur, parts, by rw [a3]; exact c1, hl.1, by rw [a4]; exact c3, hl.2, c5⟩, fun o ho => Nat.lt_of_lt_of_le (b2.pe o ho) (by rw [a4]; exact Nat.mul_le_mul_right _ hpe.1), hpe.2⟩
  · unfold adrS at hg hg'
    cases hc0 : sigA n0 σ c with
    | none => rw [hc0] at hg; cases hg
    | some c0 =>
      cases hd0 : sigA n0 σ d with
      | none => rw [hd0] at hg'; cases hg'
      | some d0 =>
        rw [hc0] at hg
        rw [hd0] at hg'
        have k1 : ∃ b, VM.get M c0 = some b := by
          rcases mM_get h5 hc with ⟨_, _, _, a4⟩ | ⟨c1, b, a1, a2, _⟩
          · rw [hc0] at a4; cases a4
          · rw [hc0] at a1; injection a1 with a1; subst a1; exact ⟨b, a2⟩
        have k2 : ∃ b, VM.get M d0 = some b := by
          rcases mM_get h5 hd with ⟨_, _, _, a4⟩ | ⟨c1, b, a1, a2, _⟩
          · rw [hd0] at a4; cases a4
          · rw [hd0] at a1; injection a1 with a1; subst a1; exact ⟨b, a2⟩
        obtain ⟨b1, k1⟩ := k1
        obtain ⟨b2, k2⟩ := k2
        have := hI.inj c0 d0 b1 b2 g k1 k2 hg hg'
        subst this
        exact hσ.inj hc0 hd0
theorem all_lt {M' : VM} {n' c : Nat} (h3 : M'.all (fun x => Nat.blt x.1 n') = true) (hc : n' ≤ c) : VM.get M' c = none := by
  rw [List.all_eq_true] at h3
  cases hx : VM.get M' c with
  | none => rfl
  | some b =>
    have := h3 _ (VM.get_mem hx)
    have : c < n' := by simpa [Nat.blt_eq] using this
    omega
theorem adrS_none {n0 n' c : Nat} {σ : List (Nat × Nat)} (hσ : OkSg n0 n' σ) (hc : n' ≤ c) : adrS (sigA n0 σ) adr c = none := by
  unfold adrS
  cases hx : sigA n0 σ c with
  | none => rfl
  | some d => have := hσ.lt hx; omega
theorem AdrOK.frozen {P' : Prot} (h : AdrOK w0 ex0 P0 w P adr) (k : Keep w w P P' adr adr) : AdrOK w0 ex0 P0 w P' adr := ⟨h.in_, h.old, h.keep.trans k⟩
theorem AdrOK.matched {n' : Nat} {σ : List (Nat × Nat)} (h : AdrOK w0 ex0 P0 w P adr) (hσ : OkSg ex0.n0 n' σ) : AdrOK w0 ex0 P0 w P (adrS (sigA ex0.n0 σ) adr) := by
  refine ⟨fun c g hc => ?_, fun c hc => ?_, ⟨h.keep.prot, h.keep.cell, fun c g hc => ?_, h.keep.size⟩⟩
  · unfold adrS at hc
    cases hc0 : sigA ex0.n0 σ c with
    | none => rw [hc0] at hc; cases hc
    | some c0 => rw [hc0] at hc; exact h.in_ c0 g hc
  · simp only [adrS, hσ.same hc, Option.bind_some]; exact h.old c hc
  · simp only [adrS, hσ.same (ex0.lt c g hc), Option.bind_some]; exact h.keep.num c g hc
theorem Sim.matched {E' : VE} {M' : VM} {n' : Nat} (hs : Sim N w0 ex0 P0 (VE.get E) (VM.get M) n a w) (h : VMatch ex0.n0 E' M' n' E M) : Sim N w0 ex0 P0 (VE.get E') (VM.get M') n' a w := by
  obtain ⟨σ, bs, h1, h2, h3, h4, h5⟩ := h
  obtain ⟨P, adr, hI, hE, ha1, ha2, ha3⟩ := hs.ex
  have hσ := okSg_out h1
  obtain ⟨P', i1, i2, i3, i4⟩ := hI.frozen h2
  refine ⟨⟨P', adrS (sigA ex0.n0 σ) adr, i1.matched hσ i4 h5, fun t v ht => ?_, fun c hc => adrS_none hσ hc, (ha2.frozen i2).matched hσ, fun b o ho => ?_⟩, fun c hc => all_lt h3 hc, hσ.le, hs.since, hs.defers, hs.size⟩
  · obtain ⟨v0, e1, e2⟩ := mE_get h4 ht
    obtain ⟨u, e3, e4⟩ := hE t v0 e1
    exact ⟨u, e3, relV_repV i4 e2 (e4.keep i2)⟩
  · rcases i3 b o ho with h | ⟨c, h⟩
    · exact ha3 b o h
    · rcases ha2.in_ c b h with h | h
      · exact .inr (.inl h)
      · exact .inr (.inr h)
end
end Go.Proofs.Ytplkofafnbfkmaa
/- Calls that are handed blocks, and that hand blocks out. -/
namespace Go.Proofs.Ytplkofafnbfkmaa
open Go.RowKit

/-- A call of something that has no body: the library does it at once. -/
def Prims (Pg : Program) (f : FuncId) (vals : Array Value) (w : World) (Q : Ending → World → Prop) : Prop :=
  ∃ v w', (callFunc f vals).run Pg w = .ok (.value v) w' ∧ Q (.returned v) w'
theorem Prims.mono {Pg : Program} {f : FuncId} {vals : Array Value} {w : World} {Q R : Ending → World → Prop} (h : Prims Pg f vals w Q) (hq : ∀ e w, Q e w → R e w) : Prims Pg f vals w R := by
  obtain ⟨v, w', h1, h2⟩ := h
  exact ⟨v, w', h1, hq _ _ h2⟩
/-- What a call comes to that is handed the blocks M0 (numbers below n0): a value, and the blocks behind it. -/
def SemW (C : Program → FuncId → Array Value → World → (Ending → World → Prop) → Prop) (Pg : Program) (G : GS) (f : FuncId) (args : List MV) (M0 : VM) (n0 : Nat) (res : MV) (M1 : VM) (n1 : Nat) : Prop :=
  ∀ (w : World) (P : Prot) (adr : Adr) (vals : List Value), G.ok w → InvM w P adr (VM.get M0) → (∀ c, n0 ≤ c → adr c = none) → (∀ c g, adr c = some g → ¬ G.L g) → RepVs w P adr args vals →
    C Pg f vals.toArray w fun e w' => ∃ v, e = .returned v ∧ ∃ P' adr', InvM w' P' adr' (VM.get M1) ∧ RepV w' P' adr' res v ∧ Keep w w' P P' adr adr' ∧ (∀ c, c < n0 → adr' c = adr c) ∧ (∀ c, n1 ≤ c → adr' c = none) ∧
      (∀ c g, adr' c = some g → w.heap.size ≤ g ∨ ∃ c0, adr c0 = some g) ∧ (∀ b o, P' b o → P b o ∨ w.heap.size ≤ b ∨ ∃ c0, adr c0 = some b) ∧ Since (fun g => ∃ c0, adr c0 = some g) w w'
def SemR (Pg : Program) (G : GS) (f : FuncId) (args : List MV) (M0 : VM) (n0 : Nat) (res : MV) (M1 : VM) (n1 : Nat) : Prop := SemW (fun P f a w Q => Calls P f a w Q) Pg G f args M0 n0 res M1 n1
/-- The same of something that has no body. -/
def SemP (Pg : Program) (G : GS) (f : FuncId) (args : List MV) (M0 : VM) (n0 : Nat) (res : MV) (M1 : VM) (n1 : Nat) : Prop := SemW Prims Pg G f args M0 n0 res M1 n1
mutual
def renV (ρ : Nat → Nat) : MV → MV
  | .ptr c es k fo path => .ptr (ρ c) es k fo path
  | .ms c es off n => .ms (ρ c) es off n
  | .st l => bif MV.idFrees l then .st l else .st (renVs ρ l)
  | .fn f l => bif MV.idFrees l then .fn f l else .fn f (renVs ρ l)
  | .tup l => .tup (renVs ρ l)
  | .ifc t v => bif MV.idFree v then .ifc t v else .ifc t (renV ρ v)
  | m => m
def renVs (ρ : Nat → Nat) : List MV → List MV
  | [] => []
  | m :: l => renV ρ m :: renVs ρ l
end
def renM (ρ : Nat → Nat) : VM → VM
  | [] => []
  | (c, b) :: M => (ρ c, { b with l := bif b.row then b.l else renVs ρ b.l }) :: renM ρ M
def delM : VM → List (Nat × Nat) → VM
  | M, [] => M
  | M, (_, c) :: σ => delM (VM.del M c) σ
/-- The numbers of a call's blocks, for its caller. -/
def rho (n : Nat) (σ : List (Nat × Nat)) (c : Nat) : Nat := match sig σ c with | some d => d | none => n + c
def allIn (M : VM) : List (Nat × Nat) → Bool
  | [] => true
  | (_, c) :: σ => (VM.get M c).isSome && allIn M σ
section
variable (Pg : Program) (T : Tab) (N : Nat) (ents : List FuncId) (G : GS)
def vArgs (E : VE) (f : Operand) (args : List Operand) : Ask (FuncId × List MV) :=
  rd (VE.get E) f fun fv => rds (VE.get E) args fun vs => match fv with
    | .fn f0 caps => .ret (f0, vs ++ caps)
    | _ => .bad
/-- A call: the contract, which of its blocks are which of the caller's (σ), which rows are written no more (bs). -/
def vCallR (S : Program → GS → FuncId → List MV → VM → Nat → MV → VM → Nat → Prop) (M : VM) (n : Nat) (f : FuncId) (vs : List MV) (K : MV → VM → Nat → Prop) : Prop :=
  ∃ (args : List MV) (M0 : VM) (n0 : Nat) (res : MV) (M1 : VM) (n1 : Nat), S Pg G f args M0 n0 res M1 n1 ∧
    ∃ (σ bs : List (Nat × Nat)), LMatch 0 args M0 n0 vs M σ bs ∧ allIn M σ = true ∧ M1.all (fun x => Nat.blt x.1 n1) = true ∧ K (renV (rho n σ) res) (renM (rho n σ) M1 ++ delM (VM.bump M bs) σ) (n + n1)
/-- The numbers of a call's blocks, where it makes none for its caller. -/
def rhoZ (σ : List (Nat × Nat)) (c : Nat) : Nat := match sig σ c with | some d => d | none => 0
def subN (l S : List Nat) : Bool := l.all fun c => S.any fun x => Nat.beq x c
/-- A call that hands no new block out; fp holds the numbers of what it looks at. -/
def vCallZ (M : VM) (f : FuncId) (vs : List MV) (fp : List Nat) (K : MV → VM → Prop) : Prop :=
  ∃ (args : List MV) (M0 : VM) (n0 : Nat) (res : MV) (M1 : VM), SemR Pg G f args M0 n0 res M1 n0 ∧
    ∃ (σ bs : List (Nat × Nat)), LMatch 0 args M0 n0 vs M σ bs ∧ allIn M σ = true ∧ M1.all (fun x => (sig σ x.1).isSome) = true ∧ subN (σ.map (·.2)) fp = true ∧ subN (bs.map (·.1)) fp = true ∧ K (renV (rhoZ σ) res) (renM (rhoZ σ) M1 ++ delM (VM.bump M bs) σ)
/-- A list that is compared with nil: how long it is, and whether 'not nil' is asked. -/
def nilQ (E : VE) (o : Oper) : Option (Nat × Bool) := match o.op with
  | .binOp op t x (.const (.slice none 0 0)) _ => match evM (VE.get E) x with
    | some (.sl n _) => match Tab.find T t with
      | some (.slice _ _) => match op with
        | .eql => some (n, false)
        | .neq => some (n, true)
        | _ => none
      | _ => none
    | _ => none
  | _ => none
def vRunP (o : Oper) (E : VE) (M : VM) (n : Nat) (K : MV → VM → Nat → Prop) : Prop := match o.op with
  | .call c => match c.callee with
    | .value f => (vRun Pg T ents G o E M n fun r M' => K r M' (n + 1)) ∨ (vArgs E f c.args.toList).runP fun x => match ents.contains x.1 with
      | true => vCallR Pg G SemR M n x.1 x.2 K
      | false => vCallR Pg G SemP M n x.1 x.2 K
    | _ => (eOp Pg T (VE.get E) (VM.get M) n o).runP fun x => K x.1 (x.2.app n M) (n + 1)
  | _ => (eOp Pg T (VE.get E) (VM.get M) n o).runP fun x => K x.1 (x.2.app n M) (n + 1)
def vRunN (o : Oper) (E : VE) (M : VM) (n : Nat) (K : MV → VM → Nat → Prop) : Prop := match nilQ T E o with
  | some (k, neg) => ∀ b : Bool, (b = true → k = 0) → K (.bool (match neg with | true => !b | false => b)) M (n + 1)
  | none => vRunP Pg T ents G o E M n K
def vOpN (ops : Array Oper) (o : Oper) (K : VK) (E : VE) (M : VM) (n : Nat) : Prop := match o.guard with
  | none => vRunN Pg T ents G o E M n fun r M n => vPut N o.dst r E fun E => K E M n
  | some (j, want) => match (ops[j]?).bind (·.dst) with
    | none => False
    | some s => match VE.get E s with
      | some (.bool t) =>
        (t = want → vRunN Pg T ents G o ((s, .bool want) :: E) M n fun r M n => vPut N o.dst r ((s, .bool want) :: E) fun E => K E M n) ∧
        (t = !want → vPut N o.dst .undef ((s, .bool (!want)) :: E) fun E => K E M (n + 1))
      | some .undef => vPut N o.dst .undef E fun E => K E M (n + 1)
      | _ => False
def vOpsN (ops : Array Oper) : List Oper → VK → VK
  | [], K => K
  | o :: rest, K => vOpN Pg T N ents G ops o (vOpsN ops rest K)
end
section
variable {Pg : Program} {T : Tab} {N : Nat} {ents : List FuncId} {G : GS} {w0 w w' : World} {ex0 : Anc} {P0 P P' : Prot} {adr adr' adr2 : Adr} {E : VE} {M : VM} {m : FM} {n : Nat} {a : Act} {r : MV} {u : Value} {δ : Dl} {ev : Nat → Option MV}
mutual
theorem renV_agg {ρ : Nat → Nat} : ∀ m : MV, (renV ρ m).isAgg = m.isAgg
  | .st l => by simp only [renV]; cases MV.idFrees l <;> rfl
  | .fn f l => by simp only [renV]; cases MV.idFrees l <;> rfl
  | .ifc t v => by simp only [renV]; cases MV.idFree v <;> rfl
  | .ptr .. => rfl
  | .ms .. => rfl
  | .tup .. => rfl
  | .int .. => rfl
  | .bool .. => rfl
  | .str .. => rfl
  | .nilp => rfl
  | .gp .. => rfl
  | .ep .. => rfl
  | .sl .. => rfl
  | .nils => rfl
  | .nilf => rfl
  | .nili => rfl
  | .arr .. => rfl
  | .undef => rfl
theorem renVs_agg {ρ : Nat → Nat} : ∀ l : List MV, (renVs ρ l).map MV.isAgg = l.map MV.isAgg
  | [] => rfl
  | m :: l => by simp only [renVs, List.map_cons, renV_agg m, renVs_agg l]
end
theorem renVs_get {ρ : Nat → Nat} : ∀ (l : List MV) (j : Nat), (renVs ρ l)[j]? = (l[j]?).map (renV ρ)
  | [], j => by simp [renVs]
  | m :: l, 0 => by simp [renVs]
  | m :: l, j + 1 => by simp [renVs, renVs_get l j]
theorem renVs_len {ρ : Nat → Nat} : ∀ (l : List MV), (renVs ρ l).length = l.length
  | [] => rfl
  | m :: l => by simp [renVs, renVs_len l]
theorem ren_rep {ρ : Nat → Nat} {m : MV} {cs : List Value} (h : Rep w P adr m cs) : (∀ c g, adr c = some g → adr2 (ρ c) = some g) → Rep w P adr2 (renV ρ m) cs := by
  induction h with
  | ptr g h => intro k; exact .ptr g (k _ _ h)
  | ms g o cap h ho hcap hcap2 hsz => intro k; exact .ms g o cap (k _ _ h) ho hcap hcap2 hsz
  | ms0 => intro _; exact .ms0
  | st parts hp hr ih =>
    rename_i adr l
    intro k
    simp only [renV]
    cases hf : MV.idFrees l with
    | true => exact ((Rep.st parts hp hr).free hf).ofNone
    | false =>
      refine .st parts (by rw [renVs_len]; exact hp) fun j x p hx hq => ?_
      rw [renVs_get] at hx
      cases hj : l[j]? with
      | none => rw [hj] at hx; cases hx
      | some y => rw [hj] at hx; injection hx with hx; subst hx; exact ih j y p hj hq k
  | fn parts hp hr ih =>
    rename_i adr f l
    intro k
    simp only [renV]
    cases hf : MV.idFrees l with
    | true => exact ((Rep.fn parts hp hr).free hf).ofNone
    | false =>
      show Rep w P adr2 (.fn f (renVs ρ l)) _
      rw [← zip_same (renVs_agg (ρ := ρ) l)]
      refine .fn parts (by rw [renVs_len]; exact hp) fun j x p hx hq => ?_
      rw [renVs_get] at hx
      cases hj : l[j]? with
      | none => rw [hj] at hx; cases hx
      | some y => rw [hj] at hx; injection hx with hx; subst hx; exact ih j y p hj hq k
  | ifc cs hr ih =>
    rename_i adr t v
    intro k
    simp only [renV]
    cases hf : MV.idFree v with
    | true => exact ((Rep.ifc cs hr).free hf).ofNone
    | false =>
      have e : valM v cs = valM (renV ρ v) cs := by unfold valM; rw [renV_agg]
      show Rep w P adr2 (.ifc t (renV ρ v)) _
      rw [e]
      exact .ifc cs (ih k)
  | int => intro _; exact .int
  | bool => intro _; exact .bool
  | str => intro _; exact .str
  | nilp => intro _; exact .nilp
  | gp => intro _; exact .gp
  | ep b o vs hc hr ih => intro _; exact .ep b o vs hc hr
  | sl A cap es parts hl hp hes hnn hcap hc hr ih => intro _; exact .sl A cap es parts hl hp hes hnn hcap hc hr
  | nils => intro _; exact .nils
  | nilf => intro _; exact .nilf
  | nili => intro _; exact .nili
  | arr parts hl hp hes hr ih => intro _; exact .arr parts hl hp hes hr
theorem ren_repV {ρ : Nat → Nat} {m : MV} {u : Value} (h : RepV w P adr m u) (k : ∀ c g, adr c = some g → adr2 (ρ c) = some g) : RepV w P adr2 (renV ρ m) u := by
  cases h with
  | val cs h =>
    have e : valM m cs = valM (renV ρ m) cs := by unfold valM; rw [renV_agg]
    rw [e]
    exact .val cs (ren_rep h k)
  | undef => exact .undef
  | tup vs hl h =>
    rename_i l
    refine .tup vs (by rw [renVs_len]; exact hl) fun j x u hx hu => ?_
    rw [renVs_get] at hx
    cases hj : l[j]? with
    | none => rw [hj] at hx; cases hx
    | some y =>
      rw [hj] at hx
      injection hx with hx
      subst hx
      obtain ⟨cs, h1, h2⟩ := h j y u hj hu
      have e : valM y cs = valM (renV ρ y) cs := by unfold valM; rw [renV_agg]
      exact ⟨cs, ren_rep h1 k, by rw [h2, e]⟩
theorem get_app : ∀ (A B : VM) (x : Nat), VM.get (A ++ B) x = match VM.get A x with | some b => some b | none => VM.get B x
  | [], B, x => rfl
  | (c, b) :: A, B, x => by
    show VM.get ((c, b) :: (A ++ B)) x = _
    rw [VM.get_cons, VM.get_cons, get_app A B x]
    split <;> rfl
theorem get_delM : ∀ (σ : List (Nat × Nat)) (M : VM) (x : Nat) (b : MB), VM.get (delM M σ) x = some b → VM.get M x = some b ∧ ∀ c, (c, x) ∉ σ
  | [], M, x, b, h => ⟨h, fun _ h => nomatch h⟩
  | (c, d) :: σ, M, x, b, h => by
    obtain ⟨h1, h2⟩ := get_delM σ (VM.del M d) x b h
    rw [VM.get_del] at h1
    obtain ⟨h3, h4⟩ := fdel_some h1
    refine ⟨h4, fun c' hc => ?_⟩
    rcases List.mem_cons.1 hc with e | hc
    · injection e with e1 e2; exact h3 e2
    · exact h2 c' hc
theorem get_renM {ρ : Nat → Nat} : ∀ (M1 : VM) (x : Nat) (b : MB), VM.get (renM ρ M1) x = some b → (∀ c d b b', VM.get M1 c = some b → VM.get M1 d = some b' → ρ c = ρ d → c = d) → ∃ c b0, x = ρ c ∧ VM.get M1 c = some b0 ∧ b = { b0 with l := bif b0.row then b0.l else renVs ρ b0.l }
  | [], x, b, h, _ => by cases h
  | (c, b0) :: M1, x, b, h, hi => by
    have h' : VM.get ((ρ c, { b0 with l := bif b0.row then b0.l else renVs ρ b0.l }) :: renM ρ M1) x = some b := h
    rw [VM.get_cons] at h'
    split at h'
    · rename_i e
      injection h' with h'
      exact ⟨c, b0, e.symm, by rw [VM.get_cons, if_pos rfl], h'.symm⟩
    · rename_i hne
      have hi2 : ∀ c d b b', VM.get M1 c = some b → VM.get M1 d = some b' → ρ c = ρ d → c = d := by
        intro c1 d1 b1 b1' h1 h2 h3
        have q : ∀ {z : Nat} {y : MB}, VM.get M1 z = some y → ∃ y, VM.get ((c, b0) :: M1) z = some y := by
          intro z y hz
          rw [VM.get_cons]
          split
          · exact ⟨_, rfl⟩
          · exact ⟨_, hz⟩
        obtain ⟨_, q1⟩ := q h1
        obtain ⟨_, q2⟩ := q h2
        exact hi c1 d1 _ _ q1 q2 h3
      obtain ⟨c1, b1, h1, h2, h3⟩ := get_renM M1 x b h' hi2
      refine ⟨c1, b1, h1, ?_, h3⟩
      rw [VM.get_cons, if_neg]
      · exact h2
      · rintro rfl; exact hne h1.symm
theorem allIn_mem : ∀ {σ : List (Nat × Nat)}, allIn M σ = true → ∀ c d, (c, d) ∈ σ → ∃ b, VM.get M d = some b
  | (x, y) :: σ, h, c, d, hm => by
    have h : ((VM.get M y).isSome && allIn M σ) = true := h
    rw [Bool.and_eq_true] at h
    rcases List.mem_cons.1 hm with e | hm
    · injection e with e1 e2
      subst e2
      exact Option.isSome_iff_exists.1 h.1
    · exact allIn_mem h.2 c d hm
theorem bump_get : ∀ {bs : List (Nat × Nat)} {x : Nat} {b : MB}, VM.get (VM.bump M bs) x = some b → ∃ b', VM.get M x = some b' := by
  intro bs x b h
  rw [VM.get_bump, bumpF_get] at h
  cases hx : VM.get M x with
  | none => rw [hx] at h; cases h
  | some b' => exact ⟨b', rfl⟩
theorem get_bump_some {bs : List (Nat × Nat)} {x : Nat} {b : MB} (h : VM.get M x = some b) : ∃ b', VM.get (VM.bump M bs) x = some b' := by
  rw [VM.get_bump, bumpF_get, h]
  exact ⟨_, rfl⟩
theorem inj2_of {n0 : Nat} {σ : List (Nat × Nat)} (h : okSg 0 n0 σ = true) : inj2 σ = true := by
  unfold okSg at h
  simp only [Bool.and_eq_true] at h
  exact h.1.2
theorem RepVs.kp {l : List MV} {vs : List Value} (h : RepVs w P adr l vs) (k : Keep w w' P P' adr adr') : RepVs w' P' adr' l vs := by
  induction h with
  | nil => exact .nil
  | cons h _ ih => exact .cons (h.keep k) ih
/-- Behind a call. -/
theorem vCallR_ok {C : Program → FuncId → Array Value → World → (Ending → World → Prop) → Prop} (hC : ∀ {Pg : Program} {f : FuncId} {vals : Array Value} {w : World} {Q R : Ending → World → Prop}, C Pg f vals w Q → (∀ e w, Q e w → R e w) → C Pg f vals w R) (hS : SeatM Pg T ents G w0 ex0) {f : FuncId} {vs : List MV} {vals : List Value} {K : MV → VM → Nat → Prop} (h : vCallR Pg G (SemW C) M n f vs K) (hsn : Since ex0.ex w0 w) (hfr : ∀ c, n ≤ c → VM.get M c = none) (hge : ex0.n0 ≤ n)
    (hI : InvM w P adr (VM.get M)) (hE : EnvR w P adr (VE.get E) a) (ha1 : ∀ c, n ≤ c → adr c = none) (ha2 : AdrOK w0 ex0 P0 w P adr) (ha3 : ∀ b o, P b o → P0 b o ∨ w0.heap.size ≤ b ∨ ex0.ex b) (hvs : RepVs w P adr vs vals) :
    C Pg f vals.toArray w fun e w' => ∃ v, e = .returned v ∧ ∃ r M' n', K r M' n' ∧ ∃ P' adr', InvM w' P' adr' (VM.get M') ∧ EnvR w' P' adr' (VE.get E) a ∧ RepV w' P' adr' r v ∧ (∀ c, n' ≤ c → adr' c = none) ∧ AdrOK w0 ex0 P0 w' P' adr' ∧ (∀ b o, P' b o → P0 b o ∨ w0.heap.size ≤ b ∨ ex0.ex b) ∧ (∀ c, n' ≤ c → VM.get M' c = none) ∧ ex0.n0 ≤ n' ∧ Since ex0.ex w0 w' := by
  obtain ⟨args, M0, n0, res, M1, n1, hsem, σ, bs, ⟨hok, hokb, hall, hrel, hmm⟩, hin, hall1, hK⟩ := h
  have hσ := okSg_out hok
  have hinj := inj2_of hok
  obtain ⟨Pb, i1, i2, i3, i4⟩ := hI.frozen hokb
  have hI0 := i1.matched hσ i4 hmm
  have hargs := (relVs_repVs i4 hrel (hvs.kp i2)).1
  have eσ : ∀ c, adrS (sigA 0 σ) adr c = (sig σ c).bind adr := fun c => rfl
  have dom : ∀ {c d}, sig σ c = some d → d < n := fun {c d} hc => by
    obtain ⟨b, hb⟩ := allIn_mem hin c d (sig_mem hc)
    rcases Nat.lt_or_ge d n with h | h
    · exact h
    · rw [hfr d h] at hb; cases hb
  have passed : ∀ {c g}, adrS (sigA 0 σ) adr c = some g → ∃ d, sig σ c = some d ∧ adr d = some g := fun {c g} hc => by
    rw [eσ] at hc
    cases hd : sig σ c with
    | none => rw [hd] at hc; cases hc
    | some d => rw [hd] at hc; exact ⟨d, rfl, hc⟩
  have hL : ∀ c g, adr c = some g → ¬ G.L g := fun c g hc hl => by
    rcases ha2.in_ c g hc with h | h
    · have := hS.lt g hl; omega
    · exact hS.out g h hl
  refine hC (hsem w Pb _ vals (hS.good w hsn) hI0 (fun c hc => adrS_none hσ hc) (fun c g hc => by obtain ⟨d, _, hd⟩ := passed hc; exact hL d g hd) hargs) ?_
  rintro e w' ⟨v, rfl, P', adr', j1, j2, j3, j4, j5, j6, j7, j8⟩
  refine ⟨v, rfl, _, _, _, hK, P', fun x => if x < n then adr x else adr' (x - n), ?_⟩
  have hold : ∀ {x}, x < n → (fun x => if x < n then adr x else adr' (x - n)) x = adr x := fun {x} hx => by simp [hx]
  have hnew : ∀ {c}, (fun x => if x < n then adr x else adr' (x - n)) (n + c) = adr' c := fun {c} => by
    have : ¬ n + c < n := by omega
    simp [this]
  have lt_of : ∀ {x g}, adr x = some g → x < n := fun {x g} hx => by
    rcases Nat.lt_or_ge x n with h | h
    · exact h
    · rw [ha1 x h] at hx; cases hx
  have hrho : ∀ c, (fun x => if x < n then adr x else adr' (x - n)) (rho n σ c) = adr' c := fun c => by
    unfold rho
    cases hd : sig σ c with
    | none => exact hnew
    | some d =>
      rw [hold (dom hd)]
      have hc : c < n0 := hσ.lt (c := c) (d := d) hd
      rw [j4 c hc, eσ, hd]; rfl
  have kb : Keep w w' Pb P' adr (fun x => if x < n then adr x else adr' (x - n)) := by
    refine ⟨j3.prot, j3.cell, fun c g hc => (hold (lt_of hc)).trans hc, fun c g cur ty hc hw => ?_⟩
    by_cases hp : ∃ c0, adrS (sigA 0 σ) adr c0 = some g
    · obtain ⟨c0, hc0⟩ := hp
      exact j3.size c0 g cur ty hc0 hw
    · exact ⟨cur, (j8.block g (Array.getElem?_eq_some_iff.1 hw).1 hp).trans hw, rfl⟩
  have k := i2.trans kb
  have hrinj : ∀ c d b b', VM.get M1 c = some b → VM.get M1 d = some b' → rho n σ c = rho n σ d → c = d := by
    intro c d b b' _ _ h
    unfold rho at h
    cases hc : sig σ c with
    | none =>
      cases hd : sig σ d with
      | none => rw [hc, hd] at h; simp only at h; omega
      | some y => rw [hc, hd] at h; simp only at h; have := dom hd; omega
    | some x =>
      cases hd : sig σ d with
      | none => rw [hc, hd] at h; simp only at h; have := dom hc; omega
      | some y => rw [hc, hd] at h; simp only at h; subst h; exact sig_inj hinj hc hd
  have hlast : ∀ {x b}, VM.get (renM (rho n σ) M1 ++ delM (VM.bump M bs) σ) x = some b → (∃ c b0, x = rho n σ c ∧ VM.get M1 c = some b0 ∧ b = { b0 with l := bif b0.row then b0.l else renVs (rho n σ) b0.l }) ∨ (VM.get (VM.bump M bs) x = some b ∧ x < n ∧ ∀ c, (c, x) ∉ σ) := by
    intro x b hx
    rw [get_app] at hx
    split at hx
    · rename_i b' hb'
      injection hx with hx
      subst hx
      exact .inl (get_renM M1 x b' hb' hrinj)
    · obtain ⟨h1, h2⟩ := get_delM σ _ x b hx
      obtain ⟨b', h3⟩ := bump_get h1
      refine .inr ⟨h1, ?_, h2⟩
      rcases Nat.lt_or_ge x n with h | h
      · exact h
      · rw [hfr x h] at h3; cases h3
  have fresh1 : ∀ {c b}, VM.get M1 c = some b → c < n1 := fun {c b} hc => by
    rcases Nat.lt_or_ge c n1 with h | h
    · exact h
    · rw [all_lt hall1 h] at hc; cases hc
  have notp : ∀ {x b g}, VM.get (VM.bump M bs) x = some b → (∀ c, (c, x) ∉ σ) → adr x = some g → ¬ ∃ c0, adrS (sigA 0 σ) adr c0 = some g := by
    rintro x b g hx hn hg ⟨c0, hc0⟩
    obtain ⟨d, h1, h2⟩ := passed hc0
    obtain ⟨b', hb'⟩ := allIn_mem hin c0 d (sig_mem h1)
    obtain ⟨b'', hb''⟩ := get_bump_some (bs := bs) hb'
    have := i1.inj x d b b'' g hx hb'' hg h2
    subst this
    exact hn c0 (sig_mem h1)
  refine ⟨⟨fun x b hx => ?_, fun x y bx by_ g hx hy hgx hgy => ?_, j1.prot⟩, fun t z ht => ?_, ren_repV j2 fun c g hc => (hrho c).trans hc, fun c hc => ?_, ⟨fun c g hc => ?_, fun c hc => (hold (by omega)).trans (ha2.old c hc), ha2.keep.trans k⟩, fun b o ho => ?_, fun c hc => ?_, by omega, ?_⟩
  · rcases hlast hx with ⟨c, b0, rfl, h1, rfl⟩ | ⟨h1, h2, h3⟩
    · rcases j1.blk c b0 h1 with q | ⟨g, q1, q2⟩
      · refine .inl ⟨q.1, ?_, (hrho c).trans q.2.2.1, q.2.2.2⟩
        simp [q.1, q.2.1]
      · refine .inr ⟨g, (hrho c).trans q1, ?_⟩
        obtain ⟨cur, parts, c1, c2, c3, c4, c5⟩ := q2.has
        have hlen : (bif b0.row then b0.l else renVs (rho n σ) b0.l).length = b0.l.length := by
          cases b0.row
          · exact renVs_len _
          · rfl
        refine ⟨⟨cur, parts, c1, by simp only [hlen]; exact c2, c3, fun j x p hx hp => ?_, c5⟩, q2.pe, by simp only [hlen]; exact q2.le⟩
        simp only at hx ⊢
        cases hrow : b0.row with
        | true => rw [hrow] at hx c4; exact c4 j x p hx hp
        | false =>
          rw [hrow] at hx c4
          simp only [cond_false, renVs_get] at hx
          cases hj : b0.l[j]? with
          | none => rw [hj] at hx; cases hx
          | some y =>
            rw [hj] at hx
            injection hx with hx
            subst hx
            exact ren_rep (c4 j y p hj hp) fun c g hc => (hrho c).trans hc
    · rcases i1.blk x b h1 with q | ⟨g, q1, q2⟩
      · exact .inl ⟨q.1, q.2.1, (hold h2).trans q.2.2.1, q.2.2.2⟩
      · have hnp := notp h1 h3 q1
        refine .inr ⟨g, (hold h2).trans q1, q2.keep kb (j8.block g q2.lt hnp) fun o ho => ?_⟩
        rcases j7 g o ho with h | h | h
        · exact h
        · exact absurd q2.lt (by omega)
        · exact absurd h hnp
  · have cross : ∀ {c x b0 b1}, VM.get M1 c = some b0 → VM.get (VM.bump M bs) x = some b1 → x < n → (∀ c, (c, x) ∉ σ) → adr' c = some g → adr x = some g → False := by
      intro c x b0 b1 _ h1 h2 h3 h4 h5
      rcases j6 c g h4 with h | h
      · rcases i1.blk x b1 h1 with q | ⟨g', q1, q2⟩
        · rw [h5] at q; cases q.2.2.1
        · rw [h5] at q1; injection q1 with q1; subst q1; have := q2.lt; omega
      · exact notp h1 h3 h5 h
    rcases hlast hx with ⟨c, b0, rfl, h1, rfl⟩ | ⟨h1, h2, h3⟩ <;> rcases hlast hy with ⟨d, d0, rfl, k1, rfl⟩ | ⟨k1, k2, k3⟩
    · rw [j1.inj c d b0 d0 g h1 k1 ((hrho c).symm.trans hgx) ((hrho d).symm.trans hgy)]
    · exact (cross h1 k1 k2 k3 ((hrho c).symm.trans hgx) ((hold k2).symm.trans hgy)).elim
    · exact (cross k1 h1 h2 h3 ((hrho d).symm.trans hgy) ((hold h2).symm.trans hgx)).elim
    · exact i1.inj x y bx by_ g h1 k1 ((hold h2).symm.trans hgx) ((hold k2).symm.trans hgy)
  · obtain ⟨u, h1, h2⟩ := hE t z ht
    exact ⟨u, h1, h2.keep k⟩
  · have h1 : ¬ c < n := by omega
    simp only [h1, if_false]
    exact j5 _ (by omega)
  · by_cases h1 : c < n
    · simp only [h1, if_true] at hc; exact ha2.in_ c g hc
    · simp only [h1, if_false] at hc
      rcases j6 _ g hc with h | ⟨c0, h⟩
      · exact .inl (Nat.le_trans hsn.size h)
      · obtain ⟨d, _, hd⟩ := passed h; exact ha2.in_ d g hd
  · rcases j7 b o ho with h | h | ⟨c0, h⟩
    · rcases i3 b o h with h | ⟨c, h⟩
      · exact ha3 b o h
      · rcases ha2.in_ c b h with h | h
        · exact .inr (.inl h)
        · exact .inr (.inr h)
    · exact .inr (.inl (Nat.le_trans hsn.size h))
    · obtain ⟨d, _, hd⟩ := passed h
      rcases ha2.in_ d b hd with h | h
      · exact .inr (.inl h)
      · exact .inr (.inr h)
  · cases hx : VM.get (renM (rho n σ) M1 ++ delM (VM.bump M bs) σ) c with
    | none => rfl
    | some b =>
      exfalso
      rcases hlast hx with ⟨d, b0, rfl, h1, _⟩ | ⟨_, h2, _⟩
      · have h3 := fresh1 h1
        unfold rho at hc
        cases hd : sig σ d with
        | none => rw [hd] at hc; simp only at hc; omega
        | some y => rw [hd] at hc; simp only at hc; have := dom hd; omega
      · omega
  · refine ⟨j8.os.trans hsn.os, j8.tape.trans hsn.tape, j8.output.trans hsn.output, Nat.le_trans hsn.size j8.size, fun b hb hne => (j8.block b (Nat.lt_of_lt_of_le hb hsn.size) fun ⟨c0, hc0⟩ => ?_).trans (hsn.block b hb hne)⟩
    obtain ⟨d, _, hd⟩ := passed hc0
    rcases ha2.in_ d b hd with h | h
    · omega
    · exact hne h
/-- The same where no new block comes out. -/
theorem vCallZ_ok (hS : SeatM Pg T ents G w0 ex0) {f : FuncId} {vs : List MV} {vals : List Value} {fp : List Nat} {K : MV → VM → Prop} (h : vCallZ Pg G M f vs fp K) (hsn : Since ex0.ex w0 w) 
    (hI : InvM w P adr (VM.get M)) (hE : EnvR w P adr ev a) (ha2 : AdrOK w0 ex0 P0 w P adr) (ha3 : ∀ b o, P b o → P0 b o ∨ w0.heap.size ≤ b ∨ ex0.ex b) (hvs : RepVs w P adr vs vals) :
    Calls Pg f vals.toArray w fun e w' => ∃ v, e = .returned v ∧ ∃ r M', K r M' ∧ ∃ P', InvM w' P' adr (VM.get M') ∧ EnvR w' P' adr ev a ∧ RepV w' P' adr r v ∧ AdrOK w0 ex0 P0 w' P' adr ∧ (∀ b o, P' b o → P0 b o ∨ w0.heap.size ≤ b ∨ ex0.ex b) ∧ (∀ c, VM.get M c = none → VM.get M' c = none) ∧ Since ex0.ex w0 w' := by
  obtain ⟨args, M0, n0, res, M1, hsem, σ, bs, ⟨hok, hokb, hall, hrel, hmm⟩, hin, hall1, _, _, hK⟩ := h
  have hσ := okSg_out hok
  have hinj := inj2_of hok
  obtain ⟨Pb, i1, i2, i3, i4⟩ := hI.frozen hokb
  have hI0 := i1.matched hσ i4 hmm
  have hargs := (relVs_repVs i4 hrel (hvs.kp i2)).1
  have eσ : ∀ c, adrS (sigA 0 σ) adr c = (sig σ c).bind adr := fun c => rfl
  have passed : ∀ {c g}, adrS (sigA 0 σ) adr c = some g → ∃ d, sig σ c = some d ∧ adr d = some g := fun {c g} hc => by
    rw [eσ] at hc
    cases hd : sig σ c with
    | none => rw [hd] at hc; cases hc
    | some d => rw [hd] at hc; exact ⟨d, rfl, hc⟩
  have hL : ∀ c g, adr c = some g → ¬ G.L g := fun c g hc hl => by
    rcases ha2.in_ c g hc with h | h
    · have := hS.lt g hl; omega
    · exact hS.out g h hl
  refine (hsem w Pb _ vals (hS.good w hsn) hI0 (fun c hc => adrS_none hσ hc) (fun c g hc => by obtain ⟨d, _, hd⟩ := passed hc; exact hL d g hd) hargs).mono ?_
  rintro e w' ⟨v, rfl, P', adr', j1, j2, j3, j4, j5, j6, j7, j8⟩
  refine ⟨v, rfl, _, _, hK, P', ?_⟩
  have hrho : ∀ c g, adr' c = some g → adr (rhoZ σ c) = some g := fun c g hc => by
    have hlt : c < n0 := by
      rcases Nat.lt_or_ge c n0 with h | h
      · exact h
      · rw [j5 c h] at hc; cases hc
    rw [j4 c hlt] at hc
    obtain ⟨d, h1, h2⟩ := passed hc
    unfold rhoZ
    rw [h1]; exact h2
  have hsome : ∀ {c b}, VM.get M1 c = some b → ∃ d, sig σ c = some d := fun {c b} hc => by
    rw [List.all_eq_true] at hall1
    exact Option.isSome_iff_exists.1 (hall1 _ (VM.get_mem hc))
  have kb : Keep w w' Pb P' adr adr := by
    refine ⟨j3.prot, j3.cell, fun c g hc => hc, fun c g cur ty hc hw => ?_⟩
    by_cases hp : ∃ c0, adrS (sigA 0 σ) adr c0 = some g
    · obtain ⟨c0, hc0⟩ := hp
      exact j3.size c0 g cur ty hc0 hw
    · exact ⟨cur, (j8.block g (Array.getElem?_eq_some_iff.1 hw).1 hp).trans hw, rfl⟩
  have k := i2.trans kb
  have hrinj : ∀ c d b b', VM.get M1 c = some b → VM.get M1 d = some b' → rhoZ σ c = rhoZ σ d → c = d := by
    intro c d b b' hc hd h
    obtain ⟨x, hx⟩ := hsome hc
    obtain ⟨y, hy⟩ := hsome hd
    unfold rhoZ at h
    rw [hx, hy] at h
    simp only at h
    subst h
    exact sig_inj hinj hx hy
  have hlast : ∀ {x b}, VM.get (renM (rhoZ σ) M1 ++ delM (VM.bump M bs) σ) x = some b → (∃ c b0, x = rhoZ σ c ∧ VM.get M1 c = some b0 ∧ b = { b0 with l := bif b0.row then b0.l else renVs (rhoZ σ) b0.l }) ∨ (VM.get (VM.bump M bs) x = some b ∧ ∀ c, (c, x) ∉ σ) := by
    intro x b hx
    rw [get_app] at hx
    split at hx
    · rename_i b' hb'
      injection hx with hx
      subst hx
      exact .inl (get_renM M1 x b' hb' hrinj)
    · exact .inr (get_delM σ _ x b hx)
  have notp : ∀ {x b g}, VM.get (VM.bump M bs) x = some b → (∀ c, (c, x) ∉ σ) → adr x = some g → ¬ ∃ c0, adrS (sigA 0 σ) adr c0 = some g := by
    rintro x b g hx hn hg ⟨c0, hc0⟩
    obtain ⟨d, h1, h2⟩ := passed hc0
    obtain ⟨b', hb'⟩ := allIn_mem hin c0 d (sig_mem h1)
    obtain ⟨b'', hb''⟩ := get_bump_some (bs := bs) hb'
    have := i1.inj x d b b'' g hx hb'' hg h2
    subst this
    exact hn c0 (sig_mem h1)
  refine ⟨⟨fun x b hx => ?_, fun x y bx by_ g hx hy hgx hgy => ?_, j1.prot⟩, fun t z ht => ?_, ren_repV j2 hrho, ⟨ha2.in_, ha2.old, ha2.keep.trans k⟩, fun b o ho => ?_, fun c hc => ?_, ?_⟩
  · rcases hlast hx with ⟨c, b0, rfl, h1, rfl⟩ | ⟨h1, h3⟩
    · rcases j1.blk c b0 h1 with q | ⟨g, q1, q2⟩
      · obtain ⟨d, hd⟩ := hsome h1
        refine .inl ⟨q.1, ?_, ?_, q.2.2.2⟩
        · simp [q.1, q.2.1]
        · have hc : c < n0 := hσ.lt (c := c) (d := d) hd
          have := q.2.2.1
          rw [j4 c hc, eσ, hd] at this
          unfold rhoZ
          rw [hd]; exact this
      · refine .inr ⟨g, hrho c g q1, ?_⟩
        obtain ⟨cur, parts, c1, c2, c3, c4, c5⟩ := q2.has
        have hlen : (bif b0.row then b0.l else renVs (rhoZ σ) b0.l).length = b0.l.length := by
          cases b0.row
          · exact renVs_len _
          · rfl
        refine ⟨⟨cur, parts, c1, by simp only [hlen]; exact c2, c3, fun j x p hx hp => ?_, c5⟩, q2.pe, by simp only [hlen]; exact q2.le⟩
        simp only at hx ⊢
        cases hrow : b0.row with
        | true => rw [hrow] at hx c4; exact c4 j x p hx hp
        | false =>
          rw [hrow] at hx c4
          simp only [cond_false, renVs_get] at hx
          cases hj : b0.l[j]? with
          | none => rw [hj] at hx; cases hx
          | some y =>
            rw [hj] at hx
            injection hx with hx
            subst hx
            exact ren_rep (c4 j y p hj hp) hrho
    · rcases i1.blk x b h1 with q | ⟨g, q1, q2⟩
      · exact .inl q
      · have hnp := notp h1 h3 q1
        refine .inr ⟨g, q1, q2.keep kb (j8.block g q2.lt hnp) fun o ho => ?_⟩
        rcases j7 g o ho with h | h | h
        · exact h
        · exact absurd q2.lt (by omega)
        · exact absurd h hnp
  · have back : ∀ {c b0}, VM.get M1 c = some b0 → adr (rhoZ σ c) = some g → adr' c = some g := by
      intro c b0 h1 h2
      obtain ⟨d, hd⟩ := hsome h1
      have hc : c < n0 := hσ.lt (c := c) (d := d) hd
      unfold rhoZ at h2
      rw [hd] at h2
      rw [j4 c hc, eσ, hd]; exact h2
    have cross : ∀ {c x b0 b1}, VM.get M1 c = some b0 → VM.get (VM.bump M bs) x = some b1 → (∀ c, (c, x) ∉ σ) → adr (rhoZ σ c) = some g → adr x = some g → False := by
      intro c x b0 b1 h0 h1 h3 h4 h5
      obtain ⟨d, hd⟩ := hsome h0
      refine notp h1 h3 h5 ⟨c, ?_⟩
      unfold rhoZ at h4
      rw [hd] at h4
      rw [eσ, hd]; exact h4
    rcases hlast hx with ⟨c, b0, rfl, h1, rfl⟩ | ⟨h1, h3⟩ <;> rcases hlast hy with ⟨d, d0, rfl, k1, rfl⟩ | ⟨k1, k3⟩
    · rw [j1.inj c d b0 d0 g h1 k1 (back h1 hgx) (back k1 hgy)]
    · exact (cross h1 k1 k3 hgx hgy).elim
    · exact (cross k1 h1 h3 hgy hgx).elim
    · exact i1.inj x y bx by_ g h1 k1 hgx hgy
  · obtain ⟨u, h1, h2⟩ := hE t z ht
    exact ⟨u, h1, h2.keep k⟩
  · rcases j7 b o ho with h | h | ⟨c0, h⟩
    · rcases i3 b o h with h | ⟨c, h⟩
      · exact ha3 b o h
      · rcases ha2.in_ c b h with h | h
        · exact .inr (.inl h)
        · exact .inr (.inr h)
    · exact .inr (.inl (Nat.le_trans hsn.size h))
    · obtain ⟨d, _, hd⟩ := passed h
      rcases ha2.in_ d b hd with h | h
      · exact .inr (.inl h)
      · exact .inr (.inr h)
  · cases hx : VM.get (renM (rhoZ σ) M1 ++ delM (VM.bump M bs) σ) c with
    | none => rfl
    | some b =>
      exfalso
      rcases hlast hx with ⟨d, b0, rfl, h1, _⟩ | ⟨h2, _⟩
      · obtain ⟨y, hy⟩ := hsome h1
        unfold rhoZ at hc
        rw [hy] at hc
        obtain ⟨b', hb'⟩ := allIn_mem hin d y (sig_mem hy)
        rw [hb'] at hc; cases hc
      · obtain ⟨b', h3⟩ := bump_get h2
        rw [hc] at h3; cases h3
  · refine ⟨j8.os.trans hsn.os, j8.tape.trans hsn.tape, j8.output.trans hsn.output, Nat.le_trans hsn.size j8.size, fun b hb hne => (j8.block b (Nat.lt_of_lt_of_le hb hsn.size) fun ⟨c0, hc0⟩ => ?_).trans (hsn.block b hb hne)⟩
    obtain ⟨d, _, hd⟩ := passed hc0
    rcases ha2.in_ d b hd with h | h
    · omega
    · exact hne h
end
end Go.Proofs.Ytplkofafnbfkmaa
/- What an operation makes of trees is one outcome, and hangs on what it looks at alone. -/
namespace Go.Proofs.Ytplkofafnbfkmaa
open Go.RowKit

/-- A computation that has one outcome at most. -/
def Sharp {A : Type} (x : Ask A) : Prop := ∀ K, x.runP K → ∃ a, x.runP (fun y => y = a) ∧ K a ∧ ∀ K' : A → Prop, K' a → x.runP K'
section
variable {A B α : Type}
theorem Sharp.ret (a : A) : Sharp (Ask.ret a) := fun _ h => ⟨a, rfl, h, fun _ h => h⟩
theorem Sharp.bad : Sharp (Ask.bad : Ask A) := fun _ h => h.elim
theorem Sharp.ask {o : Option α} {k : α → Ask A} (h : ∀ a, Sharp (k a)) : Sharp (Ask.ask o k) := by
  rintro K ⟨a, h1, h2⟩
  obtain ⟨x, h3, h4, h5⟩ := h a K h2
  exact ⟨x, ⟨a, h1, h3⟩, h4, fun K' hk => ⟨a, h1, h5 K' hk⟩⟩
theorem Sharp.prf {p : Prop} {d : Decidable p} {k : Ask A} (h : Sharp k) : Sharp (Ask.prf p d k) := by
  rintro K ⟨h1, h2⟩
  obtain ⟨x, h3, h4, h5⟩ := h K h2
  exact ⟨x, ⟨h1, h3⟩, h4, fun K' hk => ⟨h1, h5 K' hk⟩⟩
theorem Sharp.br {t : Bool} {x y : Ask A} (hx : Sharp x) (hy : Sharp y) : Sharp (Ask.br t x y) := by
  rintro K ⟨h1, h2⟩
  cases t with
  | true =>
    obtain ⟨a, h3, h4, h5⟩ := hx K (h1 rfl)
    exact ⟨a, ⟨fun _ => h3, fun h => nomatch h⟩, h4, fun K' hk => ⟨fun _ => h5 K' hk, fun h => nomatch h⟩⟩
  | false =>
    obtain ⟨a, h3, h4, h5⟩ := hy K (h2 rfl)
    exact ⟨a, ⟨fun h => (nomatch h), fun _ => h3⟩, h4, fun K' hk => ⟨fun h => (nomatch h), fun _ => h5 K' hk⟩⟩
theorem Sharp.bind {x : Ask A} {f : A → Ask B} (hx : Sharp x) (hf : ∀ a, Sharp (f a)) : Sharp (x.bind f) := by
  intro K h
  obtain ⟨a, h1, h2, h3⟩ := hx _ h
  obtain ⟨b, h4, h5, h6⟩ := hf a K h2
  exact ⟨b, h3 _ h4, h5, fun K' hk => h3 _ (h6 K' hk)⟩
theorem Sharp.val {a : α} {k : α → Ask A} (h : ∀ a, Sharp (k a)) : Sharp (val a k) := Sharp.ask h
theorem Sharp.cond {b : Bool} {x y : Ask A} (hx : Sharp x) (hy : Sharp y) : Sharp (bif b then x else y) := by cases b <;> assumption
theorem Sharp.rd {e : Nat → Option MV} {x : Operand} {k : MV → Ask A} (h : ∀ a, Sharp (k a)) : Sharp (rd e x k) := by
  show Sharp (match evM e x with | some m => k m | none => .bad)
  split
  · exact h _
  · exact Sharp.bad
theorem Sharp.rds {e : Nat → Option MV} : ∀ {xs : List Operand} {k : List MV → Ask A}, (∀ a, Sharp (k a)) → Sharp (rds e xs k)
  | [], _, h => h _
  | _ :: _, _, h => Sharp.rd fun _ => Sharp.rds fun _ => h _
theorem Sharp.rdo {e : Nat → Option MV} {x : Option Operand} {k : Option MV → Ask A} (h : ∀ a, Sharp (k a)) : Sharp (rdo e x k) := by
  cases x with
  | none => exact h _
  | some x => exact Sharp.rd fun _ => h _
end
section
variable (P : Program) (T : Tab) (E : Nat → Option MV) (M : FM) (cnt : Nat)
theorem sharp_pureA (m : MV) : Sharp (pureA m) := Sharp.ret _
theorem sharp_iBin (op : BinOp) (k : IntKind) (a b : Int) : Sharp (iBin op k a b) := by
  cases op <;> first | exact Sharp.ret _ | exact Sharp.val fun _ => Sharp.ret _ | exact Sharp.prf (d := inferInstance) (Sharp.val fun _ => Sharp.ret _)
theorem sharp_sBin (op : BinOp) (a b : List UInt8) : Sharp (sBin op a b) := by
  cases op <;> first | exact Sharp.bad | exact Sharp.ret _ | exact Sharp.prf (d := inferInstance) (Sharp.val fun _ => Sharp.ret _)
theorem sharp_bBin (op : BinOp) (a b : Bool) : Sharp (bBin op a b) := by
  cases op <;> first | exact Sharp.bad | exact Sharp.ret _
theorem sharp_oNil (b : Option Bool) (op : BinOp) : Sharp (oNil b op) := by
  cases b with
  | none => exact Sharp.bad
  | some b => cases op <;> first | exact Sharp.bad | exact Sharp.ret _
theorem sharp_oEq (op : BinOp) (t : TypeId) (x y : MV) : Sharp (oEq P T op t x y) := by
  unfold oEq
  split
  · exact Sharp.cond (Sharp.prf (Sharp.ask fun _ => sharp_oNil _ _)) Sharp.bad
  · exact Sharp.bad
theorem sharp_oBin (op : BinOp) (t : TypeId) (yo : Operand) (x y : MV) : Sharp (oBin P T op t yo x y) := by
  unfold oBin
  split
  · split
    · exact Sharp.cond (Sharp.bind (sharp_iBin _ _ _ _) sharp_pureA) Sharp.bad
    · exact Sharp.bad
  · split
    · exact Sharp.bind (sharp_sBin _ _ _) sharp_pureA
    · exact Sharp.bad
  · split
    · split
      · exact Sharp.bind (sharp_bBin _ _ _) sharp_pureA
      · exact Sharp.bad
    · exact Sharp.bad
  · split
    · exact sharp_oNil _ _
    · exact Sharp.bad
  · split
    · exact sharp_oNil _ _
    · exact Sharp.bad
  · split
    · exact sharp_oNil _ _
    · exact Sharp.bad
  · exact sharp_oEq P T op t _ _
mutual
theorem sharp_frz : ∀ (p : MV), Sharp (frz M p)
  | .ms c es off n => by
    simp only [frz]
    split
    · split
      · exact Sharp.prf (Sharp.val fun _ => Sharp.ret _)
      · exact Sharp.bad
    · exact Sharp.bad
  | .st l => by simp only [frz]; exact Sharp.bind (sharp_frzs l) fun _ => Sharp.ret _
  | .fn f l => by simp only [frz]; exact Sharp.bind (sharp_frzs l) fun _ => Sharp.ret _
  | .ifc t v => by simp only [frz]; exact Sharp.bind (sharp_frz v) fun _ => Sharp.ret _
  | .ptr c es k fo path => by
    simp only [frz]
    split
    · exact Sharp.cond (Sharp.ask fun _ => Sharp.cond (Sharp.ret _) Sharp.bad) Sharp.bad
    · exact Sharp.bad
  | .tup _ => Sharp.bad
  | .undef => Sharp.bad
  | .int .. => Sharp.ret _
  | .bool .. => Sharp.ret _
  | .str .. => Sharp.ret _
  | .nilp => Sharp.ret _
  | .gp .. => Sharp.ret _
  | .ep .. => Sharp.ret _
  | .sl .. => Sharp.ret _
  | .nils => Sharp.ret _
  | .nilf => Sharp.ret _
  | .nili => Sharp.ret _
  | .arr .. => Sharp.ret _
theorem sharp_frzs : ∀ (l : List MV), Sharp (frzs M l)
  | [] => Sharp.ret _
  | m :: l => by simp only [frzs]; exact Sharp.bind (sharp_frz m) fun _ => Sharp.bind (sharp_frzs l) fun _ => Sharp.ret _
end
theorem sharp_oLoad (t : TypeId) (p : MV) : Sharp (oLoad T M t p) := by
  unfold oLoad
  split
  · exact Sharp.bad
  · split
    · split
      · exact Sharp.cond (Sharp.ask fun _ => Sharp.ask fun _ => Sharp.cond (Sharp.ret _) Sharp.bad) Sharp.bad
      · exact Sharp.bad
    · exact Sharp.ask fun _ => Sharp.cond (Sharp.ret _) Sharp.bad
    · exact Sharp.bad
theorem sharp_oStore (t : TypeId) (p v : MV) : Sharp (oStore T M t p v) := by
  unfold oStore
  split
  · exact Sharp.bad
  · split
    · split
      · exact Sharp.cond (Sharp.prf (Sharp.ask fun _ => Sharp.ask fun _ => Sharp.val fun _ => Sharp.ret _)) Sharp.bad
      · exact Sharp.bad
    · exact Sharp.bad
theorem sharp_oFieldAddr (t : TypeId) (p : MV) (f : Nat) : Sharp (oFieldAddr T t p f) := by
  unfold oFieldAddr
  repeat' split
  all_goals first | exact Sharp.bad | exact Sharp.ret _
theorem sharp_oIndexAddr (t : TypeId) (p j : MV) : Sharp (oIndexAddr T t p j) := by
  unfold oIndexAddr
  repeat' split
  all_goals first | exact Sharp.bad | exact Sharp.ask fun _ => Sharp.cond (Sharp.ret _) Sharp.bad | exact Sharp.cond (Sharp.ask fun _ => Sharp.ret _) Sharp.bad | exact Sharp.ask fun _ => Sharp.ret _
theorem sharp_oIndex (t : TypeId) (p j : MV) : Sharp (oIndex T t p j) := by
  unfold oIndex
  repeat' split
  all_goals first | exact Sharp.bad | exact Sharp.ask fun _ => Sharp.ret _ | exact Sharp.cond (Sharp.ask fun _ => Sharp.cond (Sharp.ret _) Sharp.bad) Sharp.bad
theorem sharp_oField (t : TypeId) (p : MV) (f : Nat) : Sharp (oField T t p f) := by
  unfold oField
  repeat' split
  all_goals first | exact Sharp.bad | exact Sharp.cond (Sharp.ret _) Sharp.bad
theorem sharp_oSlice (t : TypeId) (x : MV) (lo hi : Option MV) : Sharp (oSlice T t x lo hi) := by
  unfold oSlice
  repeat' split
  all_goals first | exact Sharp.bad | exact Sharp.ask fun _ => Sharp.val fun _ => Sharp.ret _ | exact Sharp.ask fun _ => Sharp.prf (Sharp.val fun _ => Sharp.val fun _ => Sharp.ret _) | exact Sharp.cond (Sharp.ask fun _ => Sharp.val fun _ => Sharp.ret _) Sharp.bad | exact Sharp.ask fun _ => Sharp.ret _
theorem sharp_oBuild (t : TypeId) (ps : List (Nat × MV)) : Sharp (oBuild T t ps) := by
  unfold oBuild
  split
  · refine Sharp.cond ?_ Sharp.bad
    split
    · exact Sharp.ret _
    · exact Sharp.bad
  · refine Sharp.cond ?_ Sharp.bad
    split
    · exact Sharp.ret _
    · exact Sharp.bad
  · exact Sharp.bad
theorem sharp_oBuildSlice (t : TypeId) (n : Nat) (ps : List (Nat × MV)) : Sharp (oBuildSlice T cnt t n ps) := by
  unfold oBuildSlice
  split
  · split
    · split
      · exact Sharp.ret _
      · exact Sharp.bad
    · split
      · refine Sharp.cond ?_ Sharp.bad
        split
        · exact Sharp.ret _
        · exact Sharp.bad
      · exact Sharp.bad
  · exact Sharp.bad
theorem sharp_oUn (op : UnOp) (x : MV) : Sharp (oUn op x) := by
  unfold oUn
  repeat' split
  all_goals first | exact Sharp.bad | exact Sharp.ret _ | exact Sharp.val fun _ => Sharp.ret _
theorem sharp_oConv (s d : TypeId) (x : MV) : Sharp (oConv T M s d x) := by
  unfold oConv
  repeat' split
  all_goals first | exact Sharp.bad | exact Sharp.ret _ | exact Sharp.val fun _ => Sharp.ret _ | exact Sharp.ask fun _ => Sharp.ret _ | exact Sharp.cond (Sharp.prf (Sharp.ask fun _ => Sharp.ret _)) Sharp.bad | exact Sharp.prf (Sharp.val fun _ => Sharp.val fun _ => Sharp.ret _)
theorem sharp_oMakeSlice (t : TypeId) (x y : MV) : Sharp (oMakeSlice P T cnt t x y) := by
  unfold oMakeSlice
  repeat' split
  all_goals first | exact Sharp.bad | exact Sharp.cond (Sharp.prf (Sharp.ask fun _ => Sharp.ask fun _ => Sharp.prf (Sharp.ret _))) Sharp.bad
theorem sharp_srcM (es : Nat) (y : MV) (k : Nat → List MV → Ask (MV × Dl)) (h : ∀ n l, Sharp (k n l)) : Sharp (srcM M es y k) := by
  unfold srcM
  split
  · exact Sharp.prf (h _ _)
  · exact h _ _
  · split
    · exact Sharp.cond (Sharp.prf (Sharp.val fun _ => h _ _)) Sharp.bad
    · exact Sharp.bad
  · exact Sharp.bad
theorem sharp_oAppend (ats : List TypeId) (x y : MV) : Sharp (oAppend P T M cnt ats x y) := by
  unfold oAppend
  split
  · refine Sharp.cond ?_ Sharp.bad
    split
    · split
      · refine Sharp.cond (Sharp.ask fun _ => sharp_srcM M _ _ _ fun n l => ?_) Sharp.bad
        split
        · exact Sharp.prf (Sharp.ret _)
        · split
          · exact Sharp.cond (Sharp.prf (Sharp.val fun _ => Sharp.val fun _ => Sharp.ret _)) Sharp.bad
          · exact Sharp.bad
        · exact Sharp.bad
      · exact Sharp.bad
    · exact Sharp.bad
  · exact Sharp.bad
theorem sharp_oBuiltin (b : Builtin) (ats : Array TypeId) (vs : List MV) : Sharp (oBuiltin P T M cnt b ats vs) := by
  unfold oBuiltin
  split
  · split
    · unfold oLen
      repeat' split
      all_goals first | exact Sharp.bad | exact Sharp.ret _ | exact Sharp.val fun _ => Sharp.ret _
    · exact Sharp.bad
  · split
    · exact sharp_oAppend P T M cnt _ _ _
    · exact Sharp.bad
  · split
    · exact Sharp.val fun _ => Sharp.ret _
    · exact Sharp.bad
  · split
    · exact Sharp.val fun _ => Sharp.ret _
    · exact Sharp.bad
  · exact Sharp.bad
theorem sharp_eOp (o : Oper) : Sharp (eOp P T E M cnt o) := by
  obtain ⟨dst, op, ty, pos, after, guard⟩ := o
  cases op with
  | move x => exact Sharp.rd sharp_pureA
  | assign x => exact Sharp.rd sharp_pureA
  | pick c a b =>
    refine Sharp.rd fun c => Sharp.rd fun a => Sharp.rd fun b => ?_
    unfold oPick
    split
    · exact Sharp.br (Sharp.ret _) (Sharp.ret _)
    · exact Sharp.bad
  | alloc t =>
    show Sharp (oAlloc T cnt t)
    unfold oAlloc
    split
    · exact Sharp.cond (Sharp.ret _) Sharp.bad
    · exact Sharp.bad
  | box t x =>
    refine Sharp.rd fun v => ?_
    unfold oBox
    split
    · exact Sharp.cond (Sharp.ret _) Sharp.bad
    · exact Sharp.bad
  | build t parts => exact Sharp.rds fun _ => sharp_oBuild T _ _
  | buildSlice t n parts => exact Sharp.rds fun _ => sharp_oBuildSlice T cnt _ _ _
  | load t x => exact Sharp.rd fun _ => sharp_oLoad T M _ _
  | store t x y => exact Sharp.rd fun _ => Sharp.rd fun _ => sharp_oStore T M _ _ _
  | nilCheck x =>
    refine Sharp.rd fun v => ?_
    unfold oNilCheck
    split <;> first | exact Sharp.ret _ | exact Sharp.bad
  | binOp op t x y ty' => exact Sharp.rd fun _ => Sharp.rd fun _ => sharp_oBin P T _ _ _ _ _
  | unOp op t x => exact Sharp.rd fun _ => sharp_oUn _ _
  | convert s d x => exact Sharp.rd fun _ => sharp_oConv T M _ _ _
  | makeInterface t x =>
    refine Sharp.rd fun v => ?_
    unfold oIface
    split <;> first | exact Sharp.bad | exact Sharp.cond (Sharp.ret _) Sharp.bad
  | makeFunc fn first captured =>
    refine Sharp.rds fun v => ?_
    unfold oMkFunc
    split <;> first | exact Sharp.bad | exact Sharp.cond (Sharp.ret _) Sharp.bad
  | makeSlice t l c => exact Sharp.rd fun _ => Sharp.rd fun _ => sharp_oMakeSlice P T cnt _ _ _
  | slice t x lo hi mx =>
    cases mx with
    | none => exact Sharp.rd fun _ => Sharp.rdo fun _ => Sharp.rdo fun _ => sharp_oSlice T _ _ _ _
    | some _ => exact Sharp.bad
  | fieldAddr t x f => exact Sharp.rd fun _ => sharp_oFieldAddr T _ _ _
  | field t x f => exact Sharp.rd fun _ => sharp_oField T _ _ _
  | indexAddr t x ix => exact Sharp.rd fun _ => Sharp.rd fun _ => sharp_oIndexAddr T _ _ _
  | index t x ix => exact Sharp.rd fun _ => Sharp.rd fun _ => sharp_oIndex T _ _ _
  | extract x i =>
    refine Sharp.rd fun v => ?_
    unfold oExtract
    repeat' split
    all_goals first | exact Sharp.bad | exact Sharp.ret _
  | call c =>
    obtain ⟨callee, args, ats⟩ := c
    cases callee with
    | builtin b => exact Sharp.rds fun _ => sharp_oBuiltin P T M cnt _ _ _
    | _ => exact Sharp.bad
  | _ => exact Sharp.bad
theorem sharp_vCall (E : VE) (M : VM) (f : Operand) (args : List Operand) : Sharp (vCall E M f args) := by
  refine Sharp.rd fun fv => Sharp.rds fun vs => ?_
  split
  · exact Sharp.bind (sharp_frzs _ _) fun _ => Sharp.ret _
  · exact Sharp.bad
end
end Go.Proofs.Ytplkofafnbfkmaa
/- What an operation does to the blocks, by its kind; and what it looks at. -/
namespace Go.Proofs.Ytplkofafnbfkmaa
open Go.RowKit

/-- Whatever comes out, what it does to the blocks is of a kind. -/
def Out (D : Dl → Prop) (x : Ask (MV × Dl)) : Prop := ∀ K, x.runP K → ∃ r δ, D δ ∧ K (r, δ)
section
variable {α : Type} {D : Dl → Prop}
theorem Out.ret {r : MV} {δ : Dl} (h : D δ) : Out D (Ask.ret (r, δ)) := fun _ hk => ⟨r, δ, h, hk⟩
theorem Out.bad : Out D Ask.bad := fun _ h => h.elim
theorem Out.ask {o : Option α} {k : α → Ask (MV × Dl)} (h : ∀ a, Out D (k a)) : Out D (Ask.ask o k) := by
  rintro K ⟨a, _, h2⟩; exact h a K h2
theorem Out.prf {p : Prop} {d : Decidable p} {k : Ask (MV × Dl)} (h : Out D k) : Out D (Ask.prf p d k) := by
  rintro K ⟨_, h2⟩; exact h K h2
theorem Out.br {t : Bool} {x y : Ask (MV × Dl)} (hx : Out D x) (hy : Out D y) : Out D (Ask.br t x y) := by
  rintro K ⟨h1, h2⟩
  cases t with
  | true => exact hx K (h1 rfl)
  | false => exact hy K (h2 rfl)
theorem Out.bind {x : Ask MV} {f : MV → Ask (MV × Dl)} (hs : Sharp x) (hf : ∀ a, Out D (f a)) : Out D (x.bind f) := by
  intro K h
  obtain ⟨a, _, h2, _⟩ := hs _ h
  exact hf a K h2
theorem Out.val {a : α} {k : α → Ask (MV × Dl)} (h : ∀ a, Out D (k a)) : Out D (val a k) := Out.ask h
theorem Out.cond {b : Bool} {x y : Ask (MV × Dl)} (hx : Out D x) (hy : Out D y) : Out D (bif b then x else y) := by cases b <;> assumption
theorem Out.rd {e : Nat → Option MV} {x : Operand} {k : MV → Ask (MV × Dl)} (h : ∀ a, Out D (k a)) : Out D (rd e x k) := by
  show Out D (match evM e x with | some m => k m | none => .bad)
  split
  · exact h _
  · exact Out.bad
theorem Out.rds {e : Nat → Option MV} : ∀ {xs : List Operand} {k : List MV → Ask (MV × Dl)}, (∀ a, Out D (k a)) → Out D (rds e xs k)
  | [], _, h => h _
  | _ :: _, _, h => Out.rd fun _ => Out.rds fun _ => h _
theorem Out.rdo {e : Nat → Option MV} {x : Option Operand} {k : Option MV → Ask (MV × Dl)} (h : ∀ a, Out D (k a)) : Out D (rdo e x k) := by
  cases x with
  | none => exact h _
  | some x => exact Out.rd fun _ => h _
end
abbrev DN : Dl → Prop := fun δ => δ = .none
abbrev DA : Dl → Prop := fun δ => ∃ b, δ = .new b
/-- Stores and appends: the blocks that they name are there. -/
abbrev DW (m : FM) : Dl → Prop := fun δ => (∃ b, δ = .new b) ∨ (∃ c l, δ = .upd c l ∧ m c ≠ none) ∨ (∃ c b, δ = .mv c b ∧ m c ≠ none)
section
variable (P : Program) (T : Tab) (E : Nat → Option MV) (M : FM) (cnt : Nat)
theorem out_pureA (m : MV) : Out DN (pureA m) := Out.ret rfl
theorem out_oNil (b : Option Bool) (op : BinOp) : Out DN (oNil b op) := by
  cases b with
  | none => exact Out.bad
  | some b => cases op <;> first | exact Out.bad | exact Out.ret rfl
theorem out_oEq (op : BinOp) (t : TypeId) (x y : MV) : Out DN (oEq P T op t x y) := by
  unfold oEq
  split
  · exact Out.cond (Out.prf (Out.ask fun _ => out_oNil _ _)) Out.bad
  · exact Out.bad
theorem out_oBin (op : BinOp) (t : TypeId) (yo : Operand) (x y : MV) : Out DN (oBin P T op t yo x y) := by
  unfold oBin
  split
  · split
    · exact Out.cond (Out.bind (sharp_iBin _ _ _ _) out_pureA) Out.bad
    · exact Out.bad
  · split
    · exact Out.bind (sharp_sBin _ _ _) out_pureA
    · exact Out.bad
  · split
    · split
      · exact Out.bind (sharp_bBin _ _ _) out_pureA
      · exact Out.bad
    · exact Out.bad
  · split
    · exact out_oNil _ _
    · exact Out.bad
  · split
    · exact out_oNil _ _
    · exact Out.bad
  · split
    · exact out_oNil _ _
    · exact Out.bad
  · exact out_oEq P T op t _ _
theorem out_oLoad (t : TypeId) (p : MV) : Out DN (oLoad T M t p) := by
  unfold oLoad
  split
  · exact Out.bad
  · split
    · split
      · exact Out.cond (Out.ask fun _ => Out.ask fun _ => Out.cond (Out.ret rfl) Out.bad) Out.bad
      · exact Out.bad
    · exact Out.ask fun _ => Out.cond (Out.ret rfl) Out.bad
    · exact Out.bad
theorem out_oFieldAddr (t : TypeId) (p : MV) (f : Nat) : Out DN (oFieldAddr T t p f) := by
  unfold oFieldAddr
  repeat' split
  all_goals first | exact Out.bad | exact Out.ret rfl
theorem out_oIndexAddr (t : TypeId) (p j : MV) : Out DN (oIndexAddr T t p j) := by
  unfold oIndexAddr
  repeat' split
  all_goals first | exact Out.bad | exact Out.ask fun _ => Out.cond (Out.ret rfl) Out.bad | exact Out.cond (Out.ask fun _ => Out.ret rfl) Out.bad | exact Out.ask fun _ => Out.ret rfl
theorem out_oIndex (t : TypeId) (p j : MV) : Out DN (oIndex T t p j) := by
  unfold oIndex
  repeat' split
  all_goals first | exact Out.bad | exact Out.ask fun _ => Out.ret rfl | exact Out.cond (Out.ask fun _ => Out.cond (Out.ret rfl) Out.bad) Out.bad
theorem out_oField (t : TypeId) (p : MV) (f : Nat) : Out DN (oField T t p f) := by
  unfold oField
  repeat' split
  all_goals first | exact Out.bad | exact Out.cond (Out.ret rfl) Out.bad
theorem out_oSlice (t : TypeId) (x : MV) (lo hi : Option MV) : Out DN (oSlice T t x lo hi) := by
  unfold oSlice
  repeat' split
  all_goals first | exact Out.bad | exact Out.ask fun _ => Out.val fun _ => Out.ret rfl | exact Out.ask fun _ => Out.prf (Out.val fun _ => Out.val fun _ => Out.ret rfl) | exact Out.cond (Out.ask fun _ => Out.val fun _ => Out.ret rfl) Out.bad | exact Out.ask fun _ => Out.ret rfl
theorem out_oBuild (t : TypeId) (ps : List (Nat × MV)) : Out DN (oBuild T t ps) := by
  unfold oBuild
  split
  · refine Out.cond ?_ Out.bad
    split
    · exact Out.ret rfl
    · exact Out.bad
  · refine Out.cond ?_ Out.bad
    split
    · exact Out.ret rfl
    · exact Out.bad
  · exact Out.bad
theorem out_oUn (op : UnOp) (x : MV) : Out DN (oUn op x) := by
  unfold oUn
  repeat' split
  all_goals first | exact Out.bad | exact Out.ret rfl | exact Out.val fun _ => Out.ret rfl
theorem out_oConv (s d : TypeId) (x : MV) : Out DN (oConv T M s d x) := by
  unfold oConv
  repeat' split
  all_goals first | exact Out.bad | exact Out.ret rfl | exact Out.val fun _ => Out.ret rfl | exact Out.ask fun _ => Out.ret rfl | exact Out.cond (Out.prf (Out.ask fun _ => Out.ret rfl)) Out.bad | exact Out.prf (Out.val fun _ => Out.val fun _ => Out.ret rfl)
theorem out_oBuildSlice (t : TypeId) (n : Nat) (ps : List (Nat × MV)) : Out DA (oBuildSlice T cnt t n ps) := by
  unfold oBuildSlice
  split
  · split
    · split
      · exact Out.ret ⟨_, rfl⟩
      · exact Out.bad
    · split
      · refine Out.cond ?_ Out.bad
        split
        · exact Out.ret ⟨_, rfl⟩
        · exact Out.bad
      · exact Out.bad
  · exact Out.bad
theorem out_oMakeSlice (t : TypeId) (x y : MV) : Out DA (oMakeSlice P T cnt t x y) := by
  unfold oMakeSlice
  repeat' split
  all_goals first | exact Out.bad | exact Out.cond (Out.prf (Out.ask fun _ => Out.ask fun _ => Out.prf (Out.ret ⟨_, rfl⟩))) Out.bad
theorem out_oStore (t : TypeId) (p v : MV) : Out (DW M) (oStore T M t p v) := by
  unfold oStore
  split
  · exact Out.bad
  · split
    · split
      · rename_i b hb
        exact Out.cond (Out.prf (Out.ask fun _ => Out.ask fun _ => Out.val fun _ => Out.ret (.inr (.inl ⟨_, _, rfl, by rw [hb]; simp⟩)))) Out.bad
      · exact Out.bad
    · exact Out.bad
theorem out_srcM (D : Dl → Prop) (es : Nat) (y : MV) (k : Nat → List MV → Ask (MV × Dl)) (h : ∀ n l, Out D (k n l)) : Out D (srcM M es y k) := by
  unfold srcM
  split
  · exact Out.prf (h _ _)
  · exact h _ _
  · split
    · exact Out.cond (Out.prf (Out.val fun _ => h _ _)) Out.bad
    · exact Out.bad
  · exact Out.bad
theorem out_oAppend (ats : List TypeId) (x y : MV) : Out (DW M) (oAppend P T M cnt ats x y) := by
  unfold oAppend
  split
  · refine Out.cond ?_ Out.bad
    split
    · split
      · refine Out.cond (Out.ask fun _ => out_srcM M _ _ _ _ fun n l => ?_) Out.bad
        split
        · exact Out.prf (Out.ret (.inl ⟨_, rfl⟩))
        · split
          · rename_i b hb
            exact Out.cond (Out.prf (Out.val fun _ => Out.val fun _ => Out.ret (.inr (.inr ⟨_, _, rfl, by rw [hb]; simp⟩)))) Out.bad
          · exact Out.bad
        · exact Out.bad
      · exact Out.bad
    · exact Out.bad
  · exact Out.bad
def DK (m : FM) : Nat → Dl → Prop
  | 0 => DN
  | 1 => DA
  | 2 => DN
  | _ => DW m
theorem out_eOp (o : Oper) : Out (DK M (kls o)) (eOp P T E M cnt o) := by
  obtain ⟨dst, op, ty, pos, after, guard⟩ := o
  cases op with
  | move x => exact Out.rd out_pureA
  | assign x => exact Out.rd out_pureA
  | pick c a b =>
    refine Out.rd fun c => Out.rd fun a => Out.rd fun b => ?_
    unfold oPick
    split
    · exact Out.br (Out.ret rfl) (Out.ret rfl)
    · exact Out.bad
  | alloc t =>
    show Out DA (oAlloc T cnt t)
    unfold oAlloc
    split
    · exact Out.cond (Out.ret ⟨_, rfl⟩) Out.bad
    · exact Out.bad
  | box t x =>
    refine Out.rd fun v => ?_
    unfold oBox
    split
    · exact Out.cond (Out.ret ⟨_, rfl⟩) Out.bad
    · exact Out.bad
  | build t parts => exact Out.rds fun _ => out_oBuild T _ _
  | buildSlice t n parts => exact Out.rds fun _ => out_oBuildSlice T cnt _ _ _
  | load t x => exact Out.rd fun _ => out_oLoad T M _ _
  | store t x y => exact Out.rd fun _ => Out.rd fun _ => out_oStore T M _ _ _
  | nilCheck x =>
    refine Out.rd fun v => ?_
    unfold oNilCheck
    split <;> first | exact Out.ret rfl | exact Out.bad
  | binOp op t x y ty' => exact Out.rd fun _ => Out.rd fun _ => out_oBin P T _ _ _ _ _
  | unOp op t x => exact Out.rd fun _ => out_oUn _ _
  | convert s d x => exact Out.rd fun _ => out_oConv T M _ _ _
  | makeInterface t x =>
    refine Out.rd fun v => ?_
    unfold oIface
    split <;> first | exact Out.bad | exact Out.cond (Out.ret rfl) Out.bad
  | makeFunc fn first captured =>
    refine Out.rds fun v => ?_
    unfold oMkFunc
    split <;> first | exact Out.bad | exact Out.cond (Out.ret rfl) Out.bad
  | makeSlice t l c => exact Out.rd fun _ => Out.rd fun _ => out_oMakeSlice P T cnt _ _ _
  | slice t x lo hi mx =>
    cases mx with
    | none => exact Out.rd fun _ => Out.rdo fun _ => Out.rdo fun _ => out_oSlice T _ _ _ _
    | some _ => exact Out.bad
  | fieldAddr t x f => exact Out.rd fun _ => out_oFieldAddr T _ _ _
  | field t x f => exact Out.rd fun _ => out_oField T _ _ _
  | indexAddr t x ix => exact Out.rd fun _ => Out.rd fun _ => out_oIndexAddr T _ _ _
  | index t x ix => exact Out.rd fun _ => Out.rd fun _ => out_oIndex T _ _ _
  | extract x i =>
    refine Out.rd fun v => ?_
    unfold oExtract
    repeat' split
    all_goals first | exact Out.bad | exact Out.ret rfl
  | call c =>
    obtain ⟨callee, args, ats⟩ := c
    cases callee with
    | builtin b =>
      refine Out.rds fun vs => ?_
      cases b <;> first
        | exact Out.bad
        | (show Out DN _
           simp only [oBuiltin]
           split
           · unfold oLen
             repeat' split
             all_goals first | exact Out.bad | exact Out.ret rfl | exact Out.val fun _ => Out.ret rfl
           · exact Out.bad)
        | (show Out (DW M) _
           simp only [oBuiltin]
           split
           · exact out_oAppend P T M cnt _ _ _
           · exact Out.bad)
        | (show Out DN _
           simp only [oBuiltin]
           split
           · exact Out.val fun _ => Out.ret rfl
           · exact Out.bad)
    | _ => exact Out.bad
  | _ => exact Out.bad
end
end Go.Proofs.Ytplkofafnbfkmaa
/- What operations look at: slots, and memory. -/
namespace Go.Proofs.Ytplkofafnbfkmaa
open Go.RowKit

section
variable {P : Program} {T : Tab} {e e' : Nat → Option MV} {m m' : FM} {cnt : Nat} {A : Type}
/-- Two states agree on what these operands name. -/
def Ag (e e' : Nat → Option MV) (l : List Operand) : Prop := ∀ x ∈ l, evM e x = evM e' x
theorem rd_ag {x : Operand} {k : MV → Ask A} (h : evM e x = evM e' x) : rd e x k = rd e' x k := by unfold rd; rw [h]
theorem rds_ag : ∀ {l : List Operand} {k : List MV → Ask A}, Ag e e' l → rds e l k = rds e' l k
  | [], _, _ => rfl
  | x :: l, k, h => by
    show rd e x _ = rd e' x _
    rw [rd_ag (h x (by simp))]
    have : (fun m => rds e l fun r => k (m :: r)) = fun m => rds e' l fun r => k (m :: r) := funext fun m => rds_ag fun y hy => h y (by simp [hy])
    rw [this]
theorem rdo_ag {x : Option Operand} {k : Option MV → Ask A} (h : Ag e e' x.toList) : rdo e x k = rdo e' x k := by
  cases x with
  | none => rfl
  | some x => exact rd_ag (h x (by simp))
theorem evM_ag {x : Operand} (h : ∀ t, x = .tmp t → e t = e' t) : evM e x = evM e' x := by
  cases x with
  | tmp t => exact h t rfl
  | _ => rfl
theorem eOp_env {o : Oper} (h : Ag e e' o.op.operands.toList) : eOp P T e m cnt o = eOp P T e' m cnt o := by
  obtain ⟨dst, op, ty, pos, after, guard⟩ := o
  replace h : Ag e e' op.operands.toList := h
  cases op with
  | move x => exact rd_ag (h x (by simp [Op.operands]))
  | assign x => exact rd_ag (h x (by simp [Op.operands]))
  | pick c a b =>
    show rd e c _ = rd e' c _
    rw [rd_ag (h c (by simp [Op.operands]))]
    congr 1; funext c
    rw [rd_ag (h a (by simp [Op.operands]))]
    congr 1; funext a
    rw [rd_ag (h b (by simp [Op.operands]))]
  | alloc t => rfl
  | box t x => exact rd_ag (h x (by simp [Op.operands]))
  | build t parts => exact rds_ag fun x hx => h x (by simpa [Op.operands] using hx)
  | buildSlice t n parts => exact rds_ag fun x hx => h x (by simpa [Op.operands] using hx)
  | load t x => exact rd_ag (h x (by simp [Op.operands]))
  | store t x y =>
    show rd e x _ = rd e' x _
    rw [rd_ag (h x (by simp [Op.operands]))]
    congr 1; funext c
    rw [rd_ag (h y (by simp [Op.operands]))]
  | nilCheck x => exact rd_ag (h x (by simp [Op.operands]))
  | binOp op t x y ty' =>
    show rd e x _ = rd e' x _
    rw [rd_ag (h x (by simp [Op.operands]))]
    congr 1; funext c
    rw [rd_ag (h y (by simp [Op.operands]))]
  | unOp op t x => exact rd_ag (h x (by simp [Op.operands]))
  | convert s d x => exact rd_ag (h x (by simp [Op.operands]))
  | makeInterface t x => exact rd_ag (h x (by simp [Op.operands]))
  | makeFunc fn first captured => exact rds_ag fun x hx => h x (by simp [Op.operands]; exact .inr (by simpa using hx))
  | makeSlice t x y =>
    show rd e x _ = rd e' x _
    rw [rd_ag (h x (by simp [Op.operands]))]
    congr 1; funext c
    rw [rd_ag (h y (by simp [Op.operands]))]
  | slice t x lo hi mx =>
    cases mx with
    | none =>
      show rd e x _ = rd e' x _
      rw [rd_ag (h x (by simp [Op.operands]))]
      congr 1; funext c
      rw [rdo_ag fun y hy => h y (by simp [Op.operands]; simp at hy; simp [hy])]
      congr 1; funext c
      rw [rdo_ag fun y hy => h y (by simp [Op.operands]; simp at hy; simp [hy])]
    | some _ => rfl
  | fieldAddr t x f => exact rd_ag (h x (by simp [Op.operands]))
  | field t x f => exact rd_ag (h x (by simp [Op.operands]))
  | indexAddr t x y =>
    show rd e x _ = rd e' x _
    rw [rd_ag (h x (by simp [Op.operands]))]
    congr 1; funext c
    rw [rd_ag (h y (by simp [Op.operands]))]
  | index t x y =>
    show rd e x _ = rd e' x _
    rw [rd_ag (h x (by simp [Op.operands]))]
    congr 1; funext c
    rw [rd_ag (h y (by simp [Op.operands]))]
  | extract x i => exact rd_ag (h x (by simp [Op.operands]))
  | call c =>
    obtain ⟨callee, args, ats⟩ := c
    cases callee with
    | builtin b => exact rds_ag fun x hx => h x (by simp [Op.operands, Call.operands]; simpa using hx)
    | _ => rfl
  | _ => rfl
/-- Operations without memory, and those that only make blocks. -/
theorem eOp_nomem {o : Oper} (h : Nat.ble (kls o) 1 = true) : eOp P T e m cnt o = eOp P T e m' cnt o := by
  obtain ⟨dst, op, ty, pos, after, guard⟩ := o
  cases op with
  | call c =>
    obtain ⟨callee, args, ats⟩ := c
    cases callee with
    | builtin b => cases b <;> first | rfl | (cases h; done)
    | _ => rfl
  | load t x => cases h
  | store t x y => cases h
  | convert s d x => cases h
  | _ => rfl
/-- Reading lasts where blocks keep what they hold. -/
theorem eOp_read {o : Oper} (h : kls o = 2) (hs : SameB m m') {K : MV × Dl → Prop} (hr : (eOp P T e m cnt o).runP K) : (eOp P T e m' cnt o).runP K := by
  have step : ∀ {x : Operand} {k k' : MV → Ask (MV × Dl)}, (∀ v, (k v).runP K → (k' v).runP K) → (rd e x k).runP K → (rd e x k').runP K := by
    intro x k k' hk h
    unfold rd at h ⊢
    split at h
    · exact hk _ h
    · exact h.elim
  obtain ⟨dst, op, ty, pos, after, guard⟩ := o
  cases op with
  | call c =>
    obtain ⟨callee, args, ats⟩ := c
    cases callee with
    | builtin b => cases b <;> cases h
    | _ => exact hr
  | load t x =>
    refine step (fun p hp => ?_) hr
    unfold oLoad at hp ⊢
    split at hp
    · exact hp.elim
    · split at hp
      · split at hp
        · rename_i b hb
          obtain ⟨b', h1, h2, h3, h4, h5⟩ := hs _ _ hb
          simp only [h1, h2, h4]
          exact hp
        · exact hp.elim
      · exact hp
      · exact hp.elim
  | convert s d x =>
    refine step (fun p hp => ?_) hr
    unfold oConv at hp ⊢
    split at hp
    · exact hp
    · exact hp
    · exact hp
    · split at hp
      · rename_i b ht hb
        obtain ⟨b', h1, h2, h3, h4, h5⟩ := hs _ _ hb
        obtain ⟨ty', es', row', pe', l'⟩ := b'
        simp only at h2 h3 h4 h5
        subst h2; subst h4
        simp only [ht, h1]
        exact hp
      · exact hp.elim
    · exact hp
    · exact hp.elim
  | _ => cases h
mutual
theorem frz_same (hs : SameB m m') : ∀ {p : MV} {K : MV × List (Nat × Nat) → Prop}, (frz m p).runP K → (frz m' p).runP fun x => K x ∧ ∀ c ∈ x.2, m c.1 ≠ none
  | .ms c es off n, K, h => by
    simp only [frz] at h ⊢
    split at h
    · rename_i b hb
      obtain ⟨b', h1, h2, h3, h4, h5⟩ := hs _ _ hb
      obtain ⟨ty', es', row', pe', l'⟩ := b'
      simp only at h2 h3 h4 h5
      subst h2; subst h4; subst h3
      simp only [h1]
      split at h
      · obtain ⟨a1, l, a2, h⟩ := h
        exact ⟨a1, l, a2, h, fun c hc => by simp at hc; subst hc; rw [hb]; simp⟩
      · exact h.elim
    · exact h.elim
  | .st l, K, h => by simp only [frz] at h ⊢; exact frzs_weak (frzs_same hs (Ask.bind_runP.1 h)) fun _ h => h
  | .fn f l, K, h => by simp only [frz] at h ⊢; exact frzs_weak (frzs_same hs (Ask.bind_runP.1 h)) fun _ h => h
  | .ifc t v, K, h => by simp only [frz] at h ⊢; exact frz_weak (frz_same hs (Ask.bind_runP.1 h)) fun _ h => h
  | .ptr c es k fo path, K, h => by
    simp only [frz] at h ⊢
    split at h
    · rename_i b hb
      obtain ⟨b', h1, h2, h3, h4, h5⟩ := hs _ _ hb
      obtain ⟨ty', es', row', pe', l'⟩ := b'
      simp only at h2 h3 h4 h5
      subst h2; subst h4; subst h3
      simp only [h1]
      cases he : Nat.beq b.es es with
      | false => rw [he] at h; exact h.elim
      | true =>
        rw [he] at h
        obtain ⟨v, q1, h⟩ := h
        cases hf : v.idFree with
        | false => rw [hf] at h; exact h.elim
        | true => rw [hf] at h; exact ⟨v, q1, by simp only [hf]; exact ⟨h, fun c hc => by simp at hc; subst hc; rw [hb]; simp⟩⟩
    · exact h.elim
  | .tup _, K, h => by simp only [frz] at h; exact h.elim
  | .undef, K, h => by simp only [frz] at h; exact h.elim
  | .int .., K, h => by simp only [frz] at h ⊢; exact ⟨h, fun _ hc => nomatch hc⟩
  | .bool .., K, h => by simp only [frz] at h ⊢; exact ⟨h, fun _ hc => nomatch hc⟩
  | .str .., K, h => by simp only [frz] at h ⊢; exact ⟨h, fun _ hc => nomatch hc⟩
  | .nilp, K, h => by simp only [frz] at h ⊢; exact ⟨h, fun _ hc => nomatch hc⟩
  | .gp .., K, h => by simp only [frz] at h ⊢; exact ⟨h, fun _ hc => nomatch hc⟩
  | .ep .., K, h => by simp only [frz] at h ⊢; exact ⟨h, fun _ hc => nomatch hc⟩
  | .sl .., K, h => by simp only [frz] at h ⊢; exact ⟨h, fun _ hc => nomatch hc⟩
  | .nils, K, h => by simp only [frz] at h ⊢; exact ⟨h, fun _ hc => nomatch hc⟩
  | .nilf, K, h => by simp only [frz] at h ⊢; exact ⟨h, fun _ hc => nomatch hc⟩
  | .nili, K, h => by simp only [frz] at h ⊢; exact ⟨h, fun _ hc => nomatch hc⟩
  | .arr .., K, h => by simp only [frz] at h ⊢; exact ⟨h, fun _ hc => nomatch hc⟩
theorem frzs_same (hs : SameB m m') : ∀ {l : List MV} {K : List MV × List (Nat × Nat) → Prop}, (frzs m l).runP K → (frzs m' l).runP fun x => K x ∧ ∀ c ∈ x.2, m c.1 ≠ none
  | [], K, h => ⟨h, fun _ hc => nomatch hc⟩
  | q :: l, K, h => by
    simp only [frzs] at h ⊢
    refine frz_weak (frz_same hs (Ask.bind_runP.1 h)) fun x hx => ?_
    refine frzs_weak (frzs_same hs (Ask.bind_runP.1 hx.1)) fun y hy => ⟨hy.1, fun c hc => ?_⟩
    rcases List.mem_append.1 hc with hc | hc
    · exact hx.2 c hc
    · exact hy.2 c hc
end
end
end Go.Proofs.Ytplkofafnbfkmaa
/- One operation as a step of functions; two of them that do not meet may change places. -/
namespace Go.Proofs.Ytplkofafnbfkmaa
open Go.RowKit

section
variable (Pg : Program) (T : Tab) (ents : List FuncId) (G : GS)
def vCallF (e : Nat → Option MV) (m : FM) (f : Operand) (args : List Operand) : Ask (FuncId × List MV × List (Nat × Nat)) :=
  rd e f fun fv => rds e args fun vs => match fv with
    | .fn f0 caps => (frzs m (vs ++ caps)).bind fun r => .ret (f0, r.1, r.2)
    | _ => .bad
/-- What an operation comes to: its value, and what it does to the blocks. -/
def runF (o : Oper) (e : Nat → Option MV) (m : FM) (n : Nat) (r : MV) (δ : Dl) : Prop := match o.op with
  | .call c => match c.callee with
    | .value f => (vCallF e m f c.args.toList).runP fun x => ents.contains x.1 = true ∧ SemC Pg G x.1 x.2.1 r ∧ δ = .bump x.2.2 ∧ ∀ c ∈ x.2.2, m c.1 ≠ none
    | _ => (eOp Pg T e m n o).runP fun x => x = (r, δ)
  | _ => (eOp Pg T e m n o).runP fun x => x = (r, δ)
/-- Whether it runs. -/
def gdF (ops : Array Oper) (o : Oper) (e : Nat → Option MV) : Option Bool := match o.guard with
  | none => some true
  | some (j, want) => match (ops[j]?).bind (·.dst) with
    | none => none
    | some s => match e s with
      | some (.bool t) => some (t == want)
      | some .undef => some false
      | _ => none
def actF (ops : Array Oper) (o : Oper) (e : Nat → Option MV) (m : FM) (n : Nat) (r : MV) (δ : Dl) : Prop :=
  ∃ b, gdF ops o e = some b ∧ (b = true → runF Pg T ents G o e m n r δ) ∧ (b = false → r = .undef ∧ δ = .none)
def putF (dst : Option Tmp) (r : MV) (e : Nat → Option MV) : Nat → Option MV := match dst with
  | none => e
  | some d => fput e d r
end
section
variable {Pg : Program} {T : Tab} {ents : List FuncId} {G : GS} {ops : Array Oper} {o : Oper} {e e' : Nat → Option MV} {m m' : FM} {n : Nat} {r : MV} {δ : Dl}
theorem vCallF_ag {f : Operand} {args : List Operand} (h1 : evM e f = evM e' f) (h2 : Ag e e' args) : vCallF e m f args = vCallF e' m f args := by
  unfold vCallF
  rw [rd_ag h1]
  congr 1; funext v
  rw [rds_ag h2]
theorem runF_env (h : Ag e e' o.op.operands.toList) : runF Pg T ents G o e m n r δ → runF Pg T ents G o e' m n r δ := by
  have hp : eOp Pg T e m n o = eOp Pg T e' m n o := eOp_env h
  unfold runF
  split
  · rename_i c hc
    rw [hc] at h
    split
    · rename_i f hf
      intro hr
      have := vCallF_ag (m := m) (args := c.args.toList) (h f (by simp [Op.operands, Call.operands, hf])) fun x hx => h x (by simp [Op.operands, Call.operands, hf]; exact .inr (by simpa using hx))
      rw [← this]; exact hr
    · rw [hp]; exact id
  · rw [hp]; exact id
theorem runF_nomem (h : Nat.ble (kls o) 1 = true) : runF Pg T ents G o e m n r δ → runF Pg T ents G o e m' n r δ := by
  have hp : eOp Pg T e m n o = eOp Pg T e m' n o := eOp_nomem h
  unfold runF
  split
  · rename_i c hc
    split
    · rename_i f hf
      simp [kls, hc, hf] at h
    · rw [hp]; exact id
  · rw [hp]; exact id
theorem runF_read (h : kls o = 2) (hs : SameB m m') : runF Pg T ents G o e m n r δ → runF Pg T ents G o e m' n r δ := by
  unfold runF
  split
  · rename_i c hc
    split
    · rename_i f hf
      intro hr
      unfold vCallF at hr ⊢
      unfold rd at hr ⊢
      split at hr
      · rename_i v hv
        generalize c.args.toList = az at hr
        have key : ∀ (az : List Operand) (k k' : List MV → Ask (FuncId × List MV × List (Nat × Nat))) (K K' : FuncId × List MV × List (Nat × Nat) → Prop), (∀ vs, (k vs).runP K → (k' vs).runP K') → (rds e az k).runP K → (rds e az k').runP K' := by
          intro az
          induction az with
          | nil => intro k k' K K' hk h; exact hk _ h
          | cons x az ih =>
            intro k k' K K' hk h
            unfold rds rd at h ⊢
            split at h
            · exact ih _ _ K K' (fun vs h => hk _ h) h
            · exact h.elim
        refine key az _ _ _ _ (fun vs hk => ?_) hr
        split at hk
        · refine frzs_weak (frzs_same hs (Ask.bind_runP.1 hk)) fun x hx => ?_
          obtain ⟨⟨h1, h2, h3, _⟩, h4⟩ := hx
          refine ⟨h1, h2, h3, fun c hc => ?_⟩
          cases hb : m c.1 with
          | none => exact absurd hb (h4 c hc)
          | some b =>
            obtain ⟨b', h5, _⟩ := hs _ _ hb
            rw [h5]; simp
        · exact hk.elim
      · exact hr.elim
    · exact fun hr => eOp_read h hs hr
  · exact fun hr => eOp_read h hs hr
/-- What it does to the blocks. -/
def DL (m : FM) : Nat → Dl → Prop
  | 0, δ => δ = .none
  | 1, δ => δ = .none ∨ ∃ b, δ = .new b
  | 2, δ => δ = .none ∨ ∃ l, δ = .bump l ∧ ∀ c ∈ l, m c.1 ≠ none
  | _, _ => True
theorem runF_out (h : runF Pg T ents G o e m n r δ) : DL m (kls o) δ := by
  have hp : (eOp Pg T e m n o).runP (fun x => x = (r, δ)) → DL m (kls o) δ := by
    intro h
    obtain ⟨r', δ', h1, h2⟩ := out_eOp Pg T e m n o _ h
    injection h2 with h2 h3
    subst h3
    generalize kls o = k at h1
    match k, h1 with
    | 0, h1 => exact h1
    | 1, h1 => exact .inr h1
    | 2, h1 => exact .inl h1
    | _ + 3, h1 => exact trivial
  unfold runF at h
  split at h
  · rename_i c hc
    split at h
    · rename_i f hf
      have hk : kls o = 2 := by simp [kls, hc, hf]
      rw [hk]
      unfold vCallF rd at h
      split at h
      · have key : ∀ (az : List Operand) (k : List MV → Ask (FuncId × List MV × List (Nat × Nat))) (K : FuncId × List MV × List (Nat × Nat) → Prop), (rds e az k).runP K → ∃ vs, (k vs).runP K := by
          intro az
          induction az with
          | nil => intro k K h; exact ⟨_, h⟩
          | cons x az ih =>
            intro k K h
            unfold rds rd at h
            split at h
            · obtain ⟨vs, h⟩ := ih _ K h; exact ⟨_, h⟩
            · exact h.elim
        obtain ⟨vs, h⟩ := key _ _ _ h
        split at h
        · obtain ⟨_, x, _, h⟩ := frzs_isVal (Ask.bind_runP.1 h)
          obtain ⟨h1, h2, h3, h4⟩ := h
          exact .inr ⟨_, h3, h4⟩
        · exact h.elim
      · exact h.elim
    · exact hp h
  · exact hp h
theorem actF_out (h : actF Pg T ents G ops o e m n r δ) : DL m (kls o) δ := by
  obtain ⟨b, h1, h2, h3⟩ := h
  cases b with
  | true => exact runF_out (h2 rfl)
  | false =>
    rw [(h3 rfl).2]
    generalize kls o = k
    match k with
    | 0 => exact rfl
    | 1 => exact .inl rfl
    | 2 => exact .inl rfl
    | _ + 3 => exact trivial
theorem actF_nomem (h : Nat.ble (kls o) 1 = true) : actF Pg T ents G ops o e m n r δ → actF Pg T ents G ops o e m' n r δ := by
  rintro ⟨b, h1, h2, h3⟩; exact ⟨b, h1, fun hb => runF_nomem h (h2 hb), h3⟩
theorem actF_read (h : kls o = 2) (hs : SameB m m') : actF Pg T ents G ops o e m n r δ → actF Pg T ents G ops o e m' n r δ := by
  rintro ⟨b, h1, h2, h3⟩; exact ⟨b, h1, fun hb => runF_read h hs (h2 hb), h3⟩
theorem actF_env (h : ∀ t ∈ o.looksAt ops, e t = e' t) : actF Pg T ents G ops o e m n r δ → actF Pg T ents G ops o e' m n r δ := by
  rintro ⟨b, h1, h2, h3⟩
  refine ⟨b, ?_, fun hb => runF_env (fun x hx => evM_ag fun t ht => h t ?_) (h2 hb), h3⟩
  · rw [← h1]
    unfold gdF
    split
    · rfl
    · rename_i j want hg
      split
      · rfl
      · rename_i s hs
        rw [h s (by
          unfold Oper.looksAt
          rw [hg]
          simp [hs])]
  · subst ht
    unfold Oper.looksAt
    refine List.mem_append.2 (.inl ?_)
    rw [List.mem_filterMap]
    exact ⟨_, hx, rfl⟩
end
end Go.Proofs.Ytplkofafnbfkmaa
/- Which blocks an operation looks at and writes. -/
namespace Go.Proofs.Ytplkofafnbfkmaa
open Go.RowKit

mutual
/-- The numbers of blocks in a value. -/
def numsV : MV → List Nat
  | .ptr c _ _ _ _ => [c]
  | .ms c _ _ _ => [c]
  | .st l => numsVs l
  | .fn _ l => numsVs l
  | .tup l => numsVs l
  | .ifc _ v => numsV v
  | _ => []
def numsVs : List MV → List Nat
  | [] => []
  | m :: l => numsV m ++ numsVs l
end
def numsO (e : Nat → Option MV) : List Operand → List Nat
  | [] => []
  | x :: l => (match evM e x with | some v => numsV v | none => []) ++ numsO e l
section
variable {P : Program} {T : Tab} {e : Nat → Option MV} {m m' : FM} {cnt : Nat} {A : Type}
theorem rd_loc {x : Operand} {k k' : MV → Ask A} (h : ∀ v, evM e x = some v → k' v = k v) : rd e x k' = rd e x k := by
  unfold rd
  cases hx : evM e x with
  | none => rfl
  | some v => exact h v hx
theorem rds_loc : ∀ {l : List Operand} {k k' : List MV → Ask A}, (∀ vs, l.map (evM e) = vs.map some → k' vs = k vs) → rds e l k' = rds e l k
  | [], _, _, h => h [] rfl
  | x :: l, k, k', h => by
    show rd e x _ = rd e x _
    exact rd_loc fun v hv => rds_loc fun vs hvs => h (v :: vs) (by simp [hv, hvs])
theorem numsO_eq : ∀ {l : List Operand} {vs : List MV}, l.map (evM e) = vs.map some → numsO e l = numsVs vs
  | [], [], _ => rfl
  | x :: l, v :: vs, h => by
    simp only [List.map_cons, List.cons.injEq] at h
    simp only [numsO, numsVs, h.1, numsO_eq h.2]
  | [], _ :: _, h => by simp at h
  | _ :: _, [], h => by simp at h
theorem numsVs_app : ∀ (l r : List MV), numsVs (l ++ r) = numsVs l ++ numsVs r
  | [], r => rfl
  | m :: l, r => by simp [numsVs, numsVs_app l r]
abbrev AgM (m' m : FM) (S : List Nat) : Prop := ∀ c ∈ S, m' c = m c
mutual
theorem frz_loc : ∀ {p : MV}, AgM m' m (numsV p) → frz m' p = frz m p
  | .ptr c es k fo path, h => by simp only [frz, h c (by simp [numsV])]
  | .ms c es off n, h => by simp only [frz, h c (by simp [numsV])]
  | .st l, h => by simp only [frz]; rw [frzs_loc (l := l) h]
  | .fn f l, h => by simp only [frz]; rw [frzs_loc (l := l) h]
  | .ifc t v, h => by simp only [frz]; rw [frz_loc (p := v) h]
  | .tup _, _ => rfl
  | .undef, _ => rfl
  | .int .., _ => rfl
  | .bool .., _ => rfl
  | .str .., _ => rfl
  | .nilp, _ => rfl
  | .gp .., _ => rfl
  | .ep .., _ => rfl
  | .sl .., _ => rfl
  | .nils, _ => rfl
  | .nilf, _ => rfl
  | .nili, _ => rfl
  | .arr .., _ => rfl
theorem frzs_loc : ∀ {l : List MV}, AgM m' m (numsVs l) → frzs m' l = frzs m l
  | [], _ => rfl
  | q :: l, h => by
    simp only [frzs]
    rw [frz_loc (p := q) fun c hc => h c (by simp [numsVs, hc]), frzs_loc (l := l) fun c hc => h c (by simp [numsVs, hc])]
end
theorem oLoad_loc {t : TypeId} {p : MV} (h : AgM m' m (numsV p)) : oLoad T m' t p = oLoad T m t p := by
  unfold oLoad
  cases p with
  | ptr c es k fo path => simp only [h c (by simp [numsV])]
  | _ => rfl
theorem oStore_loc {t : TypeId} {p v : MV} (h : AgM m' m (numsV p)) : oStore T m' t p v = oStore T m t p v := by
  unfold oStore
  cases p with
  | ptr c es k fo path => simp only [h c (by simp [numsV])]
  | _ => rfl
theorem oConv_loc {s d : TypeId} {p : MV} (h : AgM m' m (numsV p)) : oConv T m' s d p = oConv T m s d p := by
  unfold oConv
  split
  · rfl
  · rfl
  · rfl
  · have hh := h _ (List.mem_cons_self ..)
    simp only [hh]
  · rfl
  · rfl
theorem srcM_loc {es : Nat} {y : MV} {k : Nat → List MV → Ask (MV × Dl)} (h : AgM m' m (numsV y)) : srcM m' es y k = srcM m es y k := by
  unfold srcM
  cases y with
  | ms c es off n => simp only [h c (by simp [numsV])]
  | _ => rfl
theorem oAppend_loc {ats : List TypeId} {x y : MV} (hx : AgM m' m (numsV x)) (hy : AgM m' m (numsV y)) : oAppend P T m' cnt ats x y = oAppend P T m cnt ats x y := by
  unfold oAppend
  have hs : ∀ es k, srcM m' es y k = srcM m es y k := fun es k => srcM_loc hy
  cases x with
  | ms c es off n => simp only [hs, hx c (by simp [numsV])]
  | _ => simp only [hs]
theorem oBuiltin_loc {b : Builtin} {ats : Array TypeId} {vs : List MV} (h : AgM m' m (numsVs vs)) : oBuiltin P T m' cnt b ats vs = oBuiltin P T m cnt b ats vs := by
  cases b with
  | append =>
    unfold oBuiltin
    match vs, h with
    | [x, y], h => exact oAppend_loc (fun c hc => h c (by simp [numsVs, hc])) fun c hc => h c (by simp [numsVs, hc])
    | [], _ => rfl
    | [_], _ => rfl
    | _ :: _ :: _ :: _, _ => rfl
  | _ => rfl
/-- An operation looks at the blocks alone that its operands name. -/
theorem eOp_loc {o : Oper} (h : AgM m' m (numsO e o.op.operands.toList)) : eOp P T e m' cnt o = eOp P T e m cnt o := by
  obtain ⟨dst, op, ty, pos, after, guard⟩ := o
  replace h : AgM m' m (numsO e op.operands.toList) := h
  cases op with
  | load t x =>
    refine rd_loc fun v hv => oLoad_loc fun c hc => h c ?_
    simp [Op.operands, numsO, hv, hc]
  | store t x y =>
    refine rd_loc fun v hv => rd_loc fun u _ => oStore_loc fun c hc => h c ?_
    simp [Op.operands, numsO, hv, hc]
  | convert s d x =>
    refine rd_loc fun v hv => oConv_loc fun c hc => h c ?_
    simp [Op.operands, numsO, hv, hc]
  | call c =>
    obtain ⟨callee, args, ats⟩ := c
    cases callee with
    | builtin b =>
      refine rds_loc fun vs hvs => oBuiltin_loc fun c hc => h c ?_
      have e : (Op.call ⟨.builtin b, args, ats⟩).operands.toList = args.toList := by simp [Op.operands, Call.operands]
      rw [e, numsO_eq hvs]
      exact hc
    | _ => rfl
  | _ => rfl
/-- What is done to the blocks is done to those of S. -/
def FootD (S : List Nat) : Dl → Prop
  | .none => True
  | .new _ => True
  | .upd c _ => c ∈ S
  | .mv c _ => c ∈ S
  | .bump l => ∀ x ∈ l, x.1 ∈ S
theorem foot_oStore {t : TypeId} {p v : MV} : Out (FootD (numsV p)) (oStore T m t p v) := by
  unfold oStore
  split
  · exact Out.bad
  · split
    · split
      · exact Out.cond (Out.prf (Out.ask fun _ => Out.ask fun _ => Out.val fun _ => Out.ret (by simp [FootD, numsV]))) Out.bad
      · exact Out.bad
    · exact Out.bad
theorem foot_oAppend {ats : List TypeId} {x y : MV} : Out (FootD (numsV x)) (oAppend P T m cnt ats x y) := by
  have src : ∀ {es : Nat} {k : Nat → List MV → Ask (MV × Dl)}, (∀ n l, Out (FootD (numsV x)) (k n l)) → Out (FootD (numsV x)) (srcM m es y k) := by
    intro es k hk
    unfold srcM
    split
    · exact Out.prf (hk _ _)
    · exact hk _ _
    · split
      · exact Out.cond (Out.prf (Out.val fun _ => hk _ _)) Out.bad
      · exact Out.bad
    · exact Out.bad
  unfold oAppend
  split
  · refine Out.cond ?_ Out.bad
    split
    · split
      · refine Out.cond (Out.ask fun _ => src fun n l => ?_) Out.bad
        split
        · exact Out.prf (Out.ret trivial)
        · split
          · exact Out.cond (Out.prf (Out.val fun _ => Out.val fun _ => Out.ret (by simp [FootD, numsV]))) Out.bad
          · exact Out.bad
        · exact Out.bad
      · exact Out.bad
    · exact Out.bad
  · exact Out.bad
theorem FootD.sub {S S' : List Nat} {δ : Dl} (h : FootD S δ) (hs : ∀ c ∈ S, c ∈ S') : FootD S' δ := by
  cases δ with
  | none => trivial
  | new => trivial
  | upd c l => exact hs c h
  | mv c b => exact hs c h
  | bump l => exact fun x hx => hs _ (h x hx)
theorem foot_eOp {o : Oper} {r : MV} {δ : Dl} (h : (eOp P T e m cnt o).runP fun x => x = (r, δ)) : FootD (numsO e o.op.operands.toList) δ := by
  have gen : Nat.ble (kls o) 2 = true → FootD (numsO e o.op.operands.toList) δ := by
    intro hk
    obtain ⟨r', δ', h1, h2⟩ := out_eOp P T e m cnt o _ h
    injection h2 with h2 h3
    subst h3
    generalize kls o = k at h1 hk
    match k, h1, hk with
    | 0, h1, _ => rw [show δ' = .none from h1]; trivial
    | 1, h1, _ => obtain ⟨b, h1⟩ := (show ∃ b, δ' = .new b from h1); rw [h1]; trivial
    | 2, h1, _ => rw [show δ' = .none from h1]; trivial
    | _ + 3, _, hk => simp at hk
  have fromRd : ∀ {x : Operand} {k : MV → Ask (MV × Dl)} {S : List Nat}, (∀ v, evM e x = some v → Out (FootD S) (k v)) → (rd e x k).runP (fun x => x = (r, δ)) → FootD S δ := by
    intro x k S hk h
    unfold rd at h
    split at h
    · rename_i v hv
      obtain ⟨r', δ', h1, h2⟩ := hk v hv _ h
      injection h2 with h2 h3
      subst h3; exact h1
    · exact h.elim
  obtain ⟨dst, op, ty, pos, after, guard⟩ := o
  cases op with
  | store t x y =>
    refine fromRd (S := numsO e [x, y]) (fun v hv => ?_) h
    refine Out.rd fun u => ?_
    intro K hK
    obtain ⟨r', δ', h1, h2⟩ := foot_oStore K hK
    exact ⟨r', δ', h1.sub fun c hc => by simp [numsO, hv, hc], h2⟩
  | call c =>
    obtain ⟨callee, args, ats⟩ := c
    cases callee with
    | builtin b =>
      cases b with
      | append =>
        have e1 : (Op.call ⟨.builtin .append, args, ats⟩).operands.toList = args.toList := by simp [Op.operands, Call.operands]
        show FootD (numsO e (Op.call ⟨.builtin .append, args, ats⟩).operands.toList) δ
        rw [e1]
        replace h : (rds e args.toList fun vs => oBuiltin P T m cnt .append ats vs).runP fun x => x = (r, δ) := h
        have key : ∀ (l : List Operand) (k : List MV → Ask (MV × Dl)) (K : MV × Dl → Prop), (rds e l k).runP K → ∃ vs, l.map (evM e) = vs.map some ∧ (k vs).runP K := by
          intro l
          induction l with
          | nil => intro k K h; exact ⟨[], rfl, h⟩
          | cons x l ih =>
            intro k K h
            unfold rds rd at h
            split at h
            · rename_i v hv
              obtain ⟨vs, h1, h2⟩ := ih _ K h
              exact ⟨v :: vs, by simp [hv, h1], h2⟩
            · exact h.elim
        obtain ⟨vs, h1, h2⟩ := key _ _ _ h
        rw [numsO_eq h1]
        unfold oBuiltin at h2
        simp only at h2
        split at h2
        · rename_i x y
          obtain ⟨r', δ', h3, h4⟩ := foot_oAppend _ h2
          injection h4 with h4 h5
          subst h5
          exact h3.sub fun c hc => by simp [numsVs, hc]
        · exact h2.elim
      | _ => exact gen rfl
    | _ => exact h.elim
  | _ => exact gen rfl
/-- What is done to blocks elsewhere. -/
theorem appF_out {S : List Nat} {δ : Dl} (h : FootD S δ) {c : Nat} (hc : c ∉ S) (hn : c ≠ cnt) : δ.appF cnt m c = m c := by
  cases δ with
  | none => rfl
  | new b => exact fput_ne _ _ hn
  | upd c' l =>
    show (match m c' with | some b => fput m c' { b with l := l } | none => m) c = m c
    cases m c' with
    | none => rfl
    | some b => exact fput_ne _ _ (by rintro rfl; exact hc h)
  | mv c' b =>
    show fput (fdel m c') cnt b c = m c
    rw [fput_ne _ _ hn]
    unfold fdel
    rw [if_neg (by rintro rfl; exact hc h)]
  | bump l =>
    show bumpF m l c = m c
    rw [bumpF_get]
    have h' : ∀ x ∈ l, x.1 ∈ S := h
    clear h
    have : mxB l c = 0 := by
      induction l with
      | nil => rfl
      | cons x l ih =>
        obtain ⟨k, n⟩ := x
        have : k ≠ c := by rintro rfl; exact hc (h' (k, n) (by simp))
        simp only [mxB, this, if_false]
        exact ih fun y hy => h' y (by simp [hy])
    rw [this]
    cases m c with
    | none => rfl
    | some b => simp
theorem appF_in {S : List Nat} {δ : Dl} (h : FootD S δ) (ha : ∀ c, c ∈ S ∨ c = cnt → m' c = m c) {c : Nat} (hc : c ∈ S ∨ c = cnt) : δ.appF cnt m' c = δ.appF cnt m c := by
  cases δ with
  | none => exact ha c hc
  | new b =>
    show fput m' cnt b c = fput m cnt b c
    unfold fput
    split
    · rfl
    · exact ha c hc
  | upd c' l =>
    show (match m' c' with | some b => fput m' c' { b with l := l } | none => m') c = (match m c' with | some b => fput m c' { b with l := l } | none => m) c
    rw [ha c' (.inl h)]
    cases m c' with
    | none => exact ha c hc
    | some b =>
      show fput m' c' _ c = fput m c' _ c
      unfold fput
      split
      · rfl
      · exact ha c hc
  | mv c' b =>
    show fput (fdel m' c') cnt b c = fput (fdel m c') cnt b c
    unfold fput fdel
    split
    · rfl
    · split
      · rfl
      · exact ha c hc
  | bump l =>
    show bumpF m' l c = bumpF m l c
    rw [bumpF_get, bumpF_get, ha c hc]
mutual
theorem foot_frz : ∀ {p : MV} {K : MV × List (Nat × Nat) → Prop}, (frz m p).runP K → (frz m p).runP fun x => K x ∧ ∀ z ∈ x.2, z.1 ∈ numsV p
  | .ms c es off n, K, h => by
    simp only [frz] at h ⊢
    split at h
    · split at h
      · obtain ⟨a1, l, a2, h⟩ := h
        exact ⟨a1, l, a2, h, fun z hz => by simp at hz; subst hz; simp [numsV]⟩
      · exact h.elim
    · exact h.elim
  | .st l, K, h => by simp only [frz] at h ⊢; exact frzs_weak (foot_frzs (Ask.bind_runP.1 h)) fun _ h => h
  | .fn f l, K, h => by simp only [frz] at h ⊢; exact frzs_weak (foot_frzs (Ask.bind_runP.1 h)) fun _ h => h
  | .ifc t v, K, h => by simp only [frz] at h ⊢; exact frz_weak (foot_frz (Ask.bind_runP.1 h)) fun _ h => h
  | .ptr c es k fo path, K, h => by
    simp only [frz] at h ⊢
    split at h
    · rename_i b hb
      cases he : Nat.beq b.es es with
      | false => rw [he] at h; exact h.elim
      | true =>
        rw [he] at h
        obtain ⟨v, q1, h⟩ := h
        cases hf : v.idFree with
        | false => rw [hf] at h; exact h.elim
        | true => rw [hf] at h; exact ⟨v, q1, by simp only [hf]; exact ⟨h, fun z hz => by simp at hz; subst hz; simp [numsV]⟩⟩
    · exact h.elim
  | .tup _, K, h => by simp only [frz] at h; exact h.elim
  | .undef, K, h => by simp only [frz] at h; exact h.elim
  | .int .., K, h => by simp only [frz] at h ⊢; exact ⟨h, fun _ hc => nomatch hc⟩
  | .bool .., K, h => by simp only [frz] at h ⊢; exact ⟨h, fun _ hc => nomatch hc⟩
  | .str .., K, h => by simp only [frz] at h ⊢; exact ⟨h, fun _ hc => nomatch hc⟩
  | .nilp, K, h => by simp only [frz] at h ⊢; exact ⟨h, fun _ hc => nomatch hc⟩
  | .gp .., K, h => by simp only [frz] at h ⊢; exact ⟨h, fun _ hc => nomatch hc⟩
  | .ep .., K, h => by simp only [frz] at h ⊢; exact ⟨h, fun _ hc => nomatch hc⟩
  | .sl .., K, h => by simp only [frz] at h ⊢; exact ⟨h, fun _ hc => nomatch hc⟩
  | .nils, K, h => by simp only [frz] at h ⊢; exact ⟨h, fun _ hc => nomatch hc⟩
  | .nilf, K, h => by simp only [frz] at h ⊢; exact ⟨h, fun _ hc => nomatch hc⟩
  | .nili, K, h => by simp only [frz] at h ⊢; exact ⟨h, fun _ hc => nomatch hc⟩
  | .arr .., K, h => by simp only [frz] at h ⊢; exact ⟨h, fun _ hc => nomatch hc⟩
theorem foot_frzs : ∀ {l : List MV} {K : List MV × List (Nat × Nat) → Prop}, (frzs m l).runP K → (frzs m l).runP fun x => K x ∧ ∀ z ∈ x.2, z.1 ∈ numsVs l
  | [], K, h => ⟨h, fun _ hc => nomatch hc⟩
  | q :: l, K, h => by
    simp only [frzs] at h ⊢
    refine frz_weak (foot_frz (Ask.bind_runP.1 h)) fun x hx => ?_
    refine frzs_weak (foot_frzs (Ask.bind_runP.1 hx.1)) fun y hy => ⟨hy.1, fun c hc => ?_⟩
    rw [numsVs, List.mem_append]
    rcases List.mem_append.1 hc with hc | hc
    · exact .inl (hx.2 c hc)
    · exact .inr (hy.2 c hc)
end
theorem rds_mono {B : Type} : ∀ {l : List Operand} {k : List MV → Ask A} {k' : List MV → Ask B} {K : A → Prop} {K' : B → Prop}, (∀ vs, l.map (evM e) = vs.map some → (k vs).runP K → (k' vs).runP K') → (rds e l k).runP K → (rds e l k').runP K'
  | [], _, _, _, _, hk, h => hk [] rfl h
  | x :: l, k, k', K, K', hk, h => by
    unfold rds rd at h ⊢
    split at h
    · rename_i v hv
      exact rds_mono (k := fun r => k (v :: r)) (k' := fun r => k' (v :: r)) (fun vs hvs h => hk (v :: vs) (by simp [hv, hvs]) h) h
    · exact h.elim
theorem rds_some : ∀ {l : List Operand} {k : List MV → Ask A} {K : A → Prop}, (rds e l k).runP K → ∃ vs, l.map (evM e) = vs.map some ∧ (k vs).runP K
  | [], _, _, h => ⟨[], rfl, h⟩
  | x :: l, k, K, h => by
    unfold rds rd at h
    split at h
    · rename_i v hv
      obtain ⟨vs, h1, h2⟩ := rds_some (k := fun r => k (v :: r)) h
      exact ⟨v :: vs, by simp [hv, h1], h2⟩
    · exact h.elim
section
variable {ents : List FuncId} {G : GS} {ops : Array Oper} {o : Oper} {n : Nat} {r : MV} {δ : Dl} {m1 : FM}
theorem call_ops {c : Call} {f : Operand} (hf : c.callee = .value f) : (Op.call c).operands.toList = f :: c.args.toList := by simp [Op.operands, Call.operands, hf]
theorem foot_runF (h : runF P T ents G o e m n r δ) : FootD (numsO e o.op.operands.toList) δ := by
  unfold runF at h
  split at h
  · rename_i c hc
    split at h
    · rename_i f hf
      rw [hc, call_ops hf]
      unfold vCallF rd at h
      split at h
      · rename_i v hv
        obtain ⟨vs, h1, h2⟩ := rds_some h
        split at h2
        · obtain ⟨_, x, _, h4, h3⟩ := frzs_isVal (foot_frzs (Ask.bind_runP.1 h2))
          obtain ⟨_, _, rfl, _⟩ := h4
          intro z hz
          have := h3 z hz
          rw [numsVs_app] at this
          simp only [numsO, hv, numsV, numsO_eq h1, List.mem_append] at this ⊢
          exact this.symm
        · exact h2.elim
      · exact h.elim
    · exact foot_eOp h
  · exact foot_eOp h
theorem foot_actF (h : actF P T ents G ops o e m n r δ) : FootD (numsO e o.op.operands.toList) δ := by
  obtain ⟨b, _, h2, h3⟩ := h
  cases b with
  | false => rw [(h3 rfl).2]; trivial
  | true => exact foot_runF (h2 rfl)
theorem runF_loc (ha : AgM m1 m (numsO e o.op.operands.toList)) : runF P T ents G o e m n r δ → runF P T ents G o e m1 n r δ := by
  have hp : eOp P T e m1 n o = eOp P T e m n o := eOp_loc ha
  unfold runF
  split
  · rename_i c hc
    split
    · rename_i f hf
      rw [hc, call_ops hf] at ha
      intro hr
      unfold vCallF rd at hr ⊢
      split at hr
      · rename_i v hv
        refine rds_mono (fun vs hvs h => ?_) hr
        split at h
        · rename_i f0 caps
          have hag : AgM m1 m (numsVs (vs ++ caps)) := fun c hc => ha c (by
            rw [numsVs_app] at hc
            simp only [numsO, hv, numsV, numsO_eq hvs, List.mem_append] at hc ⊢
            exact hc.symm)
          show (frzs m1 (vs ++ caps)).runP _
          rw [frzs_loc hag]
          refine frzs_weak (foot_frzs (Ask.bind_runP.1 h)) fun x hx => ?_
          obtain ⟨⟨p1, p2, p3, p4⟩, p5⟩ := hx
          exact ⟨p1, p2, p3, fun z hz => by rw [hag z.1 (p5 z hz)]; exact p4 z hz⟩
        · exact h.elim
      · exact hr.elim
    · rw [hp]; exact id
  · rw [hp]; exact id
theorem actF_loc (ha : AgM m1 m (numsO e o.op.operands.toList)) : actF P T ents G ops o e m n r δ → actF P T ents G ops o e m1 n r δ := by
  rintro ⟨b, h1, h2, h3⟩; exact ⟨b, h1, fun hb => runF_loc ha (h2 hb), h3⟩
end
end
end Go.Proofs.Ytplkofafnbfkmaa
/- Two operations that do not meet may change places. -/
namespace Go.Proofs.Ytplkofafnbfkmaa
open Go.RowKit

theorem bumpF_comm (m : FM) (l l' : List (Nat × Nat)) : bumpF (bumpF m l) l' = bumpF (bumpF m l') l := by
  funext c
  rw [bumpF_get, bumpF_get, bumpF_get, bumpF_get]
  cases m c with
  | none => rfl
  | some b => simp [Nat.max_assoc, Nat.max_comm (mxB l c)]
theorem sameB_bump (m : FM) (l : List (Nat × Nat)) : SameB m (bumpF m l) := fun c b h => ⟨{ b with pe := Nat.max b.pe (mxB l c) }, by rw [bumpF_get, h]; rfl, rfl, rfl, rfl, rfl⟩
theorem sameB_back (m : FM) (l : List (Nat × Nat)) : SameB (bumpF m l) m := fun c b h => by
  rw [bumpF_get] at h
  cases hb : m c with
  | none => rw [hb] at h; cases h
  | some b' => rw [hb] at h; injection h with h; subst h; exact ⟨b', rfl, rfl, rfl, rfl, rfl⟩
theorem sameB_new {m : FM} {j : Nat} (h : m j = none) (b : MB) : SameB m (fput m j b) := fun c b' hb => by
  have : fput m j b c = some b' := by
    unfold fput
    rw [if_neg]
    · exact hb
    · rintro rfl
      rw [h] at hb
      cases hb
  exact ⟨b', this, rfl, rfl, rfl, rfl⟩
theorem bumpF_new {m : FM} {j : Nat} {b : MB} {l : List (Nat × Nat)} (h : m j = none) (hl : ∀ c ∈ l, m c.1 ≠ none) : bumpF (fput m j b) l = fput (bumpF m l) j b := by
  have h0 : ∀ {l : List (Nat × Nat)}, (∀ c ∈ l, m c.1 ≠ none) → mxB l j = 0 := by
    intro l
    induction l with
    | nil => intro _; rfl
    | cons x l ih =>
      intro hl
      obtain ⟨k, n⟩ := x
      have : k ≠ j := by rintro rfl; exact hl (k, n) (by simp) h
      simp only [mxB, this, if_false]
      exact ih fun c hc => hl c (by simp [hc])
  funext c
  rw [bumpF_get]
  unfold fput
  by_cases hc : c = j
  · subst hc; simp [h0 hl]
  · simp only [hc, if_false]; rw [bumpF_get]
theorem fput_comm {α : Type} {m : Nat → Option α} {i j : Nat} {a b : α} (h : i ≠ j) : fput (fput m i a) j b = fput (fput m j b) i a := by
  funext c
  unfold fput
  by_cases h1 : c = i
  · subst h1; simp [h]
  · simp [h1]
section
variable (Pg : Program) (T : Tab) (N : Nat) (ents : List FuncId) (G : GS)
def vArgsF (e : Nat → Option MV) (f : Operand) (args : List Operand) : Ask (FuncId × List MV) :=
  rd e f fun fv => rds e args fun vs => match fv with
    | .fn f0 caps => .ret (f0, vs ++ caps)
    | _ => .bad
/-- A call that is handed blocks, in a region that draws its order. -/
def refF (o : Oper) (e : Nat → Option MV) (m : FM) (fp : List Nat) (r : MV) (m' : FM) : Prop := match o.op with
  | .call c => match c.callee with
    | .value f => (vArgsF e f c.args.toList).runP fun x => ents.contains x.1 = true ∧ ∃ M, VM.get M = m ∧ vCallZ Pg G M x.1 x.2 fp fun r' M' => r' = r ∧ VM.get M' = m'
    | _ => False
  | _ => False
def actR (ops : Array Oper) (o : Oper) (e : Nat → Option MV) (m : FM) (fp : List Nat) (r : MV) (m' : FM) : Prop :=
  ∃ b, gdF ops o e = some b ∧ (b = true → refF Pg ents G o e m fp r m') ∧ (b = false → r = .undef ∧ m' = m)
def stepF (ops : Array Oper) (rf : Bool) (o : Oper) (n : Nat) (fp : List Nat) (e : Nat → Option MV) (m : FM) (e' : Nat → Option MV) (m' : FM) : Prop :=
  ∃ r, (∀ d, o.dst = some d → d < N) ∧ e' = putF o.dst r e ∧ match rf with
    | false => ∃ δ, actF Pg T ents G ops o e m n r δ ∧ m' = δ.appF n m ∧ fp = numsO e o.op.operands.toList
    | true => actR Pg ents G ops o e m fp r m'
end
section
variable {Pg : Program} {T : Tab} {N : Nat} {ents : List FuncId} {G : GS} {ops : Array Oper} {o x y : Oper} {e e1 e2 e' : Nat → Option MV} {m m1 m2 m' : FM} {M M2 : VM} {i j n : Nat} {fp fx fy : List Nat} {rf rx ry : Bool} {r : MV}
theorem putF_ne {d : Option Tmp} {r : MV} {e : Nat → Option MV} {l : List Tmp} (h : ∀ t, d = some t → t ∉ l) : ∀ t ∈ l, putF d r e t = e t := by
  intro t ht
  cases d with
  | none => rfl
  | some d =>
    show fput e d r t = e t
    unfold fput
    rw [if_neg]
    rintro rfl
    exact h _ rfl ht
theorem putF_comm {d d' : Option Tmp} {r r' : MV} (h : ∀ t, d = some t → d' ≠ some t) : putF d r (putF d' r' e) = putF d' r' (putF d r e) := by
  cases d with
  | none => rfl
  | some d =>
    cases d' with
    | none => rfl
    | some d' => exact fput_comm fun hh => h d rfl (by rw [hh])
theorem evM_looks {t : Operand} (h : ∀ t ∈ o.looksAt ops, e t = e' t) (ht : t ∈ o.op.operands.toList) : evM e t = evM e' t := evM_ag fun s hs => h s (by
  subst hs
  unfold Oper.looksAt
  refine List.mem_append.2 (.inl ?_)
  rw [List.mem_filterMap]
  exact ⟨_, ht, rfl⟩)
theorem numsO_ag (h : ∀ t ∈ o.looksAt ops, e t = e' t) : numsO e o.op.operands.toList = numsO e' o.op.operands.toList := by
  have key : ∀ l : List Operand, (∀ x ∈ l, evM e x = evM e' x) → numsO e l = numsO e' l := by
    intro l
    induction l with
    | nil => intro _; rfl
    | cons x l ih => intro h; simp only [numsO]; rw [h x (by simp), ih fun y hy => h y (by simp [hy])]
  exact key _ fun x hx => evM_looks h hx
theorem gdF_ag (h : ∀ t ∈ o.looksAt ops, e t = e' t) : gdF ops o e = gdF ops o e' := by
  unfold gdF
  split
  · rfl
  · rename_i j want hg
    split
    · rfl
    · rename_i s hs
      rw [h s (by
        unfold Oper.looksAt
        rw [hg]
        simp [hs])]
theorem refF_ag (h : ∀ t ∈ o.looksAt ops, e t = e' t) : refF Pg ents G o e m fp r m' → refF Pg ents G o e' m fp r m' := by
  have hh : ∀ x ∈ o.op.operands.toList, evM e x = evM e' x := fun x hx => evM_looks h hx
  unfold refF
  split
  · rename_i c hc
    split
    · rename_i f hf
      rw [hc, call_ops hf] at hh
      have : vArgsF e f c.args.toList = vArgsF e' f c.args.toList := by
        unfold vArgsF
        rw [rd_ag (hh f (by simp))]
        congr 1; funext v
        rw [rds_ag fun x hx => hh x (by simp [hx])]
      rw [this]; exact id
    · exact id
  · exact id
theorem actR_ag (h : ∀ t ∈ o.looksAt ops, e t = e' t) : actR Pg ents G ops o e m fp r m' → actR Pg ents G ops o e' m fp r m' := by
  rintro ⟨b, h1, h2, h3⟩; exact ⟨b, by rw [← gdF_ag h]; exact h1, fun hb => refF_ag h (h2 hb), h3⟩

theorem subN_out {l S : List Nat} (h : subN l S = true) : ∀ c ∈ l, c ∈ S := by
  intro c hc
  unfold subN at h
  rw [List.all_eq_true] at h
  obtain ⟨x, hx, he⟩ := List.any_eq_true.1 (h c hc)
  rw [← Nat.eq_of_beq_eq_true he]; exact hx
theorem get_delM_eq : ∀ (σ : List (Nat × Nat)) (M : VM) (x : Nat), x ∉ σ.map (·.2) → VM.get (delM M σ) x = VM.get M x
  | [], M, x, _ => rfl
  | (c, d) :: σ, M, x, h => by
    simp only [List.map_cons, List.mem_cons, not_or] at h
    show VM.get (delM (VM.del M d) σ) x = _
    rw [get_delM_eq σ _ x h.2, VM.get_del]
    unfold fdel
    rw [if_neg h.1]
theorem get_delM_in : ∀ (σ : List (Nat × Nat)) (M : VM) (x : Nat), x ∈ σ.map (·.2) → VM.get (delM M σ) x = none := by
  intro σ M x h
  cases hx : VM.get (delM M σ) x with
  | none => rfl
  | some b =>
    obtain ⟨_, h2⟩ := get_delM σ M x b hx
    obtain ⟨⟨c, d⟩, h3, rfl⟩ := List.mem_map.1 h
    exact absurd h3 (h2 c)
theorem bump_same {bs : List (Nat × Nat)} {c : Nat} (h : c ∉ bs.map (·.1)) : VM.get (VM.bump M bs) c = VM.get M c := by
  rw [VM.get_bump, bumpF_get]
  have : mxB bs c = 0 := by
    induction bs with
    | nil => rfl
    | cons x l ih =>
      obtain ⟨k, n⟩ := x
      simp only [List.map_cons, List.mem_cons, not_or] at h
      simp only [mxB]
      rw [if_neg fun hh => h.1 (Eq.symm hh)]
      exact ih h.2
  rw [this]
  cases VM.get M c with
  | none => rfl
  | some b => simp
theorem bump_loc {bs : List (Nat × Nat)} {c : Nat} (h : VM.get M2 c = VM.get M c) : VM.get (VM.bump M2 bs) c = VM.get (VM.bump M bs) c := by
  rw [VM.get_bump, VM.get_bump, bumpF_get, bumpF_get, h]
theorem LMatch.loc {args vs : List MV} {M0 : VM} {n0 : Nat} {σ bs : List (Nat × Nat)} (h : LMatch 0 args M0 n0 vs M σ bs) (ha : AgM (VM.get M2) (VM.get M) fp) (h1 : ∀ c ∈ σ.map (·.2), c ∈ fp) (h2 : ∀ c ∈ bs.map (·.1), c ∈ fp) : LMatch 0 args M0 n0 vs M2 σ bs := by
  obtain ⟨q1, q2, q3, q4, q5⟩ := h
  have hb : okB M2 bs := by
    clear q4 q5
    induction bs with
    | nil => trivial
    | cons x l ih =>
      obtain ⟨c, k⟩ := x
      refine ⟨?_, ih (fun c hc => h2 c (by simp at hc ⊢; exact .inr hc)) q2.2⟩
      rw [ha c (h2 c (by simp))]
      exact q2.1
  have hf : fzb M2 bs = fzb M bs := by
    clear q2 q4 q5 hb
    induction bs with
    | nil => rfl
    | cons x l ih =>
      obtain ⟨c, k⟩ := x
      funext d
      show (bif Nat.beq c d then (match VM.get M2 d with | some b => some (b, k) | none => none) else fzb M2 l d) = (bif Nat.beq c d then (match VM.get M d with | some b => some (b, k) | none => none) else fzb M l d)
      by_cases e : c = d
      · subst e
        rw [ha c (h2 c (by simp))]
        simp
      · simp only [beq_ne e, cond_false]
        rw [ih fun c hc => h2 c (by simp at hc ⊢; exact .inr hc)]
  refine ⟨q1, hb, q3, by rw [hf]; exact q4, ?_⟩
  rw [hf]
  clear q3 q4
  induction M0 with
  | nil => trivial
  | cons x M0 ih =>
    obtain ⟨c, b'⟩ := x
    refine ⟨?_, ih q5.2⟩
    rcases q5.1 with h | ⟨c0, b, s1, s2, s3⟩
    · exact .inl h
    · have hc0 : c0 ∈ fp := h1 c0 (List.mem_map.2 ⟨(c, c0), sig_mem (show sig σ c = some c0 from s1), rfl⟩)
      exact .inr ⟨c0, b, s1, by rw [bump_loc (ha c0 hc0)]; exact s2, s3⟩
theorem ren_key {ρ : Nat → Nat} {x : Nat} : ∀ {M1 : VM}, (∀ z ∈ M1, ρ z.1 ≠ x) → VM.get (renM ρ M1) x = none
  | [], _ => rfl
  | (c, b) :: M1, h => by
    show VM.get ((ρ c, _) :: renM ρ M1) x = none
    rw [VM.get_cons, if_neg (h (c, b) (by simp))]
    exact ren_key fun z hz => h z (by simp [hz])
theorem refF_loc (h : refF Pg ents G o e (VM.get M) fp r m') (ha : AgM (VM.get M2) (VM.get M) fp) : (∃ M2', refF Pg ents G o e (VM.get M2) fp r (VM.get M2') ∧ AgM (VM.get M2') m' fp) ∧ ∀ c, c ∉ fp → m' c = VM.get M c := by
  unfold refF at h ⊢
  split at h
  · rename_i c hc
    split at h
    · rename_i f hf
      have key : ∀ {K : FuncId × List MV → Prop}, (vArgsF e f c.args.toList).runP K → ∃ x, K x ∧ ∀ K' : FuncId × List MV → Prop, K' x → (vArgsF e f c.args.toList).runP K' := by
        intro K hK
        unfold vArgsF at hK ⊢
        obtain ⟨a, h1, h2, h3⟩ := (Sharp.rd fun fv => Sharp.rds fun vs => by cases fv <;> first | exact Sharp.ret _ | exact Sharp.bad) K hK
        exact ⟨a, h2, h3⟩
      obtain ⟨x, ⟨hx, M', hM', args, M0, n0, res, M1, hsem, σ, bs, hL, hin, hk, s1, s2, rfl, rfl⟩, hback⟩ := key h
      have hsub1 := subN_out s1
      have hsub2 := subN_out s2
      have ha' : AgM (VM.get M2) (VM.get M') fp := fun c hc => by rw [hM']; exact ha c hc
      have hin2 : allIn M2 σ = true := by
        clear hL hk hsem h
        induction σ with
        | nil => rfl
        | cons z σ ih =>
          obtain ⟨p, q⟩ := z
          have hin : ((VM.get M' q).isSome && allIn M' σ) = true := hin
          show ((VM.get M2 q).isSome && allIn M2 σ) = true
          rw [Bool.and_eq_true] at hin ⊢
          rw [ha' q (hsub1 q (by simp))]
          refine ⟨hin.1, ih hin.2 ?_ fun c hc => hsub1 c (by simp at hc ⊢; exact .inr hc)⟩
          unfold subN at s1 ⊢
          simp only [List.map_cons, List.all_cons, Bool.and_eq_true] at s1
          exact s1.2
      refine ⟨⟨_, hback _ ⟨hx, M2, rfl, args, M0, n0, res, M1, hsem, σ, bs, hL.loc ha' hsub1 hsub2, hin2, hk, s1, s2, rfl, rfl⟩, fun c hc => ?_⟩, fun c hc => ?_⟩
      · rw [get_app, get_app]
        have : VM.get (delM (VM.bump M2 bs) σ) c = VM.get (delM (VM.bump M' bs) σ) c := by
          by_cases hs : c ∈ σ.map (·.2)
          · rw [get_delM_in _ _ _ hs, get_delM_in _ _ _ hs]
          · rw [get_delM_eq _ _ _ hs, get_delM_eq _ _ _ hs, bump_loc (ha' c hc)]
        rw [this]
      · rw [get_app, ren_key fun z hz => ?_]
        · show VM.get (delM (VM.bump M' bs) σ) c = _
          rw [get_delM_eq _ _ _ fun hs => hc (hsub1 c hs), bump_same fun hs => hc (hsub2 c hs), hM']
        · rw [List.all_eq_true] at hk
          obtain ⟨d, hd⟩ := Option.isSome_iff_exists.1 (hk z hz)
          unfold rhoZ
          rw [hd]
          rintro rfl
          exact hc (hsub1 _ (List.mem_map.2 ⟨(z.1, d), sig_mem hd, rfl⟩))
    · exact h.elim
  · exact h.elim
theorem step_swapV (h1 : stepF Pg T N ents G ops false x i fx e m e1 m1) (h2 : stepF Pg T N ents G ops false y j fy e1 m1 e2 m2) (ha : x.apart ops y = true) (hc : okC (kls x) (kls y) = true) (hij : i ≠ j) (_hi : m i = none) (hj : m j = none) :
    ∃ e' m', stepF Pg T N ents G ops false y j fy e m e' m' ∧ stepF Pg T N ents G ops false x i fx e' m' e2 m2 := by
  obtain ⟨rx, dx, rfl, δx, ax, rfl, nx⟩ := h1
  obtain ⟨ry, dy, rfl, δy, ay, rfl, ny⟩ := h2
  obtain ⟨p1, p2, p3⟩ := Oper.apart_spec ha
  have ay' : actF Pg T ents G ops y e (δx.appF i m) j ry δy := actF_env (putF_ne p1) ay
  have ex : ∀ {m'}, actF Pg T ents G ops x e m' i rx δx → actF Pg T ents G ops x (putF y.dst ry e) m' i rx δx := actF_env fun t ht => (putF_ne p3 t ht).symm
  have hput := putF_comm (e := e) (d := y.dst) (d' := x.dst) (r := ry) (r' := rx) fun t h h' => p2 t h' h
  suffices h : actF Pg T ents G ops y e m j ry δy ∧ actF Pg T ents G ops x e (δy.appF j m) i rx δx ∧ δy.appF j (δx.appF i m) = δx.appF i (δy.appF j m) from
    ⟨_, _, ⟨ry, dy, rfl, δy, h.1, rfl, ny.trans (numsO_ag (putF_ne p1))⟩, ⟨rx, dx, hput, δx, ex h.2.1, h.2.2, nx.trans (numsO_ag fun t ht => (putF_ne p3 t ht).symm)⟩⟩
  have ox := actF_out ax
  have oy := actF_out ay'
  match hx : kls x, hy : kls y, hc with
  | 0, _, _ =>
    rw [hx] at ox
    obtain rfl : δx = .none := ox
    exact ⟨ay', actF_nomem (by rw [hx]; rfl) ax, rfl⟩
  | _ + 1, 0, _ =>
    rw [hy] at oy
    obtain rfl : δy = .none := oy
    exact ⟨actF_nomem (by rw [hy]; rfl) ay', ax, rfl⟩
  | 1, 1, _ =>
    rw [hx] at ox
    rw [hy] at oy
    refine ⟨actF_nomem (by rw [hy]; rfl) ay', actF_nomem (by rw [hx]; rfl) ax, ?_⟩
    rcases ox with rfl | ⟨b, rfl⟩
    · rfl
    · rcases oy with rfl | ⟨b', rfl⟩
      · rfl
      · exact fput_comm hij
  | 2, 1, _ =>
    rw [hx] at ox
    rw [hy] at oy
    refine ⟨actF_nomem (by rw [hy]; rfl) ay', ?_, ?_⟩
    · rcases oy with rfl | ⟨b', rfl⟩
      · exact ax
      · exact actF_read hx (sameB_new hj _) ax
    · rcases oy with rfl | ⟨b', rfl⟩
      · rfl
      · rcases ox with rfl | ⟨l, rfl, hl⟩
        · rfl
        · exact (bumpF_new hj hl).symm
  | 2, 2, _ =>
    rw [hx] at ox
    rw [hy] at oy
    rcases ox with rfl | ⟨l, rfl, hl⟩
    · rcases oy with rfl | ⟨l', rfl, hl'⟩
      · exact ⟨ay', ax, rfl⟩
      · exact ⟨ay', actF_read hx (sameB_bump _ _) ax, rfl⟩
    · rcases oy with rfl | ⟨l', rfl, hl'⟩
      · exact ⟨actF_read hy (sameB_back _ _) ay', ax, rfl⟩
      · exact ⟨actF_read hy (sameB_back _ _) ay', actF_read hx (sameB_bump _ _) ax, bumpF_comm _ _ _⟩
  | 1, _ + 2, h => cases h
  | 2, _ + 3, h => cases h
  | _ + 3, _ + 1, h => cases h
theorem actR_loc (h : actR Pg ents G ops o e (VM.get M) fp r m') (ha : AgM (VM.get M2) (VM.get M) fp) : (∃ M2', actR Pg ents G ops o e (VM.get M2) fp r (VM.get M2') ∧ AgM (VM.get M2') m' fp) ∧ ∀ c, c ∉ fp → m' c = VM.get M c := by
  obtain ⟨b, h1, h2, h3⟩ := h
  cases b with
  | true =>
    obtain ⟨⟨M2', p1, p2⟩, p3⟩ := refF_loc (h2 rfl) ha
    exact ⟨⟨M2', ⟨true, h1, fun _ => p1, fun h => nomatch h⟩, p2⟩, p3⟩
  | false =>
    obtain ⟨rfl, rfl⟩ := h3 rfl
    exact ⟨⟨M2, ⟨false, h1, fun h => (nomatch h), fun _ => ⟨rfl, rfl⟩⟩, ha⟩, fun _ _ => rfl⟩
/-- A step hangs on what it looks at, and does nothing elsewhere. -/
theorem step_loc (h : stepF Pg T N ents G ops rf o n fp e (VM.get M) e1 m1) (he : ∀ t ∈ o.looksAt ops, e t = e' t) (ha : ∀ c, c ∈ fp ∨ c = n → VM.get M2 c = VM.get M c) :
    ∃ r, e1 = putF o.dst r e ∧ (∃ M2', stepF Pg T N ents G ops rf o n fp e' (VM.get M2) (putF o.dst r e') (VM.get M2') ∧ ∀ c, c ∈ fp ∨ c = n → VM.get M2' c = m1 c) := by
  obtain ⟨r, hd, rfl, h⟩ := h
  refine ⟨r, rfl, ?_⟩
  cases rf with
  | false =>
    obtain ⟨δ, h1, rfl, rfl⟩ := h
    have hf := foot_actF h1
    refine ⟨δ.app n M2, ⟨r, hd, rfl, δ, actF_loc (fun c hc => ha c (.inl (by rw [numsO_ag he]; exact hc))) (actF_env he h1), Dl.get_app _ _ _, (numsO_ag he)⟩, fun c hc => ?_⟩
    rw [Dl.get_app]
    exact appF_in hf ha hc
  | true =>
    obtain ⟨⟨M2', p1, p2⟩, p3⟩ := actR_loc h (M2 := M2) fun c hc => ha c (.inl hc)
    by_cases hn : n ∈ fp
    · exact ⟨M2', ⟨r, hd, rfl, actR_ag he p1⟩, fun c hc => p2 c (hc.elim id fun h => h ▸ hn)⟩
    · refine ⟨M2', ⟨r, hd, rfl, actR_ag he p1⟩, fun c hc => ?_⟩
      rcases hc with hc | rfl
      · exact p2 c hc
      · obtain ⟨_, q⟩ := actR_loc p1 (M2 := M2) fun _ _ => rfl
        rw [q c hn, p3 c hn]
        exact ha c (.inr rfl)
theorem step_out (h : stepF Pg T N ents G ops rf o n fp e (VM.get M) e1 m1) {c : Nat} (h1 : c ∉ fp) (h2 : c ≠ n) : m1 c = VM.get M c := by
  obtain ⟨r, hd, rfl, h⟩ := h
  cases rf with
  | false =>
    obtain ⟨δ, h3, rfl, rfl⟩ := h
    exact appF_out (foot_actF h3) h1 h2
  | true => exact (actR_loc h (M2 := M) fun _ _ => rfl).2 c h1
theorem step_vm (h : stepF Pg T N ents G ops rf o n fp e (VM.get M) e1 m1) : ∃ M', VM.get M' = m1 := by
  obtain ⟨r, hd, rfl, h⟩ := h
  cases rf with
  | false => obtain ⟨δ, _, rfl, _⟩ := h; exact ⟨δ.app n M, Dl.get_app _ _ _⟩
  | true =>
    obtain ⟨b, h1, h2, h3⟩ := h
    cases b with
    | false => exact ⟨M, (h3 rfl).2.symm⟩
    | true =>
      have h := h2 rfl
      unfold refF at h
      split at h
      · split at h
        · unfold vArgsF rd at h
          split at h
          · obtain ⟨vs, _, h⟩ := rds_some h
            split at h
            · obtain ⟨_, M0, _, args, M0', n0, res, M1, _, σ, bs, _, _, _, _, _, _, hm⟩ := h
              exact ⟨_, hm⟩
            · exact h.elim
          · exact h.elim
        · exact h.elim
      · exact h.elim
def disN (a b : List Nat) : Bool := a.all fun x => b.all fun y => !Nat.beq x y
theorem disN_out {a b : List Nat} (h : disN a b = true) : ∀ c, c ∈ a → c ∉ b := by
  intro c ha hb
  unfold disN at h
  rw [List.all_eq_true] at h
  have := h c ha
  rw [List.all_eq_true] at this
  simpa using this c hb
/-- Operations whose blocks are apart may change places. -/
theorem step_swapD (h1 : stepF Pg T N ents G ops rx x i fx e (VM.get M) e1 m1) (h2 : stepF Pg T N ents G ops ry y j fy e1 m1 e2 m2) (ha : x.apart ops y = true) (hd : disN (i :: fx) (j :: fy) = true) :
    ∃ e' m', stepF Pg T N ents G ops ry y j fy e (VM.get M) e' m' ∧ stepF Pg T N ents G ops rx x i fx e' m' e2 m2 := by
  obtain ⟨p1, p2, p3⟩ := Oper.apart_spec ha
  have hdis := disN_out hd
  have cy : ∀ {c}, (c ∈ fx ∨ c = i) → c ∉ fy ∧ c ≠ j := fun {c} hc => by
    have := hdis c (by rcases hc with h | h <;> simp [h])
    simp only [List.mem_cons, not_or] at this
    exact ⟨this.2, this.1⟩
  have cx : ∀ {c}, (c ∈ fy ∨ c = j) → c ∉ fx ∧ c ≠ i := fun {c} hc => by
    refine ⟨fun h => ?_, fun h => ?_⟩
    · obtain ⟨q1, q2⟩ := cy (.inl h)
      exact hc.elim q1 q2
    · obtain ⟨q1, q2⟩ := cy (.inr h)
      exact hc.elim q1 q2
  obtain ⟨M1, rfl⟩ := step_vm h1
  obtain ⟨rvx, hdx, he1, h1b⟩ := h1
  have h1' : stepF Pg T N ents G ops rx x i fx e (VM.get M) e1 (VM.get M1) := ⟨rvx, hdx, he1, h1b⟩
  subst he1
  obtain ⟨rvy, rfl, M', q1, q2⟩ := step_loc (e' := e) (M2 := M) h2 (putF_ne p1) fun c hc => (step_out h1' (cx hc).1 (cx hc).2).symm
  obtain ⟨rvx', hx', M'', q3, q4⟩ := step_loc (e' := putF y.dst rvy e) (M2 := M') h1' (fun t ht => (putF_ne p3 t ht).symm) fun c hc => step_out q1 (cy hc).1 (cy hc).2
  have hput := putF_comm (e := e) (d := y.dst) (d' := x.dst) (r := rvy) (r' := rvx) fun t h h' => p2 t h' h
  refine ⟨_, _, q1, ?_⟩
  have hm : VM.get M'' = m2 := by
    funext c
    by_cases c1 : c ∈ fx ∨ c = i
    · rw [q4 c c1, step_out h2 (cy c1).1 (cy c1).2]
    · have c1' : c ∉ fx ∧ c ≠ i := ⟨fun h => c1 (.inl h), fun h => c1 (.inr h)⟩
      rw [step_out q3 c1'.1 c1'.2]
      by_cases c2 : c ∈ fy ∨ c = j
      · exact q2 c c2
      · have c2' : c ∉ fy ∧ c ≠ j := ⟨fun h => c2 (.inl h), fun h => c2 (.inr h)⟩
        rw [step_out q1 c2'.1 c2'.2, step_out h2 c2'.1 c2'.2, step_out h1' c1'.1 c1'.2]
  rw [hm] at q3
  obtain ⟨r3, hd3, he3, hb3⟩ := q3
  refine ⟨r3, hd3, ?_, hb3⟩
  rw [hput]
  rw [← he3]
  cases hxd : x.dst with
  | none => rfl
  | some d =>
    rw [hxd] at hx'
    have : rvx = rvx' := by
      have := congrFun hx' d
      simpa [putF, fput] using this
    rw [this]
end
end Go.Proofs.Ytplkofafnbfkmaa
/- Steps of functions are steps of the program. -/
namespace Go.Proofs.Ytplkofafnbfkmaa
open Go.RowKit

/-- As Sim, with any set of free numbers. -/
structure SimS (N : Nat) (w0 : World) (ex0 : Anc) (P0 : Prot) (e : Nat → Option MV) (m : FM) (F : Nat → Prop) (a : Act) (w : World) : Prop where
  ex : ∃ P adr, InvM w P adr m ∧ EnvR w P adr e a ∧ (∀ c, F c → adr c = none) ∧ AdrOK w0 ex0 P0 w P adr ∧ (∀ b o, P b o → P0 b o ∨ w0.heap.size ≤ b ∨ ex0.ex b)
  fresh : ∀ c, F c → m c = none
  ge : ∀ c, F c → ex0.n0 ≤ c
  since : Since ex0.ex w0 w
  defers : a.defers = []
  size : a.tmps.size = N
section
variable {Pg : Program} {T : Tab} {N : Nat} {ents : List FuncId} {G : GS} {w0 w w' : World} {ex0 : Anc} {P0 P : Prot} {adr : Adr} {e e' : Nat → Option MV} {m m' : FM} {n : Nat} {F F' : Nat → Prop} {a : Act} {r : MV} {u : Value} {δ : Dl} {ops : Array Oper} {o : Oper}
theorem Sim.toS (h : Sim N w0 ex0 P0 e m n a w) : SimS N w0 ex0 P0 e m (n ≤ ·) a w := ⟨h.ex, h.fresh, fun c hc => Nat.le_trans h.ge hc, h.since, h.defers, h.size⟩
theorem SimS.toSim (h : SimS N w0 ex0 P0 e m F a w) (hn : ∀ c, n ≤ c → F c) : Sim N w0 ex0 P0 e m n a w := by
  obtain ⟨P, adr, h1, h2, h3, h4, h5⟩ := h.ex
  exact ⟨⟨P, adr, h1, h2, fun c hc => h3 c (hn c hc), h4, h5⟩, fun c hc => h.fresh c (hn c hc), h.ge n (hn n (Nat.le_refl _)), h.since, h.defers, h.size⟩
theorem runF_ok (hS : SeatM Pg T ents G w0 ex0) (h : runF Pg T ents G o e m n r δ) (hI : InvM w P adr m) (hn : adr n = none) (hf : m n = none) (hE : EnvR w P adr e a) (hs : Since ex0.ex w0 w)
    {next : Act → World → Prop} {Q : Exit → Act → World → Prop} (hK : ∀ u w', Post1 w P adr m n r δ u w' → next (a.put o.dst u) w') : o.wp Pg a w next Q := by
  have plain : (eOp Pg T e m n o).runP (fun x => x = (r, δ)) → o.wp Pg a w next Q := by
    intro h
    obtain ⟨r', δ', hk, hr⟩ := eOp_ok hS.seat.tab hI hn hf hE h
    injection hk with hk1 hk2
    subst hk1; subst hk2
    unfold Oper.wp
    rcases hr with ⟨u, w', h1, h2⟩ | ⟨w', h1, h2⟩
    · rw [h1]; exact hK u w' h2
    · rw [h1]; exact hK undef w' h2
  obtain ⟨dst, op, ty, pos, after, guard⟩ := o
  cases op with
  | call c =>
    obtain ⟨callee, args, ats⟩ := c
    cases callee with
    | builtin b => exact plain h
    | invoke r n => exact plain h
    | value f =>
      replace h : (vCallF e m f args.toList).runP fun x => ents.contains x.1 = true ∧ SemC Pg G x.1 x.2.1 r ∧ δ = .bump x.2.2 ∧ ∀ c ∈ x.2.2, m c.1 ≠ none := h
      unfold vCallF at h
      obtain ⟨pf, h, hpf⟩ := rd_out hE h
      obtain ⟨ps, h, hps⟩ := rds_out hE h
      cases pf with
      | fn f0 caps =>
        replace h := Ask.bind_runP.1 h
        generalize hu : a.eval f = uf at hpf
        cases hpf with
        | val cs hfn =>
          cases hfn with
          | fn parts hpl hpr =>
            have hall := hps.app (RepVs.of_parts hpl hpr)
            obtain ⟨l', bs, h, P', h1, h2, h3, h4⟩ := frzs_vals h hall hI
            obtain ⟨hc, hsem, rfl, _⟩ := h
            replace hc : ents.contains f0 = true := hc
            replace hsem : SemC Pg G f0 l' r := hsem
            have hrun : (execOp a.eval ⟨dst, .call ⟨.value f, args, ats⟩, ty, pos, after, guard⟩).run Pg w = .ok (.enter f0 (args.toList.map a.eval ++ List.zipWith valM caps parts).toArray) w := by
              have he := hS.seat.enters f0 (by simpa using hc) (args.toList.map a.eval ++ List.zipWith valM caps parts).toArray w
              rw [← he]
              have hmap : args.map a.eval = (args.toList.map a.eval).toArray := arr_map _ _
              simp [execOp, resolve, hu, valM, MV.isAgg, Deferred.ofValue, invoke, hmap]
            unfold Oper.wp
            rw [hrun]
            refine (hsem w P' _ (hS.good w hs) h1.prot h4).mono ?_
            rintro e w' ⟨v, rfl, h5, h6⟩
            refine hK v w' ⟨protNew w w' P', adr, ?_, by exact h1.below h6, h2.trans (Keep.below h1.prot h6), fun _ _ => rfl, fun g hg => (by rw [hn] at hg; cases hg), (Since.of_below h6).weak fun _ e => e.elim, fun b o hb => ?_⟩
            · exact h5.keep ⟨fun _ _ h => h, fun _ _ _ => rfl, fun _ _ h => (nomatch h), fun _ _ _ _ h => nomatch h⟩
            · rcases hb with hb | hb
              · rcases h3 b o hb with hb | hb
                · exact .inl hb
                · exact .inr (.inr hb)
              · exact .inr (.inl hb.1)
      | _ => exact h.elim
  | _ => exact plain h
theorem bumpF_none : ∀ {l : List (Nat × Nat)} {m : FM} {c : Nat}, m c = none → bumpF m l c = none := by
  intro l m c h
  rw [bumpF_get, h]; rfl
theorem appF_none {c : Nat} (h : m c = none) (hc : c ≠ n) : δ.appF n m c = none := by
  cases δ with
  | none => exact h
  | new b => show fput _ _ _ c = none; rw [fput_ne _ _ hc]; exact h
  | upd c' l =>
    show (match m c' with | some b => fput m c' { b with l := l } | none => m) c = none
    cases hb : m c' with
    | none => exact h
    | some b =>
      show fput _ c' _ c = none
      rw [fput_ne]
      · exact h
      · rintro rfl; rw [h] at hb; cases hb
  | mv c' b =>
    show fput _ _ _ c = none
    rw [fput_ne _ _ hc]
    unfold fdel
    split
    · rfl
    · exact h
  | bump l => exact bumpF_none h
/-- Behind an operation. -/
theorem SimS.post (hs : SimS N w0 ex0 P0 e m F a w) (hI : InvM w P adr m) (hE : EnvR w P adr e a) (hn : ∀ c, F c → adr c = none) (hg : AdrOK w0 ex0 P0 w P adr) (hp : ∀ b o, P b o → P0 b o ∨ w0.heap.size ≤ b ∨ ex0.ex b)
    (hpo : Post1 w P adr m n r δ u w') {dst : Option Tmp} (hd : ∀ d, dst = some d → d < N) (hFn : F n) (hF : ∀ c, F' c → F c ∧ c ≠ n) : SimS N w0 ex0 P0 (putF dst r e) (δ.appF n m) F' (a.put dst u) w' := by
  obtain ⟨P', adr', h1, h2, h3, h4, h5, h6, h7⟩ := hpo
  have hE' : EnvR w' P' adr' e a := fun t v ht => by
    obtain ⟨u, e1, e2⟩ := hE t v ht
    exact ⟨u, e1, e2.keep h3⟩
  have hsize := hs.since.size
  have common : ∀ {e' : Nat → Option MV} {a' : Act}, EnvR w' P' adr' e' a' → a'.defers = [] → a'.tmps.size = N → SimS N w0 ex0 P0 e' (δ.appF n m) F' a' w' := by
    intro e' a' e1 e2 e3
    refine ⟨⟨P', adr', h2, e1, fun c hc => ?_, ⟨fun c g hc => ?_, fun c hc => (h4 c (by have := hs.ge n hFn; omega)).trans (hg.old c hc), hg.keep.trans h3⟩, fun b o ho => ?_⟩, fun c hc => ?_, fun c hc => hs.ge c (hF c hc).1, ?_, e2, e3⟩
    · rw [h4 c (hF c hc).2]; exact hn c (hF c hc).1
    · by_cases e : c = n
      · subst e
        rcases h5 g hc with h | ⟨c', h⟩
        · exact .inl (Nat.le_trans hsize h)
        · exact hg.in_ c' g h
      · rw [h4 c e] at hc; exact hg.in_ c g hc
    · rcases h7 b o ho with h | h | ⟨c', h⟩
      · exact hp b o h
      · exact .inr (.inl (Nat.le_trans hsize h))
      · rcases hg.in_ c' b h with h | h
        · exact .inr (.inl h)
        · exact .inr (.inr h)
    · exact appF_none (hs.fresh c (hF c hc).1) (hF c hc).2
    · exact ⟨h6.os.trans hs.since.os, h6.tape.trans hs.since.tape, h6.output.trans hs.since.output, Nat.le_trans hsize h6.size, fun b hb hne => (h6.block b (Nat.lt_of_lt_of_le hb hsize) (fun ⟨c, hc⟩ => by
        rcases hg.in_ c b hc with h | h
        · omega
        · exact hne h)).trans (hs.since.block b hb hne)⟩
  cases dst with
  | none => exact common hE' hs.defers hs.size
  | some d =>
    have hd' := hd d rfl
    refine common ?_ hs.defers (by simp [Act.put, hs.size])
    intro t v ht
    simp only [Act.put, Array.getElem?_setIfInBounds]
    replace ht : fput e d r t = some v := ht
    unfold fput at ht
    split at ht
    · rename_i e
      subst e
      injection ht with ht
      subst ht
      exact ⟨u, by simp [hs.size, hd'], h1⟩
    · rename_i hne
      rw [if_neg fun h => hne h.symm]
      exact hE' t v ht
theorem SimS.put (hd : a.defers = []) (hz : a.tmps.size = N) {w' : World} {P' : Prot} {adr' : Adr} (hI : InvM w' P' adr' m') (hE : EnvR w' P' adr' e a) (hr : RepV w' P' adr' r u) (h1 : ∀ c, F' c → adr' c = none) (h2 : AdrOK w0 ex0 P0 w' P' adr')
    (h3 : ∀ b o, P' b o → P0 b o ∨ w0.heap.size ≤ b ∨ ex0.ex b) (h4 : ∀ c, F' c → m' c = none) (h5 : ∀ c, F' c → ex0.n0 ≤ c) (h6 : Since ex0.ex w0 w') {dst : Option Tmp} (hdl : ∀ d, dst = some d → d < N) : SimS N w0 ex0 P0 (putF dst r e) m' F' (a.put dst u) w' := by
  cases dst with
  | none => exact ⟨⟨P', adr', hI, hE, h1, h2, h3⟩, h4, h5, h6, hd, hz⟩
  | some d =>
    have hd' := hdl d rfl
    refine ⟨⟨P', adr', hI, fun t v ht => ?_, h1, h2, h3⟩, h4, h5, h6, hd, by simp [Act.put, hz]⟩
    simp only [Act.put, Array.getElem?_setIfInBounds]
    replace ht : fput e d r t = some v := ht
    unfold fput at ht
    split at ht
    · rename_i e
      subst e
      injection ht with ht
      subst ht
      exact ⟨u, by simp [hz, hd'], hr⟩
    · rename_i hne
      rw [if_neg fun h => hne h.symm]
      exact hE t v ht
theorem stepF_out (hS : SeatM Pg T ents G w0 ex0) {rf : Bool} {fp : List Nat} {next : Act → World → Prop} {Q : Exit → Act → World → Prop} (hs : SimS N w0 ex0 P0 e m F a w) (hn : F n) (hF : ∀ c, F' c → F c ∧ c ≠ n)
    (h : stepF Pg T N ents G ops rf o n fp e m e' m') (hk : ∀ a w, SimS N w0 ex0 P0 e' m' F' a w → next a w) :
    if Region.wanted o (yielded ops a.tmps) then o.wp Pg a w next Q ∨ (o.asks Pg a w ∧ LetsOut Q) else next (a.put o.dst undef) w := by
  obtain ⟨r, hd, rfl, h⟩ := h
  obtain ⟨P, adr, hI, hE, ha1, ha2, ha3⟩ := hs.ex
  have wanted : ∀ {b}, gdF ops o e = some b → Region.wanted o (yielded ops a.tmps) = b := by
    intro b hb
    unfold gdF at hb
    split at hb
    · rename_i hg
      injection hb with hb
      simp [Region.wanted, hg, ← hb]
    · rename_i j want hg
      split at hb
      · cases hb
      · rename_i s hj
        split at hb
        · rename_i t ht
          injection hb with hb
          obtain ⟨v, hv1, hv2⟩ := hE s _ ht
          have hv := hv2.bool_
          subst hv
          have hy : yielded ops a.tmps j = some t := by simp [yielded, hj, hv1]
          simp only [Region.wanted, hg, hy, ← hb]
          cases t <;> cases want <;> rfl
        · rename_i ht
          injection hb with hb
          obtain ⟨v, hv1, hv2⟩ := hE s _ ht
          have hv : v = undef := hv2.undef_
          subst hv
          have hy : yielded ops a.tmps j = none := by simp [yielded, hj, hv1, undef]
          simp [Region.wanted, hg, hy, ← hb]
        · cases hb
  cases rf with
  | false =>
    obtain ⟨δ, ⟨b, hb, h1, h2⟩, rfl, _⟩ := h
    rw [wanted hb]
    cases b with
    | true =>
      rw [if_pos rfl]
      refine .inl (runF_ok hS (h1 rfl) hI (ha1 n hn) (hs.fresh n hn) hE hs.since fun u w' hp => hk _ _ ?_)
      exact hs.post hI hE ha1 ha2 ha3 hp hd hn hF
    | false =>
      rw [if_neg (by simp)]
      obtain ⟨rfl, rfl⟩ := h2 rfl
      exact hk _ _ (hs.post (δ := .none) hI hE ha1 ha2 ha3 (Post1.pure hI (ha1 n hn) .undef) hd hn hF)
  | true =>
    obtain ⟨b, hb, h1, h2⟩ := h
    rw [wanted hb]
    cases b with
    | false =>
      rw [if_neg (by simp)]
      obtain ⟨rfl, rfl⟩ := h2 rfl
      exact hk _ _ (hs.post (δ := .none) hI hE ha1 ha2 ha3 (Post1.pure hI (ha1 n hn) .undef) hd hn hF)
    | true =>
      rw [if_pos rfl]
      have h := h1 rfl
      obtain ⟨dst, op, ty, pos, after, guard⟩ := o
      unfold refF at h
      cases op with
      | call c =>
        obtain ⟨callee, args, ats⟩ := c
        cases callee with
        | value f =>
          replace h : (vArgsF e f args.toList).runP fun x => ents.contains x.1 = true ∧ ∃ M, VM.get M = m ∧ vCallZ Pg G M x.1 x.2 fp fun r' M' => r' = r ∧ VM.get M' = m' := h
          unfold vArgsF at h
          obtain ⟨pf, h, hpf⟩ := rd_out hE h
          obtain ⟨ps, h, hps⟩ := rds_out hE h
          cases pf with
          | fn f0 caps =>
            generalize hu : a.eval f = uf at hpf
            cases hpf with
            | val cs hfn =>
              cases hfn with
              | fn parts hpl hpr =>
                have hall := hps.app (RepVs.of_parts hpl hpr)
                replace h : ents.contains f0 = true ∧ ∃ M, VM.get M = m ∧ vCallZ Pg G M f0 (ps ++ caps) fp fun r' M' => r' = r ∧ VM.get M' = m' := h
                obtain ⟨hc, M, rfl, hz⟩ := h
                have hrun : (execOp a.eval ⟨dst, .call ⟨.value f, args, ats⟩, ty, pos, after, guard⟩).run Pg w = .ok (.enter f0 (args.toList.map a.eval ++ List.zipWith valM caps parts).toArray) w := by
                  have he := hS.seat.enters f0 (by simpa using hc) (args.toList.map a.eval ++ List.zipWith valM caps parts).toArray w
                  rw [← he]
                  have hmap : args.map a.eval = (args.toList.map a.eval).toArray := arr_map _ _
                  simp [execOp, resolve, hu, valM, MV.isAgg, Deferred.ofValue, invoke, hmap]
                refine .inl ?_
                unfold Oper.wp
                rw [hrun]
                refine (vCallZ_ok hS hz hs.since hI hE ha2 ha3 hall).mono ?_
                rintro e w' ⟨v, rfl, r', M', ⟨rfl, rfl⟩, P', q1, q2, q3, q4, q5, q6, q7⟩
                exact hk _ _ (SimS.put hs.defers hs.size q1 q2 q3 (fun c hc => ha1 c (hF c hc).1) q4 q5 (fun c hc => q6 c (hs.fresh c (hF c hc).1)) (fun c hc => hs.ge c (hF c hc).1) q7 hd)
          | _ => exact h.elim
        | _ => exact h.elim
      | _ => exact h.elim
end
end Go.Proofs.Ytplkofafnbfkmaa
/- A region that draws its order: every order comes to what one order comes to. -/
namespace Go.Proofs.Ytplkofafnbfkmaa
open Go.RowKit

section
variable (Pg : Program) (T : Tab) (N : Nat) (ents : List FuncId) (G : GS)
/-- An operation of a region: its place, its number, whether it is a call that is handed blocks, and the blocks that it looks at. -/
structure Dop where
  k : Nat
  n : Nat
  rf : Bool
  fp : List Nat
def runL (ops : Array Oper) : List Dop → (Nat → Option MV) → FM → (Nat → Option MV) → FM → Prop
  | [], e, m, e', m' => e = e' ∧ m = m'
  | x :: L, e, m, e', m' => ∃ o e1 m1, ops[x.k]? = some o ∧ stepF Pg T N ents G ops x.rf o x.n x.fp e m e1 m1 ∧ runL ops L e1 m1 e' m'
end
/-- Which operations may change places. -/
def okC2 (x y : Dop) (a b : Oper) : Bool := (!x.rf && !y.rf && okC (kls a) (kls b)) || disN (x.n :: x.fp) (y.n :: y.fp)
def okR (ops : Array Oper) (x y : Dop) : Bool := match ops[x.k]?, ops[y.k]? with
  | some a, some b => ((a.apart ops b && okC2 x y a b) || pathO ops 8 y.k x.k) && a.after.toList.all (fun e => !Region.binds .any e || !Nat.beq e.on y.k) && !Nat.beq x.k y.k
  | _, _ => false
def okS (ops : Array Oper) (x : Nat) : Bool := match ops[x]? with
  | some a => a.after.toList.all fun e => !Region.binds .any e || (Nat.blt e.on ops.size && !Nat.beq e.on x)
  | none => false
def okLs (ops : Array Oper) : List Dop → Bool
  | [] => true
  | x :: L => okS ops x.k && L.all (fun y => okR ops x y) && okLs ops L
/-- The list is one of all operations, and any order of the region comes to what it comes to. -/
def okDraw (ops : Array Oper) (L : List Dop) : Bool := okLs ops L && (List.range ops.size).all (fun k => (L.map (·.k)).contains k) && Nat.ble L.length ops.size
theorem okLs_spec {ops : Array Oper} : ∀ {L : List Dop}, okLs ops L = true → L.Pairwise (fun x y => okR ops x y = true) ∧ ∀ x ∈ L, okS ops x.k = true
  | [], _ => ⟨.nil, fun _ h => nomatch h⟩
  | x :: L, h => by
    simp only [okLs, Bool.and_eq_true, List.all_eq_true] at h
    obtain ⟨h1, h2⟩ := okLs_spec h.2
    refine ⟨.cons h.1.2 h1, fun y hy => ?_⟩
    rcases List.mem_cons.1 hy with rfl | hy
    · exact h.1.1
    · exact h2 y hy
section
variable {Pg : Program} {T : Tab} {N : Nat} {ents : List FuncId} {G : GS} {ops : Array Oper} {e e' : Nat → Option MV} {m m' : FM} {listed : Array Bool}
theorem step_swap {x y : Dop} {a b : Oper} {e1 e2 : Nat → Option MV} {m1 m2 : FM} (hm : ∃ M, VM.get M = m) (h1 : stepF Pg T N ents G ops x.rf a x.n x.fp e m e1 m1) (h2 : stepF Pg T N ents G ops y.rf b y.n y.fp e1 m1 e2 m2) (ha : a.apart ops b = true) (hc : okC2 x y a b = true) (hij : x.n ≠ y.n) (hi : m x.n = none) (hj : m y.n = none) :
    ∃ e' m', stepF Pg T N ents G ops y.rf b y.n y.fp e m e' m' ∧ stepF Pg T N ents G ops x.rf a x.n x.fp e' m' e2 m2 := by
  obtain ⟨M, rfl⟩ := hm
  unfold okC2 at hc
  rw [Bool.or_eq_true] at hc
  rcases hc with hc | hc
  · simp only [Bool.and_eq_true, Bool.not_eq_true'] at hc
    obtain ⟨⟨q1, q2⟩, q3⟩ := hc
    rw [q1] at h1 ⊢
    rw [q2] at h2 ⊢
    exact step_swapV h1 h2 ha q3 hij hi hj
  · exact step_swapD h1 h2 ha hc
theorem stepF_none {o : Oper} {rf : Bool} {fp : List Nat} {n c : Nat} (hm0 : ∃ M, VM.get M = m) (h : stepF Pg T N ents G ops rf o n fp e m e' m') (hm : m c = none) (hc : c ≠ n) : m' c = none := by
  obtain ⟨r, _, _, h⟩ := h
  cases rf with
  | false => obtain ⟨δ, _, rfl, _⟩ := h; exact appF_none hm hc
  | true =>
    obtain ⟨M0, rfl⟩ := hm0
    obtain ⟨b, h1, h2, h3⟩ := h
    cases b with
    | false => rw [(h3 rfl).2]; exact hm
    | true =>
      have h := h2 rfl
      unfold refF at h
      split at h
      · split at h
        · unfold vArgsF rd at h
          split at h
          · obtain ⟨vs, _, h⟩ := rds_some h
            split at h
            · obtain ⟨_, M, hM, args, M0', n0, res, M1, _, σ, bs, hL, hin, hk, _, _, _, hm'⟩ := h
              rw [← hm', get_app, ren_key fun z hz => ?_]
              · cases hx : VM.get (delM (VM.bump M bs) σ) c with
                | none => rfl
                | some b =>
                  obtain ⟨h4, _⟩ := get_delM σ _ c b hx
                  obtain ⟨b', h5⟩ := bump_get h4
                  rw [hM, hm] at h5; cases h5
              · rw [List.all_eq_true] at hk
                obtain ⟨d, hd⟩ := Option.isSome_iff_exists.1 (hk z hz)
                unfold rhoZ
                rw [hd]
                rintro rfl
                obtain ⟨b', hb'⟩ := allIn_mem hin z.1 d (sig_mem hd)
                rw [hM, hm] at hb'; cases hb'
            · exact h.elim
          · exact h.elim
        · exact h.elim
      · exact h.elim
theorem runL_front : ∀ {L1 : List Dop} {L2 : List Dop} {k : Dop} {e : Nat → Option MV} {m : FM}, (∃ M, VM.get M = m) → runL Pg T N ents G ops (L1 ++ k :: L2) e m e' m' →
    (∀ x ∈ L1, ∃ a b, ops[x.k]? = some a ∧ ops[k.k]? = some b ∧ a.apart ops b = true ∧ okC2 x k a b = true) → (∀ x ∈ L1, x.n ≠ k.n ∧ m x.n = none) → m k.n = none → (L1.map (·.n)).Nodup →
    ∃ o e1 m1, ops[k.k]? = some o ∧ stepF Pg T N ents G ops k.rf o k.n k.fp e m e1 m1 ∧ runL Pg T N ents G ops (L1 ++ L2) e1 m1 e' m'
  | [], _, _, _, _, _, h, _, _, _, _ => h
  | x :: L1, L2, k, e, m, hv, h, hc, hn, hk, hd => by
    obtain ⟨o, e1, m1, h1, h2, h3⟩ := h
    obtain ⟨hx1, hx2⟩ := hn x (by simp)
    obtain ⟨hd1, hd2⟩ := List.nodup_cons.1 hd
    have hv1 : ∃ M, VM.get M = m1 := by obtain ⟨M, rfl⟩ := hv; exact step_vm h2
    obtain ⟨o', e2, m2, h4, h5, h6⟩ := runL_front hv1 h3 (fun y hy => hc y (by simp [hy])) (fun y hy => ⟨(hn y (by simp [hy])).1, stepF_none hv h2 (hn y (by simp [hy])).2 fun h => hd1 (List.mem_map.2 ⟨y, hy, h⟩)⟩) (stepF_none hv h2 hk hx1.symm) hd2
    obtain ⟨a, b, p1, p2, p3, p4⟩ := hc x (by simp)
    rw [h1] at p1; injection p1 with p1; subst p1
    rw [h4] at p2; injection p2 with p2; subst p2
    obtain ⟨e3, m3, q1, q2⟩ := step_swap hv h2 h5 p3 p4 hx1 hx2 hk
    exact ⟨o', e3, m3, h4, q1, o, e2, m2, h1, q2, h6⟩
/-- What has come up, has come up with all that it waits for. -/
def ClosedO (ops : Array Oper) (listed : Array Bool) : Prop := ∀ k o, ops[k]? = some o → listed.getD k false = true → ∀ e ∈ o.after.toList, Region.binds .any e = true → listed.getD e.on false = true
theorem pathO_false (hc : ClosedO ops listed) {x : Nat} (hx : listed.getD x false = false) : ∀ (f y : Nat) (o : Oper), ops[y]? = some o → (∀ e ∈ o.after.toList, Region.binds .any e = true → listed.getD e.on false = true) → pathO ops f y x = false
  | 0, _, _, _, _ => rfl
  | f + 1, y, o, h1, h2 => by
    unfold pathO
    rw [h1]
    show (o.after.toList.any _) = false
    rw [List.any_eq_false]
    intro e he
    cases hb : Region.binds .any e with
    | false => simp
    | true =>
      have hl := h2 e he hb
      have hne : Nat.beq e.on x = false := by
        cases hh : Nat.beq e.on x with
        | false => rfl
        | true => rw [Nat.eq_of_beq_eq_true hh, hx] at hl; cases hl
      cases ho : ops[e.on]? with
      | none =>
        have : pathO ops f e.on x = false := by
          cases f with
          | zero => rfl
          | succ f => unfold pathO; rw [ho]
        simp [hne, this]
      | some o' =>
        have := pathO_false hc hx f e.on o' ho (hc _ _ ho hl)
        simp [hne, this]
theorem getD_set {l : Array Bool} {i k : Nat} {d : Bool} (hi : i < l.size) : (l.setIfInBounds i true).getD k d = if i = k then true else l.getD k d := by
  by_cases h : i = k
  · subst h; simp [Array.getD, hi]
  · simp [Array.getD_eq_getD_getElem?, h]
theorem ready_out {i : Nat} (h : i ∈ Region.ready .any ops listed) : listed.getD i true = false ∧ ∃ o, ops[i]? = some o ∧ ∀ e ∈ o.after.toList, Region.binds .any e = true → listed.getD e.on false = true := by
  simp only [Region.ready, List.mem_filter, List.mem_range, Bool.and_eq_true, Bool.not_eq_true'] at h
  obtain ⟨h1, h2, h3⟩ := h
  have ho : ops[i]? = some ops[i] := by simp [h1]
  refine ⟨h2, ops[i], ho, fun e he hb => ?_⟩
  rw [ho] at h3
  simp only [Option.map_some, Option.getD_some, Array.all_eq_true'] at h3
  have := h3 e (by simpa using he)
  simpa [hb] using this
theorem ready_in {i : Nat} {o : Oper} (h1 : listed.getD i true = false) (h2 : ops[i]? = some o) (h3 : ∀ e ∈ o.after.toList, Region.binds .any e = true → listed.getD e.on false = true) : i ∈ Region.ready .any ops listed := by
  simp only [Region.ready, List.mem_filter, List.mem_range, Bool.and_eq_true, Bool.not_eq_true']
  refine ⟨(Array.getElem?_eq_some_iff.1 h2).1, h1, ?_⟩
  rw [h2]
  simp only [Option.map_some, Option.getD_some, Array.all_eq_true']
  intro e he
  cases hb : Region.binds .any e with
  | false => rfl
  | true => simp [h3 e (by simpa using he) hb]
end
end Go.Proofs.Ytplkofafnbfkmaa
/- A region that draws its order: every order comes to what one order comes to. The induction. -/
namespace Go.Proofs.Ytplkofafnbfkmaa
open Go.RowKit

section
variable {Pg : Program} {T : Tab} {N : Nat} {ents : List FuncId} {G : GS} {ops : Array Oper} {e' : Nat → Option MV} {m' : FM} {w0 : World} {ex0 : Anc} {P0 : Prot} {Q : Exit → Act → World → Prop} {Z : Nat → Prop}
theorem okR_out {x y : Dop} (h : okR ops x y = true) : ∃ a b, ops[x.k]? = some a ∧ ops[y.k]? = some b ∧ ((a.apart ops b = true ∧ okC2 x y a b = true) ∨ pathO ops 8 y.k x.k = true) ∧ (∀ e ∈ a.after.toList, Region.binds .any e = true → e.on ≠ y.k) ∧ x.k ≠ y.k := by
  unfold okR at h
  split at h
  · rename_i a b ha hb
    simp only [Bool.and_eq_true, Bool.or_eq_true, List.all_eq_true, Bool.not_eq_true'] at h
    obtain ⟨⟨h1, h2⟩, h3⟩ := h
    refine ⟨a, b, ha, hb, h1, fun e he hbd hh => ?_, fun hh => ?_⟩
    · rcases h2 e he with h | h
      · rw [hbd] at h; cases h
      · rw [hh] at h; simp at h
    · rw [hh] at h3; simp at h3
  · cases h
theorem okS_out {x : Nat} (h : okS ops x = true) : ∃ a, ops[x]? = some a ∧ ∀ e ∈ a.after.toList, Region.binds .any e = true → e.on < ops.size ∧ e.on ≠ x := by
  unfold okS at h
  split at h
  · rename_i a ha
    simp only [List.all_eq_true, Bool.or_eq_true, Bool.and_eq_true, Bool.not_eq_true'] at h
    refine ⟨a, ha, fun e he hb => ?_⟩
    rcases h e he with h | ⟨h1, h2⟩
    · rw [hb] at h; cases h
    · refine ⟨by simpa [Nat.blt_eq] using h1, fun hh => ?_⟩
      subst hh; simp at h2
  · cases h
theorem getD_any {l : Array Bool} {k : Nat} {d d' : Bool} (h : k < l.size) : l.getD k d = l.getD k d' := by simp [Array.getD, h]
theorem any_ok (hS : SeatM Pg T ents G w0 ex0) (hQ : ∀ a w, SimS N w0 ex0 P0 e' m' Z a w → Q .normal a w) : ∀ (fuel : Nat) (L : List Dop) {listed : Array Bool} {e : Nat → Option MV} {m : FM} {a : Act} {w : World},
    (∃ M, VM.get M = m) → runL Pg T N ents G ops L e m e' m' → L.Pairwise (fun x y => okR ops x y = true) → (∀ x ∈ L, okS ops x.k = true) → (L.map (·.n)).Nodup → (∀ x ∈ L, ¬ Z x.n) →
    SimS N w0 ex0 P0 e m (fun c => c ∈ L.map (·.n) ∨ Z c) a w → (∀ k, k < ops.size → (listed.getD k true = false ↔ k ∈ L.map (·.k))) → listed.size = ops.size → ClosedO ops listed → L.length ≤ fuel → wpAny Pg .any ops Q fuel listed a w := by
  intro fuel
  induction fuel with
  | zero =>
    intro L listed e m a w hv hr hP hA hD hZ hs hl hsz hc hlen
    obtain rfl : L = [] := List.length_eq_zero_iff.1 (by omega)
    obtain ⟨rfl, rfl⟩ := hr
    refine wpAny_done (List.eq_nil_iff_forall_not_mem.2 fun i hi => ?_) (hQ a w (by simpa using hs)) 0
    obtain ⟨h1, o, h2, _⟩ := ready_out hi
    exact absurd ((hl i (Array.getElem?_eq_some_iff.1 h2).1).1 h1) (by simp)
  | succ fuel ih =>
    intro L listed e m a w hv hr hP hA hD hZ hs hl hsz hc hlen
    have hunl : ∀ x ∈ L, listed.getD x.k true = false ∧ listed.getD x.k false = false := by
      intro x hx
      obtain ⟨o, ho, _⟩ := okS_out (hA x hx)
      have hlt := (Array.getElem?_eq_some_iff.1 ho).1
      have h1 := (hl x.k hlt).2 (List.mem_map_of_mem hx)
      exact ⟨h1, by rw [getD_any (d' := true) (by omega)]; exact h1⟩
    refine ⟨fun h0 => ?_, fun i hi => ?_⟩
    · cases L with
      | nil =>
        obtain ⟨rfl, rfl⟩ := hr
        exact hQ a w (by simpa using hs)
      | cons x L =>
        exfalso
        obtain ⟨o, ho, h2⟩ := okS_out (hA x (by simp))
        have : x.k ∈ Region.ready .any ops listed := ready_in (hunl x (by simp)).1 ho fun ed he hb => by
          obtain ⟨h3, h4⟩ := h2 ed he hb
          rw [getD_any (d' := true) (by omega)]
          cases hh : listed.getD ed.on true with
          | true => rfl
          | false =>
            exfalso
            have := (hl ed.on h3).1 hh
            simp only [List.map_cons, List.mem_cons] at this
            rcases this with h5 | h5
            · exact h4 h5
            · obtain ⟨y, hy, hyk⟩ := List.mem_map.1 h5
              obtain ⟨a', b', p1, p2, p3, p4, p5⟩ := okR_out ((List.pairwise_cons.1 hP).1 y hy)
              rw [ho] at p1
              injection p1 with p1
              subst p1
              exact p4 ed he hb hyk.symm
        rw [h0] at this
        cases this
    · obtain ⟨h1, o, ho, hready⟩ := ready_out hi
      have hlt := (Array.getElem?_eq_some_iff.1 ho).1
      have hmem := (hl i hlt).1 h1
      obtain ⟨k, hk, rfl⟩ := List.mem_map.1 hmem
      obtain ⟨L1, L2, rfl⟩ := List.append_of_mem hk
      simp only [List.map_append, List.map_cons] at hD
      have hP1 := List.pairwise_append.1 hP
      have hD1 := List.nodup_append.1 hD
      have hD2 := List.nodup_cons.1 hD1.2.1
      have hP2 := List.pairwise_cons.1 hP1.2.1
      have hne1 : ∀ x ∈ L1, x.n ≠ k.n := fun x hx => hD1.2.2 _ (List.mem_map_of_mem hx) _ (by simp)
      have hne2 : ∀ x ∈ L2, x.n ≠ k.n := fun x hx hh => hD2.1 (hh ▸ List.mem_map_of_mem (f := (·.n)) hx)
      obtain ⟨o', e1, m1, p1, p2, p3⟩ := runL_front hv hr (fun x hx => by
          obtain ⟨a', b', q1, q2, q3, _⟩ := okR_out (hP1.2.2 x hx k (by simp))
          refine ⟨a', b', q1, q2, ?_⟩
          rcases q3 with q3 | q3
          · exact q3
          · rw [pathO_false hc (hunl x (by simp [hx])).2 8 k.k o ho hready] at q3; cases q3)
        (fun x hx => ⟨hne1 x hx, hs.fresh _ (.inl (List.mem_map_of_mem (by simp [hx])))⟩) (hs.fresh _ (.inl (List.mem_map_of_mem (by simp)))) hD1.1
      rw [ho] at p1
      injection p1 with p1
      subst p1
      have hv1 : ∃ M, VM.get M = m1 := by obtain ⟨M, rfl⟩ := hv; exact step_vm p2
      unfold wpOp
      rw [ho]
      refine stepF_out (F' := fun c => c ∈ (L1 ++ L2).map (·.n) ∨ Z c) hS hs (.inl (List.mem_map_of_mem (by simp))) (fun c hc' => ?_) p2 fun a' w' hs' => ?_
      · rcases hc' with hc' | hc'
        · obtain ⟨x, hx, rfl⟩ := List.mem_map.1 hc'
          rcases List.mem_append.1 hx with hx | hx
          · exact ⟨.inl (List.mem_map_of_mem (by simp [hx])), hne1 x hx⟩
          · exact ⟨.inl (List.mem_map_of_mem (by simp [hx])), hne2 x hx⟩
        · exact ⟨.inr hc', fun hh => hZ k hk (hh ▸ hc')⟩
      · have hnk : ∀ j, j ∈ (L1 ++ L2).map (·.k) → k.k ≠ j := by
          intro j hj
          obtain ⟨y, hy, rfl⟩ := List.mem_map.1 hj
          rcases List.mem_append.1 hy with hy | hy
          · obtain ⟨_, _, _, _, _, _, q⟩ := okR_out (hP1.2.2 y hy k (by simp)); exact fun h => q h.symm
          · obtain ⟨_, _, _, _, _, _, q⟩ := okR_out (hP2.1 y hy); exact q
        refine ih (L1 ++ L2) hv1 p3 ?_ (fun x hx => hA x ?_) ?_ (fun x hx => hZ x ?_) hs' (fun j hj => ?_) (by simpa using hsz) ?_ ?_
        · exact List.pairwise_append.2 ⟨hP1.1, hP2.2, fun x hx y hy => hP1.2.2 x hx y (by simp only [List.mem_cons]; exact .inr hy)⟩
        · rcases List.mem_append.1 hx with hx | hx <;> simp [hx]
        · rw [List.map_append]
          exact List.nodup_append.2 ⟨hD1.1, hD2.2, fun x hx y hy => hD1.2.2 x hx y (by simp only [List.mem_cons]; exact .inr hy)⟩
        · rcases List.mem_append.1 hx with hx | hx <;> simp [hx]
        · rw [getD_set (by omega)]
          by_cases hkj : k.k = j
          · rw [if_pos hkj]
            exact ⟨fun h => (by cases h), fun h => absurd hkj (hnk j h)⟩
          · rw [if_neg hkj, hl j hj]
            simp only [List.map_append, List.map_cons, List.mem_append, List.mem_cons]
            constructor
            · rintro (h | h | h)
              · exact .inl h
              · exact absurd h.symm hkj
              · exact .inr h
            · rintro (h | h)
              · exact .inl h
              · exact .inr (.inr h)
        · intro j oj hj hjl ed he hb
          rw [getD_set (by omega)] at hjl ⊢
          split
          · rfl
          · split at hjl
            · rename_i hkj
              subst hkj
              rw [ho] at hj
              injection hj with hj
              subst hj
              exact hready ed he hb
            · exact hc j oj hj hjl ed he hb
        · simp only [List.length_append, List.length_cons] at hlen ⊢
          omega
end
end Go.Proofs.Ytplkofafnbfkmaa
/- Conditions over trees give steps of functions. -/
namespace Go.Proofs.Ytplkofafnbfkmaa
open Go.RowKit

section
variable {Pg : Program} {T : Tab} {N : Nat} {ents : List FuncId} {G : GS} {ops : Array Oper} {E : VE} {M : VM} {n : Nat} {o : Oper}
theorem vCallF_dom {e : Nat → Option MV} {m : FM} {f : Operand} {args : List Operand} {K : FuncId × List MV × List (Nat × Nat) → Prop} (h : (vCallF e m f args).runP K) : (vCallF e m f args).runP fun x => K x ∧ ∀ c ∈ x.2.2, m c.1 ≠ none := by
  unfold vCallF at h ⊢
  unfold rd at h ⊢
  split at h
  · have key : ∀ (az : List Operand) (k : List MV → Ask (FuncId × List MV × List (Nat × Nat))) (K K' : FuncId × List MV × List (Nat × Nat) → Prop), (∀ vs, (k vs).runP K → (k vs).runP K') → (rds e az k).runP K → (rds e az k).runP K' := by
      intro az
      induction az with
      | nil => intro k K K' hk h; exact hk _ h
      | cons x az ih =>
        intro k K K' hk h
        unfold rds rd at h ⊢
        split at h
        · exact ih _ K K' (fun vs h => hk _ h) h
        · exact h.elim
    refine key _ _ _ _ (fun vs hk => ?_) h
    split at hk
    · exact frzs_weak (frzs_same (SameB.refl m) (Ask.bind_runP.1 hk)) fun x hx => ⟨hx.1, hx.2⟩
    · exact hk.elim
  · exact h.elim
theorem vRun_toF {E2 : VE} {K : MV → VM → Prop} (h : vRun Pg T ents G o E2 M n K) : ∃ r δ, runF Pg T ents G o (VE.get E2) (VM.get M) n r δ ∧ K r (δ.app n M) := by
  have plain : (eOp Pg T (VE.get E2) (VM.get M) n o).runP (fun x => K x.1 (x.2.app n M)) → ∃ r δ, (eOp Pg T (VE.get E2) (VM.get M) n o).runP (fun x => x = (r, δ)) ∧ K r (δ.app n M) := by
    intro h
    obtain ⟨⟨r, δ⟩, h1, h2, _⟩ := sharp_eOp Pg T (VE.get E2) (VM.get M) n o _ h
    exact ⟨r, δ, h1, h2⟩
  obtain ⟨dst, op, ty, pos, after, guard⟩ := o
  cases op with
  | call c =>
    obtain ⟨callee, args, ats⟩ := c
    cases callee with
    | value f =>
      replace h : (vCallF (VE.get E2) (VM.get M) f args.toList).runP fun x => match ents.contains x.1 with | true => ∃ res, SemC Pg G x.1 x.2.1 res ∧ K res (VM.bump M x.2.2) | false => False := h
      obtain ⟨x, h1, ⟨h2, h3⟩, h4⟩ := sharp_vCall E2 M f args.toList _ (vCallF_dom h)
      split at h2
      · rename_i hc
        obtain ⟨res, hsem, hk⟩ := h2
        exact ⟨res, .bump x.2.2, h4 _ ⟨hc, hsem, rfl, h3⟩, hk⟩
      · exact h2.elim
    | _ => exact plain h
  | _ => exact plain h
theorem vPut_toF {dst : Option Tmp} {r : MV} {K : VE → Prop} (h : vPut N dst r E K) : ∃ E1, K E1 ∧ (∀ d, dst = some d → d < N) ∧ VE.get E1 = putF dst r (VE.get E) := by
  unfold vPut at h
  split at h
  · exact ⟨E, h, fun d hd => (nomatch hd), rfl⟩
  · rename_i d
    split at h
    · rename_i hd
      refine ⟨_, h, fun d' hd' => ?_, ?_⟩
      · injection hd' with hd'; subst hd'; simpa [Nat.blt_eq] using hd
      · funext t
        rw [VE.get_cons]
        show _ = fput _ d r t
        unfold fput
        by_cases ht : d = t
        · subst ht; simp
        · rw [if_neg ht, if_neg fun h => ht h.symm]
    · exact h.elim
theorem get_know {s : Nat} {v : MV} (h : VE.get E s = some v) : VE.get ((s, v) :: E) = VE.get E := by
  funext t
  rw [VE.get_cons]
  split
  · rename_i hh; subst hh; exact h.symm
  · rfl
section
variable (Pg : Program) (T : Tab) (N : Nat) (ents : List FuncId) (G : GS)
/-- An operation of a region that draws its order. -/
def vRunD (rf : Bool) (o : Oper) (E : VE) (M : VM) (n : Nat) (K : MV → VM → List Nat → Prop) : Prop := match rf with
  | false => vRun Pg T ents G o E M n fun r M' => K r M' (numsO (VE.get E) o.op.operands.toList)
  | true => match o.op with
    | .call c => match c.callee with
      | .value f => (vArgs E f c.args.toList).runP fun x => match ents.contains x.1 with
        | true => ∃ fp, vCallZ Pg G M x.1 x.2 fp fun r M' => K r M' fp
        | false => False
      | _ => False
    | _ => False
def vOpD (ops : Array Oper) (rf : Bool) (o : Oper) (K : List Nat → VE → VM → Prop) (E : VE) (M : VM) (n : Nat) : Prop := match o.guard with
  | none => vRunD Pg T ents G rf o E M n fun r M fp => vPut N o.dst r E fun E => K fp E M
  | some (j, want) => match (ops[j]?).bind (·.dst) with
    | none => False
    | some s => match VE.get E s with
      | some (.bool t) =>
        (t = want → vRunD Pg T ents G rf o ((s, .bool want) :: E) M n fun r M fp => vPut N o.dst r ((s, .bool want) :: E) fun E => K fp E M) ∧
        (t = !want → vPut N o.dst .undef ((s, .bool (!want)) :: E) fun E' => K (bif rf then [] else numsO (VE.get E) o.op.operands.toList) E' M)
      | some .undef => vPut N o.dst .undef E fun E' => K (bif rf then [] else numsO (VE.get E) o.op.operands.toList) E' M
      | _ => False
/-- The operations of a region in the order of a list (a number that is marked: a call that is handed blocks). A: what has come so far, the last one first. -/
def vOpsD (ops : Array Oper) : List (Nat × Bool) → List Dop → VK → VE → VM → Nat → Prop
  | [], A, K => fun E M n => okDraw ops A.reverse = true ∧ K E M n
  | x :: L, A, K => fun E M n => match ops[x.1]? with
    | some o => vOpD Pg T N ents G ops x.2 o (fun fp E M => vOpsD ops L (⟨x.1, n, x.2, fp⟩ :: A) K E M (n + 1)) E M n
    | none => False
end
theorem vRunD_toF {rf : Bool} {E2 : VE} {K : MV → VM → List Nat → Prop} {D : VE} (h : vRunD Pg T ents G rf o E2 M n K) (hg : gdF ops o (VE.get E2) = some true) (hd : ∀ d, o.dst = some d → d < N) : ∃ r M' fp, K r M' fp ∧ stepF Pg T N ents G ops rf o n fp (VE.get E2) (VM.get M) (putF o.dst r (VE.get E2)) (VM.get M') := by
  cases rf with
  | false =>
    obtain ⟨r, δ, h1, h2⟩ := vRun_toF (K := fun r M' => K r M' (numsO (VE.get E2) o.op.operands.toList)) h
    exact ⟨r, δ.app n M, _, h2, r, hd, rfl, δ, ⟨true, hg, fun _ => h1, fun h => nomatch h⟩, Dl.get_app _ _ _, rfl⟩
  | true =>
    have hd' := hd
    obtain ⟨dst, op, ty, pos, after, guard⟩ := o
    unfold vRunD at h
    cases op with
    | call c =>
      obtain ⟨callee, args, ats⟩ := c
      cases callee with
      | value f =>
        replace h : (vArgsF (VE.get E2) f args.toList).runP fun x => match ents.contains x.1 with | true => ∃ fp, vCallZ Pg G M x.1 x.2 fp fun r M' => K r M' fp | false => False := h
        unfold vArgsF at h
        obtain ⟨x, h1, h2, h3⟩ := (Sharp.rd fun fv => Sharp.rds fun vs => by cases fv <;> first | exact Sharp.ret _ | exact Sharp.bad) _ h
        split at h2
        · rename_i hc
          obtain ⟨fp, args', M0, n0, res, M1, a1, σ, bs, a2, a3, a4, a5, a6, a7⟩ := h2
          refine ⟨_, _, fp, a7, _, hd', rfl, true, hg, fun _ => ?_, fun h => nomatch h⟩
          show (vArgsF (VE.get E2) f args.toList).runP _
          unfold vArgsF
          exact h3 _ ⟨hc, M, rfl, args', M0, n0, res, M1, a1, σ, bs, a2, a3, a4, a5, a6, rfl, rfl⟩
        · exact h2.elim
      | _ => exact h.elim
    | _ => exact h.elim
theorem vPut_dst {dst : Option Tmp} {r : MV} {K : VE → Prop} (h : vPut N dst r E K) : ∀ d, dst = some d → d < N := by
  intro d hd
  subst hd
  unfold vPut at h
  split at h
  · rename_i hh; cases hh
  · rename_i d' hh
    injection hh with hh
    subst hh
    split at h
    · rename_i hb; simpa [Nat.blt_eq] using hb
    · exact h.elim
theorem vRunD_some {rf : Bool} {K : MV → VM → List Nat → Prop} (h : vRunD Pg T ents G rf o E M n K) : ∃ r M' fp, K r M' fp := by
  cases rf with
  | false => obtain ⟨r, δ, h1, h2⟩ := vRun_toF (K := fun r M' => K r M' (numsO (VE.get E) o.op.operands.toList)) h; exact ⟨_, _, _, h2⟩
  | true =>
    obtain ⟨dst, op, ty, pos, after, guard⟩ := o
    unfold vRunD at h
    cases op with
    | call c =>
      obtain ⟨callee, args, ats⟩ := c
      cases callee with
      | value f =>
        replace h : (vArgsF (VE.get E) f args.toList).runP fun x => match ents.contains x.1 with | true => ∃ fp, vCallZ Pg G M x.1 x.2 fp fun r M' => K r M' fp | false => False := h
        unfold vArgsF at h
        obtain ⟨x, h1, h2, h3⟩ := (Sharp.rd fun fv => Sharp.rds fun vs => by cases fv <;> first | exact Sharp.ret _ | exact Sharp.bad) _ h
        split at h2
        · obtain ⟨fp, args', M0, n0, res, M1, a1, σ, bs, a2, a3, a4, a5, a6, a7⟩ := h2
          exact ⟨_, _, _, a7⟩
        · exact h2.elim
      | _ => exact h.elim
    | _ => exact h.elim
theorem vOpD_toF {rf : Bool} {K : List Nat → VE → VM → Prop} (h : vOpD Pg T N ents G ops rf o K E M n) : ∃ fp E1 M1, K fp E1 M1 ∧ stepF Pg T N ents G ops rf o n fp (VE.get E) (VM.get M) (VE.get E1) (VM.get M1) := by
  have run : ∀ {E2 : VE}, VE.get E2 = VE.get E → gdF ops o (VE.get E) = some true → (vRunD Pg T ents G rf o E2 M n fun r M fp => vPut N o.dst r E2 fun E => K fp E M) → ∃ fp E1 M1, K fp E1 M1 ∧ stepF Pg T N ents G ops rf o n fp (VE.get E) (VM.get M) (VE.get E1) (VM.get M1) := by
    intro E2 he hg h
    have hd : ∀ d, o.dst = some d → d < N := by obtain ⟨r, M', fp, h1⟩ := vRunD_some h; exact vPut_dst h1
    obtain ⟨r, M', fp, h1, h2⟩ := vRunD_toF (D := E2) h (by rw [he]; exact hg) hd
    obtain ⟨E1, h3, h4, h5⟩ := vPut_toF h1
    rw [he] at h2 h5
    rw [← h5] at h2
    exact ⟨fp, E1, M', h3, h2⟩
  have skip : ∀ {E2 : VE}, VE.get E2 = VE.get E → gdF ops o (VE.get E) = some false → (vPut N o.dst .undef E2 fun E' => K (bif rf then [] else numsO (VE.get E) o.op.operands.toList) E' M) → ∃ fp E1 M1, K fp E1 M1 ∧ stepF Pg T N ents G ops rf o n fp (VE.get E) (VM.get M) (VE.get E1) (VM.get M1) := by
    intro E2 he hg h
    obtain ⟨E1, h3, h4, h5⟩ := vPut_toF h
    rw [he] at h5
    cases rf with
    | false => exact ⟨_, E1, M, h3, .undef, h4, h5, .none, ⟨false, hg, fun h => (nomatch h), fun _ => ⟨rfl, rfl⟩⟩, rfl, rfl⟩
    | true => exact ⟨_, E1, M, h3, .undef, h4, h5, false, hg, fun h => (nomatch h), fun _ => ⟨rfl, rfl⟩⟩
  unfold vOpD at h
  split at h
  · rename_i hg
    exact run rfl (by simp [gdF, hg]) h
  · rename_i j want hg
    split at h
    · exact h.elim
    · rename_i s hj
      split at h
      · rename_i t ht
        by_cases hw : t = want
        · exact run (get_know (by rw [ht, hw])) (by simp [gdF, hg, hj, ht, hw]) (h.1 hw)
        · have hw' : t = !want := by cases t <;> cases want <;> simp_all
          exact skip (get_know (by rw [ht, hw'])) (by simp [gdF, hg, hj, ht, hw]) (h.2 hw')
      · rename_i ht
        exact skip rfl (by simp [gdF, hg, hj, ht]) h
      · exact h.elim
/-- The numbers of a region's operations. -/
def NumB (n n' : Nat) (L : List Dop) : Prop := (L.map (·.n)).Nodup ∧ ∀ x ∈ L, n ≤ x.n ∧ x.n < n'
theorem vOpsD_toF : ∀ {L : List (Nat × Bool)} {A : List Dop} {K : VK} {E : VE} {M : VM} {n : Nat}, vOpsD Pg T N ents G ops L A K E M n →
    ∃ D E1 M1, okDraw ops (A.reverse ++ D) = true ∧ D.length = L.length ∧ NumB n (n + L.length) D ∧ K E1 M1 (n + L.length) ∧ runL Pg T N ents G ops D (VE.get E) (VM.get M) (VE.get E1) (VM.get M1)
  | [], A, K, E, M, n, h => ⟨[], E, M, by simpa using h.1, rfl, ⟨List.nodup_nil, fun _ h => nomatch h⟩, h.2, rfl, rfl⟩
  | x :: L, A, K, E, M, n, h => by
    unfold vOpsD at h
    split at h
    · rename_i o ho
      obtain ⟨fp, E1, M1, h1, h2⟩ := vOpD_toF h
      obtain ⟨D, E2, M2, h3, h4, h5, h6, h7⟩ := vOpsD_toF h1
      refine ⟨⟨x.1, n, x.2, fp⟩ :: D, E2, M2, by simpa using h3, by simp [h4], ⟨List.nodup_cons.2 ⟨fun hm => ?_, h5.1⟩, fun y hy => ?_⟩, by rw [List.length_cons, show n + (L.length + 1) = n + 1 + L.length by omega]; exact h6, o, _, _, ho, h2, h7⟩
      · obtain ⟨y, hy, he⟩ := List.mem_map.1 hm
        have := (h5.2 y hy).1
        simp only at he
        omega
      · rcases List.mem_cons.1 hy with rfl | hy
        · simp
        · have := h5.2 y hy
          simp only [List.length_cons]
          omega
    · exact h.elim
end
end Go.Proofs.Ytplkofafnbfkmaa
/- Conditions of code over trees, and that they suffice: code, and contracts. -/
namespace Go.Proofs.Ytplkofafnbfkmaa
open Go.RowKit

section
variable (Pg : Program) (T : Tab) (N : Nat) (ents : List FuncId) (G : GS) (n0 : Nat)
def vC : Code → (Exit → VK) → VK
  | .skip, Q, E, M, n => Q .normal E M n
  | .region _ ops draw, Q, E, M, n => match draw with
    | false => vOpsN Pg T N ents G ops ops.toList (Q .normal) E M n
    | true => ∃ L : List (Nat × Bool), vOpsD Pg T N ents G ops L [] (Q .normal) E M n
  | .seq x y, Q, E, M, n => vC x (fun e E M n => match e with | .normal => vC y Q E M n | e => Q e E M n) E M n
  | .cond c x y, Q, E, M, n => match evM (VE.get E) c with
    | some (.bool t) => (t = true → vC x Q E M n) ∧ (t = false → vC y Q E M n)
    | _ => False
  | .block id c, Q, E, M, n => vC c (fun e E M n => match e with | .exit i => (bif Nat.beq i id then Q .normal E M n else Q (.exit i) E M n) | e => Q e E M n) E M n
  | .loop c, Q, E, M, _ => ∃ (X : Type) (E' : X → VE) (M' : X → VM) (n' : Nat) (I : X → Prop) (μ : X → Nat),
      (∃ x, I x ∧ VMatch n0 (E' x) (M' x) n' E M) ∧
      ∀ x, I x → vC c (fun e E1 M1 n1 => match e with | .normal => ∃ x', I x' ∧ μ x' < μ x ∧ VMatch n0 (E' x') (M' x') n' E1 M1 | e => Q e E1 M1 n1) (E' x) (M' x) n'
  | .exit id, Q, E, M, n => Q (.exit id) E M n
  | .ret, Q, E, M, n => Q .ret E M n
  | .label _, Q, E, M, n => Q .normal E M n
  | _, _, _, _, _ => False
def tupM : List MV → MV
  | [v] => v
  | vs => .tup vs
def vRets (M : VM) (E : VE) : List ResultVar → (List MV → Prop) → Prop
  | [], K => K []
  | .tmp t :: l, K => match VE.get E t with
    | some v => vRets M E l fun r => K (v :: r)
    | none => False
  | .cell p ty :: l, K => match VE.get E p with
    | some p => (oLoad T (VM.get M) ty p).runP fun x => vRets M E l fun r => K (x.1 :: r)
    | none => False
def vRetQ (rs : List ResultVar) (R : MV → Prop) : Exit → VK := fun e E M _ => match e with
  | .ret | .normal => vRets T M E rs fun vs => (frzs (VM.get M) vs).runP fun x => R (tupM x.1)
  | _ => False
/-- At the end of a call that is handed blocks. -/
def vRetR (rs : List ResultVar) (res : MV) (M1 : VM) (n1 : Nat) : Exit → VK := fun e E M _ => match e with
  | .ret | .normal => vRets T M E rs fun vs => ∃ (rv : List MV) (σ bs : List (Nat × Nat)), tupM rv = res ∧ LMatch n0 rv M1 n1 vs M σ bs
  | _ => False
end
section
variable {ops : Array Oper} {e : Nat → Option MV} {F F' : Nat → Prop} {Pg : Program} {T : Tab} {N : Nat} {ents : List FuncId} {G : GS} {w0 w w' : World} {ex0 : Anc} {P0 P : Prot} {adr : Adr} {E : VE} {M : VM} {m : FM} {n : Nat} {a : Act} {r : MV} {u : Value} {δ : Dl}
def PostM (N : Nat) (w0 : World) (ex0 : Anc) (P0 : Prot) (Q : Exit → VK) : Exit → Act → World → Prop := fun e a w => ∃ E M n, Q e E M n ∧ Sim N w0 ex0 P0 (VE.get E) (VM.get M) n a w
theorem SimS.drew (hs : SimS N w0 ex0 P0 e m F a w) : SimS N w0 ex0 P0 e m F a { w with drawn := w.drawn + 1 } := by
  obtain ⟨P, adr, hI, hE, ha1, ha2, ha3⟩ := hs.ex
  have hb : Below w.heap.size w { w with drawn := w.drawn + 1 } := ⟨rfl, rfl, rfl, Nat.le_refl _, fun _ _ => rfl⟩
  refine ⟨⟨protNew w { w with drawn := w.drawn + 1 } P, adr, hI.below hb, fun t v ht => ?_, ha1, ⟨ha2.in_, ha2.old, ha2.keep.trans (Keep.below hI.prot hb)⟩, fun b o ho => ?_⟩, hs.fresh, hs.ge, ⟨hs.since.os, hs.since.tape, hs.since.output, hs.since.size, hs.since.block⟩, hs.defers, hs.size⟩
  · obtain ⟨u, h1, h2⟩ := hE t v ht
    exact ⟨u, h1, h2.keep (Keep.below hI.prot hb)⟩
  · rcases ho with h | h
    · exact ha3 b o h
    · exact .inr (.inl (Nat.le_trans hs.since.size h.1))
theorem SimS.mono (hs : SimS N w0 ex0 P0 e m F a w) (hF : ∀ c, F' c → F c) : SimS N w0 ex0 P0 e m F' a w := by
  obtain ⟨P, adr, hI, hE, ha1, ha2, ha3⟩ := hs.ex
  exact ⟨⟨P, adr, hI, hE, fun c hc => ha1 c (hF c hc), ha2, ha3⟩, fun c hc => hs.fresh c (hF c hc), fun c hc => hs.ge c (hF c hc), hs.since, hs.defers, hs.size⟩
theorem vPut_sim {M' : VM} {n' : Nat} {w' : World} {P' : Prot} {adr' : Adr} (hd : a.defers = []) (hz : a.tmps.size = N) (hI : InvM w' P' adr' (VM.get M')) (hE : EnvR w' P' adr' (VE.get E) a) (hr : RepV w' P' adr' r u) (h1 : ∀ c, n' ≤ c → adr' c = none) (h2 : AdrOK w0 ex0 P0 w' P' adr')
    (h3 : ∀ b o, P' b o → P0 b o ∨ w0.heap.size ≤ b ∨ ex0.ex b) (h4 : ∀ c, n' ≤ c → VM.get M' c = none) (h5 : ex0.n0 ≤ n') (h6 : Since ex0.ex w0 w') {dst : Option Tmp} {K : VE → Prop} (hK : vPut N dst r E K) : ∃ E', K E' ∧ Sim N w0 ex0 P0 (VE.get E') (VM.get M') n' (a.put dst u) w' := by
  unfold vPut at hK
  split at hK
  · exact ⟨E, hK, ⟨P', adr', hI, hE, h1, h2, h3⟩, h4, h5, h6, hd, hz⟩
  · rename_i d
    split at hK
    · rename_i hlt
      have hlt : d < N := by simpa [Nat.blt_eq] using hlt
      exact ⟨_, hK, ⟨P', adr', hI, hE.put hz hlt hr, h1, h2, h3⟩, h4, h5, h6, hd, by simp [Act.put, hz]⟩
    · exact hK.elim
theorem vOpN_out (hS : SeatM Pg T ents G w0 ex0) {o : Oper} {K : VK} {next : Act → World → Prop} {Q : Exit → Act → World → Prop}
    (h : vOpN Pg T N ents G ops o K E M n) (hs : Sim N w0 ex0 P0 (VE.get E) (VM.get M) n a w) (hn : ∀ E M n a w, K E M n → Sim N w0 ex0 P0 (VE.get E) (VM.get M) n a w → next a w) :
    if Region.wanted o (yielded ops a.tmps) then o.wp Pg a w next Q ∨ (o.asks Pg a w ∧ LetsOut Q) else next (a.put o.dst undef) w := by
  obtain ⟨P, adr, hI, hE, ha1, ha2, ha3⟩ := hs.ex
  have run : ∀ {E2 : VE}, EnvR w P adr (VE.get E2) a → (vRunN Pg T ents G o E2 M n fun r M n => vPut N o.dst r E2 fun E => K E M n) → o.wp Pg a w next Q := by
    intro E2 hE2 h
    unfold vRunN at h
    split at h
    · rename_i k neg hq
      unfold nilQ at hq
      split at hq
      · rename_i op t x ty' hop
        split at hq
        · rename_i k' l hx
          split at hq
          · rename_i e es hd
            have hp := evM_rep hE2 hx
            obtain ⟨A, cap, es', parts, e1, _, _, _, h4, _⟩ := hp.sl_
            have hc : nilCmp T t (.const (.slice none 0 0)) (.val (a.eval x)) (.val (.slice none 0 0)) = some A.isNone := by
              rw [e1]
              cases A with
              | none => obtain ⟨q1, q2⟩ := h4 rfl; subst q1; subst q2; simp [nilCmp, hd]
              | some _ => simp [nilCmp, hd]
            obtain ⟨r1, r2⟩ := nilCmp_out (xo := x) (P := Pg) hS.seat.tab hc w
            have hA : A.isNone = true → k' = 0 := fun hA => (h4 (by simpa using hA)).1
            obtain ⟨dst, op', ty, pos, after, guard⟩ := o
            have hop : op' = .binOp op t x (.const (.slice none 0 0)) ty' := hop
            subst hop
            have fin : ∀ (bb : Bool), (do eqGuard op t x (.const (.slice none 0 0)) (a.eval x) (.slice none 0 0); binOp op t (a.eval x) (.slice none 0 0) : Sem Value).run Pg w = .ok (.bool bb) w → (vPut N dst (.bool bb) E2 fun E => K E M (n + 1)) → (⟨dst, .binOp op t x (.const (.slice none 0 0)) ty', ty, pos, after, guard⟩ : Oper).wp Pg a w next Q := by
              intro bb hr hk
              have hres := Res.val (a := a) (o := ⟨dst, .binOp op t x (.const (.slice none 0 0)) ty', ty, pos, after, guard⟩) (Q := fun u w' => u = .bool bb ∧ w' = w) _ rfl hr ⟨rfl, rfl⟩
              obtain ⟨E', q1, q2⟩ := vPut_sim (n' := n + 1) hs.defers hs.size hI hE2 (.val [_] .bool) (fun c hc => ha1 c (by omega)) ha2 ha3 (fun c hc => hs.fresh c (by omega)) (by have := hs.ge; omega) hs.since hk
              unfold Oper.wp
              rcases hres with ⟨u, w', p1, rfl, rfl⟩ | ⟨w', p1, p2, _⟩
              · rw [p1]; exact hn _ _ _ _ _ q1 q2
              · cases p2
            split at hq
            · injection hq with hq; injection hq with hq1 hq2; subst hq1; subst hq2
              exact fin _ r1 (h A.isNone hA)
            · injection hq with hq; injection hq with hq1 hq2; subst hq1; subst hq2
              exact fin _ r2 (h A.isNone hA)
            · cases hq
          · cases hq
        · cases hq
      · cases hq
    have old : (vRun Pg T ents G o E2 M n fun r M => vPut N o.dst r E2 fun E => K E M (n + 1)) → o.wp Pg a w next Q := by
      intro h
      refine vRun_ok hS h hI ha1 hs.fresh hE2 hs.since fun r δ u w' hk hp => ?_
      obtain ⟨E', h1, h2⟩ := hs.post hI hE2 ha1 ha2 ha3 hp hk
      exact hn _ _ _ _ _ h1 h2
    obtain ⟨dst, op, ty, pos, after, guard⟩ := o
    cases op with
    | call c =>
      obtain ⟨callee, args, ats⟩ := c
      cases callee with
      | builtin b => exact old h
      | invoke r n => exact old h
      | value f =>
        rcases h with h | h
        · exact old h
        · unfold vArgs at h
          obtain ⟨pf, h, hpf⟩ := rd_out hE2 h
          obtain ⟨ps, h, hps⟩ := rds_out hE2 h
          cases pf with
          | fn f0 caps =>
            generalize hu : a.eval f = uf at hpf
            cases hpf with
            | val cs hfn =>
              cases hfn with
              | fn parts hpl hpr =>
                have hall := hps.app (RepVs.of_parts hpl hpr)
                have hex : ∀ w1, (execOp a.eval ⟨dst, .call ⟨.value f, args, ats⟩, ty, pos, after, guard⟩).run Pg w1 = (callFunc f0 (args.toList.map a.eval ++ List.zipWith valM caps parts).toArray).run Pg w1 := fun w1 => by
                  have hmap : args.map a.eval = (args.toList.map a.eval).toArray := arr_map _ _
                  simp [execOp, resolve, hu, valM, MV.isAgg, Deferred.ofValue, invoke, hmap]
                replace h : (match ents.contains f0 with | true => vCallR Pg G SemR M n f0 (ps ++ caps) (fun r M n => vPut N dst r E2 fun E => K E M n) | false => vCallR Pg G SemP M n f0 (ps ++ caps) (fun r M n => vPut N dst r E2 fun E => K E M n)) := h
                split at h
                · rename_i hc
                  have hrun := (hex w).trans (hS.seat.enters f0 (by simpa using hc) (args.toList.map a.eval ++ List.zipWith valM caps parts).toArray w)
                  unfold Oper.wp
                  rw [hrun]
                  refine (vCallR_ok (C := fun P f a w Q => Calls P f a w Q) (fun h k => h.mono k) hS h hs.since hs.fresh hs.ge hI hE2 ha1 ha2 ha3 hall).mono ?_
                  rintro e w' ⟨v, rfl, r, M', n', hk, P', adr', q1, q2, q3, q4, q5, q6, q7, q8, q9⟩
                  obtain ⟨E', h1, h2⟩ := vPut_sim hs.defers hs.size q1 q2 q3 q4 q5 q6 q7 q8 q9 hk
                  exact hn _ _ _ _ _ h1 h2
                · obtain ⟨v0, w', hr, v, he, r, M', n', hk, P', adr', q1, q2, q3, q4, q5, q6, q7, q8, q9⟩ := vCallR_ok (C := Prims) (fun h k => h.mono k) hS h hs.since hs.fresh hs.ge hI hE2 ha1 ha2 ha3 hall
                  injection he with he
                  subst he
                  have hrun := (hex w).trans hr
                  unfold Oper.wp
                  rw [hrun]
                  obtain ⟨E', h1, h2⟩ := vPut_sim hs.defers hs.size q1 q2 q3 q4 q5 q6 q7 q8 q9 hk
                  exact hn _ _ _ _ _ h1 h2
          | _ => exact h.elim
    | _ => exact old h
  have skip : ∀ {E2 : VE}, EnvR w P adr (VE.get E2) a → (vPut N o.dst .undef E2 fun E => K E M (n + 1)) → next (a.put o.dst undef) w := by
    intro E2 hE2 h
    obtain ⟨E', h1, h2⟩ := hs.post (δ := .none) hI hE2 ha1 ha2 ha3 (Post1.pure hI (ha1 n (Nat.le_refl _)) .undef) h
    exact hn _ _ _ _ _ h1 h2
  unfold vOpN at h
  split at h
  · rename_i hg
    rw [if_pos (by simp [Region.wanted, hg])]
    exact .inl (run hE h)
  · rename_i j want hg
    split at h
    · exact h.elim
    · rename_i s hj
      split at h
      · rename_i t ht
        have hv := hs.know ht
        have hy : yielded ops a.tmps j = some t := by simp [yielded, hj, hv]
        by_cases hw : t = want
        · rw [if_pos (by simp [Region.wanted, hg, hy, hw])]
          exact .inl (run (hE.know (by rw [ht, hw])) (h.1 hw))
        · have hw' : t = !want := by cases t <;> cases want <;> simp_all
          rw [if_neg (by simp [Region.wanted, hg, hy, hw])]
          exact skip (hE.know (by rw [ht, hw'])) (h.2 hw')
      · rename_i ht
        obtain ⟨v, hv1, hv2⟩ := hE s _ ht
        have hv : v = undef := hv2.undef_
        subst hv
        have hy : yielded ops a.tmps j = none := by simp [yielded, hj, hv1, undef]
        rw [if_neg (by simp [Region.wanted, hg, hy])]
        exact skip hE h
      · exact h.elim
theorem vOpsN_ok (hS : SeatM Pg T ents G w0 ex0) (ops : Array Oper) : ∀ (l : List Oper) {K : VK} {E : VE} {M : VM} {n : Nat} {a : Act} {w : World} {Q : Exit → Act → World → Prop},
    vOpsN Pg T N ents G ops l K E M n → Sim N w0 ex0 P0 (VE.get E) (VM.get M) n a w → (∀ E M n a w, K E M n → Sim N w0 ex0 P0 (VE.get E) (VM.get M) n a w → Q .normal a w) → wpList Pg ops Q l a w
  | [], _, E, M, n, a, w, _, h, hs, hQ => hQ E M n a w h hs
  | _ :: rest, _, _, _, _, _, _, Q, h, hs, hQ =>
    vOpN_out hS (next := wpList Pg ops Q rest) (Q := Q) h hs fun _ _ _ _ _ h hs => vOpsN_ok hS ops rest h hs hQ
/-- A region that draws its order. -/
theorem draw_ok (hS : SeatM Pg T ents G w0 ex0) {id : Nat} {L : List (Nat × Bool)} {Q : Exit → VK} (h : vOpsD Pg T N ents G ops L [] (Q .normal) E M n) (hs : Sim N w0 ex0 P0 (VE.get E) (VM.get M) n a w) : (Code.region id ops true).wp Pg (PostM N w0 ex0 P0 Q) a w := by
  obtain ⟨D, E1, M1, hok, hlen0, ⟨hnd, hnb⟩, hq, hr⟩ := vOpsD_toF h
  rw [List.reverse_nil, List.nil_append] at hok
  simp only [okDraw, Bool.and_eq_true, List.all_eq_true] at hok
  obtain ⟨⟨hls, hall⟩, hlen⟩ := hok
  obtain ⟨hP, hA⟩ := okLs_spec hls
  refine wp_region_any hS.seat.mixed ?_
  refine any_ok (Z := fun c => n + L.length ≤ c) hS (fun a w hs' => ⟨E1, M1, _, hq, hs'.toSim fun c hc => hc⟩) ops.size D ⟨M, rfl⟩ hr hP hA hnd (fun x hx hz => ?_) ?_ (fun k hk => ?_) (by simp) (fun k o ho hl => ?_) ?_
  · have := (hnb x hx).2
    omega
  · refine (hs.toS.drew).mono fun c hc => ?_
    rcases hc with hc | hc
    · obtain ⟨x, hx, rfl⟩ := List.mem_map.1 hc
      exact (hnb x hx).1
    · show n ≤ c
      replace hc : n + L.length ≤ c := hc
      omega
  · have h1 : (Array.replicate ops.size false).getD k true = false := by simp [Array.getD, hk]
    have h2 : k ∈ D.map (·.k) := by simpa using hall k (by simpa using hk)
    exact ⟨fun _ => h2, fun _ => h1⟩
  · exfalso
    by_cases hk : k < ops.size
    · simp [Array.getD, hk] at hl
    · simp [Array.getD, hk] at hl
  · simpa using hlen
theorem vC_ok (hS : SeatM Pg T ents G w0 ex0) : ∀ (c : Code) {Q : Exit → VK} {E : VE} {M : VM} {n : Nat} {a : Act} {w : World},
    vC Pg T N ents G ex0.n0 c Q E M n → Sim N w0 ex0 P0 (VE.get E) (VM.get M) n a w → c.wp Pg (PostM N w0 ex0 P0 Q) a w := by
  intro c
  induction c with
  | skip => intro Q E M n a w h hs; exact wp_skip ⟨E, M, n, h, hs⟩
  | region id ops draw =>
    intro Q E M n a w h hs
    cases draw with
    | false => exact wp_region_list (vOpsN_ok hS ops _ h hs fun E M n a w hk hs => ⟨E, M, n, hk, hs⟩)
    | true =>
      obtain ⟨L, h⟩ := h
      exact draw_ok hS h hs
  | seq x y ihx ihy =>
    intro Q E M n a w h hs
    refine wp_seq (Code.wp_mono (fun e a w hq => ?_) (ihx h hs))
    obtain ⟨E', M', n', hq, hs'⟩ := hq
    cases e with
    | normal => exact ihy hq hs'
    | _ => exact ⟨E', M', n', hq, hs'⟩
  | cond c x y ihx ihy =>
    intro Q E M n a w h hs
    simp only [vC] at h
    split at h
    · rename_i t ht
      obtain ⟨P, adr, hI, hE, _⟩ := hs.ex
      have hv := (evM_rep hE ht).bool_
      exact wp_cond_split hv (fun ht => ihx (h.1 ht) hs) (fun ht => ihy (h.2 ht) hs)
    · exact h.elim
  | block id c ih =>
    intro Q E M n a w h hs
    refine wp_block (Code.wp_mono (fun e a w hq => ?_) (ih h hs))
    obtain ⟨E', M', n', hq, hs'⟩ := hq
    cases e with
    | exit i =>
      by_cases hi : i = id
      · subst hi
        simp at hq
        simp only [Exit.inBlock, if_true]
        exact ⟨E', M', n', hq, hs'⟩
      · simp only [beq_ne hi, cond_false] at hq
        simp only [Exit.inBlock, hi, if_false]
        exact ⟨E', M', n', hq, hs'⟩
    | _ => exact ⟨E', M', n', hq, hs'⟩
  | loop c ih =>
    intro Q E M n a w h hs
    obtain ⟨X, E', M', n', I, μ, ⟨x0, hI0, hm0⟩, h1⟩ := h
    have hs0 := hs.matched hm0
    intro b k cs
    have key : ∀ j x a w, μ x = j → I x → Sim N w0 ex0 P0 (VE.get (E' x)) (VM.get (M' x)) n' a w →
        ∃ e a' w', PostM N w0 ex0 P0 Q e a' w' ∧ Arrives Pg (lone (b.at a (.code c :: .inLoop c :: k)) cs w) b k cs e a' w' := by
      intro j
      induction j using Nat.strongRecOn with
      | _ j ihn =>
        intro x a w hn hI hs
        obtain ⟨e, a₁, w₁, hq, harr⟩ := ih (h1 x hI) hs b (.inLoop c :: k) cs
        obtain ⟨E1, M1, n1, hq, hs1⟩ := hq
        cases e with
        | normal =>
          obtain ⟨x', hI', hlt, hm⟩ := hq
          obtain ⟨e₂, a₂, w₂, hq₂, harr₂⟩ := ihn (μ x') (hn ▸ hlt) x' a₁ w₁ rfl hI' (hs1.matched hm)
          exact ⟨e₂, a₂, w₂, hq₂, .of_steps (Steps.trans harr (.one step_inLoop)) harr₂⟩
        | exit id => exact ⟨_, a₁, w₁, ⟨E1, M1, n1, hq, hs1⟩, .pass (x := .inLoop c) rfl (fun _ _ => .inl (by simp)) harr⟩
        | goto l => exact ⟨_, a₁, w₁, ⟨E1, M1, n1, hq, hs1⟩, .pass (x := .inLoop c) rfl (fun _ _ => .inl (by simp)) harr⟩
        | ret => exact ⟨_, a₁, w₁, ⟨E1, M1, n1, hq, hs1⟩, .pass (x := .inLoop c) rfl (fun _ _ => .inl (by simp)) harr⟩
        | panic ch => exact ⟨_, a₁, w₁, ⟨E1, M1, n1, hq, hs1⟩, .pass (x := .inLoop c) rfl (fun _ _ => .inl (by simp)) harr⟩
        | outgrown => exact ⟨_, a₁, w₁, ⟨E1, M1, n1, hq, hs1⟩, .pass (x := .inLoop c) rfl (fun _ _ => .inl (by simp)) harr⟩
    obtain ⟨e, a', w', hq, harr⟩ := key _ x0 a w rfl hI0 hs0
    exact ⟨e, a', w', hq, .of_steps (.one step_loop) harr⟩
  | exit id => intro Q E M n a w h hs; exact wp_exit ⟨E, M, n, h, hs⟩
  | ret => intro Q E M n a w h hs; exact wp_ret ⟨E, M, n, h, hs⟩
  | label l => intro Q E M n a w h hs; exact wp_label ⟨E, M, n, h, hs⟩
  | rangeFunc => intro Q E M n a w h; exact h.elim
  | scope => intro Q E M n a w h; exact h.elim
  | goto => intro Q E M n a w h; exact h.elim
  | refuse => intro Q E M n a w h; exact h.elim
theorem vRets_out (hT : TabOK Pg T) (hI : InvM w P adr (VM.get M)) (hE : EnvR w P adr (VE.get E) a) : ∀ {rs : List ResultVar} {K : List MV → Prop}, vRets T M E rs K →
    ∃ (ps : List MV) (vs : List Value), vs.length = rs.length ∧ (∀ (i : Nat) (r : ResultVar), rs[i]? = some r → ∃ v, vs[i]? = some v ∧ (resOne a.tmps r).run Pg w = .ok v w) ∧ RepVs w P adr ps vs ∧ K ps
  | [], K, h => ⟨[], [], rfl, fun i r hi => by simp at hi, .nil, h⟩
  | .tmp t :: l, K, h => by
    unfold vRets at h
    split at h
    · rename_i p hp
      obtain ⟨v, h1, h2⟩ := hE t p hp
      obtain ⟨ps, vs, hl, hi, hr, hK⟩ := vRets_out hT hI hE h
      refine ⟨p :: ps, v :: vs, by simp [hl], fun i r hr => ?_, .cons h2 hr, hK⟩
      cases i with
      | zero => simp at hr; subst hr; exact ⟨v, rfl, by simp [resOne, h1]⟩
      | succ i => exact hi i r (by simpa using hr)
    · exact h.elim
  | .cell p ty :: l, K, h => by
    unfold vRets at h
    split at h
    · rename_i q hq
      obtain ⟨uv, h1, h2⟩ := hE p q hq
      obtain ⟨r0, v, h3, h4, h5⟩ := oLoad_ok hT h h2 hI
      obtain ⟨ps, vs, hl, hi, hr, hK⟩ := vRets_out hT hI hE h3
      refine ⟨r0 :: ps, v :: vs, by simp [hl], fun i r hr => ?_, .cons h5 hr, hK⟩
      cases i with
      | zero =>
        simp at hr
        subst hr
        refine ⟨v, rfl, ?_⟩
        have hg' : a.tmps.getD p undef = uv := by simp [h1]
        simp only [resOne, hg']
        exact loadAt_asAddr h4
      | succ i => exact hi i r (by simpa using hr)
    · exact h.elim
theorem tup_rep {ps : List MV} {vs : List Value} (h : RepVs w P adr ps vs) (hv : ∀ p ∈ ps, p.isVal = true) : RepV w P adr (tupM ps) (tup vs) := by
  obtain ⟨parts, h1, h2, rfl⟩ := h.caps hv
  match ps, parts, h1, h2 with
  | [], [], _, _ => exact .tup [] rfl (fun j m u h => by simp at h)
  | [p], [q], _, h2 => exact .val q (h2 0 p q rfl rfl)
  | p :: p' :: ps, q :: q' :: parts, h1, h2 =>
    refine .tup (List.zipWith valM (p :: p' :: ps) (q :: q' :: parts)) (by rw [List.length_zipWith]; simp at h1 ⊢; omega) fun j m u hj hu => ?_
    rw [List.getElem?_zipWith] at hu
    rw [hj] at hu
    cases hq : (q :: q' :: parts)[j]? with
    | none => rw [hq] at hu; cases hu
    | some c =>
      rw [hq] at hu
      injection hu with hu
      exact ⟨c, h2 j m c hj hq, hu.symm⟩
theorem envM_get : ∀ {l : List MV} {i t : Nat} {v : MV}, VE.get (envM i l) t = some v → i ≤ t ∧ l[t - i]? = some v
  | [], i, t, v, h => by simp [envM, VE.get] at h
  | x :: l, i, t, v, h => by
    rw [envM, VE.get_cons] at h
    split at h
    · rename_i e; subst e; injection h with h; subst h; simp
    · rename_i e
      obtain ⟨h1, h2⟩ := envM_get h
      refine ⟨by omega, ?_⟩
      rw [show t - i = (t - (i + 1)) + 1 by omega]
      simpa using h2
theorem RepVs.get : ∀ {ps : List MV} {vs : List Value}, RepVs w P adr ps vs → ∀ {i : Nat} {p : MV}, ps[i]? = some p → ∃ v, vs[i]? = some v ∧ RepV w P adr p v
  | _, _, .nil, i, p, h => by simp at h
  | _, _, .cons (p := q) (v := v) h t, i, p, hi => by
    cases i with
    | zero => simp at hi; subst hi; exact ⟨v, rfl, h⟩
    | succ i => simpa using t.get (i := i) (by simpa using hi)
theorem RepVs.length : ∀ {ps : List MV} {vs : List Value}, RepVs w P adr ps vs → ps.length = vs.length
  | _, _, .nil => rfl
  | _, _, .cons _ t => by simp [t.length]
theorem frzs_conj {K : List MV × List (Nat × Nat) → Prop} {m : FM} : ∀ {l : List MV}, (frzs m l).runP K → (frzs m l).runP fun x => K x ∧ ∀ p ∈ x.1, p.isVal = true := by
  have one : ∀ {p : MV} {K : MV × List (Nat × Nat) → Prop}, (frz m p).runP K → (frz m p).runP fun x => K x ∧ x.1.isVal = true := by
    intro p K h
    cases p <;> simp only [frz] at h ⊢
    case ms c es off n =>
      split at h
      · split at h
        · obtain ⟨a1, l, a2, h⟩ := h; exact ⟨a1, l, a2, h, rfl⟩
        · exact h.elim
      · exact h.elim
    case ptr c es k fo path =>
      split at h
      · rename_i b hb
        cases he : Nat.beq b.es es with
        | false => rw [he] at h; exact h.elim
        | true =>
          rw [he] at h
          obtain ⟨v, q1, h⟩ := h
          cases hf : v.idFree with
          | false => rw [hf] at h; exact h.elim
          | true => rw [hf] at h; exact ⟨v, q1, by simp only [hf]; exact ⟨h, rfl⟩⟩
      · exact h.elim
    case st l => exact frzs_weak (Ask.bind_runP.1 h) fun _ h => ⟨h, rfl⟩
    case fn f l => exact frzs_weak (Ask.bind_runP.1 h) fun _ h => ⟨h, rfl⟩
    case ifc t v => exact frz_weak (Ask.bind_runP.1 h) fun _ h => ⟨h, rfl⟩
    all_goals first | exact h.elim | exact ⟨h, rfl⟩
  intro l
  induction l generalizing K with
  | nil => intro h; exact ⟨h, fun p hp => nomatch hp⟩
  | cons q l ih =>
    intro h
    simp only [frzs] at h ⊢
    refine frz_weak (one (Ask.bind_runP.1 h)) fun x hx => ?_
    refine frzs_weak (ih (Ask.bind_runP.1 hx.1)) fun y hy => ⟨hy.1, fun p hp => ?_⟩
    rcases List.mem_cons.1 hp with rfl | hp
    · exact hx.2
    · exact hy.2 p hp
/-- A contract out of a condition. -/
theorem semC_of_vc (hS : Seat Pg T ents) {f : FuncId} {fn : Func} {c : Code} {rs : List ResultVar} (hf : Pg.funcs[f]? = some fn) (hb : fn.body = some c) (hrs : fn.results = rs.toArray) (h5 : rs.length ≤ 5) {args : List MV} (hn : args.length ≤ fn.ntmps) (hN : fn.ntmps = N) {res : MV}
    (h : vC Pg T N ents G 0 c (vRetQ T rs fun r => r = res) (envM 0 args) [] 0) : SemC Pg G f args res := by
  intro w P vals hg hP hargs
  have hSM : SeatM Pg T ents G w noAnc := ⟨hS, fun w' h => G.stab w w' _ hg (fun _ h => h.elim) h, fun _ h => h.elim, fun g h => G.lt w g hg h⟩
  have hlen := hargs.length
  have h0 : Sim N w noAnc P (VE.get (envM 0 args)) (VM.get []) 0 { tmps := vals.toArray ++ Array.replicate (fn.ntmps - vals.toArray.size) undef, defers := [] } w := by
    refine ⟨⟨P, noAdr, ⟨fun c b hc => by simp [VM.get] at hc, fun c d b b' g hc => by simp [VM.get] at hc, hP⟩, fun t v ht => ?_, fun _ _ => rfl, ⟨fun c g hc => (nomatch hc), fun c hc => absurd hc (Nat.not_lt_zero c), Keep.refl _ _ _⟩, fun b o h => .inl h⟩, fun c _ => rfl, Nat.zero_le _, Since.refl _ _, rfl, by simp; omega⟩
    obtain ⟨_, h2⟩ := envM_get ht
    rw [Nat.sub_zero] at h2
    obtain ⟨u, h3, h4⟩ := hargs.get h2
    have hlt := (List.getElem?_eq_some_iff.1 h3).1
    refine ⟨u, ?_, h4⟩
    show (vals.toArray ++ Array.replicate (fn.ntmps - vals.toArray.size) undef)[t]? = some u
    rw [Array.getElem?_append_left (by simpa using hlt)]
    simpa using h3
  refine calls_of_wp hf hb (Code.wp_mono (fun e a w' hq => ?_) (vC_ok (ex0 := noAnc) hSM c h h0))
  obtain ⟨E', M', n', hq, hs⟩ := hq
  have fin : vRets T M' E' rs (fun vs => (frzs (VM.get M') vs).runP fun x => tupM x.1 = res) →
      a.defers = [] ∧ ∃ v, (results fn a.tmps).run Pg w' = .ok v w' ∧ ∃ v', Ending.returned v = .returned v' ∧ RepV w' (protNew w w' P) noAdr res v' ∧ Below w.heap.size w w' := by
    intro hq
    obtain ⟨P', adr', hI, hE, ha1, ha2, ha3⟩ := hs.ex
    obtain ⟨ps, vs, hl, hi, hr, hK⟩ := vRets_out hS.tab hI hE hq
    obtain ⟨l', bs, ⟨hxr, hfree⟩, P2, h1, h2, h3, h4⟩ := frzs_vals (frzs_conj hK) hr hI
    refine ⟨hs.defers, tup vs, results_out hrs h5 hl hi, tup vs, rfl, ?_, hs.since.below⟩
    rw [← hxr]
    refine (tup_rep h4 hfree).keep ⟨fun b o hp => ?_, fun _ _ _ => rfl, fun _ _ h => (nomatch h), fun _ _ _ _ h => nomatch h⟩
    rcases h3 b o hp with hp' | ⟨c', hc'⟩
    · rcases ha3 b o hp' with h | h | h
      · exact .inl h
      · exact .inr ⟨h, hI.prot b o hp'⟩
      · exact h.elim
    · rcases ha2.in_ c' b hc' with h | h
      · exact .inr ⟨h, h1.prot b o hp⟩
      · exact h.elim
  cases e with
  | normal => exact fin hq
  | ret => exact fin hq
  | _ => exact hq.elim
/-- A contract of a call that is handed blocks. -/
theorem semR_of_vc (hS : Seat Pg T ents) {f : FuncId} {fn : Func} {c : Code} {rs : List ResultVar} (hf : Pg.funcs[f]? = some fn) (hb : fn.body = some c) (hrs : fn.results = rs.toArray) (h5 : rs.length ≤ 5) {args : List MV} (hn : args.length ≤ fn.ntmps) (hN : fn.ntmps = N) {M0 : VM} {n0 : Nat} (hM0 : M0.all (fun x => Nat.blt x.1 n0) = true) {res : MV} {M1 : VM} {n1 : Nat}
    (h : vC Pg T N ents G n0 c (vRetR T n0 rs res M1 n1) (envM 0 args) M0 n0) : SemR Pg G f args M0 n0 res M1 n1 := by
  intro w P adr vals hg hI0 hn0 hL hargs
  have hSM : SeatM Pg T ents G w ⟨fun g => ∃ c, adr c = some g, adr, n0, fun c g hc => by
      rcases Nat.lt_or_ge c n0 with h | h
      · exact h
      · rw [hn0 c h] at hc; cases hc⟩ := ⟨hS, fun w' h => G.stab w w' _ hg (fun g ⟨c, hc⟩ => hL c g hc) h, fun g ⟨c, hc⟩ => hL c g hc, fun g h => G.lt w g hg h⟩
  have hlen := hargs.length
  have h0 : Sim N w ⟨fun g => ∃ c, adr c = some g, adr, n0, fun c g hc => by
      rcases Nat.lt_or_ge c n0 with h | h
      · exact h
      · rw [hn0 c h] at hc; cases hc⟩ P (VE.get (envM 0 args)) (VM.get M0) n0 { tmps := vals.toArray ++ Array.replicate (fn.ntmps - vals.toArray.size) undef, defers := [] } w := by
    refine ⟨⟨P, adr, hI0, fun t v ht => ?_, hn0, ⟨fun c g hc => .inr ⟨c, hc⟩, fun c _ => rfl, Keep.refl _ _ _⟩, fun b o h => .inl h⟩, fun c hc => all_lt hM0 hc, Nat.le_refl _, Since.refl _ _, rfl, by simp; omega⟩
    obtain ⟨_, h2⟩ := envM_get ht
    rw [Nat.sub_zero] at h2
    obtain ⟨u, h3, h4⟩ := hargs.get h2
    have hlt := (List.getElem?_eq_some_iff.1 h3).1
    refine ⟨u, ?_, h4⟩
    show (vals.toArray ++ Array.replicate (fn.ntmps - vals.toArray.size) undef)[t]? = some u
    rw [Array.getElem?_append_left (by simpa using hlt)]
    simpa using h3
  refine calls_of_wp hf hb (Code.wp_mono (fun e a w' hq => ?_) (vC_ok hSM c h h0))
  obtain ⟨E', M', n', hq, hs⟩ := hq
  have fin : vRets T M' E' rs (fun vs => ∃ (rv : List MV) (σ bs : List (Nat × Nat)), tupM rv = res ∧ LMatch n0 rv M1 n1 vs M' σ bs) →
      a.defers = [] ∧ ∃ v, (results fn a.tmps).run Pg w' = .ok v w' ∧ ∃ v', Ending.returned v = .returned v' ∧ ∃ P' adr', InvM w' P' adr' (VM.get M1) ∧ RepV w' P' adr' res v' ∧ Keep w w' P P' adr adr' ∧ (∀ c, c < n0 → adr' c = adr c) ∧ (∀ c, n1 ≤ c → adr' c = none) ∧
      (∀ c g, adr' c = some g → w.heap.size ≤ g ∨ ∃ c0, adr c0 = some g) ∧ (∀ b o, P' b o → P b o ∨ w.heap.size ≤ b ∨ ∃ c0, adr c0 = some b) ∧ Since (fun g => ∃ c0, adr c0 = some g) w w' := by
    intro hq
    obtain ⟨P1, adr1, hI, hE, ha1, ha2, ha3⟩ := hs.ex
    obtain ⟨ps, vs, hl, hi, hr, rv, σ, bs, hres, hok, hokb, hall, hrel, hmm⟩ := vRets_out hS.tab hI hE hq
    have hσ := okSg_out hok
    obtain ⟨P2, i1, i2, i3, i4⟩ := hI.frozen hokb
    obtain ⟨r1, r2⟩ := relVs_repVs i4 hrel (hr.kp i2)
    have hA := (ha2.frozen i2).matched hσ
    refine ⟨hs.defers, tup vs, results_out hrs h5 hl hi, tup vs, rfl, P2, adrS (sigA n0 σ) adr1, i1.matched hσ i4 hmm, ?_, hA.keep, fun c hc => hA.old c hc, fun c hc => adrS_none hσ hc, fun c g hc => hA.in_ c g hc, fun b o ho => ?_, hs.since⟩
    · rw [← hres]; exact tup_rep r1 r2
    · rcases i3 b o ho with h | ⟨c, h⟩
      · exact ha3 b o h
      · rcases ha2.in_ c b h with h | h
        · exact .inr (.inl h)
        · exact .inr (.inr h)
  cases e with
  | normal => exact fin hq
  | ret => exact fin hq
  | _ => exact hq.elim
theorem semR_of_semC {f : FuncId} {args : List MV} {res : MV} (h : SemC Pg G f args res) : SemR Pg G f args [] 0 res [] 0 := by
  intro w P adr vals hg hI hn hL hargs
  have e : adr = noAdr := by funext c; exact hn c (Nat.zero_le _)
  subst e
  refine (h w P vals hg hI.prot hargs).mono ?_
  rintro e w' ⟨v, rfl, h1, h2⟩
  have hb := Keep.below (adr := noAdr) hI.prot h2
  refine ⟨v, rfl, protNew w w' P, noAdr, hI.below h2, h1, hb, fun _ _ => rfl, fun _ _ => rfl, fun c g hc => (nomatch hc), fun b o ho => ?_, (Since.of_below h2).weak fun _ e => e.elim⟩
  rcases ho with h | h
  · exact .inl h
  · exact .inr (.inl h.1)
theorem semC_of_semR {f : FuncId} {args : List MV} {res : MV} (h : SemR Pg G f args [] 0 res [] 0) : SemC Pg G f args res := by
  intro w P vals hg hP hargs
  refine (h w P noAdr vals hg ⟨fun c b hc => by simp [VM.get] at hc, fun c d b b' g hc => by simp [VM.get] at hc, hP⟩ (fun _ _ => rfl) (fun c g hc => nomatch hc) hargs).mono ?_
  rintro e w' ⟨v, rfl, P', adr', h1, h2, h3, h4, h5, h6, h7, h8⟩
  have e : adr' = noAdr := by funext c; exact h5 c (Nat.zero_le _)
  subst e
  refine ⟨v, rfl, h2.keep ⟨fun b o hp => ?_, fun _ _ _ => rfl, fun _ _ h => (nomatch h), fun _ _ _ _ h => nomatch h⟩, Since.below (h8.weak fun _ ⟨c, hc⟩ => nomatch hc)⟩
  rcases h7 b o hp with h | h | ⟨c, h⟩
  · exact .inl h
  · exact .inr ⟨h, h1.prot b o hp⟩
  · cases h
end
end Go.Proofs.Ytplkofafnbfkmaa
/- Steps of a walk over trees: each looks at one operation, and not at what comes behind. -/
namespace Go.Proofs.Ytplkofafnbfkmaa
open Go.RowKit
section
variable {Pg : Program} {T : Tab} {N : Nat} {ents : List FuncId} {G : GS} {n0 : Nat}
/-! ### Code -/
def SeqQ (Pg : Program) (T : Tab) (N : Nat) (ents : List FuncId) (G : GS) (n0 : Nat) (y : Code) (Q : Exit → VK) : Exit → VK := fun e E M n => match e with | .normal => vC Pg T N ents G n0 y Q E M n | e => Q e E M n
def BlockQ (id : Nat) (Q : Exit → VK) : Exit → VK := fun e E M n => match e with | .exit i => (bif Nat.beq i id then Q .normal E M n else Q (.exit i) E M n) | e => Q e E M n
def LoopQ (n0 : Nat) {X : Type} (E' : X → VE) (M' : X → VM) (n' : Nat) (I : X → Prop) (μ : X → Nat) (x : X) (Q : Exit → VK) : Exit → VK := fun e E1 M1 n1 => match e with | .normal => ∃ x', I x' ∧ μ x' < μ x ∧ VMatch n0 (E' x') (M' x') n' E1 M1 | e => Q e E1 M1 n1
variable {Q : Exit → VK} {E : VE} {M : VM} {n : Nat} {x y c : Code} {id i : Nat}
theorem c_seq (h : vC Pg T N ents G n0 x (SeqQ Pg T N ents G n0 y Q) E M n) : vC Pg T N ents G n0 (.seq x y) Q E M n := h
theorem c_skip (h : Q .normal E M n) : vC Pg T N ents G n0 .skip Q E M n := h
theorem c_label {l : Nat} (h : Q .normal E M n) : vC Pg T N ents G n0 (.label l) Q E M n := h
theorem c_exit (h : Q (.exit id) E M n) : vC Pg T N ents G n0 (.exit id) Q E M n := h
theorem c_ret (h : Q .ret E M n) : vC Pg T N ents G n0 .ret Q E M n := h
theorem c_block (h : vC Pg T N ents G n0 c (BlockQ id Q) E M n) : vC Pg T N ents G n0 (.block id c) Q E M n := h
theorem c_region {l : List Oper} (h : vOpsN Pg T N ents G (List.toArray l) l (Q .normal) E M n) : vC Pg T N ents G n0 (.region id (List.toArray l) false) Q E M n := h
theorem c_draw {ops : Array Oper} (L : List (Nat × Bool)) (h : vOpsD Pg T N ents G ops L [] (Q .normal) E M n) : vC Pg T N ents G n0 (.region id ops true) Q E M n := ⟨L, h⟩
theorem c_cond {o : Operand} {t : Bool} (he : evM (VE.get E) o = some (.bool t)) (h1 : t = true → vC Pg T N ents G n0 x Q E M n) (h2 : t = false → vC Pg T N ents G n0 y Q E M n) : vC Pg T N ents G n0 (.cond o x y) Q E M n := by
  unfold vC; rw [he]; exact ⟨h1, h2⟩
theorem c_condT {o : Operand} (he : evM (VE.get E) o = some (.bool true)) (h : vC Pg T N ents G n0 x Q E M n) : vC Pg T N ents G n0 (.cond o x y) Q E M n := c_cond he (fun _ => h) (fun h => Bool.noConfusion h)
theorem c_condF {o : Operand} (he : evM (VE.get E) o = some (.bool false)) (h : vC Pg T N ents G n0 y Q E M n) : vC Pg T N ents G n0 (.cond o x y) Q E M n := c_cond he (fun h => Bool.noConfusion h) (fun _ => h)
theorem c_loop (X : Type) (E' : X → VE) (M' : X → VM) (n' : Nat) (I : X → Prop) (μ : X → Nat) (x0 : X) (hI : I x0) (hm : VMatch n0 (E' x0) (M' x0) n' E M) (h : ∀ x, I x → vC Pg T N ents G n0 c (LoopQ n0 E' M' n' I μ x Q) (E' x) (M' x) n') : vC Pg T N ents G n0 (.loop c) Q E M n := ⟨X, E', M', n', I, μ, ⟨x0, hI, hm⟩, h⟩
theorem seqQ_n (h : vC Pg T N ents G n0 y Q E M n) : SeqQ Pg T N ents G n0 y Q .normal E M n := h
theorem seqQ_x (h : Q (.exit i) E M n) : SeqQ Pg T N ents G n0 y Q (.exit i) E M n := h
theorem seqQ_r (h : Q .ret E M n) : SeqQ Pg T N ents G n0 y Q .ret E M n := h
theorem blockQ_n (h : Q .normal E M n) : BlockQ id Q .normal E M n := h
theorem blockQ_r (h : Q .ret E M n) : BlockQ id Q .ret E M n := h
theorem blockQ_x (hb : Nat.beq i id = true) (h : Q .normal E M n) : BlockQ id Q (.exit i) E M n := by
  show (bif Nat.beq i id then _ else _); rw [hb]; exact h
theorem blockQ_y (hb : Nat.beq i id = false) (h : Q (.exit i) E M n) : BlockQ id Q (.exit i) E M n := by
  show (bif Nat.beq i id then _ else _); rw [hb]; exact h
theorem loopQ_x {X : Type} {E' : X → VE} {M' : X → VM} {n' : Nat} {I : X → Prop} {μ : X → Nat} {x : X} (h : Q (.exit i) E M n) : LoopQ n0 E' M' n' I μ x Q (.exit i) E M n := h
theorem loopQ_r {X : Type} {E' : X → VE} {M' : X → VM} {n' : Nat} {I : X → Prop} {μ : X → Nat} {x : X} (h : Q .ret E M n) : LoopQ n0 E' M' n' I μ x Q .ret E M n := h
theorem loopQ_n {X : Type} {E' : X → VE} {M' : X → VM} {n' : Nat} {I : X → Prop} {μ : X → Nat} {x : X} (x' : X) (hI : I x') (hμ : μ x' < μ x) (hm : VMatch n0 (E' x') (M' x') n' E M) : LoopQ n0 E' M' n' I μ x Q .normal E M n := ⟨x', hI, hμ, hm⟩
/-! ### Operations of regions that keep their order -/
def vOpsG (Pg : Program) (T : Tab) (N : Nat) (ents : List FuncId) (G : GS) (ops : Array Oper) (o : Oper) (rest : List Oper) (K : VK) (E : VE) (M : VM) (n : Nat) : Prop :=
  vRunN Pg T ents G o E M n fun r M n => vPut N o.dst r E fun E => vOpsN Pg T N ents G ops rest K E M n
def plainO : Op → Bool
  | .call c => match c.callee with
    | .value _ => false
    | _ => true
  | _ => true
variable {ops : Array Oper} {dst : Option Tmp} {d : Tmp} {op : Op} {ty : TypeId} {pos : String} {after : Array Edge} {g : Option (Nat × Bool)} {rest : List Oper} {K : VK} {r : MV} {δ : Dl} {o : Oper} {j s : Nat} {want t : Bool}
theorem n_nil (h : K E M n) : vOpsN Pg T N ents G ops [] K E M n := h
theorem n_go (h : vOpsG Pg T N ents G ops ⟨dst, op, ty, pos, after, none⟩ rest K E M n) : vOpsN Pg T N ents G ops (⟨dst, op, ty, pos, after, none⟩ :: rest) K E M n := h
theorem n_guard (hs : (ops[j]?).bind (·.dst) = some s) (hv : VE.get E s = some (.bool t)) (h1 : t = want → vOpsG Pg T N ents G ops ⟨some d, op, ty, pos, after, some (j, want)⟩ rest K ((s, .bool want) :: E) M n) (hd : Nat.blt d N = true)
    (h2 : t = !want → vOpsN Pg T N ents G ops rest K ((d, .undef) :: (s, .bool (!want)) :: E) M (n + 1)) : vOpsN Pg T N ents G ops (⟨some d, op, ty, pos, after, some (j, want)⟩ :: rest) K E M n := by
  unfold vOpsN vOpN
  simp only [hs, hv]
  refine ⟨h1, fun ht => ?_⟩
  unfold vPut
  simp only [hd]
  exact h2 ht
theorem n_guardY (hs : (ops[j]?).bind (·.dst) = some s) (hv : VE.get E s = some (.bool want)) (h : vOpsG Pg T N ents G ops ⟨dst, op, ty, pos, after, some (j, want)⟩ rest K ((s, .bool want) :: E) M n) : vOpsN Pg T N ents G ops (⟨dst, op, ty, pos, after, some (j, want)⟩ :: rest) K E M n := by
  unfold vOpsN vOpN
  simp only [hs, hv]
  exact ⟨fun _ => h, fun ht => by cases want <;> cases ht⟩
theorem n_guardN (hs : (ops[j]?).bind (·.dst) = some s) (hv : VE.get E s = some (.bool (!want))) (hd : Nat.blt d N = true) (h : vOpsN Pg T N ents G ops rest K ((d, .undef) :: (s, .bool (!want)) :: E) M (n + 1)) : vOpsN Pg T N ents G ops (⟨some d, op, ty, pos, after, some (j, want)⟩ :: rest) K E M n :=
  n_guard hs hv (fun ht => by cases want <;> cases ht) hd (fun _ => h)
theorem n_guardU (hs : (ops[j]?).bind (·.dst) = some s) (hv : VE.get E s = some .undef) (hd : Nat.blt d N = true) (h : vOpsN Pg T N ents G ops rest K ((d, .undef) :: E) M (n + 1)) : vOpsN Pg T N ents G ops (⟨some d, op, ty, pos, after, some (j, want)⟩ :: rest) K E M n := by
  unfold vOpsN vOpN
  simp only [hs, hv]
  unfold vPut
  simp only [hd]
  exact h
theorem n_app {l1 l2 : List Oper} (h : vOpsN Pg T N ents G ops (o :: List.append l1 l2) K E M n) : vOpsN Pg T N ents G ops (List.append (o :: l1) l2) K E M n := h
theorem n_app0 {l2 : List Oper} (h : vOpsN Pg T N ents G ops l2 K E M n) : vOpsN Pg T N ents G ops (List.append [] l2) K E M n := h
theorem g_run (hq : nilQ T E ⟨dst, op, ty, pos, after, g⟩ = none) (hv : plainO op = true) (he : ∀ R : MV × Dl → Prop, R (r, δ) → (eOp Pg T (VE.get E) (VM.get M) n ⟨dst, op, ty, pos, after, g⟩).runP R)
    (h : vPut N dst r E fun E => vOpsN Pg T N ents G ops rest K E (δ.app n M) (n + 1)) : vOpsG Pg T N ents G ops ⟨dst, op, ty, pos, after, g⟩ rest K E M n := by
  unfold vOpsG vRunN
  rw [hq]
  show vRunP Pg T ents G _ E M n _
  cases op with
  | call c =>
    obtain ⟨callee, args, ats⟩ := c
    cases callee with
    | value f => cases hv
    | builtin b => exact he _ h
    | invoke r n => exact he _ h
  | _ => exact he _ h
/-- A value, and nothing turns in memory. -/
theorem g_val (hq : nilQ T E ⟨some d, op, ty, pos, after, g⟩ = none) (hv : plainO op = true) (he : ∀ R : MV × Dl → Prop, R (r, .none) → (eOp Pg T (VE.get E) (VM.get M) n ⟨some d, op, ty, pos, after, g⟩).runP R) (hd : Nat.blt d N = true)
    (h : vOpsN Pg T N ents G ops rest K ((d, r) :: E) M (n + 1)) : vOpsG Pg T N ents G ops ⟨some d, op, ty, pos, after, g⟩ rest K E M n := by
  refine g_run hq hv he ?_
  unfold vPut
  simp only [hd]
  exact h
/-- A value, and memory turns. -/
theorem g_mem (hq : nilQ T E ⟨some d, op, ty, pos, after, g⟩ = none) (hv : plainO op = true) (he : ∀ R : MV × Dl → Prop, R (r, δ) → (eOp Pg T (VE.get E) (VM.get M) n ⟨some d, op, ty, pos, after, g⟩).runP R) (hd : Nat.blt d N = true)
    (h : vOpsN Pg T N ents G ops rest K ((d, r) :: E) (δ.app n M) (n + 1)) : vOpsG Pg T N ents G ops ⟨some d, op, ty, pos, after, g⟩ rest K E M n := by
  refine g_run hq hv he ?_
  unfold vPut
  simp only [hd]
  exact h
/-- No value (a store). -/
theorem g_none (hq : nilQ T E ⟨none, op, ty, pos, after, g⟩ = none) (hv : plainO op = true) (he : ∀ R : MV × Dl → Prop, R (r, δ) → (eOp Pg T (VE.get E) (VM.get M) n ⟨none, op, ty, pos, after, g⟩).runP R)
    (h : vOpsN Pg T N ents G ops rest K E (δ.app n M) (n + 1)) : vOpsG Pg T N ents G ops ⟨none, op, ty, pos, after, g⟩ rest K E M n := g_run hq hv he h
/-- A list is compared with nil. -/
theorem g_nil {k : Nat} {neg : Bool} (hq : nilQ T E ⟨some d, op, ty, pos, after, g⟩ = some (k, neg)) (hd : Nat.blt d N = true) (h : ∀ b : Bool, (b = true → k = 0) → vOpsN Pg T N ents G ops rest K ((d, .bool (bif neg then !b else b)) :: E) M (n + 1)) : vOpsG Pg T N ents G ops ⟨some d, op, ty, pos, after, g⟩ rest K E M n := by
  unfold vOpsG vRunN
  rw [hq]
  intro b hb
  unfold vPut
  simp only [hd]
  have := h b hb
  cases neg <;> exact this
section
variable {f : Operand} {args : Array Operand} {ats : Array TypeId} {f0 : FuncId} {vs : List MV} {bs : List (Nat × Nat)} {res : MV}
/-- A call by value. -/
theorem g_callV (hd : ∀ d, dst = some d → Nat.blt d N = true) (h1 : ∀ R : FuncId × List MV × List (Nat × Nat) → Prop, R (f0, vs, bs) → (vCall E M f args.toList).runP R) (h2 : ents.contains f0 = true) (hc : SemC Pg G f0 vs res)
    (h : vOpsN Pg T N ents G ops rest K (match dst with | some d => (d, res) :: E | none => E) (VM.bump M bs) (n + 1)) : vOpsG Pg T N ents G ops ⟨dst, .call ⟨.value f, args, ats⟩, ty, pos, after, g⟩ rest K E M n := by
  show (vRun Pg T ents G _ E M n _) ∨ _
  refine .inl ?_
  show (vCall E M f args.toList).runP _
  refine h1 _ ?_
  show (match ents.contains f0 with | true => ∃ res, SemC Pg G f0 vs res ∧ _ | false => False)
  rw [h2]
  refine ⟨res, hc, ?_⟩
  unfold vPut
  cases dst with
  | none => exact h
  | some d =>
    simp only [hd d rfl]
    exact h
theorem g_callR (hd : ∀ d, dst = some d → Nat.blt d N = true) (h1 : ∀ R : FuncId × List MV → Prop, R (f0, vs) → (vArgs E f args.toList).runP R) (h2 : ents.contains f0 = true) {args' : List MV} {M0 : VM} {n0 : Nat} {M1 : VM} {n1 : Nat} (hc : SemR Pg G f0 args' M0 n0 res M1 n1) (σ bs : List (Nat × Nat))
    (hm : LMatch 0 args' M0 n0 vs M σ bs) (h3 : allIn M σ = true) (h4 : M1.all (fun x => Nat.blt x.1 n1) = true) (h : vOpsN Pg T N ents G ops rest K (match dst with | some d => (d, renV (rho n σ) res) :: E | none => E) (renM (rho n σ) M1 ++ delM (VM.bump M bs) σ) (n + n1)) :
    vOpsG Pg T N ents G ops ⟨dst, .call ⟨.value f, args, ats⟩, ty, pos, after, g⟩ rest K E M n := by
  show (vRun Pg T ents G _ E M n _) ∨ (vArgs E f args.toList).runP _
  refine .inr (h1 _ ?_)
  show (match ents.contains f0 with | true => vCallR Pg G SemR M n f0 vs _ | false => vCallR Pg G SemP M n f0 vs _)
  rw [h2]
  refine ⟨args', M0, n0, res, M1, n1, hc, σ, bs, hm, h3, h4, ?_⟩
  unfold vPut
  cases dst with
  | none => exact h
  | some d =>
    simp only [hd d rfl]
    exact h
theorem g_callP (hd : ∀ d, dst = some d → Nat.blt d N = true) (h1 : ∀ R : FuncId × List MV → Prop, R (f0, vs) → (vArgs E f args.toList).runP R) (h2 : ents.contains f0 = false) {args' : List MV} {M0 : VM} {n0 : Nat} {M1 : VM} {n1 : Nat} (hc : SemP Pg G f0 args' M0 n0 res M1 n1) (σ bs : List (Nat × Nat))
    (hm : LMatch 0 args' M0 n0 vs M σ bs) (h3 : allIn M σ = true) (h4 : M1.all (fun x => Nat.blt x.1 n1) = true) (h : vOpsN Pg T N ents G ops rest K (match dst with | some d => (d, renV (rho n σ) res) :: E | none => E) (renM (rho n σ) M1 ++ delM (VM.bump M bs) σ) (n + n1)) :
    vOpsG Pg T N ents G ops ⟨dst, .call ⟨.value f, args, ats⟩, ty, pos, after, g⟩ rest K E M n := by
  show (vRun Pg T ents G _ E M n _) ∨ (vArgs E f args.toList).runP _
  refine .inr (h1 _ ?_)
  show (match ents.contains f0 with | true => vCallR Pg G SemR M n f0 vs _ | false => vCallR Pg G SemP M n f0 vs _)
  rw [h2]
  refine ⟨args', M0, n0, res, M1, n1, hc, σ, bs, hm, h3, h4, ?_⟩
  unfold vPut
  cases dst with
  | none => exact h
  | some d =>
    simp only [hd d rfl]
    exact h
end
/-- What is asked of a plain operation: no list is compared with nil, no call, a slot that is there. -/
def okO (T : Tab) (N : Nat) (E : VE) (o : Oper) : Bool := (match nilQ T E o with | none => true | some _ => false) && (plainO o.op && (match o.dst with | some d => Nat.blt d N | none => true))
theorem okO_out (h : okO T N E o = true) : nilQ T E o = none ∧ plainO o.op = true ∧ ∀ d, o.dst = some d → Nat.blt d N = true := by
  unfold okO at h
  simp only [Bool.and_eq_true] at h
  obtain ⟨h1, h2, h3⟩ := h
  refine ⟨?_, h2, fun d hd => ?_⟩
  · split at h1
    · assumption
    · cases h1
  · rw [hd] at h3; exact h3
theorem n_val (hb : okO T N E ⟨some d, op, ty, pos, after, none⟩ = true) (he : ∀ R : MV × Dl → Prop, R (r, .none) → (eOp Pg T (VE.get E) (VM.get M) n ⟨some d, op, ty, pos, after, none⟩).runP R) (h : vOpsN Pg T N ents G ops rest K ((d, r) :: E) M (n + 1)) : vOpsN Pg T N ents G ops (⟨some d, op, ty, pos, after, none⟩ :: rest) K E M n :=
  n_go (g_val (okO_out hb).1 (okO_out hb).2.1 he ((okO_out hb).2.2 d rfl) h)
theorem n_mem (hb : okO T N E ⟨some d, op, ty, pos, after, none⟩ = true) (he : ∀ R : MV × Dl → Prop, R (r, δ) → (eOp Pg T (VE.get E) (VM.get M) n ⟨some d, op, ty, pos, after, none⟩).runP R) (h : vOpsN Pg T N ents G ops rest K ((d, r) :: E) (δ.app n M) (n + 1)) : vOpsN Pg T N ents G ops (⟨some d, op, ty, pos, after, none⟩ :: rest) K E M n :=
  n_go (g_mem (okO_out hb).1 (okO_out hb).2.1 he ((okO_out hb).2.2 d rfl) h)
theorem n_none (hb : okO T N E ⟨none, op, ty, pos, after, none⟩ = true) (he : ∀ R : MV × Dl → Prop, R (r, δ) → (eOp Pg T (VE.get E) (VM.get M) n ⟨none, op, ty, pos, after, none⟩).runP R) (h : vOpsN Pg T N ents G ops rest K E (δ.app n M) (n + 1)) : vOpsN Pg T N ents G ops (⟨none, op, ty, pos, after, none⟩ :: rest) K E M n :=
  n_go (g_none (okO_out hb).1 (okO_out hb).2.1 he h)
theorem n_valY (hs : (ops[j]?).bind (·.dst) = some s) (hv : VE.get E s = some (.bool want)) (hb : okO T N ((s, .bool want) :: E) ⟨some d, op, ty, pos, after, some (j, want)⟩ = true) (he : ∀ R : MV × Dl → Prop, R (r, .none) → (eOp Pg T (VE.get ((s, .bool want) :: E)) (VM.get M) n ⟨some d, op, ty, pos, after, some (j, want)⟩).runP R)
    (h : vOpsN Pg T N ents G ops rest K ((d, r) :: (s, .bool want) :: E) M (n + 1)) : vOpsN Pg T N ents G ops (⟨some d, op, ty, pos, after, some (j, want)⟩ :: rest) K E M n :=
  n_guardY hs hv (g_val (okO_out hb).1 (okO_out hb).2.1 he ((okO_out hb).2.2 d rfl) h)
/-- Two steps at once. -/
theorem c_seqR {l : List Oper} (h : vOpsN Pg T N ents G (List.toArray l) l (SeqQ Pg T N ents G n0 y Q .normal) E M n) : vC Pg T N ents G n0 (.seq (.region id (List.toArray l) false) y) Q E M n := h
theorem n_nilS (h : vC Pg T N ents G n0 y Q E M n) : vOpsN Pg T N ents G ops [] (SeqQ Pg T N ents G n0 y Q .normal) E M n := h
section
variable {f : Operand} {args : Array Operand} {ats : Array TypeId} {f0 : FuncId} {vs : List MV} {bs : List (Nat × Nat)} {res : MV}
theorem g_callV1 (hd : Nat.blt d N = true) (h1 : ∀ R : FuncId × List MV × List (Nat × Nat) → Prop, R (f0, vs, bs) → (vCall E M f args.toList).runP R) (h2 : ents.contains f0 = true) (hc : SemC Pg G f0 vs res)
    (h : vOpsN Pg T N ents G ops rest K ((d, res) :: E) (VM.bump M bs) (n + 1)) : vOpsG Pg T N ents G ops ⟨some d, .call ⟨.value f, args, ats⟩, ty, pos, after, g⟩ rest K E M n := g_callV (fun d' e => by injection e with e; subst e; exact hd) h1 h2 hc h
theorem g_callV0 (h1 : ∀ R : FuncId × List MV × List (Nat × Nat) → Prop, R (f0, vs, bs) → (vCall E M f args.toList).runP R) (h2 : ents.contains f0 = true) (hc : SemC Pg G f0 vs res)
    (h : vOpsN Pg T N ents G ops rest K E (VM.bump M bs) (n + 1)) : vOpsG Pg T N ents G ops ⟨none, .call ⟨.value f, args, ats⟩, ty, pos, after, g⟩ rest K E M n := g_callV (fun d' e => nomatch e) h1 h2 hc h
theorem g_callR1 (hd : Nat.blt d N = true) (h1 : ∀ R : FuncId × List MV → Prop, R (f0, vs) → (vArgs E f args.toList).runP R) (h2 : ents.contains f0 = true) {args' : List MV} {M0 : VM} {n0 : Nat} {M1 : VM} {n1 : Nat} (hc : SemR Pg G f0 args' M0 n0 res M1 n1) (σ bs : List (Nat × Nat))
    (hm : LMatch 0 args' M0 n0 vs M σ bs) (h3 : allIn M σ = true) (h4 : M1.all (fun x => Nat.blt x.1 n1) = true) (h : vOpsN Pg T N ents G ops rest K ((d, renV (rho n σ) res) :: E) (renM (rho n σ) M1 ++ delM (VM.bump M bs) σ) (n + n1)) :
    vOpsG Pg T N ents G ops ⟨some d, .call ⟨.value f, args, ats⟩, ty, pos, after, g⟩ rest K E M n := g_callR (fun d' e => by injection e with e; subst e; exact hd) h1 h2 hc σ bs hm h3 h4 h
theorem g_callR0 (h1 : ∀ R : FuncId × List MV → Prop, R (f0, vs) → (vArgs E f args.toList).runP R) (h2 : ents.contains f0 = true) {args' : List MV} {M0 : VM} {n0 : Nat} {M1 : VM} {n1 : Nat} (hc : SemR Pg G f0 args' M0 n0 res M1 n1) (σ bs : List (Nat × Nat))
    (hm : LMatch 0 args' M0 n0 vs M σ bs) (h3 : allIn M σ = true) (h4 : M1.all (fun x => Nat.blt x.1 n1) = true) (h : vOpsN Pg T N ents G ops rest K E (renM (rho n σ) M1 ++ delM (VM.bump M bs) σ) (n + n1)) :
    vOpsG Pg T N ents G ops ⟨none, .call ⟨.value f, args, ats⟩, ty, pos, after, g⟩ rest K E M n := g_callR (fun d' e => nomatch e) h1 h2 hc σ bs hm h3 h4 h
theorem g_callP1 (hd : Nat.blt d N = true) (h1 : ∀ R : FuncId × List MV → Prop, R (f0, vs) → (vArgs E f args.toList).runP R) (h2 : ents.contains f0 = false) {args' : List MV} {M0 : VM} {n0 : Nat} {M1 : VM} {n1 : Nat} (hc : SemP Pg G f0 args' M0 n0 res M1 n1) (σ bs : List (Nat × Nat))
    (hm : LMatch 0 args' M0 n0 vs M σ bs) (h3 : allIn M σ = true) (h4 : M1.all (fun x => Nat.blt x.1 n1) = true) (h : vOpsN Pg T N ents G ops rest K ((d, renV (rho n σ) res) :: E) (renM (rho n σ) M1 ++ delM (VM.bump M bs) σ) (n + n1)) :
    vOpsG Pg T N ents G ops ⟨some d, .call ⟨.value f, args, ats⟩, ty, pos, after, g⟩ rest K E M n := g_callP (fun d' e => by injection e with e; subst e; exact hd) h1 h2 hc σ bs hm h3 h4 h
theorem g_callP0 (h1 : ∀ R : FuncId × List MV → Prop, R (f0, vs) → (vArgs E f args.toList).runP R) (h2 : ents.contains f0 = false) {args' : List MV} {M0 : VM} {n0 : Nat} {M1 : VM} {n1 : Nat} (hc : SemP Pg G f0 args' M0 n0 res M1 n1) (σ bs : List (Nat × Nat))
    (hm : LMatch 0 args' M0 n0 vs M σ bs) (h3 : allIn M σ = true) (h4 : M1.all (fun x => Nat.blt x.1 n1) = true) (h : vOpsN Pg T N ents G ops rest K E (renM (rho n σ) M1 ++ delM (VM.bump M bs) σ) (n + n1)) :
    vOpsG Pg T N ents G ops ⟨none, .call ⟨.value f, args, ats⟩, ty, pos, after, g⟩ rest K E M n := g_callP (fun d' e => nomatch e) h1 h2 hc σ bs hm h3 h4 h
end
theorem vOpsN_callR {f : Operand} {args : Array Operand} {ats : Array TypeId} {f0 : FuncId} {vs : List MV}
    (h1 : ∀ R : FuncId × List MV → Prop, R (f0, vs) → (vArgs E f args.toList).runP R) (h2 : ents.contains f0 = true) {args' : List MV} {M0 : VM} {n0 : Nat} {res : MV} {M1 : VM} {n1 : Nat} (hc : SemR Pg G f0 args' M0 n0 res M1 n1) (σ bs : List (Nat × Nat))
    (hm : LMatch 0 args' M0 n0 vs M σ bs) (h3 : allIn M σ = true) (h4 : M1.all (fun x => Nat.blt x.1 n1) = true) (hk : vPut N dst (renV (rho n σ) res) E fun E => vOpsN Pg T N ents G ops rest K E (renM (rho n σ) M1 ++ delM (VM.bump M bs) σ) (n + n1)) :
    vOpsN Pg T N ents G ops (⟨dst, .call ⟨.value f, args, ats⟩, ty, pos, after, none⟩ :: rest) K E M n := by
  show (vRun Pg T ents G _ E M n _) ∨ (vArgs E f args.toList).runP _
  refine .inr (h1 _ ?_)
  show (match ents.contains f0 with | true => vCallR Pg G SemR M n f0 vs _ | false => vCallR Pg G SemP M n f0 vs _)
  rw [h2]
  exact ⟨args', M0, n0, res, M1, n1, hc, σ, bs, hm, h3, h4, hk⟩
end
end Go.Proofs.Ytplkofafnbfkmaa
