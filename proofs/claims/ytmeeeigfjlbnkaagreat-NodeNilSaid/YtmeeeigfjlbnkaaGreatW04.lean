/- Parts of a proof, one behind the other: M30, M20, M21, M22, M23, M32, M24, M25, M26, M27, M28. -/
import Derived.Test.YtmeeeigfjlbnkaaGreatW03
namespace Go.Proofs.YtmeeeigfjlbnkaaGreat
open Go.RowKit
def Prims (Pg : Program) (f : FuncId) (vals : Array Value) (w : World) (Q : Ending → World → Prop) : Prop :=
  ∃ v w', (callFunc f vals).run Pg w = .ok (.value v) w' ∧ Q (.returned v) w'
theorem Prims.mono {Pg : Program} {f : FuncId} {vals : Array Value} {w : World} {Q R : Ending → World → Prop} (h : Prims Pg f vals w Q) (hq : ∀ e w, Q e w → R e w) : Prims Pg f vals w R := by
  obtain ⟨v, w', h1, h2⟩ := h
  exact ⟨v, w', h1, hq _ _ h2⟩
def SemW (C : Program → FuncId → Array Value → World → (Ending → World → Prop) → Prop) (Pg : Program) (G : GS) (f : FuncId) (args : List MV) (M0 : VM) (n0 : Nat) (res : MV) (M1 : VM) (n1 : Nat) : Prop :=
  ∀ (w : World) (P : Prot) (adr : Adr) (vals : List Value), G.ok w → InvM w P adr (VM.get M0) → (∀ c, n0 ≤ c → adr c = none) → (∀ c g, adr c = some g → ¬ G.L g) → RepVs w P adr args vals →
    C Pg f vals.toArray w fun e w' => ∃ v, e = .returned v ∧ ∃ P' adr', InvM w' P' adr' (VM.get M1) ∧ RepV w' P' adr' res v ∧ Keep w w' P P' adr adr' ∧ (∀ c, c < n0 → adr' c = adr c) ∧ (∀ c, n1 ≤ c → adr' c = none) ∧
      (∀ c g, adr' c = some g → w.heap.size ≤ g ∨ ∃ c0, adr c0 = some g) ∧ (∀ b o, P' b o → P b o ∨ w.heap.size ≤ b ∨ ∃ c0, adr c0 = some b) ∧ Since (fun g => ∃ c0, adr c0 = some g) w w'
def SemR (Pg : Program) (G : GS) (f : FuncId) (args : List MV) (M0 : VM) (n0 : Nat) (res : MV) (M1 : VM) (n1 : Nat) : Prop := SemW (fun P f a w Q => Calls P f a w Q) Pg G f args M0 n0 res M1 n1
def SemP (Pg : Program) (G : GS) (f : FuncId) (args : List MV) (M0 : VM) (n0 : Nat) (res : MV) (M1 : VM) (n1 : Nat) : Prop := SemW Prims Pg G f args M0 n0 res M1 n1
def SemWE (C : Program → FuncId → Array Value → World → (Ending → World → Prop) → Prop) (Pg : Program) (G : GS) (f : FuncId) (args : List MV) (M0 : VM) (n0 : Nat) (Φ : MV → VM → Nat → Prop) : Prop :=
  ∀ (w : World) (P : Prot) (adr : Adr) (vals : List Value), G.ok w → InvM w P adr (VM.get M0) → (∀ c, n0 ≤ c → adr c = none) → (∀ c g, adr c = some g → ¬ G.L g) → RepVs w P adr args vals →
    C Pg f vals.toArray w fun e w' => ∃ v, e = .returned v ∧ ∃ (res : MV) (M1 : VM) (n1 : Nat), Φ res M1 n1 ∧ ∃ P' adr', InvM w' P' adr' (VM.get M1) ∧ RepV w' P' adr' res v ∧ Keep w w' P P' adr adr' ∧ (∀ c, c < n0 → adr' c = adr c) ∧ (∀ c, n1 ≤ c → adr' c = none) ∧
      (∀ c g, adr' c = some g → w.heap.size ≤ g ∨ ∃ c0, adr c0 = some g) ∧ (∀ b o, P' b o → P b o ∨ w.heap.size ≤ b ∨ ∃ c0, adr c0 = some b) ∧ Since (fun g => ∃ c0, adr c0 = some g) w w'
def SemE (Pg : Program) (G : GS) (f : FuncId) (args : List MV) (M0 : VM) (n0 : Nat) (Φ : MV → VM → Nat → Prop) : Prop := SemWE (fun P f a w Q => Calls P f a w Q) Pg G f args M0 n0 Φ
def SemPE (Pg : Program) (G : GS) (f : FuncId) (args : List MV) (M0 : VM) (n0 : Nat) (Φ : MV → VM → Nat → Prop) : Prop := SemWE Prims Pg G f args M0 n0 Φ
theorem semWE_of {C : Program → FuncId → Array Value → World → (Ending → World → Prop) → Prop} (hC : ∀ {Pg : Program} {f : FuncId} {vals : Array Value} {w : World} {Q R : Ending → World → Prop}, C Pg f vals w Q → (∀ e w, Q e w → R e w) → C Pg f vals w R)
    {Pg : Program} {G : GS} {f : FuncId} {args : List MV} {M0 : VM} {n0 : Nat} {res : MV} {M1 : VM} {n1 : Nat} {Φ : MV → VM → Nat → Prop} (h : SemW C Pg G f args M0 n0 res M1 n1) (hΦ : Φ res M1 n1) : SemWE C Pg G f args M0 n0 Φ := by
  intro w P adr vals a1 a2 a3 a4 a5
  refine hC (h w P adr vals a1 a2 a3 a4 a5) ?_
  rintro e w' ⟨v, h1, h2⟩
  exact ⟨v, h1, res, M1, n1, hΦ, h2⟩
mutual
def renV (ρ : Nat → Nat) : MV → MV
  | .ptr c es k fo path => .ptr (ρ c) es k fo path
  | .ms c es off n => .ms (ρ c) es off n
  | .mp c => .mp (ρ c)
  | .st l => bif MV.idFrees l then .st l else .st (renVs ρ l)
  | .fn f l => bif MV.idFrees l then .fn f l else .fn f (renVs ρ l)
  | .tup l => .tup (renVs ρ l)
  | .ifc t v => bif MV.idFree v then .ifc t v else .ifc t (renV ρ v)
  | m => m
def renVs (ρ : Nat → Nat) : List MV → List MV
  | [] => []
  | m :: l => renV ρ m :: renVs ρ l
end
def renM (ρ : Nat → Nat) : VM → VM
  | [] => []
  | (c, b) :: M => (ρ c, { b with l := bif b.row then b.l else renVs ρ b.l }) :: renM ρ M
def delM : VM → List (Nat × Nat) → VM
  | M, [] => M
  | M, (_, c) :: σ => delM (VM.del M c) σ
def rho (n : Nat) (σ : List (Nat × Nat)) (c : Nat) : Nat := match sig σ c with | some d => d | none => n + c
def allIn (M : VM) : List (Nat × Nat) → Bool
  | [] => true
  | (_, c) :: σ => (VM.get M c).isSome && allIn M σ
def FzM (n : Nat) (E' : VE) (M' : VM) (E : VE) (M : VM) : Prop :=
  ∃ bs : List (Nat × Nat), okB M bs ∧ M'.all (fun x => Nat.blt x.1 n) = true ∧ mE (sigA n []) (fzb M bs) E' E ∧ mM (sigA n []) (fzb M bs) M' (VM.bump M bs)
inductive Rt (n : Nat) (K : VE → VM → Prop) : VE → VM → Prop
  | go {E : VE} {M : VM} (h : K E M) : Rt n K E M
  | re {E : VE} {M : VM} (E' : VE) (M' : VM) (h : FzM n E' M' E M) (k : Rt n K E' M') : Rt n K E M
section
variable (Pg : Program) (T : Tab) (N : Nat) (ents : List FuncId) (G : GS)
def vArgs (E : VE) (f : Operand) (args : List Operand) : Ask (FuncId × List MV) :=
  rd (VE.get E) f fun fv => rds (VE.get E) args fun vs => match fv with
    | .fn f0 caps => .ret (f0, vs ++ caps)
    | _ => .bad
def vCallR (S : Program → GS → FuncId → List MV → VM → Nat → (MV → VM → Nat → Prop) → Prop) (M : VM) (n : Nat) (f : FuncId) (vs : List MV) (K : MV → VM → Nat → Prop) : Prop :=
  ∃ (args : List MV) (M0 : VM) (n0 : Nat) (Φ : MV → VM → Nat → Prop), S Pg G f args M0 n0 Φ ∧
    ∃ (σ bs : List (Nat × Nat)), LMatch 0 args M0 n0 vs M σ bs ∧ allIn M σ = true ∧ ∀ (res : MV) (M1 : VM) (n1 : Nat), Φ res M1 n1 → M1.all (fun x => Nat.blt x.1 n1) = true ∧ K (renV (rho n σ) res) (renM (rho n σ) M1 ++ delM (VM.bump M bs) σ) (n + n1)
def rhoZ (n0 n : Nat) (σ : List (Nat × Nat)) (c : Nat) : Nat := match sig σ c with | some d => d | none => bif Nat.beq c n0 then n else n + 1
theorem rhoZ_0 {n0 n : Nat} {σ : List (Nat × Nat)} (h : sig σ n0 = none) : rhoZ n0 n σ n0 = n := by
  unfold rhoZ
  rw [h]
  simp
theorem rhoZ_1 {n0 n : Nat} {σ : List (Nat × Nat)} (h : sig σ (n0 + 1) = none) : rhoZ n0 n σ (n0 + 1) = n + 1 := by
  unfold rhoZ
  rw [h]
  simp [beq_ne (show n0 + 1 ≠ n0 by omega)]
def subN (l S : List Nat) : Bool := l.all fun c => S.any fun x => Nat.beq x c
def okNew (σ : List (Nat × Nat)) (n0 n1 : Nat) (M1 : VM) : Bool := Nat.ble n1 (n0 + 2) && M1.all fun x => (sig σ x.1).isSome || ((Nat.beq x.1 n0 || Nat.beq x.1 (n0 + 1)) && Nat.blt x.1 n1)
def okTw (n n0 n1 : Nat) (fp : List Nat) : Bool := Nat.ble n1 (n0 + 1) || fp.any (Nat.beq (n + 1))
def ownN (n : Nat) (fp : List Nat) (c : Nat) : Prop := c = n ∨ (c = n + 1 ∧ c ∈ fp)
def vCallZ (M : VM) (n : Nat) (f : FuncId) (vs : List MV) (fp : List Nat) (K : MV → VM → Prop) : Prop :=
  ∃ (args : List MV) (M0 : VM) (n0 : Nat) (res : MV) (M1 : VM) (n1 : Nat), SemR Pg G f args M0 n0 res M1 n1 ∧
    ∃ (σ bs : List (Nat × Nat)), LMatch 0 args M0 n0 vs M σ bs ∧ allIn M σ = true ∧ okNew σ n0 n1 M1 = true ∧ okTw n n0 n1 fp = true ∧ subN (σ.map (·.2)) fp = true ∧ subN (bs.map (·.1)) fp = true ∧ K (renV (rhoZ n0 n σ) res) (renM (rhoZ n0 n σ) M1 ++ delM (VM.bump M bs) σ)
def nilQ (E : VE) (o : Oper) : Option (Nat × Bool) := match o.op with
  | .binOp op t x (.const (.slice none 0 0)) _ => match evM (VE.get E) x with
    | some (.sl n _) => match Tab.find T t with
      | some (.slice _ _) => match op with
        | .eql => some (n, false)
        | .neq => some (n, true)
        | _ => none
      | _ => none
    | _ => none
  | _ => none
def mapLen (E : VE) (M : VM) (o : Oper) : Option Nat := match o.op with
  | .call c => match c.callee with
    | .builtin .len => match c.args.toList, c.argTypes.toList with
      | [x], [t] => match evM (VE.get E) x with
        | some (.mp c) => match VM.get M c with
          | some b => match b.l with
            | [.mpv ks vs] => match Pg.underlying t with
              | some (.map _ _) => if vs.length = ks.length then some ks.length else none
              | _ => none
            | _ => none
          | none => none
        | _ => none
      | _, _ => none
    | _ => none
  | _ => none
def vLenM (E : VE) (M : VM) (o : Oper) (K : Nat → Prop) : Prop := ∃ k : Nat, mapLen Pg E M o = some k ∧ K k
def vRunP (o : Oper) (E : VE) (M : VM) (n : Nat) (K : MV → VM → Nat → Prop) : Prop := match o.op with
  | .call c => match c.callee with
    | .value f => (vRun Pg T ents G o E M n fun r M' => K r M' (n + 1)) ∨ (vArgs E f c.args.toList).runP fun x => match ents.contains x.1 with
      | true => vCallR Pg G SemE M n x.1 x.2 K
      | false => vCallR Pg G SemPE M n x.1 x.2 K
    | .builtin _ => ((eOp Pg T (VE.get E) (VM.get M) n o).runP fun x => K x.1 (x.2.app n M) (n + 1)) ∨ vLenM Pg E M o fun k => K (.int .i64 k) M (n + 1)
    | _ => (eOp Pg T (VE.get E) (VM.get M) n o).runP fun x => K x.1 (x.2.app n M) (n + 1)
  | _ => (eOp Pg T (VE.get E) (VM.get M) n o).runP fun x => K x.1 (x.2.app n M) (n + 1)
def vRunN (o : Oper) (E : VE) (M : VM) (n : Nat) (K : MV → VM → Nat → Prop) : Prop := match nilQ T E o with
  | some (k, neg) => ∀ b : Bool, (b = true → k = 0) → K (.bool (match neg with | true => !b | false => b)) M (n + 1)
  | none => vRunP Pg T ents G o E M n K
def vOpN (ops : Array Oper) (o : Oper) (K : VK) (E : VE) (M : VM) (n : Nat) : Prop := match o.guard with
  | none => vRunN Pg T ents G o E M n fun r M n => vPut N o.dst r E fun E => K E M n
  | some (j, want) => match (ops[j]?).bind (·.dst) with
    | none => False
    | some s => match VE.get E s with
      | some (.bool t) =>
        (t = want → vRunN Pg T ents G o ((s, .bool want) :: E) M n fun r M n => vPut N o.dst r ((s, .bool want) :: E) fun E => K E M n) ∧
        (t = !want → vPut N o.dst .undef ((s, .bool (!want)) :: E) fun E => K E M (n + 1))
      | some .undef => vPut N o.dst .undef E fun E => K E M (n + 1)
      | _ => False
def vOpsN (ops : Array Oper) : List Oper → VK → VK
  | [], K => K
  | o :: rest, K => fun E M n => Rt n (fun E M => vOpN Pg T N ents G ops o (vOpsN ops rest K) E M n) E M
end
section
variable {Pg : Program} {T : Tab} {N : Nat} {ents : List FuncId} {G : GS} {w0 w w' : World} {ex0 : Anc} {P0 P P' : Prot} {adr adr' adr2 : Adr} {E : VE} {M : VM} {m : FM} {n : Nat} {a : Act} {r : MV} {u : Value} {δ : Dl} {ev : Nat → Option MV}
mutual
theorem renV_agg {ρ : Nat → Nat} : ∀ m : MV, (renV ρ m).isAgg = m.isAgg
  | .st l => by simp only [renV]; cases MV.idFrees l <;> rfl
  | .fn f l => by simp only [renV]; cases MV.idFrees l <;> rfl
  | .ifc t v => by simp only [renV]; cases MV.idFree v <;> rfl
  | .ptr .. => rfl
  | .ms .. => rfl
  | .mp .. => rfl
  | .mpv .. => rfl
  | .tup .. => rfl
  | .int .. => rfl
  | .bool .. => rfl
  | .str .. => rfl
  | .nilp => rfl
  | .gp .. => rfl
  | .ep .. => rfl
  | .sl .. => rfl
  | .nils => rfl
  | .nilf => rfl
  | .nili => rfl
  | .arr .. => rfl
  | .undef => rfl
theorem renVs_agg {ρ : Nat → Nat} : ∀ l : List MV, (renVs ρ l).map MV.isAgg = l.map MV.isAgg
  | [] => rfl
  | m :: l => by simp only [renVs, List.map_cons, renV_agg m, renVs_agg l]
end
theorem renVs_get {ρ : Nat → Nat} : ∀ (l : List MV) (j : Nat), (renVs ρ l)[j]? = (l[j]?).map (renV ρ)
  | [], j => by simp [renVs]
  | m :: l, 0 => by simp [renVs]
  | m :: l, j + 1 => by simp [renVs, renVs_get l j]
theorem renVs_len {ρ : Nat → Nat} : ∀ (l : List MV), (renVs ρ l).length = l.length
  | [] => rfl
  | m :: l => by simp [renVs, renVs_len l]
theorem ren_rep {ρ : Nat → Nat} {m : MV} {cs : List Value} (h : Rep w P adr m cs) : (∀ c g, adr c = some g → adr2 (ρ c) = some g) → Rep w P adr2 (renV ρ m) cs := by
  induction h with
  | ptr g h => intro k; exact .ptr g (k _ _ h)
  | ms g o cap h ho hcap hcap2 hsz => intro k; exact .ms g o cap (k _ _ h) ho hcap hcap2 hsz
  | ms0 => intro _; exact .ms0
  | mp g h => intro k; exact .mp g (k _ _ h)
  | st parts hp hr ih =>
    rename_i adr l
    intro k
    simp only [renV]
    cases hf : MV.idFrees l with
    | true => exact ((Rep.st parts hp hr).free hf).ofNone
    | false =>
      refine .st parts (by rw [renVs_len]; exact hp) fun j x p hx hq => ?_
      rw [renVs_get] at hx
      cases hj : l[j]? with
      | none => rw [hj] at hx; cases hx
      | some y => rw [hj] at hx; injection hx with hx; subst hx; exact ih j y p hj hq k
  | fn parts hp hr ih =>
    rename_i adr f l
    intro k
    simp only [renV]
    cases hf : MV.idFrees l with
    | true => exact ((Rep.fn parts hp hr).free hf).ofNone
    | false =>
      show Rep w P adr2 (.fn f (renVs ρ l)) _
      rw [← zip_same (renVs_agg (ρ := ρ) l)]
      refine .fn parts (by rw [renVs_len]; exact hp) fun j x p hx hq => ?_
      rw [renVs_get] at hx
      cases hj : l[j]? with
      | none => rw [hj] at hx; cases hx
      | some y => rw [hj] at hx; injection hx with hx; subst hx; exact ih j y p hj hq k
  | ifc cs hr ih =>
    rename_i adr t v
    intro k
    simp only [renV]
    cases hf : MV.idFree v with
    | true => exact ((Rep.ifc cs hr).free hf).ofNone
    | false =>
      have e : valM v cs = valM (renV ρ v) cs := by unfold valM; rw [renV_agg]
      show Rep w P adr2 (.ifc t (renV ρ v)) _
      rw [e]
      exact .ifc cs (ih k)
  | int => intro _; exact .int
  | bool => intro _; exact .bool
  | str => intro _; exact .str
  | nilp => intro _; exact .nilp
  | gp => intro _; exact .gp
  | ep b o vs hc hr ih => intro _; exact .ep b o vs hc hr
  | sl A cap es parts hl hp hes hnn hcap hc hr ih => intro _; exact .sl A cap es parts hl hp hes hnn hcap hc hr
  | nils => intro _; exact .nils
  | nilf => intro _; exact .nilf
  | nili => intro _; exact .nili
  | arr parts hl hp hes hr ih => intro _; exact .arr parts hl hp hes hr
theorem ren_repV {ρ : Nat → Nat} {m : MV} {u : Value} (h : RepV w P adr m u) (k : ∀ c g, adr c = some g → adr2 (ρ c) = some g) : RepV w P adr2 (renV ρ m) u := by
  cases h with
  | val cs h =>
    have e : valM m cs = valM (renV ρ m) cs := by unfold valM; rw [renV_agg]
    rw [e]
    exact .val cs (ren_rep h k)
  | undef => exact .undef
  | tup vs hl h =>
    rename_i l
    refine .tup vs (by rw [renVs_len]; exact hl) fun j x u hx hu => ?_
    rw [renVs_get] at hx
    cases hj : l[j]? with
    | none => rw [hj] at hx; cases hx
    | some y =>
      rw [hj] at hx
      injection hx with hx
      subst hx
      obtain ⟨cs, h1, h2⟩ := h j y u hj hu
      have e : valM y cs = valM (renV ρ y) cs := by unfold valM; rw [renV_agg]
      exact ⟨cs, ren_rep h1 k, by rw [h2, e]⟩
theorem get_app : ∀ (A B : VM) (x : Nat), VM.get (A ++ B) x = match VM.get A x with | some b => some b | none => VM.get B x
  | [], B, x => rfl
  | (c, b) :: A, B, x => by
    show VM.get ((c, b) :: (A ++ B)) x = _
    rw [VM.get_cons, VM.get_cons, get_app A B x]
    split <;> rfl
theorem get_delM : ∀ (σ : List (Nat × Nat)) (M : VM) (x : Nat) (b : MB), VM.get (delM M σ) x = some b → VM.get M x = some b ∧ ∀ c, (c, x) ∉ σ
  | [], M, x, b, h => ⟨h, fun _ h => nomatch h⟩
  | (c, d) :: σ, M, x, b, h => by
    obtain ⟨h1, h2⟩ := get_delM σ (VM.del M d) x b h
    rw [VM.get_del] at h1
    obtain ⟨h3, h4⟩ := fdel_some h1
    refine ⟨h4, fun c' hc => ?_⟩
    rcases List.mem_cons.1 hc with e | hc
    · injection e with e1 e2; exact h3 e2
    · exact h2 c' hc
theorem get_renM {ρ : Nat → Nat} : ∀ (M1 : VM) (x : Nat) (b : MB), VM.get (renM ρ M1) x = some b → (∀ c d b b', VM.get M1 c = some b → VM.get M1 d = some b' → ρ c = ρ d → c = d) → ∃ c b0, x = ρ c ∧ VM.get M1 c = some b0 ∧ b = { b0 with l := bif b0.row then b0.l else renVs ρ b0.l }
  | [], x, b, h, _ => by cases h
  | (c, b0) :: M1, x, b, h, hi => by
    have h' : VM.get ((ρ c, { b0 with l := bif b0.row then b0.l else renVs ρ b0.l }) :: renM ρ M1) x = some b := h
    rw [VM.get_cons] at h'
    split at h'
    · rename_i e
      injection h' with h'
      exact ⟨c, b0, e.symm, by rw [VM.get_cons, if_pos rfl], h'.symm⟩
    · rename_i hne
      have hi2 : ∀ c d b b', VM.get M1 c = some b → VM.get M1 d = some b' → ρ c = ρ d → c = d := by
        intro c1 d1 b1 b1' h1 h2 h3
        have q : ∀ {z : Nat} {y : MB}, VM.get M1 z = some y → ∃ y, VM.get ((c, b0) :: M1) z = some y := by
          intro z y hz
          rw [VM.get_cons]
          split
          · exact ⟨_, rfl⟩
          · exact ⟨_, hz⟩
        obtain ⟨_, q1⟩ := q h1
        obtain ⟨_, q2⟩ := q h2
        exact hi c1 d1 _ _ q1 q2 h3
      obtain ⟨c1, b1, h1, h2, h3⟩ := get_renM M1 x b h' hi2
      refine ⟨c1, b1, h1, ?_, h3⟩
      rw [VM.get_cons, if_neg]
      · exact h2
      · rintro rfl; exact hne h1.symm
theorem allIn_mem : ∀ {σ : List (Nat × Nat)}, allIn M σ = true → ∀ c d, (c, d) ∈ σ → ∃ b, VM.get M d = some b
  | (x, y) :: σ, h, c, d, hm => by
    have h : ((VM.get M y).isSome && allIn M σ) = true := h
    rw [Bool.and_eq_true] at h
    rcases List.mem_cons.1 hm with e | hm
    · injection e with e1 e2
      subst e2
      exact Option.isSome_iff_exists.1 h.1
    · exact allIn_mem h.2 c d hm
theorem bump_get : ∀ {bs : List (Nat × Nat)} {x : Nat} {b : MB}, VM.get (VM.bump M bs) x = some b → ∃ b', VM.get M x = some b' := by
  intro bs x b h
  rw [VM.get_bump, bumpF_get] at h
  cases hx : VM.get M x with
  | none => rw [hx] at h; cases h
  | some b' => exact ⟨b', rfl⟩
theorem get_bump_some {bs : List (Nat × Nat)} {x : Nat} {b : MB} (h : VM.get M x = some b) : ∃ b', VM.get (VM.bump M bs) x = some b' := by
  rw [VM.get_bump, bumpF_get, h]
  exact ⟨_, rfl⟩
theorem inj2_of {n0 : Nat} {σ : List (Nat × Nat)} (h : okSg 0 n0 σ = true) : inj2 σ = true := by
  unfold okSg at h
  simp only [Bool.and_eq_true] at h
  exact h.1.2
theorem RepVs.kp {l : List MV} {vs : List Value} (h : RepVs w P adr l vs) (k : Keep w w' P P' adr adr') : RepVs w' P' adr' l vs := by
  induction h with
  | nil => exact .nil
  | cons h _ ih => exact .cons (h.keep k) ih
theorem Sim.frz {N : Nat} {E' : VE} {M' : VM} (hs : Sim N w0 ex0 P0 (VE.get E) (VM.get M) n a w) (h : FzM n E' M' E M) : Sim N w0 ex0 P0 (VE.get E') (VM.get M') n a w := by
  obtain ⟨bs, h2, h3, h4, h5⟩ := h
  obtain ⟨P, adr, hI, hE, ha1, ha2, ha3⟩ := hs.ex
  have hσ : OkSg n n [] := okSg_out (by simp [okSg, inj2])
  obtain ⟨P', i1, i2, i3, i4⟩ := hI.frozen h2
  have e : adrS (sigA n []) adr = adr := by
    funext c
    unfold adrS sigA
    rcases Nat.lt_or_ge c n with h | h
    · have hb : Nat.blt c n = true := by simpa [Nat.blt_eq] using h
      rw [hb]; rfl
    · have hb : Nat.blt c n = false := by
        cases hb : Nat.blt c n with
        | false => rfl
        | true => have : c < n := by simpa [Nat.blt_eq] using hb
                  omega
      rw [hb, ha1 c h]; rfl
  have j1 := i1.matched hσ i4 h5
  rw [e] at j1
  refine ⟨⟨P', adr, j1, fun t v ht => ?_, ha1, ha2.frozen i2, fun b o ho => ?_⟩, fun c hc => all_lt h3 hc, hs.ge, hs.since, hs.defers, hs.size⟩
  · obtain ⟨v0, e1, e2⟩ := mE_get h4 ht
    obtain ⟨u, e3, e4⟩ := hE t v0 e1
    have := relV_repV i4 e2 (e4.keep i2)
    rw [e] at this
    exact ⟨u, e3, this⟩
  · rcases i3 b o ho with h | ⟨c, h⟩
    · exact ha3 b o h
    · rcases ha2.in_ c b h with h | h
      · exact .inr (.inl h)
      · exact .inr (.inr h)
theorem vCallR_ok {C : Program → FuncId → Array Value → World → (Ending → World → Prop) → Prop} (hC : ∀ {Pg : Program} {f : FuncId} {vals : Array Value} {w : World} {Q R : Ending → World → Prop}, C Pg f vals w Q → (∀ e w, Q e w → R e w) → C Pg f vals w R) (hS : SeatM Pg T ents G w0 ex0) {f : FuncId} {vs : List MV} {vals : List Value} {K : MV → VM → Nat → Prop} (h : vCallR Pg G (SemWE C) M n f vs K) (hsn : Since ex0.ex w0 w) (hfr : ∀ c, n ≤ c → VM.get M c = none) (hge : ex0.n0 ≤ n)
    (hI : InvM w P adr (VM.get M)) (hE : EnvR w P adr (VE.get E) a) (ha1 : ∀ c, n ≤ c → adr c = none) (ha2 : AdrOK w0 ex0 P0 w P adr) (ha3 : ∀ b o, P b o → P0 b o ∨ w0.heap.size ≤ b ∨ ex0.ex b) (hvs : RepVs w P adr vs vals) :
    C Pg f vals.toArray w fun e w' => ∃ v, e = .returned v ∧ ∃ r M' n', K r M' n' ∧ ∃ P' adr', InvM w' P' adr' (VM.get M') ∧ EnvR w' P' adr' (VE.get E) a ∧ RepV w' P' adr' r v ∧ (∀ c, n' ≤ c → adr' c = none) ∧ AdrOK w0 ex0 P0 w' P' adr' ∧ (∀ b o, P' b o → P0 b o ∨ w0.heap.size ≤ b ∨ ex0.ex b) ∧ (∀ c, n' ≤ c → VM.get M' c = none) ∧ ex0.n0 ≤ n' ∧ Since ex0.ex w0 w' := by
  obtain ⟨args, M0, n0, Φ, hsem, σ, bs, ⟨hok, hokb, hall, hrel, hmm⟩, hin, hfin⟩ := h
  have hσ := okSg_out hok
  have hinj := inj2_of hok
  obtain ⟨Pb, i1, i2, i3, i4⟩ := hI.frozen hokb
  have hI0 := i1.matched hσ i4 hmm
  have hargs := (relVs_repVs i4 hrel (hvs.kp i2)).1
  have eσ : ∀ c, adrS (sigA 0 σ) adr c = (sig σ c).bind adr := fun c => rfl
  have dom : ∀ {c d}, sig σ c = some d → d < n := fun {c d} hc => by
    obtain ⟨b, hb⟩ := allIn_mem hin c d (sig_mem hc)
    rcases Nat.lt_or_ge d n with h | h
    · exact h
    · rw [hfr d h] at hb; cases hb
  have passed : ∀ {c g}, adrS (sigA 0 σ) adr c = some g → ∃ d, sig σ c = some d ∧ adr d = some g := fun {c g} hc => by
    rw [eσ] at hc
    cases hd : sig σ c with
    | none => rw [hd] at hc; cases hc
    | some d => rw [hd] at hc; exact ⟨d, rfl, hc⟩
  have hL : ∀ c g, adr c = some g → ¬ G.L g := fun c g hc hl => by
    rcases ha2.in_ c g hc with h | h
    · have := hS.lt g hl; omega
    · exact hS.out g h hl
  refine hC (hsem w Pb _ vals (hS.good w hsn) hI0 (fun c hc => adrS_none hσ hc) (fun c g hc => by obtain ⟨d, _, hd⟩ := passed hc; exact hL d g hd) hargs) ?_
  rintro e w' ⟨v, rfl, res, M1, n1, hΦ, P', adr', j1, j2, j3, j4, j5, j6, j7, j8⟩
  obtain ⟨hall1, hK⟩ := hfin _ _ _ hΦ
  refine ⟨v, rfl, _, _, _, hK, P', fun x => if x < n then adr x else adr' (x - n), ?_⟩
  have hold : ∀ {x}, x < n → (fun x => if x < n then adr x else adr' (x - n)) x = adr x := fun {x} hx => by simp [hx]
  have hnew : ∀ {c}, (fun x => if x < n then adr x else adr' (x - n)) (n + c) = adr' c := fun {c} => by
    have : ¬ n + c < n := by omega
    simp [this]
  have lt_of : ∀ {x g}, adr x = some g → x < n := fun {x g} hx => by
    rcases Nat.lt_or_ge x n with h | h
    · exact h
    · rw [ha1 x h] at hx; cases hx
  have hrho : ∀ c, (fun x => if x < n then adr x else adr' (x - n)) (rho n σ c) = adr' c := fun c => by
    unfold rho
    cases hd : sig σ c with
    | none => exact hnew
    | some d =>
      rw [hold (dom hd)]
      have hc : c < n0 := hσ.lt (c := c) (d := d) hd
      rw [j4 c hc, eσ, hd]; rfl
  have kb : Keep w w' Pb P' adr (fun x => if x < n then adr x else adr' (x - n)) := by
    refine ⟨j3.prot, j3.cell, fun c g hc => (hold (lt_of hc)).trans hc, fun c g cur ty hc hw => ?_⟩
    by_cases hp : ∃ c0, adrS (sigA 0 σ) adr c0 = some g
    · obtain ⟨c0, hc0⟩ := hp
      exact j3.size c0 g cur ty hc0 hw
    · exact ⟨cur, (j8.block g (Array.getElem?_eq_some_iff.1 hw).1 hp).trans hw, rfl⟩
  have k := i2.trans kb
  have hrinj : ∀ c d b b', VM.get M1 c = some b → VM.get M1 d = some b' → rho n σ c = rho n σ d → c = d := by
    intro c d b b' _ _ h
    unfold rho at h
    cases hc : sig σ c with
    | none =>
      cases hd : sig σ d with
      | none => rw [hc, hd] at h; simp only at h; omega
      | some y => rw [hc, hd] at h; simp only at h; have := dom hd; omega
    | some x =>
      cases hd : sig σ d with
      | none => rw [hc, hd] at h; simp only at h; have := dom hc; omega
      | some y => rw [hc, hd] at h; simp only at h; subst h; exact sig_inj hinj hc hd
  have hlast : ∀ {x b}, VM.get (renM (rho n σ) M1 ++ delM (VM.bump M bs) σ) x = some b → (∃ c b0, x = rho n σ c ∧ VM.get M1 c = some b0 ∧ b = { b0 with l := bif b0.row then b0.l else renVs (rho n σ) b0.l }) ∨ (VM.get (VM.bump M bs) x = some b ∧ x < n ∧ ∀ c, (c, x) ∉ σ) := by
    intro x b hx
    rw [get_app] at hx
    split at hx
    · rename_i b' hb'
      injection hx with hx
      subst hx
      exact .inl (get_renM M1 x b' hb' hrinj)
    · obtain ⟨h1, h2⟩ := get_delM σ _ x b hx
      obtain ⟨b', h3⟩ := bump_get h1
      refine .inr ⟨h1, ?_, h2⟩
      rcases Nat.lt_or_ge x n with h | h
      · exact h
      · rw [hfr x h] at h3; cases h3
  have fresh1 : ∀ {c b}, VM.get M1 c = some b → c < n1 := fun {c b} hc => by
    rcases Nat.lt_or_ge c n1 with h | h
    · exact h
    · rw [all_lt hall1 h] at hc; cases hc
  have notp : ∀ {x b g}, VM.get (VM.bump M bs) x = some b → (∀ c, (c, x) ∉ σ) → adr x = some g → ¬ ∃ c0, adrS (sigA 0 σ) adr c0 = some g := by
    rintro x b g hx hn hg ⟨c0, hc0⟩
    obtain ⟨d, h1, h2⟩ := passed hc0
    obtain ⟨b', hb'⟩ := allIn_mem hin c0 d (sig_mem h1)
    obtain ⟨b'', hb''⟩ := get_bump_some (bs := bs) hb'
    have := i1.inj x d b b'' g hx hb'' hg h2
    subst this
    exact hn c0 (sig_mem h1)
  refine ⟨⟨fun x b hx => ?_, fun x y bx by_ g hx hy hgx hgy => ?_, j1.prot⟩, fun t z ht => ?_, ren_repV j2 fun c g hc => (hrho c).trans hc, fun c hc => ?_, ⟨fun c g hc => ?_, fun c hc => (hold (by omega)).trans (ha2.old c hc), ha2.keep.trans k⟩, fun b o ho => ?_, fun c hc => ?_, by omega, ?_⟩
  · rcases hlast hx with ⟨c, b0, rfl, h1, rfl⟩ | ⟨h1, h2, h3⟩
    · rcases j1.blk c b0 h1 with q | ⟨g, q1, q2⟩
      · refine .inl ⟨q.1, ?_, (hrho c).trans q.2.2.1, q.2.2.2⟩
        simp [q.1, q.2.1]
      · refine .inr ⟨g, (hrho c).trans q1, ?_⟩
        rcases q2.has' with ⟨cur, parts, c1, c2, c3, c4, c5⟩ | ⟨m1, m2, ks, vs, o, m3, m4, m5⟩
        rotate_left
        · exact ⟨.inr ⟨m1, m2, ks, vs, o, by simp [m1, m3, renVs, renV], m4, m5⟩, q2.pe, by simp only [m1, cond_false, renVs_len]; exact q2.le⟩
        have hlen : (bif b0.row then b0.l else renVs (rho n σ) b0.l).length = b0.l.length := by
          cases b0.row
          · exact renVs_len _
          · rfl
        refine ⟨.inl ⟨cur, parts, c1, by simp only [hlen]; exact c2, c3, fun j x p hx hp => ?_, c5⟩, q2.pe, by simp only [hlen]; exact q2.le⟩
        simp only at hx ⊢
        cases hrow : b0.row with
        | true => rw [hrow] at hx c4; exact c4 j x p hx hp
        | false =>
          rw [hrow] at hx c4
          simp only [cond_false, renVs_get] at hx
          cases hj : b0.l[j]? with
          | none => rw [hj] at hx; cases hx
          | some y =>
            rw [hj] at hx
            injection hx with hx
            subst hx
            exact ren_rep (c4 j y p hj hp) fun c g hc => (hrho c).trans hc
    · rcases i1.blk x b h1 with q | ⟨g, q1, q2⟩
      · exact .inl ⟨q.1, q.2.1, (hold h2).trans q.2.2.1, q.2.2.2⟩
      · have hnp := notp h1 h3 q1
        refine .inr ⟨g, (hold h2).trans q1, q2.keep kb (j8.block g q2.lt hnp) fun o ho => ?_⟩
        rcases j7 g o ho with h | h | h
        · exact h
        · exact absurd q2.lt (by omega)
        · exact absurd h hnp
  · have cross : ∀ {c x b0 b1}, VM.get M1 c = some b0 → VM.get (VM.bump M bs) x = some b1 → x < n → (∀ c, (c, x) ∉ σ) → adr' c = some g → adr x = some g → False := by
      intro c x b0 b1 _ h1 h2 h3 h4 h5
      rcases j6 c g h4 with h | h
      · rcases i1.blk x b1 h1 with q | ⟨g', q1, q2⟩
        · rw [h5] at q; cases q.2.2.1
        · rw [h5] at q1; injection q1 with q1; subst q1; have := q2.lt; omega
      · exact notp h1 h3 h5 h
    rcases hlast hx with ⟨c, b0, rfl, h1, rfl⟩ | ⟨h1, h2, h3⟩ <;> rcases hlast hy with ⟨d, d0, rfl, k1, rfl⟩ | ⟨k1, k2, k3⟩
    · rw [j1.inj c d b0 d0 g h1 k1 ((hrho c).symm.trans hgx) ((hrho d).symm.trans hgy)]
    · exact (cross h1 k1 k2 k3 ((hrho c).symm.trans hgx) ((hold k2).symm.trans hgy)).elim
    · exact (cross k1 h1 h2 h3 ((hrho d).symm.trans hgy) ((hold h2).symm.trans hgx)).elim
    · exact i1.inj x y bx by_ g h1 k1 ((hold h2).symm.trans hgx) ((hold k2).symm.trans hgy)
  · obtain ⟨u, h1, h2⟩ := hE t z ht
    exact ⟨u, h1, h2.keep k⟩
  · have h1 : ¬ c < n := by omega
    simp only [h1, if_false]
    exact j5 _ (by omega)
  · by_cases h1 : c < n
    · simp only [h1, if_true] at hc; exact ha2.in_ c g hc
    · simp only [h1, if_false] at hc
      rcases j6 _ g hc with h | ⟨c0, h⟩
      · exact .inl (Nat.le_trans hsn.size h)
      · obtain ⟨d, _, hd⟩ := passed h; exact ha2.in_ d g hd
  · rcases j7 b o ho with h | h | ⟨c0, h⟩
    · rcases i3 b o h with h | ⟨c, h⟩
      · exact ha3 b o h
      · rcases ha2.in_ c b h with h | h
        · exact .inr (.inl h)
        · exact .inr (.inr h)
    · exact .inr (.inl (Nat.le_trans hsn.size h))
    · obtain ⟨d, _, hd⟩ := passed h
      rcases ha2.in_ d b hd with h | h
      · exact .inr (.inl h)
      · exact .inr (.inr h)
  · cases hx : VM.get (renM (rho n σ) M1 ++ delM (VM.bump M bs) σ) c with
    | none => rfl
    | some b =>
      exfalso
      rcases hlast hx with ⟨d, b0, rfl, h1, _⟩ | ⟨_, h2, _⟩
      · have h3 := fresh1 h1
        unfold rho at hc
        cases hd : sig σ d with
        | none => rw [hd] at hc; simp only at hc; omega
        | some y => rw [hd] at hc; simp only at hc; have := dom hd; omega
      · omega
  · refine ⟨j8.os.trans hsn.os, j8.tape.trans hsn.tape, j8.output.trans hsn.output, Nat.le_trans hsn.size j8.size, fun b hb hne => (j8.block b (Nat.lt_of_lt_of_le hb hsn.size) fun ⟨c0, hc0⟩ => ?_).trans (hsn.block b hb hne)⟩
    obtain ⟨d, _, hd⟩ := passed hc0
    rcases ha2.in_ d b hd with h | h
    · omega
    · exact hne h
theorem vCallZ_ok (hS : SeatM Pg T ents G w0 ex0) {f : FuncId} {vs : List MV} {vals : List Value} {fp : List Nat} {K : MV → VM → Prop} (h : vCallZ Pg G M n f vs fp K) (hsn : Since ex0.ex w0 w) (hfr : VM.get M n = none) (hge : ex0.n0 ≤ n) (han : adr n = none) (hfr2 : n + 1 ∈ fp → VM.get M (n + 1) = none) (han2 : n + 1 ∈ fp → adr (n + 1) = none)
    (hI : InvM w P adr (VM.get M)) (hE : EnvR w P adr ev a) (ha2 : AdrOK w0 ex0 P0 w P adr) (ha3 : ∀ b o, P b o → P0 b o ∨ w0.heap.size ≤ b ∨ ex0.ex b) (hvs : RepVs w P adr vs vals) :
    Calls Pg f vals.toArray w fun e w' => ∃ v, e = .returned v ∧ ∃ r M', K r M' ∧ ∃ P' adr1, InvM w' P' adr1 (VM.get M') ∧ EnvR w' P' adr1 ev a ∧ RepV w' P' adr1 r v ∧ (∀ c, ¬ ownN n fp c → adr1 c = adr c) ∧ AdrOK w0 ex0 P0 w' P' adr1 ∧ (∀ b o, P' b o → P0 b o ∨ w0.heap.size ≤ b ∨ ex0.ex b) ∧ (∀ c, ¬ ownN n fp c → VM.get M c = none → VM.get M' c = none) ∧ Since ex0.ex w0 w' := by
  obtain ⟨args, M0, n0, res, M1, n1, hsem, σ, bs, ⟨hok, hokb, hall, hrel, hmm⟩, hin, hall1, htw, _, _, hK⟩ := h
  unfold okNew at hall1
  rw [Bool.and_eq_true] at hall1
  obtain ⟨hn1, hall1⟩ := hall1
  have hn1 : n1 ≤ n0 + 2 := Nat.le_of_ble_eq_true hn1
  have htw : n0 + 1 < n1 → n + 1 ∈ fp := fun h => by
    unfold okTw at htw
    rw [Bool.or_eq_true] at htw
    rcases htw with h2 | h2
    · have := Nat.le_of_ble_eq_true h2; omega
    · obtain ⟨x, hx, he⟩ := List.any_eq_true.1 h2
      rw [Nat.eq_of_beq_eq_true he]; exact hx
  have hσ := okSg_out hok
  have hinj := inj2_of hok
  obtain ⟨Pb, i1, i2, i3, i4⟩ := hI.frozen hokb
  have hI0 := i1.matched hσ i4 hmm
  have hargs := (relVs_repVs i4 hrel (hvs.kp i2)).1
  have eσ : ∀ c, adrS (sigA 0 σ) adr c = (sig σ c).bind adr := fun c => rfl
  have passed : ∀ {c g}, adrS (sigA 0 σ) adr c = some g → ∃ d, sig σ c = some d ∧ adr d = some g := fun {c g} hc => by
    rw [eσ] at hc
    cases hd : sig σ c with
    | none => rw [hd] at hc; cases hc
    | some d => rw [hd] at hc; exact ⟨d, rfl, hc⟩
  have dom : ∀ {c d}, sig σ c = some d → d ≠ n := fun {c d} hc hd => by
    obtain ⟨b, hb⟩ := allIn_mem hin c d (sig_mem hc)
    rw [hd, hfr] at hb; cases hb
  have dom2 : ∀ {c d}, sig σ c = some d → n0 + 1 < n1 → d ≠ n + 1 := fun {c d} hc hl hd => by
    obtain ⟨b, hb⟩ := allIn_mem hin c d (sig_mem hc)
    rw [hd, hfr2 (htw hl)] at hb; cases hb
  have hL : ∀ c g, adr c = some g → ¬ G.L g := fun c g hc hl => by
    rcases ha2.in_ c g hc with h | h
    · have := hS.lt g hl; omega
    · exact hS.out g h hl
  refine (hsem w Pb _ vals (hS.good w hsn) hI0 (fun c hc => adrS_none hσ hc) (fun c g hc => by obtain ⟨d, _, hd⟩ := passed hc; exact hL d g hd) hargs).mono ?_
  rintro e w' ⟨v, rfl, P', adr', j1, j2, j3, j4, j5, j6, j7, j8⟩
  refine ⟨v, rfl, _, _, hK, P', fun x => if x = n then adr' n0 else if x = n + 1 ∧ n0 + 1 < n1 then adr' (n0 + 1) else adr x, ?_⟩
  generalize hA : (fun x => if x = n then adr' n0 else if x = n + 1 ∧ n0 + 1 < n1 then adr' (n0 + 1) else adr x) = A
  have hold : ∀ {x}, x ≠ n → (n0 + 1 < n1 → x ≠ n + 1) → A x = adr x := fun {x} hx hx2 => by
    subst hA
    simp only [hx, if_false]
    rw [if_neg fun h => hx2 h.2 h.1]
  have hnew : A n = adr' n0 := by subst hA; simp
  have hnew2 : n0 + 1 < n1 → A (n + 1) = adr' (n0 + 1) := fun h => by subst hA; simp [h]
  have holdN : ∀ {x}, ¬ ownN n fp x → A x = adr x := fun {x} hx => hold (fun h => hx (.inl h)) fun h h2 => hx (.inr ⟨h2, h2 ▸ htw h⟩)
  have hcase : ∀ x, (x = n ∧ A x = adr' n0) ∨ (x = n + 1 ∧ n0 + 1 < n1 ∧ A x = adr' (n0 + 1)) ∨ (x ≠ n ∧ (n0 + 1 < n1 → x ≠ n + 1) ∧ A x = adr x) := fun x => by
    by_cases h1 : x = n
    · exact .inl ⟨h1, h1 ▸ hnew⟩
    by_cases h2 : x = n + 1 ∧ n0 + 1 < n1
    · exact .inr (.inl ⟨h2.1, h2.2, h2.1 ▸ hnew2 h2.2⟩)
    · exact .inr (.inr ⟨h1, fun h e => h2 ⟨e, h⟩, hold h1 fun h e => h2 ⟨e, h⟩⟩)
  have ne_of : ∀ {x g}, adr x = some g → A x = some g := fun {x g} hx => by
    rcases hcase x with ⟨rfl, _⟩ | ⟨rfl, h, _⟩ | ⟨_, _, h⟩
    · rw [han] at hx; cases hx
    · rw [han2 (htw h)] at hx; cases hx
    · rw [h]; exact hx
  have hM1 : ∀ {c b}, VM.get M1 c = some b → (∃ d, sig σ c = some d) ∨ (sig σ c = none ∧ (c = n0 ∨ (c = n0 + 1 ∧ n0 + 1 < n1))) := fun {c b} hc => by
    rw [List.all_eq_true] at hall1
    have := hall1 _ (VM.get_mem hc)
    cases hd : sig σ c with
    | some d => exact .inl ⟨d, rfl⟩
    | none =>
      simp only [hd, Option.isSome_none, Bool.false_or, Bool.and_eq_true, Bool.or_eq_true] at this
      obtain ⟨h1, h2⟩ := this
      have h2 : c < n1 := by simpa [Nat.blt_eq] using h2
      rcases h1 with h1 | h1
      · exact .inr ⟨rfl, .inl (Nat.eq_of_beq_eq_true h1)⟩
      · have := Nat.eq_of_beq_eq_true h1
        exact .inr ⟨rfl, .inr ⟨this, by omega⟩⟩
  have hrho : ∀ c, ((c = n0 ∨ (c = n0 + 1 ∧ n0 + 1 < n1)) ∨ ∃ d, sig σ c = some d) → A (rhoZ n0 n σ c) = adr' c := fun c hc => by
    cases hd : sig σ c with
    | none =>
      rcases hc with (rfl | ⟨rfl, h⟩) | ⟨d, hc⟩
      · rw [rhoZ_0 hd]; exact hnew
      · rw [rhoZ_1 hd]; exact hnew2 h
      · rw [hd] at hc; cases hc
    | some d =>
      unfold rhoZ
      rw [hd]
      show A d = _
      rw [hold (dom hd) (dom2 hd)]
      have hlt : c < n0 := hσ.lt (c := c) (d := d) hd
      rw [j4 c hlt, eσ, hd]; rfl
  have hrho' : ∀ c g, adr' c = some g → A (rhoZ n0 n σ c) = some g := fun c g hc => by
    refine (hrho c ?_).trans hc
    rcases Nat.lt_or_ge c n0 with h | h
    · rw [j4 c h] at hc
      obtain ⟨d, hd, _⟩ := passed hc
      exact .inr ⟨d, hd⟩
    · rcases Nat.lt_or_ge c n1 with h2 | h2
      · exact .inl (by omega)
      · rw [j5 c h2] at hc; cases hc
  have hrho1 : ∀ {c b}, VM.get M1 c = some b → A (rhoZ n0 n σ c) = adr' c := fun {c b} hc => hrho c (by
    rcases hM1 hc with h | h
    · exact .inr h
    · exact .inl h.2)
  have kb : Keep w w' Pb P' adr A := by
    refine ⟨j3.prot, j3.cell, fun c g hc => ne_of hc, fun c g cur ty hc hw => ?_⟩
    by_cases hp : ∃ c0, adrS (sigA 0 σ) adr c0 = some g
    · obtain ⟨c0, hc0⟩ := hp
      exact j3.size c0 g cur ty hc0 hw
    · exact ⟨cur, (j8.block g (Array.getElem?_eq_some_iff.1 hw).1 hp).trans hw, rfl⟩
  have k := i2.trans kb
  have hrinj : ∀ c d b b', VM.get M1 c = some b → VM.get M1 d = some b' → rhoZ n0 n σ c = rhoZ n0 n σ d → c = d := by
    intro c d b b' hc hd h
    have hs : ∀ {c d}, sig σ c = some d → rhoZ n0 n σ c = d := fun {c d} hc => by unfold rhoZ; rw [hc]
    rcases hM1 hc with ⟨x, hx⟩ | ⟨hx, hx0⟩ <;> rcases hM1 hd with ⟨y, hy⟩ | ⟨hy, hy0⟩
    · rw [hs hx, hs hy] at h
      subst h; exact sig_inj hinj hx hy
    · rw [hs hx] at h
      rcases hy0 with rfl | ⟨rfl, hl⟩
      · rw [rhoZ_0 hy] at h; exact absurd h (dom hx)
      · rw [rhoZ_1 hy] at h; exact absurd h (dom2 hx hl)
    · rw [hs hy] at h
      rcases hx0 with rfl | ⟨rfl, hl⟩
      · rw [rhoZ_0 hx] at h; exact absurd h.symm (dom hy)
      · rw [rhoZ_1 hx] at h; exact absurd h.symm (dom2 hy hl)
    · rcases hx0 with rfl | ⟨rfl, hl⟩ <;> rcases hy0 with rfl | ⟨rfl, hl2⟩
      · rfl
      · rw [rhoZ_0 hx, rhoZ_1 hy] at h; omega
      · rw [rhoZ_1 hx, rhoZ_0 hy] at h; omega
      · rfl
  have hlast : ∀ {x b}, VM.get (renM (rhoZ n0 n σ) M1 ++ delM (VM.bump M bs) σ) x = some b → (∃ c b0, x = rhoZ n0 n σ c ∧ VM.get M1 c = some b0 ∧ b = { b0 with l := bif b0.row then b0.l else renVs (rhoZ n0 n σ) b0.l }) ∨ (VM.get (VM.bump M bs) x = some b ∧ (x ≠ n ∧ (n0 + 1 < n1 → x ≠ n + 1)) ∧ ∀ c, (c, x) ∉ σ) := by
    intro x b hx
    rw [get_app] at hx
    split at hx
    · rename_i b' hb'
      injection hx with hx
      subst hx
      exact .inl (get_renM M1 x b' hb' hrinj)
    · obtain ⟨h1, h2⟩ := get_delM σ _ x b hx
      obtain ⟨b', h3⟩ := bump_get h1
      exact .inr ⟨h1, ⟨fun hn => (by rw [hn, hfr] at h3; cases h3), fun hl hn => (by rw [hn, hfr2 (htw hl)] at h3; cases h3)⟩, h2⟩
  have notp : ∀ {x b g}, VM.get (VM.bump M bs) x = some b → (∀ c, (c, x) ∉ σ) → adr x = some g → ¬ ∃ c0, adrS (sigA 0 σ) adr c0 = some g := by
    rintro x b g hx hn hg ⟨c0, hc0⟩
    obtain ⟨d, h1, h2⟩ := passed hc0
    obtain ⟨b', hb'⟩ := allIn_mem hin c0 d (sig_mem h1)
    obtain ⟨b'', hb''⟩ := get_bump_some (bs := bs) hb'
    have := i1.inj x d b b'' g hx hb'' hg h2
    subst this
    exact hn c0 (sig_mem h1)
  refine ⟨⟨fun x b hx => ?_, fun x y bx by_ g hx hy hgx hgy => ?_, j1.prot⟩, fun t z ht => ?_, ren_repV j2 hrho', fun c hc => holdN hc, ⟨fun c g hc => ?_, fun c hc => (hold (by omega) fun _ => by omega).trans (ha2.old c hc), ha2.keep.trans k⟩, fun b o ho => ?_, fun c hcn hc => ?_, ?_⟩
  · rcases hlast hx with ⟨c, b0, rfl, h1, rfl⟩ | ⟨h1, h2, h3⟩
    · rcases j1.blk c b0 h1 with q | ⟨g, q1, q2⟩
      · refine .inl ⟨q.1, ?_, (hrho1 h1).trans q.2.2.1, q.2.2.2⟩
        simp [q.1, q.2.1]
      · refine .inr ⟨g, (hrho1 h1).trans q1, ?_⟩
        rcases q2.has' with ⟨cur, parts, c1, c2, c3, c4, c5⟩ | ⟨m1, m2, ks, vs, o, m3, m4, m5⟩
        rotate_left
        · exact ⟨.inr ⟨m1, m2, ks, vs, o, by simp [m1, m3, renVs, renV], m4, m5⟩, q2.pe, by simp only [m1, cond_false, renVs_len]; exact q2.le⟩
        have hlen : (bif b0.row then b0.l else renVs (rhoZ n0 n σ) b0.l).length = b0.l.length := by
          cases b0.row
          · exact renVs_len _
          · rfl
        refine ⟨.inl ⟨cur, parts, c1, by simp only [hlen]; exact c2, c3, fun j x p hx hp => ?_, c5⟩, q2.pe, by simp only [hlen]; exact q2.le⟩
        simp only at hx ⊢
        cases hrow : b0.row with
        | true => rw [hrow] at hx c4; exact c4 j x p hx hp
        | false =>
          rw [hrow] at hx c4
          simp only [cond_false, renVs_get] at hx
          cases hj : b0.l[j]? with
          | none => rw [hj] at hx; cases hx
          | some y =>
            rw [hj] at hx
            injection hx with hx
            subst hx
            exact ren_rep (c4 j y p hj hp) hrho'
    · rcases i1.blk x b h1 with q | ⟨g, q1, q2⟩
      · exact .inl ⟨q.1, q.2.1, (hold h2.1 h2.2).trans q.2.2.1, q.2.2.2⟩
      · have hnp := notp h1 h3 q1
        refine .inr ⟨g, (hold h2.1 h2.2).trans q1, q2.keep kb (j8.block g q2.lt hnp) fun o ho => ?_⟩
        rcases j7 g o ho with h | h | h
        · exact h
        · exact absurd q2.lt (by omega)
        · exact absurd h hnp
  · have cross : ∀ {c x b0 b1}, VM.get M1 c = some b0 → VM.get (VM.bump M bs) x = some b1 → (x ≠ n ∧ (n0 + 1 < n1 → x ≠ n + 1)) → (∀ c, (c, x) ∉ σ) → adr' c = some g → adr x = some g → False := by
      intro c x b0 b1 _ h1 h2 h3 h4 h5
      rcases j6 c g h4 with h | h
      · rcases i1.blk x b1 h1 with q | ⟨g', q1, q2⟩
        · rw [h5] at q; cases q.2.2.1
        · rw [h5] at q1; injection q1 with q1; subst q1; have := q2.lt; omega
      · exact notp h1 h3 h5 h
    rcases hlast hx with ⟨c, b0, rfl, h1, rfl⟩ | ⟨h1, h2, h3⟩ <;> rcases hlast hy with ⟨d, d0, rfl, k1, rfl⟩ | ⟨k1, k2, k3⟩
    · rw [j1.inj c d b0 d0 g h1 k1 ((hrho1 h1).symm.trans hgx) ((hrho1 k1).symm.trans hgy)]
    · exact (cross h1 k1 k2 k3 ((hrho1 h1).symm.trans hgx) ((hold k2.1 k2.2).symm.trans hgy)).elim
    · exact (cross k1 h1 h2 h3 ((hrho1 k1).symm.trans hgy) ((hold h2.1 h2.2).symm.trans hgx)).elim
    · exact i1.inj x y bx by_ g h1 k1 ((hold h2.1 h2.2).symm.trans hgx) ((hold k2.1 k2.2).symm.trans hgy)
  · obtain ⟨u, h1, h2⟩ := hE t z ht
    exact ⟨u, h1, h2.keep k⟩
  · have new : ∀ {c1}, adr' c1 = some g → w0.heap.size ≤ g ∨ ex0.ex g := fun {c1} hc => by
      rcases j6 _ g hc with h | ⟨c0, h⟩
      · exact .inl (Nat.le_trans hsn.size h)
      · obtain ⟨d, _, hd⟩ := passed h; exact ha2.in_ d g hd
    rcases hcase c with ⟨_, h⟩ | ⟨_, _, h⟩ | ⟨_, _, h⟩
    · exact new (h.symm.trans hc)
    · exact new (h.symm.trans hc)
    · exact ha2.in_ c g (h.symm.trans hc)
  · rcases j7 b o ho with h | h | ⟨c0, h⟩
    · rcases i3 b o h with h | ⟨c, h⟩
      · exact ha3 b o h
      · rcases ha2.in_ c b h with h | h
        · exact .inr (.inl h)
        · exact .inr (.inr h)
    · exact .inr (.inl (Nat.le_trans hsn.size h))
    · obtain ⟨d, _, hd⟩ := passed h
      rcases ha2.in_ d b hd with h | h
      · exact .inr (.inl h)
      · exact .inr (.inr h)
  · cases hx : VM.get (renM (rhoZ n0 n σ) M1 ++ delM (VM.bump M bs) σ) c with
    | none => rfl
    | some b =>
      exfalso
      rcases hlast hx with ⟨d, b0, rfl, h1, _⟩ | ⟨h2, _, _⟩
      · rcases hM1 h1 with ⟨y, hy⟩ | ⟨hy, h5⟩
        · unfold rhoZ at hc
          rw [hy] at hc
          obtain ⟨b', hb'⟩ := allIn_mem hin d y (sig_mem hy)
          rw [hb'] at hc; cases hc
        · rcases h5 with rfl | ⟨rfl, hl⟩
          · rw [rhoZ_0 hy] at hcn
            exact hcn (.inl rfl)
          · rw [rhoZ_1 hy] at hcn
            exact hcn (.inr ⟨rfl, htw hl⟩)
      · obtain ⟨b', h3⟩ := bump_get h2
        rw [hc] at h3; cases h3
  · refine ⟨j8.os.trans hsn.os, j8.tape.trans hsn.tape, j8.output.trans hsn.output, Nat.le_trans hsn.size j8.size, fun b hb hne => (j8.block b (Nat.lt_of_lt_of_le hb hsn.size) fun ⟨c0, hc0⟩ => ?_).trans (hsn.block b hb hne)⟩
    obtain ⟨d, _, hd⟩ := passed hc0
    rcases ha2.in_ d b hd with h | h
    · omega
    · exact hne h
end
end Go.Proofs.YtmeeeigfjlbnkaaGreat
namespace Go.Proofs.YtmeeeigfjlbnkaaGreat
open Go.RowKit
def Sharp {A : Type} (x : Ask A) : Prop := ∀ K, x.runP K → ∃ a, x.runP (fun y => y = a) ∧ K a ∧ ∀ K' : A → Prop, K' a → x.runP K'
section
variable {A B α : Type}
theorem Sharp.ret (a : A) : Sharp (Ask.ret a) := fun _ h => ⟨a, rfl, h, fun _ h => h⟩
theorem Sharp.bad : Sharp (Ask.bad : Ask A) := fun _ h => h.elim
theorem Sharp.ask {o : Option α} {k : α → Ask A} (h : ∀ a, Sharp (k a)) : Sharp (Ask.ask o k) := by
  rintro K ⟨a, h1, h2⟩
  obtain ⟨x, h3, h4, h5⟩ := h a K h2
  exact ⟨x, ⟨a, h1, h3⟩, h4, fun K' hk => ⟨a, h1, h5 K' hk⟩⟩
theorem Sharp.prf {p : Prop} {d : Decidable p} {k : Ask A} (h : Sharp k) : Sharp (Ask.prf p d k) := by
  rintro K ⟨h1, h2⟩
  obtain ⟨x, h3, h4, h5⟩ := h K h2
  exact ⟨x, ⟨h1, h3⟩, h4, fun K' hk => ⟨h1, h5 K' hk⟩⟩
theorem Sharp.br {t : Bool} {x y : Ask A} (hx : Sharp x) (hy : Sharp y) : Sharp (Ask.br t x y) := by
  rintro K ⟨h1, h2⟩
  cases t with
  | true =>
    obtain ⟨a, h3, h4, h5⟩ := hx K (h1 rfl)
    exact ⟨a, ⟨fun _ => h3, fun h => nomatch h⟩, h4, fun K' hk => ⟨fun _ => h5 K' hk, fun h => nomatch h⟩⟩
  | false =>
    obtain ⟨a, h3, h4, h5⟩ := hy K (h2 rfl)
    exact ⟨a, ⟨fun h => (nomatch h), fun _ => h3⟩, h4, fun K' hk => ⟨fun h => (nomatch h), fun _ => h5 K' hk⟩⟩
theorem Sharp.bind {x : Ask A} {f : A → Ask B} (hx : Sharp x) (hf : ∀ a, Sharp (f a)) : Sharp (x.bind f) := by
  intro K h
  obtain ⟨a, h1, h2, h3⟩ := hx _ h
  obtain ⟨b, h4, h5, h6⟩ := hf a K h2
  exact ⟨b, h3 _ h4, h5, fun K' hk => h3 _ (h6 K' hk)⟩
theorem Sharp.val {a : α} {k : α → Ask A} (h : ∀ a, Sharp (k a)) : Sharp (val a k) := Sharp.ask h
theorem Sharp.cond {b : Bool} {x y : Ask A} (hx : Sharp x) (hy : Sharp y) : Sharp (bif b then x else y) := by cases b <;> assumption
theorem Sharp.rd {e : Nat → Option MV} {x : Operand} {k : MV → Ask A} (h : ∀ a, Sharp (k a)) : Sharp (rd e x k) := by
  show Sharp (match evM e x with | some m => k m | none => .bad)
  split
  · exact h _
  · exact Sharp.bad
theorem Sharp.rds {e : Nat → Option MV} : ∀ {xs : List Operand} {k : List MV → Ask A}, (∀ a, Sharp (k a)) → Sharp (rds e xs k)
  | [], _, h => h _
  | _ :: _, _, h => Sharp.rd fun _ => Sharp.rds fun _ => h _
theorem Sharp.rdo {e : Nat → Option MV} {x : Option Operand} {k : Option MV → Ask A} (h : ∀ a, Sharp (k a)) : Sharp (rdo e x k) := by
  cases x with
  | none => exact h _
  | some x => exact Sharp.rd fun _ => h _
end
section
variable (P : Program) (T : Tab) (E : Nat → Option MV) (M : FM) (cnt : Nat)
theorem sharp_pureA (m : MV) : Sharp (pureA m) := Sharp.ret _
theorem sharp_iBin (op : BinOp) (k : IntKind) (a b : Int) : Sharp (iBin op k a b) := by
  cases op <;> first | exact Sharp.ret _ | exact Sharp.val fun _ => Sharp.ret _ | exact Sharp.prf (d := inferInstance) (Sharp.val fun _ => Sharp.ret _)
theorem sharp_sBin (op : BinOp) (a b : List UInt8) : Sharp (sBin op a b) := by
  cases op <;> first | exact Sharp.bad | exact Sharp.ret _ | exact Sharp.prf (d := inferInstance) (Sharp.val fun _ => Sharp.ret _)
theorem sharp_bBin (op : BinOp) (a b : Bool) : Sharp (bBin op a b) := by
  cases op <;> first | exact Sharp.bad | exact Sharp.ret _
theorem sharp_oNil (b : Option Bool) (op : BinOp) : Sharp (oNil b op) := by
  cases b with
  | none => exact Sharp.bad
  | some b => cases op <;> first | exact Sharp.bad | exact Sharp.ret _
theorem sharp_oEq (op : BinOp) (t : TypeId) (x y : MV) : Sharp (oEq P T op t x y) := by
  unfold oEq
  split
  · exact Sharp.cond (Sharp.prf (Sharp.ask fun _ => sharp_oNil _ _)) Sharp.bad
  · exact Sharp.bad
theorem sharp_oBin (op : BinOp) (t : TypeId) (yo : Operand) (x y : MV) : Sharp (oBin P T op t yo x y) := by
  unfold oBin
  split
  · split
    · exact Sharp.cond (Sharp.bind (sharp_iBin _ _ _ _) sharp_pureA) Sharp.bad
    · exact Sharp.bad
  · split
    · exact Sharp.bind (sharp_sBin _ _ _) sharp_pureA
    · exact Sharp.bad
  · split
    · split
      · exact Sharp.bind (sharp_bBin _ _ _) sharp_pureA
      · exact Sharp.bad
    · exact Sharp.bad
  · split
    · exact sharp_oNil _ _
    · exact Sharp.bad
  · split
    · exact sharp_oNil _ _
    · exact Sharp.bad
  · split
    · exact sharp_oNil _ _
    · exact Sharp.bad
  · exact sharp_oEq P T op t _ _
mutual
theorem sharp_frz : ∀ (p : MV), Sharp (frz M p)
  | .ms c es off n => by
    simp only [frz]
    split
    · split
      · exact Sharp.prf (Sharp.val fun _ => Sharp.ret _)
      · exact Sharp.bad
    · exact Sharp.bad
  | .st l => by simp only [frz]; exact Sharp.bind (sharp_frzs l) fun _ => Sharp.ret _
  | .fn f l => by simp only [frz]; exact Sharp.bind (sharp_frzs l) fun _ => Sharp.ret _
  | .ifc t v => by simp only [frz]; exact Sharp.bind (sharp_frz v) fun _ => Sharp.ret _
  | .ptr c es k fo path => by
    simp only [frz]
    split
    · exact Sharp.cond (Sharp.ask fun _ => Sharp.cond (Sharp.ret _) Sharp.bad) Sharp.bad
    · exact Sharp.bad
  | .tup _ => Sharp.bad
  | .undef => Sharp.bad
  | .mp _ => Sharp.bad
  | .mpv .. => Sharp.bad
  | .int .. => Sharp.ret _
  | .bool .. => Sharp.ret _
  | .str .. => Sharp.ret _
  | .nilp => Sharp.ret _
  | .gp .. => Sharp.ret _
  | .ep .. => Sharp.ret _
  | .sl .. => Sharp.ret _
  | .nils => Sharp.ret _
  | .nilf => Sharp.ret _
  | .nili => Sharp.ret _
  | .arr .. => Sharp.ret _
theorem sharp_frzs : ∀ (l : List MV), Sharp (frzs M l)
  | [] => Sharp.ret _
  | m :: l => by simp only [frzs]; exact Sharp.bind (sharp_frz m) fun _ => Sharp.bind (sharp_frzs l) fun _ => Sharp.ret _
end
theorem sharp_oLoad (t : TypeId) (p : MV) : Sharp (oLoad T M t p) := by
  unfold oLoad
  split
  · exact Sharp.bad
  · split
    · split
      · exact Sharp.cond (Sharp.ask fun _ => Sharp.ask fun _ => Sharp.cond (Sharp.ret _) Sharp.bad) Sharp.bad
      · exact Sharp.bad
    · exact Sharp.ask fun _ => Sharp.cond (Sharp.ret _) Sharp.bad
    · exact Sharp.bad
theorem sharp_oStore (t : TypeId) (p v : MV) : Sharp (oStore T M t p v) := by
  unfold oStore
  split
  · exact Sharp.bad
  · split
    · split
      · exact Sharp.cond (Sharp.prf (Sharp.ask fun _ => Sharp.ask fun _ => Sharp.val fun _ => Sharp.ret _)) Sharp.bad
      · exact Sharp.bad
    · exact Sharp.bad
theorem sharp_oFieldAddr (t : TypeId) (p : MV) (f : Nat) : Sharp (oFieldAddr T t p f) := by
  unfold oFieldAddr
  repeat' split
  all_goals first | exact Sharp.bad | exact Sharp.ret _
theorem sharp_oIndexAddr (t : TypeId) (p j : MV) : Sharp (oIndexAddr T t p j) := by
  unfold oIndexAddr
  repeat' split
  all_goals first | exact Sharp.bad | exact Sharp.ask fun _ => Sharp.cond (Sharp.ret _) Sharp.bad | exact Sharp.cond (Sharp.ask fun _ => Sharp.ret _) Sharp.bad | exact Sharp.ask fun _ => Sharp.ret _
theorem sharp_oIndex (t : TypeId) (p j : MV) : Sharp (oIndex T t p j) := by
  unfold oIndex
  repeat' split
  all_goals first | exact Sharp.bad | exact Sharp.ask fun _ => Sharp.ret _ | exact Sharp.cond (Sharp.ask fun _ => Sharp.cond (Sharp.ret _) Sharp.bad) Sharp.bad
theorem sharp_oField (t : TypeId) (p : MV) (f : Nat) : Sharp (oField T t p f) := by
  unfold oField
  repeat' split
  all_goals first | exact Sharp.bad | exact Sharp.cond (Sharp.ret _) Sharp.bad
theorem sharp_oSlice (t : TypeId) (x : MV) (lo hi : Option MV) : Sharp (oSlice T t x lo hi) := by
  unfold oSlice
  repeat' split
  all_goals first | exact Sharp.bad | exact Sharp.ask fun _ => Sharp.val fun _ => Sharp.ret _ | exact Sharp.ask fun _ => Sharp.prf (Sharp.val fun _ => Sharp.val fun _ => Sharp.ret _) | exact Sharp.cond (Sharp.ask fun _ => Sharp.val fun _ => Sharp.ret _) Sharp.bad | exact Sharp.ask fun _ => Sharp.ret _
theorem sharp_oSliceA (t : TypeId) (x : MV) (lo hi : Option MV) : Sharp (oSliceA T M t x lo hi) := by
  unfold oSliceA
  split
  · split
    · split
      · exact Sharp.cond (Sharp.ask fun _ => Sharp.val fun _ => Sharp.val fun _ => Sharp.ret _) Sharp.bad
      · exact Sharp.bad
    · exact Sharp.bad
  · exact sharp_oSlice T _ _ _ _
theorem sharp_oBuild (t : TypeId) (ps : List (Nat × MV)) : Sharp (oBuild T t ps) := by
  unfold oBuild
  split
  · refine Sharp.cond ?_ Sharp.bad
    split
    · exact Sharp.ret _
    · exact Sharp.bad
  · refine Sharp.cond ?_ Sharp.bad
    split
    · exact Sharp.ret _
    · exact Sharp.bad
  · exact Sharp.bad
theorem sharp_oBuildSlice (t : TypeId) (n : Nat) (ps : List (Nat × MV)) : Sharp (oBuildSlice T cnt t n ps) := by
  unfold oBuildSlice
  split
  · split
    · split
      · exact Sharp.ret _
      · exact Sharp.bad
    · split
      · refine Sharp.cond ?_ Sharp.bad
        split
        · exact Sharp.ret _
        · exact Sharp.bad
      · exact Sharp.bad
  · exact Sharp.bad
theorem sharp_oBuildRow (t : TypeId) (c es off k : Nat) : Sharp (oBuildRow T M cnt t c es off k) := by
  unfold oBuildRow
  repeat' split
  all_goals first | exact Sharp.bad | exact Sharp.cond (Sharp.prf (Sharp.val fun _ => Sharp.ret _)) Sharp.bad
theorem sharp_oUn (op : UnOp) (x : MV) : Sharp (oUn op x) := by
  unfold oUn
  repeat' split
  all_goals first | exact Sharp.bad | exact Sharp.ret _ | exact Sharp.val fun _ => Sharp.ret _
theorem sharp_oConv (s d : TypeId) (x : MV) : Sharp (oConv T M s d x) := by
  unfold oConv
  repeat' split
  all_goals first | exact Sharp.bad | exact Sharp.ret _ | exact Sharp.val fun _ => Sharp.ret _ | exact Sharp.ask fun _ => Sharp.ret _ | exact Sharp.cond (Sharp.prf (Sharp.ask fun _ => Sharp.ret _)) Sharp.bad | exact Sharp.prf (Sharp.val fun _ => Sharp.val fun _ => Sharp.ret _)
theorem sharp_oMakeSlice (t : TypeId) (x y : MV) : Sharp (oMakeSlice P T cnt t x y) := by
  unfold oMakeSlice
  repeat' split
  all_goals first | exact Sharp.bad | exact Sharp.cond (Sharp.prf (Sharp.ask fun _ => Sharp.ask fun _ => Sharp.prf (Sharp.ret _))) Sharp.bad
theorem sharp_srcM (es : Nat) (y : MV) (k : Bool → Nat → List MV → Ask (MV × Dl)) (h : ∀ fl n l, Sharp (k fl n l)) : Sharp (srcM M es y k) := by
  unfold srcM
  split
  · exact Sharp.prf (h _ _ _)
  · exact h _ _ _
  · split
    · exact Sharp.cond (Sharp.prf (Sharp.val fun _ => h _ _ _)) Sharp.bad
    · exact Sharp.bad
  · exact Sharp.bad
theorem sharp_oAppend (ats : List TypeId) (x y : MV) : Sharp (oAppend P T M cnt ats x y) := by
  unfold oAppend
  split
  · refine Sharp.cond ?_ Sharp.bad
    split
    · split
      · refine Sharp.cond (Sharp.ask fun _ => sharp_srcM M _ _ _ fun fl n l => ?_) Sharp.bad
        split
        · exact Sharp.prf (Sharp.cond (Sharp.ret _) Sharp.bad)
        · split
          · exact Sharp.cond (Sharp.prf (Sharp.val fun _ => Sharp.val fun _ => Sharp.ret _)) Sharp.bad
          · exact Sharp.bad
        · exact Sharp.bad
      · exact Sharp.bad
    · exact Sharp.bad
  · exact Sharp.bad
theorem sharp_oClear (t : Option TypeId) (x : MV) : Sharp (oClear T M t x) := by
  unfold oClear
  split
  · split
    · exact Sharp.cond (Sharp.prf (Sharp.val fun _ => Sharp.ret _)) Sharp.bad
    · exact Sharp.bad
  · exact Sharp.bad
theorem sharp_oBuiltin (b : Builtin) (ats : Array TypeId) (vs : List MV) : Sharp (oBuiltin P T M cnt b ats vs) := by
  unfold oBuiltin
  split
  · split
    · unfold oLen
      repeat' split
      all_goals first | exact Sharp.bad | exact Sharp.ret _ | exact Sharp.val fun _ => Sharp.ret _
    · exact Sharp.bad
  · split
    · exact sharp_oAppend P T M cnt _ _ _
    · exact Sharp.bad
  · split
    · exact sharp_oClear T M _ _
    · exact Sharp.bad
  · split
    · exact Sharp.val fun _ => Sharp.ret _
    · exact Sharp.bad
  · split
    · exact Sharp.val fun _ => Sharp.ret _
    · exact Sharp.bad
  · exact Sharp.bad
theorem sharp_oMapUpd (t : TypeId) (m k x : MV) : Sharp (oMapUpd P M t m k x) := by
  unfold oMapUpd
  split
  · split
    · split
      · refine Sharp.cond (Sharp.prf (Sharp.ask fun _ => Sharp.ask fun r => ?_)) Sharp.bad
        cases r <;> exact Sharp.val fun _ => Sharp.ret _
      · exact Sharp.bad
    · exact Sharp.bad
  · exact Sharp.bad
theorem sharp_oLookup (t : TypeId) (m k : MV) (ok : Bool) : Sharp (oLookup P T M t m k ok) := by
  unfold oLookup
  split
  · split
    · split
      · refine Sharp.prf (Sharp.ask fun _ => Sharp.ask fun r => ?_)
        cases r
        · exact Sharp.ask fun _ => Sharp.ret _
        · exact Sharp.ask fun _ => Sharp.cond (Sharp.ret _) Sharp.bad
      · exact Sharp.bad
    · exact Sharp.bad
  · exact Sharp.bad
theorem sharp_oRange (t : TypeId) (v : MV) : Sharp (oRange T cnt t v) := by
  unfold oRange
  split
  · exact Sharp.ret _
  · exact Sharp.bad
theorem sharp_oNext (v : MV) (b : Bool) : Sharp (oNext M v b) := by
  unfold oNext
  split
  · split
    · split
      · refine Sharp.ask fun _ => Sharp.val fun r => ?_
        rcases r with _ | ⟨_, _⟩ <;> exact Sharp.ret _
      · exact Sharp.bad
    · exact Sharp.bad
  · exact Sharp.bad
theorem sharp_oAssert (t : TypeId) (ok : Bool) (v : MV) : Sharp (oAssert P T t ok v) := by
  unfold oAssert
  split
  · exact Sharp.bad
  · exact Sharp.bad
  · split
    · exact Sharp.cond (Sharp.ret _) Sharp.bad
    · exact Sharp.cond (Sharp.ask fun _ => Sharp.ret _) Sharp.bad
  · exact Sharp.bad
theorem sharp_eOp (o : Oper) : Sharp (eOp P T E M cnt o) := by
  obtain ⟨dst, op, ty, pos, after, guard⟩ := o
  cases op with
  | move x => exact Sharp.rd sharp_pureA
  | assign x => exact Sharp.rd sharp_pureA
  | pick c a b =>
    refine Sharp.rd fun c => Sharp.rd fun a => Sharp.rd fun b => ?_
    unfold oPick
    split
    · exact Sharp.br (Sharp.ret _) (Sharp.ret _)
    · exact Sharp.bad
  | alloc t =>
    show Sharp (oAlloc T cnt t)
    unfold oAlloc
    split
    · exact Sharp.cond (Sharp.ret _) Sharp.bad
    · exact Sharp.bad
  | box t x =>
    refine Sharp.rd fun v => ?_
    unfold oBox
    split
    · exact Sharp.cond (Sharp.ret _) Sharp.bad
    · exact Sharp.bad
  | build t parts => exact Sharp.rds fun _ => sharp_oBuild T _ _
  | buildSlice t n parts =>
    refine Sharp.rds fun _ => ?_
    split
    · exact sharp_oBuildRow T M cnt _ _ _ _ _
    · exact sharp_oBuildSlice T cnt _ _ _
  | load t x => exact Sharp.rd fun _ => sharp_oLoad T M _ _
  | store t x y => exact Sharp.rd fun _ => Sharp.rd fun _ => sharp_oStore T M _ _ _
  | nilCheck x =>
    refine Sharp.rd fun v => ?_
    unfold oNilCheck
    split <;> first | exact Sharp.ret _ | exact Sharp.bad
  | binOp op t x y ty' => exact Sharp.rd fun _ => Sharp.rd fun _ => sharp_oBin P T _ _ _ _ _
  | unOp op t x => exact Sharp.rd fun _ => sharp_oUn _ _
  | convert s d x => exact Sharp.rd fun _ => sharp_oConv T M _ _ _
  | makeInterface t x =>
    refine Sharp.rd fun v => ?_
    unfold oIface
    split <;> first | exact Sharp.bad | exact Sharp.cond (Sharp.ret _) Sharp.bad
  | makeFunc fn first captured =>
    refine Sharp.rds fun v => ?_
    unfold oMkFunc
    split <;> first | exact Sharp.bad | exact Sharp.cond (Sharp.ret _) Sharp.bad
  | makeSlice t l c => exact Sharp.rd fun _ => Sharp.rd fun _ => sharp_oMakeSlice P T cnt _ _ _
  | slice t x lo hi mx =>
    cases mx with
    | none => exact Sharp.rd fun _ => Sharp.rdo fun _ => Sharp.rdo fun _ => sharp_oSliceA T M _ _ _ _
    | some _ => exact Sharp.bad
  | fieldAddr t x f => exact Sharp.rd fun _ => sharp_oFieldAddr T _ _ _
  | field t x f => exact Sharp.rd fun _ => sharp_oField T _ _ _
  | indexAddr t x ix => exact Sharp.rd fun _ => Sharp.rd fun _ => sharp_oIndexAddr T _ _ _
  | index t x ix => exact Sharp.rd fun _ => Sharp.rd fun _ => sharp_oIndex T _ _ _
  | extract x i =>
    refine Sharp.rd fun v => ?_
    unfold oExtract
    repeat' split
    all_goals first | exact Sharp.bad | exact Sharp.ret _
  | makeMap t r =>
    cases r with
    | none => exact Sharp.ret _
    | some _ => exact Sharp.bad
  | mapUpdate t p k x => exact Sharp.rd fun _ => Sharp.rd fun _ => Sharp.rd fun _ => sharp_oMapUpd P M _ _ _ _
  | lookup t p k ok => exact Sharp.rd fun _ => Sharp.rd fun _ => sharp_oLookup P T M _ _ _ _
  | typeAssert x xT t ok => exact Sharp.rd fun _ => sharp_oAssert P T _ _ _
  | range t x => exact Sharp.rd fun _ => sharp_oRange T cnt _ _
  | next x b => exact Sharp.rd fun _ => sharp_oNext M _ _
  | call c =>
    obtain ⟨callee, args, ats⟩ := c
    cases callee with
    | builtin b => exact Sharp.rds fun _ => sharp_oBuiltin P T M cnt _ _ _
    | _ => exact Sharp.bad
  | _ => exact Sharp.bad
theorem sharp_vCall (E : VE) (M : VM) (f : Operand) (args : List Operand) : Sharp (vCall E M f args) := by
  refine Sharp.rd fun fv => Sharp.rds fun vs => ?_
  split
  · exact Sharp.bind (sharp_frzs _ _) fun _ => Sharp.ret _
  · exact Sharp.bad
end
end Go.Proofs.YtmeeeigfjlbnkaaGreat
namespace Go.Proofs.YtmeeeigfjlbnkaaGreat
open Go.RowKit
def Out (D : Dl → Prop) (x : Ask (MV × Dl)) : Prop := ∀ K, x.runP K → ∃ r δ, D δ ∧ K (r, δ)
section
variable {α : Type} {D : Dl → Prop}
theorem Out.ret {r : MV} {δ : Dl} (h : D δ) : Out D (Ask.ret (r, δ)) := fun _ hk => ⟨r, δ, h, hk⟩
theorem Out.bad : Out D Ask.bad := fun _ h => h.elim
theorem Out.ask {o : Option α} {k : α → Ask (MV × Dl)} (h : ∀ a, Out D (k a)) : Out D (Ask.ask o k) := by
  rintro K ⟨a, _, h2⟩; exact h a K h2
theorem Out.prf {p : Prop} {d : Decidable p} {k : Ask (MV × Dl)} (h : Out D k) : Out D (Ask.prf p d k) := by
  rintro K ⟨_, h2⟩; exact h K h2
theorem Out.br {t : Bool} {x y : Ask (MV × Dl)} (hx : Out D x) (hy : Out D y) : Out D (Ask.br t x y) := by
  rintro K ⟨h1, h2⟩
  cases t with
  | true => exact hx K (h1 rfl)
  | false => exact hy K (h2 rfl)
theorem Out.bind {x : Ask MV} {f : MV → Ask (MV × Dl)} (hs : Sharp x) (hf : ∀ a, Out D (f a)) : Out D (x.bind f) := by
  intro K h
  obtain ⟨a, _, h2, _⟩ := hs _ h
  exact hf a K h2
theorem Out.val {a : α} {k : α → Ask (MV × Dl)} (h : ∀ a, Out D (k a)) : Out D (val a k) := Out.ask h
theorem Out.cond {b : Bool} {x y : Ask (MV × Dl)} (hx : Out D x) (hy : Out D y) : Out D (bif b then x else y) := by cases b <;> assumption
theorem Out.rd {e : Nat → Option MV} {x : Operand} {k : MV → Ask (MV × Dl)} (h : ∀ a, Out D (k a)) : Out D (rd e x k) := by
  show Out D (match evM e x with | some m => k m | none => .bad)
  split
  · exact h _
  · exact Out.bad
theorem Out.rds {e : Nat → Option MV} : ∀ {xs : List Operand} {k : List MV → Ask (MV × Dl)}, (∀ a, Out D (k a)) → Out D (rds e xs k)
  | [], _, h => h _
  | _ :: _, _, h => Out.rd fun _ => Out.rds fun _ => h _
theorem Out.rdo {e : Nat → Option MV} {x : Option Operand} {k : Option MV → Ask (MV × Dl)} (h : ∀ a, Out D (k a)) : Out D (rdo e x k) := by
  cases x with
  | none => exact h _
  | some x => exact Out.rd fun _ => h _
end
abbrev DN : Dl → Prop := fun δ => δ = .none
abbrev DA : Dl → Prop := fun δ => ∃ b, δ = .new b
abbrev DW (m : FM) : Dl → Prop := fun δ => (∃ b, δ = .new b) ∨ (∃ c l, δ = .upd c l ∧ m c ≠ none) ∨ (∃ c b, δ = .mv c b ∧ m c ≠ none)
section
variable (P : Program) (T : Tab) (E : Nat → Option MV) (M : FM) (cnt : Nat)
theorem out_pureA (m : MV) : Out DN (pureA m) := Out.ret rfl
theorem out_oNil (b : Option Bool) (op : BinOp) : Out DN (oNil b op) := by
  cases b with
  | none => exact Out.bad
  | some b => cases op <;> first | exact Out.bad | exact Out.ret rfl
theorem out_oEq (op : BinOp) (t : TypeId) (x y : MV) : Out DN (oEq P T op t x y) := by
  unfold oEq
  split
  · exact Out.cond (Out.prf (Out.ask fun _ => out_oNil _ _)) Out.bad
  · exact Out.bad
theorem out_oBin (op : BinOp) (t : TypeId) (yo : Operand) (x y : MV) : Out DN (oBin P T op t yo x y) := by
  unfold oBin
  split
  · split
    · exact Out.cond (Out.bind (sharp_iBin _ _ _ _) out_pureA) Out.bad
    · exact Out.bad
  · split
    · exact Out.bind (sharp_sBin _ _ _) out_pureA
    · exact Out.bad
  · split
    · split
      · exact Out.bind (sharp_bBin _ _ _) out_pureA
      · exact Out.bad
    · exact Out.bad
  · split
    · exact out_oNil _ _
    · exact Out.bad
  · split
    · exact out_oNil _ _
    · exact Out.bad
  · split
    · exact out_oNil _ _
    · exact Out.bad
  · exact out_oEq P T op t _ _
theorem out_oLoad (t : TypeId) (p : MV) : Out DN (oLoad T M t p) := by
  unfold oLoad
  split
  · exact Out.bad
  · split
    · split
      · exact Out.cond (Out.ask fun _ => Out.ask fun _ => Out.cond (Out.ret rfl) Out.bad) Out.bad
      · exact Out.bad
    · exact Out.ask fun _ => Out.cond (Out.ret rfl) Out.bad
    · exact Out.bad
theorem out_oFieldAddr (t : TypeId) (p : MV) (f : Nat) : Out DN (oFieldAddr T t p f) := by
  unfold oFieldAddr
  repeat' split
  all_goals first | exact Out.bad | exact Out.ret rfl
theorem out_oIndexAddr (t : TypeId) (p j : MV) : Out DN (oIndexAddr T t p j) := by
  unfold oIndexAddr
  repeat' split
  all_goals first | exact Out.bad | exact Out.ask fun _ => Out.cond (Out.ret rfl) Out.bad | exact Out.cond (Out.ask fun _ => Out.ret rfl) Out.bad | exact Out.ask fun _ => Out.ret rfl
theorem out_oIndex (t : TypeId) (p j : MV) : Out DN (oIndex T t p j) := by
  unfold oIndex
  repeat' split
  all_goals first | exact Out.bad | exact Out.ask fun _ => Out.ret rfl | exact Out.cond (Out.ask fun _ => Out.cond (Out.ret rfl) Out.bad) Out.bad
theorem out_oField (t : TypeId) (p : MV) (f : Nat) : Out DN (oField T t p f) := by
  unfold oField
  repeat' split
  all_goals first | exact Out.bad | exact Out.cond (Out.ret rfl) Out.bad
theorem out_oSlice (t : TypeId) (x : MV) (lo hi : Option MV) : Out DN (oSlice T t x lo hi) := by
  unfold oSlice
  repeat' split
  all_goals first | exact Out.bad | exact Out.ask fun _ => Out.val fun _ => Out.ret rfl | exact Out.ask fun _ => Out.prf (Out.val fun _ => Out.val fun _ => Out.ret rfl) | exact Out.cond (Out.ask fun _ => Out.val fun _ => Out.ret rfl) Out.bad | exact Out.ask fun _ => Out.ret rfl
abbrev DR (m : FM) : Dl → Prop := fun δ => δ = .none ∨ ∃ l, δ = .bump l ∧ ∀ c ∈ l, m c.1 ≠ none
theorem Out.weak {D D' : Dl → Prop} {x : Ask (MV × Dl)} (h : Out D x) (hd : ∀ δ, D δ → D' δ) : Out D' x := fun K hk => by
  obtain ⟨r, δ, h1, h2⟩ := h K hk
  exact ⟨r, δ, hd δ h1, h2⟩
theorem out_oSliceA (t : TypeId) (x : MV) (lo hi : Option MV) : Out (DR M) (oSliceA T M t x lo hi) := by
  unfold oSliceA
  split
  · split
    · rename_i b hb
      split
      · exact Out.cond (Out.ask fun _ => Out.val fun _ => Out.val fun _ => Out.ret (.inr ⟨_, rfl, fun c hc => by simp at hc; subst hc; rw [hb]; simp⟩)) Out.bad
      · exact Out.bad
    · exact Out.bad
  · exact (out_oSlice T _ _ _ _).weak fun _ h => .inl h
theorem out_oBuild (t : TypeId) (ps : List (Nat × MV)) : Out DN (oBuild T t ps) := by
  unfold oBuild
  split
  · refine Out.cond ?_ Out.bad
    split
    · exact Out.ret rfl
    · exact Out.bad
  · refine Out.cond ?_ Out.bad
    split
    · exact Out.ret rfl
    · exact Out.bad
  · exact Out.bad
theorem out_oUn (op : UnOp) (x : MV) : Out DN (oUn op x) := by
  unfold oUn
  repeat' split
  all_goals first | exact Out.bad | exact Out.ret rfl | exact Out.val fun _ => Out.ret rfl
theorem out_oConv (s d : TypeId) (x : MV) : Out DN (oConv T M s d x) := by
  unfold oConv
  repeat' split
  all_goals first | exact Out.bad | exact Out.ret rfl | exact Out.val fun _ => Out.ret rfl | exact Out.ask fun _ => Out.ret rfl | exact Out.cond (Out.prf (Out.ask fun _ => Out.ret rfl)) Out.bad | exact Out.prf (Out.val fun _ => Out.val fun _ => Out.ret rfl)
theorem out_oBuildSlice (t : TypeId) (n : Nat) (ps : List (Nat × MV)) : Out DA (oBuildSlice T cnt t n ps) := by
  unfold oBuildSlice
  split
  · split
    · split
      · exact Out.ret ⟨_, rfl⟩
      · exact Out.bad
    · split
      · refine Out.cond ?_ Out.bad
        split
        · exact Out.ret ⟨_, rfl⟩
        · exact Out.bad
      · exact Out.bad
  · exact Out.bad
theorem out_oBuildRow (t : TypeId) (c es off k : Nat) : Out (DW M) (oBuildRow T M cnt t c es off k) := by
  unfold oBuildRow
  split
  · split
    · split
      · rename_i b hb
        exact Out.cond (Out.prf (Out.val fun _ => Out.ret (.inr (.inr ⟨_, _, rfl, by rw [hb]; simp⟩)))) Out.bad
      · exact Out.bad
    · exact Out.bad
  · exact Out.bad
theorem out_oMakeSlice (t : TypeId) (x y : MV) : Out DA (oMakeSlice P T cnt t x y) := by
  unfold oMakeSlice
  repeat' split
  all_goals first | exact Out.bad | exact Out.cond (Out.prf (Out.ask fun _ => Out.ask fun _ => Out.prf (Out.ret ⟨_, rfl⟩))) Out.bad
theorem out_oStore (t : TypeId) (p v : MV) : Out (DW M) (oStore T M t p v) := by
  unfold oStore
  split
  · exact Out.bad
  · split
    · split
      · rename_i b hb
        exact Out.cond (Out.prf (Out.ask fun _ => Out.ask fun _ => Out.val fun _ => Out.ret (.inr (.inl ⟨_, _, rfl, by rw [hb]; simp⟩)))) Out.bad
      · exact Out.bad
    · exact Out.bad
theorem out_oMapUpd (t : TypeId) (m k x : MV) : Out (DW M) (oMapUpd P M t m k x) := by
  unfold oMapUpd
  split
  · split
    · rename_i b hb
      split
      · refine Out.cond (Out.prf (Out.ask fun _ => Out.ask fun r => ?_)) Out.bad
        cases r <;> exact Out.val fun _ => Out.ret (.inr (.inl ⟨_, _, rfl, by rw [hb]; simp⟩))
      · exact Out.bad
    · exact Out.bad
  · exact Out.bad
theorem out_oLookup (t : TypeId) (m k : MV) (ok : Bool) : Out DN (oLookup P T M t m k ok) := by
  unfold oLookup
  split
  · split
    · split
      · refine Out.prf (Out.ask fun _ => Out.ask fun r => ?_)
        cases r
        · exact Out.ask fun _ => Out.ret rfl
        · exact Out.ask fun _ => Out.cond (Out.ret rfl) Out.bad
      · exact Out.bad
    · exact Out.bad
  · exact Out.bad
theorem out_oRange (t : TypeId) (v : MV) : Out DA (oRange T cnt t v) := by
  unfold oRange
  split
  · exact Out.ret ⟨_, rfl⟩
  · exact Out.bad
theorem out_oNext (v : MV) (b : Bool) : Out (DW M) (oNext M v b) := by
  unfold oNext
  split
  · split
    · rename_i bb hb
      split
      · refine Out.ask fun _ => Out.val fun r => ?_
        rcases r with _ | ⟨_, _⟩
        · exact Out.ret (.inr (.inl ⟨_, _, rfl, by rw [hb]; simp⟩))
        · exact Out.ret (.inr (.inl ⟨_, _, rfl, by rw [hb]; simp⟩))
      · exact Out.bad
    · exact Out.bad
  · exact Out.bad
theorem out_oAssert (t : TypeId) (ok : Bool) (v : MV) : Out DN (oAssert P T t ok v) := by
  unfold oAssert
  split
  · exact Out.bad
  · exact Out.bad
  · split
    · exact Out.cond (Out.ret rfl) Out.bad
    · exact Out.cond (Out.ask fun _ => Out.ret rfl) Out.bad
  · exact Out.bad
theorem out_srcM (D : Dl → Prop) (es : Nat) (y : MV) (k : Bool → Nat → List MV → Ask (MV × Dl)) (h : ∀ fl n l, Out D (k fl n l)) : Out D (srcM M es y k) := by
  unfold srcM
  split
  · exact Out.prf (h _ _ _)
  · exact h _ _ _
  · split
    · exact Out.cond (Out.prf (Out.val fun _ => h _ _ _)) Out.bad
    · exact Out.bad
  · exact Out.bad
theorem out_oAppend (ats : List TypeId) (x y : MV) : Out (DW M) (oAppend P T M cnt ats x y) := by
  unfold oAppend
  split
  · refine Out.cond ?_ Out.bad
    split
    · split
      · refine Out.cond (Out.ask fun _ => out_srcM M _ _ _ _ fun fl n l => ?_) Out.bad
        split
        · exact Out.prf (Out.cond (Out.ret (.inl ⟨_, rfl⟩)) Out.bad)
        · split
          · rename_i b hb
            exact Out.cond (Out.prf (Out.val fun _ => Out.val fun _ => Out.ret (.inr (.inr ⟨_, _, rfl, by rw [hb]; simp⟩)))) Out.bad
          · exact Out.bad
        · exact Out.bad
      · exact Out.bad
    · exact Out.bad
  · exact Out.bad
def DK (m : FM) : Nat → Dl → Prop
  | 0 => DN
  | 1 => DA
  | 2 => DR m
  | _ => DW m
theorem out_oClear (t : Option TypeId) (x : MV) : Out (DW M) (oClear T M t x) := by
  unfold oClear
  split
  · split
    · rename_i b z hb hz
      exact Out.cond (Out.prf (Out.val fun _ => Out.ret (.inr (.inl ⟨_, _, rfl, by rw [hb]; simp⟩)))) Out.bad
    · exact Out.bad
  · exact Out.bad
theorem out_eOp (o : Oper) : Out (DK M (kls o)) (eOp P T E M cnt o) := by
  obtain ⟨dst, op, ty, pos, after, guard⟩ := o
  cases op with
  | move x => exact Out.rd out_pureA
  | assign x => exact Out.rd out_pureA
  | pick c a b =>
    refine Out.rd fun c => Out.rd fun a => Out.rd fun b => ?_
    unfold oPick
    split
    · exact Out.br (Out.ret rfl) (Out.ret rfl)
    · exact Out.bad
  | alloc t =>
    show Out DA (oAlloc T cnt t)
    unfold oAlloc
    split
    · exact Out.cond (Out.ret ⟨_, rfl⟩) Out.bad
    · exact Out.bad
  | box t x =>
    refine Out.rd fun v => ?_
    unfold oBox
    split
    · exact Out.cond (Out.ret ⟨_, rfl⟩) Out.bad
    · exact Out.bad
  | build t parts => exact Out.rds fun _ => out_oBuild T _ _
  | buildSlice t n parts =>
    match n with
    | 0 => exact Out.rds fun _ => out_oBuildSlice T cnt _ _ _
    | 1 =>
      refine Out.rds fun _ => ?_
      split
      · exact out_oBuildRow T M cnt _ _ _ _ _
      · exact (out_oBuildSlice T cnt _ _ _).weak fun δ hδ => .inl hδ
    | _ + 2 => exact Out.rds fun _ => out_oBuildSlice T cnt _ _ _
  | load t x => exact Out.rd fun _ => (out_oLoad T M _ _).weak fun _ h => .inl h
  | store t x y => exact Out.rd fun _ => Out.rd fun _ => out_oStore T M _ _ _
  | nilCheck x =>
    refine Out.rd fun v => ?_
    unfold oNilCheck
    split <;> first | exact Out.ret rfl | exact Out.bad
  | binOp op t x y ty' => exact Out.rd fun _ => Out.rd fun _ => out_oBin P T _ _ _ _ _
  | unOp op t x => exact Out.rd fun _ => out_oUn _ _
  | convert s d x => exact Out.rd fun _ => (out_oConv T M _ _ _).weak fun _ h => .inl h
  | makeInterface t x =>
    refine Out.rd fun v => ?_
    unfold oIface
    split <;> first | exact Out.bad | exact Out.cond (Out.ret rfl) Out.bad
  | makeFunc fn first captured =>
    refine Out.rds fun v => ?_
    unfold oMkFunc
    split <;> first | exact Out.bad | exact Out.cond (Out.ret rfl) Out.bad
  | makeSlice t l c => exact Out.rd fun _ => Out.rd fun _ => out_oMakeSlice P T cnt _ _ _
  | slice t x lo hi mx =>
    cases mx with
    | none => exact Out.rd fun _ => Out.rdo fun _ => Out.rdo fun _ => out_oSliceA T M _ _ _ _
    | some _ => exact Out.bad
  | fieldAddr t x f => exact Out.rd fun _ => out_oFieldAddr T _ _ _
  | field t x f => exact Out.rd fun _ => out_oField T _ _ _
  | indexAddr t x ix => exact Out.rd fun _ => Out.rd fun _ => out_oIndexAddr T _ _ _
  | index t x ix => exact Out.rd fun _ => Out.rd fun _ => out_oIndex T _ _ _
  | extract x i =>
    refine Out.rd fun v => ?_
    unfold oExtract
    repeat' split
    all_goals first | exact Out.bad | exact Out.ret rfl
  | makeMap t r =>
    cases r with
    | none => exact Out.ret ⟨_, rfl⟩
    | some _ => exact Out.bad
  | mapUpdate t p k x => exact Out.rd fun _ => Out.rd fun _ => Out.rd fun _ => out_oMapUpd P M _ _ _ _
  | lookup t p k ok => exact Out.rd fun _ => Out.rd fun _ => (out_oLookup P T M _ _ _ _).weak fun _ h => .inl h
  | typeAssert x xT t ok => exact Out.rd fun _ => out_oAssert P T _ _ _
  | range t x => exact Out.rd fun _ => out_oRange T cnt _ _
  | next x b => exact Out.rd fun _ => out_oNext M _ _
  | call c =>
    obtain ⟨callee, args, ats⟩ := c
    cases callee with
    | builtin b =>
      refine Out.rds fun vs => ?_
      cases b <;> first
        | exact Out.bad
        | (show Out DN _
           simp only [oBuiltin]
           split
           · unfold oLen
             repeat' split
             all_goals first | exact Out.bad | exact Out.ret rfl | exact Out.val fun _ => Out.ret rfl
           · exact Out.bad)
        | (show Out (DW M) _
           simp only [oBuiltin]
           split
           · exact out_oAppend P T M cnt _ _ _
           · exact Out.bad)
        | (show Out (DW M) _
           simp only [oBuiltin]
           split
           · exact out_oClear T M _ _
           · exact Out.bad)
        | (show Out DN _
           simp only [oBuiltin]
           split
           · exact Out.val fun _ => Out.ret rfl
           · exact Out.bad)
    | _ => exact Out.bad
  | _ => exact Out.bad
end
end Go.Proofs.YtmeeeigfjlbnkaaGreat
namespace Go.Proofs.YtmeeeigfjlbnkaaGreat
open Go.RowKit
section
variable {P : Program} {T : Tab} {e e' : Nat → Option MV} {m m' : FM} {cnt : Nat} {A : Type}
def Ag (e e' : Nat → Option MV) (l : List Operand) : Prop := ∀ x ∈ l, evM e x = evM e' x
theorem rd_ag {x : Operand} {k : MV → Ask A} (h : evM e x = evM e' x) : rd e x k = rd e' x k := by unfold rd; rw [h]
theorem rds_ag : ∀ {l : List Operand} {k : List MV → Ask A}, Ag e e' l → rds e l k = rds e' l k
  | [], _, _ => rfl
  | x :: l, k, h => by
    show rd e x _ = rd e' x _
    rw [rd_ag (h x (by simp))]
    have : (fun m => rds e l fun r => k (m :: r)) = fun m => rds e' l fun r => k (m :: r) := funext fun m => rds_ag fun y hy => h y (by simp [hy])
    rw [this]
theorem rdo_ag {x : Option Operand} {k : Option MV → Ask A} (h : Ag e e' x.toList) : rdo e x k = rdo e' x k := by
  cases x with
  | none => rfl
  | some x => exact rd_ag (h x (by simp))
theorem evM_ag {x : Operand} (h : ∀ t, x = .tmp t → e t = e' t) : evM e x = evM e' x := by
  cases x with
  | tmp t => exact h t rfl
  | _ => rfl
theorem eOp_env {o : Oper} (h : Ag e e' o.op.operands.toList) : eOp P T e m cnt o = eOp P T e' m cnt o := by
  obtain ⟨dst, op, ty, pos, after, guard⟩ := o
  replace h : Ag e e' op.operands.toList := h
  cases op with
  | move x => exact rd_ag (h x (by simp [Op.operands]))
  | assign x => exact rd_ag (h x (by simp [Op.operands]))
  | pick c a b =>
    show rd e c _ = rd e' c _
    rw [rd_ag (h c (by simp [Op.operands]))]
    congr 1; funext c
    rw [rd_ag (h a (by simp [Op.operands]))]
    congr 1; funext a
    rw [rd_ag (h b (by simp [Op.operands]))]
  | alloc t => rfl
  | box t x => exact rd_ag (h x (by simp [Op.operands]))
  | build t parts => exact rds_ag fun x hx => h x (by simpa [Op.operands] using hx)
  | buildSlice t n parts => exact rds_ag fun x hx => h x (by simpa [Op.operands] using hx)
  | load t x => exact rd_ag (h x (by simp [Op.operands]))
  | store t x y =>
    show rd e x _ = rd e' x _
    rw [rd_ag (h x (by simp [Op.operands]))]
    congr 1; funext c
    rw [rd_ag (h y (by simp [Op.operands]))]
  | nilCheck x => exact rd_ag (h x (by simp [Op.operands]))
  | binOp op t x y ty' =>
    show rd e x _ = rd e' x _
    rw [rd_ag (h x (by simp [Op.operands]))]
    congr 1; funext c
    rw [rd_ag (h y (by simp [Op.operands]))]
  | unOp op t x => exact rd_ag (h x (by simp [Op.operands]))
  | convert s d x => exact rd_ag (h x (by simp [Op.operands]))
  | makeInterface t x => exact rd_ag (h x (by simp [Op.operands]))
  | makeFunc fn first captured => exact rds_ag fun x hx => h x (by simp [Op.operands]; exact .inr (by simpa using hx))
  | makeSlice t x y =>
    show rd e x _ = rd e' x _
    rw [rd_ag (h x (by simp [Op.operands]))]
    congr 1; funext c
    rw [rd_ag (h y (by simp [Op.operands]))]
  | slice t x lo hi mx =>
    cases mx with
    | none =>
      show rd e x _ = rd e' x _
      rw [rd_ag (h x (by simp [Op.operands]))]
      congr 1; funext c
      rw [rdo_ag fun y hy => h y (by simp [Op.operands]; simp at hy; simp [hy])]
      congr 1; funext c
      rw [rdo_ag fun y hy => h y (by simp [Op.operands]; simp at hy; simp [hy])]
    | some _ => rfl
  | fieldAddr t x f => exact rd_ag (h x (by simp [Op.operands]))
  | field t x f => exact rd_ag (h x (by simp [Op.operands]))
  | indexAddr t x y =>
    show rd e x _ = rd e' x _
    rw [rd_ag (h x (by simp [Op.operands]))]
    congr 1; funext c
    rw [rd_ag (h y (by simp [Op.operands]))]
  | index t x y =>
    show rd e x _ = rd e' x _
    rw [rd_ag (h x (by simp [Op.operands]))]
    congr 1; funext c
    rw [rd_ag (h y (by simp [Op.operands]))]
  | extract x i => exact rd_ag (h x (by simp [Op.operands]))
  | makeMap t r => rfl
  | mapUpdate t p k x =>
    show rd e p _ = rd e' p _
    rw [rd_ag (h p (by simp [Op.operands]))]
    congr 1; funext c
    rw [rd_ag (h k (by simp [Op.operands]))]
    congr 1; funext c
    rw [rd_ag (h x (by simp [Op.operands]))]
  | lookup t p k ok =>
    show rd e p _ = rd e' p _
    rw [rd_ag (h p (by simp [Op.operands]))]
    congr 1; funext c
    rw [rd_ag (h k (by simp [Op.operands]))]
  | typeAssert x xT t ok => exact rd_ag (h x (by simp [Op.operands]))
  | range t x => exact rd_ag (h x (by simp [Op.operands]))
  | next x b => exact rd_ag (h x (by simp [Op.operands]))
  | call c =>
    obtain ⟨callee, args, ats⟩ := c
    cases callee with
    | builtin b => exact rds_ag fun x hx => h x (by simp [Op.operands, Call.operands]; simpa using hx)
    | _ => rfl
  | _ => rfl
theorem eOp_nomem {o : Oper} (h : Nat.ble (kls o) 1 = true) : eOp P T e m cnt o = eOp P T e m' cnt o := by
  obtain ⟨dst, op, ty, pos, after, guard⟩ := o
  cases op with
  | call c =>
    obtain ⟨callee, args, ats⟩ := c
    cases callee with
    | builtin b => cases b <;> first | rfl | (cases h; done)
    | _ => rfl
  | load t x => cases h
  | store t x y => cases h
  | convert s d x => cases h
  | slice t x lo hi mx => cases h
  | mapUpdate t p k x => cases h
  | next x b => cases h
  | lookup t p k ok => cases h
  | buildSlice t n parts =>
    match n, h with
    | 0, _ => rfl
    | 1, h => cases h
    | _ + 2, _ => rfl
  | _ => rfl
theorem eOp_read {o : Oper} (h : kls o = 2) (hs : SameB m m') {K : MV × Dl → Prop} (hr : (eOp P T e m cnt o).runP K) : (eOp P T e m' cnt o).runP K := by
  have step : ∀ {x : Operand} {k k' : MV → Ask (MV × Dl)}, (∀ v, (k v).runP K → (k' v).runP K) → (rd e x k).runP K → (rd e x k').runP K := by
    intro x k k' hk h
    unfold rd at h ⊢
    split at h
    · exact hk _ h
    · exact h.elim
  obtain ⟨dst, op, ty, pos, after, guard⟩ := o
  cases op with
  | call c =>
    obtain ⟨callee, args, ats⟩ := c
    cases callee with
    | builtin b => cases b <;> cases h
    | _ => exact hr
  | load t x =>
    refine step (fun p hp => ?_) hr
    unfold oLoad at hp ⊢
    split at hp
    · exact hp.elim
    · split at hp
      · split at hp
        · rename_i b hb
          obtain ⟨b', h1, h2, h3, h4, h5⟩ := hs _ _ hb
          simp only [h1, h2, h4]
          exact hp
        · exact hp.elim
      · exact hp
      · exact hp.elim
  | slice t x lo hi mx =>
    have stepo : ∀ {x : Option Operand} {k k' : Option MV → Ask (MV × Dl)}, (∀ v, (k v).runP K → (k' v).runP K) → (rdo e x k).runP K → (rdo e x k').runP K := by
      intro x k k' hk h
      cases x with
      | none => exact hk _ h
      | some x => exact step (fun v hv => hk _ hv) h
    cases mx with
    | some _ => exact hr
    | none =>
    refine step (fun p hp => stepo (fun lo hp => stepo (fun hi hp => ?_) hp) hp) hr
    unfold oSliceA at hp ⊢
    split at hp
    · split at hp
      · rename_i b hb
        obtain ⟨b', h1, h2, h3, h4, h5⟩ := hs _ _ hb
        obtain ⟨ty', es', row', pe', l'⟩ := b'
        simp only at h2 h3 h4 h5
        subst h2
        simp only [h1]
        exact hp
      · exact hp.elim
    · exact hp
  | lookup t p k ok =>
    refine step (fun p hp => step (fun q hp => ?_) hp) hr
    unfold oLookup at hp ⊢
    split at hp
    · split at hp
      · rename_i b hb
        obtain ⟨b', h1, h2, h3, h4, h5⟩ := hs _ _ hb
        simp only [h1, h2]
        exact hp
      · exact hp.elim
    · exact hp.elim
  | convert s d x =>
    refine step (fun p hp => ?_) hr
    unfold oConv at hp ⊢
    split at hp
    · exact hp
    · exact hp
    · exact hp
    · split at hp
      · rename_i b ht hb
        obtain ⟨b', h1, h2, h3, h4, h5⟩ := hs _ _ hb
        obtain ⟨ty', es', row', pe', l'⟩ := b'
        simp only at h2 h3 h4 h5
        subst h2; subst h4
        simp only [ht, h1]
        exact hp
      · exact hp.elim
    · exact hp
    · exact hp.elim
  | buildSlice t n parts =>
    match n, h with
    | 0, h => cases h
    | 1, h => cases h
    | _ + 2, h => cases h
  | _ => cases h
mutual
theorem frz_same (hs : SameB m m') : ∀ {p : MV} {K : MV × List (Nat × Nat) → Prop}, (frz m p).runP K → (frz m' p).runP fun x => K x ∧ ∀ c ∈ x.2, m c.1 ≠ none
  | .ms c es off n, K, h => by
    simp only [frz] at h ⊢
    split at h
    · rename_i b hb
      obtain ⟨b', h1, h2, h3, h4, h5⟩ := hs _ _ hb
      obtain ⟨ty', es', row', pe', l'⟩ := b'
      simp only at h2 h3 h4 h5
      subst h2; subst h4; subst h3
      simp only [h1]
      split at h
      · obtain ⟨a1, l, a2, h⟩ := h
        exact ⟨a1, l, a2, h, fun c hc => by simp at hc; subst hc; rw [hb]; simp⟩
      · exact h.elim
    · exact h.elim
  | .st l, K, h => by simp only [frz] at h ⊢; exact frzs_weak (frzs_same hs (Ask.bind_runP.1 h)) fun _ h => h
  | .fn f l, K, h => by simp only [frz] at h ⊢; exact frzs_weak (frzs_same hs (Ask.bind_runP.1 h)) fun _ h => h
  | .ifc t v, K, h => by simp only [frz] at h ⊢; exact frz_weak (frz_same hs (Ask.bind_runP.1 h)) fun _ h => h
  | .ptr c es k fo path, K, h => by
    simp only [frz] at h ⊢
    split at h
    · rename_i b hb
      obtain ⟨b', h1, h2, h3, h4, h5⟩ := hs _ _ hb
      obtain ⟨ty', es', row', pe', l'⟩ := b'
      simp only at h2 h3 h4 h5
      subst h2; subst h4; subst h3
      simp only [h1]
      cases he : Nat.beq b.es es with
      | false => rw [he] at h; exact h.elim
      | true =>
        rw [he] at h
        obtain ⟨v, q1, h⟩ := h
        dsimp only at h
        cases hf : v.idFree with
        | false => rw [hf] at h; exact h.elim
        | true => rw [hf] at h; exact ⟨v, q1, by simp only [hf]; exact ⟨h, fun c hc => by simp at hc; subst hc; rw [hb]; simp⟩⟩
    · exact h.elim
  | .tup _, K, h => by simp only [frz] at h; exact h.elim
  | .undef, K, h => by simp only [frz] at h; exact h.elim
  | .mp _, K, h => by simp only [frz] at h; exact h.elim
  | .mpv .., K, h => by simp only [frz] at h; exact h.elim
  | .int .., K, h => by simp only [frz] at h ⊢; exact ⟨h, fun _ hc => nomatch hc⟩
  | .bool .., K, h => by simp only [frz] at h ⊢; exact ⟨h, fun _ hc => nomatch hc⟩
  | .str .., K, h => by simp only [frz] at h ⊢; exact ⟨h, fun _ hc => nomatch hc⟩
  | .nilp, K, h => by simp only [frz] at h ⊢; exact ⟨h, fun _ hc => nomatch hc⟩
  | .gp .., K, h => by simp only [frz] at h ⊢; exact ⟨h, fun _ hc => nomatch hc⟩
  | .ep .., K, h => by simp only [frz] at h ⊢; exact ⟨h, fun _ hc => nomatch hc⟩
  | .sl .., K, h => by simp only [frz] at h ⊢; exact ⟨h, fun _ hc => nomatch hc⟩
  | .nils, K, h => by simp only [frz] at h ⊢; exact ⟨h, fun _ hc => nomatch hc⟩
  | .nilf, K, h => by simp only [frz] at h ⊢; exact ⟨h, fun _ hc => nomatch hc⟩
  | .nili, K, h => by simp only [frz] at h ⊢; exact ⟨h, fun _ hc => nomatch hc⟩
  | .arr .., K, h => by simp only [frz] at h ⊢; exact ⟨h, fun _ hc => nomatch hc⟩
theorem frzs_same (hs : SameB m m') : ∀ {l : List MV} {K : List MV × List (Nat × Nat) → Prop}, (frzs m l).runP K → (frzs m' l).runP fun x => K x ∧ ∀ c ∈ x.2, m c.1 ≠ none
  | [], K, h => ⟨h, fun _ hc => nomatch hc⟩
  | q :: l, K, h => by
    simp only [frzs] at h ⊢
    refine frz_weak (frz_same hs (Ask.bind_runP.1 h)) fun x hx => ?_
    refine frzs_weak (frzs_same hs (Ask.bind_runP.1 hx.1)) fun y hy => ⟨hy.1, fun c hc => ?_⟩
    rcases List.mem_append.1 hc with hc | hc
    · exact hx.2 c hc
    · exact hy.2 c hc
end
end
end Go.Proofs.YtmeeeigfjlbnkaaGreat
namespace Go.Proofs.YtmeeeigfjlbnkaaGreat
open Go.RowKit
section
variable (Pg : Program) (T : Tab) (ents : List FuncId) (G : GS)
def vCallF (e : Nat → Option MV) (m : FM) (f : Operand) (args : List Operand) : Ask (FuncId × List MV × List (Nat × Nat)) :=
  rd e f fun fv => rds e args fun vs => match fv with
    | .fn f0 caps => (frzs m (vs ++ caps)).bind fun r => .ret (f0, r.1, r.2)
    | _ => .bad
def runF (o : Oper) (e : Nat → Option MV) (m : FM) (n : Nat) (r : MV) (δ : Dl) : Prop := match o.op with
  | .call c => match c.callee with
    | .value f => (vCallF e m f c.args.toList).runP fun x => ents.contains x.1 = true ∧ SemC Pg G x.1 x.2.1 r ∧ δ = .bump x.2.2 ∧ ∀ c ∈ x.2.2, m c.1 ≠ none
    | _ => (eOp Pg T e m n o).runP fun x => x = (r, δ)
  | _ => (eOp Pg T e m n o).runP fun x => x = (r, δ)
def gdF (ops : Array Oper) (o : Oper) (e : Nat → Option MV) : Option Bool := match o.guard with
  | none => some true
  | some (j, want) => match (ops[j]?).bind (·.dst) with
    | none => none
    | some s => match e s with
      | some (.bool t) => some (t == want)
      | some .undef => some false
      | _ => none
def actF (ops : Array Oper) (o : Oper) (e : Nat → Option MV) (m : FM) (n : Nat) (r : MV) (δ : Dl) : Prop :=
  ∃ b, gdF ops o e = some b ∧ (b = true → runF Pg T ents G o e m n r δ) ∧ (b = false → r = .undef ∧ δ = .none)
def putF (dst : Option Tmp) (r : MV) (e : Nat → Option MV) : Nat → Option MV := match dst with
  | none => e
  | some d => fput e d r
end
section
variable {Pg : Program} {T : Tab} {ents : List FuncId} {G : GS} {ops : Array Oper} {o : Oper} {e e' : Nat → Option MV} {m m' : FM} {n : Nat} {r : MV} {δ : Dl}
theorem vCallF_ag {f : Operand} {args : List Operand} (h1 : evM e f = evM e' f) (h2 : Ag e e' args) : vCallF e m f args = vCallF e' m f args := by
  unfold vCallF
  rw [rd_ag h1]
  congr 1; funext v
  rw [rds_ag h2]
theorem runF_env (h : Ag e e' o.op.operands.toList) : runF Pg T ents G o e m n r δ → runF Pg T ents G o e' m n r δ := by
  have hp : eOp Pg T e m n o = eOp Pg T e' m n o := eOp_env h
  unfold runF
  split
  · rename_i c hc
    rw [hc] at h
    split
    · rename_i f hf
      intro hr
      have := vCallF_ag (m := m) (args := c.args.toList) (h f (by simp [Op.operands, Call.operands, hf])) fun x hx => h x (by simp [Op.operands, Call.operands, hf]; exact .inr (by simpa using hx))
      rw [← this]; exact hr
    · rw [hp]; exact id
  · rw [hp]; exact id
theorem runF_nomem (h : Nat.ble (kls o) 1 = true) : runF Pg T ents G o e m n r δ → runF Pg T ents G o e m' n r δ := by
  have hp : eOp Pg T e m n o = eOp Pg T e m' n o := eOp_nomem h
  unfold runF
  split
  · rename_i c hc
    split
    · rename_i f hf
      simp [kls, hc, hf] at h
    · rw [hp]; exact id
  · rw [hp]; exact id
theorem runF_read (h : kls o = 2) (hs : SameB m m') : runF Pg T ents G o e m n r δ → runF Pg T ents G o e m' n r δ := by
  unfold runF
  split
  · rename_i c hc
    split
    · rename_i f hf
      intro hr
      unfold vCallF at hr ⊢
      unfold rd at hr ⊢
      split at hr
      · rename_i v hv
        generalize c.args.toList = az at hr
        have key : ∀ (az : List Operand) (k k' : List MV → Ask (FuncId × List MV × List (Nat × Nat))) (K K' : FuncId × List MV × List (Nat × Nat) → Prop), (∀ vs, (k vs).runP K → (k' vs).runP K') → (rds e az k).runP K → (rds e az k').runP K' := by
          intro az
          induction az with
          | nil => intro k k' K K' hk h; exact hk _ h
          | cons x az ih =>
            intro k k' K K' hk h
            unfold rds rd at h ⊢
            split at h
            · exact ih _ _ K K' (fun vs h => hk _ h) h
            · exact h.elim
        refine key az _ _ _ _ (fun vs hk => ?_) hr
        split at hk
        · refine frzs_weak (frzs_same hs (Ask.bind_runP.1 hk)) fun x hx => ?_
          obtain ⟨⟨h1, h2, h3, _⟩, h4⟩ := hx
          refine ⟨h1, h2, h3, fun c hc => ?_⟩
          cases hb : m c.1 with
          | none => exact absurd hb (h4 c hc)
          | some b =>
            obtain ⟨b', h5, _⟩ := hs _ _ hb
            rw [h5]; simp
        · exact hk.elim
      · exact hr.elim
    · exact fun hr => eOp_read h hs hr
  · exact fun hr => eOp_read h hs hr
def DL (m : FM) : Nat → Dl → Prop
  | 0, δ => δ = .none
  | 1, δ => δ = .none ∨ ∃ b, δ = .new b
  | 2, δ => δ = .none ∨ ∃ l, δ = .bump l ∧ ∀ c ∈ l, m c.1 ≠ none
  | _, _ => True
theorem runF_out (h : runF Pg T ents G o e m n r δ) : DL m (kls o) δ := by
  have hp : (eOp Pg T e m n o).runP (fun x => x = (r, δ)) → DL m (kls o) δ := by
    intro h
    obtain ⟨r', δ', h1, h2⟩ := out_eOp Pg T e m n o _ h
    injection h2 with h2 h3
    subst h3
    generalize kls o = k at h1
    match k, h1 with
    | 0, h1 => exact h1
    | 1, h1 => exact .inr h1
    | 2, h1 => exact h1
    | _ + 3, h1 => exact trivial
  unfold runF at h
  split at h
  · rename_i c hc
    split at h
    · rename_i f hf
      have hk : kls o = 2 := by simp [kls, hc, hf]
      rw [hk]
      unfold vCallF rd at h
      split at h
      · have key : ∀ (az : List Operand) (k : List MV → Ask (FuncId × List MV × List (Nat × Nat))) (K : FuncId × List MV × List (Nat × Nat) → Prop), (rds e az k).runP K → ∃ vs, (k vs).runP K := by
          intro az
          induction az with
          | nil => intro k K h; exact ⟨_, h⟩
          | cons x az ih =>
            intro k K h
            unfold rds rd at h
            split at h
            · obtain ⟨vs, h⟩ := ih _ K h; exact ⟨_, h⟩
            · exact h.elim
        obtain ⟨vs, h⟩ := key _ _ _ h
        split at h
        · obtain ⟨_, x, _, h⟩ := frzs_isVal (Ask.bind_runP.1 h)
          obtain ⟨h1, h2, h3, h4⟩ := h
          exact .inr ⟨_, h3, h4⟩
        · exact h.elim
      · exact h.elim
    · exact hp h
  · exact hp h
theorem actF_out (h : actF Pg T ents G ops o e m n r δ) : DL m (kls o) δ := by
  obtain ⟨b, h1, h2, h3⟩ := h
  cases b with
  | true => exact runF_out (h2 rfl)
  | false =>
    rw [(h3 rfl).2]
    generalize kls o = k
    match k with
    | 0 => exact rfl
    | 1 => exact .inl rfl
    | 2 => exact .inl rfl
    | _ + 3 => exact trivial
theorem actF_nomem (h : Nat.ble (kls o) 1 = true) : actF Pg T ents G ops o e m n r δ → actF Pg T ents G ops o e m' n r δ := by
  rintro ⟨b, h1, h2, h3⟩; exact ⟨b, h1, fun hb => runF_nomem h (h2 hb), h3⟩
theorem actF_read (h : kls o = 2) (hs : SameB m m') : actF Pg T ents G ops o e m n r δ → actF Pg T ents G ops o e m' n r δ := by
  rintro ⟨b, h1, h2, h3⟩; exact ⟨b, h1, fun hb => runF_read h hs (h2 hb), h3⟩
theorem actF_env (h : ∀ t ∈ o.looksAt ops, e t = e' t) : actF Pg T ents G ops o e m n r δ → actF Pg T ents G ops o e' m n r δ := by
  rintro ⟨b, h1, h2, h3⟩
  refine ⟨b, ?_, fun hb => runF_env (fun x hx => evM_ag fun t ht => h t ?_) (h2 hb), h3⟩
  · rw [← h1]
    unfold gdF
    split
    · rfl
    · rename_i j want hg
      split
      · rfl
      · rename_i s hs
        rw [h s (by
          unfold Oper.looksAt
          rw [hg]
          simp [hs])]
  · subst ht
    unfold Oper.looksAt
    refine List.mem_append.2 (.inl ?_)
    rw [List.mem_filterMap]
    exact ⟨_, hx, rfl⟩
end
end Go.Proofs.YtmeeeigfjlbnkaaGreat
namespace Go.Proofs.YtmeeeigfjlbnkaaGreat
open Go.RowKit
mutual
def numsV : MV → List Nat
  | .ptr c _ _ _ _ => [c]
  | .ms c _ _ _ => [c]
  | .mp c => [c]
  | .st l => numsVs l
  | .fn _ l => numsVs l
  | .tup l => numsVs l
  | .ifc _ v => numsV v
  | _ => []
def numsVs : List MV → List Nat
  | [] => []
  | m :: l => numsV m ++ numsVs l
end
def numsO (e : Nat → Option MV) : List Operand → List Nat
  | [] => []
  | x :: l => (match evM e x with | some v => numsV v | none => []) ++ numsO e l
section
variable {P : Program} {T : Tab} {e : Nat → Option MV} {m m' : FM} {cnt : Nat} {A : Type}
theorem rd_loc {x : Operand} {k k' : MV → Ask A} (h : ∀ v, evM e x = some v → k' v = k v) : rd e x k' = rd e x k := by
  unfold rd
  cases hx : evM e x with
  | none => rfl
  | some v => exact h v hx
theorem rds_loc : ∀ {l : List Operand} {k k' : List MV → Ask A}, (∀ vs, l.map (evM e) = vs.map some → k' vs = k vs) → rds e l k' = rds e l k
  | [], _, _, h => h [] rfl
  | x :: l, k, k', h => by
    show rd e x _ = rd e x _
    exact rd_loc fun v hv => rds_loc fun vs hvs => h (v :: vs) (by simp [hv, hvs])
theorem numsO_eq : ∀ {l : List Operand} {vs : List MV}, l.map (evM e) = vs.map some → numsO e l = numsVs vs
  | [], [], _ => rfl
  | x :: l, v :: vs, h => by
    simp only [List.map_cons, List.cons.injEq] at h
    simp only [numsO, numsVs, h.1, numsO_eq h.2]
  | [], _ :: _, h => by simp at h
  | _ :: _, [], h => by simp at h
theorem numsVs_app : ∀ (l r : List MV), numsVs (l ++ r) = numsVs l ++ numsVs r
  | [], r => rfl
  | m :: l, r => by simp [numsVs, numsVs_app l r]
abbrev AgM (m' m : FM) (S : List Nat) : Prop := ∀ c ∈ S, m' c = m c
mutual
theorem frz_loc : ∀ {p : MV}, AgM m' m (numsV p) → frz m' p = frz m p
  | .ptr c es k fo path, h => by simp only [frz, h c (by simp [numsV])]
  | .ms c es off n, h => by simp only [frz, h c (by simp [numsV])]
  | .st l, h => by simp only [frz]; rw [frzs_loc (l := l) h]
  | .fn f l, h => by simp only [frz]; rw [frzs_loc (l := l) h]
  | .ifc t v, h => by simp only [frz]; rw [frz_loc (p := v) h]
  | .tup _, _ => rfl
  | .undef, _ => rfl
  | .mp _, _ => rfl
  | .mpv .., _ => rfl
  | .int .., _ => rfl
  | .bool .., _ => rfl
  | .str .., _ => rfl
  | .nilp, _ => rfl
  | .gp .., _ => rfl
  | .ep .., _ => rfl
  | .sl .., _ => rfl
  | .nils, _ => rfl
  | .nilf, _ => rfl
  | .nili, _ => rfl
  | .arr .., _ => rfl
theorem frzs_loc : ∀ {l : List MV}, AgM m' m (numsVs l) → frzs m' l = frzs m l
  | [], _ => rfl
  | q :: l, h => by
    simp only [frzs]
    rw [frz_loc (p := q) fun c hc => h c (by simp [numsVs, hc]), frzs_loc (l := l) fun c hc => h c (by simp [numsVs, hc])]
end
theorem oLoad_loc {t : TypeId} {p : MV} (h : AgM m' m (numsV p)) : oLoad T m' t p = oLoad T m t p := by
  unfold oLoad
  cases p with
  | ptr c es k fo path => simp only [h c (by simp [numsV])]
  | _ => rfl
theorem oStore_loc {t : TypeId} {p v : MV} (h : AgM m' m (numsV p)) : oStore T m' t p v = oStore T m t p v := by
  unfold oStore
  cases p with
  | ptr c es k fo path => simp only [h c (by simp [numsV])]
  | _ => rfl
theorem oSliceA_loc {t : TypeId} {p : MV} {lo hi : Option MV} (h : AgM m' m (numsV p)) : oSliceA T m' t p lo hi = oSliceA T m t p lo hi := by
  unfold oSliceA
  split
  · have hh := h _ (List.mem_cons_self ..)
    simp only [hh]
  · rfl
theorem oConv_loc {s d : TypeId} {p : MV} (h : AgM m' m (numsV p)) : oConv T m' s d p = oConv T m s d p := by
  unfold oConv
  split
  · rfl
  · rfl
  · rfl
  · have hh := h _ (List.mem_cons_self ..)
    simp only [hh]
  · rfl
  · rfl
theorem srcM_loc {es : Nat} {y : MV} {k : Bool → Nat → List MV → Ask (MV × Dl)} (h : AgM m' m (numsV y)) : srcM m' es y k = srcM m es y k := by
  unfold srcM
  cases y with
  | ms c es off n => simp only [h c (by simp [numsV])]
  | _ => rfl
theorem oAppend_loc {ats : List TypeId} {x y : MV} (hx : AgM m' m (numsV x)) (hy : AgM m' m (numsV y)) : oAppend P T m' cnt ats x y = oAppend P T m cnt ats x y := by
  unfold oAppend
  have hs : ∀ es k, srcM m' es y k = srcM m es y k := fun es k => srcM_loc hy
  cases x with
  | ms c es off n => simp only [hs, hx c (by simp [numsV])]
  | _ => simp only [hs]
theorem oMapUpd_loc {t : TypeId} {p k x : MV} (h : AgM m' m (numsV p)) : oMapUpd P m' t p k x = oMapUpd P m t p k x := by
  unfold oMapUpd
  split
  · have hh := h _ (List.mem_cons_self ..)
    simp only [hh]
  · rfl
theorem oNext_loc {p : MV} {b : Bool} (h : AgM m' m (numsV p)) : oNext m' p b = oNext m p b := by
  unfold oNext
  split
  · have hh := h _ (List.mem_cons_self ..)
    simp only [hh]
  · rfl
theorem oLookup_loc {t : TypeId} {p k : MV} {ok : Bool} (h : AgM m' m (numsV p)) : oLookup P T m' t p k ok = oLookup P T m t p k ok := by
  unfold oLookup
  split
  · have hh := h _ (List.mem_cons_self ..)
    simp only [hh]
  · rfl
theorem oClear_loc {t : Option TypeId} {x : MV} (h : AgM m' m (numsV x)) : oClear T m' t x = oClear T m t x := by
  unfold oClear
  generalize t.bind (Tab.find T) = q
  cases q with
  | none => rfl
  | some d =>
    cases d with
    | slice e es =>
      cases x with
      | ms c es off n => simp only [h c (by simp [numsV])]
      | _ => rfl
    | _ => rfl
theorem oBuiltin_loc {b : Builtin} {ats : Array TypeId} {vs : List MV} (h : AgM m' m (numsVs vs)) : oBuiltin P T m' cnt b ats vs = oBuiltin P T m cnt b ats vs := by
  cases b with
  | append =>
    unfold oBuiltin
    match vs, h with
    | [x, y], h => exact oAppend_loc (fun c hc => h c (by simp [numsVs, hc])) fun c hc => h c (by simp [numsVs, hc])
    | [], _ => rfl
    | [_], _ => rfl
    | _ :: _ :: _ :: _, _ => rfl
  | clear =>
    unfold oBuiltin
    match vs, h with
    | [x], h => exact oClear_loc fun c hc => h c (by simp [numsVs, hc])
    | [], _ => rfl
    | _ :: _ :: _, _ => rfl
  | _ => rfl
theorem zip_nums {is : List Nat} {vs : List MV} {c es off k : Nat} (h : is.zip vs = [(0, .ms c es off k)]) : c ∈ numsVs vs := by
  cases is with
  | nil => simp at h
  | cons i is =>
    cases vs with
    | nil => simp at h
    | cons v vs =>
      rw [List.zip_cons_cons] at h
      injection h with h1 h2
      injection h1 with h1 h3
      subst h3
      simp [numsVs, numsV]
theorem eOp_loc {o : Oper} (h : AgM m' m (numsO e o.op.operands.toList)) : eOp P T e m' cnt o = eOp P T e m cnt o := by
  obtain ⟨dst, op, ty, pos, after, guard⟩ := o
  replace h : AgM m' m (numsO e op.operands.toList) := h
  cases op with
  | load t x =>
    refine rd_loc fun v hv => oLoad_loc fun c hc => h c ?_
    simp [Op.operands, numsO, hv, hc]
  | slice t x lo hi mx =>
    cases mx with
    | some _ => rfl
    | none =>
    refine rd_loc fun v hv => ?_
    have e1 : ∀ lo hi, oSliceA T m' t v lo hi = oSliceA T m t v lo hi := fun lo hi => oSliceA_loc fun c hc => h c (by simp [Op.operands, numsO, hv, hc])
    simp only [e1]
  | store t x y =>
    refine rd_loc fun v hv => rd_loc fun u _ => oStore_loc fun c hc => h c ?_
    simp [Op.operands, numsO, hv, hc]
  | mapUpdate t p k x =>
    refine rd_loc fun v hv => rd_loc fun u _ => rd_loc fun u2 _ => oMapUpd_loc fun c hc => h c ?_
    simp [Op.operands, numsO, hv, hc]
  | next x b =>
    refine rd_loc fun v hv => oNext_loc fun c hc => h c ?_
    simp [Op.operands, numsO, hv, hc]
  | lookup t p k ok =>
    refine rd_loc fun v hv => rd_loc fun u _ => oLookup_loc fun c hc => h c ?_
    simp [Op.operands, numsO, hv, hc]
  | convert s d x =>
    refine rd_loc fun v hv => oConv_loc fun c hc => h c ?_
    simp [Op.operands, numsO, hv, hc]
  | buildSlice t n parts =>
    refine rds_loc fun vs hvs => ?_
    generalize hz : (parts.toList.map (·.1)).zip vs = zs
    have e : (Op.buildSlice t n parts).operands.toList = parts.toList.map (·.2) := by simp [Op.operands]
    rw [e, numsO_eq hvs] at h
    show (match rowPart n zs with | some x => _ | none => _) = (match rowPart n zs with | some x => _ | none => _)
    split
    · rename_i x hx
      obtain ⟨rfl, rfl⟩ := rowPart_out hx
      have hc : x.1 ∈ numsVs vs := zip_nums hz
      unfold oBuildRow
      simp only [h _ hc]
    · rfl
  | call c =>
    obtain ⟨callee, args, ats⟩ := c
    cases callee with
    | builtin b =>
      refine rds_loc fun vs hvs => oBuiltin_loc fun c hc => h c ?_
      have e : (Op.call ⟨.builtin b, args, ats⟩).operands.toList = args.toList := by simp [Op.operands, Call.operands]
      rw [e, numsO_eq hvs]
      exact hc
    | _ => rfl
  | _ => rfl
def FootD (S : List Nat) : Dl → Prop
  | .none => True
  | .new _ => True
  | .upd c _ => c ∈ S
  | .mv c _ => c ∈ S
  | .bump l => ∀ x ∈ l, x.1 ∈ S
theorem foot_oStore {t : TypeId} {p v : MV} : Out (FootD (numsV p)) (oStore T m t p v) := by
  unfold oStore
  split
  · exact Out.bad
  · split
    · split
      · exact Out.cond (Out.prf (Out.ask fun _ => Out.ask fun _ => Out.val fun _ => Out.ret (by simp [FootD, numsV]))) Out.bad
      · exact Out.bad
    · exact Out.bad
theorem foot_oMapUpd {t : TypeId} {p k x : MV} : Out (FootD (numsV p)) (oMapUpd P m t p k x) := by
  unfold oMapUpd
  split
  · split
    · split
      · refine Out.cond (Out.prf (Out.ask fun _ => Out.ask fun r => ?_)) Out.bad
        cases r <;> exact Out.val fun _ => Out.ret (by simp [FootD, numsV])
      · exact Out.bad
    · exact Out.bad
  · exact Out.bad
theorem foot_oNext {p : MV} {b : Bool} : Out (FootD (numsV p)) (oNext m p b) := by
  unfold oNext
  split
  · split
    · split
      · refine Out.ask fun _ => Out.val fun r => ?_
        rcases r with _ | ⟨_, _⟩
        · exact Out.ret (by simp [FootD, numsV])
        · exact Out.ret (by simp [FootD, numsV])
      · exact Out.bad
    · exact Out.bad
  · exact Out.bad
theorem foot_oAppend {ats : List TypeId} {x y : MV} : Out (FootD (numsV x)) (oAppend P T m cnt ats x y) := by
  have src : ∀ {es : Nat} {k : Bool → Nat → List MV → Ask (MV × Dl)}, (∀ fl n l, Out (FootD (numsV x)) (k fl n l)) → Out (FootD (numsV x)) (srcM m es y k) := by
    intro es k hk
    unfold srcM
    split
    · exact Out.prf (hk _ _ _)
    · exact hk _ _ _
    · split
      · exact Out.cond (Out.prf (Out.val fun _ => hk _ _ _)) Out.bad
      · exact Out.bad
    · exact Out.bad
  unfold oAppend
  split
  · refine Out.cond ?_ Out.bad
    split
    · split
      · refine Out.cond (Out.ask fun _ => src fun fl n l => ?_) Out.bad
        split
        · exact Out.prf (Out.cond (Out.ret trivial) Out.bad)
        · split
          · exact Out.cond (Out.prf (Out.val fun _ => Out.val fun _ => Out.ret (by simp [FootD, numsV]))) Out.bad
          · exact Out.bad
        · exact Out.bad
      · exact Out.bad
    · exact Out.bad
  · exact Out.bad
theorem foot_oClear {t : Option TypeId} {x : MV} : Out (FootD (numsV x)) (oClear T m t x) := by
  unfold oClear
  split
  · split
    · exact Out.cond (Out.prf (Out.val fun _ => Out.ret (by simp [FootD, numsV]))) Out.bad
    · exact Out.bad
  · exact Out.bad
theorem FootD.sub {S S' : List Nat} {δ : Dl} (h : FootD S δ) (hs : ∀ c ∈ S, c ∈ S') : FootD S' δ := by
  cases δ with
  | none => trivial
  | new => trivial
  | upd c l => exact hs c h
  | mv c b => exact hs c h
  | bump l => exact fun x hx => hs _ (h x hx)
theorem rds_some : ∀ {l : List Operand} {k : List MV → Ask A} {K : A → Prop}, (rds e l k).runP K → ∃ vs, l.map (evM e) = vs.map some ∧ (k vs).runP K
  | [], _, _, h => ⟨[], rfl, h⟩
  | x :: l, k, K, h => by
    unfold rds rd at h
    split at h
    · rename_i v hv
      obtain ⟨vs, h1, h2⟩ := rds_some (k := fun r => k (v :: r)) h
      exact ⟨v :: vs, by simp [hv, h1], h2⟩
    · exact h.elim
theorem foot_eOp {o : Oper} {r : MV} {δ : Dl} (h : (eOp P T e m cnt o).runP fun x => x = (r, δ)) : FootD (numsO e o.op.operands.toList) δ := by
  have gen : Nat.ble (kls o) 1 = true → FootD (numsO e o.op.operands.toList) δ := by
    intro hk
    obtain ⟨r', δ', h1, h2⟩ := out_eOp P T e m cnt o _ h
    injection h2 with h2 h3
    subst h3
    generalize kls o = k at h1 hk
    match k, h1, hk with
    | 0, h1, _ => rw [show δ' = .none from h1]; trivial
    | 1, h1, _ => obtain ⟨b, h1⟩ := (show ∃ b, δ' = .new b from h1); rw [h1]; trivial
    | _ + 2, _, hk => simp at hk
  have fromRd : ∀ {x : Operand} {k : MV → Ask (MV × Dl)} {S : List Nat}, (∀ v, evM e x = some v → Out (FootD S) (k v)) → (rd e x k).runP (fun x => x = (r, δ)) → FootD S δ := by
    intro x k S hk h
    unfold rd at h
    split at h
    · rename_i v hv
      obtain ⟨r', δ', h1, h2⟩ := hk v hv _ h
      injection h2 with h2 h3
      subst h3; exact h1
    · exact h.elim
  obtain ⟨dst, op, ty, pos, after, guard⟩ := o
  cases op with
  | load t x =>
    refine fromRd (S := numsO e [x]) (fun v hv => (out_oLoad T m _ _).weak fun δ hδ => ?_) h
    rw [hδ]; trivial
  | convert s d x =>
    refine fromRd (S := numsO e [x]) (fun v hv => (out_oConv T m _ _ _).weak fun δ hδ => ?_) h
    rw [hδ]; trivial
  | lookup t p k ok =>
    refine fromRd (S := numsO e [p, k]) (fun v hv => Out.rd fun _ => (out_oLookup P T m _ _ _ _).weak fun δ hδ => ?_) h
    rw [hδ]; trivial
  | next x b =>
    refine fromRd (S := numsO e [x]) (fun v hv => ?_) h
    intro K hK
    obtain ⟨r', δ', h1, h2⟩ := foot_oNext K hK
    exact ⟨r', δ', h1.sub fun c hc => by simp [numsO, hv, hc], h2⟩
  | mapUpdate t p k x =>
    refine fromRd (S := numsO e [p, k, x]) (fun v hv => ?_) h
    refine Out.rd fun u => Out.rd fun u2 => ?_
    intro K hK
    obtain ⟨r', δ', h1, h2⟩ := foot_oMapUpd K hK
    exact ⟨r', δ', h1.sub fun c hc => by simp [numsO, hv, hc], h2⟩
  | slice t x lo hi mx =>
    cases mx with
    | some _ => exact h.elim
    | none =>
    refine fromRd (fun v hv => Out.rdo fun lo' => Out.rdo fun hi' => ?_) h
    unfold oSliceA
    split
    · rename_i n e0 es c k0 k fo path hd
      split
      · split
        · exact Out.cond (Out.ask fun _ => Out.val fun _ => Out.val fun _ => Out.ret fun y hy => by
            simp at hy
            subst hy
            simp [Op.operands, numsO, hv, numsV]) Out.bad
        · exact Out.bad
      · exact Out.bad
    · exact (out_oSlice T _ _ _ _).weak fun δ hδ => by rw [hδ]; trivial
  | buildSlice t n parts =>
    match n, gen, h with
    | 0, gen, _ => exact gen rfl
    | _ + 2, gen, _ => exact gen rfl
    | 1, _, h =>
      obtain ⟨vs, h1, h2⟩ := rds_some h
      generalize hz : (parts.toList.map (·.1)).zip vs = zs at h2
      have e1 : (Op.buildSlice t 1 parts).operands.toList = parts.toList.map (·.2) := by simp [Op.operands]
      show FootD (numsO e (Op.buildSlice t 1 parts).operands.toList) δ
      rw [e1, numsO_eq h1]
      split at h2
      · rename_i x hx
        obtain ⟨_, rfl⟩ := rowPart_out hx
        have hc : x.1 ∈ numsVs vs := zip_nums hz
        have ho : Out (FootD (numsVs vs)) (oBuildRow T m cnt t x.1 x.2.1 x.2.2.1 x.2.2.2) := by
          unfold oBuildRow
          repeat' split
          all_goals first | exact Out.bad | exact Out.cond (Out.prf (Out.val fun _ => Out.ret hc)) Out.bad
        obtain ⟨r', δ', h3, h4⟩ := ho _ h2
        injection h4 with h4 h5
        subst h5
        exact h3
      · obtain ⟨r', δ', ⟨b, h3⟩, h4⟩ := out_oBuildSlice T cnt _ _ _ _ h2
        injection h4 with h4 h5
        subst h5
        rw [h3]; trivial
  | store t x y =>
    refine fromRd (S := numsO e [x, y]) (fun v hv => ?_) h
    refine Out.rd fun u => ?_
    intro K hK
    obtain ⟨r', δ', h1, h2⟩ := foot_oStore K hK
    exact ⟨r', δ', h1.sub fun c hc => by simp [numsO, hv, hc], h2⟩
  | call c =>
    obtain ⟨callee, args, ats⟩ := c
    cases callee with
    | builtin b =>
      cases b with
      | append =>
        have e1 : (Op.call ⟨.builtin .append, args, ats⟩).operands.toList = args.toList := by simp [Op.operands, Call.operands]
        show FootD (numsO e (Op.call ⟨.builtin .append, args, ats⟩).operands.toList) δ
        rw [e1]
        replace h : (rds e args.toList fun vs => oBuiltin P T m cnt .append ats vs).runP fun x => x = (r, δ) := h
        have key : ∀ (l : List Operand) (k : List MV → Ask (MV × Dl)) (K : MV × Dl → Prop), (rds e l k).runP K → ∃ vs, l.map (evM e) = vs.map some ∧ (k vs).runP K := by
          intro l
          induction l with
          | nil => intro k K h; exact ⟨[], rfl, h⟩
          | cons x l ih =>
            intro k K h
            unfold rds rd at h
            split at h
            · rename_i v hv
              obtain ⟨vs, h1, h2⟩ := ih _ K h
              exact ⟨v :: vs, by simp [hv, h1], h2⟩
            · exact h.elim
        obtain ⟨vs, h1, h2⟩ := key _ _ _ h
        rw [numsO_eq h1]
        unfold oBuiltin at h2
        simp only at h2
        split at h2
        · rename_i x y
          obtain ⟨r', δ', h3, h4⟩ := foot_oAppend _ h2
          injection h4 with h4 h5
          subst h5
          exact h3.sub fun c hc => by simp [numsVs, hc]
        · exact h2.elim
      | clear =>
        have e1 : (Op.call ⟨.builtin .clear, args, ats⟩).operands.toList = args.toList := by simp [Op.operands, Call.operands]
        show FootD (numsO e (Op.call ⟨.builtin .clear, args, ats⟩).operands.toList) δ
        rw [e1]
        replace h : (rds e args.toList fun vs => oBuiltin P T m cnt .clear ats vs).runP fun x => x = (r, δ) := h
        have key : ∀ (l : List Operand) (k : List MV → Ask (MV × Dl)) (K : MV × Dl → Prop), (rds e l k).runP K → ∃ vs, l.map (evM e) = vs.map some ∧ (k vs).runP K := by
          intro l
          induction l with
          | nil => intro k K h; exact ⟨[], rfl, h⟩
          | cons x l ih =>
            intro k K h
            unfold rds rd at h
            split at h
            · rename_i v hv
              obtain ⟨vs, h1, h2⟩ := ih _ K h
              exact ⟨v :: vs, by simp [hv, h1], h2⟩
            · exact h.elim
        obtain ⟨vs, h1, h2⟩ := key _ _ _ h
        rw [numsO_eq h1]
        unfold oBuiltin at h2
        simp only at h2
        split at h2
        · rename_i x
          obtain ⟨r', δ', h3, h4⟩ := foot_oClear _ h2
          injection h4 with h4 h5
          subst h5
          exact h3.sub fun c hc => by simp [numsVs, hc]
        · exact h2.elim
      | _ => exact gen rfl
    | _ => exact h.elim
  | _ => exact gen rfl
theorem appF_out {S : List Nat} {δ : Dl} (h : FootD S δ) {c : Nat} (hc : c ∉ S) (hn : c ≠ cnt) : δ.appF cnt m c = m c := by
  cases δ with
  | none => rfl
  | new b => exact fput_ne _ _ hn
  | upd c' l =>
    show (match m c' with | some b => fput m c' { b with l := l } | none => m) c = m c
    cases m c' with
    | none => rfl
    | some b => exact fput_ne _ _ (by rintro rfl; exact hc h)
  | mv c' b =>
    show fput (fdel m c') cnt b c = m c
    rw [fput_ne _ _ hn]
    unfold fdel
    rw [if_neg (by rintro rfl; exact hc h)]
  | bump l =>
    show bumpF m l c = m c
    rw [bumpF_get]
    have h' : ∀ x ∈ l, x.1 ∈ S := h
    clear h
    have : mxB l c = 0 := by
      induction l with
      | nil => rfl
      | cons x l ih =>
        obtain ⟨k, n⟩ := x
        have : k ≠ c := by rintro rfl; exact hc (h' (k, n) (by simp))
        simp only [mxB, this, if_false]
        exact ih fun y hy => h' y (by simp [hy])
    rw [this]
    cases m c with
    | none => rfl
    | some b => simp
theorem appF_in {S : List Nat} {δ : Dl} (h : FootD S δ) (ha : ∀ c, c ∈ S ∨ c = cnt → m' c = m c) {c : Nat} (hc : c ∈ S ∨ c = cnt) : δ.appF cnt m' c = δ.appF cnt m c := by
  cases δ with
  | none => exact ha c hc
  | new b =>
    show fput m' cnt b c = fput m cnt b c
    unfold fput
    split
    · rfl
    · exact ha c hc
  | upd c' l =>
    show (match m' c' with | some b => fput m' c' { b with l := l } | none => m') c = (match m c' with | some b => fput m c' { b with l := l } | none => m) c
    rw [ha c' (.inl h)]
    cases m c' with
    | none => exact ha c hc
    | some b =>
      show fput m' c' _ c = fput m c' _ c
      unfold fput
      split
      · rfl
      · exact ha c hc
  | mv c' b =>
    show fput (fdel m' c') cnt b c = fput (fdel m c') cnt b c
    unfold fput fdel
    split
    · rfl
    · split
      · rfl
      · exact ha c hc
  | bump l =>
    show bumpF m' l c = bumpF m l c
    rw [bumpF_get, bumpF_get, ha c hc]
mutual
theorem foot_frz : ∀ {p : MV} {K : MV × List (Nat × Nat) → Prop}, (frz m p).runP K → (frz m p).runP fun x => K x ∧ ∀ z ∈ x.2, z.1 ∈ numsV p
  | .ms c es off n, K, h => by
    simp only [frz] at h ⊢
    split at h
    · split at h
      · obtain ⟨a1, l, a2, h⟩ := h
        exact ⟨a1, l, a2, h, fun z hz => by simp at hz; subst hz; simp [numsV]⟩
      · exact h.elim
    · exact h.elim
  | .st l, K, h => by simp only [frz] at h ⊢; exact frzs_weak (foot_frzs (Ask.bind_runP.1 h)) fun _ h => h
  | .fn f l, K, h => by simp only [frz] at h ⊢; exact frzs_weak (foot_frzs (Ask.bind_runP.1 h)) fun _ h => h
  | .ifc t v, K, h => by simp only [frz] at h ⊢; exact frz_weak (foot_frz (Ask.bind_runP.1 h)) fun _ h => h
  | .ptr c es k fo path, K, h => by
    simp only [frz] at h ⊢
    split at h
    · rename_i b hb
      cases he : Nat.beq b.es es with
      | false => rw [he] at h; exact h.elim
      | true =>
        rw [he] at h
        obtain ⟨v, q1, h⟩ := h
        dsimp only at h
        cases hf : v.idFree with
        | false => rw [hf] at h; exact h.elim
        | true => rw [hf] at h; exact ⟨v, q1, by simp only [hf]; exact ⟨h, fun z hz => by simp at hz; subst hz; simp [numsV]⟩⟩
    · exact h.elim
  | .tup _, K, h => by simp only [frz] at h; exact h.elim
  | .undef, K, h => by simp only [frz] at h; exact h.elim
  | .mp _, K, h => by simp only [frz] at h; exact h.elim
  | .mpv .., K, h => by simp only [frz] at h; exact h.elim
  | .int .., K, h => by simp only [frz] at h ⊢; exact ⟨h, fun _ hc => nomatch hc⟩
  | .bool .., K, h => by simp only [frz] at h ⊢; exact ⟨h, fun _ hc => nomatch hc⟩
  | .str .., K, h => by simp only [frz] at h ⊢; exact ⟨h, fun _ hc => nomatch hc⟩
  | .nilp, K, h => by simp only [frz] at h ⊢; exact ⟨h, fun _ hc => nomatch hc⟩
  | .gp .., K, h => by simp only [frz] at h ⊢; exact ⟨h, fun _ hc => nomatch hc⟩
  | .ep .., K, h => by simp only [frz] at h ⊢; exact ⟨h, fun _ hc => nomatch hc⟩
  | .sl .., K, h => by simp only [frz] at h ⊢; exact ⟨h, fun _ hc => nomatch hc⟩
  | .nils, K, h => by simp only [frz] at h ⊢; exact ⟨h, fun _ hc => nomatch hc⟩
  | .nilf, K, h => by simp only [frz] at h ⊢; exact ⟨h, fun _ hc => nomatch hc⟩
  | .nili, K, h => by simp only [frz] at h ⊢; exact ⟨h, fun _ hc => nomatch hc⟩
  | .arr .., K, h => by simp only [frz] at h ⊢; exact ⟨h, fun _ hc => nomatch hc⟩
theorem foot_frzs : ∀ {l : List MV} {K : List MV × List (Nat × Nat) → Prop}, (frzs m l).runP K → (frzs m l).runP fun x => K x ∧ ∀ z ∈ x.2, z.1 ∈ numsVs l
  | [], K, h => ⟨h, fun _ hc => nomatch hc⟩
  | q :: l, K, h => by
    simp only [frzs] at h ⊢
    refine frz_weak (foot_frz (Ask.bind_runP.1 h)) fun x hx => ?_
    refine frzs_weak (foot_frzs (Ask.bind_runP.1 hx.1)) fun y hy => ⟨hy.1, fun c hc => ?_⟩
    rw [numsVs, List.mem_append]
    rcases List.mem_append.1 hc with hc | hc
    · exact .inl (hx.2 c hc)
    · exact .inr (hy.2 c hc)
end
theorem rds_mono {B : Type} : ∀ {l : List Operand} {k : List MV → Ask A} {k' : List MV → Ask B} {K : A → Prop} {K' : B → Prop}, (∀ vs, l.map (evM e) = vs.map some → (k vs).runP K → (k' vs).runP K') → (rds e l k).runP K → (rds e l k').runP K'
  | [], _, _, _, _, hk, h => hk [] rfl h
  | x :: l, k, k', K, K', hk, h => by
    unfold rds rd at h ⊢
    split at h
    · rename_i v hv
      exact rds_mono (k := fun r => k (v :: r)) (k' := fun r => k' (v :: r)) (fun vs hvs h => hk (v :: vs) (by simp [hv, hvs]) h) h
    · exact h.elim
section
variable {ents : List FuncId} {G : GS} {ops : Array Oper} {o : Oper} {n : Nat} {r : MV} {δ : Dl} {m1 : FM}
theorem call_ops {c : Call} {f : Operand} (hf : c.callee = .value f) : (Op.call c).operands.toList = f :: c.args.toList := by simp [Op.operands, Call.operands, hf]
theorem foot_runF (h : runF P T ents G o e m n r δ) : FootD (numsO e o.op.operands.toList) δ := by
  unfold runF at h
  split at h
  · rename_i c hc
    split at h
    · rename_i f hf
      rw [hc, call_ops hf]
      unfold vCallF rd at h
      split at h
      · rename_i v hv
        obtain ⟨vs, h1, h2⟩ := rds_some h
        split at h2
        · obtain ⟨_, x, _, h4, h3⟩ := frzs_isVal (foot_frzs (Ask.bind_runP.1 h2))
          obtain ⟨_, _, rfl, _⟩ := h4
          intro z hz
          have := h3 z hz
          rw [numsVs_app] at this
          simp only [numsO, hv, numsV, numsO_eq h1, List.mem_append] at this ⊢
          exact this.symm
        · exact h2.elim
      · exact h.elim
    · exact foot_eOp h
  · exact foot_eOp h
theorem foot_actF (h : actF P T ents G ops o e m n r δ) : FootD (numsO e o.op.operands.toList) δ := by
  obtain ⟨b, _, h2, h3⟩ := h
  cases b with
  | false => rw [(h3 rfl).2]; trivial
  | true => exact foot_runF (h2 rfl)
theorem runF_loc (ha : AgM m1 m (numsO e o.op.operands.toList)) : runF P T ents G o e m n r δ → runF P T ents G o e m1 n r δ := by
  have hp : eOp P T e m1 n o = eOp P T e m n o := eOp_loc ha
  unfold runF
  split
  · rename_i c hc
    split
    · rename_i f hf
      rw [hc, call_ops hf] at ha
      intro hr
      unfold vCallF rd at hr ⊢
      split at hr
      · rename_i v hv
        refine rds_mono (fun vs hvs h => ?_) hr
        split at h
        · rename_i f0 caps
          have hag : AgM m1 m (numsVs (vs ++ caps)) := fun c hc => ha c (by
            rw [numsVs_app] at hc
            simp only [numsO, hv, numsV, numsO_eq hvs, List.mem_append] at hc ⊢
            exact hc.symm)
          show (frzs m1 (vs ++ caps)).runP _
          rw [frzs_loc hag]
          refine frzs_weak (foot_frzs (Ask.bind_runP.1 h)) fun x hx => ?_
          obtain ⟨⟨p1, p2, p3, p4⟩, p5⟩ := hx
          exact ⟨p1, p2, p3, fun z hz => by rw [hag z.1 (p5 z hz)]; exact p4 z hz⟩
        · exact h.elim
      · exact hr.elim
    · rw [hp]; exact id
  · rw [hp]; exact id
theorem actF_loc (ha : AgM m1 m (numsO e o.op.operands.toList)) : actF P T ents G ops o e m n r δ → actF P T ents G ops o e m1 n r δ := by
  rintro ⟨b, h1, h2, h3⟩; exact ⟨b, h1, fun hb => runF_loc ha (h2 hb), h3⟩
end
end
end Go.Proofs.YtmeeeigfjlbnkaaGreat
namespace Go.Proofs.YtmeeeigfjlbnkaaGreat
open Go.RowKit
theorem bumpF_comm (m : FM) (l l' : List (Nat × Nat)) : bumpF (bumpF m l) l' = bumpF (bumpF m l') l := by
  funext c
  rw [bumpF_get, bumpF_get, bumpF_get, bumpF_get]
  cases m c with
  | none => rfl
  | some b => simp [Nat.max_assoc, Nat.max_comm (mxB l c)]
theorem sameB_bump (m : FM) (l : List (Nat × Nat)) : SameB m (bumpF m l) := fun c b h => ⟨{ b with pe := Nat.max b.pe (mxB l c) }, by rw [bumpF_get, h]; rfl, rfl, rfl, rfl, rfl⟩
theorem sameB_back (m : FM) (l : List (Nat × Nat)) : SameB (bumpF m l) m := fun c b h => by
  rw [bumpF_get] at h
  cases hb : m c with
  | none => rw [hb] at h; cases h
  | some b' => rw [hb] at h; injection h with h; subst h; exact ⟨b', rfl, rfl, rfl, rfl, rfl⟩
theorem sameB_new {m : FM} {j : Nat} (h : m j = none) (b : MB) : SameB m (fput m j b) := fun c b' hb => by
  have : fput m j b c = some b' := by
    unfold fput
    rw [if_neg]
    · exact hb
    · rintro rfl
      rw [h] at hb
      cases hb
  exact ⟨b', this, rfl, rfl, rfl, rfl⟩
theorem bumpF_new {m : FM} {j : Nat} {b : MB} {l : List (Nat × Nat)} (h : m j = none) (hl : ∀ c ∈ l, m c.1 ≠ none) : bumpF (fput m j b) l = fput (bumpF m l) j b := by
  have h0 : ∀ {l : List (Nat × Nat)}, (∀ c ∈ l, m c.1 ≠ none) → mxB l j = 0 := by
    intro l
    induction l with
    | nil => intro _; rfl
    | cons x l ih =>
      intro hl
      obtain ⟨k, n⟩ := x
      have : k ≠ j := by rintro rfl; exact hl (k, n) (by simp) h
      simp only [mxB, this, if_false]
      exact ih fun c hc => hl c (by simp [hc])
  funext c
  rw [bumpF_get]
  unfold fput
  by_cases hc : c = j
  · subst hc; simp [h0 hl]
  · simp only [hc, if_false]; rw [bumpF_get]
theorem fput_comm {α : Type} {m : Nat → Option α} {i j : Nat} {a b : α} (h : i ≠ j) : fput (fput m i a) j b = fput (fput m j b) i a := by
  funext c
  unfold fput
  by_cases h1 : c = i
  · subst h1; simp [h]
  · simp [h1]
section
variable (Pg : Program) (T : Tab) (N : Nat) (ents : List FuncId) (G : GS)
def vArgsF (e : Nat → Option MV) (f : Operand) (args : List Operand) : Ask (FuncId × List MV) :=
  rd e f fun fv => rds e args fun vs => match fv with
    | .fn f0 caps => .ret (f0, vs ++ caps)
    | _ => .bad
def refF (o : Oper) (n : Nat) (e : Nat → Option MV) (m : FM) (fp : List Nat) (r : MV) (m' : FM) : Prop := match o.op with
  | .call c => match c.callee with
    | .value f => (vArgsF e f c.args.toList).runP fun x => ents.contains x.1 = true ∧ ∃ M, VM.get M = m ∧ vCallZ Pg G M n x.1 x.2 fp fun r' M' => r' = r ∧ VM.get M' = m'
    | _ => False
  | _ => False
def actR (ops : Array Oper) (o : Oper) (n : Nat) (e : Nat → Option MV) (m : FM) (fp : List Nat) (r : MV) (m' : FM) : Prop :=
  ∃ b, gdF ops o e = some b ∧ (b = true → refF Pg ents G o n e m fp r m') ∧ (b = false → r = .undef ∧ m' = m)
def stepF (ops : Array Oper) (rf : Bool) (o : Oper) (n : Nat) (fp : List Nat) (e : Nat → Option MV) (m : FM) (e' : Nat → Option MV) (m' : FM) : Prop :=
  ∃ r, (∀ d, o.dst = some d → d < N) ∧ e' = putF o.dst r e ∧ match rf with
    | false => ∃ δ, actF Pg T ents G ops o e m n r δ ∧ m' = δ.appF n m ∧ fp = numsO e o.op.operands.toList
    | true => actR Pg ents G ops o n e m fp r m'
end
section
variable {Pg : Program} {T : Tab} {N : Nat} {ents : List FuncId} {G : GS} {ops : Array Oper} {o x y : Oper} {e e1 e2 e' : Nat → Option MV} {m m1 m2 m' : FM} {M M2 : VM} {i j n : Nat} {fp fx fy : List Nat} {rf rx ry : Bool} {r : MV}
theorem putF_ne {d : Option Tmp} {r : MV} {e : Nat → Option MV} {l : List Tmp} (h : ∀ t, d = some t → t ∉ l) : ∀ t ∈ l, putF d r e t = e t := by
  intro t ht
  cases d with
  | none => rfl
  | some d =>
    show fput e d r t = e t
    unfold fput
    rw [if_neg]
    rintro rfl
    exact h _ rfl ht
theorem putF_comm {d d' : Option Tmp} {r r' : MV} (h : ∀ t, d = some t → d' ≠ some t) : putF d r (putF d' r' e) = putF d' r' (putF d r e) := by
  cases d with
  | none => rfl
  | some d =>
    cases d' with
    | none => rfl
    | some d' => exact fput_comm fun hh => h d rfl (by rw [hh])
theorem evM_looks {t : Operand} (h : ∀ t ∈ o.looksAt ops, e t = e' t) (ht : t ∈ o.op.operands.toList) : evM e t = evM e' t := evM_ag fun s hs => h s (by
  subst hs
  unfold Oper.looksAt
  refine List.mem_append.2 (.inl ?_)
  rw [List.mem_filterMap]
  exact ⟨_, ht, rfl⟩)
theorem numsO_ag (h : ∀ t ∈ o.looksAt ops, e t = e' t) : numsO e o.op.operands.toList = numsO e' o.op.operands.toList := by
  have key : ∀ l : List Operand, (∀ x ∈ l, evM e x = evM e' x) → numsO e l = numsO e' l := by
    intro l
    induction l with
    | nil => intro _; rfl
    | cons x l ih => intro h; simp only [numsO]; rw [h x (by simp), ih fun y hy => h y (by simp [hy])]
  exact key _ fun x hx => evM_looks h hx
theorem gdF_ag (h : ∀ t ∈ o.looksAt ops, e t = e' t) : gdF ops o e = gdF ops o e' := by
  unfold gdF
  split
  · rfl
  · rename_i j want hg
    split
    · rfl
    · rename_i s hs
      rw [h s (by
        unfold Oper.looksAt
        rw [hg]
        simp [hs])]
theorem refF_ag (h : ∀ t ∈ o.looksAt ops, e t = e' t) : refF Pg ents G o n e m fp r m' → refF Pg ents G o n e' m fp r m' := by
  have hh : ∀ x ∈ o.op.operands.toList, evM e x = evM e' x := fun x hx => evM_looks h hx
  unfold refF
  split
  · rename_i c hc
    split
    · rename_i f hf
      rw [hc, call_ops hf] at hh
      have : vArgsF e f c.args.toList = vArgsF e' f c.args.toList := by
        unfold vArgsF
        rw [rd_ag (hh f (by simp))]
        congr 1; funext v
        rw [rds_ag fun x hx => hh x (by simp [hx])]
      rw [this]; exact id
    · exact id
  · exact id
theorem actR_ag (h : ∀ t ∈ o.looksAt ops, e t = e' t) : actR Pg ents G ops o n e m fp r m' → actR Pg ents G ops o n e' m fp r m' := by
  rintro ⟨b, h1, h2, h3⟩; exact ⟨b, by rw [← gdF_ag h]; exact h1, fun hb => refF_ag h (h2 hb), h3⟩
theorem subN_out {l S : List Nat} (h : subN l S = true) : ∀ c ∈ l, c ∈ S := by
  intro c hc
  unfold subN at h
  rw [List.all_eq_true] at h
  obtain ⟨x, hx, he⟩ := List.any_eq_true.1 (h c hc)
  rw [← Nat.eq_of_beq_eq_true he]; exact hx
theorem get_delM_eq : ∀ (σ : List (Nat × Nat)) (M : VM) (x : Nat), x ∉ σ.map (·.2) → VM.get (delM M σ) x = VM.get M x
  | [], M, x, _ => rfl
  | (c, d) :: σ, M, x, h => by
    simp only [List.map_cons, List.mem_cons, not_or] at h
    show VM.get (delM (VM.del M d) σ) x = _
    rw [get_delM_eq σ _ x h.2, VM.get_del]
    unfold fdel
    rw [if_neg h.1]
theorem get_delM_in : ∀ (σ : List (Nat × Nat)) (M : VM) (x : Nat), x ∈ σ.map (·.2) → VM.get (delM M σ) x = none := by
  intro σ M x h
  cases hx : VM.get (delM M σ) x with
  | none => rfl
  | some b =>
    obtain ⟨_, h2⟩ := get_delM σ M x b hx
    obtain ⟨⟨c, d⟩, h3, rfl⟩ := List.mem_map.1 h
    exact absurd h3 (h2 c)
theorem bump_same {bs : List (Nat × Nat)} {c : Nat} (h : c ∉ bs.map (·.1)) : VM.get (VM.bump M bs) c = VM.get M c := by
  rw [VM.get_bump, bumpF_get]
  have : mxB bs c = 0 := by
    induction bs with
    | nil => rfl
    | cons x l ih =>
      obtain ⟨k, n⟩ := x
      simp only [List.map_cons, List.mem_cons, not_or] at h
      simp only [mxB]
      rw [if_neg fun hh => h.1 (Eq.symm hh)]
      exact ih h.2
  rw [this]
  cases VM.get M c with
  | none => rfl
  | some b => simp
theorem bump_loc {bs : List (Nat × Nat)} {c : Nat} (h : VM.get M2 c = VM.get M c) : VM.get (VM.bump M2 bs) c = VM.get (VM.bump M bs) c := by
  rw [VM.get_bump, VM.get_bump, bumpF_get, bumpF_get, h]
theorem LMatch.loc {args vs : List MV} {M0 : VM} {n0 : Nat} {σ bs : List (Nat × Nat)} (h : LMatch 0 args M0 n0 vs M σ bs) (ha : AgM (VM.get M2) (VM.get M) fp) (h1 : ∀ c ∈ σ.map (·.2), c ∈ fp) (h2 : ∀ c ∈ bs.map (·.1), c ∈ fp) : LMatch 0 args M0 n0 vs M2 σ bs := by
  obtain ⟨q1, q2, q3, q4, q5⟩ := h
  have hb : okB M2 bs := by
    clear q4 q5
    induction bs with
    | nil => trivial
    | cons x l ih =>
      obtain ⟨c, k⟩ := x
      refine ⟨?_, ih (fun c hc => h2 c (by simp at hc ⊢; exact .inr hc)) q2.2⟩
      rw [ha c (h2 c (by simp))]
      exact q2.1
  have hf : fzb M2 bs = fzb M bs := by
    clear q2 q4 q5 hb
    induction bs with
    | nil => rfl
    | cons x l ih =>
      obtain ⟨c, k⟩ := x
      funext d
      show (bif Nat.beq c d then (match VM.get M2 d with | some b => some (b, k) | none => none) else fzb M2 l d) = (bif Nat.beq c d then (match VM.get M d with | some b => some (b, k) | none => none) else fzb M l d)
      by_cases e : c = d
      · subst e
        rw [ha c (h2 c (by simp))]
        simp
      · simp only [beq_ne e, cond_false]
        rw [ih fun c hc => h2 c (by simp at hc ⊢; exact .inr hc)]
  refine ⟨q1, hb, q3, by rw [hf]; exact q4, ?_⟩
  rw [hf]
  clear q3 q4
  induction M0 with
  | nil => trivial
  | cons x M0 ih =>
    obtain ⟨c, b'⟩ := x
    refine ⟨?_, ih q5.2⟩
    rcases q5.1 with h | ⟨c0, b, s1, s2, s3⟩
    · exact .inl h
    · have hc0 : c0 ∈ fp := h1 c0 (List.mem_map.2 ⟨(c, c0), sig_mem (show sig σ c = some c0 from s1), rfl⟩)
      exact .inr ⟨c0, b, s1, by rw [bump_loc (ha c0 hc0)]; exact s2, s3⟩
theorem ren_key {ρ : Nat → Nat} {x : Nat} : ∀ {M1 : VM}, (∀ z ∈ M1, ρ z.1 ≠ x) → VM.get (renM ρ M1) x = none
  | [], _ => rfl
  | (c, b) :: M1, h => by
    show VM.get ((ρ c, _) :: renM ρ M1) x = none
    rw [VM.get_cons, if_neg (h (c, b) (by simp))]
    exact ren_key fun z hz => h z (by simp [hz])
theorem newZ {σ : List (Nat × Nat)} {n0 n1 : Nat} {M1 : VM} {z : Nat × MB} (hk : okNew σ n0 n1 M1 = true) (htw : okTw n n0 n1 fp = true) (hz : z ∈ M1) (hd : sig σ z.1 = none) (ho : ¬ ownN n fp (rhoZ n0 n σ z.1)) : False := by
  unfold okNew at hk
  rw [Bool.and_eq_true, List.all_eq_true] at hk
  have := hk.2 z hz
  simp only [hd, Option.isSome_none, Bool.false_or, Bool.and_eq_true, Bool.or_eq_true] at this
  obtain ⟨h1, h2⟩ := this
  have h2 : z.1 < n1 := by simpa [Nat.blt_eq] using h2
  rcases h1 with h1 | h1
  · have h3 := Nat.eq_of_beq_eq_true h1
    rw [h3] at hd ho
    rw [rhoZ_0 hd] at ho
    exact ho (.inl rfl)
  · have h3 := Nat.eq_of_beq_eq_true h1
    rw [h3] at hd ho h2
    rw [rhoZ_1 hd] at ho
    refine ho (.inr ⟨rfl, ?_⟩)
    unfold okTw at htw
    rw [Bool.or_eq_true] at htw
    rcases htw with h4 | h4
    · have := Nat.le_of_ble_eq_true h4; omega
    · obtain ⟨x, hx, he⟩ := List.any_eq_true.1 h4
      rw [Nat.eq_of_beq_eq_true he]; exact hx
theorem refF_loc (h : refF Pg ents G o n e (VM.get M) fp r m') (ha : AgM (VM.get M2) (VM.get M) fp) : (∃ M2', refF Pg ents G o n e (VM.get M2) fp r (VM.get M2') ∧ ∀ c, VM.get M2 c = VM.get M c → VM.get M2' c = m' c) ∧ ∀ c, c ∉ fp → c ≠ n → m' c = VM.get M c := by
  unfold refF at h ⊢
  split at h
  · rename_i c hc
    split at h
    · rename_i f hf
      have key : ∀ {K : FuncId × List MV → Prop}, (vArgsF e f c.args.toList).runP K → ∃ x, K x ∧ ∀ K' : FuncId × List MV → Prop, K' x → (vArgsF e f c.args.toList).runP K' := by
        intro K hK
        unfold vArgsF at hK ⊢
        obtain ⟨a, h1, h2, h3⟩ := (Sharp.rd fun fv => Sharp.rds fun vs => by cases fv <;> first | exact Sharp.ret _ | exact Sharp.bad) K hK
        exact ⟨a, h2, h3⟩
      obtain ⟨x, ⟨hx, M', hM', args, M0, n0, res, M1, n1, hsem, σ, bs, hL, hin, hk, htw, s1, s2, rfl, rfl⟩, hback⟩ := key h
      have hsub1 := subN_out s1
      have hsub2 := subN_out s2
      have ha' : AgM (VM.get M2) (VM.get M') fp := fun c hc => by rw [hM']; exact ha c hc
      have hin2 : allIn M2 σ = true := by
        clear hL hk hsem h
        induction σ with
        | nil => rfl
        | cons z σ ih =>
          obtain ⟨p, q⟩ := z
          have hin : ((VM.get M' q).isSome && allIn M' σ) = true := hin
          show ((VM.get M2 q).isSome && allIn M2 σ) = true
          rw [Bool.and_eq_true] at hin ⊢
          rw [ha' q (hsub1 q (by simp))]
          refine ⟨hin.1, ih hin.2 ?_ fun c hc => hsub1 c (by simp at hc ⊢; exact .inr hc)⟩
          unfold subN at s1 ⊢
          simp only [List.map_cons, List.all_cons, Bool.and_eq_true] at s1
          exact s1.2
      refine ⟨⟨_, hback _ ⟨hx, M2, rfl, args, M0, n0, res, M1, n1, hsem, σ, bs, hL.loc ha' hsub1 hsub2, hin2, hk, htw, s1, s2, rfl, rfl⟩, fun c hc => ?_⟩, fun c hc hcn => ?_⟩
      · rw [get_app, get_app]
        have : VM.get (delM (VM.bump M2 bs) σ) c = VM.get (delM (VM.bump M' bs) σ) c := by
          by_cases hs : c ∈ σ.map (·.2)
          · rw [get_delM_in _ _ _ hs, get_delM_in _ _ _ hs]
          · rw [get_delM_eq _ _ _ hs, get_delM_eq _ _ _ hs, bump_loc (by rw [hM']; exact hc)]
        rw [this]
      · rw [get_app, ren_key fun z hz => ?_]
        · show VM.get (delM (VM.bump M' bs) σ) c = _
          rw [get_delM_eq _ _ _ fun hs => hc (hsub1 c hs), bump_same fun hs => hc (hsub2 c hs), hM']
        · cases hd : sig σ z.1 with
          | none => exact fun h => newZ hk htw hz hd (h ▸ fun ho => ho.elim (fun h => hcn h) fun h => hc h.2)
          | some d =>
            unfold rhoZ
            rw [hd]
            rintro rfl
            exact hc (hsub1 _ (List.mem_map.2 ⟨(z.1, d), sig_mem hd, rfl⟩))
    · exact h.elim
  · exact h.elim
theorem step_swapV (h1 : stepF Pg T N ents G ops false x i fx e m e1 m1) (h2 : stepF Pg T N ents G ops false y j fy e1 m1 e2 m2) (ha : x.apart ops y = true) (hc : okC (kls x) (kls y) = true) (hij : i ≠ j) (_hi : m i = none) (hj : m j = none) :
    ∃ e' m', stepF Pg T N ents G ops false y j fy e m e' m' ∧ stepF Pg T N ents G ops false x i fx e' m' e2 m2 := by
  obtain ⟨rx, dx, rfl, δx, ax, rfl, nx⟩ := h1
  obtain ⟨ry, dy, rfl, δy, ay, rfl, ny⟩ := h2
  obtain ⟨p1, p2, p3⟩ := Oper.apart_spec ha
  have ay' : actF Pg T ents G ops y e (δx.appF i m) j ry δy := actF_env (putF_ne p1) ay
  have ex : ∀ {m'}, actF Pg T ents G ops x e m' i rx δx → actF Pg T ents G ops x (putF y.dst ry e) m' i rx δx := actF_env fun t ht => (putF_ne p3 t ht).symm
  have hput := putF_comm (e := e) (d := y.dst) (d' := x.dst) (r := ry) (r' := rx) fun t h h' => p2 t h' h
  suffices h : actF Pg T ents G ops y e m j ry δy ∧ actF Pg T ents G ops x e (δy.appF j m) i rx δx ∧ δy.appF j (δx.appF i m) = δx.appF i (δy.appF j m) from
    ⟨_, _, ⟨ry, dy, rfl, δy, h.1, rfl, ny.trans (numsO_ag (putF_ne p1))⟩, ⟨rx, dx, hput, δx, ex h.2.1, h.2.2, nx.trans (numsO_ag fun t ht => (putF_ne p3 t ht).symm)⟩⟩
  have ox := actF_out ax
  have oy := actF_out ay'
  match hx : kls x, hy : kls y, hc with
  | 0, _, _ =>
    rw [hx] at ox
    obtain rfl : δx = .none := ox
    exact ⟨ay', actF_nomem (by rw [hx]; rfl) ax, rfl⟩
  | _ + 1, 0, _ =>
    rw [hy] at oy
    obtain rfl : δy = .none := oy
    exact ⟨actF_nomem (by rw [hy]; rfl) ay', ax, rfl⟩
  | 1, 1, _ =>
    rw [hx] at ox
    rw [hy] at oy
    refine ⟨actF_nomem (by rw [hy]; rfl) ay', actF_nomem (by rw [hx]; rfl) ax, ?_⟩
    rcases ox with rfl | ⟨b, rfl⟩
    · rfl
    · rcases oy with rfl | ⟨b', rfl⟩
      · rfl
      · exact fput_comm hij
  | 2, 1, _ =>
    rw [hx] at ox
    rw [hy] at oy
    refine ⟨actF_nomem (by rw [hy]; rfl) ay', ?_, ?_⟩
    · rcases oy with rfl | ⟨b', rfl⟩
      · exact ax
      · exact actF_read hx (sameB_new hj _) ax
    · rcases oy with rfl | ⟨b', rfl⟩
      · rfl
      · rcases ox with rfl | ⟨l, rfl, hl⟩
        · rfl
        · exact (bumpF_new hj hl).symm
  | 2, 2, _ =>
    rw [hx] at ox
    rw [hy] at oy
    rcases ox with rfl | ⟨l, rfl, hl⟩
    · rcases oy with rfl | ⟨l', rfl, hl'⟩
      · exact ⟨ay', ax, rfl⟩
      · exact ⟨ay', actF_read hx (sameB_bump _ _) ax, rfl⟩
    · rcases oy with rfl | ⟨l', rfl, hl'⟩
      · exact ⟨actF_read hy (sameB_back _ _) ay', ax, rfl⟩
      · exact ⟨actF_read hy (sameB_back _ _) ay', actF_read hx (sameB_bump _ _) ax, bumpF_comm _ _ _⟩
  | 1, _ + 2, h => cases h
  | 2, _ + 3, h => cases h
  | _ + 3, _ + 1, h => cases h
theorem actR_loc (h : actR Pg ents G ops o n e (VM.get M) fp r m') (ha : AgM (VM.get M2) (VM.get M) fp) : (∃ M2', actR Pg ents G ops o n e (VM.get M2) fp r (VM.get M2') ∧ ∀ c, VM.get M2 c = VM.get M c → VM.get M2' c = m' c) ∧ ∀ c, c ∉ fp → c ≠ n → m' c = VM.get M c := by
  obtain ⟨b, h1, h2, h3⟩ := h
  cases b with
  | true =>
    obtain ⟨⟨M2', p1, p2⟩, p3⟩ := refF_loc (h2 rfl) ha
    exact ⟨⟨M2', ⟨true, h1, fun _ => p1, fun h => nomatch h⟩, p2⟩, p3⟩
  | false =>
    obtain ⟨rfl, rfl⟩ := h3 rfl
    exact ⟨⟨M2, ⟨false, h1, fun h => (nomatch h), fun _ => ⟨rfl, rfl⟩⟩, fun _ hc => hc⟩, fun _ _ _ => rfl⟩
theorem step_loc (h : stepF Pg T N ents G ops rf o n fp e (VM.get M) e1 m1) (he : ∀ t ∈ o.looksAt ops, e t = e' t) (ha : ∀ c, c ∈ fp ∨ c = n → VM.get M2 c = VM.get M c) :
    ∃ r, e1 = putF o.dst r e ∧ (∃ M2', stepF Pg T N ents G ops rf o n fp e' (VM.get M2) (putF o.dst r e') (VM.get M2') ∧ ∀ c, c ∈ fp ∨ c = n → VM.get M2' c = m1 c) := by
  obtain ⟨r, hd, rfl, h⟩ := h
  refine ⟨r, rfl, ?_⟩
  cases rf with
  | false =>
    obtain ⟨δ, h1, rfl, rfl⟩ := h
    have hf := foot_actF h1
    refine ⟨δ.app n M2, ⟨r, hd, rfl, δ, actF_loc (fun c hc => ha c (.inl (by rw [numsO_ag he]; exact hc))) (actF_env he h1), Dl.get_app _ _ _, (numsO_ag he)⟩, fun c hc => ?_⟩
    rw [Dl.get_app]
    exact appF_in hf ha hc
  | true =>
    obtain ⟨⟨M2', p1, p2⟩, p3⟩ := actR_loc h (M2 := M2) fun c hc => ha c (.inl hc)
    exact ⟨M2', ⟨r, hd, rfl, actR_ag he p1⟩, fun c hc => p2 c (ha c hc)⟩
theorem step_out (h : stepF Pg T N ents G ops rf o n fp e (VM.get M) e1 m1) {c : Nat} (h1 : c ∉ fp) (h2 : c ≠ n) : m1 c = VM.get M c := by
  obtain ⟨r, hd, rfl, h⟩ := h
  cases rf with
  | false =>
    obtain ⟨δ, h3, rfl, rfl⟩ := h
    exact appF_out (foot_actF h3) h1 h2
  | true => exact (actR_loc h (M2 := M) fun _ _ => rfl).2 c h1 h2
theorem step_vm (h : stepF Pg T N ents G ops rf o n fp e (VM.get M) e1 m1) : ∃ M', VM.get M' = m1 := by
  obtain ⟨r, hd, rfl, h⟩ := h
  cases rf with
  | false => obtain ⟨δ, _, rfl, _⟩ := h; exact ⟨δ.app n M, Dl.get_app _ _ _⟩
  | true =>
    obtain ⟨b, h1, h2, h3⟩ := h
    cases b with
    | false => exact ⟨M, (h3 rfl).2.symm⟩
    | true =>
      have h := h2 rfl
      unfold refF at h
      split at h
      · split at h
        · unfold vArgsF rd at h
          split at h
          · obtain ⟨vs, _, h⟩ := rds_some h
            split at h
            · obtain ⟨_, M0, _, args, M0', n0, res, M1, n1, _, σ, bs, _, _, _, _, _, _, _, hm⟩ := h
              exact ⟨_, hm⟩
            · exact h.elim
          · exact h.elim
        · exact h.elim
      · exact h.elim
def disN (a b : List Nat) : Bool := a.all fun x => b.all fun y => !Nat.beq x y
theorem disN_out {a b : List Nat} (h : disN a b = true) : ∀ c, c ∈ a → c ∉ b := by
  intro c ha hb
  unfold disN at h
  rw [List.all_eq_true] at h
  have := h c ha
  rw [List.all_eq_true] at this
  simpa using this c hb
theorem step_swapD (h1 : stepF Pg T N ents G ops rx x i fx e (VM.get M) e1 m1) (h2 : stepF Pg T N ents G ops ry y j fy e1 m1 e2 m2) (ha : x.apart ops y = true) (hd : disN (i :: fx) (j :: fy) = true) :
    ∃ e' m', stepF Pg T N ents G ops ry y j fy e (VM.get M) e' m' ∧ stepF Pg T N ents G ops rx x i fx e' m' e2 m2 := by
  obtain ⟨p1, p2, p3⟩ := Oper.apart_spec ha
  have hdis := disN_out hd
  have cy : ∀ {c}, (c ∈ fx ∨ c = i) → c ∉ fy ∧ c ≠ j := fun {c} hc => by
    have := hdis c (by rcases hc with h | h <;> simp [h])
    simp only [List.mem_cons, not_or] at this
    exact ⟨this.2, this.1⟩
  have cx : ∀ {c}, (c ∈ fy ∨ c = j) → c ∉ fx ∧ c ≠ i := fun {c} hc => by
    refine ⟨fun h => ?_, fun h => ?_⟩
    · obtain ⟨q1, q2⟩ := cy (.inl h)
      exact hc.elim q1 q2
    · obtain ⟨q1, q2⟩ := cy (.inr h)
      exact hc.elim q1 q2
  obtain ⟨M1, rfl⟩ := step_vm h1
  obtain ⟨rvx, hdx, he1, h1b⟩ := h1
  have h1' : stepF Pg T N ents G ops rx x i fx e (VM.get M) e1 (VM.get M1) := ⟨rvx, hdx, he1, h1b⟩
  subst he1
  obtain ⟨rvy, rfl, M', q1, q2⟩ := step_loc (e' := e) (M2 := M) h2 (putF_ne p1) fun c hc => (step_out h1' (cx hc).1 (cx hc).2).symm
  obtain ⟨rvx', hx', M'', q3, q4⟩ := step_loc (e' := putF y.dst rvy e) (M2 := M') h1' (fun t ht => (putF_ne p3 t ht).symm) fun c hc => step_out q1 (cy hc).1 (cy hc).2
  have hput := putF_comm (e := e) (d := y.dst) (d' := x.dst) (r := rvy) (r' := rvx) fun t h h' => p2 t h' h
  refine ⟨_, _, q1, ?_⟩
  have hm : VM.get M'' = m2 := by
    funext c
    by_cases c1 : c ∈ fx ∨ c = i
    · rw [q4 c c1, step_out h2 (cy c1).1 (cy c1).2]
    · have c1' : c ∉ fx ∧ c ≠ i := ⟨fun h => c1 (.inl h), fun h => c1 (.inr h)⟩
      rw [step_out q3 c1'.1 c1'.2]
      by_cases c2 : c ∈ fy ∨ c = j
      · exact q2 c c2
      · have c2' : c ∉ fy ∧ c ≠ j := ⟨fun h => c2 (.inl h), fun h => c2 (.inr h)⟩
        rw [step_out q1 c2'.1 c2'.2, step_out h2 c2'.1 c2'.2, step_out h1' c1'.1 c1'.2]
  rw [hm] at q3
  obtain ⟨r3, hd3, he3, hb3⟩ := q3
  refine ⟨r3, hd3, ?_, hb3⟩
  rw [hput]
  rw [← he3]
  cases hxd : x.dst with
  | none => rfl
  | some d =>
    rw [hxd] at hx'
    have : rvx = rvx' := by
      have := congrFun hx' d
      simpa [putF, fput] using this
    rw [this]
theorem pure_step (hk : kls y = 0) (h : stepF Pg T N ents G ops false y j fy e m e2 m2) : m2 = m ∧ ∀ m', stepF Pg T N ents G ops false y j fy e m' e2 m' := by
  obtain ⟨r, hd, rfl, δ, h3, rfl, hfp⟩ := h
  have ho := actF_out h3
  rw [hk] at ho
  obtain rfl : δ = .none := ho
  exact ⟨rfl, fun m' => ⟨r, hd, rfl, .none, actF_nomem (by rw [hk]; rfl) h3, rfl, hfp⟩⟩
theorem step_swapP (h1 : stepF Pg T N ents G ops rx x i fx e (VM.get M) e1 m1) (h2 : stepF Pg T N ents G ops false y j fy e1 m1 e2 m2) (ha : x.apart ops y = true) (hk : kls y = 0) :
    ∃ e' m', stepF Pg T N ents G ops false y j fy e (VM.get M) e' m' ∧ stepF Pg T N ents G ops rx x i fx e' m' e2 m2 := by
  obtain ⟨p1, p2, p3⟩ := Oper.apart_spec ha
  obtain ⟨rfl, hp⟩ := pure_step hk h2
  obtain ⟨rvx, hdx, he1, h1b⟩ := h1
  have h1' : stepF Pg T N ents G ops rx x i fx e (VM.get M) e1 m2 := ⟨rvx, hdx, he1, h1b⟩
  subst he1
  obtain ⟨rvy, rfl, M', q1, _⟩ := step_loc (e' := e) (M2 := M) (hp (VM.get M)) (putF_ne p1) fun _ _ => rfl
  obtain ⟨hM', _⟩ := pure_step hk q1
  obtain ⟨rvx', hx', M'', q3, q4⟩ := step_loc (e' := putF y.dst rvy e) (M2 := M) h1' (fun t ht => (putF_ne p3 t ht).symm) fun _ _ => rfl
  have hput := putF_comm (e := e) (d := y.dst) (d' := x.dst) (r := rvy) (r' := rvx) fun t h h' => p2 t h' h
  have hm : VM.get M'' = m2 := by
    funext c
    by_cases c1 : c ∈ fx ∨ c = i
    · exact q4 c c1
    · have c1' : c ∉ fx ∧ c ≠ i := ⟨fun h => c1 (.inl h), fun h => c1 (.inr h)⟩
      rw [step_out q3 c1'.1 c1'.2, step_out h1' c1'.1 c1'.2]
  rw [hM'] at q1
  refine ⟨_, _, q1, ?_⟩
  rw [hm] at q3
  obtain ⟨r3, hd3, he3, hb3⟩ := q3
  refine ⟨r3, hd3, ?_, hb3⟩
  rw [hput, ← he3]
  cases hxd : x.dst with
  | none => rfl
  | some d =>
    rw [hxd] at hx'
    have : rvx = rvx' := by
      have := congrFun hx' d
      simpa [putF, fput] using this
    rw [this]
theorem step_swapQ (h1 : stepF Pg T N ents G ops false x i fx e (VM.get M) e1 m1) (h2 : stepF Pg T N ents G ops ry y j fy e1 m1 e2 m2) (ha : x.apart ops y = true) (hk : kls x = 0) :
    ∃ e' m', stepF Pg T N ents G ops ry y j fy e (VM.get M) e' m' ∧ stepF Pg T N ents G ops false x i fx e' m' e2 m2 := by
  obtain ⟨p1, p2, p3⟩ := Oper.apart_spec ha
  obtain ⟨rfl, hp⟩ := pure_step hk h1
  obtain ⟨rvx, hdx, he1, h1b⟩ := h1
  have h1' : stepF Pg T N ents G ops false x i fx e (VM.get M) e1 (VM.get M) := ⟨rvx, hdx, he1, h1b⟩
  subst he1
  obtain ⟨rvy, rfl, M', q1, q2⟩ := step_loc (e' := e) (M2 := M) h2 (putF_ne p1) fun _ _ => rfl
  obtain ⟨rvx', hx', M'', q3, _⟩ := step_loc (e' := putF y.dst rvy e) (M2 := M) h1' (fun t ht => (putF_ne p3 t ht).symm) fun _ _ => rfl
  obtain ⟨hM'', q5⟩ := pure_step hk q3
  have hput := putF_comm (e := e) (d := y.dst) (d' := x.dst) (r := rvy) (r' := rvx) fun t h h' => p2 t h' h
  have hm : VM.get M' = m2 := by
    funext c
    by_cases c1 : c ∈ fy ∨ c = j
    · exact q2 c c1
    · have c1' : c ∉ fy ∧ c ≠ j := ⟨fun h => c1 (.inl h), fun h => c1 (.inr h)⟩
      rw [step_out q1 c1'.1 c1'.2, step_out h2 c1'.1 c1'.2]
  rw [hm] at q1
  refine ⟨_, _, q1, ?_⟩
  obtain ⟨r3, hd3, he3, hb3⟩ := q5 m2
  refine ⟨r3, hd3, ?_, hb3⟩
  rw [hput, ← he3]
  cases hxd : x.dst with
  | none => rfl
  | some d =>
    rw [hxd] at hx'
    have : rvx = rvx' := by
      have := congrFun hx' d
      simpa [putF, fput] using this
    rw [this]
end
end Go.Proofs.YtmeeeigfjlbnkaaGreat
namespace Go.Proofs.YtmeeeigfjlbnkaaGreat
open Go.RowKit
structure SimS (N : Nat) (w0 : World) (ex0 : Anc) (P0 : Prot) (e : Nat → Option MV) (m : FM) (F : Nat → Prop) (a : Act) (w : World) : Prop where
  ex : ∃ P adr, InvM w P adr m ∧ EnvR w P adr e a ∧ (∀ c, F c → adr c = none) ∧ AdrOK w0 ex0 P0 w P adr ∧ (∀ b o, P b o → P0 b o ∨ w0.heap.size ≤ b ∨ ex0.ex b)
  fresh : ∀ c, F c → m c = none
  ge : ∀ c, F c → ex0.n0 ≤ c
  since : Since ex0.ex w0 w
  defers : a.defers = []
  size : a.tmps.size = N
section
variable {Pg : Program} {T : Tab} {N : Nat} {ents : List FuncId} {G : GS} {w0 w w' : World} {ex0 : Anc} {P0 P : Prot} {adr : Adr} {e e' : Nat → Option MV} {m m' : FM} {n : Nat} {F F' : Nat → Prop} {a : Act} {r : MV} {u : Value} {δ : Dl} {ops : Array Oper} {o : Oper}
theorem Sim.toS (h : Sim N w0 ex0 P0 e m n a w) : SimS N w0 ex0 P0 e m (n ≤ ·) a w := ⟨h.ex, h.fresh, fun _ hc => Nat.le_trans h.ge hc, h.since, h.defers, h.size⟩
theorem SimS.toSim (h : SimS N w0 ex0 P0 e m F a w) (hn : ∀ c, n ≤ c → F c) : Sim N w0 ex0 P0 e m n a w := by
  obtain ⟨P, adr, h1, h2, h3, h4, h5⟩ := h.ex
  exact ⟨⟨P, adr, h1, h2, fun c hc => h3 c (hn c hc), h4, h5⟩, fun c hc => h.fresh c (hn c hc), h.ge n (hn n (Nat.le_refl _)), h.since, h.defers, h.size⟩
theorem runF_ok (hS : SeatM Pg T ents G w0 ex0) (h : runF Pg T ents G o e m n r δ) (hI : InvM w P adr m) (hn : adr n = none) (hf : m n = none) (hE : EnvR w P adr e a) (hs : Since ex0.ex w0 w)
    {next : Act → World → Prop} {Q : Exit → Act → World → Prop} (hK : ∀ u w', Post1 w P adr m n r δ u w' → next (a.put o.dst u) w') : o.wp Pg a w next Q := by
  have plain : (eOp Pg T e m n o).runP (fun x => x = (r, δ)) → o.wp Pg a w next Q := by
    intro h
    obtain ⟨r', δ', hk, hr⟩ := eOp_ok hS.seat.tab hI hn hf hE h
    injection hk with hk1 hk2
    subst hk1; subst hk2
    unfold Oper.wp
    rcases hr with ⟨u, w', h1, h2⟩ | ⟨w', h1, h2⟩
    · rw [h1]; exact hK u w' h2
    · rw [h1]; exact hK undef w' h2
  obtain ⟨dst, op, ty, pos, after, guard⟩ := o
  cases op with
  | call c =>
    obtain ⟨callee, args, ats⟩ := c
    cases callee with
    | builtin b => exact plain h
    | invoke r n => exact plain h
    | value f =>
      replace h : (vCallF e m f args.toList).runP fun x => ents.contains x.1 = true ∧ SemC Pg G x.1 x.2.1 r ∧ δ = .bump x.2.2 ∧ ∀ c ∈ x.2.2, m c.1 ≠ none := h
      unfold vCallF at h
      obtain ⟨pf, h, hpf⟩ := rd_out hE h
      obtain ⟨ps, h, hps⟩ := rds_out hE h
      cases pf with
      | fn f0 caps =>
        replace h := Ask.bind_runP.1 h
        generalize hu : a.eval f = uf at hpf
        cases hpf with
        | val cs hfn =>
          cases hfn with
          | fn parts hpl hpr =>
            have hall := hps.app (RepVs.of_parts hpl hpr)
            obtain ⟨l', bs, h, P', h1, h2, h3, h4⟩ := frzs_vals h hall hI
            obtain ⟨hc, hsem, rfl, _⟩ := h
            replace hc : ents.contains f0 = true := hc
            replace hsem : SemC Pg G f0 l' r := hsem
            have hrun : (execOp a.eval ⟨dst, .call ⟨.value f, args, ats⟩, ty, pos, after, guard⟩).run Pg w = .ok (.enter f0 (args.toList.map a.eval ++ List.zipWith valM caps parts).toArray) w := by
              have he := hS.seat.enters f0 (by simpa using hc) (args.toList.map a.eval ++ List.zipWith valM caps parts).toArray w
              rw [← he]
              have hmap : args.map a.eval = (args.toList.map a.eval).toArray := arr_map _ _
              simp [execOp, resolve, hu, valM, MV.isAgg, Deferred.ofValue, invoke, hmap]
            unfold Oper.wp
            rw [hrun]
            refine (hsem w P' _ (hS.good w hs) h1.prot h4).mono ?_
            rintro e w' ⟨v, rfl, h5, h6⟩
            refine hK v w' ⟨protNew w w' P', adr, ?_, by exact h1.below h6, h2.trans (Keep.below h1.prot h6), fun _ _ => rfl, fun g hg => (by rw [hn] at hg; cases hg), (Since.of_below h6).weak fun _ e => e.elim, fun b o hb => ?_⟩
            · exact h5.keep ⟨fun _ _ h => h, fun _ _ _ => rfl, fun _ _ h => (nomatch h), fun _ _ _ _ h => nomatch h⟩
            · rcases hb with hb | hb
              · rcases h3 b o hb with hb | hb
                · exact .inl hb
                · exact .inr (.inr hb)
              · exact .inr (.inl hb.1)
      | _ => exact h.elim
  | _ => exact plain h
theorem bumpF_none : ∀ {l : List (Nat × Nat)} {m : FM} {c : Nat}, m c = none → bumpF m l c = none := by
  intro l m c h
  rw [bumpF_get, h]; rfl
theorem appF_none {c : Nat} (h : m c = none) (hc : c ≠ n) : δ.appF n m c = none := by
  cases δ with
  | none => exact h
  | new b => show fput _ _ _ c = none; rw [fput_ne _ _ hc]; exact h
  | upd c' l =>
    show (match m c' with | some b => fput m c' { b with l := l } | none => m) c = none
    cases hb : m c' with
    | none => exact h
    | some b =>
      show fput _ c' _ c = none
      rw [fput_ne]
      · exact h
      · rintro rfl; rw [h] at hb; cases hb
  | mv c' b =>
    show fput _ _ _ c = none
    rw [fput_ne _ _ hc]
    unfold fdel
    split
    · rfl
    · exact h
  | bump l => exact bumpF_none h
theorem SimS.post (hs : SimS N w0 ex0 P0 e m F a w) (_hI : InvM w P adr m) (hE : EnvR w P adr e a) (hn : ∀ c, F c → adr c = none) (hg : AdrOK w0 ex0 P0 w P adr) (hp : ∀ b o, P b o → P0 b o ∨ w0.heap.size ≤ b ∨ ex0.ex b)
    (hpo : Post1 w P adr m n r δ u w') {dst : Option Tmp} (hd : ∀ d, dst = some d → d < N) (hFn : F n) (hF : ∀ c, F' c → F c ∧ c ≠ n) : SimS N w0 ex0 P0 (putF dst r e) (δ.appF n m) F' (a.put dst u) w' := by
  obtain ⟨P', adr', h1, h2, h3, h4, h5, h6, h7⟩ := hpo
  have hE' : EnvR w' P' adr' e a := fun t v ht => by
    obtain ⟨u, e1, e2⟩ := hE t v ht
    exact ⟨u, e1, e2.keep h3⟩
  have hsize := hs.since.size
  have common : ∀ {e' : Nat → Option MV} {a' : Act}, EnvR w' P' adr' e' a' → a'.defers = [] → a'.tmps.size = N → SimS N w0 ex0 P0 e' (δ.appF n m) F' a' w' := by
    intro e' a' e1 e2 e3
    refine ⟨⟨P', adr', h2, e1, fun c hc => ?_, ⟨fun c g hc => ?_, fun c hc => (h4 c (by have := hs.ge n hFn; omega)).trans (hg.old c hc), hg.keep.trans h3⟩, fun b o ho => ?_⟩, fun c hc => ?_, fun c hc => hs.ge c (hF c hc).1, ?_, e2, e3⟩
    · rw [h4 c (hF c hc).2]; exact hn c (hF c hc).1
    · by_cases e : c = n
      · subst e
        rcases h5 g hc with h | ⟨c', h⟩
        · exact .inl (Nat.le_trans hsize h)
        · exact hg.in_ c' g h
      · rw [h4 c e] at hc; exact hg.in_ c g hc
    · rcases h7 b o ho with h | h | ⟨c', h⟩
      · exact hp b o h
      · exact .inr (.inl (Nat.le_trans hsize h))
      · rcases hg.in_ c' b h with h | h
        · exact .inr (.inl h)
        · exact .inr (.inr h)
    · exact appF_none (hs.fresh c (hF c hc).1) (hF c hc).2
    · exact ⟨h6.os.trans hs.since.os, h6.tape.trans hs.since.tape, h6.output.trans hs.since.output, Nat.le_trans hsize h6.size, fun b hb hne => (h6.block b (Nat.lt_of_lt_of_le hb hsize) (fun ⟨c, hc⟩ => by
        rcases hg.in_ c b hc with h | h
        · omega
        · exact hne h)).trans (hs.since.block b hb hne)⟩
  cases dst with
  | none => exact common hE' hs.defers hs.size
  | some d =>
    have hd' := hd d rfl
    refine common ?_ hs.defers (by simp [Act.put, hs.size])
    intro t v ht
    simp only [Act.put, Array.getElem?_setIfInBounds]
    replace ht : fput e d r t = some v := ht
    unfold fput at ht
    split at ht
    · rename_i e
      subst e
      injection ht with ht
      subst ht
      exact ⟨u, by simp [hs.size, hd'], h1⟩
    · rename_i hne
      rw [if_neg fun h => hne h.symm]
      exact hE' t v ht
theorem SimS.put (hd : a.defers = []) (hz : a.tmps.size = N) {w' : World} {P' : Prot} {adr' : Adr} (hI : InvM w' P' adr' m') (hE : EnvR w' P' adr' e a) (hr : RepV w' P' adr' r u) (h1 : ∀ c, F' c → adr' c = none) (h2 : AdrOK w0 ex0 P0 w' P' adr')
    (h3 : ∀ b o, P' b o → P0 b o ∨ w0.heap.size ≤ b ∨ ex0.ex b) (h4 : ∀ c, F' c → m' c = none) (h5 : ∀ c, F' c → ex0.n0 ≤ c) (h6 : Since ex0.ex w0 w') {dst : Option Tmp} (hdl : ∀ d, dst = some d → d < N) : SimS N w0 ex0 P0 (putF dst r e) m' F' (a.put dst u) w' := by
  cases dst with
  | none => exact ⟨⟨P', adr', hI, hE, h1, h2, h3⟩, h4, h5, h6, hd, hz⟩
  | some d =>
    have hd' := hdl d rfl
    refine ⟨⟨P', adr', hI, fun t v ht => ?_, h1, h2, h3⟩, h4, h5, h6, hd, by simp [Act.put, hz]⟩
    simp only [Act.put, Array.getElem?_setIfInBounds]
    replace ht : fput e d r t = some v := ht
    unfold fput at ht
    split at ht
    · rename_i e
      subst e
      injection ht with ht
      subst ht
      exact ⟨u, by simp [hz, hd'], hr⟩
    · rename_i hne
      rw [if_neg fun h => hne h.symm]
      exact hE t v ht
theorem stepF_out (hS : SeatM Pg T ents G w0 ex0) {rf : Bool} {fp : List Nat} {next : Act → World → Prop} {Q : Exit → Act → World → Prop} (hs : SimS N w0 ex0 P0 e m F a w) (hn : F n) (hn2 : n + 1 ∈ fp → F (n + 1)) (hF0 : ∀ c, F' c → F c ∧ ¬ ownN n fp c)
    (h : stepF Pg T N ents G ops rf o n fp e m e' m') (hk : ∀ a w, SimS N w0 ex0 P0 e' m' F' a w → next a w) :
    if Region.wanted o (yielded ops a.tmps) then o.wp Pg a w next Q ∨ (o.asks Pg a w ∧ LetsOut Q) else next (a.put o.dst undef) w := by
  obtain ⟨r, hd, rfl, h⟩ := h
  have hF : ∀ c, F' c → F c ∧ c ≠ n := fun c hc => ⟨(hF0 c hc).1, fun e => (hF0 c hc).2 (.inl e)⟩
  obtain ⟨P, adr, hI, hE, ha1, ha2, ha3⟩ := hs.ex
  have wanted : ∀ {b}, gdF ops o e = some b → Region.wanted o (yielded ops a.tmps) = b := by
    intro b hb
    unfold gdF at hb
    split at hb
    · rename_i hg
      injection hb with hb
      simp [Region.wanted, hg, ← hb]
    · rename_i j want hg
      split at hb
      · cases hb
      · rename_i s hj
        split at hb
        · rename_i t ht
          injection hb with hb
          obtain ⟨v, hv1, hv2⟩ := hE s _ ht
          have hv := hv2.bool_
          subst hv
          have hy : yielded ops a.tmps j = some t := by simp [yielded, hj, hv1]
          simp only [Region.wanted, hg, hy, ← hb]
          cases t <;> cases want <;> rfl
        · rename_i ht
          injection hb with hb
          obtain ⟨v, hv1, hv2⟩ := hE s _ ht
          have hv : v = undef := hv2.undef_
          subst hv
          have hy : yielded ops a.tmps j = none := by simp [yielded, hj, hv1, undef]
          simp [Region.wanted, hg, hy, ← hb]
        · cases hb
  cases rf with
  | false =>
    obtain ⟨δ, ⟨b, hb, h1, h2⟩, rfl, _⟩ := h
    rw [wanted hb]
    cases b with
    | true =>
      rw [if_pos rfl]
      refine .inl (runF_ok hS (h1 rfl) hI (ha1 n hn) (hs.fresh n hn) hE hs.since fun u w' hp => hk _ _ ?_)
      exact hs.post hI hE ha1 ha2 ha3 hp hd hn hF
    | false =>
      rw [if_neg (by simp)]
      obtain ⟨rfl, rfl⟩ := h2 rfl
      exact hk _ _ (hs.post (δ := .none) hI hE ha1 ha2 ha3 (Post1.pure hI (ha1 n hn) .undef) hd hn hF)
  | true =>
    obtain ⟨b, hb, h1, h2⟩ := h
    rw [wanted hb]
    cases b with
    | false =>
      rw [if_neg (by simp)]
      obtain ⟨rfl, rfl⟩ := h2 rfl
      exact hk _ _ (hs.post (δ := .none) hI hE ha1 ha2 ha3 (Post1.pure hI (ha1 n hn) .undef) hd hn hF)
    | true =>
      rw [if_pos rfl]
      have h := h1 rfl
      obtain ⟨dst, op, ty, pos, after, guard⟩ := o
      unfold refF at h
      cases op with
      | call c =>
        obtain ⟨callee, args, ats⟩ := c
        cases callee with
        | value f =>
          replace h : (vArgsF e f args.toList).runP fun x => ents.contains x.1 = true ∧ ∃ M, VM.get M = m ∧ vCallZ Pg G M n x.1 x.2 fp fun r' M' => r' = r ∧ VM.get M' = m' := h
          unfold vArgsF at h
          obtain ⟨pf, h, hpf⟩ := rd_out hE h
          obtain ⟨ps, h, hps⟩ := rds_out hE h
          cases pf with
          | fn f0 caps =>
            generalize hu : a.eval f = uf at hpf
            cases hpf with
            | val cs hfn =>
              cases hfn with
              | fn parts hpl hpr =>
                have hall := hps.app (RepVs.of_parts hpl hpr)
                replace h : ents.contains f0 = true ∧ ∃ M, VM.get M = m ∧ vCallZ Pg G M n f0 (ps ++ caps) fp fun r' M' => r' = r ∧ VM.get M' = m' := h
                obtain ⟨hc, M, rfl, hz⟩ := h
                have hrun : (execOp a.eval ⟨dst, .call ⟨.value f, args, ats⟩, ty, pos, after, guard⟩).run Pg w = .ok (.enter f0 (args.toList.map a.eval ++ List.zipWith valM caps parts).toArray) w := by
                  have he := hS.seat.enters f0 (by simpa using hc) (args.toList.map a.eval ++ List.zipWith valM caps parts).toArray w
                  rw [← he]
                  have hmap : args.map a.eval = (args.toList.map a.eval).toArray := arr_map _ _
                  simp [execOp, resolve, hu, valM, MV.isAgg, Deferred.ofValue, invoke, hmap]
                refine .inl ?_
                unfold Oper.wp
                rw [hrun]
                refine (vCallZ_ok hS hz hs.since (hs.fresh n hn) (hs.ge n hn) (ha1 n hn) (fun h => hs.fresh _ (hn2 h)) (fun h => ha1 _ (hn2 h)) hI hE ha2 ha3 hall).mono ?_
                rintro e w' ⟨v, rfl, r', M', ⟨rfl, rfl⟩, P', adr1, q1, q2, q3, q8, q4, q5, q6, q7⟩
                exact hk _ _ (SimS.put hs.defers hs.size q1 q2 q3 (fun c hc => (q8 c (hF0 c hc).2).trans (ha1 c (hF c hc).1)) q4 q5 (fun c hc => q6 c (hF0 c hc).2 (hs.fresh c (hF c hc).1)) (fun c hc => hs.ge c (hF c hc).1) q7 hd)
          | _ => exact h.elim
        | _ => exact h.elim
      | _ => exact h.elim
end
end Go.Proofs.YtmeeeigfjlbnkaaGreat
namespace Go.Proofs.YtmeeeigfjlbnkaaGreat
open Go.RowKit
section
variable (Pg : Program) (T : Tab) (N : Nat) (ents : List FuncId) (G : GS)
structure Dop where
  k : Nat
  n : Nat
  rf : Bool
  fp : List Nat
def runL (ops : Array Oper) : List Dop → (Nat → Option MV) → FM → (Nat → Option MV) → FM → Prop
  | [], e, m, e', m' => e = e' ∧ m = m'
  | x :: L, e, m, e', m' => ∃ o e1 m1, ops[x.k]? = some o ∧ stepF Pg T N ents G ops x.rf o x.n x.fp e m e1 m1 ∧ runL ops L e1 m1 e' m'
end
def okC2 (x y : Dop) (a b : Oper) : Bool := (!x.rf && !y.rf && okC (kls a) (kls b)) || (disN (x.n :: x.fp) (y.n :: y.fp) || (!y.rf && Nat.beq (kls b) 0 || !x.rf && Nat.beq (kls a) 0))
def okR (ops : Array Oper) (x y : Dop) : Bool := match ops[x.k]?, ops[y.k]? with
  | some a, some b => ((a.apart ops b && okC2 x y a b) || pathO ops 8 y.k x.k) && a.after.toList.all (fun e => !Region.binds .any e || !Nat.beq e.on y.k) && !Nat.beq x.k y.k
  | _, _ => false
def okS (ops : Array Oper) (x : Nat) : Bool := match ops[x]? with
  | some a => a.after.toList.all fun e => !Region.binds .any e || (Nat.blt e.on ops.size && !Nat.beq e.on x)
  | none => false
def okLs (ops : Array Oper) : List Dop → Bool
  | [] => true
  | x :: L => okS ops x.k && L.all (fun y => okR ops x y) && okLs ops L
def okTwo (L : List Dop) (n : Nat) : Bool := L.all fun x => !x.fp.any (Nat.beq (x.n + 1)) || (Nat.blt (x.n + 1) n && L.all fun y => !Nat.beq y.n (x.n + 1))
def okDraw (ops : Array Oper) (L : List Dop) (n : Nat) : Bool := okLs ops L && (List.range ops.size).all (fun k => (L.map (·.k)).contains k) && Nat.ble L.length ops.size && okTwo L n
def Dop.own (x : Dop) (c : Nat) : Prop := ownN x.n x.fp c
def Dj (x y : Dop) : Prop := ∀ c, x.own c → ¬ y.own c
theorem okTwo_out {L : List Dop} {n : Nat} (h : okTwo L n = true) {x : Dop} (hx : x ∈ L) (h2 : x.n + 1 ∈ x.fp) : x.n + 1 < n ∧ ∀ y ∈ L, y.n ≠ x.n + 1 := by
  unfold okTwo at h
  rw [List.all_eq_true] at h
  have := h x hx
  rw [Bool.or_eq_true] at this
  rcases this with h3 | h3
  · have : x.fp.any (Nat.beq (x.n + 1)) = true := List.any_eq_true.2 ⟨_, h2, by simp⟩
    rw [this] at h3; cases h3
  · rw [Bool.and_eq_true, List.all_eq_true] at h3
    refine ⟨by simpa [Nat.blt_eq] using h3.1, fun y hy e => ?_⟩
    have := h3.2 y hy
    rw [e] at this
    simp at this
theorem dj_of {L : List Dop} {n : Nat} (h : okTwo L n = true) (hd : (L.map (·.n)).Nodup) : L.Pairwise Dj := by
  have key : ∀ {x y : Dop}, x ∈ L → y ∈ L → x.n ≠ y.n → Dj x y := by
    intro x y hx hy hne c h1 h2
    rcases h1 with h1 | ⟨h1, h4⟩ <;> rcases h2 with h2 | ⟨h2, h3⟩
    · exact hne (by omega)
    · exact (okTwo_out h hy (h2 ▸ h3)).2 x hx (by omega)
    · exact (okTwo_out h hx (h1 ▸ h4)).2 y hy (by omega)
    · exact hne (by omega)
  have hp : L.Pairwise fun x y => x.n ≠ y.n := List.pairwise_map.1 hd
  exact List.Pairwise.imp_of_mem (fun hx hy hne => key hx hy hne) hp
theorem okLs_spec {ops : Array Oper} : ∀ {L : List Dop}, okLs ops L = true → L.Pairwise (fun x y => okR ops x y = true) ∧ ∀ x ∈ L, okS ops x.k = true
  | [], _ => ⟨.nil, fun _ h => nomatch h⟩
  | x :: L, h => by
    simp only [okLs, Bool.and_eq_true, List.all_eq_true] at h
    obtain ⟨h1, h2⟩ := okLs_spec h.2
    refine ⟨.cons h.1.2 h1, fun y hy => ?_⟩
    rcases List.mem_cons.1 hy with rfl | hy
    · exact h.1.1
    · exact h2 y hy
section
variable {Pg : Program} {T : Tab} {N : Nat} {ents : List FuncId} {G : GS} {ops : Array Oper} {e e' : Nat → Option MV} {m m' : FM} {listed : Array Bool}
theorem step_swap {x y : Dop} {a b : Oper} {e1 e2 : Nat → Option MV} {m1 m2 : FM} (hm : ∃ M, VM.get M = m) (h1 : stepF Pg T N ents G ops x.rf a x.n x.fp e m e1 m1) (h2 : stepF Pg T N ents G ops y.rf b y.n y.fp e1 m1 e2 m2) (ha : a.apart ops b = true) (hc : okC2 x y a b = true) (hij : x.n ≠ y.n) (hi : m x.n = none) (hj : m y.n = none) :
    ∃ e' m', stepF Pg T N ents G ops y.rf b y.n y.fp e m e' m' ∧ stepF Pg T N ents G ops x.rf a x.n x.fp e' m' e2 m2 := by
  obtain ⟨M, rfl⟩ := hm
  unfold okC2 at hc
  rw [Bool.or_eq_true] at hc
  rcases hc with hc | hc
  · simp only [Bool.and_eq_true, Bool.not_eq_true'] at hc
    obtain ⟨⟨q1, q2⟩, q3⟩ := hc
    rw [q1] at h1 ⊢
    rw [q2] at h2 ⊢
    exact step_swapV h1 h2 ha q3 hij hi hj
  · rw [Bool.or_eq_true] at hc
    rcases hc with hc | hc
    · exact step_swapD h1 h2 ha hc
    · rw [Bool.or_eq_true] at hc
      rcases hc with hc | hc
      · simp only [Bool.and_eq_true, Bool.not_eq_true'] at hc
        obtain ⟨q1, q2⟩ := hc
        rw [q1] at h2 ⊢
        exact step_swapP h1 h2 ha (Nat.eq_of_beq_eq_true q2)
      · simp only [Bool.and_eq_true, Bool.not_eq_true'] at hc
        obtain ⟨q1, q2⟩ := hc
        rw [q1] at h1 ⊢
        exact step_swapQ h1 h2 ha (Nat.eq_of_beq_eq_true q2)
theorem stepF_none {o : Oper} {rf : Bool} {fp : List Nat} {n c : Nat} (hm0 : ∃ M, VM.get M = m) (h : stepF Pg T N ents G ops rf o n fp e m e' m') (hm : m c = none) (hc0 : ¬ ownN n fp c) : m' c = none := by
  have hc : c ≠ n := fun e => hc0 (.inl e)
  obtain ⟨r, _, _, h⟩ := h
  cases rf with
  | false => obtain ⟨δ, _, rfl, _⟩ := h; exact appF_none hm hc
  | true =>
    obtain ⟨M0, rfl⟩ := hm0
    obtain ⟨b, h1, h2, h3⟩ := h
    cases b with
    | false => rw [(h3 rfl).2]; exact hm
    | true =>
      have h := h2 rfl
      unfold refF at h
      split at h
      · split at h
        · unfold vArgsF rd at h
          split at h
          · obtain ⟨vs, _, h⟩ := rds_some h
            split at h
            · obtain ⟨_, M, hM, args, M0', n0, res, M1, n1, _, σ, bs, hL, hin, hk, htw, _, _, _, hm'⟩ := h
              rw [← hm', get_app, ren_key fun z hz => ?_]
              · cases hx : VM.get (delM (VM.bump M bs) σ) c with
                | none => rfl
                | some b =>
                  obtain ⟨h4, _⟩ := get_delM σ _ c b hx
                  obtain ⟨b', h5⟩ := bump_get h4
                  rw [hM, hm] at h5; cases h5
              · cases hd : sig σ z.1 with
                | none => exact fun h => newZ hk htw hz hd (h ▸ hc0)
                | some d =>
                unfold rhoZ
                rw [hd]
                rintro rfl
                obtain ⟨b', hb'⟩ := allIn_mem hin z.1 d (sig_mem hd)
                rw [hM, hm] at hb'; cases hb'
            · exact h.elim
          · exact h.elim
        · exact h.elim
      · exact h.elim
theorem runL_front : ∀ {L1 : List Dop} {L2 : List Dop} {k : Dop} {e : Nat → Option MV} {m : FM}, (∃ M, VM.get M = m) → runL Pg T N ents G ops (L1 ++ k :: L2) e m e' m' →
    (∀ x ∈ L1, ∃ a b, ops[x.k]? = some a ∧ ops[k.k]? = some b ∧ a.apart ops b = true ∧ okC2 x k a b = true) → (∀ x ∈ L1, Dj x k ∧ m x.n = none) → m k.n = none → L1.Pairwise Dj →
    ∃ o e1 m1, ops[k.k]? = some o ∧ stepF Pg T N ents G ops k.rf o k.n k.fp e m e1 m1 ∧ runL Pg T N ents G ops (L1 ++ L2) e1 m1 e' m'
  | [], _, _, _, _, _, h, _, _, _, _ => h
  | x :: L1, L2, k, e, m, hv, h, hc, hn, hk, hd => by
    obtain ⟨o, e1, m1, h1, h2, h3⟩ := h
    obtain ⟨hx1, hx2⟩ := hn x (by simp)
    obtain ⟨hd1, hd2⟩ := List.pairwise_cons.1 hd
    have no : ∀ {y : Dop}, Dj x y → ¬ ownN x.n x.fp y.n := fun {y} hy h => hy y.n h (.inl rfl)
    have hv1 : ∃ M, VM.get M = m1 := by obtain ⟨M, rfl⟩ := hv; exact step_vm h2
    obtain ⟨o', e2, m2, h4, h5, h6⟩ := runL_front hv1 h3 (fun y hy => hc y (by simp [hy])) (fun y hy => ⟨(hn y (by simp [hy])).1, stepF_none hv h2 (hn y (by simp [hy])).2 (no (hd1 y hy))⟩) (stepF_none hv h2 hk (no hx1)) hd2
    obtain ⟨a, b, p1, p2, p3, p4⟩ := hc x (by simp)
    rw [h1] at p1; injection p1 with p1; subst p1
    rw [h4] at p2; injection p2 with p2; subst p2
    obtain ⟨e3, m3, q1, q2⟩ := step_swap hv h2 h5 p3 p4 (fun e => hx1 x.n (.inl rfl) (.inl e)) hx2 hk
    exact ⟨o', e3, m3, h4, q1, o, e2, m2, h1, q2, h6⟩
def ClosedO (ops : Array Oper) (listed : Array Bool) : Prop := ∀ k o, ops[k]? = some o → listed.getD k false = true → ∀ e ∈ o.after.toList, Region.binds .any e = true → listed.getD e.on false = true
theorem pathO_false (hc : ClosedO ops listed) {x : Nat} (hx : listed.getD x false = false) : ∀ (f y : Nat) (o : Oper), ops[y]? = some o → (∀ e ∈ o.after.toList, Region.binds .any e = true → listed.getD e.on false = true) → pathO ops f y x = false
  | 0, _, _, _, _ => rfl
  | f + 1, y, o, h1, h2 => by
    unfold pathO
    rw [h1]
    show (o.after.toList.any _) = false
    rw [List.any_eq_false]
    intro e he
    cases hb : Region.binds .any e with
    | false => simp
    | true =>
      have hl := h2 e he hb
      have hne : Nat.beq e.on x = false := by
        cases hh : Nat.beq e.on x with
        | false => rfl
        | true => rw [Nat.eq_of_beq_eq_true hh, hx] at hl; cases hl
      cases ho : ops[e.on]? with
      | none =>
        have : pathO ops f e.on x = false := by
          cases f with
          | zero => rfl
          | succ f => unfold pathO; rw [ho]
        simp [hne, this]
      | some o' =>
        have := pathO_false hc hx f e.on o' ho (hc _ _ ho hl)
        simp [hne, this]
theorem getD_set {l : Array Bool} {i k : Nat} {d : Bool} (hi : i < l.size) : (l.setIfInBounds i true).getD k d = if i = k then true else l.getD k d := by
  by_cases h : i = k
  · subst h; simp [Array.getD, hi]
  · simp [Array.getD_eq_getD_getElem?, h]
theorem ready_out {i : Nat} (h : i ∈ Region.ready .any ops listed) : listed.getD i true = false ∧ ∃ o, ops[i]? = some o ∧ ∀ e ∈ o.after.toList, Region.binds .any e = true → listed.getD e.on false = true := by
  simp only [Region.ready, List.mem_filter, List.mem_range, Bool.and_eq_true, Bool.not_eq_true'] at h
  obtain ⟨h1, h2, h3⟩ := h
  have ho : ops[i]? = some ops[i] := by simp [h1]
  refine ⟨h2, ops[i], ho, fun e he hb => ?_⟩
  rw [ho] at h3
  simp only [Option.map_some, Option.getD_some, Array.all_eq_true'] at h3
  have := h3 e (by simpa using he)
  simpa [hb] using this
theorem ready_in {i : Nat} {o : Oper} (h1 : listed.getD i true = false) (h2 : ops[i]? = some o) (h3 : ∀ e ∈ o.after.toList, Region.binds .any e = true → listed.getD e.on false = true) : i ∈ Region.ready .any ops listed := by
  simp only [Region.ready, List.mem_filter, List.mem_range, Bool.and_eq_true, Bool.not_eq_true']
  refine ⟨(Array.getElem?_eq_some_iff.1 h2).1, h1, ?_⟩
  rw [h2]
  simp only [Option.map_some, Option.getD_some, Array.all_eq_true']
  intro e he
  cases hb : Region.binds .any e with
  | false => rfl
  | true => simp [h3 e (by simpa using he) hb]
end
end Go.Proofs.YtmeeeigfjlbnkaaGreat
namespace Go.Proofs.YtmeeeigfjlbnkaaGreat
open Go.RowKit
section
variable {Pg : Program} {T : Tab} {N : Nat} {ents : List FuncId} {G : GS} {ops : Array Oper} {e' : Nat → Option MV} {m' : FM} {w0 : World} {ex0 : Anc} {P0 : Prot} {Q : Exit → Act → World → Prop} {Z : Nat → Prop}
theorem okR_out {x y : Dop} (h : okR ops x y = true) : ∃ a b, ops[x.k]? = some a ∧ ops[y.k]? = some b ∧ ((a.apart ops b = true ∧ okC2 x y a b = true) ∨ pathO ops 8 y.k x.k = true) ∧ (∀ e ∈ a.after.toList, Region.binds .any e = true → e.on ≠ y.k) ∧ x.k ≠ y.k := by
  unfold okR at h
  split at h
  · rename_i a b ha hb
    simp only [Bool.and_eq_true, Bool.or_eq_true, List.all_eq_true, Bool.not_eq_true'] at h
    obtain ⟨⟨h1, h2⟩, h3⟩ := h
    refine ⟨a, b, ha, hb, h1, fun e he hbd hh => ?_, fun hh => ?_⟩
    · rcases h2 e he with h | h
      · rw [hbd] at h; cases h
      · rw [hh] at h; simp at h
    · rw [hh] at h3; simp at h3
  · cases h
theorem okS_out {x : Nat} (h : okS ops x = true) : ∃ a, ops[x]? = some a ∧ ∀ e ∈ a.after.toList, Region.binds .any e = true → e.on < ops.size ∧ e.on ≠ x := by
  unfold okS at h
  split at h
  · rename_i a ha
    simp only [List.all_eq_true, Bool.or_eq_true, Bool.and_eq_true, Bool.not_eq_true'] at h
    refine ⟨a, ha, fun e he hb => ?_⟩
    rcases h e he with h | ⟨h1, h2⟩
    · rw [hb] at h; cases h
    · refine ⟨by simpa [Nat.blt_eq] using h1, fun hh => ?_⟩
      subst hh; simp at h2
  · cases h
theorem getD_any {l : Array Bool} {k : Nat} {d d' : Bool} (h : k < l.size) : l.getD k d = l.getD k d' := by simp [Array.getD, h]
theorem any_ok (hS : SeatM Pg T ents G w0 ex0) (hQ : ∀ a w, SimS N w0 ex0 P0 e' m' Z a w → Q .normal a w) : ∀ (fuel : Nat) (L : List Dop) {listed : Array Bool} {e : Nat → Option MV} {m : FM} {a : Act} {w : World},
    (∃ M, VM.get M = m) → runL Pg T N ents G ops L e m e' m' → L.Pairwise (fun x y => okR ops x y = true) → (∀ x ∈ L, okS ops x.k = true) → L.Pairwise Dj → (∀ x ∈ L, ∀ c, x.own c → ¬ Z c) →
    SimS N w0 ex0 P0 e m (fun c => (∃ x ∈ L, x.own c) ∨ Z c) a w → (∀ k, k < ops.size → (listed.getD k true = false ↔ k ∈ L.map (·.k))) → listed.size = ops.size → ClosedO ops listed → L.length ≤ fuel → wpAny Pg .any ops Q fuel listed a w := by
  intro fuel
  induction fuel with
  | zero =>
    intro L listed e m a w hv hr hP hA hD hZ hs hl hsz hc hlen
    obtain rfl : L = [] := List.length_eq_zero_iff.1 (by omega)
    obtain ⟨rfl, rfl⟩ := hr
    refine wpAny_done (List.eq_nil_iff_forall_not_mem.2 fun i hi => ?_) (hQ a w (by simpa using hs)) 0
    obtain ⟨h1, o, h2, _⟩ := ready_out hi
    exact absurd ((hl i (Array.getElem?_eq_some_iff.1 h2).1).1 h1) (by simp)
  | succ fuel ih =>
    intro L listed e m a w hv hr hP hA hD hZ hs hl hsz hc hlen
    have hunl : ∀ x ∈ L, listed.getD x.k true = false ∧ listed.getD x.k false = false := by
      intro x hx
      obtain ⟨o, ho, _⟩ := okS_out (hA x hx)
      have hlt := (Array.getElem?_eq_some_iff.1 ho).1
      have h1 := (hl x.k hlt).2 (List.mem_map_of_mem hx)
      exact ⟨h1, by rw [getD_any (d' := true) (by omega)]; exact h1⟩
    refine ⟨fun h0 => ?_, fun i hi => ?_⟩
    · cases L with
      | nil =>
        obtain ⟨rfl, rfl⟩ := hr
        exact hQ a w (by simpa using hs)
      | cons x L =>
        exfalso
        obtain ⟨o, ho, h2⟩ := okS_out (hA x (by simp))
        have : x.k ∈ Region.ready .any ops listed := ready_in (hunl x (by simp)).1 ho fun ed he hb => by
          obtain ⟨h3, h4⟩ := h2 ed he hb
          rw [getD_any (d' := true) (by omega)]
          cases hh : listed.getD ed.on true with
          | true => rfl
          | false =>
            exfalso
            have := (hl ed.on h3).1 hh
            simp only [List.map_cons, List.mem_cons] at this
            rcases this with h5 | h5
            · exact h4 h5
            · obtain ⟨y, hy, hyk⟩ := List.mem_map.1 h5
              obtain ⟨a', b', p1, p2, p3, p4, p5⟩ := okR_out ((List.pairwise_cons.1 hP).1 y hy)
              rw [ho] at p1
              injection p1 with p1
              subst p1
              exact p4 ed he hb hyk.symm
        rw [h0] at this
        cases this
    · obtain ⟨h1, o, ho, hready⟩ := ready_out hi
      have hlt := (Array.getElem?_eq_some_iff.1 ho).1
      have hmem := (hl i hlt).1 h1
      obtain ⟨k, hk, rfl⟩ := List.mem_map.1 hmem
      obtain ⟨L1, L2, rfl⟩ := List.append_of_mem hk
      have hP1 := List.pairwise_append.1 hP
      have hD1 := List.pairwise_append.1 hD
      have hD2 := List.pairwise_cons.1 hD1.2.1
      have hP2 := List.pairwise_cons.1 hP1.2.1
      have hne1 : ∀ x ∈ L1, Dj x k := fun x hx => hD1.2.2 x hx k (by simp)
      have hne2 : ∀ x ∈ L2, Dj k x := fun x hx => hD2.1 x hx
      obtain ⟨o', e1, m1, p1, p2, p3⟩ := runL_front hv hr (fun x hx => by
          obtain ⟨a', b', q1, q2, q3, _⟩ := okR_out (hP1.2.2 x hx k (by simp))
          refine ⟨a', b', q1, q2, ?_⟩
          rcases q3 with q3 | q3
          · exact q3
          · rw [pathO_false hc (hunl x (by simp [hx])).2 8 k.k o ho hready] at q3; cases q3)
        (fun x hx => ⟨hne1 x hx, hs.fresh _ (.inl ⟨x, by simp [hx], .inl rfl⟩)⟩) (hs.fresh _ (.inl ⟨k, by simp, .inl rfl⟩)) hD1.1
      rw [ho] at p1
      injection p1 with p1
      subst p1
      have hv1 : ∃ M, VM.get M = m1 := by obtain ⟨M, rfl⟩ := hv; exact step_vm p2
      unfold wpOp
      rw [ho]
      refine stepF_out (F' := fun c => (∃ x ∈ L1 ++ L2, x.own c) ∨ Z c) hS hs (.inl ⟨k, by simp, .inl rfl⟩) (fun h => .inl ⟨k, by simp, .inr ⟨rfl, h⟩⟩) (fun c hc' => ?_) p2 fun a' w' hs' => ?_
      · rcases hc' with ⟨x, hx, ho'⟩ | hc'
        · rcases List.mem_append.1 hx with hx | hx
          · exact ⟨.inl ⟨x, by simp [hx], ho'⟩, hne1 x hx c ho'⟩
          · exact ⟨.inl ⟨x, by simp [hx], ho'⟩, fun h => hne2 x hx c h ho'⟩
        · exact ⟨.inr hc', fun hh => hZ k hk c hh hc'⟩
      · have hnk : ∀ j, j ∈ (L1 ++ L2).map (·.k) → k.k ≠ j := by
          intro j hj
          obtain ⟨y, hy, rfl⟩ := List.mem_map.1 hj
          rcases List.mem_append.1 hy with hy | hy
          · obtain ⟨_, _, _, _, _, _, q⟩ := okR_out (hP1.2.2 y hy k (by simp)); exact fun h => q h.symm
          · obtain ⟨_, _, _, _, _, _, q⟩ := okR_out (hP2.1 y hy); exact q
        refine ih (L1 ++ L2) hv1 p3 ?_ (fun x hx => hA x ?_) ?_ (fun x hx => hZ x ?_) hs' (fun j hj => ?_) (by simpa using hsz) ?_ ?_
        · exact List.pairwise_append.2 ⟨hP1.1, hP2.2, fun x hx y hy => hP1.2.2 x hx y (by simp only [List.mem_cons]; exact .inr hy)⟩
        · rcases List.mem_append.1 hx with hx | hx <;> simp [hx]
        · exact List.pairwise_append.2 ⟨hD1.1, hD2.2, fun x hx y hy => hD1.2.2 x hx y (by simp only [List.mem_cons]; exact .inr hy)⟩
        · rcases List.mem_append.1 hx with hx | hx <;> simp [hx]
        · rw [getD_set (by omega)]
          by_cases hkj : k.k = j
          · rw [if_pos hkj]
            exact ⟨fun h => (by cases h), fun h => absurd hkj (hnk j h)⟩
          · rw [if_neg hkj, hl j hj]
            simp only [List.map_append, List.map_cons, List.mem_append, List.mem_cons]
            constructor
            · rintro (h | h | h)
              · exact .inl h
              · exact absurd h.symm hkj
              · exact .inr h
            · rintro (h | h)
              · exact .inl h
              · exact .inr (.inr h)
        · intro j oj hj hjl ed he hb
          rw [getD_set (by omega)] at hjl ⊢
          split
          · rfl
          · split at hjl
            · rename_i hkj
              subst hkj
              rw [ho] at hj
              injection hj with hj
              subst hj
              exact hready ed he hb
            · exact hc j oj hj hjl ed he hb
        · simp only [List.length_append, List.length_cons] at hlen ⊢
          omega
end
end Go.Proofs.YtmeeeigfjlbnkaaGreat
namespace Go.Proofs.YtmeeeigfjlbnkaaGreat
open Go.RowKit
section
variable {Pg : Program} {T : Tab} {N : Nat} {ents : List FuncId} {G : GS} {ops : Array Oper} {E : VE} {M : VM} {n : Nat} {o : Oper}
theorem vCallF_dom {e : Nat → Option MV} {m : FM} {f : Operand} {args : List Operand} {K : FuncId × List MV × List (Nat × Nat) → Prop} (h : (vCallF e m f args).runP K) : (vCallF e m f args).runP fun x => K x ∧ ∀ c ∈ x.2.2, m c.1 ≠ none := by
  unfold vCallF at h ⊢
  unfold rd at h ⊢
  split at h
  · have key : ∀ (az : List Operand) (k : List MV → Ask (FuncId × List MV × List (Nat × Nat))) (K K' : FuncId × List MV × List (Nat × Nat) → Prop), (∀ vs, (k vs).runP K → (k vs).runP K') → (rds e az k).runP K → (rds e az k).runP K' := by
      intro az
      induction az with
      | nil => intro k K K' hk h; exact hk _ h
      | cons x az ih =>
        intro k K K' hk h
        unfold rds rd at h ⊢
        split at h
        · exact ih _ K K' (fun vs h => hk _ h) h
        · exact h.elim
    refine key _ _ _ _ (fun vs hk => ?_) h
    split at hk
    · exact frzs_weak (frzs_same (SameB.refl m) (Ask.bind_runP.1 hk)) fun x hx => ⟨hx.1, hx.2⟩
    · exact hk.elim
  · exact h.elim
theorem vRun_toF {E2 : VE} {K : MV → VM → Prop} (h : vRun Pg T ents G o E2 M n K) : ∃ r δ, runF Pg T ents G o (VE.get E2) (VM.get M) n r δ ∧ K r (δ.app n M) := by
  have plain : (eOp Pg T (VE.get E2) (VM.get M) n o).runP (fun x => K x.1 (x.2.app n M)) → ∃ r δ, (eOp Pg T (VE.get E2) (VM.get M) n o).runP (fun x => x = (r, δ)) ∧ K r (δ.app n M) := by
    intro h
    obtain ⟨⟨r, δ⟩, h1, h2, _⟩ := sharp_eOp Pg T (VE.get E2) (VM.get M) n o _ h
    exact ⟨r, δ, h1, h2⟩
  obtain ⟨dst, op, ty, pos, after, guard⟩ := o
  cases op with
  | call c =>
    obtain ⟨callee, args, ats⟩ := c
    cases callee with
    | value f =>
      replace h : (vCallF (VE.get E2) (VM.get M) f args.toList).runP fun x => match ents.contains x.1 with | true => ∃ res, SemC Pg G x.1 x.2.1 res ∧ K res (VM.bump M x.2.2) | false => False := h
      obtain ⟨x, h1, ⟨h2, h3⟩, h4⟩ := sharp_vCall E2 M f args.toList _ (vCallF_dom h)
      split at h2
      · rename_i hc
        obtain ⟨res, hsem, hk⟩ := h2
        exact ⟨res, .bump x.2.2, h4 _ ⟨hc, hsem, rfl, h3⟩, hk⟩
      · exact h2.elim
    | _ => exact plain h
  | _ => exact plain h
theorem vPut_toF {dst : Option Tmp} {r : MV} {K : VE → Prop} (h : vPut N dst r E K) : ∃ E1, K E1 ∧ (∀ d, dst = some d → d < N) ∧ VE.get E1 = putF dst r (VE.get E) := by
  unfold vPut at h
  split at h
  · exact ⟨E, h, fun d hd => (nomatch hd), rfl⟩
  · rename_i d
    split at h
    · rename_i hd
      refine ⟨_, h, fun d' hd' => ?_, ?_⟩
      · injection hd' with hd'; subst hd'; simpa [Nat.blt_eq] using hd
      · funext t
        rw [VE.get_cons]
        show _ = fput _ d r t
        unfold fput
        by_cases ht : d = t
        · subst ht; simp
        · rw [if_neg ht, if_neg fun h => ht h.symm]
    · exact h.elim
theorem get_know {s : Nat} {v : MV} (h : VE.get E s = some v) : VE.get ((s, v) :: E) = VE.get E := by
  funext t
  rw [VE.get_cons]
  split
  · rename_i hh; subst hh; exact h.symm
  · rfl
section
variable (Pg : Program) (T : Tab) (N : Nat) (ents : List FuncId) (G : GS)
def vRunD (rf : Bool) (o : Oper) (E : VE) (M : VM) (n : Nat) (K : MV → VM → List Nat → Prop) : Prop := match rf with
  | false => vRun Pg T ents G o E M n fun r M' => K r M' (numsO (VE.get E) o.op.operands.toList)
  | true => match o.op with
    | .call c => match c.callee with
      | .value f => (vArgs E f c.args.toList).runP fun x => match ents.contains x.1 with
        | true => ∃ fp, vCallZ Pg G M n x.1 x.2 fp fun r M' => K r M' fp
        | false => False
      | _ => False
    | _ => False
def vOpD (ops : Array Oper) (rf : Bool) (o : Oper) (K : List Nat → VE → VM → Prop) (E : VE) (M : VM) (n : Nat) : Prop := match o.guard with
  | none => vRunD Pg T ents G rf o E M n fun r M fp => vPut N o.dst r E fun E => K fp E M
  | some (j, want) => match (ops[j]?).bind (·.dst) with
    | none => False
    | some s => match VE.get E s with
      | some (.bool t) =>
        (t = want → vRunD Pg T ents G rf o ((s, .bool want) :: E) M n fun r M fp => vPut N o.dst r ((s, .bool want) :: E) fun E => K fp E M) ∧
        (t = !want → vPut N o.dst .undef ((s, .bool (!want)) :: E) fun E' => K (bif rf then [] else numsO (VE.get E) o.op.operands.toList) E' M)
      | some .undef => vPut N o.dst .undef E fun E' => K (bif rf then [] else numsO (VE.get E) o.op.operands.toList) E' M
      | _ => False
def vOpsD (ops : Array Oper) : List (Nat × Bool) → List Dop → VK → VE → VM → Nat → Prop
  | [], A, K => fun E M n => okDraw ops A.reverse n = true ∧ K E M n
  | x :: L, A, K => fun E M n => match ops[x.1]? with
    | some o => vOpD Pg T N ents G ops x.2 o (fun fp E M => vOpsD ops L (⟨x.1, n, x.2, fp⟩ :: A) K E M (n + 1)) E M n
    | none => vOpsD ops L A K E M (n + 1)
end
theorem vRunD_toF {rf : Bool} {E2 : VE} {K : MV → VM → List Nat → Prop} {_D : VE} (h : vRunD Pg T ents G rf o E2 M n K) (hg : gdF ops o (VE.get E2) = some true) (hd : ∀ d, o.dst = some d → d < N) : ∃ r M' fp, K r M' fp ∧ stepF Pg T N ents G ops rf o n fp (VE.get E2) (VM.get M) (putF o.dst r (VE.get E2)) (VM.get M') := by
  cases rf with
  | false =>
    obtain ⟨r, δ, h1, h2⟩ := vRun_toF (K := fun r M' => K r M' (numsO (VE.get E2) o.op.operands.toList)) h
    exact ⟨r, δ.app n M, _, h2, r, hd, rfl, δ, ⟨true, hg, fun _ => h1, fun h => nomatch h⟩, Dl.get_app _ _ _, rfl⟩
  | true =>
    have hd' := hd
    obtain ⟨dst, op, ty, pos, after, guard⟩ := o
    unfold vRunD at h
    cases op with
    | call c =>
      obtain ⟨callee, args, ats⟩ := c
      cases callee with
      | value f =>
        replace h : (vArgsF (VE.get E2) f args.toList).runP fun x => match ents.contains x.1 with | true => ∃ fp, vCallZ Pg G M n x.1 x.2 fp fun r M' => K r M' fp | false => False := h
        unfold vArgsF at h
        obtain ⟨x, h1, h2, h3⟩ := (Sharp.rd fun fv => Sharp.rds fun vs => by cases fv <;> first | exact Sharp.ret _ | exact Sharp.bad) _ h
        split at h2
        · rename_i hc
          obtain ⟨fp, args', M0, n0, res, M1, n1, a1, σ, bs, a2, a3, a4, a8, a5, a6, a7⟩ := h2
          refine ⟨_, _, fp, a7, _, hd', rfl, true, hg, fun _ => ?_, fun h => nomatch h⟩
          show (vArgsF (VE.get E2) f args.toList).runP _
          unfold vArgsF
          exact h3 _ ⟨hc, M, rfl, args', M0, n0, res, M1, n1, a1, σ, bs, a2, a3, a4, a8, a5, a6, rfl, rfl⟩
        · exact h2.elim
      | _ => exact h.elim
    | _ => exact h.elim
theorem vPut_dst {dst : Option Tmp} {r : MV} {K : VE → Prop} (h : vPut N dst r E K) : ∀ d, dst = some d → d < N := by
  intro d hd
  subst hd
  unfold vPut at h
  split at h
  · rename_i hh; cases hh
  · rename_i d' hh
    injection hh with hh
    subst hh
    split at h
    · rename_i hb; simpa [Nat.blt_eq] using hb
    · exact h.elim
theorem vRunD_some {rf : Bool} {K : MV → VM → List Nat → Prop} (h : vRunD Pg T ents G rf o E M n K) : ∃ r M' fp, K r M' fp := by
  cases rf with
  | false => obtain ⟨r, δ, h1, h2⟩ := vRun_toF (K := fun r M' => K r M' (numsO (VE.get E) o.op.operands.toList)) h; exact ⟨_, _, _, h2⟩
  | true =>
    obtain ⟨dst, op, ty, pos, after, guard⟩ := o
    unfold vRunD at h
    cases op with
    | call c =>
      obtain ⟨callee, args, ats⟩ := c
      cases callee with
      | value f =>
        replace h : (vArgsF (VE.get E) f args.toList).runP fun x => match ents.contains x.1 with | true => ∃ fp, vCallZ Pg G M n x.1 x.2 fp fun r M' => K r M' fp | false => False := h
        unfold vArgsF at h
        obtain ⟨x, h1, h2, h3⟩ := (Sharp.rd fun fv => Sharp.rds fun vs => by cases fv <;> first | exact Sharp.ret _ | exact Sharp.bad) _ h
        split at h2
        · obtain ⟨fp, args', M0, n0, res, M1, n1, a1, σ, bs, a2, a3, a4, a8, a5, a6, a7⟩ := h2
          exact ⟨_, _, _, a7⟩
        · exact h2.elim
      | _ => exact h.elim
    | _ => exact h.elim
theorem vOpD_toF {rf : Bool} {K : List Nat → VE → VM → Prop} (h : vOpD Pg T N ents G ops rf o K E M n) : ∃ fp E1 M1, K fp E1 M1 ∧ stepF Pg T N ents G ops rf o n fp (VE.get E) (VM.get M) (VE.get E1) (VM.get M1) := by
  have run : ∀ {E2 : VE}, VE.get E2 = VE.get E → gdF ops o (VE.get E) = some true → (vRunD Pg T ents G rf o E2 M n fun r M fp => vPut N o.dst r E2 fun E => K fp E M) → ∃ fp E1 M1, K fp E1 M1 ∧ stepF Pg T N ents G ops rf o n fp (VE.get E) (VM.get M) (VE.get E1) (VM.get M1) := by
    intro E2 he hg h
    have hd : ∀ d, o.dst = some d → d < N := by obtain ⟨r, M', fp, h1⟩ := vRunD_some h; exact vPut_dst h1
    obtain ⟨r, M', fp, h1, h2⟩ := vRunD_toF (_D := E2) h (by rw [he]; exact hg) hd
    obtain ⟨E1, h3, h4, h5⟩ := vPut_toF h1
    rw [he] at h2 h5
    rw [← h5] at h2
    exact ⟨fp, E1, M', h3, h2⟩
  have skip : ∀ {E2 : VE}, VE.get E2 = VE.get E → gdF ops o (VE.get E) = some false → (vPut N o.dst .undef E2 fun E' => K (bif rf then [] else numsO (VE.get E) o.op.operands.toList) E' M) → ∃ fp E1 M1, K fp E1 M1 ∧ stepF Pg T N ents G ops rf o n fp (VE.get E) (VM.get M) (VE.get E1) (VM.get M1) := by
    intro E2 he hg h
    obtain ⟨E1, h3, h4, h5⟩ := vPut_toF h
    rw [he] at h5
    cases rf with
    | false => exact ⟨_, E1, M, h3, .undef, h4, h5, .none, ⟨false, hg, fun h => (nomatch h), fun _ => ⟨rfl, rfl⟩⟩, rfl, rfl⟩
    | true => exact ⟨_, E1, M, h3, .undef, h4, h5, false, hg, fun h => (nomatch h), fun _ => ⟨rfl, rfl⟩⟩
  unfold vOpD at h
  split at h
  · rename_i hg
    exact run rfl (by simp [gdF, hg]) h
  · rename_i j want hg
    split at h
    · exact h.elim
    · rename_i s hj
      split at h
      · rename_i t ht
        by_cases hw : t = want
        · exact run (get_know (by rw [ht, hw])) (by simp [gdF, hg, hj, ht, hw]) (h.1 hw)
        · have hw' : t = !want := by cases t <;> cases want <;> simp_all
          exact skip (get_know (by rw [ht, hw'])) (by simp [gdF, hg, hj, ht, hw]) (h.2 hw')
      · rename_i ht
        exact skip rfl (by simp [gdF, hg, hj, ht]) h
      · exact h.elim
def NumB (n n' : Nat) (L : List Dop) : Prop := (L.map (·.n)).Nodup ∧ ∀ x ∈ L, n ≤ x.n ∧ x.n < n'
theorem vOpsD_toF : ∀ {L : List (Nat × Bool)} {A : List Dop} {K : VK} {E : VE} {M : VM} {n : Nat}, vOpsD Pg T N ents G ops L A K E M n →
    ∃ D E1 M1, okDraw ops (A.reverse ++ D) (n + L.length) = true ∧ NumB n (n + L.length) D ∧ K E1 M1 (n + L.length) ∧ runL Pg T N ents G ops D (VE.get E) (VM.get M) (VE.get E1) (VM.get M1)
  | [], A, K, E, M, n, h => ⟨[], E, M, by simpa using h.1, ⟨List.nodup_nil, fun _ h => nomatch h⟩, h.2, rfl, rfl⟩
  | x :: L, A, K, E, M, n, h => by
    unfold vOpsD at h
    split at h
    · rename_i o ho
      obtain ⟨fp, E1, M1, h1, h2⟩ := vOpD_toF h
      obtain ⟨D, E2, M2, h3, h5, h6, h7⟩ := vOpsD_toF h1
      refine ⟨⟨x.1, n, x.2, fp⟩ :: D, E2, M2, by rw [List.length_cons, show n + (L.length + 1) = n + 1 + L.length by omega]; simpa using h3, ⟨List.nodup_cons.2 ⟨fun hm => ?_, h5.1⟩, fun y hy => ?_⟩, by rw [List.length_cons, show n + (L.length + 1) = n + 1 + L.length by omega]; exact h6, o, _, _, ho, h2, h7⟩
      · obtain ⟨y, hy, he⟩ := List.mem_map.1 hm
        have := (h5.2 y hy).1
        simp only at he
        omega
      · rcases List.mem_cons.1 hy with rfl | hy
        · simp
        · have := h5.2 y hy
          simp only [List.length_cons]
          omega
    · obtain ⟨D, E2, M2, h3, h5, h6, h7⟩ := vOpsD_toF h
      have e : n + (x :: L).length = n + 1 + L.length := by rw [List.length_cons]; omega
      rw [e]
      exact ⟨D, E2, M2, h3, ⟨h5.1, fun y hy => by have := h5.2 y hy; omega⟩, h6, h7⟩
end
end Go.Proofs.YtmeeeigfjlbnkaaGreat
