/- The conditions of code, and that they suffice. -/
import Derived.Test.YtllepnadffndnaaDoorOpOk
namespace Go.Proofs.YtllepnadffndnaaDoor
open Go.RowKit

/-- A function's value: its one result, or the tuple. -/
def tup : List Value → Value
  | [v] => v
  | vs => .tuple vs.toArray
abbrev ContE := Env → Mem → Hist → Prop
section
variable (P : Program) (T : Tab) (N : Nat) (ents : List FuncId)

def putK (dst : Option Tmp) (E : Env) (K : ContE) : Cont := fun sv M H => match dst with
  | none => K E M H
  | some d => match Nat.blt d N with
    | true => K ((d, sv) :: E) M H
    | false => False

/-- One operation with its guard. -/
def opG (ops : Array Oper) (o : Oper) (K : ContE) : ContE := fun E M H => match o.guard with
  | none => opV P T E M H ents o (putK N o.dst E K)
  | some (j, want) => match (ops[j]?).bind (·.dst) with
    | none => False
    | some s => match E.get s with
      | some (.val (.bool t)) =>
        (t = want → opV P T ((s, .lit want) :: E) M H ents o (putK N o.dst ((s, .lit want) :: E) K)) ∧
        (t = !want → putK N o.dst ((s, .lit (!want)) :: E) K (.val undef) M H)
      | some (.lit t) => match t, want with
        | true, true | false, false => opV P T E M H ents o (putK N o.dst E K)
        | true, false | false, true => putK N o.dst E K (.val undef) M H
      | some (.val (.tuple _)) => putK N o.dst E K (.val undef) M H
      | _ => False
def quietG (M0 : Mem) (H0 : Hist) (C0 : List (Nat × Nat × Nat × SV)) (ops : Array Oper) (o : Oper) (K : ContE) : ContE := fun E M H => match o.guard with
  | none => quietV P T E M0 H0 C0 o fun v => putK N o.dst E K v M H
  | some (j, want) => match (ops[j]?).bind (·.dst) with
    | none => False
    | some s => match E.get s with
      | some (.val (.bool t)) =>
        (t = want → quietV P T ((s, .lit want) :: E) M0 H0 C0 o fun v => putK N o.dst ((s, .lit want) :: E) K v M H) ∧
        (t = !want → putK N o.dst ((s, .lit (!want)) :: E) K (.val undef) M H)
      | some (.lit t) => match t, want with
        | true, true | false, false => quietV P T E M0 H0 C0 o fun v => putK N o.dst E K v M H
        | true, false | false, true => putK N o.dst E K (.val undef) M H
      | some (.val (.tuple _)) => putK N o.dst E K (.val undef) M H
      | _ => False
def vcOps (ops : Array Oper) : List Oper → ContE → ContE
  | [], K => K
  | o :: rest, K => opG P T N ents ops o (vcOps ops rest K)

/-- The blocks that the region's loads see stand as they stood. -/
def keepsH : Hist → Hist → Prop → Prop
  | [], _, X => X
  | p :: r, H, X => p ∈ H ∧ keepsH r H X
def keeps : Mem → Hist → Mem → Hist → Prop → Prop
  | [], H0, _, H, X => keepsH H0 H X
  | (i, kb) :: r, H0, M, H, X => M.find i = some kb ∧ keeps r H0 M H X
/-- A region that draws its order: operations that are taken first, and alternatives. -/
inductive Plan where
  | done
  | stop
  | take (i : Nat) (p : Plan)
  | alt (i : Nat) (p q : Plan)
def vcPlan (M0 : Mem) (H0 : Hist) (C0 : List (Nat × Nat × Nat × SV)) (ops : Array Oper) : Plan → ContE → ContE
  | .done, K, E, M, H => K E M H
  | .stop, _, _, _, _ => True
  | .take i p, K, E, M, H => match ops[i]? with | some o => quietG P T N M0 H0 C0 ops o (vcPlan M0 H0 C0 ops p K) E M H | none => False
  | .alt i p .stop, K, E, M, H => match ops[i]? with | some o => opG P T N ents ops o (fun E M H => keeps M0 H0 M H (keepsC C0 M (vcPlan M0 H0 C0 ops p K E M H))) E M H | none => False
  | .alt i p q, K, E, M, H => (match ops[i]? with | some o => opG P T N ents ops o (fun E M H => keeps M0 H0 M H (keepsC C0 M (vcPlan M0 H0 C0 ops p K E M H))) E M H | none => False) ∧ vcPlan M0 H0 C0 ops q K E M H
def Plan.chk (ops : Array Oper) : Plan → Bool → Nat → Array Bool → List Nat → Bool
  | .done, fresh, _, _, rs => fresh && rs.isEmpty
  | .stop, fresh, _, _, rs => !fresh && rs.isEmpty
  | .take i p, fresh, fuel + 1, l, rs => fresh && rs.contains i && Region.free .any ops l i && p.chk ops true fuel (l.setIfInBounds i true) (Region.ready .any ops (l.setIfInBounds i true))
  | .alt i p q, _, fuel + 1, l, rs => rs.contains i && p.chk ops true fuel (l.setIfInBounds i true) (Region.ready .any ops (l.setIfInBounds i true)) && q.chk ops false (fuel + 1) l (rs.filter (· != i))
  | _, _, 0, _, _ => false
def Plan.good (ops : Array Oper) (p : Plan) : Bool := Region.noSelect ops && p.chk ops true ops.size (Array.replicate ops.size false) (Region.ready .any ops (Array.replicate ops.size false))

def Subst : Env → Env → Prop
  | [], _ => True
  | (t, v) :: E', E => (∃ u, E.get t = some u ∧ u.den = v.den) ∧ Subst E' E

def vcC : Code → (Exit → ContE) → ContE
  | .skip, Q, E, M, H => Q .normal E M H
  | .region _ ops draw, Q, E, M, H => match draw with
    | false => vcOps P T N ents ops ops.toList (Q .normal) E M H
    | true => ∃ (E' : Env) (M0 : Mem) (H0 : Hist) (C0 : List (Nat × Nat × Nat × SV)), (Subst E' E ∨ E' = E) ∧ (MSub M0 M ∨ M0 = M) ∧ (∀ p ∈ H0, p ∈ H) ∧ ∃ pl : Plan, pl.good ops = true ∧ keepsC C0 M (vcPlan P T N ents M0 H0 C0 ops pl (Q .normal) E' M H)
  | .seq x y, Q, E, M, H => vcC x (fun e E M H => match e with | .normal => vcC y Q E M H | e => Q e E M H) E M H
  | .cond c x y, Q, E, M, H => withV E c fun v => match v with
    | .val (.bool t) => (t = true → vcC x Q E M H) ∧ (t = false → vcC y Q E M H)
    | .lit true => vcC x Q E M H
    | .lit false => vcC y Q E M H
    | _ => False
  | .block id c, Q, E, M, H => vcC c (fun e E M H => match e with | .exit i => (bif Nat.beq i id then Q .normal E M H else Q (.exit i) E M H) | e => Q e E M H) E M H
  | .loop c, Q, E, M, H => ∃ (X : Type) (E' : X → Env) (M' : X → Mem) (H' : X → Hist) (I : X → Prop) (μ : X → Nat),
      (∀ w, A M H w → ∃ x, I x ∧ Subst (E' x) E ∧ A (M' x) (H' x) w) ∧
      ∀ x, I x → vcC c (fun e E1 M1 H1 => match e with | .normal => ∀ w, A M1 H1 w → ∃ x', I x' ∧ μ x' < μ x ∧ Subst (E' x') E1 ∧ A (M' x') (H' x') w | e => Q e E1 M1 H1) (E' x) (M' x) (H' x)
  | .exit id, Q, E, M, H => Q (.exit id) E M H
  | .ret, Q, E, M, H => Q .ret E M H
  | .label _, Q, E, M, H => Q .normal E M H
  | _, _, _, _, _ => False

/-- The operations of a region, by its number. -/
def regionOps (n : Nat) : Code → Option (Array Oper)
  | .region id ops _ => bif Nat.beq id n then some ops else none
  | .seq x y => match regionOps n x with | some o => some o | none => regionOps n y
  | .cond _ x y => match regionOps n x with | some o => some o | none => regionOps n y
  | .block _ c => regionOps n c
  | .loop c => regionOps n c
  | _ => none
def opsIn (f : Func) (n : Nat) : Array Oper := match f.body with
  | some c => match regionOps n c with | some o => o | none => #[]
  | none => #[]
def retVals (M : Mem) (H : Hist) (E : Env) : List ResultVar → (List Value → Prop) → Prop
  | [], K => K []
  | .tmp t :: l, K => match E.get t with | some v => retVals M H E l fun r => K (v.den :: r) | none => False
  | .cell p ty :: l, K => match E.get p with | some p => loadV P T M H ty p fun v _ _ => retVals M H E l fun r => K (v.den :: r) | none => False
def retQ (rs : List ResultVar) (R : Ending → World → Prop) : Exit → ContE := fun e E M H => match e with
  | .ret | .normal => retVals P T M H E rs fun vs => ∀ w, A M H w → R (.returned (tup vs)) w
  | _ => False
end

section
variable {P : Program} {T : Tab} {N : Nat} {ents : List FuncId}

/-- The world's side: a state that meets what is known. -/
def Post (N : Nat) (Q : Exit → ContE) : Exit → Act → World → Prop := fun e a w => ∃ E M H, Q e E M H ∧ Sat N E a ∧ A M H w

theorem putK_out {dst : Option Tmp} {E : Env} {K : ContE} {sv : SV} {M : Mem} {H : Hist} {a : Act} {w : World} (h : putK N dst E K sv M H) (hs : Sat N E a) (hA : A M H w) :
    ∃ E', K E' M H ∧ Sat N E' (a.put dst sv.den) ∧ A M H w := by
  unfold putK at h
  split at h
  · exact ⟨E, h, hs, hA⟩
  · rename_i d
    split at h
    · rename_i hd
      have hd' : d < N := by simpa [Nat.blt_eq] using hd
      exact ⟨_, h, hs.put hd' sv, hA⟩
    · exact h.elim

theorem Sat.know {E : Env} {a : Act} (hs : Sat N E a) {s : Nat} {u v : SV} (hu : E.get s = some u) (he : u.den = v.den) : Sat N ((s, v) :: E) a := by
  refine ⟨hs.defers, hs.size, fun t x hx => ?_⟩
  rw [Env.get_cons] at hx
  split at hx
  · rename_i e
    subst e
    injection hx with hx
    subst hx
    rw [hs.get _ _ hu, he]
  · exact hs.get _ _ hx

theorem opG_out (hS : Seat P T ents) {ops : Array Oper} {o : Oper} {K : ContE} {E : Env} {M : Mem} {H : Hist} {a : Act} {w : World} {next : Act → World → Prop} {Q : Exit → Act → World → Prop}
    (h : opG P T N ents ops o K E M H) (hs : Sat N E a) (hA : A M H w) (hn : ∀ E M H a w, K E M H → Sat N E a → A M H w → next a w) :
    if Region.wanted o (yielded ops a.tmps) then o.wp P a w next Q ∨ (o.asks P a w ∧ LetsOut Q) else next (a.put o.dst undef) w := by
  have run : ∀ {E : Env}, Sat N E a → opV P T E M H ents o (putK N o.dst E K) → o.wp P a w next Q := by
    intro E hs h
    refine (opV_ok hS h hs hA).wp fun sv w' ⟨M', H', hk, hA'⟩ => ?_
    obtain ⟨E', hk', hs', hA''⟩ := putK_out hk hs hA'
    exact hn _ _ _ _ _ hk' hs' hA''
  have skip : ∀ {E : Env}, Sat N E a → putK N o.dst E K (.val undef) M H → next (a.put o.dst undef) w := by
    intro E hs h
    obtain ⟨E', hk', hs', hA''⟩ := putK_out h hs hA
    exact hn _ _ _ _ _ hk' hs' hA''
  unfold opG at h
  split at h
  · rename_i hg
    rw [if_pos (by simp [Region.wanted, hg])]
    exact .inl (run hs h)
  · rename_i j want hg
    split at h
    · exact h.elim
    · rename_i s hj
      split at h
      · rename_i t hE
        have hv := hs.get _ _ hE
        have hy' : yielded ops a.tmps j = some t := by simp [yielded, hj, hv, SV.den]
        by_cases ht : t = want
        · rw [if_pos (by simp [Region.wanted, hg, hy', ht])]
          exact .inl (run (hs.know hE (by rw [ht]; rfl)) (h.1 ht))
        · have ht' : t = !want := by cases t <;> cases want <;> simp_all
          rw [if_neg (by simp [Region.wanted, hg, hy', ht])]
          exact skip (hs.know hE (by rw [ht']; rfl)) (h.2 ht')
      · rename_i t hE
        have hv := hs.get _ _ hE
        have hy' : yielded ops a.tmps j = some t := by simp [yielded, hj, hv, SV.den]
        split at h
        · rw [if_pos (by simp [Region.wanted, hg, hy'])]
          exact .inl (run hs h)
        · rw [if_pos (by simp [Region.wanted, hg, hy'])]
          exact .inl (run hs h)
        · rw [if_neg (by simp [Region.wanted, hg, hy'])]
          exact skip hs h
        · rw [if_neg (by simp [Region.wanted, hg, hy'])]
          exact skip hs h
      · rename_i vs hE
        have hv := hs.get _ _ hE
        have hy' : yielded ops a.tmps j = none := by simp [yielded, hj, hv, SV.den]
        rw [if_neg (by simp [Region.wanted, hg, hy'])]
        exact skip hs h
      · exact h.elim

theorem keepsH_out : ∀ {H0 H : Hist} {X : Prop}, keepsH H0 H X → (∀ p ∈ H0, p ∈ H) ∧ X
  | [], _, _, h => ⟨fun _ hp => (nomatch hp), h⟩
  | _ :: _, _, _, h => ⟨fun p hp => (List.mem_cons.1 hp).elim (fun e => e ▸ h.1) (fun hp => (keepsH_out h.2).1 p hp), (keepsH_out h.2).2⟩
theorem keeps_out : ∀ {M0 M : Mem} {H0 H : Hist} {X : Prop}, keeps M0 H0 M H X → MSub M0 M ∧ (∀ p ∈ H0, p ∈ H) ∧ X
  | [], _, _, _, _, h => ⟨trivial, keepsH_out h⟩
  | _ :: _, _, _, _, _, h => ⟨⟨h.1, (keeps_out h.2).1⟩, (keeps_out h.2).2⟩
theorem quietG_out (hS : Seat P T ents) {M0 : Mem} {H0 : Hist} {C0 : List (Nat × Nat × Nat × SV)} {ops : Array Oper} {o : Oper} {K : ContE} {E : Env} {M : Mem} {H : Hist} {a : Act} {w : World} {next : Act → World → Prop}
    (h : quietG P T N M0 H0 C0 ops o K E M H) (hs : Sat N E a) (hA : A M H w) (hn : ∀ E M H a w, K E M H → Sat N E a → A M H w → next a w) :
    ∃ v, YieldsIf P ops (fun w => A M0 H0 w ∧ CellsOK C0 w) o v a ∧ next (a.put o.dst v) w := by
  have run : ∀ {E : Env}, Region.wanted o (yielded ops a.tmps) = true → Sat N E a → (quietV P T E M0 H0 C0 o fun v => putK N o.dst E K v M H) → ∃ v, YieldsIf P ops (fun w => A M0 H0 w ∧ CellsOK C0 w) o v a ∧ next (a.put o.dst v) w := by
    intro E hw hs h
    obtain ⟨sv, hr, hk⟩ := quietV_out hS.tab h hs
    obtain ⟨E', hk', hs', hA''⟩ := putK_out hk hs hA
    exact ⟨sv.den, .inl ⟨hw, hr⟩, hn _ _ _ _ _ hk' hs' hA''⟩
  have skip : ∀ {E : Env}, Region.wanted o (yielded ops a.tmps) = false → Sat N E a → putK N o.dst E K (.val undef) M H → ∃ v, YieldsIf P ops (fun w => A M0 H0 w ∧ CellsOK C0 w) o v a ∧ next (a.put o.dst v) w := by
    intro E hw hs h
    obtain ⟨E', hk', hs', hA''⟩ := putK_out h hs hA
    exact ⟨undef, .inr ⟨hw, rfl⟩, hn _ _ _ _ _ hk' hs' hA''⟩
  unfold quietG at h
  split at h
  · rename_i hg
    exact run (by simp [Region.wanted, hg]) hs h
  · rename_i j want hg
    split at h
    · exact h.elim
    · rename_i s hj
      split at h
      · rename_i t hE
        have hv := hs.get _ _ hE
        have hy' : yielded ops a.tmps j = some t := by simp [yielded, hj, hv, SV.den]
        by_cases ht : t = want
        · exact run (by simp [Region.wanted, hg, hy', ht]) (hs.know hE (by rw [ht]; rfl)) (h.1 ht)
        · have ht' : t = !want := by cases t <;> cases want <;> simp_all
          exact skip (by simp [Region.wanted, hg, hy', ht]) (hs.know hE (by rw [ht']; rfl)) (h.2 ht')
      · rename_i t hE
        have hv := hs.get _ _ hE
        have hy' : yielded ops a.tmps j = some t := by simp [yielded, hj, hv, SV.den]
        split at h
        · exact run (by simp [Region.wanted, hg, hy']) hs h
        · exact run (by simp [Region.wanted, hg, hy']) hs h
        · exact skip (by simp [Region.wanted, hg, hy']) hs h
        · exact skip (by simp [Region.wanted, hg, hy']) hs h
      · rename_i vs hE
        have hv := hs.get _ _ hE
        have hy' : yielded ops a.tmps j = none := by simp [yielded, hj, hv, SV.den]
        exact skip (by simp [Region.wanted, hg, hy']) hs h
      · exact h.elim

theorem vcOps_ok (hS : Seat P T ents) (ops : Array Oper) : ∀ (l : List Oper) {K : ContE} {E : Env} {M : Mem} {H : Hist} {a : Act} {w : World} {Q : Exit → Act → World → Prop},
    vcOps P T N ents ops l K E M H → Sat N E a → A M H w → (∀ E M H a w, K E M H → Sat N E a → A M H w → Q .normal a w) → wpList P ops Q l a w
  | [], _, E, M, H, a, w, _, h, hs, hA, hQ => hQ E M H a w h hs hA
  | _ :: rest, _, _, _, _, _, _, Q, h, hs, hA, hQ =>
    opG_out hS (next := wpList P ops Q rest) (Q := Q) h hs hA fun _ _ _ _ _ h hs hA => vcOps_ok hS ops rest h hs hA hQ

theorem vcPlan_alt {M0 : Mem} {H0 : Hist} {C0 : List (Nat × Nat × Nat × SV)} {ops : Array Oper} {i : Nat} {p q : Plan} {K : ContE} {E : Env} {M : Mem} {H : Hist} (h : vcPlan P T N ents M0 H0 C0 ops (.alt i p q) K E M H) :
    (∃ o, ops[i]? = some o ∧ opG P T N ents ops o (fun E M H => keeps M0 H0 M H (keepsC C0 M (vcPlan P T N ents M0 H0 C0 ops p K E M H))) E M H) ∧ vcPlan P T N ents M0 H0 C0 ops q K E M H := by
  have one : (match ops[i]? with | some o => opG P T N ents ops o (fun E M H => keeps M0 H0 M H (keepsC C0 M (vcPlan P T N ents M0 H0 C0 ops p K E M H))) E M H | none => False) → ∃ o, ops[i]? = some o ∧ opG P T N ents ops o (fun E M H => keeps M0 H0 M H (keepsC C0 M (vcPlan P T N ents M0 H0 C0 ops p K E M H))) E M H := by
    intro h
    split at h
    · rename_i o ho; exact ⟨o, ho, h⟩
    · exact h.elim
  cases q with
  | stop =>
    refine ⟨?_, trivial⟩
    simp only [vcPlan] at h
    split at h
    · rename_i o ho; exact ⟨o, ho, h⟩
    · exact h.elim
  | done => exact ⟨one h.1, h.2⟩
  | take => exact ⟨one h.1, h.2⟩
  | alt => exact ⟨one h.1, h.2⟩

theorem vcPlan_ok (hS : Seat P T ents) (M0 : Mem) (H0 : Hist) (C0 : List (Nat × Nat × Nat × SV)) (ops : Array Oper) (hsel : Region.noSelect ops = true) {K : ContE} {Q : Exit → Act → World → Prop} (hQ : ∀ E M H a w, K E M H → Sat N E a → A M H w → Q .normal a w) (hno : ∀ c a w, ¬ Q (.panic c) a w) :
    ∀ (p : Plan) {fuel : Nat} {l : Array Bool} {rs : List Nat} {fresh : Bool} {E : Env} {M : Mem} {H : Hist} {a : Act} {w : World}, p.chk ops fresh fuel l rs = true → vcPlan P T N ents M0 H0 C0 ops p K E M H → Sat N E a → A M H w → (A M0 H0 w ∧ CellsOK C0 w) →
      (fresh = true → rs = Region.ready .any ops l → wpAnyH P .any ops Q (fun w => A M0 H0 w ∧ CellsOK C0 w) fuel l a w) ∧ (fresh = false → ∀ i ∈ rs, wpOp P ops Q i (fun a' w' => (A M0 H0 w' ∧ CellsOK C0 w') ∧ wpAnyH P .any ops Q (fun w => A M0 H0 w ∧ CellsOK C0 w) (fuel - 1) (l.setIfInBounds i true) a' w') a w) := by
  intro p
  induction p with
  | done =>
    intro fuel l rs fresh E M H a w hc h hs hA hS0
    simp only [Plan.chk, Bool.and_eq_true, List.isEmpty_iff] at hc
    obtain ⟨hf, rfl⟩ := hc
    refine ⟨fun _ hr => ?_, fun h => by rw [hf] at h; cases h⟩
    have hq := hQ _ _ _ _ _ h hs hA
    cases fuel with
    | zero => exact ⟨hr.symm, hq⟩
    | succ fuel => exact ⟨fun _ => hq, by rw [← hr]; simp⟩
  | stop =>
    intro fuel l rs fresh E M H a w hc h hs hA hS0
    simp only [Plan.chk, Bool.and_eq_true, List.isEmpty_iff, Bool.not_eq_true'] at hc
    obtain ⟨hf, rfl⟩ := hc
    exact ⟨fun h => (by rw [hf] at h; cases h), fun _ => by simp⟩
  | take i p ih =>
    intro fuel l rs fresh E M H a w hc h hs hA hS0
    cases fuel with
    | zero => simp [Plan.chk] at hc
    | succ fuel =>
      simp only [Plan.chk, Bool.and_eq_true] at hc
      obtain ⟨⟨⟨hf, hi⟩, hfree⟩, hc⟩ := hc
      refine ⟨fun _ hr => ?_, fun h => by rw [hf] at h; cases h⟩
      subst hr
      simp only [vcPlan] at h
      split at h
      · rename_i o ho
        obtain ⟨v, hy, hn⟩ := quietG_out hS (next := fun a w => (A M0 H0 w ∧ CellsOK C0 w) → wpAnyH P .any ops Q (fun w => A M0 H0 w ∧ CellsOK C0 w) fuel (l.setIfInBounds i true) a w) h hs hA fun E M H a w h hs hA hS0 => (ih hc h hs hA hS0).1 rfl rfl
        exact wpAnyH_take ho hsel hfree hi (fun c a w hq => absurd hq (hno _ _ _)) hy hS0 (hn hS0)
      · exact h.elim
  | alt i p q ihp ihq =>
    intro fuel l rs fresh E M H a w hc h hs hA hS0
    cases fuel with
    | zero => simp [Plan.chk] at hc
    | succ fuel =>
      simp only [Plan.chk, Bool.and_eq_true] at hc
      obtain ⟨⟨hi, hcp⟩, hcq⟩ := hc
      obtain ⟨⟨o, ho, h1⟩, h2⟩ := vcPlan_alt h
      have key : ∀ j ∈ rs, wpOp P ops Q j (fun a' w' => (A M0 H0 w' ∧ CellsOK C0 w') ∧ wpAnyH P .any ops Q (fun w => A M0 H0 w ∧ CellsOK C0 w) fuel (l.setIfInBounds j true) a' w') a w := by
        intro j hj
        by_cases hji : j = i
        · subst hji
          have := opG_out hS (next := fun a' w' => (A M0 H0 w' ∧ CellsOK C0 w') ∧ wpAnyH P .any ops Q (fun w => A M0 H0 w ∧ CellsOK C0 w) fuel (l.setIfInBounds j true) a' w') (Q := Q) h1 hs hA fun E M H a w h hs hA => by
            obtain ⟨hm, hh, h⟩ := keeps_out h
            obtain ⟨hC, h⟩ := keepsC_out hA h
            have hA0 := And.intro ((hA.sub hm).hist hh) hC
            exact ⟨hA0, (ihp hcp h hs hA hA0).1 rfl rfl⟩
          unfold wpOp
          rw [ho]
          exact this
        · exact (ihq hcq h2 hs hA hS0).2 rfl j (by simp [hj, hji])
      refine ⟨fun _ hr => ?_, fun _ => key⟩
      subst hr
      refine ⟨fun h0 => ?_, key⟩
      rw [h0] at hi
      cases hi

theorem Subst.sat {E : Env} {a : Act} (hs : Sat N E a) : ∀ {E' : Env}, Subst E' E → Sat N E' a
  | [], _ => ⟨hs.defers, hs.size, fun t v h => by simp [Env.get] at h⟩
  | (t, v) :: E', h => by
    obtain ⟨⟨u, hu, he⟩, h'⟩ := h
    have ih := Subst.sat hs h'
    refine ⟨hs.defers, hs.size, fun t' x hx => ?_⟩
    rw [Env.get_cons] at hx
    split at hx
    · rename_i e
      subst e
      injection hx with hx
      subst hx
      rw [hs.get _ _ hu, he]
    · exact ih.get _ _ hx

theorem vcC_ok (hS : Seat P T ents) : ∀ (c : Code) {Q : Exit → ContE} {E : Env} {M : Mem} {H : Hist} {a : Act} {w : World},
    vcC P T N ents c Q E M H → Sat N E a → A M H w → c.wp P (Post N Q) a w := by
  intro c
  induction c with
  | skip => intro Q E M H a w h hs hA; exact wp_skip ⟨E, M, H, h, hs, hA⟩
  | region id ops draw =>
    intro Q E M H a w h hs hA
    cases draw with
    | false => exact wp_region_list (vcOps_ok hS ops _ h hs hA fun E M H a w hk hs hA => ⟨E, M, H, hk, hs, hA⟩)
    | true =>
      obtain ⟨E', M0, H0, C0, hE, hm, hh, pl, hg, h⟩ := h
      have hsE : Sat N E' a := by
        rcases hE with hE | rfl
        · exact hE.sat hs
        · exact hs
      have hm : MSub' M0 M := by
        rcases hm with hm | rfl
        · exact hm.find
        · exact fun _ _ h => h
      obtain ⟨hC, h⟩ := keepsC_out hA h
      simp only [Plan.good, Bool.and_eq_true] at hg
      refine Code.wp_mono (Q := fun e a w => e = .normal ∧ Post N Q .normal a w) (fun e a w hq => by obtain ⟨rfl, hq⟩ := hq; exact hq) ?_
      refine wp_region_held (S := fun w => A M0 H0 w ∧ CellsOK C0 w) hS.mixed ?_
      exact (vcPlan_ok hS M0 H0 C0 ops hg.1 (fun E M H a w h hs hA => ⟨rfl, E, M, H, h, hs, hA⟩) (fun c a w hq => by cases hq.1) pl hg.2 h hsE hA.drew ⟨((hA.sub' hm).hist hh).drew, hC.drew⟩).1 rfl rfl
  | seq x y ihx ihy =>
    intro Q E M H a w h hs hA
    refine wp_seq (Code.wp_mono (fun e a w hq => ?_) (ihx h hs hA))
    obtain ⟨E', M', H', hq, hs', hA'⟩ := hq
    cases e with
    | normal => exact ihy hq hs' hA'
    | _ => exact ⟨E', M', H', hq, hs', hA'⟩
  | cond c x y ihx ihy =>
    intro Q E M H a w h hs hA
    obtain ⟨v, hv, h⟩ := withV_out h
    cases v with
    | ptr => exact h.elim
    | lit t =>
      cases t
      · exact wp_cond_split (hs.ev hv) (fun ht => nomatch ht) (fun _ => ihy h hs hA)
      · exact wp_cond_split (hs.ev hv) (fun _ => ihx h hs hA) (fun ht => nomatch ht)
    | val v =>
      cases v <;> try exact h.elim
      rename_i t
      exact wp_cond_split (hs.ev hv) (fun ht => ihx (h.1 ht) hs hA) (fun ht => ihy (h.2 ht) hs hA)
  | block id c ih =>
    intro Q E M H a w h hs hA
    refine wp_block (Code.wp_mono (fun e a w hq => ?_) (ih h hs hA))
    obtain ⟨E', M', H', hq, hs', hA'⟩ := hq
    cases e with
    | exit i =>
      by_cases hi : i = id
      · subst hi
        simp at hq
        simp only [Exit.inBlock, if_true]
        exact ⟨E', M', H', hq, hs', hA'⟩
      · simp only [beq_ne hi, cond_false] at hq
        simp only [Exit.inBlock, hi, if_false]
        exact ⟨E', M', H', hq, hs', hA'⟩
    | _ => exact ⟨E', M', H', hq, hs', hA'⟩
  | loop c ih =>
    intro Q E M H a w h hs hA
    obtain ⟨X, E', M', H', I, μ, h0, h1⟩ := h
    obtain ⟨x0, hI0, hE0, hA0⟩ := h0 w hA
    intro b k cs
    have key : ∀ n x a w, μ x = n → I x → Sat N (E' x) a → A (M' x) (H' x) w →
        ∃ e a' w', Post N Q e a' w' ∧ Arrives P (lone (b.at a (.code c :: .inLoop c :: k)) cs w) b k cs e a' w' := by
      intro n
      induction n using Nat.strongRecOn with
      | _ n ihn =>
        intro x a w hn hI hs hA
        obtain ⟨e, a₁, w₁, hq, harr⟩ := ih (h1 x hI) hs hA b (.inLoop c :: k) cs
        obtain ⟨E1, M1, H1, hq, hs1, hA1⟩ := hq
        cases e with
        | normal =>
          obtain ⟨x', hI', hlt, hE', hA'⟩ := hq w₁ hA1
          obtain ⟨e₂, a₂, w₂, hq₂, harr₂⟩ := ihn (μ x') (hn ▸ hlt) x' a₁ w₁ rfl hI' (hE'.sat hs1) hA'
          exact ⟨e₂, a₂, w₂, hq₂, .of_steps (Steps.trans harr (.one step_inLoop)) harr₂⟩
        | exit id => exact ⟨_, a₁, w₁, ⟨E1, M1, H1, hq, hs1, hA1⟩, .pass (x := .inLoop c) rfl (fun _ _ => .inl (by simp)) harr⟩
        | goto l => exact ⟨_, a₁, w₁, ⟨E1, M1, H1, hq, hs1, hA1⟩, .pass (x := .inLoop c) rfl (fun _ _ => .inl (by simp)) harr⟩
        | ret => exact ⟨_, a₁, w₁, ⟨E1, M1, H1, hq, hs1, hA1⟩, .pass (x := .inLoop c) rfl (fun _ _ => .inl (by simp)) harr⟩
        | panic ch => exact ⟨_, a₁, w₁, ⟨E1, M1, H1, hq, hs1, hA1⟩, .pass (x := .inLoop c) rfl (fun _ _ => .inl (by simp)) harr⟩
        | outgrown => exact ⟨_, a₁, w₁, ⟨E1, M1, H1, hq, hs1, hA1⟩, .pass (x := .inLoop c) rfl (fun _ _ => .inl (by simp)) harr⟩
    obtain ⟨e, a', w', hq, harr⟩ := key _ x0 a w rfl hI0 (hE0.sat hs) hA0
    exact ⟨e, a', w', hq, .of_steps (.one step_loop) harr⟩
  | exit id => intro Q E M H a w h hs hA; exact wp_exit ⟨E, M, H, h, hs, hA⟩
  | ret => intro Q E M H a w h hs hA; exact wp_ret ⟨E, M, H, h, hs, hA⟩
  | label l => intro Q E M H a w h hs hA; exact wp_label ⟨E, M, H, h, hs, hA⟩
  | rangeFunc => intro Q E M H a w h; exact h.elim
  | scope => intro Q E M H a w h; exact h.elim
  | goto => intro Q E M H a w h; exact h.elim
  | refuse => intro Q E M H a w h; exact h.elim

def resOne (tmps : Array Value) : ResultVar → Sem Value
  | .tmp t => pure (tmps.getD t undef)
  | .cell p t => do loadVar t (← asAddr (tmps.getD p undef))
theorem loadAt_asAddr {ty : TypeId} {v u : Value} {w : World} (h : (Instr.loadAt ty v).run P w = .ok u w) : (do loadVar ty (← asAddr v) : Sem Value).run P w = .ok u w := by
  cases v with
  | pointer ao =>
    cases ao with
    | none => simp [Instr.loadAt, Instr.sureAddr, stuck] at h
    | some a => simpa [Instr.loadAt, Instr.sureAddr, asAddr] using h
  | _ => simp [Instr.loadAt, Instr.sureAddr, stuck] at h
theorem retVals_out (hT : TabOK P T) {M : Mem} {H : Hist} {E : Env} {a : Act} {w : World} (hs : Sat N E a) (hA : A M H w) : ∀ {rs : List ResultVar} {K : List Value → Prop}, retVals P T M H E rs K →
    ∃ vs : List Value, vs.length = rs.length ∧ (∀ (i : Nat) (r : ResultVar), rs[i]? = some r → ∃ v, vs[i]? = some v ∧ (resOne a.tmps r).run P w = .ok v w) ∧ K vs
  | [], K, h => ⟨[], rfl, fun i r hi => by simp at hi, h⟩
  | .tmp t :: l, K, h => by
    unfold retVals at h
    split at h
    · rename_i v hv
      obtain ⟨vs, hl, hi, hK⟩ := retVals_out hT hs hA h
      refine ⟨v.den :: vs, by simp [hl], fun i r hr => ?_, hK⟩
      cases i with
      | zero =>
        simp at hr
        subst hr
        exact ⟨v.den, rfl, by simp [resOne, hs.get _ _ hv]⟩
      | succ i => exact hi i r (by simpa using hr)
    · exact h.elim
  | .cell p ty :: l, K, h => by
    unfold retVals at h
    split at h
    · rename_i pv hv
      obtain ⟨v, hr, M', H', h, hA'⟩ := loadV_out hT h hA
      obtain ⟨vs, hl, hi, hK⟩ := retVals_out hT hs hA h
      refine ⟨v.den :: vs, by simp [hl], fun i r hr' => ?_, hK⟩
      cases i with
      | zero =>
        simp at hr'
        subst hr'
        refine ⟨v.den, rfl, ?_⟩
        have hg' : a.tmps.getD p undef = pv.den := by simp [hs.get _ _ hv]
        simp only [resOne, hg']
        exact loadAt_asAddr hr
      | succ i => exact hi i r (by simpa using hr')
    · exact h.elim

theorem results_out {fn : Func} {rs : List ResultVar} (hrs : fn.results = rs.toArray) (h5 : rs.length ≤ 5) {tmps : Array Value} {w : World} {vs : List Value} (hl : vs.length = rs.length)
    (hi : ∀ (i : Nat) (r : ResultVar), rs[i]? = some r → ∃ v, vs[i]? = some v ∧ (resOne tmps r).run P w = .ok v w) :
    (results fn tmps).run P w = .ok (tup vs) w := by
  have hres : results fn tmps = (do
      let vs ← fn.results.mapM (resOne tmps)
      pure (if h : vs.size = 1 then vs[0] else .tuple vs)) := by
    unfold results
    congr 1
  rw [hres, hrs]
  match rs, vs, h5, hl, hi with
  | [], [], _, _, _ => simp [tup]
  | [r1], [v1], _, _, hi =>
    obtain ⟨u1, e1, r1⟩ := hi 0 _ rfl
    simp at e1; subst e1
    simp [r1, tup]
  | [r1, r2], [v1, v2], _, _, hi =>
    obtain ⟨u1, e1, q1⟩ := hi 0 _ rfl
    obtain ⟨u2, e2, q2⟩ := hi 1 _ rfl
    simp at e1 e2; subst e1; subst e2
    simp [q1, q2, tup]
  | [r1, r2, r3], [v1, v2, v3], _, _, hi =>
    obtain ⟨u1, e1, q1⟩ := hi 0 _ rfl
    obtain ⟨u2, e2, q2⟩ := hi 1 _ rfl
    obtain ⟨u3, e3, q3⟩ := hi 2 _ rfl
    simp at e1 e2 e3; subst e1; subst e2; subst e3
    simp [q1, q2, q3, tup]
  | [r1, r2, r3, r4], [v1, v2, v3, v4], _, _, hi =>
    obtain ⟨u1, e1, q1⟩ := hi 0 _ rfl
    obtain ⟨u2, e2, q2⟩ := hi 1 _ rfl
    obtain ⟨u3, e3, q3⟩ := hi 2 _ rfl
    obtain ⟨u4, e4, q4⟩ := hi 3 _ rfl
    simp at e1 e2 e3 e4; subst e1; subst e2; subst e3; subst e4
    simp [q1, q2, q3, q4, tup]
  | [r1, r2, r3, r4, r5], [v1, v2, v3, v4, v5], _, _, hi =>
    obtain ⟨u1, e1, q1⟩ := hi 0 _ rfl
    obtain ⟨u2, e2, q2⟩ := hi 1 _ rfl
    obtain ⟨u3, e3, q3⟩ := hi 2 _ rfl
    obtain ⟨u4, e4, q4⟩ := hi 3 _ rfl
    obtain ⟨u5, e5, q5⟩ := hi 4 _ rfl
    simp at e1 e2 e3 e4 e5; subst e1; subst e2; subst e3; subst e4; subst e5
    simp [q1, q2, q3, q4, q5, tup]

def envOf : Nat → List SV → Env
  | _, [] => []
  | i, v :: l => (i, v) :: envOf (i + 1) l
theorem envOf_get : ∀ {l : List SV} {i t : Nat} {v : SV}, (envOf i l).get t = some v → i ≤ t ∧ l[t - i]? = some v
  | [], i, t, v, h => by simp [envOf, Env.get] at h
  | x :: l, i, t, v, h => by
    rw [envOf, Env.get_cons] at h
    split at h
    · rename_i e; subst e; injection h with h; subst h; simp
    · rename_i e
      obtain ⟨h1, h2⟩ := envOf_get h
      refine ⟨by omega, ?_⟩
      rw [show t - i = (t - (i + 1)) + 1 by omega]
      simpa using h2

/-- A function's contract out of its condition. -/
theorem calls_of_vc (hS : Seat P T ents) {f : FuncId} {fn : Func} {c : Code} {rs : List ResultVar} (hf : P.funcs[f]? = some fn) (hb : fn.body = some c) (hrs : fn.results = rs.toArray) (h5 : rs.length ≤ 5) {args : List SV} (hn : args.length ≤ fn.ntmps) (hN : fn.ntmps = N)
    {w : World} {R : Ending → World → Prop} {M : Mem} {H : Hist} (hA : A M H w) (h : vcC P T N ents c (retQ P T rs R) (envOf 0 args) M H) : Calls P f (args.map SV.den).toArray w R := by
  refine calls_of_wp hf hb (Code.wp_mono (fun e a w hq => ?_) (vcC_ok hS c h (a := { tmps := (args.map SV.den).toArray ++ Array.replicate (fn.ntmps - (args.map SV.den).toArray.size) undef, defers := [] }) ⟨rfl, ?_, fun t v ht => ?_⟩ hA))
  · obtain ⟨E', M', H', hq, hs, hA'⟩ := hq
    have fin : ∀ vsK, retVals P T M' H' E' rs vsK → (∀ vs, vsK vs → ∀ w, A M' H' w → R (.returned (tup vs)) w) →
        a.defers = [] ∧ ∃ v, (results fn a.tmps).run P w = .ok v w ∧ R (.returned v) w := by
      intro vsK hv hR
      obtain ⟨vs, hl, hi, hK⟩ := retVals_out hS.tab hs hA' hv
      exact ⟨hs.defers, _, results_out hrs h5 hl hi, hR vs hK w hA'⟩
    cases e with
    | normal => exact fin _ hq fun vs h => h
    | ret => exact fin _ hq fun vs h => h
    | _ => exact hq.elim
  · simp; omega
  · obtain ⟨_, h2⟩ := envOf_get ht
    have hlt := (List.getElem?_eq_some_iff.1 h2).1
    simp at hlt
    rw [Array.getElem?_append_left (by simpa using hlt)]
    simp at h2 ⊢
    exact ⟨v, h2, rfl⟩
end
theorem A.bel {M : Mem} {H : Hist} {w w' : World} (hA : A M H w') (h : (w, fun _ => False) ∈ H) : Below w.heap.size w w' := (hA.since _ h).below
end Go.Proofs.YtllepnadffndnaaDoor
