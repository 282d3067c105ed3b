/- Parts of a proof, one behind the other: Code, Slice, Eq, M4, M5, M6, M7, M8, M9, M10, M11, M12, M13. -/
import Derived.ChangeKeysEq
import Derived.Laws.IdiomStrings
import Derived.Test.YtmeeeigfjlbnkaaGreatW01
namespace Go.Proofs.YtmeeeigfjlbnkaaGreat
open Go.RowKit
def tup : List Value → Value
  | [v] => v
  | vs => .tuple vs.toArray
abbrev ContE := Env → Mem → Hist → Prop
section
variable (P : Program) (T : Tab) (N : Nat) (ents : List FuncId)
def putK (dst : Option Tmp) (E : Env) (K : ContE) : Cont := fun sv M H => match dst with
  | none => K E M H
  | some d => match Nat.blt d N with
    | true => K ((d, sv) :: E) M H
    | false => False
def opG (ops : Array Oper) (o : Oper) (K : ContE) : ContE := fun E M H => match o.guard with
  | none => opV P T E M H ents o (putK N o.dst E K)
  | some (j, want) => match (ops[j]?).bind (·.dst) with
    | none => False
    | some s => match E.get s with
      | some (.val (.bool t)) =>
        (t = want → opV P T ((s, .lit want) :: E) M H ents o (putK N o.dst ((s, .lit want) :: E) K)) ∧
        (t = !want → putK N o.dst ((s, .lit (!want)) :: E) K (.val undef) M H)
      | some (.lit t) => match t, want with
        | true, true | false, false => opV P T E M H ents o (putK N o.dst E K)
        | true, false | false, true => putK N o.dst E K (.val undef) M H
      | some (.val (.tuple _)) => putK N o.dst E K (.val undef) M H
      | _ => False
def quietG (M0 : Mem) (H0 : Hist) (C0 : List (Nat × Nat × Nat × SV)) (ops : Array Oper) (o : Oper) (K : ContE) : ContE := fun E M H => match o.guard with
  | none => quietV P T E M0 H0 C0 o fun v => putK N o.dst E K v M H
  | some (j, want) => match (ops[j]?).bind (·.dst) with
    | none => False
    | some s => match E.get s with
      | some (.val (.bool t)) =>
        (t = want → quietV P T ((s, .lit want) :: E) M0 H0 C0 o fun v => putK N o.dst ((s, .lit want) :: E) K v M H) ∧
        (t = !want → putK N o.dst ((s, .lit (!want)) :: E) K (.val undef) M H)
      | some (.lit t) => match t, want with
        | true, true | false, false => quietV P T E M0 H0 C0 o fun v => putK N o.dst E K v M H
        | true, false | false, true => putK N o.dst E K (.val undef) M H
      | some (.val (.tuple _)) => putK N o.dst E K (.val undef) M H
      | _ => False
def vcOps (ops : Array Oper) : List Oper → ContE → ContE
  | [], K => K
  | o :: rest, K => opG P T N ents ops o (vcOps ops rest K)
def keepsH : Hist → Hist → Prop → Prop
  | [], _, X => X
  | p :: r, H, X => p ∈ H ∧ keepsH r H X
def keeps : Mem → Hist → Mem → Hist → Prop → Prop
  | [], H0, _, H, X => keepsH H0 H X
  | (i, kb) :: r, H0, M, H, X => M.find i = some kb ∧ keeps r H0 M H X
inductive Plan where
  | done
  | stop
  | take (i : Nat) (p : Plan)
  | alt (i : Nat) (p q : Plan)
def vcPlan (M0 : Mem) (H0 : Hist) (C0 : List (Nat × Nat × Nat × SV)) (ops : Array Oper) : Plan → ContE → ContE
  | .done, K, E, M, H => K E M H
  | .stop, _, _, _, _ => True
  | .take i p, K, E, M, H => match ops[i]? with | some o => quietG P T N M0 H0 C0 ops o (vcPlan M0 H0 C0 ops p K) E M H | none => False
  | .alt i p .stop, K, E, M, H => match ops[i]? with | some o => opG P T N ents ops o (fun E M H => keeps M0 H0 M H (keepsC C0 M (vcPlan M0 H0 C0 ops p K E M H))) E M H | none => False
  | .alt i p q, K, E, M, H => (match ops[i]? with | some o => opG P T N ents ops o (fun E M H => keeps M0 H0 M H (keepsC C0 M (vcPlan M0 H0 C0 ops p K E M H))) E M H | none => False) ∧ vcPlan M0 H0 C0 ops q K E M H
def Plan.chk (ops : Array Oper) : Plan → Bool → Nat → Array Bool → List Nat → Bool
  | .done, fresh, _, _, rs => fresh && rs.isEmpty
  | .stop, fresh, _, _, rs => !fresh && rs.isEmpty
  | .take i p, fresh, fuel + 1, l, rs => fresh && rs.contains i && Region.free .any ops l i && p.chk ops true fuel (l.setIfInBounds i true) (Region.ready .any ops (l.setIfInBounds i true))
  | .alt i p q, _, fuel + 1, l, rs => rs.contains i && p.chk ops true fuel (l.setIfInBounds i true) (Region.ready .any ops (l.setIfInBounds i true)) && q.chk ops false (fuel + 1) l (rs.filter (· != i))
  | _, _, 0, _, _ => false
def Plan.good (ops : Array Oper) (p : Plan) : Bool := Region.noSelect ops && p.chk ops true ops.size (Array.replicate ops.size false) (Region.ready .any ops (Array.replicate ops.size false))
def Subst : Env → Env → Prop
  | [], _ => True
  | (t, v) :: E', E => (∃ u, E.get t = some u ∧ u.den = v.den) ∧ Subst E' E
def vcC : Code → (Exit → ContE) → ContE
  | .skip, Q, E, M, H => Q .normal E M H
  | .region _ ops draw, Q, E, M, H => match draw with
    | false => vcOps P T N ents ops ops.toList (Q .normal) E M H
    | true => ∃ (E' : Env) (M0 : Mem) (H0 : Hist) (C0 : List (Nat × Nat × Nat × SV)), (Subst E' E ∨ E' = E) ∧ (MSub M0 M ∨ M0 = M) ∧ (∀ p ∈ H0, p ∈ H) ∧ ∃ pl : Plan, pl.good ops = true ∧ keepsC C0 M (vcPlan P T N ents M0 H0 C0 ops pl (Q .normal) E' M H)
  | .seq x y, Q, E, M, H => vcC x (fun e E M H => match e with | .normal => vcC y Q E M H | e => Q e E M H) E M H
  | .cond c x y, Q, E, M, H => withV E c fun v => match v with
    | .val (.bool t) => (t = true → vcC x Q E M H) ∧ (t = false → vcC y Q E M H)
    | .lit true => vcC x Q E M H
    | .lit false => vcC y Q E M H
    | _ => False
  | .block id c, Q, E, M, H => vcC c (fun e E M H => match e with | .exit i => (bif Nat.beq i id then Q .normal E M H else Q (.exit i) E M H) | e => Q e E M H) E M H
  | .loop c, Q, E, M, H => ∃ (X : Type) (E' : X → Env) (M' : X → Mem) (H' : X → Hist) (I : X → Prop) (μ : X → Nat),
      (∀ w, A M H w → ∃ x, I x ∧ Subst (E' x) E ∧ A (M' x) (H' x) w) ∧
      ∀ x, I x → vcC c (fun e E1 M1 H1 => match e with | .normal => ∀ w, A M1 H1 w → ∃ x', I x' ∧ μ x' < μ x ∧ Subst (E' x') E1 ∧ A (M' x') (H' x') w | e => Q e E1 M1 H1) (E' x) (M' x) (H' x)
  | .exit id, Q, E, M, H => Q (.exit id) E M H
  | .ret, Q, E, M, H => Q .ret E M H
  | .label _, Q, E, M, H => Q .normal E M H
  | _, _, _, _, _ => False
def regionOps (n : Nat) : Code → Option (Array Oper)
  | .region id ops _ => bif Nat.beq id n then some ops else none
  | .seq x y => match regionOps n x with | some o => some o | none => regionOps n y
  | .cond _ x y => match regionOps n x with | some o => some o | none => regionOps n y
  | .block _ c => regionOps n c
  | .loop c => regionOps n c
  | _ => none
def opsIn (f : Func) (n : Nat) : Array Oper := match f.body with
  | some c => match regionOps n c with | some o => o | none => #[]
  | none => #[]
def retVals (M : Mem) (H : Hist) (E : Env) : List ResultVar → (List Value → Prop) → Prop
  | [], K => K []
  | .tmp t :: l, K => match E.get t with | some v => retVals M H E l fun r => K (v.den :: r) | none => False
  | .cell p ty :: l, K => match E.get p with | some p => loadV P T M H ty p fun v _ _ => retVals M H E l fun r => K (v.den :: r) | none => False
def retQ (rs : List ResultVar) (R : Ending → World → Prop) : Exit → ContE := fun e E M H => match e with
  | .ret | .normal => retVals P T M H E rs fun vs => ∀ w, A M H w → R (.returned (tup vs)) w
  | _ => False
end
section
variable {P : Program} {T : Tab} {N : Nat} {ents : List FuncId}
def Post (N : Nat) (Q : Exit → ContE) : Exit → Act → World → Prop := fun e a w => ∃ E M H, Q e E M H ∧ Sat N E a ∧ A M H w
theorem putK_out {dst : Option Tmp} {E : Env} {K : ContE} {sv : SV} {M : Mem} {H : Hist} {a : Act} {w : World} (h : putK N dst E K sv M H) (hs : Sat N E a) (hA : A M H w) :
    ∃ E', K E' M H ∧ Sat N E' (a.put dst sv.den) ∧ A M H w := by
  unfold putK at h
  split at h
  · exact ⟨E, h, hs, hA⟩
  · rename_i d
    split at h
    · rename_i hd
      have hd' : d < N := by simpa [Nat.blt_eq] using hd
      exact ⟨_, h, hs.put hd' sv, hA⟩
    · exact h.elim
theorem Sat.know {E : Env} {a : Act} (hs : Sat N E a) {s : Nat} {u v : SV} (hu : E.get s = some u) (he : u.den = v.den) : Sat N ((s, v) :: E) a := by
  refine ⟨hs.defers, hs.size, fun t x hx => ?_⟩
  rw [Env.get_cons] at hx
  split at hx
  · rename_i e
    subst e
    injection hx with hx
    subst hx
    rw [hs.get _ _ hu, he]
  · exact hs.get _ _ hx
theorem opG_out (hS : Seat P T ents) {ops : Array Oper} {o : Oper} {K : ContE} {E : Env} {M : Mem} {H : Hist} {a : Act} {w : World} {next : Act → World → Prop} {Q : Exit → Act → World → Prop}
    (h : opG P T N ents ops o K E M H) (hs : Sat N E a) (hA : A M H w) (hn : ∀ E M H a w, K E M H → Sat N E a → A M H w → next a w) :
    if Region.wanted o (yielded ops a.tmps) then o.wp P a w next Q ∨ (o.asks P a w ∧ LetsOut Q) else next (a.put o.dst undef) w := by
  have run : ∀ {E : Env}, Sat N E a → opV P T E M H ents o (putK N o.dst E K) → o.wp P a w next Q := by
    intro E hs h
    refine (opV_ok hS h hs hA).wp fun sv w' ⟨M', H', hk, hA'⟩ => ?_
    obtain ⟨E', hk', hs', hA''⟩ := putK_out hk hs hA'
    exact hn _ _ _ _ _ hk' hs' hA''
  have skip : ∀ {E : Env}, Sat N E a → putK N o.dst E K (.val undef) M H → next (a.put o.dst undef) w := by
    intro E hs h
    obtain ⟨E', hk', hs', hA''⟩ := putK_out h hs hA
    exact hn _ _ _ _ _ hk' hs' hA''
  unfold opG at h
  split at h
  · rename_i hg
    rw [if_pos (by simp [Region.wanted, hg])]
    exact .inl (run hs h)
  · rename_i j want hg
    split at h
    · exact h.elim
    · rename_i s hj
      split at h
      · rename_i t hE
        have hv := hs.get _ _ hE
        have hy' : yielded ops a.tmps j = some t := by simp [yielded, hj, hv, SV.den]
        by_cases ht : t = want
        · rw [if_pos (by simp [Region.wanted, hg, hy', ht])]
          exact .inl (run (hs.know hE (by rw [ht]; rfl)) (h.1 ht))
        · have ht' : t = !want := by cases t <;> cases want <;> simp_all
          rw [if_neg (by simp [Region.wanted, hg, hy', ht])]
          exact skip (hs.know hE (by rw [ht']; rfl)) (h.2 ht')
      · rename_i t hE
        have hv := hs.get _ _ hE
        have hy' : yielded ops a.tmps j = some t := by simp [yielded, hj, hv, SV.den]
        split at h
        · rw [if_pos (by simp [Region.wanted, hg, hy'])]
          exact .inl (run hs h)
        · rw [if_pos (by simp [Region.wanted, hg, hy'])]
          exact .inl (run hs h)
        · rw [if_neg (by simp [Region.wanted, hg, hy'])]
          exact skip hs h
        · rw [if_neg (by simp [Region.wanted, hg, hy'])]
          exact skip hs h
      · rename_i vs hE
        have hv := hs.get _ _ hE
        have hy' : yielded ops a.tmps j = none := by simp [yielded, hj, hv, SV.den]
        rw [if_neg (by simp [Region.wanted, hg, hy'])]
        exact skip hs h
      · exact h.elim
theorem keepsH_out : ∀ {H0 H : Hist} {X : Prop}, keepsH H0 H X → (∀ p ∈ H0, p ∈ H) ∧ X
  | [], _, _, h => ⟨fun _ hp => (nomatch hp), h⟩
  | _ :: _, _, _, h => ⟨fun p hp => (List.mem_cons.1 hp).elim (fun e => e ▸ h.1) (fun hp => (keepsH_out h.2).1 p hp), (keepsH_out h.2).2⟩
theorem keeps_out : ∀ {M0 M : Mem} {H0 H : Hist} {X : Prop}, keeps M0 H0 M H X → MSub M0 M ∧ (∀ p ∈ H0, p ∈ H) ∧ X
  | [], _, _, _, _, h => ⟨trivial, keepsH_out h⟩
  | _ :: _, _, _, _, _, h => ⟨⟨h.1, (keeps_out h.2).1⟩, (keeps_out h.2).2⟩
theorem quietG_out (hS : Seat P T ents) {M0 : Mem} {H0 : Hist} {C0 : List (Nat × Nat × Nat × SV)} {ops : Array Oper} {o : Oper} {K : ContE} {E : Env} {M : Mem} {H : Hist} {a : Act} {w : World} {next : Act → World → Prop}
    (h : quietG P T N M0 H0 C0 ops o K E M H) (hs : Sat N E a) (hA : A M H w) (hn : ∀ E M H a w, K E M H → Sat N E a → A M H w → next a w) :
    ∃ v, YieldsIf P ops (fun w => A M0 H0 w ∧ CellsOK C0 w) o v a ∧ next (a.put o.dst v) w := by
  have run : ∀ {E : Env}, Region.wanted o (yielded ops a.tmps) = true → Sat N E a → (quietV P T E M0 H0 C0 o fun v => putK N o.dst E K v M H) → ∃ v, YieldsIf P ops (fun w => A M0 H0 w ∧ CellsOK C0 w) o v a ∧ next (a.put o.dst v) w := by
    intro E hw hs h
    obtain ⟨sv, hr, hk⟩ := quietV_out hS.tab h hs
    obtain ⟨E', hk', hs', hA''⟩ := putK_out hk hs hA
    exact ⟨sv.den, .inl ⟨hw, hr⟩, hn _ _ _ _ _ hk' hs' hA''⟩
  have skip : ∀ {E : Env}, Region.wanted o (yielded ops a.tmps) = false → Sat N E a → putK N o.dst E K (.val undef) M H → ∃ v, YieldsIf P ops (fun w => A M0 H0 w ∧ CellsOK C0 w) o v a ∧ next (a.put o.dst v) w := by
    intro E hw hs h
    obtain ⟨E', hk', hs', hA''⟩ := putK_out h hs hA
    exact ⟨undef, .inr ⟨hw, rfl⟩, hn _ _ _ _ _ hk' hs' hA''⟩
  unfold quietG at h
  split at h
  · rename_i hg
    exact run (by simp [Region.wanted, hg]) hs h
  · rename_i j want hg
    split at h
    · exact h.elim
    · rename_i s hj
      split at h
      · rename_i t hE
        have hv := hs.get _ _ hE
        have hy' : yielded ops a.tmps j = some t := by simp [yielded, hj, hv, SV.den]
        by_cases ht : t = want
        · exact run (by simp [Region.wanted, hg, hy', ht]) (hs.know hE (by rw [ht]; rfl)) (h.1 ht)
        · have ht' : t = !want := by cases t <;> cases want <;> simp_all
          exact skip (by simp [Region.wanted, hg, hy', ht]) (hs.know hE (by rw [ht']; rfl)) (h.2 ht')
      · rename_i t hE
        have hv := hs.get _ _ hE
        have hy' : yielded ops a.tmps j = some t := by simp [yielded, hj, hv, SV.den]
        split at h
        · exact run (by simp [Region.wanted, hg, hy']) hs h
        · exact run (by simp [Region.wanted, hg, hy']) hs h
        · exact skip (by simp [Region.wanted, hg, hy']) hs h
        · exact skip (by simp [Region.wanted, hg, hy']) hs h
      · rename_i vs hE
        have hv := hs.get _ _ hE
        have hy' : yielded ops a.tmps j = none := by simp [yielded, hj, hv, SV.den]
        exact skip (by simp [Region.wanted, hg, hy']) hs h
      · exact h.elim
theorem vcOps_ok (hS : Seat P T ents) (ops : Array Oper) : ∀ (l : List Oper) {K : ContE} {E : Env} {M : Mem} {H : Hist} {a : Act} {w : World} {Q : Exit → Act → World → Prop},
    vcOps P T N ents ops l K E M H → Sat N E a → A M H w → (∀ E M H a w, K E M H → Sat N E a → A M H w → Q .normal a w) → wpList P ops Q l a w
  | [], _, E, M, H, a, w, _, h, hs, hA, hQ => hQ E M H a w h hs hA
  | _ :: rest, _, _, _, _, _, _, Q, h, hs, hA, hQ =>
    opG_out hS (next := wpList P ops Q rest) (Q := Q) h hs hA fun _ _ _ _ _ h hs hA => vcOps_ok hS ops rest h hs hA hQ
theorem vcPlan_alt {M0 : Mem} {H0 : Hist} {C0 : List (Nat × Nat × Nat × SV)} {ops : Array Oper} {i : Nat} {p q : Plan} {K : ContE} {E : Env} {M : Mem} {H : Hist} (h : vcPlan P T N ents M0 H0 C0 ops (.alt i p q) K E M H) :
    (∃ o, ops[i]? = some o ∧ opG P T N ents ops o (fun E M H => keeps M0 H0 M H (keepsC C0 M (vcPlan P T N ents M0 H0 C0 ops p K E M H))) E M H) ∧ vcPlan P T N ents M0 H0 C0 ops q K E M H := by
  have one : (match ops[i]? with | some o => opG P T N ents ops o (fun E M H => keeps M0 H0 M H (keepsC C0 M (vcPlan P T N ents M0 H0 C0 ops p K E M H))) E M H | none => False) → ∃ o, ops[i]? = some o ∧ opG P T N ents ops o (fun E M H => keeps M0 H0 M H (keepsC C0 M (vcPlan P T N ents M0 H0 C0 ops p K E M H))) E M H := by
    intro h
    split at h
    · rename_i o ho; exact ⟨o, ho, h⟩
    · exact h.elim
  cases q with
  | stop =>
    refine ⟨?_, trivial⟩
    simp only [vcPlan] at h
    split at h
    · rename_i o ho; exact ⟨o, ho, h⟩
    · exact h.elim
  | done => exact ⟨one h.1, h.2⟩
  | take => exact ⟨one h.1, h.2⟩
  | alt => exact ⟨one h.1, h.2⟩
theorem vcPlan_ok (hS : Seat P T ents) (M0 : Mem) (H0 : Hist) (C0 : List (Nat × Nat × Nat × SV)) (ops : Array Oper) (hsel : Region.noSelect ops = true) {K : ContE} {Q : Exit → Act → World → Prop} (hQ : ∀ E M H a w, K E M H → Sat N E a → A M H w → Q .normal a w) (hno : ∀ c a w, ¬ Q (.panic c) a w) :
    ∀ (p : Plan) {fuel : Nat} {l : Array Bool} {rs : List Nat} {fresh : Bool} {E : Env} {M : Mem} {H : Hist} {a : Act} {w : World}, p.chk ops fresh fuel l rs = true → vcPlan P T N ents M0 H0 C0 ops p K E M H → Sat N E a → A M H w → (A M0 H0 w ∧ CellsOK C0 w) →
      (fresh = true → rs = Region.ready .any ops l → wpAnyH P .any ops Q (fun w => A M0 H0 w ∧ CellsOK C0 w) fuel l a w) ∧ (fresh = false → ∀ i ∈ rs, wpOp P ops Q i (fun a' w' => (A M0 H0 w' ∧ CellsOK C0 w') ∧ wpAnyH P .any ops Q (fun w => A M0 H0 w ∧ CellsOK C0 w) (fuel - 1) (l.setIfInBounds i true) a' w') a w) := by
  intro p
  induction p with
  | done =>
    intro fuel l rs fresh E M H a w hc h hs hA hS0
    simp only [Plan.chk, Bool.and_eq_true, List.isEmpty_iff] at hc
    obtain ⟨hf, rfl⟩ := hc
    refine ⟨fun _ hr => ?_, fun h => by rw [hf] at h; cases h⟩
    have hq := hQ _ _ _ _ _ h hs hA
    cases fuel with
    | zero => exact ⟨hr.symm, hq⟩
    | succ fuel => exact ⟨fun _ => hq, by rw [← hr]; simp⟩
  | stop =>
    intro fuel l rs fresh E M H a w hc h hs hA hS0
    simp only [Plan.chk, Bool.and_eq_true, List.isEmpty_iff, Bool.not_eq_true'] at hc
    obtain ⟨hf, rfl⟩ := hc
    exact ⟨fun h => (by rw [hf] at h; cases h), fun _ => by simp⟩
  | take i p ih =>
    intro fuel l rs fresh E M H a w hc h hs hA hS0
    cases fuel with
    | zero => simp [Plan.chk] at hc
    | succ fuel =>
      simp only [Plan.chk, Bool.and_eq_true] at hc
      obtain ⟨⟨⟨hf, hi⟩, hfree⟩, hc⟩ := hc
      refine ⟨fun _ hr => ?_, fun h => by rw [hf] at h; cases h⟩
      subst hr
      simp only [vcPlan] at h
      split at h
      · rename_i o ho
        obtain ⟨v, hy, hn⟩ := quietG_out hS (next := fun a w => (A M0 H0 w ∧ CellsOK C0 w) → wpAnyH P .any ops Q (fun w => A M0 H0 w ∧ CellsOK C0 w) fuel (l.setIfInBounds i true) a w) h hs hA fun E M H a w h hs hA hS0 => (ih hc h hs hA hS0).1 rfl rfl
        exact wpAnyH_take ho hsel hfree hi (fun c a w hq => absurd hq (hno _ _ _)) hy hS0 (hn hS0)
      · exact h.elim
  | alt i p q ihp ihq =>
    intro fuel l rs fresh E M H a w hc h hs hA hS0
    cases fuel with
    | zero => simp [Plan.chk] at hc
    | succ fuel =>
      simp only [Plan.chk, Bool.and_eq_true] at hc
      obtain ⟨⟨hi, hcp⟩, hcq⟩ := hc
      obtain ⟨⟨o, ho, h1⟩, h2⟩ := vcPlan_alt h
      have key : ∀ j ∈ rs, wpOp P ops Q j (fun a' w' => (A M0 H0 w' ∧ CellsOK C0 w') ∧ wpAnyH P .any ops Q (fun w => A M0 H0 w ∧ CellsOK C0 w) fuel (l.setIfInBounds j true) a' w') a w := by
        intro j hj
        by_cases hji : j = i
        · subst hji
          have := opG_out hS (next := fun a' w' => (A M0 H0 w' ∧ CellsOK C0 w') ∧ wpAnyH P .any ops Q (fun w => A M0 H0 w ∧ CellsOK C0 w) fuel (l.setIfInBounds j true) a' w') (Q := Q) h1 hs hA fun E M H a w h hs hA => by
            obtain ⟨hm, hh, h⟩ := keeps_out h
            obtain ⟨hC, h⟩ := keepsC_out hA h
            have hA0 := And.intro ((hA.sub hm).hist hh) hC
            exact ⟨hA0, (ihp hcp h hs hA hA0).1 rfl rfl⟩
          unfold wpOp
          rw [ho]
          exact this
        · exact (ihq hcq h2 hs hA hS0).2 rfl j (by simp [hj, hji])
      refine ⟨fun _ hr => ?_, fun _ => key⟩
      subst hr
      refine ⟨fun h0 => ?_, key⟩
      rw [h0] at hi
      cases hi
theorem Subst.sat {E : Env} {a : Act} (hs : Sat N E a) : ∀ {E' : Env}, Subst E' E → Sat N E' a
  | [], _ => ⟨hs.defers, hs.size, fun t v h => by simp [Env.get] at h⟩
  | (t, v) :: E', h => by
    obtain ⟨⟨u, hu, he⟩, h'⟩ := h
    have ih := Subst.sat hs h'
    refine ⟨hs.defers, hs.size, fun t' x hx => ?_⟩
    rw [Env.get_cons] at hx
    split at hx
    · rename_i e
      subst e
      injection hx with hx
      subst hx
      rw [hs.get _ _ hu, he]
    · exact ih.get _ _ hx
theorem vcC_ok (hS : Seat P T ents) : ∀ (c : Code) {Q : Exit → ContE} {E : Env} {M : Mem} {H : Hist} {a : Act} {w : World},
    vcC P T N ents c Q E M H → Sat N E a → A M H w → c.wp P (Post N Q) a w := by
  intro c
  induction c with
  | skip => intro Q E M H a w h hs hA; exact wp_skip ⟨E, M, H, h, hs, hA⟩
  | region id ops draw =>
    intro Q E M H a w h hs hA
    cases draw with
    | false => exact wp_region_list (vcOps_ok hS ops _ h hs hA fun E M H a w hk hs hA => ⟨E, M, H, hk, hs, hA⟩)
    | true =>
      obtain ⟨E', M0, H0, C0, hE, hm, hh, pl, hg, h⟩ := h
      have hsE : Sat N E' a := by
        rcases hE with hE | rfl
        · exact hE.sat hs
        · exact hs
      have hm : MSub' M0 M := by
        rcases hm with hm | rfl
        · exact hm.find
        · exact fun _ _ h => h
      obtain ⟨hC, h⟩ := keepsC_out hA h
      simp only [Plan.good, Bool.and_eq_true] at hg
      refine Code.wp_mono (Q := fun e a w => e = .normal ∧ Post N Q .normal a w) (fun e a w hq => by obtain ⟨rfl, hq⟩ := hq; exact hq) ?_
      refine wp_region_held (S := fun w => A M0 H0 w ∧ CellsOK C0 w) hS.mixed ?_
      exact (vcPlan_ok hS M0 H0 C0 ops hg.1 (fun E M H a w h hs hA => ⟨rfl, E, M, H, h, hs, hA⟩) (fun c a w hq => by cases hq.1) pl hg.2 h hsE hA.drew ⟨((hA.sub' hm).hist hh).drew, hC.drew⟩).1 rfl rfl
  | seq x y ihx ihy =>
    intro Q E M H a w h hs hA
    refine wp_seq (Code.wp_mono (fun e a w hq => ?_) (ihx h hs hA))
    obtain ⟨E', M', H', hq, hs', hA'⟩ := hq
    cases e with
    | normal => exact ihy hq hs' hA'
    | _ => exact ⟨E', M', H', hq, hs', hA'⟩
  | cond c x y ihx ihy =>
    intro Q E M H a w h hs hA
    obtain ⟨v, hv, h⟩ := withV_out h
    cases v with
    | ptr => exact h.elim
    | lit t =>
      cases t
      · exact wp_cond_split (hs.ev hv) (fun ht => nomatch ht) (fun _ => ihy h hs hA)
      · exact wp_cond_split (hs.ev hv) (fun _ => ihx h hs hA) (fun ht => nomatch ht)
    | val v =>
      cases v <;> try exact h.elim
      rename_i t
      exact wp_cond_split (hs.ev hv) (fun ht => ihx (h.1 ht) hs hA) (fun ht => ihy (h.2 ht) hs hA)
  | block id c ih =>
    intro Q E M H a w h hs hA
    refine wp_block (Code.wp_mono (fun e a w hq => ?_) (ih h hs hA))
    obtain ⟨E', M', H', hq, hs', hA'⟩ := hq
    cases e with
    | exit i =>
      by_cases hi : i = id
      · subst hi
        simp at hq
        simp only [Exit.inBlock, if_true]
        exact ⟨E', M', H', hq, hs', hA'⟩
      · simp only [beq_ne hi, cond_false] at hq
        simp only [Exit.inBlock, hi, if_false]
        exact ⟨E', M', H', hq, hs', hA'⟩
    | _ => exact ⟨E', M', H', hq, hs', hA'⟩
  | loop c ih =>
    intro Q E M H a w h hs hA
    obtain ⟨X, E', M', H', I, μ, h0, h1⟩ := h
    obtain ⟨x0, hI0, hE0, hA0⟩ := h0 w hA
    intro b k cs
    have key : ∀ n x a w, μ x = n → I x → Sat N (E' x) a → A (M' x) (H' x) w →
        ∃ e a' w', Post N Q e a' w' ∧ Arrives P (lone (b.at a (.code c :: .inLoop c :: k)) cs w) b k cs e a' w' := by
      intro n
      induction n using Nat.strongRecOn with
      | _ n ihn =>
        intro x a w hn hI hs hA
        obtain ⟨e, a₁, w₁, hq, harr⟩ := ih (h1 x hI) hs hA b (.inLoop c :: k) cs
        obtain ⟨E1, M1, H1, hq, hs1, hA1⟩ := hq
        cases e with
        | normal =>
          obtain ⟨x', hI', hlt, hE', hA'⟩ := hq w₁ hA1
          obtain ⟨e₂, a₂, w₂, hq₂, harr₂⟩ := ihn (μ x') (hn ▸ hlt) x' a₁ w₁ rfl hI' (hE'.sat hs1) hA'
          exact ⟨e₂, a₂, w₂, hq₂, .of_steps (Steps.trans harr (.one step_inLoop)) harr₂⟩
        | exit id => exact ⟨_, a₁, w₁, ⟨E1, M1, H1, hq, hs1, hA1⟩, .pass (x := .inLoop c) rfl (fun _ _ => .inl (by simp)) harr⟩
        | goto l => exact ⟨_, a₁, w₁, ⟨E1, M1, H1, hq, hs1, hA1⟩, .pass (x := .inLoop c) rfl (fun _ _ => .inl (by simp)) harr⟩
        | ret => exact ⟨_, a₁, w₁, ⟨E1, M1, H1, hq, hs1, hA1⟩, .pass (x := .inLoop c) rfl (fun _ _ => .inl (by simp)) harr⟩
        | panic ch => exact ⟨_, a₁, w₁, ⟨E1, M1, H1, hq, hs1, hA1⟩, .pass (x := .inLoop c) rfl (fun _ _ => .inl (by simp)) harr⟩
        | outgrown => exact ⟨_, a₁, w₁, ⟨E1, M1, H1, hq, hs1, hA1⟩, .pass (x := .inLoop c) rfl (fun _ _ => .inl (by simp)) harr⟩
    obtain ⟨e, a', w', hq, harr⟩ := key _ x0 a w rfl hI0 (hE0.sat hs) hA0
    exact ⟨e, a', w', hq, .of_steps (.one step_loop) harr⟩
  | exit id => intro Q E M H a w h hs hA; exact wp_exit ⟨E, M, H, h, hs, hA⟩
  | ret => intro Q E M H a w h hs hA; exact wp_ret ⟨E, M, H, h, hs, hA⟩
  | label l => intro Q E M H a w h hs hA; exact wp_label ⟨E, M, H, h, hs, hA⟩
  | rangeFunc => intro Q E M H a w h; exact h.elim
  | scope => intro Q E M H a w h; exact h.elim
  | goto => intro Q E M H a w h; exact h.elim
  | refuse => intro Q E M H a w h; exact h.elim
def resOne (tmps : Array Value) : ResultVar → Sem Value
  | .tmp t => pure (tmps.getD t undef)
  | .cell p t => do loadVar t (← asAddr (tmps.getD p undef))
theorem loadAt_asAddr {ty : TypeId} {v u : Value} {w : World} (h : (Instr.loadAt ty v).run P w = .ok u w) : (do loadVar ty (← asAddr v) : Sem Value).run P w = .ok u w := by
  cases v with
  | pointer ao =>
    cases ao with
    | none => simp [Instr.loadAt, Instr.sureAddr, stuck] at h
    | some a => simpa [Instr.loadAt, Instr.sureAddr, asAddr] using h
  | _ => simp [Instr.loadAt, Instr.sureAddr, stuck] at h
theorem retVals_out (hT : TabOK P T) {M : Mem} {H : Hist} {E : Env} {a : Act} {w : World} (hs : Sat N E a) (hA : A M H w) : ∀ {rs : List ResultVar} {K : List Value → Prop}, retVals P T M H E rs K →
    ∃ vs : List Value, vs.length = rs.length ∧ (∀ (i : Nat) (r : ResultVar), rs[i]? = some r → ∃ v, vs[i]? = some v ∧ (resOne a.tmps r).run P w = .ok v w) ∧ K vs
  | [], K, h => ⟨[], rfl, fun i r hi => by simp at hi, h⟩
  | .tmp t :: l, K, h => by
    unfold retVals at h
    split at h
    · rename_i v hv
      obtain ⟨vs, hl, hi, hK⟩ := retVals_out hT hs hA h
      refine ⟨v.den :: vs, by simp [hl], fun i r hr => ?_, hK⟩
      cases i with
      | zero =>
        simp at hr
        subst hr
        exact ⟨v.den, rfl, by simp [resOne, hs.get _ _ hv]⟩
      | succ i => exact hi i r (by simpa using hr)
    · exact h.elim
  | .cell p ty :: l, K, h => by
    unfold retVals at h
    split at h
    · rename_i pv hv
      obtain ⟨v, hr, M', H', h, hA'⟩ := loadV_out hT h hA
      obtain ⟨vs, hl, hi, hK⟩ := retVals_out hT hs hA h
      refine ⟨v.den :: vs, by simp [hl], fun i r hr' => ?_, hK⟩
      cases i with
      | zero =>
        simp at hr'
        subst hr'
        refine ⟨v.den, rfl, ?_⟩
        have hg' : a.tmps.getD p undef = pv.den := by simp [hs.get _ _ hv]
        simp only [resOne, hg']
        exact loadAt_asAddr hr
      | succ i => exact hi i r (by simpa using hr')
    · exact h.elim
theorem results_out {fn : Func} {rs : List ResultVar} (hrs : fn.results = rs.toArray) (h5 : rs.length ≤ 6) {tmps : Array Value} {w : World} {vs : List Value} (hl : vs.length = rs.length)
    (hi : ∀ (i : Nat) (r : ResultVar), rs[i]? = some r → ∃ v, vs[i]? = some v ∧ (resOne tmps r).run P w = .ok v w) :
    (results fn tmps).run P w = .ok (tup vs) w := by
  have hres : results fn tmps = (do
      let vs ← fn.results.mapM (resOne tmps)
      pure (if h : vs.size = 1 then vs[0] else .tuple vs)) := by
    unfold results
    congr 1
  rw [hres, hrs]
  match rs, vs, h5, hl, hi with
  | [], [], _, _, _ => simp [tup]
  | [r1], [v1], _, _, hi =>
    obtain ⟨u1, e1, r1⟩ := hi 0 _ rfl
    simp at e1; subst e1
    simp [r1, tup]
  | [r1, r2], [v1, v2], _, _, hi =>
    obtain ⟨u1, e1, q1⟩ := hi 0 _ rfl
    obtain ⟨u2, e2, q2⟩ := hi 1 _ rfl
    simp at e1 e2; subst e1; subst e2
    simp [q1, q2, tup]
  | [r1, r2, r3], [v1, v2, v3], _, _, hi =>
    obtain ⟨u1, e1, q1⟩ := hi 0 _ rfl
    obtain ⟨u2, e2, q2⟩ := hi 1 _ rfl
    obtain ⟨u3, e3, q3⟩ := hi 2 _ rfl
    simp at e1 e2 e3; subst e1; subst e2; subst e3
    simp [q1, q2, q3, tup]
  | [r1, r2, r3, r4], [v1, v2, v3, v4], _, _, hi =>
    obtain ⟨u1, e1, q1⟩ := hi 0 _ rfl
    obtain ⟨u2, e2, q2⟩ := hi 1 _ rfl
    obtain ⟨u3, e3, q3⟩ := hi 2 _ rfl
    obtain ⟨u4, e4, q4⟩ := hi 3 _ rfl
    simp at e1 e2 e3 e4; subst e1; subst e2; subst e3; subst e4
    simp [q1, q2, q3, q4, tup]
  | [r1, r2, r3, r4, r5], [v1, v2, v3, v4, v5], _, _, hi =>
    obtain ⟨u1, e1, q1⟩ := hi 0 _ rfl
    obtain ⟨u2, e2, q2⟩ := hi 1 _ rfl
    obtain ⟨u3, e3, q3⟩ := hi 2 _ rfl
    obtain ⟨u4, e4, q4⟩ := hi 3 _ rfl
    obtain ⟨u5, e5, q5⟩ := hi 4 _ rfl
    simp at e1 e2 e3 e4 e5; subst e1; subst e2; subst e3; subst e4; subst e5
    simp [q1, q2, q3, q4, q5, tup]
  | [r1, r2, r3, r4, r5, r6], [v1, v2, v3, v4, v5, v6], _, _, hi =>
    obtain ⟨u1, e1, q1⟩ := hi 0 _ rfl
    obtain ⟨u2, e2, q2⟩ := hi 1 _ rfl
    obtain ⟨u3, e3, q3⟩ := hi 2 _ rfl
    obtain ⟨u4, e4, q4⟩ := hi 3 _ rfl
    obtain ⟨u5, e5, q5⟩ := hi 4 _ rfl
    obtain ⟨u6, e6, q6⟩ := hi 5 _ rfl
    simp at e1 e2 e3 e4 e5 e6; subst e1; subst e2; subst e3; subst e4; subst e5; subst e6
    simp [q1, q2, q3, q4, q5, q6, tup]
def envOf : Nat → List SV → Env
  | _, [] => []
  | i, v :: l => (i, v) :: envOf (i + 1) l
theorem envOf_get : ∀ {l : List SV} {i t : Nat} {v : SV}, (envOf i l).get t = some v → i ≤ t ∧ l[t - i]? = some v
  | [], i, t, v, h => by simp [envOf, Env.get] at h
  | x :: l, i, t, v, h => by
    rw [envOf, Env.get_cons] at h
    split at h
    · rename_i e; subst e; injection h with h; subst h; simp
    · rename_i e
      obtain ⟨h1, h2⟩ := envOf_get h
      refine ⟨by omega, ?_⟩
      rw [show t - i = (t - (i + 1)) + 1 by omega]
      simpa using h2
theorem calls_of_vc (hS : Seat P T ents) {f : FuncId} {fn : Func} {c : Code} {rs : List ResultVar} (hf : P.funcs[f]? = some fn) (hb : fn.body = some c) (hrs : fn.results = rs.toArray) (h5 : rs.length ≤ 6) {args : List SV} (hn : args.length ≤ fn.ntmps) (hN : fn.ntmps = N)
    {w : World} {R : Ending → World → Prop} {M : Mem} {H : Hist} (hA : A M H w) (h : vcC P T N ents c (retQ P T rs R) (envOf 0 args) M H) : Calls P f (args.map SV.den).toArray w R := by
  refine calls_of_wp hf hb (Code.wp_mono (fun e a w hq => ?_) (vcC_ok hS c h (a := { tmps := (args.map SV.den).toArray ++ Array.replicate (fn.ntmps - (args.map SV.den).toArray.size) undef, defers := [] }) ⟨rfl, ?_, fun t v ht => ?_⟩ hA))
  · obtain ⟨E', M', H', hq, hs, hA'⟩ := hq
    have fin : ∀ vsK, retVals P T M' H' E' rs vsK → (∀ vs, vsK vs → ∀ w, A M' H' w → R (.returned (tup vs)) w) →
        a.defers = [] ∧ ∃ v, (results fn a.tmps).run P w = .ok v w ∧ R (.returned v) w := by
      intro vsK hv hR
      obtain ⟨vs, hl, hi, hK⟩ := retVals_out hS.tab hs hA' hv
      exact ⟨hs.defers, _, results_out hrs h5 hl hi, hR vs hK w hA'⟩
    cases e with
    | normal => exact fin _ hq fun vs h => h
    | ret => exact fin _ hq fun vs h => h
    | _ => exact hq.elim
  · simp; omega
  · obtain ⟨_, h2⟩ := envOf_get ht
    have hlt := (List.getElem?_eq_some_iff.1 h2).1
    simp at hlt
    rw [Array.getElem?_append_left (by simpa using hlt)]
    simp at h2 ⊢
    exact ⟨v, h2, rfl⟩
end
theorem A.bel {M : Mem} {H : Hist} {w w' : World} (hA : A M H w') (h : (w, fun _ => False) ∈ H) : Below w.heap.size w w' := (hA.since _ h).below
end Go.Proofs.YtmeeeigfjlbnkaaGreat
namespace Go.Proofs.YtmeeeigfjlbnkaaGreat
open Go.RowKit
theorem wrap_in (n : Int) (h1 : -9223372036854775808 ≤ n) (h2 : n < 9223372036854775808) : IntKind.i64.wrap n = n := by
  rw [IntKind.wrap_i64]; omega
theorem wrapu_in (n : Int) (h1 : 0 ≤ n) (h2 : n < 18446744073709551616) : IntKind.u64.wrap n = n := by
  simp only [IntKind.wrap, IntKind.bits, IntKind.signed]
  simp
  omega
theorem wrap8_in (n : Int) (h1 : 0 ≤ n) (h2 : n < 256) : IntKind.u8.wrap n = n := by
  simp only [IntKind.wrap, IntKind.bits, IntKind.signed]
  simp
  omega
section
variable {P : Program} {T : Tab} {N : Nat} {ents : List FuncId} {M : Mem} {H H' : Hist} {w w' wk : World} {ex : Fp} {base : Nat} {e : TypeId} {es : Nat} {v : Value} {n : Nat} {xs : List Value}
theorem A.cellAt (hA : A M H w) (i : Nat) {b off : Nat} {kb : KB} {v : Value} (hi : M.find i = some kb) (hg : kb.g = b) (hv : nth kb.cs off = some (.val v)) : w.cell? ⟨b, off, none⟩ = some v := by
  subst hg
  rw [(hA.blk i kb hi).cell]
  rw [nth_eq] at hv
  simp [hv, SV.den]
theorem index1 (hT : TabOK P T) {t e' : TypeId} {len : Nat} {d : TD} (hd : Tab.find T t = some (.arr len e' 1)) (he : Tab.find T e' = some d) (ha : d.agg = false) {l : List Value} {k : Nat} {k0 : IntKind} {v : Value} (hk : k < len) (hv : l[k]? = some v) (w : World) :
    (Instr.index t (.agg ⟨l⟩) (.int k0 (k : Int))).run P w = .ok v w := by
  obtain ⟨hu, hs⟩ := TD.fits_arr (hT.fits hd)
  have hi : (0 : Int) ≤ (k : Int) ∧ (k : Int) < (len : Int) := ⟨by omega, by omega⟩
  simp only [Instr.index, asIntOf, Sem.run_bind, Sem.run_pure, Result.andThen_ok, run_underlying hu, hi, and_self, if_true, run_sizeOf_of hs, Int.toNat_natCast, part, TD.fits_agg (hT.fits he), ha]
  simp [hv]
theorem A.now (h : A M H w) : A M ((w, M.gs) :: H) w := h.below (Below.refl _ _)
theorem A.at_start (h : A M H w) {p : World × Fp} (hp : p ∈ H) (i : Nat) {kb : KB} (hi : M.find i = some kb) (hx : ¬ p.2 kb.g) : p.1.heap.size ≤ kb.g := (h.fresh p hp i kb hi).resolve_left hx
theorem Mem.gs_above {g x : Nat} (h : Above M g) (hx : M.gs x) : x < g := by
  obtain ⟨i, kb, hi, rfl⟩ := hx
  exact h i kb hi
theorem ownsRow_since (h : wk.ownsRow base e es v n xs) (hs : Since ex wk w) (hx : ∀ g, v.ownBlock = some g → ¬ ex g) : w.ownsRow base e es v n xs := by
  refine ⟨h.1, ?_⟩
  rcases h.2 with hn | ⟨g, cap, cur, rfl, hb, hgg, rest⟩
  · exact .inl hn
  · refine .inr ⟨g, cap, cur, rfl, hb, ?_, rest⟩
    rw [hs.block g (Array.getElem?_eq_some_iff.1 hgg).1 (hx g rfl)]
    exact hgg
theorem A.grown' {row : Option Nat} (h : A M H w) (hg : w.grownBy w' row) (hM : ∀ i kb, M.find i = some kb → some kb.g ≠ row) (hH : ∀ p ∈ H', p ∈ H ∧ ∀ g, row = some g → p.2 g ∨ p.1.heap.size ≤ g) : A M ((w', M.gs) :: H') w' := by
  have s : Since (fun b => row = some b) w w' := ⟨hg.os, hg.tape, hg.output, hg.size, fun b hb he => hg.block b hb (fun e => he e.symm)⟩
  refine ⟨fun i kb hi => (h.blk i kb hi).grown hg (hM i kb hi), h.apart, fun p hp => ?_, fun p hp i kb hi => ?_⟩
  · rcases List.mem_cons.1 hp with rfl | hp
    · exact Since.refl _ _
    · exact (h.since p (hH p hp).1).step s (fun b e => (hH p hp).2 b e)
  · rcases List.mem_cons.1 hp with rfl | hp
    · exact .inl ⟨i, kb, hi, rfl⟩
    · exact h.fresh p (hH p hp).1 i kb hi
theorem append_mem (hS : Seat P T ents) {M' : Mem} (hM' : MSub M' M) {t ty : TypeId} {by_ : Nat} {zl : List SV} (hd : Tab.find T t = some (.slice e es)) (hby : (P.info? e).map (·.bytes) = some by_) (hz : zeroAcc T 9 e [] = some zl) (hzl : zl.length = es) (hes : 0 < es)
    (hk : (wk, ex) ∈ H) (hown : wk.ownsRow base e es v n xs) (hx : ∀ g, v.ownBlock = some g → ¬ ex g) (hH : ∀ p ∈ H', p ∈ H ∧ p.1.heap.size ≤ base) (hbase : base ≤ wk.heap.size)
    {a : Addr} {m c : Nat} {news : List Value} (hl : news.length = m * es) (hnews : ∀ w, A M H w → ∀ j u, news[j]? = some u → w.cell? (a.add j) = some u) (h1 : ∀ u ∈ news, u.oneCell' = true)
    (h63 : n + m ≤ maxLen) (hbytes : (n + m) * by_ ≤ 140737488355328) {K : Cont} (hK : ∀ v' w', w'.ownsRow base e es v' (n + m) (xs ++ news) → K (.val v') M' ((w', M'.gs) :: H')) :
    memV P M H (Builtin.append_ #[t, t] ty #[v, .slice (some a) m c]) K := by
  intro w hA
  obtain ⟨hu, hs⟩ := TD.fits_slice (hS.tab.fits hd)
  obtain ⟨zv, hzv, hzc⟩ := hS.tab.zero hz w
  cases hi : P.info? e with
  | none => simp [hi] at hby
  | some it =>
    have hby' : it.bytes = by_ := by simpa [hi] using hby
    have hsz : it.size = es := by simpa [sizeB, hi] using hs
    have hit : it.zero = some zv := by
      cases hv : it.zero with
      | none => simp [zeroValue, typeInfo, hi, hv, unsupported] at hzv
      | some v => simp [zeroValue, typeInfo, hi, hv] at hzv; rw [hzv]
    have hsn := hA.since _ hk
    obtain ⟨v', w', hr, ho, hg, _⟩ := run_append_own (P := P) w base t ty e it zv es by_ hu hi hit hsz hby' (by rw [← Array.length_toList, hzc]; simp [hzl]) hes v n xs (ownsRow_since hown hsn hx) a m c news hl (hnews w hA) h1 h63 hbytes (Nat.le_trans hbase hsn.size)
    refine ⟨.val v', w', M', _, hr, ?_, hK v' w' ho⟩
    have hb := hown.lt
    refine (hA.sub hM').grown' hg (fun i kb hi he => ?_) (fun p hp => ⟨(hH p hp).1, fun g hg' => ?_⟩)
    · rcases hA.fresh _ hk i kb (hM'.find i kb hi) with hf | hf
      · exact hx _ he.symm hf
      · have := (hb _ he.symm).2
        have hf : wk.heap.size ≤ kb.g := hf
        omega
    · have := (hb g hg').1
      have := (hH p hp).2
      exact .inr (by omega)
theorem ldS (hT : TabOK P T) {t : TypeId} {d : TD} (hd : Tab.find T t = some d) (ha : d.agg = false) {b o p j : Nat} {cs : List Value} {v : Value} (hr : w.rangeAt b o cs) (hj : cs[j]? = some v) (hp : p = o + j) (hs : Since ex w w') (hx : ¬ ex b) :
    (loadVar t ⟨b, p, none⟩).run P w' = .ok v w' := by
  have hr' := rangeAt_keep (w' := w') hr (fun h => hs.block b h hx)
  exact ld1 hT hd ha hr' hj hp (Below.refl _ _)
theorem Sl.since {α : Type} {r : Rp α} {S : Fp} {a : Option Addr} {xs : List α} (h : Sl r w S a xs) (hs : Since ex w w') (hx : ∀ b, S b → ¬ ex b) : Sl r w' S a xs :=
  h.keep (fun _ h => h) (fun b hS hb => hs.block b hb (hx b hS))
def intsS (k : IntKind) (l : List Int) : List SV := l.map fun n => .val (.int k n)
theorem nth_ints {k : IntKind} {l : List Int} {i : Nat} (h : i < l.length) : nth (intsS k l) i = some (.val (.int k l[i])) := by
  rw [nth_eq, intsS, List.getElem?_map, List.getElem?_eq_getElem h]; rfl
theorem setN_some {α : Type} : ∀ {l : List α} {n : Nat} (v : α), n < l.length → setN l n v = some (l.set n v)
  | [], _, _, h => by simp at h
  | _ :: _, 0, _, _ => rfl
  | x :: l, n + 1, v, h => by
    simp only [setN, setN_some v (show n < l.length by simpa using h)]
    rfl
theorem setN_ints {k : IntKind} {l : List Int} {i : Nat} (n : Int) (h : i < l.length) : setN (intsS k l) i (.val (.int k n)) = some (intsS k (l.set i n)) := by
  rw [setN_some _ (by simpa [intsS] using h)]
  simp [intsS, List.map_set]
theorem setN_at {k : IntKind} {l : List Int} {i j : Nat} (n : Int) (e : i = j) (h : j < l.length) : setN (intsS k l) i (.val (.int k n)) = some (intsS k (l.set j n)) := by subst e; exact setN_ints n h
theorem nth_at {k : IntKind} {l : List Int} {i j : Nat} (e : i = j) (h : j < l.length) : nth (intsS k l) i = some (.val (.int k l[j])) := by subst e; exact nth_ints h
theorem A.start1 {g : Nat} {t : TypeId} {cs : List SV} (hb : Blk w g t (cs.map SV.den).toArray) : A [(0, ⟨g, t, cs⟩)] [(w, fun b => b = g)] w := by
  have one : ∀ i kb, Mem.find [(0, (⟨g, t, cs⟩ : KB))] i = some kb → kb = ⟨g, t, cs⟩ ∧ i = 0 := by
    intro i kb hi
    rw [Mem.find_cons] at hi
    split at hi
    · rename_i e; injection hi with hi; exact ⟨hi.symm, e.symm⟩
    · simp [Mem.find] at hi
  refine ⟨fun i kb hi => ?_, fun i j ki kj hi hj hne => ?_, fun p hp => ?_, fun p hp i kb hi => ?_⟩
  · obtain ⟨rfl, _⟩ := one i kb hi; exact hb
  · exact absurd ((one i ki hi).2.trans (one j kj hj).2.symm) hne
  · simp at hp; subst hp; exact Since.refl _ _
  · simp at hp; subst hp
    obtain ⟨rfl, _⟩ := one i kb hi
    exact .inl rfl
theorem A.wrote (h : A M H w) {i : Nat} {kb : KB} (hi : M.find i = some kb) {cs : List SV} (hs : Since (fun b => b = kb.g) w w') (hb : Blk w' kb.g kb.t (cs.map SV.den).toArray) : A (M.upd i cs) H w' := by
  have key : ∀ {j : Nat} {kj : KB}, (M.upd i cs).find j = some kj → ∃ kj', M.find j = some kj' ∧ kj'.g = kj.g := by
    intro j kj hj
    rw [Mem.find_upd] at hj
    split at hj
    · rename_i e; subst e; rw [hi] at hj; injection hj with hj; subst hj; exact ⟨kb, hi, rfl⟩
    · exact ⟨kj, hj, rfl⟩
  refine ⟨fun j kj hj => ?_, fun j k kj kk hj hk hne => ?_, fun p hp => ?_, fun p hp j kj hj => ?_⟩
  · rw [Mem.find_upd] at hj
    split at hj
    · rename_i e; subst e; rw [hi] at hj; injection hj with hj; subst hj; exact hb
    · rename_i e
      have hne := h.apart i j kb kj hi hj e
      have hbj := h.blk j kj hj
      show w'.heap[kj.g]? = _
      rw [hs.block kj.g hbj.lt (fun e => hne e.symm)]
      exact hbj
  · obtain ⟨a, ha, hag⟩ := key hj
    obtain ⟨b, hb', hbg⟩ := key hk
    rw [← hag, ← hbg]
    exact h.apart j k a b ha hb' hne
  · exact (h.since p hp).step hs (fun b e => by subst e; exact h.fresh p hp i kb hi)
  · obtain ⟨a, ha, hag⟩ := key hj
    rw [← hag]
    exact h.fresh p hp j a ha
theorem A.adopt (h : A M H w) (hb : Below w.heap.size w w') {g : Nat} {t : TypeId} {cs : List SV} (hg : w.heap.size ≤ g) (hk : Blk w' g t (cs.map SV.den).toArray) : A ((newId M, ⟨g, t, cs⟩) :: M) H w' := by
  have h2 := h.below' hb
  refine ⟨fun i kb hi => ?_, fun i j ki kj hi hj hne => ?_, h2.since, fun p hp i kb hi => ?_⟩
  · rw [Mem.find_cons] at hi
    split at hi
    · injection hi with hi; subst hi; exact hk
    · exact h2.blk i kb hi
  · rw [Mem.find_cons] at hi hj
    split at hi <;> split at hj
    · rename_i e1 e2; exact absurd (e1.symm.trans e2) hne
    · injection hi with hi; subst hi
      have := (h.blk j kj hj).lt
      show g ≠ kj.g
      omega
    · injection hj with hj; subst hj
      have := (h.blk i ki hi).lt
      show ki.g ≠ g
      omega
    · exact h.apart i j ki kj hi hj hne
  · rw [Mem.find_cons] at hi
    split at hi
    · injection hi with hi; subst hi
      exact .inr (Nat.le_trans (h.since p hp).size hg)
    · exact h.fresh p hp i kb hi
theorem A.from_start (hA : A M H w) (h : (wk, fun _ => False) ∈ H) (i : Nat) {kb : KB} (hi : M.find i = some kb) : wk.heap.size ≤ kb.g := hA.at_start (p := (wk, fun _ => False)) h i hi (fun h => h)
theorem A.gs_lt (h : A M H w) {b : Nat} (hb : M.gs b) : b < w.heap.size := by
  obtain ⟨i, kb, hi, rfl⟩ := hb
  exact (h.blk i kb hi).lt
theorem A.remember (h : A M H w) (ex : Fp) (hex : ∀ b, M.gs b → ex b) : A M ((w, ex) :: H) w := by
  refine ⟨h.blk, h.apart, fun p hp => ?_, fun p hp i kb hi => ?_⟩
  · rcases List.mem_cons.1 hp with rfl | hp
    · exact Since.refl _ _
    · exact h.since p hp
  · rcases List.mem_cons.1 hp with rfl | hp
    · exact .inl (hex _ ⟨i, kb, hi, rfl⟩)
    · exact h.fresh p hp i kb hi
def SlL {α : Type} (r : Rp α) (w : World) (S : Fp) : List Value → List α → Prop
  | cells, [] => cells = []
  | cells, x :: xs => ∃ c rest, cells = c ++ rest ∧ r.rel w S c x ∧ SlL r w S rest xs
theorem SlL.get {α : Type} {r : Rp α} {S : Fp} : ∀ {cells : List Value} {xs : List α}, SlL r w S cells xs → ∀ (i : Nat) (x : α), xs[i]? = some x → ∃ cs, r.rel w S cs x ∧ ∀ (j : Nat) (v : Value), cs[j]? = some v → cells[i * r.size + j]? = some v
  | cells, [], _, i, x, hx => by simp at hx
  | cells, y :: xs, h, 0, x, hx => by
    obtain ⟨c, rest, rfl, hr, _⟩ := h
    simp at hx
    subst hx
    refine ⟨c, hr, fun j v hj => ?_⟩
    have hlt := (List.getElem?_eq_some_iff.1 hj).1
    rw [Nat.zero_mul, Nat.zero_add, List.getElem?_append_left hlt]
    exact hj
  | cells, y :: xs, h, i + 1, x, hx => by
    obtain ⟨c, rest, rfl, hr, h'⟩ := h
    obtain ⟨cs, h1, h2⟩ := SlL.get h' i x (by simpa using hx)
    refine ⟨cs, h1, fun j v hj => ?_⟩
    have hl := r.len hr
    rw [Nat.succ_mul, List.getElem?_append_right (by omega), show i * r.size + r.size + j - c.length = i * r.size + j by omega]
    exact h2 j v hj
theorem SlL.append {α : Type} {r : Rp α} {S : Fp} : ∀ {a b : List Value} {xs ys : List α}, SlL r w S a xs → SlL r w S b ys → SlL r w S (a ++ b) (xs ++ ys)
  | a, b, [], ys, ha, hb => by
    have ha : a = [] := ha
    subst ha
    exact hb
  | a, b, x :: xs, ys, ha, hb => by
    obtain ⟨c, rest, rfl, hr, h'⟩ := ha
    exact ⟨c, rest ++ b, by simp, hr, h'.append hb⟩
theorem Sl.of_blk {α : Type} {r : Rp α} {S : Fp} {g : Nat} {t : TypeId} {cells : List Value} {xs : List α} (hb : Blk w g t cells.toArray) (hS : S g) (h : SlL r w S cells xs) (hn : xs.length ≤ 140737488355328) : Sl r w S (some ⟨g, 0, none⟩) xs := by
  refine ⟨hn, fun _ => ⟨g, 0, rfl, hS, fun i x hx => ?_⟩⟩
  obtain ⟨cs, h1, h2⟩ := h.get i x hx
  refine ⟨cs, h1, fun j v hj => ?_⟩
  rw [hb.cell]
  have := h2 j v hj
  simp only [Nat.zero_add, List.getElem?_toArray]
  exact this
theorem Sl.of_own {α : Type} {r : Rp α} {S : Fp} {cells : List Value} {ys : List α} (h : w.ownsRow base e r.size v n cells) (hS : ∀ b, base ≤ b → b < w.heap.size → S b) (hl : SlL r w S cells ys) (hy : ys.length = n) (hn : n ≤ 140737488355328) :
    ∃ A' c', v = .slice A' ys.length c' ∧ Sl r w S A' ys := by
  rcases h.2 with ⟨rfl, rfl⟩ | ⟨g, cap, cur, rfl, hb, hgg, hnc, hcm, hcs, htk⟩
  · have : ys = [] := List.length_eq_zero_iff.1 hy
    subst this
    exact ⟨none, 0, rfl, Sl.nil_ _ _ _⟩
  · refine ⟨some ⟨g, 0, none⟩, cap, by rw [hy], by omega, fun _ => ⟨g, 0, rfl, hS g hb (Array.getElem?_eq_some_iff.1 hgg).1, fun i x hx => ?_⟩⟩
    obtain ⟨cs, h1, h2⟩ := hl.get i x hx
    refine ⟨cs, h1, fun j v hj => ?_⟩
    have h3 := h2 j v hj
    rw [← htk, List.getElem?_take] at h3
    split at h3
    · rw [show w.cell? ⟨g, 0 + i * r.size + j, none⟩ = cur[0 + i * r.size + j]? from cell_of_row w g _ cur e (0, 0) hgg]
      simpa using h3
    · cases h3
end
end Go.Proofs.YtmeeeigfjlbnkaaGreat
namespace Go.Proofs.YtmeeeigfjlbnkaaGreat
open Go.RowKit
def segsOk (T : Tab) : List (Nat × TypeId) → Nat → Nat → Bool
  | [], b, sz => Nat.beq b sz
  | (o, t) :: fs, b, sz => Nat.beq o b && match Tab.find T t with | some d => segsOk T fs (b + d.size) sz | none => false
def flatB (P : Program) (T : Tab) : Nat → TypeId → Bool
  | 0, _ => false
  | f + 1, t => match Tab.find T t with
    | some (.int _) => true
    | some .bool => true
    | some .str => true
    | some (.arr _ e es) => Nat.blt 0 es && flatB P T f e
    | some (.struct fs sz) => !P.stoodInHeld t && (P.fieldsOf t).toList.all (fun x => !(x.name == "_")) && segsOk T fs 0 sz && fs.all (fun x => flatB P T f x.2)
    | _ => false
def confT (T : Tab) : Nat → TypeId → List Value → Prop
  | 0, _, _ => False
  | f + 1, t, cs => match Tab.find T t with
    | some (.int k) => ∃ n, cs = [.int k n]
    | some .bool => ∃ b, cs = [.bool b]
    | some .str => ∃ s, cs = [.string s]
    | some (.arr n e es) => cs.length = n * es ∧ ∀ i, i < n → confT T f e ((cs.drop (i * es)).take es)
    | some (.struct fs sz) => cs.length = sz ∧ fs.foldr (fun x K => (match Tab.find T x.2 with | some d => confT T f x.2 ((cs.drop x.1).take d.size) | none => False) ∧ K) True
    | _ => False
def confB (T : Tab) : Nat → TypeId → List Value → Bool
  | 0, _, _ => false
  | f + 1, t, cs => match Tab.find T t with
    | some (.int k) => match cs with | [.int j _] => Nat.beq (kid j) (kid k) | _ => false
    | some .bool => match cs with | [.bool _] => true | _ => false
    | some .str => match cs with | [.string _] => true | _ => false
    | some (.arr n e es) => Nat.beq cs.length (n * es) && (List.range n).all fun i => confB T f e ((cs.drop (i * es)).take es)
    | some (.struct fs sz) => Nat.beq cs.length sz && fs.foldr (fun x K => (match Tab.find T x.2 with | some d => confB T f x.2 ((cs.drop x.1).take d.size) | none => false) && K) true
    | _ => false
theorem confB_out {T : Tab} : ∀ {f : Nat} {t : TypeId} {cs : List Value}, confB T f t cs = true → confT T f t cs
  | 0, _, _, h => by cases h
  | f + 1, t, cs, h => by
    unfold confB at h
    unfold confT
    split at h
    · rename_i k hd
      split at h
      · rename_i j n
        have := kid_inj h
        subst this
        exact ⟨n, rfl⟩
      · cases h
    · split at h
      · exact ⟨_, rfl⟩
      · cases h
    · split at h
      · exact ⟨_, rfl⟩
      · cases h
    · simp only [Bool.and_eq_true, List.all_eq_true, List.mem_range] at h
      exact ⟨Nat.eq_of_beq_eq_true h.1, fun i hi => confB_out (h.2 i hi)⟩
    · rename_i fs sz hd
      simp only [Bool.and_eq_true] at h
      refine ⟨Nat.eq_of_beq_eq_true h.1, ?_⟩
      have h2 := h.2
      clear h hd
      induction fs with
      | nil => trivial
      | cons x fs ih =>
        simp only [List.foldr_cons, Bool.and_eq_true] at h2 ⊢
        refine ⟨?_, ih h2.2⟩
        have h3 := h2.1
        split at h3
        · exact confB_out h3
        · cases h3
    · cases h
theorem conf_ints {T : Tab} {f n : Nat} {t e : TypeId} {k : IntKind} (hd : Tab.find T t = some (.arr n e 1)) (he : Tab.find T e = some (.int k)) {l : List Int} (hl : l.length = n) : confT T (f + 2) t (l.map (Value.int k)) := by
  unfold confT
  rw [hd]
  refine ⟨by simp [hl], fun i hi => ?_⟩
  unfold confT
  rw [he]
  have hi' : i < l.length := by omega
  refine ⟨l[i], ?_⟩
  simp only [Nat.mul_one]
  rw [List.drop_eq_getElem_cons (by simpa using hi')]
  simp
def valOf (T : Tab) (t : TypeId) (cs : List Value) : Value := match Tab.find T t with
  | some d => match d.agg with | true => .agg ⟨cs⟩ | false => cs.headD undef
  | none => undef
section
variable {P : Program} {T : Tab}
theorem run_part (hT : TabOK P T) {t : TypeId} {d : TD} (hd : Tab.find T t = some d) {xs : List Value} {off : Nat} (hl : ((xs.drop off).take d.size).length = d.size) (hpos : d.agg = false → d.size = 1) (w : World) :
    (part t ⟨xs⟩ off).run P w = .ok (valOf T t ((xs.drop off).take d.size)) w := by
  have hsd := TD.fits_size (hT.fits hd)
  unfold valOf
  rw [hd]
  cases ha : d.agg with
  | true =>
    simp only [part, Sem.run_bind, TD.fits_agg (hT.fits hd), ha, Result.andThen_ok, if_true, run_sizeOf_of hsd, Sem.run_pure]
    simp [List.extract]
  | false =>
    rw [hpos ha] at hl ⊢
    simp only [part, Sem.run_bind, TD.fits_agg (hT.fits hd), ha, Result.andThen_ok, Bool.false_eq_true, if_false]
    have h1 : off < xs.length := by
      rw [List.length_take, List.length_drop] at hl
      omega
    have e : (List.take 1 (List.drop off xs)) = [xs[off]] := by rw [List.drop_eq_getElem_cons h1]; rfl
    rw [e]
    simp [h1]
theorem TD.size_one {d : TD} (h : d.agg = false) : d.size = 1 := by cases d <;> first | rfl | (simp [TD.agg] at h)
theorem conf_len {f : Nat} {t : TypeId} {d : TD} {cs : List Value} (hd : Tab.find T t = some d) (h : confT T f t cs) : cs.length = d.size := by
  cases f with
  | zero => exact h.elim
  | succ f =>
    unfold confT at h
    rw [hd] at h
    cases d with
    | int k => obtain ⟨n, rfl⟩ := h; rfl
    | bool => obtain ⟨n, rfl⟩ := h; rfl
    | str => obtain ⟨n, rfl⟩ := h; rfl
    | arr n e es => exact h.1
    | struct fs sz => exact h.1
    | ptr => exact h.elim
    | slice => exact h.elim
    | fn => exact h.elim
    | other => exact h.elim
    | iface => exact h.elim
theorem segs_eq {xs ys : List Value} {sz : Nat} (hx : xs.length = sz) (hy : ys.length = sz) : ∀ {fs : List (Nat × TypeId)} {b : Nat}, segsOk T fs b sz = true → xs.take b = ys.take b →
    (∀ x ∈ fs, ∀ d, Tab.find T x.2 = some d → (xs.drop x.1).take d.size = (ys.drop x.1).take d.size) → xs = ys
  | [], b, h, h1, _ => by
    have := Nat.eq_of_beq_eq_true h
    subst this
    rw [List.take_of_length_le (by omega), List.take_of_length_le (by omega)] at h1
    exact h1
  | (o, t) :: fs, b, h, h1, h2 => by
    simp only [segsOk, Bool.and_eq_true] at h
    obtain ⟨ho, h⟩ := h
    have := Nat.eq_of_beq_eq_true ho
    subst this
    split at h
    · rename_i d hd
      refine segs_eq hx hy h ?_ (fun x hx => h2 x (List.mem_cons_of_mem _ hx))
      rw [List.take_add, List.take_add, h1, h2 _ List.mem_cons_self d hd]
    · cases h
theorem rows_eq {xs ys : List Value} {n es : Nat} (hes : 0 < es) (hx : xs.length = n * es) (hy : ys.length = n * es) (h : ∀ i, i < n → (xs.drop (i * es)).take es = (ys.drop (i * es)).take es) : xs = ys := by
  refine List.ext_getElem? fun j => ?_
  by_cases hj : j < n * es
  · have hi : j / es < n := (Nat.div_lt_iff_lt_mul hes).2 hj
    have h1 := congrArg (fun l => l[j % es]?) (h _ hi)
    simp only [List.getElem?_take, List.getElem?_drop, if_pos (Nat.mod_lt j hes)] at h1
    have e : j / es * es + j % es = j := by rw [Nat.mul_comm]; exact Nat.div_add_mod j es
    rw [e] at h1
    exact h1
  · rw [List.getElem?_eq_none (by omega), List.getElem?_eq_none (by omega)]
def EqRun (P : Program) (T : Tab) (D : Nat) (t : TypeId) (xs ys : List Value) : Prop := ∃ b : Bool, (∀ w, (Op.equalIn D t (valOf T t xs) (valOf T t ys)).run P w = .ok b w) ∧ (b = true ↔ xs = ys)
theorem eq_items (hT : TabOK P T) {D : Nat} {e : TypeId} {d : TD} (hd : Tab.find T e = some d) {xs ys : List Value} :
    ∀ {is : List Nat}, (∀ i ∈ is, ((xs.drop (i * d.size)).take d.size).length = d.size ∧ ((ys.drop (i * d.size)).take d.size).length = d.size ∧ EqRun P T D e ((xs.drop (i * d.size)).take d.size) ((ys.drop (i * d.size)).take d.size)) →
      ∃ b : Bool, (∀ w, (Op.eqItems D e d.size ⟨xs⟩ ⟨ys⟩ is).run P w = .ok b w) ∧ (b = true ↔ ∀ i ∈ is, (xs.drop (i * d.size)).take d.size = (ys.drop (i * d.size)).take d.size)
  | [], _ => ⟨true, fun w => by simp [Op.eqItems], by simp⟩
  | i :: is, h => by
    obtain ⟨hx, hy, b, hr, hb⟩ := h i List.mem_cons_self
    obtain ⟨b', hr', hb'⟩ := eq_items hT hd (is := is) (fun j hj => h j (List.mem_cons_of_mem _ hj))
    cases b with
    | false =>
      refine ⟨false, fun w => ?_, ?_⟩
      · simp only [Op.eqItems, Sem.run_bind, run_part hT hd hx TD.size_one, run_part hT hd hy TD.size_one, hr, Result.andThen_ok]
        simp
      · simp only [List.mem_cons, forall_eq_or_imp, Bool.false_eq_true, false_iff, not_and]
        intro e
        exact absurd (hb.2 e) (by simp)
    | true =>
      refine ⟨b', fun w => ?_, ?_⟩
      · simp only [Op.eqItems, Sem.run_bind, run_part hT hd hx TD.size_one, run_part hT hd hy TD.size_one, hr, Result.andThen_ok]
        simpa using hr' w
      · simp only [List.mem_cons, forall_eq_or_imp]
        rw [hb']
        exact ⟨fun h => ⟨hb.1 rfl, h⟩, fun h => h.2⟩
theorem eq_fields (hT : TabOK P T) {D : Nat} {xs ys : List Value} :
    ∀ {fs : List Field}, (∀ f ∈ fs, (f.name == "_") = false ∧ ∃ d, Tab.find T f.type = some d ∧ ((xs.drop f.offset).take d.size).length = d.size ∧ ((ys.drop f.offset).take d.size).length = d.size ∧ EqRun P T D f.type ((xs.drop f.offset).take d.size) ((ys.drop f.offset).take d.size)) →
      ∃ b : Bool, (∀ w, (Op.eqFields D ⟨xs⟩ ⟨ys⟩ fs).run P w = .ok b w) ∧ (b = true ↔ ∀ f ∈ fs, ∀ d, Tab.find T f.type = some d → (xs.drop f.offset).take d.size = (ys.drop f.offset).take d.size)
  | [], _ => ⟨true, fun w => by simp [Op.eqFields], by simp⟩
  | f :: fs, h => by
    obtain ⟨hn, d, hd, hx, hy, b, hr, hb⟩ := h f List.mem_cons_self
    obtain ⟨b', hr', hb'⟩ := eq_fields hT (fs := fs) (fun j hj => h j (List.mem_cons_of_mem _ hj))
    have hn' : f.name ≠ "_" := by simpa using hn
    cases b with
    | false =>
      refine ⟨false, fun w => ?_, ?_⟩
      · simp only [Op.eqFields, if_pos hn', Sem.run_bind, run_part hT hd hx TD.size_one, run_part hT hd hy TD.size_one, hr, Result.andThen_ok]
        simp
      · simp only [List.mem_cons, forall_eq_or_imp, Bool.false_eq_true, false_iff, not_and]
        intro e
        exact absurd (hb.2 (e d hd)) (by simp)
    | true =>
      refine ⟨b', fun w => ?_, ?_⟩
      · simp only [Op.eqFields, if_pos hn', Sem.run_bind, run_part hT hd hx TD.size_one, run_part hT hd hy TD.size_one, hr, Result.andThen_ok]
        simpa using hr' w
      · simp only [List.mem_cons, forall_eq_or_imp]
        rw [hb']
        refine ⟨fun h => ⟨fun d' hd' => ?_, h⟩, fun h => h.2⟩
        rw [hd] at hd'
        injection hd' with hd'
        subst hd'
        exact hb.1 rfl
theorem foldr_mem {T : Tab} {f : Nat} {cs : List Value} : ∀ {fs : List (Nat × TypeId)}, fs.foldr (fun x K => (match Tab.find T x.2 with | some d => confT T f x.2 ((cs.drop x.1).take d.size) | none => False) ∧ K) True → ∀ x ∈ fs, ∃ d, Tab.find T x.2 = some d ∧ confT T f x.2 ((cs.drop x.1).take d.size)
  | [], _, x, hx => by cases hx
  | y :: fs, h, x, hx => by
    simp only [List.foldr_cons] at h
    rcases List.mem_cons.1 hx with rfl | hx
    · have h1 := h.1
      split at h1
      · rename_i d hd; exact ⟨d, hd, h1⟩
      · exact h1.elim
    · exact foldr_mem h.2 x hx
theorem size_of_find (hT : TabOK P T) {e : TypeId} {d : TD} {es : Nat} (hd : Tab.find T e = some d) (hs : sizeB P e es = true) : d.size = es := by
  have hsd := TD.fits_size (hT.fits hd)
  unfold sizeB at hs hsd
  split at hs
  · rename_i i hi'; rw [hi'] at hsd; simp at hs hsd; omega
  · cases hs
theorem eq_flat (hT : TabOK P T) : ∀ (f : Nat) {t : TypeId}, flatB P T f t = true → ∀ {D : Nat}, f ≤ D → ∀ {xs ys : List Value}, confT T f t xs → confT T f t ys → EqRun P T D t xs ys
  | 0, _, h, _, _, _, _, _, _ => by cases h
  | f + 1, t, h, D, hD, xs, ys, hx, hy => by
    obtain ⟨D, rfl⟩ : ∃ D', D = D' + 1 := ⟨D - 1, by omega⟩
    unfold flatB at h
    unfold EqRun
    have hx0 := hx
    have hy0 := hy
    unfold confT at hx hy
    unfold valOf
    split at h
    · rename_i k hd
      rw [hd] at hx hy ⊢
      obtain ⟨a, rfl⟩ := hx
      obtain ⟨b, rfl⟩ := hy
      exact ⟨a == b, fun w => run_equalIn_int w D t k k a b (TD.fits_int (hT.fits hd)), by simp⟩
    · rename_i hd
      rw [hd] at hx hy ⊢
      obtain ⟨a, rfl⟩ := hx
      obtain ⟨b, rfl⟩ := hy
      exact ⟨a == b, fun w => run_equalIn_bool' w D t a b (TD.fits_bool (hT.fits hd)), by simp⟩
    · rename_i hd
      rw [hd] at hx hy ⊢
      obtain ⟨a, rfl⟩ := hx
      obtain ⟨b, rfl⟩ := hy
      refine ⟨a.toList == b.toList, fun w => run_equalIn_string w D t a b (TD.fits_str (hT.fits hd)), ?_⟩
      rw [ByteArray.toList_eq, ByteArray.toList_eq]
      obtain ⟨⟨x⟩⟩ := a
      obtain ⟨⟨y⟩⟩ := b
      simp
    · rename_i n e es hd
      simp only [Bool.and_eq_true] at h
      obtain ⟨hpos, hf⟩ := h
      have hpos : 0 < es := by simpa [Nat.blt_eq] using hpos
      rw [hd] at hx hy ⊢
      obtain ⟨lx, cx⟩ := hx
      obtain ⟨ly, cy⟩ := hy
      obtain ⟨hu, hs⟩ := TD.fits_arr (hT.fits hd)
      obtain ⟨i, hi⟩ : ∃ i, P.info? e = some i := by
        unfold sizeB at hs
        split at hs
        · rename_i i hi; exact ⟨i, hi⟩
        · cases hs
      cases hde : Tab.find T e with
      | none =>
        cases f with
        | zero => cases hf
        | succ f => unfold flatB at hf; rw [hde] at hf; cases hf
      | some d =>
        have hes := size_of_find hT hde hs
        subst hes
        have hc : P.cellsOf e = d.size := by
          have := TD.fits_size (hT.fits hde)
          unfold sizeB at this
          rw [hi] at this
          simp at this
          simp [Program.cellsOf, hi, this]
        have hseg : ∀ (zs : List Value), zs.length = n * d.size → ∀ i, i < n → ((zs.drop (i * d.size)).take d.size).length = d.size := by
          intro zs hz i hi
          rw [List.length_take, List.length_drop, hz]
          have : (i + 1) * d.size ≤ n * d.size := Nat.mul_le_mul_right _ hi
          rw [Nat.succ_mul] at this
          omega
        obtain ⟨b, hr, hb⟩ := eq_items hT hde (D := D) (xs := xs) (ys := ys) (is := List.range n) (fun i hi => by
          have hi := List.mem_range.1 hi
          exact ⟨hseg xs lx i hi, hseg ys ly i hi, eq_flat hT f hf (by omega) (cx i hi) (cy i hi)⟩)
        refine ⟨b, fun w => ?_, ?_⟩
        · have := run_equalIn_array (P := P) w D (t := t) (e := e) (n := n) (i := i) ⟨xs⟩ ⟨ys⟩ hu hi
          rw [hc] at this
          exact this.trans (hr w)
        · rw [hb]
          constructor
          · intro h
            exact rows_eq hpos lx ly fun i hi => h i (List.mem_range.2 hi)
          · rintro rfl i _; rfl
    · rename_i fs sz hd
      simp only [Bool.and_eq_true, Bool.not_eq_true'] at h
      obtain ⟨⟨⟨hst, hnm⟩, hsg⟩, hfl⟩ := h
      rw [hd] at hx hy ⊢
      obtain ⟨lx, cx⟩ := hx
      obtain ⟨ly, cy⟩ := hy
      obtain ⟨fields, hu, hfs, _, _⟩ := TD.fits_struct (hT.fits hd)
      have hfo : P.fieldsOf t = fields := by simp [Program.fieldsOf, hu]
      have hu' : P.underlying t = some (.struct (P.fieldsOf t)) := by rw [hfo]; exact hu
      have mem : ∀ g ∈ fields.toList, (g.offset, g.type) ∈ fs := by
        intro g hg
        rw [← hfs]
        exact List.mem_map.2 ⟨g, hg, rfl⟩
      obtain ⟨b, hr, hb⟩ := eq_fields hT (D := D) (xs := xs) (ys := ys) (fs := (P.fieldsOf t).toList) (fun g hg => by
        refine ⟨by simpa using List.all_eq_true.1 hnm g hg, ?_⟩
        rw [hfo] at hg
        have hm := mem g hg
        obtain ⟨d, hdg, hcx⟩ := foldr_mem cx _ hm
        obtain ⟨d', hdg', hcy⟩ := foldr_mem cy _ hm
        rw [hdg] at hdg'
        injection hdg' with e
        subst e
        exact ⟨d, hdg, conf_len hdg hcx, conf_len hdg hcy, eq_flat hT f (List.all_eq_true.1 hfl _ hm) (by omega) hcx hcy⟩)
      refine ⟨b, fun w => ?_, ?_⟩
      · exact (run_equalIn_agg w D t ⟨xs⟩ ⟨ys⟩ hu' hst).trans (hr w)
      · rw [hb]
        constructor
        · intro h
          refine segs_eq lx ly hsg (by simp) fun x hx d hdx => ?_
          rw [← hfs] at hx
          obtain ⟨g, hg, rfl⟩ := List.mem_map.1 hx
          rw [← hfo] at hg
          exact h g hg d hdx
        · rintro rfl f _ d _; rfl
    · cases h
theorem run_eq_flat (hT : TabOK P T) {t : TypeId} {d : TD} (hd : Tab.find T t = some d) (ha : d.agg = true) (hf : flatB P T 9 t = true) (hg : P.eqGuardType P.depth t = false) (x y : Operand) {xs ys : List Value} (hx : confT T 9 t xs) (hy : confT T 9 t ys) :
    ∃ b : Bool, (∀ w, (do eqGuard .eql t x y (.agg ⟨xs⟩) (.agg ⟨ys⟩); binOp .eql t (.agg ⟨xs⟩) (.agg ⟨ys⟩) : Sem Value).run P w = .ok (.bool b) w) ∧
      (∀ w, (do eqGuard .neq t x y (.agg ⟨xs⟩) (.agg ⟨ys⟩); binOp .neq t (.agg ⟨xs⟩) (.agg ⟨ys⟩) : Sem Value).run P w = .ok (.bool (!b)) w) ∧ (b = true ↔ xs = ys) := by
  obtain ⟨b, hr, hb⟩ := eq_flat hT 9 hf (D := 10000) (by decide) hx hy
  unfold valOf at hr
  rw [hd] at hr
  simp only [ha] at hr
  refine ⟨b, fun w => ?_, fun w => ?_, hb⟩
  · rw [Sem.run_bind, run_eqGuard_agg w .eql t x y _ _ hg, Result.andThen_ok, run_eql_struct, hr]; rfl
  · rw [Sem.run_bind, run_eqGuard_agg w .neq t x y _ _ hg, Result.andThen_ok, run_neq_struct, hr]; rfl
end
end Go.Proofs.YtmeeeigfjlbnkaaGreat
namespace Go.Proofs.YtmeeeigfjlbnkaaGreat
open Go.RowKit
structure Ask (A : Type) where
  runP : (A → Prop) → Prop
  get : Option A
  ok : ∀ (K : A → Prop) (a : A), get = some a → K a → runP K
def Ask.ret {A : Type} (a : A) : Ask A := ⟨fun K => K a, some a, fun _ _ h k => by injection h with h; subst h; exact k⟩
def Ask.bad {A : Type} : Ask A := ⟨fun _ => False, none, fun _ _ h => nomatch h⟩
def Ask.ask {A α : Type} (o : Option α) (k : α → Ask A) : Ask A := ⟨fun K => ∃ a, o = some a ∧ (k a).runP K, match o with | some a => (k a).get | none => none, fun K b h hb => by
  cases o with
  | none => cases h
  | some a => exact ⟨a, rfl, (k a).ok K b h hb⟩⟩
def Ask.prf {A : Type} (p : Prop) (d : Decidable p) (k : Ask A) : Ask A := ⟨fun K => p ∧ k.runP K, match d with | isTrue _ => k.get | isFalse _ => none, fun K b h hb => by
  cases d with
  | isFalse _ => cases h
  | isTrue hp => exact ⟨hp, k.ok K b h hb⟩⟩
def Ask.br {A : Type} (t : Bool) (x y : Ask A) : Ask A := ⟨fun K => (t = true → x.runP K) ∧ (t = false → y.runP K), match t with | true => x.get | false => y.get, fun K b h hb => by
  cases t with
  | true => exact ⟨fun _ => x.ok K b h hb, fun e => (nomatch e)⟩
  | false => exact ⟨fun e => (nomatch e), fun _ => y.ok K b h hb⟩⟩
def Ask.bind {A B : Type} (x : Ask A) (f : A → Ask B) : Ask B := ⟨fun K => x.runP fun a => (f a).runP K, match x.get with | some a => (f a).get | none => none, fun K b h hb => by
  cases hx : x.get with
  | none => rw [hx] at h; cases h
  | some a => rw [hx] at h; exact x.ok _ a hx ((f a).ok K b h hb)⟩
theorem Ask.bind_runP {A B : Type} {f : A → Ask B} {K : B → Prop} {x : Ask A} : (x.bind f).runP K ↔ x.runP fun a => (f a).runP K := Iff.rfl
abbrev VE := List (Nat × MV)
abbrev VM := List (Nat × MB)
def VE.get : VE → Nat → Option MV
  | [], _ => none
  | (j, v) :: E, i => bif Nat.beq j i then some v else VE.get E i
def VM.get : VM → Nat → Option MB
  | [], _ => none
  | (j, v) :: E, i => bif Nat.beq j i then some v else VM.get E i
def VM.del : VM → Nat → VM
  | [], _ => []
  | (j, v) :: M, i => bif Nat.beq j i then VM.del M i else (j, v) :: VM.del M i
def VM.upd : VM → Nat → List MV → VM
  | [], _, _ => []
  | (j, v) :: M, i, l => bif Nat.beq j i then (j, { v with l := l }) :: VM.upd M i l else (j, v) :: VM.upd M i l
def VM.bump1 : VM → Nat → Nat → VM
  | [], _, _ => []
  | (j, v) :: M, i, n => bif Nat.beq j i then (j, { v with pe := Nat.max v.pe n }) :: VM.bump1 M i n else (j, v) :: VM.bump1 M i n
def VM.bump : VM → List (Nat × Nat) → VM
  | M, [] => M
  | M, (c, n) :: l => VM.bump (VM.bump1 M c n) l
inductive Dl where
  | none
  | new (b : MB)
  | upd (c : Nat) (l : List MV)
  | mv (c : Nat) (b : MB)
  | bump (l : List (Nat × Nat))
def bumpF : FM → List (Nat × Nat) → FM
  | m, [] => m
  | m, (c, n) :: l => bumpF (match m c with | some b => fput m c { b with pe := Nat.max b.pe n } | none => m) l
def Dl.appF (cnt : Nat) : Dl → FM → FM
  | .none, m => m
  | .new b, m => fput m cnt b
  | .upd c l, m => match m c with | some b => fput m c { b with l := l } | Option.none => m
  | .mv c b, m => fput (fdel m c) cnt b
  | .bump l, m => bumpF m l
def Dl.app (cnt : Nat) : Dl → VM → VM
  | .none, M => M
  | .new b, M => (cnt, b) :: M
  | .upd c l, M => VM.upd M c l
  | .mv c b, M => (cnt, b) :: VM.del M c
  | .bump l, M => VM.bump M l
def constM : Value → Option MV
  | .int k n => some (.int k n)
  | .bool b => some (.bool b)
  | .string s => some (.str s.data.toList)
  | .pointer none => some .nilp
  | .slice none 0 0 => some .nils
  | .nilFunc => some .nilf
  | .nilIface => some .nili
  | .func (.func f) ⟨[]⟩ ⟨[]⟩ => some (.fn f [])
  | _ => none
def evM (E : Nat → Option MV) : Operand → Option MV
  | .tmp t => E t
  | .const v => constM v
  | .global g => some (.gp g 0)
  | .func f => some (.fn f [])
def rd {A : Type} (E : Nat → Option MV) (x : Operand) (k : MV → Ask A) : Ask A := match evM E x with | some m => k m | none => .bad
def rds {A : Type} (E : Nat → Option MV) : List Operand → (List MV → Ask A) → Ask A
  | [], k => k []
  | x :: l, k => rd E x fun m => rds E l fun r => k (m :: r)
def rdo {A : Type} (E : Nat → Option MV) : Option Operand → (Option MV → Ask A) → Ask A
  | none, k => k none
  | some x, k => rd E x fun m => k (some m)
def repM : Nat → MV → List MV
  | 0, _ => []
  | n + 1, z => z :: repM n z
def zeroM (T : Tab) : Nat → Nat → Option MV
  | 0, _ => none
  | f + 1, t => match Tab.find T t with
    | some (.int k) => some (.int k 0)
    | some .bool => some (.bool false)
    | some .str => some (.str [])
    | some .ptr => some .nilp
    | some .iface => some .nili
    | some .fn => some .nilf
    | some (.slice ..) => some .nils
    | some (.arr n e es) => match zeroM T f e with
      | some z => bif z.idFree && Nat.beq z.size es then some (.arr n es (repM n z)) else none
      | none => none
    | some (.struct fs _) => match fs.foldr (fun x r => match r, zeroM T f x.2 with | some r, some z => some (z :: r) | _, _ => none) (some []) with
      | some l => some (.st l)
      | none => none
    | _ => none
def bEq : Bool → Bool → Bool
  | true, true => true
  | false, false => true
  | _, _ => false
def MV.isVal : MV → Bool
  | .tup _ => false
  | .mpv .. => false
  | .undef => false
  | _ => true
def fits (d : TD) (v : MV) : Bool := (v.isVal && Nat.beq v.size d.size) && bEq v.isAgg d.agg
def val {A α : Type} (x : α) (k : α → Ask A) : Ask A := .ask (some x) k
def iBin (op : BinOp) (k : IntKind) (m n : Int) : Ask MV := match op with
  | .add => val (k.wrap (m + n)) fun r => .ret (.int k r)
  | .sub => val (k.wrap (m - n)) fun r => .ret (.int k r)
  | .mul => val (k.wrap (m * n)) fun r => .ret (.int k r)
  | .quo => .prf (n ≠ 0) inferInstance (val (k.wrap (m.tdiv n)) fun r => .ret (.int k r))
  | .rem => .prf (n ≠ 0) inferInstance (val (m.tmod n) fun r => .ret (.int k r))
  | .eql => .ret (.bool (m == n))
  | .neq => .ret (.bool (m != n))
  | .lss => .ret (.bool (decide (m < n)))
  | .leq => .ret (.bool (decide (m ≤ n)))
  | .gtr => .ret (.bool (decide (n < m)))
  | .geq => .ret (.bool (decide (n ≤ m)))
  | .shl => .prf (0 ≤ n) inferInstance (val (k.wrap (m * 2 ^ (min n.toNat k.bits))) fun r => .ret (.int k r))
  | .shr => .prf (0 ≤ n) inferInstance (val (m.fdiv (2 ^ (min n.toNat k.bits))) fun r => .ret (.int k r))
  | .and => val (k.wrap (BitVec.ofInt k.bits m &&& BitVec.ofInt k.bits n).toNat) fun r => .ret (.int k r)
  | .or => val (k.wrap (BitVec.ofInt k.bits m ||| BitVec.ofInt k.bits n).toNat) fun r => .ret (.int k r)
  | .xor => val (k.wrap (BitVec.ofInt k.bits m ^^^ BitVec.ofInt k.bits n).toNat) fun r => .ret (.int k r)
  | .andNot => val (k.wrap (BitVec.ofInt k.bits m &&& ~~~BitVec.ofInt k.bits n).toNat) fun r => .ret (.int k r)
def sBin (op : BinOp) (s t : List UInt8) : Ask MV := match op with
  | .add => .prf (s.length + t.length ≤ 9223372036854775807) inferInstance (val (s ++ t) fun r => .ret (.str r))
  | .eql => .ret (.bool (s == t))
  | .neq => .ret (.bool (!(s == t)))
  | .lss => .ret (.bool (Op.bytesLess s t))
  | .leq => .ret (.bool (Op.bytesLess s t || s == t))
  | .gtr => .ret (.bool (!(Op.bytesLess s t || s == t)))
  | .geq => .ret (.bool (!Op.bytesLess s t))
  | _ => .bad
def bBin (op : BinOp) (s t : Bool) : Ask MV := match op with
  | .eql => .ret (.bool (s == t))
  | .neq => .ret (.bool (s != t))
  | _ => .bad
mutual
def eqM : MV → MV → Option Bool
  | .int k a, .int j b => match decide (k = j) with | true => some (decide (a = b)) | false => none
  | .bool a, .bool b => some (a == b)
  | .str a, .str b => some (a == b)
  | .st l, .st r => eqMs l r
  | .arr n es l, .arr n' es' r => bif Nat.beq n n' && Nat.beq es es' then eqMs l r else none
  | _, _ => none
def eqMs : List MV → List MV → Option Bool
  | [], [] => some true
  | a :: l, b :: r => match eqM a b, eqMs l r with
    | some x, some y => some (x && y)
    | _, _ => none
  | _, _ => none
end
mutual
def confM (T : Tab) : Nat → Nat → MV → Bool
  | 0, _, _ => false
  | f + 1, t, m => match Tab.find T t, m with
    | some (.int k), .int j _ => Nat.beq (kid j) (kid k)
    | some .bool, .bool _ => true
    | some .str, .str _ => true
    | some (.arr n e es), .arr n' es' l => Nat.beq n n' && Nat.beq es es' && l.all (confM T f e)
    | some (.struct fs sz), .st l => confMs T f fs 0 l sz
    | _, _ => false
def confMs (T : Tab) : Nat → List (Nat × TypeId) → Nat → List MV → Nat → Bool
  | _, [], o, [], sz => Nat.beq o sz
  | f, (o', t) :: fs, o, m :: l, sz => Nat.beq o o' && (match Tab.find T t with | some d => Nat.beq m.size d.size && confM T f t m && confMs T f fs (o + d.size) l sz | none => false)
  | _, _, _, _, _ => false
end
def nilM : Nat → MV → Option Bool
  | 0, .nilp => some true
  | 0, .ptr .. => some false
  | 0, .gp .. => some false
  | 0, .ep .. => some false
  | 1, .nils => some true
  | 1, .sl (_ + 1) _ => some false
  | 2, .nili => some true
  | 2, .ifc .. => some false
  | _, _ => none
def idx (n : Nat) (j : Int) : Option Nat := if 0 ≤ j ∧ j < (n : Int) then some j.toNat else none
def idxL (l : List MV) (n : Nat) (j : Int) : Option MV := if 0 ≤ j ∧ j < (n : Int) then l[j.toNat]? else none
def idxS (s : List UInt8) (j : Int) : Option UInt8 := if 0 ≤ j then s[j.toNat]? else none
def bounds (n : Nat) (lo hi : Option MV) : Option (Nat × Nat) :=
  match (match hi with | none => some n | some (.int _ h) => if 0 ≤ h ∧ h ≤ (n : Int) then some h.toNat else none | _ => none) with
  | none => none
  | some h => match (match lo with | none => some 0 | some (.int _ l) => if 0 ≤ l ∧ l ≤ (h : Int) then some l.toNat else none | _ => none) with
    | none => none
    | some l => some (l, h)
def bytesM : List MV → Option (List UInt8)
  | [] => some []
  | .int .u8 n :: l => if 0 ≤ n ∧ n < 256 then (match bytesM l with | some r => some (UInt8.ofNat n.toNat :: r) | none => none) else none
  | _ :: _ => none
def headSize : List MV → Nat → Bool
  | [], _ => true
  | m :: _, es => Nat.beq m.size es
def cutL (l : List MV) (a b : Nat) : List MV := (l.drop a).take (b - a)
def u8s (s : List UInt8) : List MV := s.map fun b => .int .u8 b.toNat
section
variable (P : Program) (T : Tab) (E : Nat → Option MV) (M : FM) (cnt : Nat)
mutual
def frz : MV → Ask (MV × List (Nat × Nat))
  | .ms c es off n => match M c with
    | some b => match b.row && Nat.beq b.es es with
      | true => .prf (off + n ≤ b.l.length) inferInstance (val (cutL b.l off (off + n)) fun l => .ret (.sl n l, [(c, off + n)]))
      | false => .bad
    | none => .bad
  | .nils => .ret (.sl 0 [], [])
  | .st l => (frzs l).bind fun r => .ret (.st r.1, r.2)
  | .fn f l => (frzs l).bind fun r => .ret (.fn f r.1, r.2)
  | .ifc t v => (frz v).bind fun r => .ret (.ifc t r.1, r.2)
  | .ptr c es k fo path => match M c with
    | some b => bif Nat.beq b.es es then .ask (nthM b.l k) fun v => (bif v.idFree then .ret (.ep v fo path, [(c, k + 1)]) else .bad) else .bad
    | none => .bad
  | .tup _ => .bad
  | .undef => .bad
  | .mp _ => .bad
  | .mpv .. => .bad
  | m => .ret (m, [])
def frzs : List MV → Ask (List MV × List (Nat × Nat))
  | [] => .ret ([], [])
  | m :: l => (frz m).bind fun x => (frzs l).bind fun r => .ret (x.1 :: r.1, x.2 ++ r.2)
end
def pureA (m : MV) : Ask (MV × Dl) := .ret (m, .none)
def oLoad (t : TypeId) (p : MV) : Ask (MV × Dl) := match Tab.find T t with
  | none => .bad
  | some d => match p with
    | .ptr c es k fo path => match M c with
      | some b => bif Nat.beq b.es es then .ask (nthM b.l k) fun m => .ask (getPO m path fo) fun r => (bif fits d r then pureA r else .bad) else .bad
      | none => .bad
    | .ep v fo path => .ask (getPO v path fo) fun r => bif fits d r then pureA r else .bad
    | _ => .bad
def oStore (t : TypeId) (p v : MV) : Ask (MV × Dl) := match Tab.find T t with
  | none => .bad
  | some d => match p with
    | .ptr c es k fo path => match M c with
      | some b => bif Nat.beq b.es es && fits d v && (!b.row || v.idFree) then .prf (b.pe ≤ k) inferInstance (.ask (nthM b.l k) fun m => .ask (setPO m path fo v) fun m' => val (setL b.l k m') fun l => .ret (.undef, .upd c l)) else .bad
      | none => .bad
    | _ => .bad
def oFieldAddr (t : TypeId) (p : MV) (f : Nat) : Ask (MV × Dl) := match Tab.find T t with
  | some (.struct fs _) => match nth fs f with
    | some (o, _) => match p with
      | .ptr c es k fo path => pureA (.ptr c es k (fo + o) (path ++ [f]))
      | .ep v fo path => pureA (.ep v (fo + o) (path ++ [f]))
      | .gp g off => pureA (.gp g (off + o))
      | _ => .bad
    | none => .bad
  | _ => .bad
def oIndexAddr (t : TypeId) (x j : MV) : Ask (MV × Dl) := match Tab.find T t with
  | some (.slice _ es) => match x, j with
    | .sl n l, .int _ j => .ask (idxL l n j) fun m => bif Nat.beq m.size es then pureA (.ep m 0 []) else .bad
    | .ms c es' off n, .int _ j => bif Nat.beq es' es then .ask (idx n j) fun k => pureA (.ptr c es (off + k) 0 []) else .bad
    | _, _ => .bad
  | some (.arr n _ es) => match x, j with
    | .ptr c es' k fo path, .int _ j => .ask (idx n j) fun i => pureA (.ptr c es' k (fo + i * es) (path ++ [i]))
    | .ep v fo path, .int _ j => .ask (idx n j) fun i => pureA (.ep v (fo + i * es) (path ++ [i]))
    | .gp g off, .int _ j => .ask (idx n j) fun i => pureA (.gp g (off + i * es))
    | _, _ => .bad
  | _ => .bad
def oIndex (t : TypeId) (x j : MV) : Ask (MV × Dl) := match Tab.find T t, x, j with
  | some .str, .str s, .int _ j => .ask (idxS s j) fun c => pureA (.int .u8 c.toNat)
  | some (.arr n e es), .arr n' es' l, .int _ j => match Tab.find T e with
    | some d => bif Nat.beq n n' && Nat.beq es es' then .ask (idxL l n j) fun m => (bif fits d m then pureA m else .bad) else .bad
    | none => .bad
  | _, _, _ => .bad
def oField (t : TypeId) (x : MV) (f : Nat) : Ask (MV × Dl) := match Tab.find T t, x with
  | some (.struct fs _), .st l => match nth fs f, nthM l f with
    | some (o, ft), some m => match Tab.find T ft with
      | some d => bif fits d m && Nat.beq (sizesTo l f) o then pureA m else .bad
      | none => .bad
    | _, _ => .bad
  | _, _ => .bad
def oSlice (t : TypeId) (x : MV) (lo hi : Option MV) : Ask (MV × Dl) := match Tab.find T t, x with
  | some .str, .str s => .ask (bounds s.length lo hi) fun r => val ((s.drop r.1).take (r.2 - r.1)) fun u => pureA (.str u)
  | some (.slice _ es), .sl n l => .ask (bounds n lo hi) fun r => .prf (headSize l es = true) inferInstance (val (cutL l r.1 r.2) fun u => val (r.2 - r.1) fun k => pureA (.sl k u))
  | some (.slice _ es), .ms c es' off n => bif Nat.beq es es' then .ask (bounds n lo hi) fun r => (val (r.2 - r.1) fun k => pureA (.ms c es (off + r.1) k)) else .bad
  | some (.slice _ _), .nils => .ask (bounds 0 lo hi) fun _ => pureA .nils
  | _, _ => .bad
def oSliceA (t : TypeId) (x : MV) (lo hi : Option MV) : Ask (MV × Dl) := match Tab.find T t, x with
  | some (.arr n _ es), .ptr c _ k fo path => match M c with
    | some b => match b.l with
      | [.arr n' es' l] => bif Nat.beq k 0 && Nat.beq fo 0 && path.isEmpty && Nat.beq n n' && Nat.beq es es' then .ask (bounds n lo hi) fun r => val (cutL l r.1 r.2) fun u => val (r.2 - r.1) fun j => .ret (.sl j u, .bump [(c, 1)]) else .bad
      | _ => .bad
    | none => .bad
  | _, _ => oSlice T t x lo hi
def setParts (l : List MV) : List (Nat × MV) → Option (List MV)
  | [] => some l
  | (i, v) :: r => match nthM l i with
    | some m => bif Nat.beq v.size m.size && bEq v.isAgg m.isAgg then setParts (setL l i v) r else none
    | none => none
def sizesB : List MV → List Nat → Bool
  | [], [] => true
  | m :: l, n :: ns => Nat.beq m.size n && sizesB l ns
  | _, _ => false
def oBuild (t : TypeId) (parts : List (Nat × MV)) : Ask (MV × Dl) := match zeroM T 9 t, cutsOf T t with
  | some (.st l), some ns => bif sizesB l ns && parts.all (fun p => p.2.isVal) then (match setParts l parts with
    | some l' => pureA (.st l')
    | none => .bad) else .bad
  | some (.arr n es l), some ns => bif sizesB l ns && parts.all (fun p => p.2.isVal && p.2.idFree) then (match setParts l parts with
    | some l' => pureA (.arr n es l')
    | none => .bad) else .bad
  | _, _ => .bad
def oBuildSlice (t : TypeId) (n : Nat) (parts : List (Nat × MV)) : Ask (MV × Dl) := match Tab.find T t with
  | some (.slice e es) => match n with
    | 0 => match parts with
      | [] => .ret (.ms cnt es 0 0, .new ⟨e, es, true, 0, []⟩)
      | _ => .bad
    | n + 1 => match zeroM T 9 e with
      | some z => bif Nat.beq z.size es && Nat.blt 0 es && Nat.ble ((n + 1) * es) 16777216 && z.idFree && parts.all (fun p => p.2.isVal) then (match setParts (repM (n + 1) z) parts with
        | some l => .ret (.ms cnt es 0 (n + 1), .new ⟨e, es, parts.all (fun p => p.2.idFree), 0, l⟩)
        | none => .bad) else .bad
      | none => .bad
  | _ => .bad
def oBuildRow (t : TypeId) (c es' off k : Nat) : Ask (MV × Dl) := match Tab.find T t with
  | some (.slice e es) => match zeroM T 9 e with
    | some z => match M c with
      | some b => bif Nat.beq z.size es && Nat.beq es 1 && z.idFree && !z.isAgg && b.row && Nat.beq b.es es' then .prf (off + k ≤ b.l.length) inferInstance (val (cutL b.l off (off + k)) fun l => .ret (.ms cnt es 0 1, .mv c ⟨e, es, true, 0, [.sl k l]⟩)) else .bad
      | none => .bad
    | none => .bad
  | _ => .bad
def rowPart (n : Nat) (ps : List (Nat × MV)) : Option (Nat × Nat × Nat × Nat) := match n with
  | 1 => (match ps with
    | [(0, .ms c es off k)] => some (c, es, off, k)
    | _ => none)
  | _ => none
def eqT (t : TypeId) : Bool := flatB P T 9 t && !P.eqGuardType P.depth t
def oNil (b : Option Bool) (op : BinOp) : Ask (MV × Dl) := match b with
  | some b => match op with
    | .eql => pureA (.bool b)
    | .neq => pureA (.bool (!b))
    | _ => .bad
  | none => .bad
def oEq (op : BinOp) (t : TypeId) (x y : MV) : Ask (MV × Dl) := match Tab.find T t with
  | some d => bif d.agg && fits d x && fits d y then .prf (eqT P T t = true ∧ confM T 9 t x = true ∧ confM T 9 t y = true) inferInstance (.ask (eqM x y) fun b => oNil (some b) op) else .bad
  | none => .bad
def oBin (op : BinOp) (t : TypeId) (yo : Operand) (x y : MV) : Ask (MV × Dl) := match y with
  | .int k' n => match x with
    | .int k m => bif isShift op || Nat.beq (kid k) (kid k') then (iBin op k m n).bind pureA else .bad
    | _ => .bad
  | .str u => match x with
    | .str s => (sBin op s u).bind pureA
    | _ => .bad
  | .bool u => match x with
    | .bool s => match Tab.find T t with | some .bool => (bBin op s u).bind pureA | _ => .bad
    | _ => .bad
  | .nilp => match Tab.find T t with
    | some .ptr => oNil (nilM 0 x) op
    | _ => .bad
  | .nils => match Tab.find T t with
    | some (.slice ..) => oNil (nilM 1 x) op
    | _ => .bad
  | .nili => match Tab.find T t, yo with
    | some .iface, .const _ => oNil (nilM 2 x) op
    | _, _ => .bad
  | y => oEq P T op t x y
def oUn (op : UnOp) (x : MV) : Ask (MV × Dl) := match op, x with
  | .not, .bool b => pureA (.bool (!b))
  | .xor, .int k n => val (k.wrap (BitVec.ofInt k.bits (if k.signed then -1 else k.max) ^^^ BitVec.ofInt k.bits n).toNat) fun r => pureA (.int k r)
  | .neg, .int k n => val (k.wrap (0 - n)) fun r => pureA (.int k r)
  | _, _ => .bad
def oConv (src dst : TypeId) (x : MV) : Ask (MV × Dl) := match Tab.find T src, Tab.find T dst, x with
  | some _, some (.int k), .int _ n => val (k.wrap n) fun r => pureA (.int k r)
  | some (.slice e _), some .str, .sl _n l => match Tab.find T e with
    | some (.int .u8) => .ask (bytesM l) fun s => pureA (.str s)
    | _ => .bad
  | some (.slice e _), some .str, .nils => match Tab.find T e with
    | some (.int .u8) => pureA (.str [])
    | _ => .bad
  | some (.slice e _), some .str, .ms c es off n => match Tab.find T e, M c with
    | some (.int .u8), some b => bif Nat.beq es 1 && Nat.beq b.es 1 then .prf (off + n ≤ b.l.length) inferInstance (.ask (bytesM (cutL b.l off (off + n))) fun s => pureA (.str s)) else .bad
    | _, _ => .bad
  | some .str, some (.slice e _), .str s => match Tab.find T e with
    | some (.int .u8) => .prf (s.length ≤ 140737488355328) inferInstance (val (u8s s) fun l => val s.length fun n => pureA (.sl n l))
    | _ => .bad
  | _, _, _ => .bad
def oMakeSlice (t : TypeId) (n m : MV) : Ask (MV × Dl) := match Tab.find T t, n, m with
  | some (.slice e es), .int _ n, .int _ m => match zeroM T 9 e with
    | some z => bif Nat.beq z.size es && Nat.blt 0 es && z.idFree then .prf (n = m) inferInstance (.ask (idx 140737488355328 n) fun k => .ask ((P.info? e).map (·.bytes)) fun by_ => .prf (k * by_ ≤ 281474976710656) inferInstance (.ret (.ms cnt es 0 k, .new ⟨e, es, true, 0, repM k z⟩))) else .bad
    | none => .bad
  | _, _, _ => .bad
def srcM (es : Nat) (y : MV) (k : Bool → Nat → List MV → Ask (MV × Dl)) : Ask (MV × Dl) := match y with
  | .sl m l => .prf (headSize l es = true) inferInstance (k true m l)
  | .nils => k true 0 []
  | .ms c es' off m => match M c with
    | some b => bif Nat.beq es es' && Nat.beq b.es es then .prf (off + m ≤ b.l.length) inferInstance (val (cutL b.l off (off + m)) fun l => k b.row m l) else .bad
    | none => .bad
  | _ => .bad
def oAppend (ats : List TypeId) (x y : MV) : Ask (MV × Dl) := match ats with
  | [t, u] => bif Nat.beq t u then (match Tab.find T t with
    | some (.slice e es) => match zeroM T 9 e with
      | some z => bif Nat.beq z.size es && Nat.blt 0 es then .ask ((P.info? e).map (·.bytes)) fun by_ => srcM M es y fun fl m l => (match x with
        | .nils => .prf (m * by_ ≤ 140737488355328 ∧ m ≤ maxLen) inferInstance (bif fl || Nat.blt 0 m then .ret (.ms cnt es 0 m, .new ⟨e, es, fl, 0, l⟩) else .bad)
        | .ms c es' off n => match M c with
          | some b => bif Nat.beq off 0 && Nat.beq es es' && Nat.beq b.es es && (b.row && fl || Nat.blt 0 (n + m)) && Nat.beq b.ty e then .prf (b.l.length = n ∧ (n + m) * by_ ≤ 140737488355328 ∧ n + m ≤ maxLen) inferInstance (val (b.l ++ l) fun r => val (n + m) fun k => .ret (.ms cnt es 0 k, .mv c ⟨e, es, b.row && fl, b.pe, r⟩)) else .bad
          | none => .bad
        | _ => .bad) else .bad
      | none => .bad
    | _ => .bad) else .bad
  | _ => .bad
def oLen (t : Option TypeId) (x : MV) : Ask (MV × Dl) := match t.bind (Tab.find T), x with
  | some .str, .str s => val (s.length : Int) fun r => pureA (.int .i64 r)
  | some (.slice ..), .sl n _ => pureA (.int .i64 n)
  | some (.slice ..), .nils => pureA (.int .i64 0)
  | some (.slice ..), .ms _ _ _ n => pureA (.int .i64 n)
  | some (.arr n _ _), _ => pureA (.int .i64 n)
  | _, _ => .bad
def oPick (c a b : MV) : Ask (MV × Dl) := match c with
  | .bool t => .br t (pureA a) (pureA b)
  | _ => .bad
def oAlloc (t : TypeId) : Ask (MV × Dl) := match Tab.find T t, zeroM T 9 t with
  | some d, some z => bif fits d z then .ret (.ptr cnt d.size 0 0 [], .new ⟨t, d.size, false, 0, [z]⟩) else .bad
  | _, _ => .bad
def oBox (t : TypeId) (v : MV) : Ask (MV × Dl) := match Tab.find T t with
  | some d => bif fits d v then .ret (.ptr cnt d.size 0 0 [], .new ⟨t, d.size, false, 0, [v]⟩) else .bad
  | none => .bad
def oNilCheck (v : MV) : Ask (MV × Dl) := match v with
  | .ptr .. | .gp .. | .ep .. | .fn .. | .ifc .. => pureA v
  | _ => .bad
def oIface (t : TypeId) (v : MV) : Ask (MV × Dl) := match Tab.find T t with
  | some .iface => .bad
  | some .other => .bad
  | some d => bif fits d v then pureA (.ifc t v) else .bad
  | none => .bad
def oMkFunc (fn : Fn) (first : Array Operand) (ys : List MV) : Ask (MV × Dl) := match fn, first.toList with
  | .func f, [] => bif ys.all MV.isVal then pureA (.fn f ys) else .bad
  | _, _ => .bad
def oExtract (x : MV) (i : Nat) : Ask (MV × Dl) := match x with
  | .tup vs => match nthM vs i with | some m => pureA m | none => .bad
  | _ => .bad
def oClear (t : Option TypeId) (x : MV) : Ask (MV × Dl) := match t.bind (Tab.find T), x with
  | some (.slice e es), .ms c es' off n => match M c, zeroM T 9 e with
    | some b, some z => bif Nat.beq es es' && Nat.beq b.es es && Nat.beq z.size es && Nat.blt 0 es then .prf (off + n ≤ b.l.length ∧ b.pe ≤ off) inferInstance (val (b.l.take off ++ (repM n z ++ b.l.drop (off + n))) fun l => .ret (.tup [], .upd c l)) else .bad
    | _, _ => .bad
  | _, _ => .bad
def oBuiltin (b : Builtin) (ats : Array TypeId) (vs : List MV) : Ask (MV × Dl) := match b with
  | .len => match vs with | [x] => oLen T (ats[0]?) x | _ => .bad
  | .append => match vs with | [x, y] => oAppend P T M cnt ats.toList x y | _ => .bad
  | .clear => match vs with | [x] => oClear T M (ats[0]?) x | _ => .bad
  | .min => match vs with | [.int k x, .int _ y] => val (if y < x then y else x) fun r => pureA (.int k r) | _ => .bad
  | .max => match vs with | [.int k x, .int _ y] => val (if y > x then y else x) fun r => pureA (.int k r) | _ => .bad
  | _ => .bad
def findM (s : List UInt8) : List MV → Nat → Option (Option Nat)
  | [], _ => some none
  | .str x :: l, i => bif s == x then some (some i) else findM s l (i + 1)
  | _ :: _, _ => none
def mapK (t : TypeId) : Option TypeId := match P.underlying t with
  | some (.map k e) => (match P.underlying k with | some .string => some e | _ => none)
  | _ => none
def isAggV : Option Value → Bool
  | some (.agg _) => true
  | _ => false
def zeroVal (t : TypeId) : Option MV := match zeroM T 9 t with
  | some z => bif bEq z.isAgg (isAggV ((P.info? t).bind (·.zero))) then some z else none
  | none => none
def oMakeMap (t : TypeId) : Ask (MV × Dl) := .ret (.mp cnt, .new ⟨t, 0, false, 0, [.mpv [] []]⟩)
def oMapUpd (t : TypeId) (m k x : MV) : Ask (MV × Dl) := match m, k with
  | .mp c, .str s => match M c with
    | some b => match b.l with
      | [.mpv ks vs] => bif x.isVal && x.idFree then .prf (vs.length = ks.length) inferInstance (.ask (mapK P t) fun _ => .ask (findM s ks 0) fun r => (match r with
        | none => val [.mpv (ks ++ [.str s]) (vs ++ [x])] fun l => .ret (.undef, .upd c l)
        | some i => val [.mpv ks (setL vs i x)] fun l => .ret (.undef, .upd c l))) else .bad
      | _ => .bad
    | none => .bad
  | _, _ => .bad
def okPair (ok : Bool) (v : MV) (b : Bool) : MV := match ok with
  | true => .tup [v, .bool b]
  | false => v
def oLookup (t : TypeId) (m k : MV) (ok : Bool) : Ask (MV × Dl) := match m, k with
  | .mp c, .str s => match M c with
    | some b => match b.l with
      | [.mpv ks vs] => .prf (vs.length = ks.length) inferInstance (.ask (mapK P t) fun e => .ask (findM s ks 0) fun r => (match r with
        | none => .ask (zeroVal P T e) fun z => pureA (okPair ok z false)
        | some i => .ask (nthM vs i) fun v => bif v.isVal then pureA (okPair ok v true) else .bad))
      | _ => .bad
    | none => .bad
  | _, _ => .bad
def natOf (n : Int) : Option Nat := if 0 ≤ n then some n.toNat else none
def nextS (s : List UInt8) (pos : Nat) : Option (Nat × Nat) := if pos < s.length then some (Utf8.decode ⟨s.toArray⟩ pos) else none
def oRange (t : TypeId) (x : MV) : Ask (MV × Dl) := match Tab.find T t, x with
  | some .str, .str s => .ret (.ptr cnt 0 0 0 [], .new ⟨t, 0, false, 0, [.mpv [.str s] [.nilp, .int .i64 (0 : Nat)]]⟩)
  | _, _ => .bad
def oNext (x : MV) (isS : Bool) : Ask (MV × Dl) := match x, isS with
  | .ptr c 0 0 0 [], true => match M c with
    | some b => match b.l with
      | [.mpv [.str s] [.nilp, .int .i64 p]] => .ask (natOf p) fun pos => val (nextS s pos) fun r => (match r with
        | none => .ret (.tup [.bool false], .upd c [.mpv [.str s] [.nilp, .int .i64 p]])
        | some (x, wd) => .ret (.tup [.bool true, .int .i64 pos, .int .i32 x], .upd c [.mpv [.str s] [.nilp, .int .i64 (pos + wd : Nat)]]))
      | _ => .bad
    | none => .bad
  | _, _ => .bad
def oAssert (t : TypeId) (ok : Bool) (v : MV) : Ask (MV × Dl) := match v, Tab.find T t with
  | .ifc _ _, some .iface => .bad
  | .ifc _ _, some .other => .bad
  | .ifc t' u, some _ => match Nat.beq t' t with
    | true => bif u.isVal then pureA (okPair ok u true) else .bad
    | false => bif ok then .ask (zeroVal P T t) fun z => pureA (.tup [z, .bool false]) else .bad
  | _, _ => .bad
def eOp (o : Oper) : Ask (MV × Dl) := match o.op with
  | .move x => rd E x pureA
  | .assign x => rd E x pureA
  | .pick c a b => rd E c fun c => rd E a fun a => rd E b fun b => oPick c a b
  | .alloc t => oAlloc T cnt t
  | .box t x => rd E x fun v => oBox T cnt t v
  | .build t parts => rds E (parts.toList.map (·.2)) fun vs => oBuild T t ((parts.toList.map (·.1)).zip vs)
  | .buildSlice t n parts => rds E (parts.toList.map (·.2)) fun vs => match rowPart n ((parts.toList.map (·.1)).zip vs) with
    | some x => oBuildRow T M cnt t x.1 x.2.1 x.2.2.1 x.2.2.2
    | none => oBuildSlice T cnt t n ((parts.toList.map (·.1)).zip vs)
  | .load t x => rd E x fun p => oLoad T M t p
  | .store t x y => rd E x fun p => rd E y fun v => oStore T M t p v
  | .nilCheck x => rd E x oNilCheck
  | .binOp op t x y _ => rd E x fun u => rd E y fun v => oBin P T op t y u v
  | .unOp op _ x => rd E x fun v => oUn op v
  | .convert src dst x => rd E x fun v => oConv T M src dst v
  | .makeInterface t x => rd E x fun v => oIface T t v
  | .makeFunc fn first captured => rds E captured.toList fun ys => oMkFunc fn first ys
  | .makeSlice t l c => rd E l fun l => rd E c fun c => oMakeSlice P T cnt t l c
  | .slice t x lo hi mx => match mx with
    | none => rd E x fun x => rdo E lo fun lo => rdo E hi fun hi => oSliceA T M t x lo hi
    | some _ => .bad
  | .fieldAddr t x f => rd E x fun p => oFieldAddr T t p f
  | .field t x f => rd E x fun v => oField T t v f
  | .indexAddr t x ix => rd E x fun v => rd E ix fun i => oIndexAddr T t v i
  | .index t x ix => rd E x fun v => rd E ix fun i => oIndex T t v i
  | .extract x i => rd E x fun x => oExtract x i
  | .makeMap t r => match r with
    | none => oMakeMap cnt t
    | some _ => .bad
  | .mapUpdate t m k x => rd E m fun m => rd E k fun k => rd E x fun x => oMapUpd P M t m k x
  | .lookup t m k ok => rd E m fun m => rd E k fun k => oLookup P T M t m k ok
  | .typeAssert x _ t ok => rd E x fun v => oAssert P T t ok v
  | .range t x => rd E x fun v => oRange T cnt t v
  | .next x isS => rd E x fun v => oNext M v isS
  | .call c => match c.callee with
    | .builtin b => rds E c.args.toList fun vs => oBuiltin P T M cnt b c.argTypes vs
    | _ => .bad
  | _ => .bad
end
end Go.Proofs.YtmeeeigfjlbnkaaGreat
namespace Go.Proofs.YtmeeeigfjlbnkaaGreat
open Go.RowKit
def Post1 (w : World) (P : Prot) (adr : Adr) (m : FM) (cnt : Nat) (r : MV) (δ : Dl) (u : Value) (w' : World) : Prop :=
  ∃ (P' : Prot) (adr' : Adr), RepV w' P' adr' r u ∧ InvM w' P' adr' (δ.appF cnt m) ∧ Keep w w' P P' adr adr' ∧ (∀ c, c ≠ cnt → adr' c = adr c) ∧
    (∀ g, adr' cnt = some g → w.heap.size ≤ g ∨ ∃ c, adr c = some g) ∧ Since (fun b => ∃ c, adr c = some b) w w' ∧ (∀ b o, P' b o → P b o ∨ w.heap.size ≤ b ∨ ∃ c, adr c = some b)
def Res (Pg : Program) (o : Oper) (a : Act) (w : World) (Q : Value → World → Prop) : Prop :=
  (∃ u w', (execOp a.eval o).run Pg w = .ok (.value u) w' ∧ Q u w') ∨ (∃ w', (execOp a.eval o).run Pg w = .ok .skip w' ∧ Q undef w')
section
variable {Pg : Program} {T : Tab} {w w' : World} {P P' : Prot} {adr adr' : Adr} {m : FM} {cnt : Nat} {K : MV × Dl → Prop} {u v x y : Value} {r : MV}
theorem Post1.pure (hI : InvM w P adr m) (hn : adr cnt = none) (h : RepV w P adr r u) : Post1 w P adr m cnt r .none u w :=
  ⟨P, adr, h, hI, Keep.refl _ _ _, fun _ _ => rfl, fun g (hg : adr cnt = some g) => (by rw [hn] at hg; cases hg), Since.refl _ _, fun _ _ h => .inl h⟩
theorem Res.val {o : Oper} {a : Act} {Q : Value → World → Prop} (s : Sem Value) (ho : execOp a.eval o = (do pure (.value (← s)))) (hr : s.run Pg w = .ok u w') (h : Q u w') : Res Pg o a w Q :=
  .inl ⟨u, w', by rw [ho, Sem.run_bind, hr]; rfl, h⟩
theorem Res.unit {o : Oper} {a : Act} {Q : Value → World → Prop} (s : Sem Unit) (ho : execOp a.eval o = (do s; pure .skip)) (hr : s.run Pg w = .ok () w') (h : Q undef w') : Res Pg o a w Q :=
  .inr ⟨w', by rw [ho, Sem.run_bind, hr]; rfl, h⟩
theorem pureA_out {r : MV} (h : (pureA r).runP K) : K (r, .none) := h
theorem RepV.rep (h : RepV w P adr r u) (h1 : r ≠ .undef) (h2 : ∀ l, r ≠ .tup l) : ∃ cs, Rep w P adr r cs ∧ u = valM r cs := by
  cases h with
  | val cs h => exact ⟨cs, h, rfl⟩
  | undef => exact absurd rfl h1
  | tup => exact absurd rfl (h2 _)
theorem valM_agg {cs : List Value} (h : r.isAgg = true) : valM r cs = .agg ⟨cs⟩ := by unfold valM; rw [h]; rfl
theorem valM_one (h : r.isAgg = false) (v : Value) : valM r [v] = v := by unfold valM; rw [h]; rfl
theorem RepV.int_ {k : IntKind} {n : Int} (h : RepV w P adr (.int k n) u) : u = .int k n := by cases h with | val cs h => cases h; rfl
theorem RepV.undef_ (h : RepV w P adr .undef u) : u = Go.undef := by cases h with | val cs h => cases h | undef => rfl
theorem RepV.bool_ {b : Bool} (h : RepV w P adr (.bool b) u) : u = .bool b := by cases h with | val cs h => cases h; rfl
theorem RepV.str_ {s : List UInt8} (h : RepV w P adr (.str s) u) : u = .string ⟨s.toArray⟩ := by cases h with | val cs h => cases h; rfl
theorem RepV.nilp_ (h : RepV w P adr .nilp u) : u = .pointer none := by cases h with | val cs h => cases h; rfl
theorem RepV.nils_ (h : RepV w P adr .nils u) : u = .slice none 0 0 := by cases h with | val cs h => cases h; rfl
theorem RepV.nili_ (h : RepV w P adr .nili u) : u = .nilIface := by cases h with | val cs h => cases h; rfl
theorem RepV.gp_ {g o : Nat} (h : RepV w P adr (.gp g o) u) : u = .pointer (some ⟨g, o, none⟩) := by cases h with | val cs h => cases h; rfl
theorem RepV.ptr_ {c es k fo : Nat} {path : List Nat} (h : RepV w P adr (.ptr c es k fo path) u) : ∃ g, adr c = some g ∧ u = .pointer (some ⟨g, k * es + fo, none⟩) := by
  cases h with | val cs h => cases h with | ptr g h => exact ⟨g, h, rfl⟩
theorem RepV.ep_ {fo : Nat} {path : List Nat} (h : RepV w P adr (.ep r fo path) u) : ∃ (b o : Nat) (vs : List Value), u = .pointer (some ⟨b, o + fo, none⟩) ∧ (∀ (j : Nat) x, vs[j]? = some x → w.cell? ⟨b, o + j, none⟩ = some x ∧ P b (o + j)) ∧ Rep w P noAdr r vs := by
  cases h with | val cs h => cases h with | ep b o vs hc hr => exact ⟨b, o, vs, rfl, hc, hr⟩
theorem RepV.sl_ {n : Nat} {l : List MV} (h : RepV w P adr (.sl n l) u) : ∃ (A : Option Addr) (cap es : Nat) (parts : List (List Value)), u = .slice A n cap ∧ l.length = n ∧ parts.length = n ∧ (∀ p ∈ parts, p.length = es) ∧ (A = none → n = 0 ∧ cap = 0) ∧ n ≤ cap ∧
    (n ≠ 0 → ∃ b o, A = some ⟨b, o, none⟩ ∧ ∀ (j : Nat) x, parts.flatten[j]? = some x → w.cell? ⟨b, o + j, none⟩ = some x ∧ P b (o + j)) ∧ (∀ (j : Nat) m p, l[j]? = some m → parts[j]? = some p → Rep w P noAdr m p) := by
  cases h with | val cs h => cases h with | sl A cap es parts h1 h2 h3 h4 h7 h5 h6 => exact ⟨A, cap, es, parts, rfl, h1, h2, h3, h4, h7, h5, h6⟩
theorem RepV.ms_ {c es off n : Nat} (h : RepV w P adr (.ms c es off n) u) : (u = .slice none 0 0 ∧ off = 0 ∧ n = 0) ∨ ∃ g o cap, adr c = some g ∧ u = .slice (some ⟨g, o, none⟩) n cap ∧ (n ≠ 0 ∨ off = 0 → o = off * es) ∧ n ≤ cap ∧ cap ≤ maxLen ∧
    ∃ cur ty, w.heap[g]? = some (.cells cur ty (0, 0)) ∧ (off = 0 → cur.size = cap * es) := by
  cases h with | val cs h => cases h with
    | ms0 => exact .inl ⟨rfl, rfl, rfl⟩
    | ms g o cap h1 h2 h3 h4 h5 => exact .inr ⟨g, o, cap, h1, rfl, h2, h3, h4, h5⟩
theorem RepV.agg_ (h : RepV w P adr r u) (ha : r.isAgg = true) : ∃ cs, Rep w P adr r cs ∧ u = .agg ⟨cs⟩ := by
  cases h with
  | val cs h => exact ⟨cs, h, valM_agg ha⟩
  | undef => cases ha
  | tup => cases ha
theorem fits_out {d : TD} {r : MV} (h : fits d r = true) : r.size = d.size ∧ r.isAgg = d.agg ∧ r.isVal = true := by
  unfold fits at h
  rw [Bool.and_eq_true, Bool.and_eq_true] at h
  refine ⟨Nat.eq_of_beq_eq_true h.1.2, ?_, h.1.1⟩
  have h2 := h.2
  cases ha : r.isAgg <;> cases hb : d.agg <;> rw [ha, hb] at h2 <;> first | rfl | cases h2
theorem rep_of_fits {d : TD} (h : RepV w P adr r u) (hf : fits d r = true) : ∃ cs, Rep w P adr r cs ∧ u = valM r cs ∧ cs.length = d.size := by
  obtain ⟨hs, _, hv⟩ := fits_out hf
  cases h with
  | val cs h => exact ⟨cs, h, rfl, by rw [h.size, hs]⟩
  | undef => cases hv
  | tup => cases hv
theorem load_part (hT : TabOK Pg T) {t : TypeId} {d : TD} (hd : Tab.find T t = some d) {b o : Nat} {cs : List Value} (hr : Rep w P adr r cs) (hf : fits d r = true) (hc : ∀ (j : Nat) x, cs[j]? = some x → w.cell? ⟨b, o + j, none⟩ = some x) :
    (Instr.loadAt t (.pointer (some ⟨b, o, none⟩))).run Pg w = .ok (valM r cs) w := by
  obtain ⟨hs, ha, _⟩ := fits_out hf
  have hl : cs.length = d.size := by rw [hr.size, hs]
  have hld : (loadVar t ⟨b, o, none⟩).run Pg w = .ok (valM r cs) w := by
    cases hg : d.agg with
    | true =>
      rw [valM_agg (by rw [ha, hg])]
      exact ldn hT hd hg hl (fun j v hv => hc j v hv) (Below.refl _ _)
    | false =>
      have hra : r.isAgg = false := by rw [ha, hg]
      obtain ⟨v, rfl⟩ := hr.scalar hra
      rw [valM_one hra]
      have := hc 0 v rfl
      exact ld1 hT hd hg (o := o) (j := 0) (p := o) (cs := [v]) (fun j x hx => hc j x hx) rfl rfl (Below.refl _ _)
  simp only [Instr.loadAt, Instr.sureAddr, Sem.run_bind, Sem.run_pure, Result.andThen_ok]
  exact hld
theorem getPO_mpv {ks vs : List MV} {path : List Nat} {fo : Nat} {r : MV} (h : getPO (.mpv ks vs) path fo = some r) : r.isVal = false := by
  cases path with
  | nil =>
    have h : (bif Nat.beq fo 0 then some (MV.mpv ks vs) else none) = some r := h
    cases hb : Nat.beq fo 0 with
    | false => rw [hb] at h; cases h
    | true => rw [hb] at h; injection h with h; subst h; rfl
  | cons i p => simp [getPO] at h
theorem oLoad_ok (hT : TabOK Pg T) {t : TypeId} {p : MV} (h : (oLoad T m t p).runP K) (hp : RepV w P adr p u) (hI : InvM w P adr m) :
    ∃ r v, K (r, .none) ∧ (Instr.loadAt t u).run Pg w = .ok v w ∧ RepV w P adr r v := by
  unfold oLoad at h
  split at h
  · exact h.elim
  rename_i d hd
  split at h
  · rename_i c es k fo path
    split at h
    · rename_i b hb
      cases hes : Nat.beq b.es es with
      | false => rw [hes] at h; exact h.elim
      | true =>
        rw [hes] at h
        have hes := Nat.eq_of_beq_eq_true hes
        obtain ⟨x, hx, r, hr, h⟩ := h
        replace h : Ask.runP (bif fits d r then pureA r else .bad) K := h
        cases hf : fits d r with
        | false => rw [hf] at h; exact h.elim
        | true =>
          rw [hf] at h
          obtain ⟨g, hg, rfl⟩ := hp.ptr_
          rw [nthM_eq] at hx
          rcases hI.blk c b hb with h1 | ⟨g', h1, h2⟩
          · rw [hg] at h1; cases h1.2.2.1
          · rw [hg] at h1
            injection h1 with h1
            subst h1
            obtain ⟨cur, parts, h3, h4, h5, h6, h7⟩ := h2.ofX hx (fun ks vs e => by subst e; have := getPO_mpv hr; rw [(fits_out hf).2.2] at this; cases this)
            obtain ⟨q, hq⟩ := get_of_len h4 hx
            have hrep : Rep w P adr x q := by
              have := h6 k x q hx hq
              cases hrow : b.row <;> rw [hrow] at this
              · exact this
              · exact this.ofNone
            obtain ⟨pre, cs, post, e1, e2, h8⟩ := getPO_rep hrep hr
            refine ⟨r, _, h, load_part hT hd h8 hf (fun j y hy => ?_), .val cs h8⟩
            have hlt := (List.getElem?_eq_some_iff.1 hq).1
            have hpre : (parts.take k).flatten.length = k * es := by
              rw [flatten_const (es := b.es) fun x hx => h5 x (List.mem_of_mem_take hx), List.length_take, Nat.min_eq_left (by omega), hes]
            have hfl : parts.flatten[k * es + fo + j]? = some y := by
              rw [flatten_split hq, e1, List.append_assoc, List.getElem?_append_right (by omega), hpre]
              rw [List.append_assoc, List.append_assoc, List.getElem?_append_right (by omega), List.getElem?_append_left (by have := (List.getElem?_eq_some_iff.1 hy).1; omega)]
              rw [show k * es + fo + j - k * es - pre.length = j by omega]
              exact hy
            rw [cell_of_row w g _ cur b.ty (0, 0) h3]
            have := prefix_get h7 hfl
            simpa using this
    · exact h.elim
  · rename_i v0 fo path
    obtain ⟨r, hr, h⟩ := h
    replace h : Ask.runP (bif fits d r then pureA r else .bad) K := h
    cases hf : fits d r with
    | false => rw [hf] at h; exact h.elim
    | true =>
      rw [hf] at h
      obtain ⟨b, o, vs, rfl, hc, hv⟩ := hp.ep_
      obtain ⟨pre, cs, post, e1, e2, h8⟩ := getPO_rep hv hr
      refine ⟨r, _, h, load_part hT hd h8 hf (fun j y hy => ?_), .val cs h8.ofNone⟩
      have := (hc (fo + j) y (by rw [e1, List.append_assoc, List.getElem?_append_right (by omega), List.getElem?_append_left (by have := (List.getElem?_eq_some_iff.1 hy).1; omega), show fo + j - pre.length = j by omega]; exact hy)).1
      rw [show o + fo + j = o + (fo + j) by omega]
      exact this
  · exact h.elim
end
end Go.Proofs.YtmeeeigfjlbnkaaGreat
namespace Go.Proofs.YtmeeeigfjlbnkaaGreat
open Go.RowKit
section
variable {Pg : Program} {T : Tab} {w w' : World} {P P' : Prot} {adr adr' : Adr} {m : FM} {cnt : Nat} {K : MV × Dl → Prop} {u v x y : Value} {r : MV}
theorem valM_size {cs : List Value} (h : Rep w P adr r cs) : (valM r cs).cells.size = cs.length := by rw [← Array.length_toList, valM_cells h]
theorem setPO_mpv {ks vs : List MV} {path : List Nat} {fo : Nat} {v r : MV} (h : setPO (.mpv ks vs) path fo v = some r) (hv : v.isVal = true) : False := by
  cases path with
  | nil =>
    have h : (bif Nat.beq fo 0 && Nat.beq v.size 0 then (match v.isAgg, false with | true, true | false, false => some v | _, _ => none) else none) = some r := h
    cases hb : (Nat.beq fo 0 && Nat.beq v.size 0) with
    | false => rw [hb] at h; cases h
    | true =>
      rw [hb] at h
      rw [Bool.and_eq_true] at hb
      have h1 := Nat.eq_of_beq_eq_true hb.2
      cases v with
      | st l => simp [MV.isAgg] at h
      | arr n es l => simp [MV.isAgg] at h
      | mpv => cases hv
      | _ => simp [MV.size] at h1
  | cons i p => simp [setPO] at h
theorem oStore_ok0 (hT : TabOK Pg T) {t : TypeId} {p q : MV} (h : (oStore T m t p q).runP K) (hp : RepV w P adr p u) (hq : RepV w P adr q v) (hI : InvM w P adr m) (cnt : Nat) :
    ∃ δ w', K (.undef, δ) ∧ (Instr.storeAt t u v).run Pg w = .ok () w' ∧ InvM w' P adr (δ.appF cnt m) ∧ Keep w w' P P adr adr ∧ Since (fun b => ∃ c, adr c = some b) w w' := by
  unfold oStore at h
  split at h
  · exact h.elim
  rename_i d hd
  split at h
  · rename_i c es k fo path
    split at h
    · rename_i b hb
      cases hes : (Nat.beq b.es es && fits d q && (!b.row || q.idFree)) with
      | false => rw [hes] at h; exact h.elim
      | true =>
        rw [hes] at h
        rw [Bool.and_eq_true, Bool.and_eq_true] at hes
        obtain ⟨⟨hes, hf⟩, hrow⟩ := hes
        have hes := Nat.eq_of_beq_eq_true hes
        obtain ⟨hpe, x, hx, x', hx', l, hl, h⟩ := h
        injection hl with hl
        subst hl
        obtain ⟨g, hg, rfl⟩ := hp.ptr_
        rw [nthM_eq] at hx
        obtain ⟨cs, hcs, rfl, hcl⟩ := rep_of_fits hq hf
        rcases hI.blk c b hb with h1 | ⟨g', h1, h2⟩
        · rw [hg] at h1; cases h1.2.2.1
        · rw [hg] at h1
          injection h1 with h1
          subst h1
          obtain ⟨cur, parts, h3, h4, h5, h6, h7⟩ := h2.ofX hx (fun ks vs e => by subst e; exact setPO_mpv hx' (fits_out hf).2.2)
          obtain ⟨z, hz⟩ := get_of_len h4 hx
          have hcs' : Rep w P (if b.row then noAdr else adr) q cs := by
            cases hr : b.row with
            | false => exact hcs
            | true => rw [hr] at hrow; exact hcs.free (by simpa using hrow)
          obtain ⟨pre, old, post, e1, e2, e3, h8, h9, h10⟩ := setPO_rep (h6 k x z hx hz) hx' hcs'
          have hlt := (List.getElem?_eq_some_iff.1 hz).1
          have hpre : (parts.take k).flatten.length = k * es := by
            rw [flatten_const (es := b.es) fun x hx => h5 x (List.mem_of_mem_take hx), List.length_take, Nat.min_eq_left (by omega), hes]
          obtain ⟨tl, htl⟩ := h7
          have hcurl : cur.toList = (parts.take k).flatten ++ (pre ++ old ++ post) ++ ((parts.drop (k + 1)).flatten ++ tl) := by
            rw [← htl, flatten_split hz, e1]; simp
          have hoff : ((parts.take k).flatten ++ pre).length = k * es + fo := by rw [List.length_append, hpre, e2]
          have hsize : cur.size = k * es + fo + old.length + post.length + ((parts.drop (k + 1)).flatten ++ tl).length := by
            rw [← Array.length_toList, hcurl]
            simp only [List.length_append] at hoff ⊢
            omega
          have hst := run_storeCells_at Pg g (k * es + fo) b.ty cs 0 cur w h3 (by omega) hcs.one
          have htake : cur.toList.take (k * es + fo + 0) = (parts.take k).flatten ++ pre := by
            rw [hcurl, Nat.add_zero, ← hoff]
            rw [show (parts.take k).flatten ++ (pre ++ old ++ post) ++ ((parts.drop (k + 1)).flatten ++ tl) = ((parts.take k).flatten ++ pre) ++ (old ++ post ++ ((parts.drop (k + 1)).flatten ++ tl)) by simp]
            exact List.take_left
          have hdrop : cur.toList.drop (k * es + fo + 0 + cs.length) = post ++ ((parts.drop (k + 1)).flatten ++ tl) := by
            rw [hcurl, Nat.add_zero, ← e3, ← hoff]
            rw [show (parts.take k).flatten ++ (pre ++ old ++ post) ++ ((parts.drop (k + 1)).flatten ++ tl) = (((parts.take k).flatten ++ pre) ++ old) ++ (post ++ ((parts.drop (k + 1)).flatten ++ tl)) by simp]
            rw [← List.length_append]
            exact List.drop_left
          rw [htake, hdrop] at hst
          have hw := hI.write (b' := { b with l := setL b.l k x' }) (by simp [setL_eq]) hb hg rfl rfl rfl h3 (cur' := ((parts.take k).flatten ++ pre ++ cs ++ (post ++ ((parts.drop (k + 1)).flatten ++ tl))).toArray)
            (by simp only [List.size_toArray, List.length_append] at hoff hsize ⊢; omega)
            (fun o ho => by
              have h11 := h2.pe o ho
              have h12 : b.pe * b.es ≤ k * es := by rw [hes]; exact Nat.mul_le_mul_right _ hpe
              have e4 : cur[o]? = cur.toList[o]? := by simp
              rw [e4, hcurl]
              have e5 : ((parts.take k).flatten ++ pre ++ cs ++ (post ++ ((parts.drop (k + 1)).flatten ++ tl))).toArray[o]? = ((parts.take k).flatten ++ pre ++ cs ++ (post ++ ((parts.drop (k + 1)).flatten ++ tl)))[o]? := by simp
              rw [e5]
              simp only [List.append_assoc]
              rw [List.getElem?_append_left (by omega), List.getElem?_append_left (by omega)])
            (parts := parts.set k (pre ++ cs ++ post)) (by simp [setL_eq, h4])
            (fun p hp => by
              rcases List.mem_or_eq_of_mem_set hp with hp | rfl
              · exact h5 p hp
              · have := h5 z (List.mem_of_getElem? hz)
                rw [e1] at this
                simp only [List.length_append] at this ⊢
                show _ = b.es
                omega)
            (fun j y z' hy hz' => by
              have hy : (setL b.l k x')[j]? = some y := hy
              rw [setL_eq] at hy
              rcases getElem?_set' hy with ⟨rfl, rfl⟩ | ⟨hne, hy⟩
              · rcases getElem?_set' hz' with ⟨_, rfl⟩ | ⟨hne, _⟩
                · exact h8
                · exact absurd rfl hne
              · rcases getElem?_set' hz' with ⟨rfl, _⟩ | ⟨_, hz'⟩
                · exact absurd rfl hne
                · exact h6 j y z' hy hz')
            ⟨tl, by rw [flatten_set hz]; simp⟩
          refine ⟨.upd c (setL b.l k x'), _, h, ?_, ?_, hw.2, ?_⟩
          · have hs2 := run_sizeOf_of (TD.fits_size (hT.fits hd)) w
            simp only [Instr.storeAt, Instr.sureAddr, Sem.run_bind, Sem.run_pure, Result.andThen_ok, storeVar, hs2, valM_size hcs, hcl]
            simp only [ne_eq, not_true_eq_false, if_false, valM_cells hcs]
            exact hst
          · have e6 : Dl.appF cnt (.upd c (setL b.l k x')) m = fput m c { b with l := setL b.l k x' } := by
              show (match m c with | some b => _ | none => m) = _
              rw [hb]
            rw [e6]
            exact hw.1
          · exact ⟨rfl, rfl, rfl, by simp, fun b' hb' hne => setRow_other _ _ _ _ fun e => hne ⟨c, by rw [e]; exact hg⟩⟩
    · exact h.elim
  · exact h.elim
theorem oStore_ok (hT : TabOK Pg T) {t : TypeId} {p q : MV} (h : (oStore T m t p q).runP K) (hp : RepV w P adr p u) (hq : RepV w P adr q v) (hI : InvM w P adr m) (hn : adr cnt = none) :
    ∃ δ w', K (.undef, δ) ∧ (Instr.storeAt t u v).run Pg w = .ok () w' ∧ Post1 w P adr m cnt .undef δ undef w' := by
  obtain ⟨δ, w', h1, h2, h3, h4, h5⟩ := oStore_ok0 hT h hp hq hI cnt
  exact ⟨δ, w', h1, h2, P, adr, .undef, h3, h4, fun _ _ => rfl, fun g hg => (by rw [hn] at hg; cases hg), h5, fun _ _ h => .inl h⟩
theorem oFieldAddr_ok (hT : TabOK Pg T) {t : TypeId} {p : MV} {f : Nat} (h : (oFieldAddr T t p f).runP K) (hp : RepV w P adr p u) :
    ∃ r v, K (r, .none) ∧ (Instr.fieldAt t u f).run Pg w = .ok v w ∧ RepV w P adr r v := by
  unfold oFieldAddr at h
  split at h
  · rename_i fs sz hd
    have hf := hT.fits hd
    split at h
    · rename_i o ft hnth
      obtain ⟨fields, hu, h3, h4, _⟩ := TD.fits_struct hf
      obtain ⟨fd, hfd, ho⟩ : ∃ fd : Field, fields.toList[f]? = some fd ∧ fd.offset = o := by
        rw [nth_eq, ← h3, List.getElem?_map, Option.map_eq_some_iff] at hnth
        obtain ⟨fd, h5, h6⟩ := hnth
        exact ⟨fd, h5, congrArg Prod.fst h6⟩
      have hfd' : fields[f]? = some fd := by simpa using hfd
      have hpos : ∃ n, sizeB Pg fd.type n = true ∧ 0 < n := by
        have := List.all_eq_true.1 h4 fd (List.mem_of_getElem? hfd)
        unfold sizePos at this
        split at this
        · rename_i i hi
          exact ⟨i.size, by simp [sizeB, hi], by simpa using this⟩
        · cases this
      obtain ⟨n, hn, hn0⟩ := hpos
      have key : ∀ (w : World) (b off : Nat), (Instr.fieldAt t (.pointer (some ⟨b, off, none⟩)) f).run Pg w = .ok (.pointer (some ⟨b, off + o, none⟩)) w := by
        intro w b off
        have hs := run_sizeOf_of hn w
        have hn1 : n ≠ 0 := by omega
        simp only [Instr.fieldAt, Instr.sureAddr, fieldPlace, Sem.run_bind, run_underlying hu, Result.andThen_ok, hfd', Sem.run_pure, hs, hn1, if_false, ho, Addr.add_mid]
      split at h
      · obtain ⟨g, hg, rfl⟩ := hp.ptr_
        refine ⟨_, _, h, key _ _ _, ?_⟩
        rw [Nat.add_assoc]
        exact .val [_] (.ptr g hg)
      · obtain ⟨b, o', vs, rfl, hc, hv⟩ := hp.ep_
        refine ⟨_, _, h, key _ _ _, ?_⟩
        rw [Nat.add_assoc]
        exact .val [_] (.ep b o' vs hc hv)
      · rw [hp.gp_]
        exact ⟨_, _, h, key _ _ _, .val [_] .gp⟩
      · exact h.elim
    · exact h.elim
  · exact h.elim
theorem idx_out {n : Nat} {j : Int} {k : Nat} (h : idx n j = some k) : j = (k : Int) ∧ k < n := by
  unfold idx at h
  split at h
  · injection h with h; omega
  · cases h
theorem idxL_out {l : List MV} {n : Nat} {j : Int} {x : MV} (h : idxL l n j = some x) : ∃ k : Nat, j = (k : Int) ∧ k < n ∧ l[k]? = some x := by
  unfold idxL at h
  split at h
  · exact ⟨j.toNat, by omega, by omega, h⟩
  · cases h
theorem oIndexAddr_ok (hT : TabOK Pg T) {t : TypeId} {p j : MV} (h : (oIndexAddr T t p j).runP K) (hp : RepV w P adr p u) (hj : RepV w P adr j v) :
    ∃ r y, K (r, .none) ∧ (Instr.indexAt t u v).run Pg w = .ok y w ∧ RepV w P adr r y := by
  unfold oIndexAddr at h
  split at h
  · rename_i e es hd
    obtain ⟨hu, hs⟩ := TD.fits_slice (hT.fits hd)
    have key : ∀ (A : Option Addr) (b o len cap k : Nat) (k0 : IntKind), A = some ⟨b, o, none⟩ → k < len → (Instr.indexAt t (.slice A len cap) (.int k0 (k : Int))).run Pg w = .ok (.pointer (some ⟨b, o + k * es, none⟩)) w := by
      intro A b o len cap k k0 hA hk
      subst hA
      have hi : (0 : Int) ≤ (k : Int) ∧ (k : Int) < (len : Int) := ⟨by omega, by omega⟩
      simp only [Instr.indexAt, asIntOf, Sem.run_bind, Sem.run_pure, Result.andThen_ok, run_underlying hu, run_sizeOf_of hs, hi, and_self, if_true, Int.toNat_natCast, Addr.add_mid]
    split at h
    · obtain ⟨x, hx, h⟩ := h
      replace h : Ask.runP (bif Nat.beq x.size es then pureA (.ep x 0 []) else .bad) K := h
      cases hes : Nat.beq x.size es with
      | false => rw [hes] at h; exact h.elim
      | true =>
        rw [hes] at h
        have hes := Nat.eq_of_beq_eq_true hes
        rw [hj.int_]
        obtain ⟨k, rfl, hk, hx⟩ := idxL_out hx
        obtain ⟨A, cap, es', parts, rfl, h1, h2, h3, h4, _, h5, h6⟩ := hp.sl_
        obtain ⟨b, o, hA, hc⟩ := h5 (by omega)
        obtain ⟨q, hq⟩ := get_of_len (h2.trans h1.symm) hx
        have hrep := h6 k x q hx hq
        have hql := h3 q (List.mem_of_getElem? hq)
        have hee : es' = es := by rw [← hql, hrep.size, hes]
        subst hee
        refine ⟨_, _, h, key A b o _ cap k _ hA hk, ?_⟩
        refine .val [_] ?_
        have := Rep.ep (w := w) (P := P) (adr := adr) (v := x) (fo := 0) (path := []) b (o + k * es') q (fun j y hy => ?_) hrep
        · simpa using this
        · have hpre : (parts.take k).flatten.length = k * es' := by
            rw [flatten_const (es := es') fun x hx => h3 x (List.mem_of_mem_take hx), List.length_take, Nat.min_eq_left (by omega)]
          have hfl : parts.flatten[k * es' + j]? = some y := by
            rw [flatten_split hq, List.append_assoc, List.getElem?_append_right (by omega), hpre, List.getElem?_append_left (by have := (List.getElem?_eq_some_iff.1 hy).1; omega), show k * es' + j - k * es' = j by omega]
            exact hy
          have := hc _ y hfl
          rw [show o + k * es' + j = o + (k * es' + j) by omega]
          exact this
    · rename_i c es' off n k1 j1
      cases hes : Nat.beq es' es with
      | false => rw [hes] at h; exact h.elim
      | true =>
        rw [hes] at h
        have hes := Nat.eq_of_beq_eq_true hes
        subst hes
        obtain ⟨k, hk, h⟩ := h
        obtain ⟨hk1, hk2⟩ := idx_out hk
        rw [hj.int_, hk1]
        rcases hp.ms_ with ⟨_, _, h0⟩ | ⟨g, o, cap, hg, rfl, ho, _⟩
        · omega
        · have ho := ho (.inl (by omega))
          subst ho
          refine ⟨_, _, h, key _ g (off * es') _ cap k _ rfl hk2, .val [_] ?_⟩
          have := Rep.ptr (w := w) (P := P) (adr := adr) (c := c) (es := es') (k := off + k) (fo := 0) (path := []) g hg
          rw [Nat.add_mul, Nat.add_zero] at this
          exact this
    · exact h.elim
  · rename_i len e es hd
    obtain ⟨hu, hs⟩ := TD.fits_arr (hT.fits hd)
    have key : ∀ (w : World) (b o k : Nat) (k0 : IntKind), k < len → (Instr.indexAt t (.pointer (some ⟨b, o, none⟩)) (.int k0 (k : Int))).run Pg w = .ok (.pointer (some ⟨b, o + k * es, none⟩)) w := by
      intro w b o k k0 hk
      have hi : (0 : Int) ≤ (k : Int) ∧ (k : Int) < (len : Int) := ⟨by omega, by omega⟩
      simp only [Instr.indexAt, Instr.sureAddr, asIntOf, Sem.run_bind, Sem.run_pure, Result.andThen_ok, run_underlying hu, run_sizeOf_of hs, hi, and_self, if_true, Int.toNat_natCast, Addr.add_mid]
    split at h
    · obtain ⟨k, hk, h⟩ := h
      obtain ⟨hk1, hk2⟩ := idx_out hk
      rw [hj.int_, hk1]
      obtain ⟨g, hg, rfl⟩ := hp.ptr_
      refine ⟨_, _, h, key _ _ _ _ _ hk2, ?_⟩
      rw [Nat.add_assoc]
      exact .val [_] (.ptr g hg)
    · obtain ⟨k, hk, h⟩ := h
      obtain ⟨hk1, hk2⟩ := idx_out hk
      rw [hj.int_, hk1]
      obtain ⟨b, o', vs, rfl, hc, hv⟩ := hp.ep_
      refine ⟨_, _, h, key _ _ _ _ _ hk2, ?_⟩
      rw [Nat.add_assoc]
      exact .val [_] (.ep b o' vs hc hv)
    · obtain ⟨k, hk, h⟩ := h
      obtain ⟨hk1, hk2⟩ := idx_out hk
      rw [hj.int_, hk1, hp.gp_]
      exact ⟨_, _, h, key _ _ _ _ _ hk2, .val [_] .gp⟩
    · exact h.elim
  · exact h.elim
end
end Go.Proofs.YtmeeeigfjlbnkaaGreat
namespace Go.Proofs.YtmeeeigfjlbnkaaGreat
open Go.RowKit
section
variable {Pg : Program} {T : Tab} {w w' : World} {P P' : Prot} {adr adr' : Adr} {m : FM} {cnt : Nat} {K : MV × Dl → Prop} {u v x y : Value} {r : MV}
theorem part_run (hT : TabOK Pg T) {t : TypeId} {d : TD} (hd : Tab.find T t = some d) {pre cs post : List Value} (h : Rep w P adr r cs) (hf : fits d r = true) (w0 : World) {o : Nat} (ho : pre.length = o) :
    (part t ⟨pre ++ cs ++ post⟩ o).run Pg w0 = .ok (valM r cs) w0 := by
  obtain ⟨hs, ha, _⟩ := fits_out hf
  have hl : cs.length = d.size := by rw [h.size, hs]
  have hsz := run_sizeOf_of (TD.fits_size (hT.fits hd)) w0
  subst ho
  cases hg : d.agg with
  | true =>
    rw [valM_agg (by rw [ha, hg])]
    simp only [part, Sem.run_bind, TD.fits_agg (hT.fits hd), hg, Result.andThen_ok, if_true, hsz, Sem.run_pure]
    have : (⟨pre ++ cs ++ post⟩ : Array Value).extract pre.length (pre.length + d.size) = ⟨cs⟩ := by
      apply Array.toList_inj.1
      simp only [Array.toList_extract, List.extract]
      rw [List.append_assoc, List.drop_left, show pre.length + d.size - pre.length = d.size by omega, ← hl, List.take_left]
    rw [this]
  | false =>
    have hra : r.isAgg = false := by rw [ha, hg]
    obtain ⟨v, rfl⟩ := h.scalar hra
    rw [valM_one hra]
    simp only [part, Sem.run_bind, TD.fits_agg (hT.fits hd), hg, Result.andThen_ok, Bool.false_eq_true, if_false]
    have : (⟨pre ++ [v] ++ post⟩ : Array Value)[pre.length]? = some v := by simp
    rw [this]; rfl
theorem oIndex_ok (hT : TabOK Pg T) {t : TypeId} {p j : MV} (h : (oIndex T t p j).runP K) (hp : RepV w P adr p u) (hj : RepV w P adr j v) :
    ∃ r y, K (r, .none) ∧ (Instr.index t u v).run Pg w = .ok y w ∧ RepV w P adr r y := by
  unfold oIndex at h
  split at h
  · rename_i s k0 j hd
    obtain ⟨c, hc, h⟩ := h
    have hu := TD.fits_str (hT.fits hd)
    rw [hp.str_, hj.int_]
    refine ⟨_, .int .u8 c.toNat, h, ?_, .val [_] .int⟩
    unfold idxS at hc
    split at hc
    · rename_i h0
      have hb : (⟨s.toArray⟩ : ByteArray)[j.toNat]? = some c := by
        rw [← hc]
        have hlt := (List.getElem?_eq_some_iff.1 hc).1
        have : j.toNat < (⟨s.toArray⟩ : ByteArray).size := by simpa [ByteArray.size] using hlt
        rw [getElem?_pos (⟨s.toArray⟩ : ByteArray) j.toNat this, List.getElem?_eq_getElem hlt]
        rfl
      simp [Instr.index, asIntOf, run_underlying hu, h0, hb]
    · cases hc
  · rename_i n e es n' es' l k0 j hd
    split at h
    · rename_i d hde
      cases hb : (Nat.beq n n' && Nat.beq es es') with
      | false => rw [hb] at h; exact h.elim
      | true =>
        rw [hb] at h
        rw [Bool.and_eq_true] at hb
        have e1 := Nat.eq_of_beq_eq_true hb.1
        have e2 := Nat.eq_of_beq_eq_true hb.2
        subst e1; subst e2
        obtain ⟨x, hx, h⟩ := h
        replace h : Ask.runP (bif fits d x then pureA x else .bad) K := h
        cases hf : fits d x with
        | false => rw [hf] at h; exact h.elim
        | true =>
          rw [hf] at h
          obtain ⟨k, rfl, hk, hx⟩ := idxL_out hx
          rw [hj.int_]
          obtain ⟨cs, hcs, rfl⟩ := hp.agg_ rfl
          cases hcs with
          | arr parts h1 h2 h3 h4 =>
            obtain ⟨hu, hs⟩ := TD.fits_arr (hT.fits hd)
            obtain ⟨q, hq⟩ := get_of_len (h2.trans h1.symm) hx
            have hrep := (h4 k x q hx hq).ofNone (adr := adr)
            have hpre : (parts.take k).flatten.length = k * es := by
              rw [flatten_const (es := es) fun x hx => h3 x (List.mem_of_mem_take hx), List.length_take, Nat.min_eq_left (by omega)]
            refine ⟨x, valM x q, h, ?_, .val q hrep⟩
            have hi : (0 : Int) ≤ (k : Int) ∧ (k : Int) < (n : Int) := ⟨by omega, by omega⟩
            have hpr := part_run hT hde (pre := (parts.take k).flatten) (post := (parts.drop (k + 1)).flatten) hrep hf w hpre
            rw [← flatten_split hq] at hpr
            simp only [Instr.index, asIntOf, Sem.run_bind, Sem.run_pure, Result.andThen_ok, run_underlying hu, hi, and_self, if_true, run_sizeOf_of hs, Int.toNat_natCast]
            exact hpr
    · exact h.elim
  · exact h.elim
theorem oField_ok (hT : TabOK Pg T) {t : TypeId} {p : MV} {f : Nat} (h : (oField T t p f).runP K) (hp : RepV w P adr p u) :
    ∃ r y, K (r, .none) ∧ (Instr.field t u f).run Pg w = .ok y w ∧ RepV w P adr r y := by
  unfold oField at h
  split at h
  · rename_i fs sz l hd
    split at h
    · rename_i o ft x hn hx
      split at h
      · rename_i d hde
        cases hb : (fits d x && Nat.beq (sizesTo l f) o) with
        | false => rw [hb] at h; exact h.elim
        | true =>
          rw [hb] at h
          rw [Bool.and_eq_true] at hb
          have ho := Nat.eq_of_beq_eq_true hb.2
          obtain ⟨fields, hu, hfs, _, _⟩ := TD.fits_struct (hT.fits hd)
          rw [nth_eq] at hn
          rw [← hfs] at hn
          simp only [List.getElem?_map, Option.map_eq_some_iff] at hn
          obtain ⟨fl, hfl, he⟩ := hn
          injection he with he1 he2
          subst he2
          have hfl' : fields[f]? = some fl := by simpa using hfl
          rw [nthM_eq] at hx
          obtain ⟨cs, hcs, rfl⟩ := hp.agg_ rfl
          cases hcs with
          | st parts h2 h4 =>
            obtain ⟨q, hq⟩ := get_of_len h2 hx
            have hrep := h4 f x q hx hq
            have hpre : (parts.take f).flatten.length = fl.offset := by
              rw [sizesTo_eq h2 fun j m p h1 h2 => (h4 j m p h1 h2).size, ho, ← he1]
            refine ⟨x, valM x q, h, ?_, .val q hrep⟩
            have hpr := part_run hT hde (pre := (parts.take f).flatten) (post := (parts.drop (f + 1)).flatten) hrep hb.1 w hpre
            rw [← flatten_split hq] at hpr
            simp only [Instr.field, Sem.run_bind, Result.andThen_ok, run_underlying hu, hfl', asAgg, Sem.run_pure]
            exact hpr
      · exact h.elim
    · exact h.elim
  · exact h.elim
theorem bounds_out {n : Nat} {lo hi : Option MV} {l h : Nat} (hb : bounds n lo hi = some (l, h)) : l ≤ h ∧ h ≤ n ∧ (hi = none ∧ h = n ∨ ∃ k, hi = some (.int k h)) ∧ (lo = none ∧ l = 0 ∨ ∃ k, lo = some (.int k l)) := by
  have h1 : ∀ {hi : Option MV} {h : Nat}, (match hi with | none => some n | some (.int _ h) => if 0 ≤ h ∧ h ≤ (n : Int) then some h.toNat else none | _ => none) = some h → h ≤ n ∧ (hi = none ∧ h = n ∨ ∃ k, hi = some (.int k h)) := by
    intro hi h he
    split at he
    · injection he with he; exact ⟨by omega, .inl ⟨rfl, he.symm⟩⟩
    · rename_i k j
      split at he
      · injection he with he
        refine ⟨by omega, .inr ⟨k, ?_⟩⟩
        rw [← he]; congr; omega
      · cases he
    · cases he
  have h2 : ∀ {lo : Option MV} {l h : Nat}, (match lo with | none => some 0 | some (.int _ l) => if 0 ≤ l ∧ l ≤ (h : Int) then some l.toNat else none | _ => none) = some l → l ≤ h ∧ (lo = none ∧ l = 0 ∨ ∃ k, lo = some (.int k l)) := by
    intro lo l h he
    split at he
    · injection he with he; exact ⟨by omega, .inl ⟨rfl, he.symm⟩⟩
    · rename_i k j
      split at he
      · injection he with he
        refine ⟨by omega, .inr ⟨k, ?_⟩⟩
        rw [← he]; congr; omega
      · cases he
    · cases he
  unfold bounds at hb
  split at hb
  · cases hb
  · rename_i h' he
    split at hb
    · cases hb
    · rename_i l' le
      injection hb with hb
      injection hb with e1 e2
      subst e1; subst e2
      obtain ⟨a1, a2⟩ := h1 he
      obtain ⟨b1, b2⟩ := h2 le
      exact ⟨b1, a1, a2, b2⟩
def RepO (w : World) (P : Prot) (adr : Adr) : Option MV → Option Value → Prop
  | none, none => True
  | some m, some v => RepV w P adr m v
  | _, _ => False
theorem RepO.bnd {lo : Option MV} {vo : Option Value} {l d : Nat} (h : RepO w P adr lo vo) (hl : lo = none ∧ l = d ∨ ∃ k, lo = some (.int k l)) : vo = none ∧ l = d ∨ ∃ j, vo = some (.int j (l : Int)) := by
  rcases hl with ⟨rfl, e⟩ | ⟨k, rfl⟩
  · cases vo with
    | none => exact .inl ⟨rfl, e⟩
    | some v => exact h.elim
  · cases vo with
    | none => exact h.elim
    | some v => have h : RepV w P adr (.int k l) v := h; exact .inr ⟨k, by rw [h.int_]⟩
theorem flatten_take {es : Nat} {parts : List (List Value)} (hes : ∀ p ∈ parts, p.length = es) (a n : Nat) {j : Nat} {x : Value} (h : ((parts.drop a).take n).flatten[j]? = some x) : a ≤ parts.length → parts.flatten[a * es + j]? = some x := by
  intro ha
  have e1 : parts = parts.take a ++ ((parts.drop a).take n ++ (parts.drop a).drop n) := by rw [List.take_append_drop, List.take_append_drop]
  have hpre : (parts.take a).flatten.length = a * es := by
    rw [flatten_const (es := es) fun x hx => hes x (List.mem_of_mem_take hx), List.length_take, Nat.min_eq_left ha]
  rw [e1, List.flatten_append, List.flatten_append, List.getElem?_append_right (by omega), hpre, show a * es + j - a * es = j by omega, List.getElem?_append_left (List.getElem?_eq_some_iff.1 h).1]
  exact h
theorem cutL_get {l : List MV} {a b j : Nat} {x : MV} (h : (cutL l a b)[j]? = some x) : l[a + j]? = some x ∧ j < b - a := by
  unfold cutL at h
  rw [List.getElem?_take] at h
  split at h
  · rw [List.getElem?_drop] at h; exact ⟨h, by assumption⟩
  · cases h
theorem sl_cut {n : Nat} {l : List MV} (h : RepV w P adr (.sl n l) u) {a b es : Nat} (hab : a ≤ b) (hb : b ≤ n) (hh : headSize l es = true) :
    ∃ A cap, u = .slice A n cap ∧ n ≤ cap ∧ RepV w P adr (.sl (b - a) (cutL l a b)) (.slice (if cap = a then A else A.map (·.add (a * es))) (b - a) (cap - a)) := by
  obtain ⟨A, cap, es', parts, rfl, h1, h2, h3, h4, h7, h5, h6⟩ := h.sl_
  refine ⟨A, cap, rfl, h7, ?_⟩
  have hlen : (cutL l a b).length = b - a := by unfold cutL; rw [List.length_take, List.length_drop]; omega
  have hes : n ≠ 0 → es' = es := by
    intro h0
    cases l with
    | nil => simp at h1; omega
    | cons x l =>
      have hx := Nat.eq_of_beq_eq_true (show Nat.beq x.size es = true from hh)
      obtain ⟨q, hq⟩ := get_of_len (l := x :: l) (parts := parts) (by rw [h2, h1]) (i := 0) rfl
      have := (h6 0 x q rfl hq).size
      rw [← hx, ← this, h3 q (List.mem_of_getElem? hq)]
  refine .val [_] (.sl _ _ es' ((parts.drop a).take (b - a)) hlen (by rw [List.length_take, List.length_drop]; omega) (fun p hp => h3 p (List.mem_of_mem_drop (List.mem_of_mem_take hp))) ?_ (by omega) ?_ ?_)
  · intro hA
    have : A = none := by
      split at hA
      · exact hA
      · cases A with
        | none => rfl
        | some x => cases hA
    have := h4 this
    omega
  · intro h0
    obtain ⟨b', o, hA, hc⟩ := h5 (by omega)
    subst hA
    have hee := hes (by omega)
    subst hee
    by_cases hcap : cap = a
    · omega
    · rw [if_neg hcap]
      refine ⟨b', o + a * es', by simp [Addr.add_mid], fun j x hx => ?_⟩
      have := hc _ x (flatten_take h3 a (b - a) hx (by omega))
      rw [show o + a * es' + j = o + (a * es' + j) by omega]
      exact this
  · intro j x p hx hp
    obtain ⟨hx, hj⟩ := cutL_get hx
    rw [List.getElem?_take, if_pos hj, List.getElem?_drop] at hp
    exact h6 _ x p hx hp
theorem oSlice_ok (hT : TabOK Pg T) {t : TypeId} {p : MV} {lo hi : Option MV} {vl vh : Option Value} (h : (oSlice T t p lo hi).runP K) (hp : RepV w P adr p u) (hl : RepO w P adr lo vl) (hh : RepO w P adr hi vh) :
    ∃ r y, K (r, .none) ∧ (Instr.sliceAt t u vl vh none).run Pg w = .ok y w ∧ RepV w P adr r y := by
  unfold oSlice at h
  split at h
  · rename_i s hd
    have hu := TD.fits_str (hT.fits hd)
    obtain ⟨⟨l, e⟩, hb, x, hx, h⟩ := h
    injection hx with hx
    subst hx
    obtain ⟨h1, h2, h3, h4⟩ := bounds_out hb
    have hsz : (⟨s.toArray⟩ : ByteArray).size = s.length := by simp [ByteArray.size]
    rw [hp.str_]
    refine ⟨_, .string ⟨((s.drop l).take (e - l)).toArray⟩, h, ?_, .val [_] .str⟩
    rw [run_sliceAt_string _ _ _ _ _ _ hu]
    have hbd := run_sliceBounds (P := Pg) (b := false) (RepO.bnd hl h4) (RepO.bnd hh (d := (⟨s.toArray⟩ : ByteArray).size) (by rw [hsz]; exact h3)) h1 (show e ≤ (⟨s.toArray⟩ : ByteArray).size by omega) w
    simp only [Instr.slice, Sem.run_bind, run_underlying hu, Result.andThen_ok, Option.isSome_none, Bool.false_eq_true, if_false, hbd, Sem.run_pure]
    have hx : (⟨s.toArray⟩ : ByteArray).extract l e = ⟨((s.drop l).take (e - l)).toArray⟩ := by
      apply ByteArray.ext
      simp [ByteArray.data_extract, List.extract]
    rw [hx]
  · rename_i e0 es n l hd
    obtain ⟨hu, hs⟩ := TD.fits_slice (hT.fits hd)
    obtain ⟨⟨a, b⟩, hb, hhd, x, hx, k, hk, h⟩ := h
    injection hx with hx
    injection hk with hk
    subst hx; subst hk
    obtain ⟨h1, h2, h3, h4⟩ := bounds_out hb
    obtain ⟨A, cap, rfl, h5, h6⟩ := sl_cut hp h1 h2 hhd
    refine ⟨_, _, h, ?_, h6⟩
    have hu' : Pg.underlying t = some (.slice (Pg.elem t)) := by rw [hu]; simp [Program.elem, hu]
    rw [run_sliceAt_slice _ _ _ _ _ _ hu']
    simp [Instr.slice, run_underlying hu, run_sliceBounds (RepO.bnd hl h4) (RepO.bnd hh h3) h1 (show b ≤ cap by omega), run_sizeOf_of hs]
  · rename_i e0 es c es' off n hd
    obtain ⟨hu, hs⟩ := TD.fits_slice (hT.fits hd)
    cases hes : Nat.beq es es' with
    | false => rw [hes] at h; exact h.elim
    | true =>
      rw [hes] at h
      have hes := Nat.eq_of_beq_eq_true hes
      subst hes
      obtain ⟨⟨a, b⟩, hb, k, hk, h⟩ := h
      injection hk with hk
      subst hk
      obtain ⟨h1, h2, h3, h4⟩ := bounds_out hb
      have hu' : Pg.underlying t = some (.slice (Pg.elem t)) := by rw [hu]; simp [Program.elem, hu]
      rcases hp.ms_ with ⟨rfl, rfl, rfl⟩ | ⟨g, o, cap, hg, rfl, ho, h5, h6, cur, ty, h7, h8⟩
      · obtain rfl : b = 0 := by omega
        obtain rfl : a = 0 := by omega
        refine ⟨_, .slice none 0 0, h, ?_, .val [_] .ms0⟩
        rw [run_sliceAt_slice _ _ _ _ _ _ hu']
        simp [Instr.slice, run_underlying hu, run_sliceBounds (RepO.bnd hl h4) (RepO.bnd hh h3) h1 (show 0 ≤ 0 by omega), run_sizeOf_of hs]
      · refine ⟨_, .slice (if cap = a then some ⟨g, o, none⟩ else some ⟨g, o + a * es, none⟩) (b - a) (cap - a), h, ?_, ?_⟩
        · rw [run_sliceAt_slice _ _ _ _ _ _ hu']
          simp [Instr.slice, run_underlying hu, run_sliceBounds (RepO.bnd hl h4) (RepO.bnd hh h3) h1 (show b ≤ cap by omega), run_sizeOf_of hs, Addr.add_mid]
        · by_cases hca : cap = a
          · rw [if_pos hca]
            refine .val [_] (.ms g o (cap - a) hg (fun hor => ?_) (by omega) (by omega) ⟨cur, ty, h7, fun h0 => ?_⟩)
            · have : off = 0 ∧ a = 0 := by omega
              rw [ho (.inr this.1), this.2]; rfl
            · have : off = 0 ∧ a = 0 := by omega
              rw [h8 this.1, this.2]; rfl
          · rw [if_neg hca]
            refine .val [_] (.ms g (o + a * es) (cap - a) hg (fun hor => ?_) (by omega) (by omega) ⟨cur, ty, h7, fun h0 => ?_⟩)
            · rw [ho (by omega), Nat.add_mul]
            · have : off = 0 ∧ a = 0 := by omega
              rw [h8 this.1, this.2]; rfl
  · rename_i e0 es hd
    obtain ⟨hu, hs⟩ := TD.fits_slice (hT.fits hd)
    obtain ⟨⟨a, b⟩, hb, h⟩ := h
    obtain ⟨h1, h2, h3, h4⟩ := bounds_out hb
    obtain rfl : b = 0 := by omega
    obtain rfl : a = 0 := by omega
    rw [hp.nils_]
    have hu' : Pg.underlying t = some (.slice (Pg.elem t)) := by rw [hu]; simp [Program.elem, hu]
    refine ⟨_, .slice none 0 0, h, ?_, .val [_] .nils⟩
    rw [run_sliceAt_slice _ _ _ _ _ _ hu']
    simp [Instr.slice, run_underlying hu, run_sliceBounds (RepO.bnd hl h4) (RepO.bnd hh h3) h1 (show 0 ≤ 0 by omega), run_sizeOf_of hs]
  · exact h.elim
theorem oUn_ok {op : UnOp} {p : MV} (h : (oUn op p).runP K) (hp : RepV w P adr p u) : ∃ r y, K (r, .none) ∧ (Op.unary op u).run Pg w = .ok y w ∧ RepV w P adr r y := by
  unfold oUn at h
  split at h
  · rw [hp.bool_]; exact ⟨_, _, h, rfl, .val [_] .bool⟩
  · obtain ⟨r, hr, h⟩ := h
    injection hr with hr
    subst hr
    rw [hp.int_]; exact ⟨_, _, h, rfl, .val [_] .int⟩
  · obtain ⟨r, hr, h⟩ := h
    injection hr with hr
    subst hr
    rw [hp.int_]; exact ⟨_, _, h, rfl, .val [_] .int⟩
  · exact h.elim
theorem oLen_ok (hT : TabOK Pg T) {ats : Array TypeId} {ty : TypeId} {p : MV} (h : (oLen T (ats[0]?) p).runP K) (hp : RepV w P adr p u) : ∃ r y, K (r, .none) ∧ (Builtin.len_ ats ty #[u]).run Pg w = .ok y w ∧ RepV w P adr r y := by
  unfold oLen at h
  cases ht : ats[0]? with
  | none => rw [ht] at h; exact h.elim
  | some t =>
    rw [ht] at h
    split at h
    · rename_i s hd
      have hu := TD.fits_str (hT.fits (t := t) hd)
      obtain ⟨n, hn, h⟩ := h
      injection hn with hn
      subst hn
      rw [hp.str_]
      refine ⟨_, .int .i64 s.length, h, ?_, .val [_] .int⟩
      have hsz : (⟨s.toArray⟩ : ByteArray).size = s.length := by simp [ByteArray.size]
      simp [Builtin.len_, ht, run_underlying hu, goInt, hsz]
    · rename_i e es n l hd
      obtain ⟨hu, hs⟩ := TD.fits_slice (hT.fits (t := t) hd)
      obtain ⟨A, cap, es', parts, rfl, _⟩ := hp.sl_
      refine ⟨_, .int .i64 n, h, ?_, .val [_] .int⟩
      simp [Builtin.len_, ht, run_underlying hu, goInt]
    · rename_i e es hd
      obtain ⟨hu, hs⟩ := TD.fits_slice (hT.fits (t := t) hd)
      rw [hp.nils_]
      refine ⟨_, .int .i64 0, h, ?_, .val [_] .int⟩
      simp [Builtin.len_, ht, run_underlying hu, goInt]
    · rename_i e es c es' off n hd
      obtain ⟨hu, hs⟩ := TD.fits_slice (hT.fits (t := t) hd)
      rcases hp.ms_ with ⟨rfl, rfl, rfl⟩ | ⟨g, o, cap, hg, rfl, _⟩
      · refine ⟨_, .int .i64 0, h, ?_, .val [_] .int⟩
        simp [Builtin.len_, ht, run_underlying hu, goInt]
      · refine ⟨_, .int .i64 n, h, ?_, .val [_] .int⟩
        simp [Builtin.len_, ht, run_underlying hu, goInt]
    · rename_i n e es hd
      obtain ⟨hu, hs⟩ := TD.fits_arr (hT.fits (t := t) hd)
      refine ⟨_, .int .i64 n, h, ?_, .val [_] .int⟩
      simp [Builtin.len_, ht, run_underlying hu, goInt]
    · exact h.elim
end
end Go.Proofs.YtmeeeigfjlbnkaaGreat
namespace Go.Proofs.YtmeeeigfjlbnkaaGreat
open Go.RowKit
section
variable {Pg : Program} {T : Tab} {w w' : World} {P P' : Prot} {adr adr' : Adr} {m : FM} {cnt : Nat} {K : MV × Dl → Prop} {u v x y : Value} {r : MV}
theorem repM_eq (n : Nat) (z : MV) : repM n z = List.replicate n z := by
  induction n with
  | zero => rfl
  | succ n ih => simp [repM, ih, List.replicate_succ]
theorem zero_fold {f : Nat} (ih : ∀ t z, zeroM T f t = some z → ∃ cs : List SV, (∀ acc, zeroAcc T f t acc = some (cs ++ acc)) ∧ (∀ w P, Rep w P noAdr z (cs.map SV.den)) ∧ z.isVal = true) :
    ∀ (fs : List (Nat × TypeId)) (l : List MV), fs.foldr (fun x r => match r, zeroM T f x.2 with | some r, some z => some (z :: r) | _, _ => none) (some []) = some l →
      ∃ css : List (List SV), css.length = l.length ∧ (∀ acc, fs.foldr (fun x r => match r with | some a => zeroAcc T f x.2 a | none => none) (some acc) = some (css.flatten ++ acc)) ∧
        ∀ w P (j : Nat) m cs, l[j]? = some m → css[j]? = some cs → Rep w P noAdr m (cs.map SV.den)
  | [], l, h => by simp at h; subst h; exact ⟨[], rfl, fun acc => rfl, fun w P j m cs h => by simp at h⟩
  | x :: fs, l, h => by
    simp only [List.foldr_cons] at h
    split at h
    · rename_i r z hr hz
      injection h with h
      subst h
      obtain ⟨css, h1, h2, h3⟩ := zero_fold ih fs r hr
      obtain ⟨cs, h4, h5, _⟩ := ih x.2 z hz
      refine ⟨cs :: css, by simp [h1], fun acc => ?_, fun w P j m c hj hc => ?_⟩
      · simp only [List.foldr_cons, h2, h4, List.flatten_cons, List.append_assoc]
      · cases j with
        | zero => simp at hj hc; subst hj; subst hc; exact h5 w P
        | succ j => exact h3 w P j m c (by simpa using hj) (by simpa using hc)
    · cases h
theorem map_flatten' (css : List (List SV)) : css.flatten.map SV.den = (css.map (List.map SV.den)).flatten := by
  induction css with
  | nil => rfl
  | cons a l ih => simp [ih]
theorem zeroM_acc : ∀ (f t : Nat) (z : MV), zeroM T f t = some z → ∃ cs : List SV, (∀ acc, zeroAcc T f t acc = some (cs ++ acc)) ∧ (∀ w P, Rep w P noAdr z (cs.map SV.den)) ∧ z.isVal = true
  | 0, t, z, h => by simp [zeroM] at h
  | f + 1, t, z, h => by
    simp only [zeroM] at h
    have one : ∀ (c : SV) (z' : MV), z' = z → z'.isVal = true → (∀ acc, zeroAcc T (f + 1) t acc = some (c :: acc)) → (∀ w P, Rep w P noAdr z' [c.den]) → ∃ cs : List SV, (∀ acc, zeroAcc T (f + 1) t acc = some (cs ++ acc)) ∧ (∀ w P, Rep w P noAdr z (cs.map SV.den)) ∧ z.isVal = true := by
      intro c z' e h0 h1 h2
      subst e
      exact ⟨[c], h1, h2, h0⟩
    split at h
    · rename_i k hd; injection h with h; exact one (.val (.int k 0)) _ h rfl (fun acc => by simp [zeroAcc, hd]) (fun w P => .int)
    · rename_i hd; injection h with h; exact one (.val (.bool false)) _ h rfl (fun acc => by simp [zeroAcc, hd]) (fun w P => .bool)
    · rename_i hd; injection h with h; exact one (.val (.string ⟨#[]⟩)) _ h rfl (fun acc => by simp [zeroAcc, hd]) (fun w P => .str)
    · rename_i hd; injection h with h; exact one (.val (.pointer none)) _ h rfl (fun acc => by simp [zeroAcc, hd]) (fun w P => .nilp)
    · rename_i hd; injection h with h; exact one (.val .nilIface) _ h rfl (fun acc => by simp [zeroAcc, hd]) (fun w P => .nili)
    · rename_i hd; injection h with h; exact one (.val .nilFunc) _ h rfl (fun acc => by simp [zeroAcc, hd]) (fun w P => .nilf)
    · rename_i e es hd; injection h with h; exact one (.val (.slice none 0 0)) _ h rfl (fun acc => by simp [zeroAcc, hd]) (fun w P => .nils)
    · rename_i n e es hd
      split at h
      · rename_i z0 hz0
        cases hb : (z0.idFree && Nat.beq z0.size es) with
        | false => rw [hb] at h; cases h
        | true =>
          rw [hb] at h
          injection h with h
          subst h
          rw [Bool.and_eq_true] at hb
          have hsz := Nat.eq_of_beq_eq_true hb.2
          obtain ⟨cs, h1, h2, _⟩ := zeroM_acc f e z0 hz0
          refine ⟨(List.replicate n cs).flatten, fun acc => ?_, fun w P => ?_, rfl⟩
          · have key : ∀ k, (Nat.rec (some acc) (fun _ r => match r with | some a => zeroAcc T f e a | none => none) k : Option (List SV)) = some ((List.replicate k cs).flatten ++ acc) := by
              intro k
              induction k with
              | zero => rfl
              | succ k ih =>
                show (match (Nat.rec (some acc) (fun _ r => match r with | some a => zeroAcc T f e a | none => none) k : Option (List SV)) with | some a => zeroAcc T f e a | none => none) = _
                rw [ih]
                show zeroAcc T f e _ = _
                rw [h1, List.replicate_succ, List.flatten_cons, List.append_assoc]
            simp only [zeroAcc, hd]
            exact key n
          · rw [map_flatten', List.map_replicate, repM_eq]
            refine .arr _ (by simp) (by simp) (fun p hp => ?_) fun j x p hx hp => ?_
            · rw [(List.mem_replicate.1 hp).2, (h2 w P).size, hsz]
            · rw [(List.mem_replicate.1 (List.mem_of_getElem? hx)).2, (List.mem_replicate.1 (List.mem_of_getElem? hp)).2]
              exact h2 w P
      · cases h
    · rename_i fs sz hd
      split at h
      · rename_i l hl
        injection h with h
        subst h
        obtain ⟨css, h1, h2, h3⟩ := zero_fold (fun t z h => zeroM_acc f t z h) fs l hl
        refine ⟨css.flatten, fun acc => by simp only [zeroAcc, hd]; exact h2 acc, fun w P => ?_, rfl⟩
        rw [map_flatten']
        refine .st _ (by simp [h1]) fun j x p hx hp => ?_
        rw [List.getElem?_map, Option.map_eq_some_iff] at hp
        obtain ⟨c, hc, rfl⟩ := hp
        exact h3 w P j x c hx hc
      · cases h
    · cases h
end
end Go.Proofs.YtmeeeigfjlbnkaaGreat
namespace Go.Proofs.YtmeeeigfjlbnkaaGreat
open Go.RowKit
section
variable {Pg : Program} {T : Tab} {w w' : World} {P P' : Prot} {adr adr' : Adr} {m : FM} {cnt : Nat} {K : MV × Dl → Prop} {u v x y : Value} {r : MV}
def PartsR (w : World) (P : Prot) (adr : Adr) : List (Nat × MV) → List (Nat × Value) → Prop
  | [], [] => True
  | (i, a) :: l, (j, b) :: s => i = j ∧ RepV w P adr a b ∧ PartsR w P adr l s
  | _, _ => False
theorem RepV.ofVal (h : RepV w P adr r u) (hv : r.isVal = true) : ∃ cs, Rep w P adr r cs ∧ u = valM r cs := by
  cases h with
  | val cs h => exact ⟨cs, h, rfl⟩
  | undef => cases hv
  | tup => cases hv
theorem cellsL_valM {cs : List Value} (h : Rep w P adr r cs) : cellsL (valM r cs) = cs := by rw [← cellsL_eq, valM_cells h]
theorem setN_ok {α : Type} : ∀ {l : List α} {n : Nat} (v : α), n < l.length → setN l n v = some (l.set n v)
  | [], _, _, h => by simp at h
  | _ :: _, 0, _, _ => rfl
  | x :: l, n + 1, v, h => by
    simp only [setN, setN_ok v (show n < l.length by simpa using h)]
    rfl
theorem setParts_rep {md : Bool} : ∀ (ps : List (Nat × MV)) (pv : List (Nat × Value)) (l : List MV) (segs : List (List Value)) (l' : List MV), PartsR w P adr ps pv → setParts l ps = some l' → (∀ p ∈ ps, p.2.isVal = true ∧ (md = true → p.2.idFree = true)) → segs.length = l.length →
    (∀ (j : Nat) m p, l[j]? = some m → segs[j]? = some p → Rep w P (if md then noAdr else adr) m p) →
    ∃ segs', putSegs segs pv = some segs' ∧ segs'.length = l'.length ∧ l'.length = l.length ∧ (∀ (j : Nat) m p, l'[j]? = some m → segs'[j]? = some p → Rep w P (if md then noAdr else adr) m p) ∧ segs'.map List.length = segs.map List.length ∧ partsFit (segs.map List.length) pv
  | [], [], l, segs, l', _, h, _, hl, hr => by
    simp [setParts] at h; subst h
    exact ⟨segs, rfl, hl, rfl, hr, rfl, trivial⟩
  | (i, a) :: ps, (j, b) :: pv, l, segs, l', hp, h, hv, hl, hr => by
    obtain ⟨rfl, hab, hp⟩ := hp
    simp only [setParts] at h
    split at h
    · rename_i m hm
      rw [nthM_eq] at hm
      cases hb : (Nat.beq a.size m.size && bEq a.isAgg m.isAgg) with
      | false => rw [hb] at h; cases h
      | true =>
        rw [hb] at h
        rw [Bool.and_eq_true] at hb
        have hsz := Nat.eq_of_beq_eq_true hb.1
        obtain ⟨cs, hcs, rfl⟩ := hab.ofVal (hv (i, a) (by simp)).1
        obtain ⟨q, hq⟩ := get_of_len hl hm
        have hql := (hr i m q hm hq).size
        have hlt := (List.getElem?_eq_some_iff.1 hq).1
        have hcs' : Rep w P (if md then noAdr else adr) a cs := by
          cases md with
          | false => exact hcs
          | true => exact hcs.free ((hv (i, a) (by simp)).2 rfl)
        have hlen : (segs.set i cs).map List.length = segs.map List.length := by
          apply List.ext_getElem?
          intro k
          simp only [List.getElem?_map, List.getElem?_set]
          split
          · rename_i e
            subst e
            rw [hq]
            simp [hcs.size, hsz, hql]
          · rfl
        obtain ⟨segs', h1, h2, h3, h4, h5, h6⟩ := setParts_rep (md := md) ps pv (setL l i a) (segs.set i cs) l' hp h (fun p hp => hv p (by simp [hp])) (by rw [setL_eq]; simpa using hl) (fun k y z hy hz => by
          rw [setL_eq] at hy
          rcases getElem?_set' hy with ⟨rfl, rfl⟩ | ⟨hne, hy⟩
          · rcases getElem?_set' hz with ⟨_, rfl⟩ | ⟨hne, _⟩
            · exact hcs'
            · exact absurd rfl hne
          · rcases getElem?_set' hz with ⟨rfl, _⟩ | ⟨_, hz⟩
            · exact absurd rfl hne
            · exact hr k y z hy hz)
        refine ⟨segs', ?_, h2, by rw [h3, setL_eq]; simp, h4, by rw [h5, hlen], ?_⟩
        · simp only [putSegs, cellsL_valM hcs, setN_ok cs hlt]
          exact h1
        · refine ⟨?_, by rw [hlen] at h6; exact h6⟩
          rw [nth_eq, cellsL_valM hcs, List.getElem?_map, hq]
          simp [hcs.size, hsz, hql]
    · cases h
  | [], _ :: _, _, _, _, hp, _, _, _, _ => hp.elim
  | _ :: _, [], _, _, _, hp, _, _, _, _ => hp.elim
theorem flatten_inj {α : Type} : ∀ {a b : List (List α)}, a.map List.length = b.map List.length → a.flatten = b.flatten → a = b
  | [], [], _, _ => rfl
  | x :: a, y :: b, h, hf => by
    simp only [List.map_cons, List.cons.injEq] at h
    simp only [List.flatten_cons] at hf
    obtain ⟨h1, h2⟩ := List.append_inj hf h.1
    rw [h1, flatten_inj h.2 h2]
  | [], _ :: _, h, _ => by simp at h
  | _ :: _, [], h, _ => by simp at h
theorem sizesB_eq : ∀ {l : List MV} {ns : List Nat}, sizesB l ns = true → l.map MV.size = ns
  | [], [], _ => rfl
  | m :: l, n :: ns, h => by
    have h : (Nat.beq m.size n && sizesB l ns) = true := h
    rw [Bool.and_eq_true] at h
    rw [List.map_cons, Nat.eq_of_beq_eq_true h.1, sizesB_eq h.2]
  | [], _ :: _, h => by cases h
  | _ :: _, [], h => by cases h
theorem lens_of {l : List MV} {parts : List (List Value)} {a : Adr} (hp : parts.length = l.length) (hr : ∀ (j : Nat) m p, l[j]? = some m → parts[j]? = some p → Rep w P a m p) : parts.map List.length = l.map MV.size := by
  apply List.ext_getElem?
  intro j
  simp only [List.getElem?_map]
  cases hj : l[j]? with
  | none => rw [List.getElem?_eq_none (by rw [hp]; exact List.getElem?_eq_none_iff.1 hj)]; rfl
  | some m =>
    obtain ⟨q, hq⟩ := get_of_len hp hj
    rw [hq]
    simp [(hr j m q hj hq).size]
theorem sum_flatten {α : Type} (l : List (List α)) : l.flatten.length = (l.map List.length).sum := by
  induction l with
  | nil => rfl
  | cons a l ih => simp
theorem build_core (hT : TabOK Pg T) {t : TypeId} {ps : List (Nat × MV)} {pv : List (Nat × Value)} (hp : PartsR w P adr ps pv) : ∀ (l l' : List MV) (ns : List Nat) (z : List SV) (parts : List (List Value)) (md : Bool), zeroAcc T 9 t [] = some z → cutsOf T t = some ns → sizesB l ns = true → z.map SV.den = parts.flatten → parts.length = l.length →
      (∀ (j : Nat) m p, l[j]? = some m → parts[j]? = some p → Rep w P (if md then noAdr else adr) m p) → (∀ p ∈ ps, p.2.isVal = true ∧ (md = true → p.2.idFree = true)) → setParts l ps = some l' →
      ∃ segs' : List (List Value), (Instr.build t pv.toArray).run Pg w = .ok (.agg ⟨segs'.flatten⟩) w ∧ segs'.length = l'.length ∧ l'.length = l.length ∧ (∀ (j : Nat) m p, l'[j]? = some m → segs'[j]? = some p → Rep w P (if md then noAdr else adr) m p) ∧ segs'.map List.length = ns := by
  intro l l' ns z parts md hz hns hsz hzp hpl hr hv hset
  have hlens := (lens_of hpl hr).trans (sizesB_eq hsz)
  obtain ⟨segs', h1, h2, h3, h4, h5, h6⟩ := setParts_rep ps pv l parts l' hp hset hv hpl hr
  have hcut : cutBy ns (z.map SV.den) = parts := by
    obtain ⟨c1, c2⟩ := cutBy_flat ns (z.map SV.den) (by rw [hzp, sum_flatten, hlens])
    exact flatten_inj (by rw [c2, hlens]) (by rw [c1, hzp])
  have hb : buildV (M := []) (H := []) T t pv (fun sv _ _ => sv = .val (.agg (flat segs').toArray)) := by
    unfold buildV
    rw [hz, hns]
    have hl : Nat.beq z.length ns.sum = true := by
      have : z.length = ns.sum := by rw [← List.length_map (f := SV.den), hzp, sum_flatten, hlens]
      rw [this]; exact Nat.beq_refl _
    show (match Nat.beq z.length ns.sum, putSegs (cutBy ns (z.map SV.den)) pv with | true, some segs => _ | _, _ => False)
    rw [hl, hcut, h1]
    exact ⟨by rw [← hlens]; exact h6, rfl⟩
  obtain ⟨sv, hrun, rfl⟩ := buildV_all (P := Pg) hT hb
  refine ⟨segs', ?_, h2, h3, h4, h5.trans hlens⟩
  have := hrun w ⟨fun i kb h => by simp [Mem.find] at h, fun i j ki kj h => by simp [Mem.find] at h, fun p hp => by simp at hp, fun p hp => by simp at hp⟩
  rw [this, den_val, flat_eq]
theorem oBuild_ok (hT : TabOK Pg T) {t : TypeId} {ps : List (Nat × MV)} {pv : List (Nat × Value)} (h : (oBuild T t ps).runP K) (hp : PartsR w P adr ps pv) :
    ∃ r y, K (r, .none) ∧ (Instr.build t pv.toArray).run Pg w = .ok y w ∧ RepV w P adr r y := by
  have core := build_core (w := w) (P := P) (adr := adr) hT (t := t) hp
  unfold oBuild at h
  split at h
  · rename_i l ns hz hns
    obtain ⟨cs, h1, h2, _⟩ := zeroM_acc 9 t _ hz
    have hz' := h1 []
    rw [List.append_nil] at hz'
    have hrep := h2 w P
    cases hb : (sizesB l ns && ps.all (fun p => p.2.isVal)) with
    | false => rw [hb] at h; exact h.elim
    | true =>
      rw [hb] at h
      rw [Bool.and_eq_true, List.all_eq_true] at hb
      simp only [cond_true] at h
      split at h
      · rename_i l' hl'
        generalize hcs : cs.map SV.den = vs at hrep
        cases hrep with
        | st parts hp hr =>
          obtain ⟨segs', a1, a2, a3, a4, a5⟩ := core l l' ns cs parts false hz' hns hb.1 hcs hp (fun j m p h1 h2 => (hr j m p h1 h2).ofNone) (fun p hp => ⟨hb.2 p hp, fun h => nomatch h⟩) hl'
          exact ⟨_, _, h, a1, .val (m := .st l') _ (.st segs' a2 a4)⟩
      · exact h.elim
  · rename_i n es l ns hz hns
    obtain ⟨cs, h1, h2, _⟩ := zeroM_acc 9 t _ hz
    have hz' := h1 []
    rw [List.append_nil] at hz'
    have hrep := h2 w P
    cases hb : (sizesB l ns && ps.all (fun p => p.2.isVal && p.2.idFree)) with
    | false => rw [hb] at h; exact h.elim
    | true =>
      rw [hb] at h
      rw [Bool.and_eq_true, List.all_eq_true] at hb
      simp only [cond_true] at h
      split at h
      · rename_i l' hl'
        generalize hcs : cs.map SV.den = vs at hrep
        cases hrep with
        | arr parts hln hp hes hr =>
          obtain ⟨segs', a1, a2, a3, a4, a5⟩ := core l l' ns cs parts true hz' hns hb.1 hcs (hp.trans hln.symm) hr (fun p hp => by have := hb.2 p hp; rw [Bool.and_eq_true] at this; exact ⟨this.1, fun _ => this.2⟩) hl'
          refine ⟨_, _, h, a1, .val (m := .arr n es l') _ (.arr segs' (a3.trans hln) (by rw [a2, a3, hln]) (fun q hq => ?_) a4)⟩
          have h7 : segs'.map List.length = parts.map List.length := a5.trans ((lens_of (hp.trans hln.symm) hr).trans (sizesB_eq hb.1)).symm
          obtain ⟨k, hk, rfl⟩ := List.mem_iff_getElem.1 hq
          have h8 : (segs'.map List.length)[k]? = some (segs'[k].length) := by rw [List.getElem?_map, List.getElem?_eq_getElem hk]; rfl
          rw [h7, List.getElem?_map] at h8
          have hk2 : k < parts.length := by
            rw [show parts.length = (parts.map List.length).length by simp, ← h7]; simpa using hk
          rw [List.getElem?_eq_getElem hk2] at h8
          simp at h8
          rw [← h8, hes _ (List.getElem_mem hk2)]
      · exact h.elim
  · exact h.elim
end
end Go.Proofs.YtmeeeigfjlbnkaaGreat
namespace Go.Proofs.YtmeeeigfjlbnkaaGreat
open Go.RowKit
section
variable {Pg : Program} {T : Tab} {w w' : World} {P P' : Prot} {adr adr' : Adr} {m : FM} {cnt : Nat} {K : MV × Dl → Prop} {u v x y : Value} {r : MV}
theorem Since.weak {ex ex' : Fp} {h w : World} (k : Since ex h w) (hx : ∀ b, ex b → ex' b) : Since ex' h w := ⟨k.os, k.tape, k.output, k.size, fun b hb he => k.block b hb fun e => he (hx b e)⟩
theorem Post1.new (hI : InvM w P adr m) (hn : adr cnt = none) (hm : m cnt = none) (hb : Below w.heap.size w w') {b : MB} {cur : Array Value} {parts : List (List Value)} (hg : w'.heap[w.heap.size]? = some (.cells cur b.ty (0, 0))) (hpl : parts.length = b.l.length) (hpe : ∀ p ∈ parts, p.length = b.es)
    (hr : ∀ (j : Nat) x p, b.l[j]? = some x → parts[j]? = some p → Rep w P (if b.row then noAdr else adr) x p) (hcur : parts.flatten <+: cur.toList) (hle : b.pe ≤ b.l.length) (hu : RepV w' P (fput adr cnt w.heap.size) r u) : Post1 w P adr m cnt r (.new b) u w' := by
  obtain ⟨h1, h2⟩ := hI.new hn hm hb hg hpl hpe hr hcur hle
  refine ⟨P, _, hu, h1, h2, fun c hc => fput_ne _ _ hc, fun g hg => ?_, (Since.of_below hb).weak fun _ e => e.elim, fun _ _ h => .inl h⟩
  rw [fput_same] at hg
  injection hg with hg
  exact .inl (Nat.le_of_eq hg)
theorem alloc_ok (hT : TabOK Pg T) (hI : InvM w P adr m) (hn : adr cnt = none) (hm : m cnt = none) {t : TypeId} {d : TD} {z : MV} (hz : zeroM T 9 t = some z) (hf : fits d z = true) :
    ∃ y w', (Instr.alloc t true (.tuple #[])).run Pg w = .ok y w' ∧ Post1 w P adr m cnt (.ptr cnt d.size 0 0 []) (.new ⟨t, d.size, false, 0, [z]⟩) y w' := by
  obtain ⟨cs, h1, h2, _⟩ := zeroM_acc 9 t _ hz
  have hz' := h1 []
  rw [List.append_nil] at hz'
  obtain ⟨v, hv, hc⟩ := hT.zero hz' w
  have hcells : v.cells = (cs.map SV.den).toArray := by rw [← hc]
  have hrep := h2 w P
  refine ⟨.pointer (some ⟨w.heap.size, 0, none⟩), w.alloc (.cells (cs.map SV.den).toArray t), by simp [Instr.alloc, hv, newVar, newRow, hcells], ?_⟩
  refine Post1.new hI hn hm (Below.alloc1 w _) (cur := (cs.map SV.den).toArray) (parts := [cs.map SV.den]) (heap_alloc_new w _) rfl (fun p hp => ?_) (fun j x p hx hp => ?_) ⟨[], by simp⟩ (Nat.zero_le _) (.val [_] ?_)
  · simp at hp; subst hp; rw [hrep.size, (fits_out hf).1]
  · cases j with
    | zero => simp at hx hp; subst hx; subst hp; exact hrep.ofNone
    | succ j => simp at hx
  · have := Rep.ptr (w := w.alloc (.cells (cs.map SV.den).toArray t)) (P := P) (adr := fput adr cnt w.heap.size) (c := cnt) (es := d.size) (k := 0) (fo := 0) (path := []) _ (fput_same _ _ _)
    simpa using this
theorem box_ok (hI : InvM w P adr m) (hn : adr cnt = none) (hm : m cnt = none) {t : TypeId} {d : TD} {z : MV} (hf : fits d z = true) (hz : RepV w P adr z v) :
    ∃ y w', (Instr.box t v).run Pg w = .ok y w' ∧ Post1 w P adr m cnt (.ptr cnt d.size 0 0 []) (.new ⟨t, d.size, false, 0, [z]⟩) y w' := by
  obtain ⟨cs, hrep, rfl, hl⟩ := rep_of_fits hz hf
  have hcells : (valM z cs).cells = cs.toArray := Array.toList_inj.1 (valM_cells hrep)
  refine ⟨.pointer (some ⟨w.heap.size, 0, none⟩), w.alloc (.cells cs.toArray t), by simp [Instr.box, newVar, newRow, hcells], ?_⟩
  refine Post1.new hI hn hm (Below.alloc1 w _) (cur := cs.toArray) (parts := [cs]) (heap_alloc_new w _) rfl (fun p hp => ?_) (fun j x p hx hp => ?_) ⟨[], by simp⟩ (Nat.zero_le _) (.val [_] ?_)
  · simp at hp; subst hp; exact hl
  · cases j with
    | zero => simp at hx hp; subst hx; subst hp; exact hrep
    | succ j => simp at hx
  · have := Rep.ptr (w := w.alloc (.cells cs.toArray t)) (P := P) (adr := fput adr cnt w.heap.size) (c := cnt) (es := d.size) (k := 0) (fo := 0) (path := []) _ (fput_same _ _ _)
    simpa using this
theorem rep_ms_new (w : World) (c : Array Value) (t : TypeId) (P : Prot) {n es : Nat} (hsz : c.size = n * es) (hn : n ≤ maxLen) : RepV (w.alloc (.cells c t)) P (fput adr cnt w.heap.size) (.ms cnt es 0 n) (.slice (some ⟨w.heap.size, 0, none⟩) n n) :=
  .val [_] (.ms w.heap.size 0 n (fput_same _ _ _) (fun _ => by simp) (Nat.le_refl _) hn ⟨c, t, heap_alloc_new w _, fun _ => hsz⟩)
theorem oBuildSlice_ok (hT : TabOK Pg T) (hI : InvM w P adr m) (hn : adr cnt = none) (hm : m cnt = none) {t : TypeId} {n : Nat} {ps : List (Nat × MV)} {pv : List (Nat × Value)} (h : (oBuildSlice T cnt t n ps).runP K) (hp : PartsR w P adr ps pv) :
    ∃ r δ y w', K (r, δ) ∧ (Instr.buildSlice t n pv.toArray).run Pg w = .ok y w' ∧ Post1 w P adr m cnt r δ y w' := by
  unfold oBuildSlice at h
  split at h
  · rename_i e es hd
    obtain ⟨hu, hs⟩ := TD.fits_slice (hT.fits hd)
    split at h
    · split at h
      · have hpv : pv = [] := by
          cases pv with
          | nil => rfl
          | cons a l => exact hp.elim
        subst hpv
        refine ⟨_, _, .slice (some ⟨w.heap.size, 0, none⟩) 0 0, w.alloc (.cells #[] e), h, ?_, ?_⟩
        · simp only [Instr.buildSlice, Sem.run_bind, run_underlying hu, Result.andThen_ok, run_sizeOf_of hs, newRow]
          simp [Instr.fill]
          rw [show Array.map (fun _ : Nat => (default : Value)) (Array.range 0) = #[] from Array.eq_empty_of_size_eq_zero (by simp)]
        · exact Post1.new hI hn hm (Below.alloc1 w _) (cur := #[]) (parts := []) (heap_alloc_new w _) rfl (fun p hp => by simp at hp) (fun j x p hx hp => by simp at hp) ⟨[], rfl⟩ (Nat.zero_le _) (rep_ms_new w _ _ _ (by simp) (by decide))
      · exact h.elim
    · rename_i n
      split at h
      · rename_i z hz
        cases hb : (Nat.beq z.size es && Nat.blt 0 es && Nat.ble ((n + 1) * es) 16777216 && z.idFree && ps.all (fun p => p.2.isVal)) with
        | false => rw [hb] at h; exact h.elim
        | true =>
          rw [hb] at h
          simp only [Bool.and_eq_true, List.all_eq_true] at hb
          obtain ⟨⟨⟨⟨hsz, hes⟩, hle⟩, hzf⟩, hv⟩ := hb
          have hsz := Nat.eq_of_beq_eq_true hsz
          have hes : 0 < es := by simpa [Nat.blt_eq] using hes
          have hle := Nat.le_of_ble_eq_true hle
          simp only [cond_true] at h
          split at h
          · rename_i l' hl'
            obtain ⟨cs, h1, h2, _⟩ := zeroM_acc 9 e _ hz
            have hz' := h1 []
            rw [List.append_nil] at hz'
            obtain ⟨zv, hzv, hzc⟩ := hT.zero hz' w
            have hzcells : zv.cells = (cs.map SV.den).toArray := by rw [← hzc]
            have hrep := h2 w P
            have hcl : cs.length = es := by rw [← List.length_map (f := SV.den), hrep.size, hsz]
            have hl0 : (repM (n + 1) z).length = n + 1 := by rw [repM_eq]; simp
            obtain ⟨segs', a1, a2, a3, a4, a5, a6⟩ := setParts_rep (md := ps.all (fun p => p.2.idFree)) ps pv (repM (n + 1) z) (List.replicate (n + 1) (cs.map SV.den)) l' hp hl' (fun p hp => ⟨hv p hp, fun h => List.all_eq_true.1 h p hp⟩) (by rw [hl0]; simp) (fun j x p hx hp => by
              rw [repM_eq] at hx
              rw [(List.mem_replicate.1 (List.mem_of_getElem? hx)).2, (List.mem_replicate.1 (List.mem_of_getElem? hp)).2]
              split
              · exact hrep
              · exact hrep.ofNone)
            have hlens : (List.replicate (n + 1) (cs.map SV.den)).map List.length = List.replicate (n + 1) es := by rw [List.map_replicate, List.length_map, hcl]
            have hpl : ∀ i k, (List.replicate (n + 1) es)[i]? = some k → (fun i => some (i * es, es) : Nat → Option (Nat × Nat)) i = some (((List.replicate (n + 1) es).take i).sum, k) := by
              intro i k hk
              rw [List.getElem?_replicate] at hk
              split at hk
              · injection hk with hk
                subst hk
                rw [List.take_replicate, List.sum_replicate_nat, Nat.min_eq_left (by omega)]
              · cases hk
            have hfill := fill_segs hpl pv _ segs' hlens a1 (by rw [hlens] at a6; exact a6)
            have hall : ∀ p ∈ segs', p.length = es := by
              intro p hp
              have : p.length ∈ segs'.map List.length := List.mem_map.2 ⟨p, hp, rfl⟩
              rw [a5, hlens] at this
              exact (List.mem_replicate.1 this).2
            have hsegl : segs'.length = n + 1 := by rw [a2, a3, hl0]
            have hcs0 := repS_cells (n := n + 1) (z := cs) (zc := zv.cells) hzcells hcl hes
            have hrepS : (repS (n + 1) cs).map SV.den = (List.replicate (n + 1) (cs.map SV.den)).flatten := by
              have : ∀ k, (repS k cs).map SV.den = (List.replicate k (cs.map SV.den)).flatten := by
                intro k
                induction k with
                | zero => rfl
                | succ k ih => rw [repS, List.map_append, ih, List.replicate_succ, List.flatten_cons]
              exact this _
            refine ⟨_, _, .slice (some ⟨w.heap.size, 0, none⟩) (n + 1) (n + 1), w.alloc (.cells segs'.flatten.toArray e), h, ?_, ?_⟩
            · have hne : ¬ ((n + 1) * es = 0) := by have := Nat.mul_pos (show 0 < n + 1 by omega) hes; omega
              have hng : ¬ ((n + 1) * es > 2 ^ 24) := by omega
              simp only [Instr.buildSlice, Sem.run_bind, run_underlying hu, Result.andThen_ok, run_sizeOf_of hs, if_neg hne, if_neg hng, hzv, Sem.run_pure, hcs0, hrepS, hfill, newRow]
              simp
            · refine Post1.new hI hn hm (Below.alloc1 w _) (cur := segs'.flatten.toArray) (parts := segs') (heap_alloc_new w _) a2 hall a4 ⟨[], by simp⟩ (Nat.zero_le _) (rep_ms_new w _ _ _ ?_ ?_)
              · rw [List.size_toArray, flatten_const hall, hsegl]
              · have : n + 1 ≤ (n + 1) * es := Nat.le_mul_of_pos_right _ hes
                unfold maxLen
                omega
          · exact h.elim
      · exact h.elim
  · exact h.elim
theorem oMakeSlice_ok (hT : TabOK Pg T) (hI : InvM w P adr m) (hn : adr cnt = none) (hm : m cnt = none) {t : TypeId} {p q : MV} (h : (oMakeSlice Pg T cnt t p q).runP K) (hp : RepV w P adr p u) (hq : RepV w P adr q v) :
    ∃ r δ y w', K (r, δ) ∧ (Instr.makeSlice t u v).run Pg w = .ok y w' ∧ Post1 w P adr m cnt r δ y w' := by
  unfold oMakeSlice at h
  split at h
  · rename_i e es k0 n k1 n' hd
    split at h
    · rename_i z hz
      cases hb : (Nat.beq z.size es && Nat.blt 0 es && z.idFree) with
      | false => rw [hb] at h; exact h.elim
      | true =>
        rw [hb] at h
        simp only [Bool.and_eq_true] at hb
        obtain ⟨⟨hsz, hes⟩, hzf⟩ := hb
        have hsz := Nat.eq_of_beq_eq_true hsz
        obtain ⟨rfl, k, hk, by_, hby, hbb, h⟩ := h
        obtain ⟨hk1, hk2⟩ := idx_out hk
        subst hk1
        rw [hp.int_, hq.int_]
        obtain ⟨cs, h1, h2, _⟩ := zeroM_acc 9 e _ hz
        have hz' := h1 []
        rw [List.append_nil] at hz'
        have hrep := h2 w P
        have hcl : cs.length = es := by rw [← List.length_map (f := SV.den), hrep.size, hsz]
        obtain ⟨zv, hzv, hzc⟩ := hT.zero hz' w
        have hzcells : zv.cells = (cs.map SV.den).toArray := by rw [← hzc]
        have hes : 0 < es := by simpa [Nat.blt_eq] using hes
        obtain ⟨hu, hs⟩ := TD.fits_slice (hT.fits hd)
        cases hi : Pg.info? e with
        | none => simp [hi] at hby
        | some it =>
          have hby' : it.bytes = by_ := by simpa [hi] using hby
          have hszi : it.size = es := by simpa [sizeB, hi] using hs
          have hit : it.zero = some zv := by
            cases hv : it.zero with
            | none => simp [zeroValue, typeInfo, hi, hv, unsupported] at hzv
            | some v => simp [zeroValue, typeInfo, hi, hv] at hzv; rw [hzv]
          have hbytes : (it.bytes : Int) * (k : Int) ≤ 281474976710656 := by
            rw [hby', ← Int.natCast_mul, Nat.mul_comm]; omega
          have hr := run_make (P := Pg) w t e it zv hu hi hit k0 k1 (k : Int) (k : Int) (by omega) (Int.le_refl _) hbytes (by omega)
          have hrs := repS_cells (n := k) hzcells hcl hes
          have hrepS : ∀ k, (repS k cs).map SV.den = (List.replicate k (cs.map SV.den)).flatten := by
            intro k
            induction k with
            | zero => rfl
            | succ k ih => rw [repS, List.map_append, ih, List.replicate_succ, List.flatten_cons]
          have hall : ∀ p ∈ List.replicate k (cs.map SV.den), p.length = es := fun p hp => by rw [(List.mem_replicate.1 hp).2, List.length_map, hcl]
          refine ⟨_, _, .slice (some ⟨w.heap.size, 0, none⟩) k k, w.alloc (.cells (List.replicate k (cs.map SV.den)).flatten.toArray e), h, ?_, ?_⟩
          · rw [hr]
            simp only [madeCells, Int.toNat_natCast, hszi, hzcells] at hrs ⊢
            rw [hrs, hrepS]
          · refine Post1.new hI hn hm (Below.alloc1 w _) (cur := (List.replicate k (cs.map SV.den)).flatten.toArray) (parts := List.replicate k (cs.map SV.den)) (heap_alloc_new w _) (by show _ = (repM k z).length; rw [repM_eq]; simp) hall (fun j x p hx hp => ?_) ⟨[], by simp⟩ (Nat.zero_le _) (rep_ms_new w _ _ _ ?_ ?_)
            · have hx : (repM k z)[j]? = some x := hx
              rw [repM_eq] at hx
              rw [(List.mem_replicate.1 (List.mem_of_getElem? hx)).2, (List.mem_replicate.1 (List.mem_of_getElem? hp)).2]
              exact hrep
            · rw [List.size_toArray, flatten_const hall, List.length_replicate]
            · unfold maxLen; omega
    · exact h.elim
  · exact h.elim
end
end Go.Proofs.YtmeeeigfjlbnkaaGreat
namespace Go.Proofs.YtmeeeigfjlbnkaaGreat
open Go.RowKit
section
variable {Pg : Program} {T : Tab} {w w' : World} {P P' : Prot} {adr adr' : Adr} {m : FM} {cnt : Nat} {K : MV × Dl → Prop} {u v x y : Value} {r : MV}
theorem bytesM_cells : ∀ {l : List MV} {s : List UInt8} {parts : List (List Value)} {a : Adr}, bytesM l = some s → parts.length = l.length → (∀ (j : Nat) m p, l[j]? = some m → parts[j]? = some p → Rep w P a m p) → s.length = l.length ∧ parts = s.map fun b => [Value.int .u8 (b.toNat : Int)]
  | [], s, parts, a, h, hp, _ => by
    simp [bytesM] at h; subst h
    exact ⟨rfl, List.eq_nil_of_length_eq_zero (by simpa using hp)⟩
  | m :: l, s, [], a, h, hp, _ => by simp at hp
  | m :: l, s, p :: parts, a, h, hp, hr => by
    unfold bytesM at h
    split at h
    · rename_i h0; cases h0
    · rename_i n l' he
      injection he with e1 e2
      subst e1; subst e2
      split at h
      · rename_i hn
        split at h
        · rename_i r hr'
          injection h with h
          subst h
          obtain ⟨h1, h2⟩ := bytesM_cells hr' (by simpa using hp) fun j m p h1 h2 => hr (j + 1) m p h1 h2
          have h3 := hr 0 _ p rfl rfl
          refine ⟨by simp [h1], ?_⟩
          rw [h2, List.map_cons]
          congr 1
          cases h3
          have : (UInt8.ofNat n.toNat).toNat = n.toNat := by rw [UInt8.toNat_ofNat', Nat.mod_eq_of_lt (by omega)]
          rw [this]
          congr 2
          omega
        · cases h
      · cases h
    · cases h
theorem flat_bytes (s : List UInt8) : (s.map fun b => [Value.int .u8 (b.toNat : Int)]).flatten = s.map fun b => Value.int .u8 (b.toNat : Int) := by
  induction s with
  | nil => rfl
  | cons b s ih => simp [ih]
theorem oConv_ok (hT : TabOK Pg T) (hI : InvM w P adr m) (hn : adr cnt = none) {src dst : TypeId} {p : MV} (h : (oConv T m src dst p).runP K) (hp : RepV w P adr p u) :
    ∃ r y w', K (r, .none) ∧ (convert src dst u).run Pg w = .ok y w' ∧ Post1 w P adr m cnt r .none y w' := by
  unfold oConv at h
  split at h
  · rename_i d0 k k' n hd0 hd
    obtain ⟨r, hr, h⟩ := h
    injection hr with hr
    subst hr
    obtain ⟨ds, hds⟩ := TD.fits_some (hT.fits hd0)
    rw [hp.int_]
    refine ⟨_, .int k (k.wrap n), w, h, ?_, Post1.pure hI hn (.val [_] .int)⟩
    simp [convert, run_underlying hds, run_underlying (TD.fits_int (hT.fits hd)), Conv.intToInt]
  · rename_i e es n l hd0 hd
    split at h
    · rename_i hde
      obtain ⟨s, hs, h⟩ := h
      have hu := (TD.fits_slice (hT.fits hd0)).1
      have hu2 := TD.fits_str (hT.fits hd)
      have hu3 := TD.fits_int (hT.fits hde)
      obtain ⟨A, cap, es', parts, rfl, h1, h2, h3, h4, h5, h6, h7⟩ := hp.sl_
      obtain ⟨h8, h9⟩ := bytesM_cells hs (h2.trans h1.symm) h7
      refine ⟨_, .string ⟨s.toArray⟩, w, h, ?_, Post1.pure hI hn (.val [_] .str)⟩
      cases A with
      | none =>
        obtain ⟨rfl, rfl⟩ := h4 rfl
        have : s = [] := List.eq_nil_of_length_eq_zero (by omega)
        subst this
        simp [convert, run_underlying hu, run_underlying hu2, run_underlying hu3, Conv.bytesToString]
        rfl
      | some a =>
        have hsn : s.length = n := by omega
        subst hsn
        refine run_convert_bytes_back w src dst e a cap s hu hu3 hu2 fun j hj => ?_
        obtain ⟨b, o, hA, hc⟩ := h6 (by omega)
        injection hA with hA
        subst hA
        rw [Addr.add_mid]
        refine (hc j _ ?_).1
        rw [h9, flat_bytes, List.getElem?_map, List.getElem?_eq_getElem hj]; rfl
    · exact h.elim
  · rename_i e es hd0 hd
    split at h
    · rename_i hde
      have hu := (TD.fits_slice (hT.fits hd0)).1
      have hu2 := TD.fits_str (hT.fits hd)
      have hu3 := TD.fits_int (hT.fits hde)
      rw [hp.nils_]
      refine ⟨_, .string ⟨#[]⟩, w, h, ?_, Post1.pure hI hn (.val [_] .str)⟩
      simp [convert, run_underlying hu, run_underlying hu2, run_underlying hu3, Conv.bytesToString]
      rfl
    · exact h.elim
  · rename_i e es c es' off n hd0 hd
    split at h
    · rename_i b hde hb
      cases he : (Nat.beq es' 1 && Nat.beq b.es 1) with
      | false => rw [he] at h; exact h.elim
      | true =>
        rw [he] at h
        rw [Bool.and_eq_true] at he
        have he1 := Nat.eq_of_beq_eq_true he.1
        have he2 := Nat.eq_of_beq_eq_true he.2
        subst he1
        obtain ⟨hle, s, hs, h⟩ := h
        have hu := (TD.fits_slice (hT.fits hd0)).1
        have hu2 := TD.fits_str (hT.fits hd)
        have hu3 := TD.fits_int (hT.fits hde)
        refine ⟨_, .string ⟨s.toArray⟩, w, h, ?_, Post1.pure hI hn (.val [_] .str)⟩
        have hlen : (cutL b.l off (off + n)).length = n := by unfold cutL; rw [List.length_take, List.length_drop]; omega
        rcases hp.ms_ with ⟨rfl, rfl, rfl⟩ | ⟨g, o, cap, hg, rfl, ho, h5, h6, h7⟩
        · have hc0 : cutL b.l 0 (0 + 0) = [] := List.eq_nil_of_length_eq_zero (by rw [hlen])
          rw [hc0] at hs
          simp [bytesM] at hs
          subst hs
          simp [convert, run_underlying hu, run_underlying hu2, run_underlying hu3, Conv.bytesToString]
          rfl
        · rcases hI.blk c b hb with h1 | ⟨g', h1, h2⟩
          · rw [hg] at h1; cases h1.2.2.1
          · rw [hg] at h1
            injection h1 with h1
            subst h1
            obtain ⟨cur, parts, h3, h4, h8, h9, h10⟩ := h2.ofE (by omega)
            have hpl : ((parts.drop off).take n).length = (cutL b.l off (off + n)).length := by rw [hlen, List.length_take, List.length_drop]; omega
            obtain ⟨h11, h12⟩ := bytesM_cells (a := if b.row then noAdr else adr) hs hpl fun j x p hx hp => by
              obtain ⟨hx, hj⟩ := cutL_get hx
              rw [List.getElem?_take] at hp
              split at hp
              · rw [List.getElem?_drop] at hp; exact h9 _ x p hx hp
              · cases hp
            have hsn : s.length = n := by omega
            subst hsn
            refine run_convert_bytes_back w src dst e ⟨g, o, none⟩ cap s hu hu3 hu2 fun j hj => ?_
            have ho := ho (.inl (by omega))
            subst ho
            rw [Addr.add_mid, cell_of_row w g _ cur b.ty (0, 0) h3]
            have hfl : parts.flatten[off * 1 + j]? = some (.int .u8 (s[j].toNat : Int)) := by
              refine flatten_take (es := 1) (fun p hp => by rw [h8 p hp, he2]) off s.length ?_ (by omega)
              rw [h12, flat_bytes, List.getElem?_map, List.getElem?_eq_getElem hj]; rfl
            have := prefix_get h10 hfl
            simpa using this
    · exact h.elim
  · rename_i e es s hd0 hd
    split at h
    · rename_i hde
      obtain ⟨hle, l, hl, n, hnn, h⟩ := h
      injection hl with hl
      injection hnn with hnn
      subst hl; subst hnn
      have hu := (TD.fits_slice (hT.fits hd)).1
      have hu2 := TD.fits_str (hT.fits hd0)
      have hu3 := TD.fits_int (hT.fits hde)
      rw [hp.str_]
      have hsz : (⟨s.toArray⟩ : ByteArray).size = s.length := by simp [ByteArray.size]
      have hrun := run_bytes_of_string (P := Pg) w src dst e ⟨s.toArray⟩ hu2 hu hu3
      rw [hsz] at hrun
      have hge := grownCap_ge w s.length 0 e
      generalize grownCap w s.length 0 e = cap at *
      have hb : Below w.heap.size w (w.drew.alloc (.cells (bytesRow ⟨s.toArray⟩ cap) e ((bytesRow ⟨s.toArray⟩ cap).size, (bytesRow ⟨s.toArray⟩ cap).size + 1))) := by
        have := Below.alloc1 w.drew (.cells (bytesRow ⟨s.toArray⟩ cap) e ((bytesRow ⟨s.toArray⟩ cap).size, (bytesRow ⟨s.toArray⟩ cap).size + 1))
        exact ⟨this.os, this.tape, this.output, this.size, this.block⟩
      have hnew : (w.drew.alloc (.cells (bytesRow ⟨s.toArray⟩ cap) e ((bytesRow ⟨s.toArray⟩ cap).size, (bytesRow ⟨s.toArray⟩ cap).size + 1))).heap[w.heap.size]? = some (.cells (bytesRow ⟨s.toArray⟩ cap) e ((bytesRow ⟨s.toArray⟩ cap).size, (bytesRow ⟨s.toArray⟩ cap).size + 1)) := heap_alloc_new w.drew _
      generalize w.drew.alloc (.cells (bytesRow ⟨s.toArray⟩ cap) e ((bytesRow ⟨s.toArray⟩ cap).size, (bytesRow ⟨s.toArray⟩ cap).size + 1)) = w1 at *
      refine ⟨_, _, w1, h, hrun, protNew w w1 P, adr, ?_, hI.below hb, Keep.below hI.prot hb, fun _ _ => rfl, fun g hg => (by rw [hn] at hg; cases hg), (Since.of_below hb).weak fun _ e => e.elim, fun b o hp => ?_⟩
      · have hlt : w.heap.size < w1.heap.size := (Array.getElem?_eq_some_iff.1 hnew).1
        refine .val [_] (.sl (some ⟨w.heap.size, 0, none⟩) cap 1 (s.map fun b => [Value.int .u8 (b.toNat : Int)]) (by simp [u8s]) (by simp) (fun p hp => ?_) (fun h => nomatch h) hge (fun _ => ⟨w.heap.size, 0, rfl, fun j x hx => ⟨?_, .inr ⟨Nat.le_refl _, hlt⟩⟩⟩) fun j x p hx hp => ?_)
        · obtain ⟨b, _, rfl⟩ := List.mem_map.1 hp; rfl
        · rw [cell_of_row w1 w.heap.size _ _ e _ hnew, Nat.zero_add]
          rw [flat_bytes] at hx
          have hj := (List.getElem?_eq_some_iff.1 hx).1
          simp only [List.length_map] at hj
          rw [List.getElem?_map, List.getElem?_eq_getElem hj] at hx
          injection hx with hx
          unfold bytesRow
          rw [Array.getElem?_append_left (by simpa using hj)]
          simp [hj, hx]
        · simp only [u8s, List.getElem?_map, Option.map_eq_some_iff] at hx hp
          obtain ⟨b, hb, rfl⟩ := hx
          obtain ⟨b', hb', rfl⟩ := hp
          rw [hb] at hb'
          injection hb' with hb'
          subst hb'
          exact .int
      · rcases hp with hp | hp
        · exact .inl hp
        · exact .inr (.inl hp.1)
    · exact h.elim
  · exact h.elim
end
end Go.Proofs.YtmeeeigfjlbnkaaGreat
namespace Go.Proofs.YtmeeeigfjlbnkaaGreat
open Go.RowKit
section
variable {Pg : Program} {T : Tab} {w w' : World} {P P' : Prot} {adr adr' : Adr} {m : FM} {cnt : Nat} {K : MV × Dl → Prop} {u v x y : Value} {r : MV}
theorem iBin_to {op : BinOp} {k : IntKind} {a b : Int} (h : ((iBin op k a b).bind pureA).runP K) : intBin op k a b fun v => ∃ r, K (r, .none) ∧ RepV w P adr r v := by
  cases op <;> simp only [iBin, val, Ask.bind, Ask.ask, Ask.prf, Ask.ret, pureA, Ask.runP] at h <;> simp only [intBin]
  case quo => obtain ⟨h0, r, hr, h⟩ := h; injection hr with hr; exact ⟨h0, r, hr, _, h, .val [_] .int⟩
  case rem => obtain ⟨h0, r, hr, h⟩ := h; injection hr with hr; exact ⟨h0, r, hr, _, h, .val [_] .int⟩
  case shl => obtain ⟨h0, r, hr, h⟩ := h; injection hr with hr; exact ⟨h0, r, hr, _, h, .val [_] .int⟩
  case shr => obtain ⟨h0, r, hr, h⟩ := h; injection hr with hr; exact ⟨h0, r, hr, _, h, .val [_] .int⟩
  all_goals first
    | (obtain ⟨r, hr, h⟩ := h; injection hr with hr; exact ⟨r, hr, _, h, .val [_] .int⟩)
    | exact ⟨_, h, .val [_] .bool⟩
theorem ba_list (s : List UInt8) : (⟨s.toArray⟩ : ByteArray).toList = s := by rw [ByteArray.toList_eq]
theorem ba_size (s : List UInt8) : (⟨s.toArray⟩ : ByteArray).size = s.length := by simp [ByteArray.size]
theorem ba_cat (s t : List UInt8) : (⟨s.toArray⟩ ++ ⟨t.toArray⟩ : ByteArray) = ⟨(s ++ t).toArray⟩ := by
  apply ByteArray.ext
  simp [ByteArray.data_append]
theorem sBin_to {op : BinOp} {a b : List UInt8} (h : ((sBin op a b).bind pureA).runP K) : strBin op ⟨a.toArray⟩ ⟨b.toArray⟩ fun v => ∃ r, K (r, .none) ∧ RepV w P adr r v := by
  cases op <;> simp only [sBin, val, Ask.bind, Ask.ask, Ask.prf, Ask.ret, Ask.bad, pureA, Ask.runP] at h <;> simp only [strBin, ba_list, ba_size, ba_cat]
  case add => obtain ⟨h0, r, hr, h⟩ := h; injection hr with hr; subst hr; exact ⟨h0, _, h, .val [_] .str⟩
  all_goals first
    | exact ⟨_, h, .val [_] .bool⟩
    | exact h.elim
theorem bBin_to {op : BinOp} {a b : Bool} (h : ((bBin op a b).bind pureA).runP K) : boolBin op a b fun v => ∃ r, K (r, .none) ∧ RepV w P adr r v := by
  cases op <;> simp only [bBin, Ask.bind, Ask.ret, Ask.bad, pureA, Ask.runP] at h <;> simp only [boolBin]
  all_goals first
    | exact ⟨_, h, .val [_] .bool⟩
    | exact h.elim
mutual
theorem confM_out : ∀ {f t : Nat} {m : MV} {cs : List Value} {adr : Adr}, confM T f t m = true → Rep w P adr m cs → confT T f t cs
  | 0, _, _, _, _, h, _ => by simp [confM] at h
  | f + 1, t, m, cs, adr, h, hr => by
    unfold confM at h
    unfold confT
    split at h
    · rename_i k j n hd
      rw [hd]
      have := kid_inj h
      subst this
      cases hr
      exact ⟨n, rfl⟩
    · rename_i hd; rw [hd]; cases hr; exact ⟨_, rfl⟩
    · rename_i hd; rw [hd]; cases hr; exact ⟨_, rfl⟩
    · rename_i n e es n' es' l hd
      rw [hd]
      simp only [Bool.and_eq_true] at h
      obtain ⟨⟨h1, h2⟩, h3⟩ := h
      have h1 := Nat.eq_of_beq_eq_true h1
      have h2 := Nat.eq_of_beq_eq_true h2
      subst h1; subst h2
      cases hr with
      | arr parts hl hp hes hr =>
        refine ⟨by rw [flatten_const hes, hp], fun i hi => ?_⟩
        have hx := List.getElem?_eq_getElem (l := l) (i := i) (by omega)
        obtain ⟨q, hq⟩ := get_of_len (hp.trans hl.symm) hx
        have hql := hes q (List.mem_of_getElem? hq)
        have hpre : (parts.take i).flatten.length = i * es := by
          rw [flatten_const (es := es) fun x hx => hes x (List.mem_of_mem_take hx), List.length_take, Nat.min_eq_left (by omega)]
        have : (parts.flatten.drop (i * es)).take es = q := by
          rw [flatten_split hq, List.append_assoc, ← hpre, List.drop_left, ← hql, List.take_left]
        rw [this]
        exact confM_out (List.all_eq_true.1 h3 _ (List.getElem_mem (by omega))) (hr i _ q hx hq)
    · rename_i fs sz l hd
      rw [hd]
      cases hr with
      | st parts hp hr =>
        have := confMs_out h hp hr [] rfl
        rw [List.nil_append] at this
        exact this
    · cases h
theorem confMs_out : ∀ {f : Nat} {fs : List (Nat × TypeId)} {o : Nat} {l : List MV} {sz : Nat} {parts : List (List Value)} {adr : Adr}, confMs T f fs o l sz = true → parts.length = l.length → (∀ (j : Nat) m p, l[j]? = some m → parts[j]? = some p → Rep w P adr m p) →
    ∀ (pre : List Value), pre.length = o → (pre ++ parts.flatten).length = sz ∧ fs.foldr (fun x K => (match Tab.find T x.2 with | some d => confT T f x.2 (((pre ++ parts.flatten).drop x.1).take d.size) | none => False) ∧ K) True
  | f, [], o, [], sz, parts, adr, h, hp, hr, pre, hpre => by
    have h := Nat.eq_of_beq_eq_true (show Nat.beq o sz = true from by simpa [confMs] using h)
    have : parts = [] := List.eq_nil_of_length_eq_zero (by simpa using hp)
    subst this
    exact ⟨by simp [hpre, h], trivial⟩
  | f, (o', t) :: fs, o, m :: l, sz, [], adr, h, hp, hr, pre, hpre => by simp at hp
  | f, (o', t) :: fs, o, m :: l, sz, p :: parts, adr, h, hp, hr, pre, hpre => by
    rw [confMs, Bool.and_eq_true] at h
    obtain ⟨h1, h2⟩ := h
    have h1 := Nat.eq_of_beq_eq_true h1
    subst h1
    split at h2
    · rename_i d hd
      simp only [Bool.and_eq_true] at h2
      obtain ⟨⟨h3, h4⟩, h5⟩ := h2
      have h3 := Nat.eq_of_beq_eq_true h3
      have hrep := hr 0 m p rfl rfl
      have hpl : p.length = d.size := by rw [hrep.size, h3]
      have ih := confMs_out h5 (parts := parts) (by simpa using hp) (fun j m p h1 h2 => hr (j + 1) m p h1 h2) (pre ++ p) (by rw [List.length_append, hpre, hpl])
      have e : pre ++ (p :: parts).flatten = pre ++ p ++ parts.flatten := by simp
      rw [e]
      refine ⟨ih.1, ?_, ih.2⟩
      simp only [hd]
      have : ((pre ++ p ++ parts.flatten).drop o).take d.size = p := by
        rw [List.append_assoc, ← hpre, List.drop_left, ← hpl, List.take_left]
      rw [this]
      exact confM_out h4 hrep
    · cases h2
  | f, [], o, _ :: _, _, _, _, h, _, _, _, _ => by simp [confMs] at h
  | f, _ :: _, o, [], _, _, _, h, _, _, _, _ => by simp [confMs] at h
end
mutual
theorem eqM_out : ∀ {a b : MV} {t : Bool} {xs ys : List Value} {adr adr' : Adr}, eqM a b = some t → Rep w P adr a xs → Rep w P adr' b ys → xs.length = ys.length ∧ (t = true ↔ xs = ys)
  | a, b, t, xs, ys, adr, adr', h, hx, hy => by
    unfold eqM at h
    split at h
    · rename_i k m j n
      split at h
      · rename_i hk
        injection h with h
        subst h
        have hk := of_decide_eq_true hk
        subst hk
        cases hx; cases hy
        simp
      · cases h
    · injection h with h
      subst h
      cases hx; cases hy
      simp
    · injection h with h
      subst h
      cases hx; cases hy
      rename_i s u
      simp
    · cases hx with
      | st parts hp hr => cases hy with
        | st parts' hp' hr' => exact eqMs_out h hp hp' hr hr'
    · rename_i n es l n' es' l'
      cases hb : (Nat.beq n n' && Nat.beq es es') with
      | false => rw [hb] at h; cases h
      | true =>
        rw [hb] at h
        cases hx with
        | arr parts hl hp hes hr => cases hy with
          | arr parts' hl' hp' hes' hr' => exact eqMs_out h (hp.trans hl.symm) (hp'.trans hl'.symm) hr hr'
    · cases h
theorem eqMs_out : ∀ {l l' : List MV} {t : Bool} {parts parts' : List (List Value)} {adr adr' : Adr}, eqMs l l' = some t → parts.length = l.length → parts'.length = l'.length → (∀ (j : Nat) m p, l[j]? = some m → parts[j]? = some p → Rep w P adr m p) → (∀ (j : Nat) m p, l'[j]? = some m → parts'[j]? = some p → Rep w P adr' m p) →
    parts.flatten.length = parts'.flatten.length ∧ (t = true ↔ parts.flatten = parts'.flatten)
  | [], [], t, parts, parts', adr, adr', h, hp, hp', _, _ => by
    have h1 : parts = [] := List.eq_nil_of_length_eq_zero (by simpa using hp)
    have h2 : parts' = [] := List.eq_nil_of_length_eq_zero (by simpa using hp')
    subst h1; subst h2
    simp [eqMs] at h
    subst h
    simp
  | a :: l, b :: l', t, p :: parts, q :: parts', adr, adr', h, hp, hp', hr, hr' => by
    rw [eqMs] at h
    split at h
    · rename_i x y hx hy
      injection h with h
      subst h
      obtain ⟨h1, h2⟩ := eqM_out hx (hr 0 a p rfl rfl) (hr' 0 b q rfl rfl)
      obtain ⟨h3, h4⟩ := eqMs_out hy (parts := parts) (parts' := parts') (by simpa using hp) (by simpa using hp') (fun j m p h1 h2 => hr (j + 1) m p h1 h2) (fun j m p h1 h2 => hr' (j + 1) m p h1 h2)
      refine ⟨by simp only [List.flatten_cons, List.length_append]; omega, ?_⟩
      rw [Bool.and_eq_true, h2, h4, List.flatten_cons, List.flatten_cons]
      exact ⟨fun ⟨e1, e2⟩ => by rw [e1, e2], fun e => List.append_inj e h1⟩
    · cases h
  | [], _ :: _, t, _, _, _, _, h, _, _, _, _ => by simp [eqMs] at h
  | _ :: _, [], t, _, _, _, _, h, _, _, _, _ => by simp [eqMs] at h
  | _ :: _, _ :: _, t, [], _, _, _, h, hp, _, _, _ => by simp at hp
  | _ :: _, _ :: _, t, _ :: _, [], _, _, h, _, hp, _, _ => by simp at hp
end
end
end Go.Proofs.YtmeeeigfjlbnkaaGreat
namespace Go.Proofs.YtmeeeigfjlbnkaaGreat
open Go.RowKit
section
variable {Pg : Program} {T : Tab} {w w' : World} {P P' : Prot} {adr adr' : Adr} {m : FM} {cnt : Nat} {K : MV × Dl → Prop} {u v x y : Value} {r : MV}
theorem nil_den {k : Nat} {p : MV} {b : Bool} (h : nilM k p = some b) (hp : RepV w P adr p u) :
    (k = 0 ∧ ((u = .pointer none ∧ b = true) ∨ ∃ a, u = .pointer (some a) ∧ b = false)) ∨ (k = 1 ∧ ((u = .slice none 0 0 ∧ b = true) ∨ ∃ a n c, u = .slice (some a) n c ∧ b = false)) ∨ (k = 2 ∧ ((u = .nilIface ∧ b = true) ∨ ∃ t z, u = .iface t z ∧ b = false)) := by
  unfold nilM at h
  split at h <;> first | (cases h; done) | (injection h with h; subst h)
  · exact .inl ⟨rfl, .inl ⟨hp.nilp_, rfl⟩⟩
  · obtain ⟨g, _, e⟩ := hp.ptr_; exact .inl ⟨rfl, .inr ⟨_, e, rfl⟩⟩
  · exact .inl ⟨rfl, .inr ⟨_, hp.gp_, rfl⟩⟩
  · obtain ⟨b, o, vs, e, _⟩ := hp.ep_; exact .inl ⟨rfl, .inr ⟨_, e, rfl⟩⟩
  · exact .inr (.inl ⟨rfl, .inl ⟨hp.nils_, rfl⟩⟩)
  · obtain ⟨A, cap, es, parts, e, _, _, _, h4, _⟩ := hp.sl_
    cases A with
    | none => exact absurd (h4 rfl).1 (by omega)
    | some a => exact .inr (.inl ⟨rfl, .inr ⟨_, _, _, e, rfl⟩⟩)
  · exact .inr (.inr ⟨rfl, .inl ⟨hp.nili_, rfl⟩⟩)
  · cases hp with | val cs h => cases h with | ifc cs h => exact .inr (.inr ⟨rfl, .inr ⟨_, _, rfl, rfl⟩⟩)
theorem oEq_ok (hT : TabOK Pg T) {op : BinOp} {t : TypeId} {xo yo : Operand} {p q : MV} (h : (oEq Pg T op t p q).runP K) (hp : RepV w P adr p u) (hq : RepV w P adr q v) :
    ∃ r y, K (r, .none) ∧ (do eqGuard op t xo yo u v; binOp op t u v : Sem Value).run Pg w = .ok y w ∧ RepV w P adr r y := by
  unfold oEq at h
  split at h
  · rename_i d hd
    cases hb : (d.agg && fits d p && fits d q) with
    | false => rw [hb] at h; exact h.elim
    | true =>
      rw [hb] at h
      simp only [Bool.and_eq_true] at hb
      obtain ⟨⟨ha, hfp⟩, hfq⟩ := hb
      obtain ⟨⟨he, hc1, hc2⟩, b, hbe, h⟩ := h
      unfold eqT at he
      simp only [Bool.and_eq_true, Bool.not_eq_true'] at he
      obtain ⟨cs, hcs, rfl⟩ := hp.agg_ (by rw [(fits_out hfp).2.1, ha])
      obtain ⟨cs', hcs', rfl⟩ := hq.agg_ (by rw [(fits_out hfq).2.1, ha])
      obtain ⟨b', r1, r2, r3⟩ := run_eq_flat (P := Pg) (T := T) hT hd ha he.1 he.2 xo yo (confM_out hc1 hcs) (confM_out hc2 hcs')
      have hbb : b' = b := by
        have := (eqM_out hbe hcs hcs').2
        rw [Bool.eq_iff_iff, r3, this]
      subst hbb
      cases op <;> first | exact h.elim | skip
      · exact ⟨_, _, h, r1 w, .val [_] .bool⟩
      · exact ⟨_, _, h, r2 w, .val [_] .bool⟩
  · exact h.elim
theorem oBin_ok (hT : TabOK Pg T) {op : BinOp} {t : TypeId} {xo yo : Operand} {p q : MV} (h : (oBin Pg T op t yo p q).runP K) (hp : RepV w P adr p u) (hq : RepV w P adr q v) :
    ∃ r y, K (r, .none) ∧ (do eqGuard op t xo yo u v; binOp op t u v : Sem Value).run Pg w = .ok y w ∧ RepV w P adr r y := by
  have fin : ∀ {b : Bool} {a1 a2 : SV}, a1.den = u → a2.den = v → nilCmp T t yo a1 a2 = some b → (match op with | .eql => (pureA (.bool b)).runP K | .neq => (pureA (.bool (!b))).runP K | _ => False) → ∃ r y, K (r, .none) ∧ (do eqGuard op t xo yo u v; binOp op t u v : Sem Value).run Pg w = .ok y w ∧ RepV w P adr r y := by
    intro b a1 a2 e1 e2 hc hk
    subst e1; subst e2
    obtain ⟨h1, h2⟩ := nilCmp_out (xo := xo) hT hc w
    cases op <;> first | exact hk.elim | skip
    · exact ⟨_, _, hk, h1, .val [_] .bool⟩
    · exact ⟨_, _, hk, h2, .val [_] .bool⟩
  have finN : ∀ {k : Nat} {a2 : SV}, a2.den = v → (oNil (nilM k p) op).runP K → (∀ b, nilM k p = some b → nilCmp T t yo (.val u) a2 = some b) → ∃ r y, K (r, .none) ∧ (do eqGuard op t xo yo u v; binOp op t u v : Sem Value).run Pg w = .ok y w ∧ RepV w P adr r y := by
    intro k a2 e2 h hb
    cases hm : nilM k p with
    | none => rw [hm] at h; exact h.elim
    | some b =>
      rw [hm] at h
      refine fin (a1 := .val u) (b := b) rfl e2 (hb b hm) ?_
      cases op <;> exact h
  cases q with
  | int k' b =>
    cases p with
    | int k a =>
      replace h : Ask.runP (bif isShift op || Nat.beq (kid k) (kid k') then (iBin op k a b).bind pureA else .bad) K := h
      cases hk : (isShift op || Nat.beq (kid k) (kid k')) with
      | false => rw [hk] at h; exact h.elim
      | true =>
        rw [hk] at h
        rw [hp.int_, hq.int_]
        obtain ⟨y, hy, r, hr, hrep⟩ := intBin_out (P := Pg) (t := t) (xo := xo) (yo := yo) (k' := k') hk (iBin_to (w := w) (P := P) (adr := adr) h)
        exact ⟨r, y, hr, hy w, hrep⟩
    | _ => exact h.elim
  | str b =>
    cases p with
    | str a =>
      rw [hp.str_, hq.str_]
      obtain ⟨y, hy, r, hr, hrep⟩ := strBin_out (P := Pg) (t := t) (xo := xo) (yo := yo) (sBin_to (w := w) (P := P) (adr := adr) h)
      exact ⟨r, y, hr, hy w, hrep⟩
    | _ => exact h.elim
  | bool b =>
    cases p with
    | bool a =>
      replace h : Ask.runP (match Tab.find T t with | some .bool => (bBin op a b).bind pureA | _ => .bad) K := h
      split at h
      · rename_i hd
        have hu : Pg.underlying t = some .bool := TD.fits_bool (hT.fits hd)
        rw [hp.bool_, hq.bool_]
        obtain ⟨y, hy, r, hr, hrep⟩ := boolBin_out (P := Pg) (t := t) (xo := xo) (yo := yo) hu (bBin_to (w := w) (P := P) (adr := adr) h)
        exact ⟨r, y, hr, hy w, hrep⟩
      · exact h.elim
    | _ => exact h.elim
  | nilp =>
    replace h : Ask.runP (match Tab.find T t with | some .ptr => oNil (nilM 0 p) op | _ => .bad) K := h
    split at h
    · rename_i hd
      refine finN (k := 0) (a2 := .val (.pointer none)) hq.nilp_.symm h fun b hb => ?_
      rcases nil_den hb hp with ⟨_, hc⟩ | ⟨hk, _⟩ | ⟨hk, _⟩
      · rcases hc with ⟨rfl, rfl⟩ | ⟨a, rfl, rfl⟩ <;> simp [nilCmp, hd]
      · cases hk
      · cases hk
    · exact h.elim
  | nils =>
    replace h : Ask.runP (match Tab.find T t with | some (.slice ..) => oNil (nilM 1 p) op | _ => .bad) K := h
    split at h
    · rename_i e es hd
      refine finN (k := 1) (a2 := .val (.slice none 0 0)) hq.nils_.symm h fun b hb => ?_
      rcases nil_den hb hp with ⟨hk, _⟩ | ⟨_, hc⟩ | ⟨hk, _⟩
      · cases hk
      · rcases hc with ⟨rfl, rfl⟩ | ⟨a, n, c, rfl, rfl⟩ <;> simp [nilCmp, hd]
      · cases hk
    · exact h.elim
  | nili =>
    replace h : Ask.runP (match Tab.find T t, yo with | some .iface, .const _ => oNil (nilM 2 p) op | _, _ => .bad) K := h
    split at h
    · have hd : Tab.find T t = some .iface := by assumption
      refine finN (k := 2) (a2 := .val .nilIface) hq.nili_.symm h fun b hb => ?_
      rcases nil_den hb hp with ⟨hk, _⟩ | ⟨hk, _⟩ | ⟨_, hc⟩
      · cases hk
      · cases hk
      · rcases hc with ⟨rfl, rfl⟩ | ⟨t', z, rfl, rfl⟩ <;> simp [nilCmp, hd]
    · exact h.elim
  | _ => exact oEq_ok hT h hp hq
theorem srcM_out (hI : InvM w P adr m) {es : Nat} (hes : 0 < es) {q : MV} {k : Bool → Nat → List MV → Ask (MV × Dl)} (h : (srcM m es q k).runP K) (hq : RepV w P adr q v) :
    ∃ (fl : Bool) (n : Nat) (l : List MV) (A : Option Addr) (cap : Nat) (parts : List (List Value)), (k fl n l).runP K ∧ v = .slice A n cap ∧ l.length = n ∧ parts.length = n ∧ (∀ p ∈ parts, p.length = es) ∧ (A = none → n = 0) ∧
      (∀ a, A = some a → ∀ (j : Nat) x, parts.flatten[j]? = some x → w.cell? (a.add j) = some x) ∧ (∀ (j : Nat) m p, l[j]? = some m → parts[j]? = some p → Rep w P (if fl then noAdr else adr) m p) := by
  unfold srcM at h
  split at h
  · rename_i n l
    obtain ⟨hh, h⟩ := h
    obtain ⟨A, cap, es', parts, rfl, h1, h2, h3, h4, h5, h6, h7⟩ := hq.sl_
    refine ⟨true, n, l, A, cap, parts, h, rfl, h1, h2, fun p hp => ?_, fun e => (h4 e).1, fun a ha j x hx => ?_, h7⟩
    · have hn : n ≠ 0 := by rw [← h2]; exact fun e => by rw [List.eq_nil_of_length_eq_zero e] at hp; cases hp
      cases l with
      | nil => simp at h1; omega
      | cons z l =>
        have hz := Nat.eq_of_beq_eq_true (show Nat.beq z.size es = true from hh)
        obtain ⟨q, hq⟩ := get_of_len (l := z :: l) (parts := parts) (by rw [h2, h1]) (i := 0) rfl
        rw [h3 p hp, ← hz, ← (h7 0 z q rfl hq).size, h3 q (List.mem_of_getElem? hq)]
    · by_cases hn : n = 0
      · have : parts = [] := List.eq_nil_of_length_eq_zero (by omega)
        subst this
        simp at hx
      · obtain ⟨b, o, hA, hc⟩ := h6 hn
        rw [ha] at hA
        injection hA with hA
        subst hA
        rw [Addr.add_mid]
        exact (hc j x hx).1
  · rw [hq.nils_]
    exact ⟨true, 0, [], none, 0, [], h, rfl, rfl, rfl, fun p hp => (nomatch hp), fun _ => rfl, fun a ha => (nomatch ha), fun j m p h => (by simp at h)⟩
  · rename_i c es' off n
    split at h
    · rename_i b hb
      cases hc : (Nat.beq es es' && Nat.beq b.es es) with
      | false => rw [hc] at h; exact h.elim
      | true =>
        rw [hc] at h
        simp only [Bool.and_eq_true] at hc
        obtain ⟨e1, e2⟩ := hc
        have e1 := Nat.eq_of_beq_eq_true e1
        have e2 := Nat.eq_of_beq_eq_true e2
        subst e1
        obtain ⟨hle, l, hl, h⟩ := h
        injection hl with hl
        subst hl
        have hlen : (cutL b.l off (off + n)).length = n := by unfold cutL; rw [List.length_take, List.length_drop]; omega
        rcases hq.ms_ with ⟨rfl, rfl, rfl⟩ | ⟨g, o, cap, hg, rfl, ho, h5, h6, h7⟩
        · exact ⟨b.row, 0, _, none, 0, [], h, rfl, hlen, rfl, fun p hp => (nomatch hp), fun _ => rfl, fun a ha => (nomatch ha), fun j m p _ h => (by simp at h)⟩
        · rcases hI.blk c b hb with h1 | ⟨g', h1, h2⟩
          · rw [hg] at h1; cases h1.2.2.1
          · rw [hg] at h1
            injection h1 with h1
            subst h1
            obtain ⟨cur, parts, h3, h4, h8, h9, h10⟩ := h2.ofE (by omega)
            refine ⟨b.row, n, _, some ⟨g, o, none⟩, cap, (parts.drop off).take n, h, rfl, hlen, by rw [List.length_take, List.length_drop]; omega, fun p hp => by rw [h8 p (List.mem_of_mem_drop (List.mem_of_mem_take hp)), e2], fun e => (nomatch e), fun a ha j x hx => ?_, fun j z p hz hp => ?_⟩
            · injection ha with ha
              subst ha
              have hn0 : n ≠ 0 := by
                rintro rfl
                simp at hx
              have ho := ho (.inl hn0)
              subst ho
              rw [Addr.add_mid, cell_of_row w g _ cur b.ty (0, 0) h3]
              have := prefix_get h10 (flatten_take (es := es) (fun p hp => by rw [h8 p hp, e2]) off n hx (by omega))
              simpa using this
            · obtain ⟨hz, hj⟩ := cutL_get hz
              rw [List.getElem?_take] at hp
              split at hp
              · rw [List.getElem?_drop] at hp; exact h9 _ z p hz hp
              · cases hp
    · exact h.elim
  · exact h.elim
end
end Go.Proofs.YtmeeeigfjlbnkaaGreat
