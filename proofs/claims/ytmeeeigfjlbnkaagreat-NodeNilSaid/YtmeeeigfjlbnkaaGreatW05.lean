/- Parts of a proof, one behind the other: M31, EV2. -/
import Derived.Test.YtmeeeigfjlbnkaaGreatW04
namespace Go.Proofs.YtmeeeigfjlbnkaaGreat
open Go.RowKit
inductive Rs (n0 : Nat) (K : VK) : VE → VM → Nat → Prop
  | go {E : VE} {M : VM} {n : Nat} (h : K E M n) : Rs n0 K E M n
  | re {E : VE} {M : VM} {n : Nat} (E' : VE) (M' : VM) (n' : Nat) (h : VMatch n0 E' M' n' E M) (k : K E' M' n') : Rs n0 K E M n
section
variable (Pg : Program) (T : Tab) (N : Nat) (ents : List FuncId) (G : GS) (n0 : Nat)
def vC : Code → (Exit → VK) → VK
  | .skip, Q, E, M, n => Q .normal E M n
  | .region _ ops draw, Q, E, M, n => match draw with
    | false => vOpsN Pg T N ents G ops ops.toList (Q .normal) E M n
    | true => ∃ L : List (Nat × Bool), vOpsD Pg T N ents G ops L [] (Q .normal) E M n
  | .seq x y, Q, E, M, n => vC x (fun e E M n => match e with | .normal => Rs n0 (vC y Q) E M n | e => Q e E M n) E M n
  | .cond c x y, Q, E, M, n => match evM (VE.get E) c with
    | some (.bool t) => (t = true → vC x Q E M n) ∧ (t = false → vC y Q E M n)
    | _ => False
  | .block id c, Q, E, M, n => vC c (fun e E M n => match e with | .exit i => (bif Nat.beq i id then Q .normal E M n else Q (.exit i) E M n) | e => Q e E M n) E M n
  | .loop c, Q, E, M, _ => ∃ (X : Type) (E' : X → VE) (M' : X → VM) (n' : Nat) (I : X → Prop) (μ : X → Nat),
      (∃ x, I x ∧ VMatch n0 (E' x) (M' x) n' E M) ∧
      ∀ x, I x → vC c (fun e E1 M1 n1 => match e with | .normal => ∃ x', I x' ∧ μ x' < μ x ∧ VMatch n0 (E' x') (M' x') n' E1 M1 | e => Q e E1 M1 n1) (E' x) (M' x) n'
  | .exit id, Q, E, M, n => Q (.exit id) E M n
  | .ret, Q, E, M, n => Q .ret E M n
  | .label _, Q, E, M, n => Q .normal E M n
  | _, _, _, _, _ => False
def tupM : List MV → MV
  | [v] => v
  | vs => .tup vs
def vRets (M : VM) (E : VE) : List ResultVar → (List MV → Prop) → Prop
  | [], K => K []
  | .tmp t :: l, K => match VE.get E t with
    | some v => vRets M E l fun r => K (v :: r)
    | none => False
  | .cell p ty :: l, K => match VE.get E p with
    | some p => (oLoad T (VM.get M) ty p).runP fun x => vRets M E l fun r => K (x.1 :: r)
    | none => False
def vRetQ (rs : List ResultVar) (R : MV → Prop) : Exit → VK := fun e E M _ => match e with
  | .ret | .normal => vRets T M E rs fun vs => (frzs (VM.get M) vs).runP fun x => R (tupM x.1)
  | _ => False
def vRetR (rs : List ResultVar) (res : MV) (M1 : VM) (n1 : Nat) : Exit → VK := fun e E M _ => match e with
  | .ret | .normal => vRets T M E rs fun vs => ∃ (rv : List MV) (σ bs : List (Nat × Nat)), tupM rv = res ∧ LMatch n0 rv M1 n1 vs M σ bs
  | _ => False
def vRetE (rs : List ResultVar) (Φ : MV → VM → Nat → Prop) : Exit → VK := fun e E M _ => match e with
  | .ret | .normal => vRets T M E rs fun vs => ∃ (res : MV) (M1 : VM) (n1 : Nat), Φ res M1 n1 ∧ ∃ (rv : List MV) (σ bs : List (Nat × Nat)), tupM rv = res ∧ LMatch n0 rv M1 n1 vs M σ bs
  | _ => False
end
section
variable {ops : Array Oper} {e : Nat → Option MV} {F F' : Nat → Prop} {Pg : Program} {T : Tab} {N : Nat} {ents : List FuncId} {G : GS} {w0 w w' : World} {ex0 : Anc} {P0 P : Prot} {adr : Adr} {E : VE} {M : VM} {m : FM} {n : Nat} {a : Act} {r : MV} {u : Value} {δ : Dl}
def PostM (N : Nat) (w0 : World) (ex0 : Anc) (P0 : Prot) (Q : Exit → VK) : Exit → Act → World → Prop := fun e a w => ∃ E M n, Q e E M n ∧ Sim N w0 ex0 P0 (VE.get E) (VM.get M) n a w
theorem SimS.drew (hs : SimS N w0 ex0 P0 e m F a w) : SimS N w0 ex0 P0 e m F a { w with drawn := w.drawn + 1 } := by
  obtain ⟨P, adr, hI, hE, ha1, ha2, ha3⟩ := hs.ex
  have hb : Below w.heap.size w { w with drawn := w.drawn + 1 } := ⟨rfl, rfl, rfl, Nat.le_refl _, fun _ _ => rfl⟩
  refine ⟨⟨protNew w { w with drawn := w.drawn + 1 } P, adr, hI.below hb, fun t v ht => ?_, ha1, ⟨ha2.in_, ha2.old, ha2.keep.trans (Keep.below hI.prot hb)⟩, fun b o ho => ?_⟩, hs.fresh, hs.ge, ⟨hs.since.os, hs.since.tape, hs.since.output, hs.since.size, hs.since.block⟩, hs.defers, hs.size⟩
  · obtain ⟨u, h1, h2⟩ := hE t v ht
    exact ⟨u, h1, h2.keep (Keep.below hI.prot hb)⟩
  · rcases ho with h | h
    · exact ha3 b o h
    · exact .inr (.inl (Nat.le_trans hs.since.size h.1))
theorem SimS.mono (hs : SimS N w0 ex0 P0 e m F a w) (hF : ∀ c, F' c → F c) : SimS N w0 ex0 P0 e m F' a w := by
  obtain ⟨P, adr, hI, hE, ha1, ha2, ha3⟩ := hs.ex
  exact ⟨⟨P, adr, hI, hE, fun c hc => ha1 c (hF c hc), ha2, ha3⟩, fun c hc => hs.fresh c (hF c hc), fun c hc => hs.ge c (hF c hc), hs.since, hs.defers, hs.size⟩
theorem vPut_sim {M' : VM} {n' : Nat} {w' : World} {P' : Prot} {adr' : Adr} (hd : a.defers = []) (hz : a.tmps.size = N) (hI : InvM w' P' adr' (VM.get M')) (hE : EnvR w' P' adr' (VE.get E) a) (hr : RepV w' P' adr' r u) (h1 : ∀ c, n' ≤ c → adr' c = none) (h2 : AdrOK w0 ex0 P0 w' P' adr')
    (h3 : ∀ b o, P' b o → P0 b o ∨ w0.heap.size ≤ b ∨ ex0.ex b) (h4 : ∀ c, n' ≤ c → VM.get M' c = none) (h5 : ex0.n0 ≤ n') (h6 : Since ex0.ex w0 w') {dst : Option Tmp} {K : VE → Prop} (hK : vPut N dst r E K) : ∃ E', K E' ∧ Sim N w0 ex0 P0 (VE.get E') (VM.get M') n' (a.put dst u) w' := by
  unfold vPut at hK
  split at hK
  · exact ⟨E, hK, ⟨P', adr', hI, hE, h1, h2, h3⟩, h4, h5, h6, hd, hz⟩
  · rename_i d
    split at hK
    · rename_i hlt
      have hlt : d < N := by simpa [Nat.blt_eq] using hlt
      exact ⟨_, hK, ⟨P', adr', hI, hE.put hz hlt hr, h1, h2, h3⟩, h4, h5, h6, hd, by simp [Act.put, hz]⟩
    · exact hK.elim
theorem mapLen_out {o : Oper} {k : Nat} (hk : mapLen Pg E M o = some k) (hI : InvM w P adr (VM.get M)) (hE : EnvR w P adr (VE.get E) a) : (execOp a.eval o).run Pg w = .ok (.value (.int .i64 k)) w := by
  obtain ⟨dst, op, ty, pos, after, guard⟩ := o
  unfold mapLen at hk
  split at hk
  · rename_i c hop
    obtain ⟨callee, args, ats⟩ := c
    have hop : op = .call ⟨callee, args, ats⟩ := hop
    subst hop
    split at hk
    · rename_i hcl
      have hcl : callee = .builtin .len := hcl
      subst hcl
      split at hk
      · rename_i x t hx ht
        have hx : args.toList = [x] := hx
        have ht : ats.toList = [t] := ht
        have hargs : args = #[x] := by rw [← Array.toList_inj]; exact hx
        have hats : ats = #[t] := by rw [← Array.toList_inj]; exact ht
        subst hargs; subst hats
        split at hk
        · rename_i c hc
          split at hk
          · rename_i b hb
            split at hk
            · rename_i ks vs hl
              split at hk
              · rename_i kt et hu
                split at hk
                rotate_left
                · cases hk
                rename_i hkv
                injection hk with hk
                subst hk
                obtain ⟨g, hg, hv⟩ := (evM_rep hE hc).mp_
                obtain ⟨clk, es, hw, hEn⟩ := map_blk hI hb hl hg hkv
                have hlen := hEn.len.1
                have hr : (Builtin.len_ #[t] ty #[.map (some g)]).run Pg w = .ok (goInt es.size) w := by
                  simp [Builtin.len_, run_underlying hu, MapKept.run_getObj_map hw]
                have e : execOp a.eval ⟨dst, .call ⟨.builtin .len, #[x], #[t]⟩, ty, pos, after, guard⟩ = builtin .len #[t] ty ((#[x] : Array Operand).map fun | .const _ => true | _ => false) ((#[x] : Array Operand).map a.eval) := by
                  simp [execOp, resolve, invoke]
                  rfl
                have h2 : (builtin .len #[t] ty ((#[x] : Array Operand).map fun | .const _ => true | _ => false) #[.map (some g)]).run Pg w = .ok (.value (goInt es.size)) w := by
                  show (do pure (.value (← Builtin.len_ #[t] ty #[.map (some g)])) : Sem Next).run Pg w = _
                  rw [Sem.run_bind, hr]; rfl
                rw [e]
                have h3 : ((#[x] : Array Operand).map a.eval) = #[.map (some g)] := by simp [hv]
                rw [h3, h2, ← hlen]
                rfl
              · cases hk
            · cases hk
          · cases hk
        · cases hk
      · cases hk
    · cases hk
  · cases hk
theorem vOpN_out (hS : SeatM Pg T ents G w0 ex0) {o : Oper} {K : VK} {next : Act → World → Prop} {Q : Exit → Act → World → Prop}
    (h : vOpN Pg T N ents G ops o K E M n) (hs : Sim N w0 ex0 P0 (VE.get E) (VM.get M) n a w) (hn : ∀ E M n a w, K E M n → Sim N w0 ex0 P0 (VE.get E) (VM.get M) n a w → next a w) :
    if Region.wanted o (yielded ops a.tmps) then o.wp Pg a w next Q ∨ (o.asks Pg a w ∧ LetsOut Q) else next (a.put o.dst undef) w := by
  obtain ⟨P, adr, hI, hE, ha1, ha2, ha3⟩ := hs.ex
  have run : ∀ {E2 : VE}, EnvR w P adr (VE.get E2) a → (vRunN Pg T ents G o E2 M n fun r M n => vPut N o.dst r E2 fun E => K E M n) → o.wp Pg a w next Q := by
    intro E2 hE2 h
    unfold vRunN at h
    split at h
    · rename_i k neg hq
      unfold nilQ at hq
      split at hq
      · rename_i op t x ty' hop
        split at hq
        · rename_i k' l hx
          split at hq
          · rename_i e es hd
            have hp := evM_rep hE2 hx
            obtain ⟨A, cap, es', parts, e1, _, _, _, h4, _⟩ := hp.sl_
            have hc : nilCmp T t (.const (.slice none 0 0)) (.val (a.eval x)) (.val (.slice none 0 0)) = some A.isNone := by
              rw [e1]
              cases A with
              | none => obtain ⟨q1, q2⟩ := h4 rfl; subst q1; subst q2; simp [nilCmp, hd]
              | some _ => simp [nilCmp, hd]
            obtain ⟨r1, r2⟩ := nilCmp_out (xo := x) (P := Pg) hS.seat.tab hc w
            have hA : A.isNone = true → k' = 0 := fun hA => (h4 (by simpa using hA)).1
            obtain ⟨dst, op', ty, pos, after, guard⟩ := o
            have hop : op' = .binOp op t x (.const (.slice none 0 0)) ty' := hop
            subst hop
            have fin : ∀ (bb : Bool), (do eqGuard op t x (.const (.slice none 0 0)) (a.eval x) (.slice none 0 0); binOp op t (a.eval x) (.slice none 0 0) : Sem Value).run Pg w = .ok (.bool bb) w → (vPut N dst (.bool bb) E2 fun E => K E M (n + 1)) → (⟨dst, .binOp op t x (.const (.slice none 0 0)) ty', ty, pos, after, guard⟩ : Oper).wp Pg a w next Q := by
              intro bb hr hk
              have hres := Res.val (a := a) (o := ⟨dst, .binOp op t x (.const (.slice none 0 0)) ty', ty, pos, after, guard⟩) (Q := fun u w' => u = .bool bb ∧ w' = w) _ rfl hr ⟨rfl, rfl⟩
              obtain ⟨E', q1, q2⟩ := vPut_sim (n' := n + 1) hs.defers hs.size hI hE2 (.val [_] .bool) (fun c hc => ha1 c (by omega)) ha2 ha3 (fun c hc => hs.fresh c (by omega)) (by have := hs.ge; omega) hs.since hk
              unfold Oper.wp
              rcases hres with ⟨u, w', p1, rfl, rfl⟩ | ⟨w', p1, p2, _⟩
              · rw [p1]; exact hn _ _ _ _ _ q1 q2
              · cases p2
            split at hq
            · injection hq with hq; injection hq with hq1 hq2; subst hq1; subst hq2
              exact fin _ r1 (h A.isNone hA)
            · injection hq with hq; injection hq with hq1 hq2; subst hq1; subst hq2
              exact fin _ r2 (h A.isNone hA)
            · cases hq
          · cases hq
        · cases hq
      · cases hq
    have old : (vRun Pg T ents G o E2 M n fun r M => vPut N o.dst r E2 fun E => K E M (n + 1)) → o.wp Pg a w next Q := by
      intro h
      refine vRun_ok hS h hI ha1 hs.fresh hE2 hs.since fun r δ u w' hk hp => ?_
      obtain ⟨E', h1, h2⟩ := hs.post hI hE2 ha1 ha2 ha3 hp hk
      exact hn _ _ _ _ _ h1 h2
    obtain ⟨dst, op, ty, pos, after, guard⟩ := o
    cases op with
    | call c =>
      obtain ⟨callee, args, ats⟩ := c
      cases callee with
      | builtin b =>
        rcases h with h | ⟨k, hk, h⟩
        · exact old h
        · have hrun := mapLen_out hk hI hE2
          obtain ⟨E', q1, q2⟩ := vPut_sim (n' := n + 1) hs.defers hs.size hI hE2 (.val [_] .int) (fun c hc => ha1 c (by omega)) ha2 ha3 (fun c hc => hs.fresh c (by omega)) (by have := hs.ge; omega) hs.since h
          unfold Oper.wp
          rw [hrun]
          exact hn _ _ _ _ _ q1 q2
      | invoke r n => exact old h
      | value f =>
        rcases h with h | h
        · exact old h
        · unfold vArgs at h
          obtain ⟨pf, h, hpf⟩ := rd_out hE2 h
          obtain ⟨ps, h, hps⟩ := rds_out hE2 h
          cases pf with
          | fn f0 caps =>
            generalize hu : a.eval f = uf at hpf
            cases hpf with
            | val cs hfn =>
              cases hfn with
              | fn parts hpl hpr =>
                have hall := hps.app (RepVs.of_parts hpl hpr)
                have hex : ∀ w1, (execOp a.eval ⟨dst, .call ⟨.value f, args, ats⟩, ty, pos, after, guard⟩).run Pg w1 = (callFunc f0 (args.toList.map a.eval ++ List.zipWith valM caps parts).toArray).run Pg w1 := fun w1 => by
                  have hmap : args.map a.eval = (args.toList.map a.eval).toArray := arr_map _ _
                  simp [execOp, resolve, hu, valM, MV.isAgg, Deferred.ofValue, invoke, hmap]
                replace h : (match ents.contains f0 with | true => vCallR Pg G SemE M n f0 (ps ++ caps) (fun r M n => vPut N dst r E2 fun E => K E M n) | false => vCallR Pg G SemPE M n f0 (ps ++ caps) (fun r M n => vPut N dst r E2 fun E => K E M n)) := h
                split at h
                · rename_i hc
                  have hrun := (hex w).trans (hS.seat.enters f0 (by simpa using hc) (args.toList.map a.eval ++ List.zipWith valM caps parts).toArray w)
                  unfold Oper.wp
                  rw [hrun]
                  refine (vCallR_ok (C := fun P f a w Q => Calls P f a w Q) (fun h k => h.mono k) hS h hs.since hs.fresh hs.ge hI hE2 ha1 ha2 ha3 hall).mono ?_
                  rintro e w' ⟨v, rfl, r, M', n', hk, P', adr', q1, q2, q3, q4, q5, q6, q7, q8, q9⟩
                  obtain ⟨E', h1, h2⟩ := vPut_sim hs.defers hs.size q1 q2 q3 q4 q5 q6 q7 q8 q9 hk
                  exact hn _ _ _ _ _ h1 h2
                · obtain ⟨v0, w', hr, v, he, r, M', n', hk, P', adr', q1, q2, q3, q4, q5, q6, q7, q8, q9⟩ := vCallR_ok (C := Prims) (fun h k => h.mono k) hS h hs.since hs.fresh hs.ge hI hE2 ha1 ha2 ha3 hall
                  injection he with he
                  subst he
                  have hrun := (hex w).trans hr
                  unfold Oper.wp
                  rw [hrun]
                  obtain ⟨E', h1, h2⟩ := vPut_sim hs.defers hs.size q1 q2 q3 q4 q5 q6 q7 q8 q9 hk
                  exact hn _ _ _ _ _ h1 h2
          | _ => exact h.elim
    | _ => exact old h
  have skip : ∀ {E2 : VE}, EnvR w P adr (VE.get E2) a → (vPut N o.dst .undef E2 fun E => K E M (n + 1)) → next (a.put o.dst undef) w := by
    intro E2 hE2 h
    obtain ⟨E', h1, h2⟩ := hs.post (δ := .none) hI hE2 ha1 ha2 ha3 (Post1.pure hI (ha1 n (Nat.le_refl _)) .undef) h
    exact hn _ _ _ _ _ h1 h2
  unfold vOpN at h
  split at h
  · rename_i hg
    rw [if_pos (by simp [Region.wanted, hg])]
    exact .inl (run hE h)
  · rename_i j want hg
    split at h
    · exact h.elim
    · rename_i s hj
      split at h
      · rename_i t ht
        have hv := hs.know ht
        have hy : yielded ops a.tmps j = some t := by simp [yielded, hj, hv]
        by_cases hw : t = want
        · rw [if_pos (by simp [Region.wanted, hg, hy, hw])]
          exact .inl (run (hE.know (by rw [ht, hw])) (h.1 hw))
        · have hw' : t = !want := by cases t <;> cases want <;> simp_all
          rw [if_neg (by simp [Region.wanted, hg, hy, hw])]
          exact skip (hE.know (by rw [ht, hw'])) (h.2 hw')
      · rename_i ht
        obtain ⟨v, hv1, hv2⟩ := hE s _ ht
        have hv : v = undef := hv2.undef_
        subst hv
        have hy : yielded ops a.tmps j = none := by simp [yielded, hj, hv1, undef]
        rw [if_neg (by simp [Region.wanted, hg, hy])]
        exact skip hE h
      · exact h.elim
theorem vOpsN_ok (hS : SeatM Pg T ents G w0 ex0) (ops : Array Oper) : ∀ (l : List Oper) {K : VK} {E : VE} {M : VM} {n : Nat} {a : Act} {w : World} {Q : Exit → Act → World → Prop},
    vOpsN Pg T N ents G ops l K E M n → Sim N w0 ex0 P0 (VE.get E) (VM.get M) n a w → (∀ E M n a w, K E M n → Sim N w0 ex0 P0 (VE.get E) (VM.get M) n a w → Q .normal a w) → wpList Pg ops Q l a w
  | [], _, E, M, n, a, w, _, h, hs, hQ => hQ E M n a w h hs
  | o :: rest, K, E, M, n, a, w, Q, h, hs, hQ => by
    replace h : Rt n (fun E M => vOpN Pg T N ents G ops o (vOpsN Pg T N ents G ops rest K) E M n) E M := h
    have key : ∀ {E : VE} {M : VM}, Rt n (fun E M => vOpN Pg T N ents G ops o (vOpsN Pg T N ents G ops rest K) E M n) E M → Sim N w0 ex0 P0 (VE.get E) (VM.get M) n a w → ∃ E' M', vOpN Pg T N ents G ops o (vOpsN Pg T N ents G ops rest K) E' M' n ∧ Sim N w0 ex0 P0 (VE.get E') (VM.get M') n a w := by
      intro E M h
      induction h with
      | go h => intro hs; exact ⟨_, _, h, hs⟩
      | re E' M' h1 _ ih => intro hs; exact ih (hs.frz h1)
    obtain ⟨E', M', h', hs'⟩ := key h hs
    exact vOpN_out hS (next := wpList Pg ops Q rest) (Q := Q) h' hs' fun _ _ _ _ _ h hs => vOpsN_ok hS ops rest h hs hQ
theorem draw_ok (hS : SeatM Pg T ents G w0 ex0) {id : Nat} {L : List (Nat × Bool)} {Q : Exit → VK} (h : vOpsD Pg T N ents G ops L [] (Q .normal) E M n) (hs : Sim N w0 ex0 P0 (VE.get E) (VM.get M) n a w) : (Code.region id ops true).wp Pg (PostM N w0 ex0 P0 Q) a w := by
  obtain ⟨D, E1, M1, hok, ⟨hnd, hnb⟩, hq, hr⟩ := vOpsD_toF h
  rw [List.reverse_nil, List.nil_append] at hok
  simp only [okDraw, Bool.and_eq_true, List.all_eq_true] at hok
  obtain ⟨⟨⟨hls, hall⟩, hlen⟩, htwo⟩ := hok
  obtain ⟨hP, hA⟩ := okLs_spec hls
  refine wp_region_any hS.seat.mixed ?_
  refine any_ok (Z := fun c => n + L.length ≤ c) hS (fun a w hs' => ⟨E1, M1, _, hq, hs'.toSim fun c hc => hc⟩) ops.size D ⟨M, rfl⟩ hr hP hA (dj_of htwo hnd) (fun x hx c ho hz => ?_) ?_ (fun k hk => ?_) (by simp) (fun k o ho hl => ?_) ?_
  · have h1 := (hnb x hx).2
    replace hz : n + L.length ≤ c := hz
    rcases ho with rfl | ⟨rfl, ho⟩
    · omega
    · have := (okTwo_out htwo hx ho).1
      omega
  · refine (hs.toS.drew).mono fun c hc => ?_
    rcases hc with ⟨x, hx, ho⟩ | hc
    · show n ≤ c
      have := (hnb x hx).1
      rcases ho with rfl | ⟨rfl, _⟩ <;> omega
    · show n ≤ c
      replace hc : n + L.length ≤ c := hc
      omega
  · have h1 : (Array.replicate ops.size false).getD k true = false := by simp [Array.getD, hk]
    have h2 : k ∈ D.map (·.k) := by simpa using hall k (by simpa using hk)
    exact ⟨fun _ => h2, fun _ => h1⟩
  · exfalso
    by_cases hk : k < ops.size
    · simp [Array.getD, hk] at hl
    · simp [Array.getD, hk] at hl
  · simpa using hlen
theorem vC_ok (hS : SeatM Pg T ents G w0 ex0) : ∀ (c : Code) {Q : Exit → VK} {E : VE} {M : VM} {n : Nat} {a : Act} {w : World},
    vC Pg T N ents G ex0.n0 c Q E M n → Sim N w0 ex0 P0 (VE.get E) (VM.get M) n a w → c.wp Pg (PostM N w0 ex0 P0 Q) a w := by
  intro c
  induction c with
  | skip => intro Q E M n a w h hs; exact wp_skip ⟨E, M, n, h, hs⟩
  | region id ops draw =>
    intro Q E M n a w h hs
    cases draw with
    | false => exact wp_region_list (vOpsN_ok hS ops _ h hs fun E M n a w hk hs => ⟨E, M, n, hk, hs⟩)
    | true =>
      obtain ⟨L, h⟩ := h
      exact draw_ok hS h hs
  | seq x y ihx ihy =>
    intro Q E M n a w h hs
    refine wp_seq (Code.wp_mono (fun e a w hq => ?_) (ihx h hs))
    obtain ⟨E', M', n', hq, hs'⟩ := hq
    cases e with
    | normal =>
      cases hq with
      | go h => exact ihy h hs'
      | re E2 M2 n2 h k => exact ihy k (hs'.matched h)
    | _ => exact ⟨E', M', n', hq, hs'⟩
  | cond c x y ihx ihy =>
    intro Q E M n a w h hs
    simp only [vC] at h
    split at h
    · rename_i t ht
      obtain ⟨P, adr, hI, hE, _⟩ := hs.ex
      have hv := (evM_rep hE ht).bool_
      exact wp_cond_split hv (fun ht => ihx (h.1 ht) hs) (fun ht => ihy (h.2 ht) hs)
    · exact h.elim
  | block id c ih =>
    intro Q E M n a w h hs
    refine wp_block (Code.wp_mono (fun e a w hq => ?_) (ih h hs))
    obtain ⟨E', M', n', hq, hs'⟩ := hq
    cases e with
    | exit i =>
      by_cases hi : i = id
      · subst hi
        simp at hq
        simp only [Exit.inBlock, if_true]
        exact ⟨E', M', n', hq, hs'⟩
      · simp only [beq_ne hi, cond_false] at hq
        simp only [Exit.inBlock, hi, if_false]
        exact ⟨E', M', n', hq, hs'⟩
    | _ => exact ⟨E', M', n', hq, hs'⟩
  | loop c ih =>
    intro Q E M n a w h hs
    obtain ⟨X, E', M', n', I, μ, ⟨x0, hI0, hm0⟩, h1⟩ := h
    have hs0 := hs.matched hm0
    intro b k cs
    have key : ∀ j x a w, μ x = j → I x → Sim N w0 ex0 P0 (VE.get (E' x)) (VM.get (M' x)) n' a w →
        ∃ e a' w', PostM N w0 ex0 P0 Q e a' w' ∧ Arrives Pg (lone (b.at a (.code c :: .inLoop c :: k)) cs w) b k cs e a' w' := by
      intro j
      induction j using Nat.strongRecOn with
      | _ j ihn =>
        intro x a w hn hI hs
        obtain ⟨e, a₁, w₁, hq, harr⟩ := ih (h1 x hI) hs b (.inLoop c :: k) cs
        obtain ⟨E1, M1, n1, hq, hs1⟩ := hq
        cases e with
        | normal =>
          obtain ⟨x', hI', hlt, hm⟩ := hq
          obtain ⟨e₂, a₂, w₂, hq₂, harr₂⟩ := ihn (μ x') (hn ▸ hlt) x' a₁ w₁ rfl hI' (hs1.matched hm)
          exact ⟨e₂, a₂, w₂, hq₂, .of_steps (Steps.trans harr (.one step_inLoop)) harr₂⟩
        | exit id => exact ⟨_, a₁, w₁, ⟨E1, M1, n1, hq, hs1⟩, .pass (x := .inLoop c) rfl (fun _ _ => .inl (by simp)) harr⟩
        | goto l => exact ⟨_, a₁, w₁, ⟨E1, M1, n1, hq, hs1⟩, .pass (x := .inLoop c) rfl (fun _ _ => .inl (by simp)) harr⟩
        | ret => exact ⟨_, a₁, w₁, ⟨E1, M1, n1, hq, hs1⟩, .pass (x := .inLoop c) rfl (fun _ _ => .inl (by simp)) harr⟩
        | panic ch => exact ⟨_, a₁, w₁, ⟨E1, M1, n1, hq, hs1⟩, .pass (x := .inLoop c) rfl (fun _ _ => .inl (by simp)) harr⟩
        | outgrown => exact ⟨_, a₁, w₁, ⟨E1, M1, n1, hq, hs1⟩, .pass (x := .inLoop c) rfl (fun _ _ => .inl (by simp)) harr⟩
    obtain ⟨e, a', w', hq, harr⟩ := key _ x0 a w rfl hI0 hs0
    exact ⟨e, a', w', hq, .of_steps (.one step_loop) harr⟩
  | exit id => intro Q E M n a w h hs; exact wp_exit ⟨E, M, n, h, hs⟩
  | ret => intro Q E M n a w h hs; exact wp_ret ⟨E, M, n, h, hs⟩
  | label l => intro Q E M n a w h hs; exact wp_label ⟨E, M, n, h, hs⟩
  | rangeFunc => intro Q E M n a w h; exact h.elim
  | scope => intro Q E M n a w h; exact h.elim
  | goto => intro Q E M n a w h; exact h.elim
  | refuse => intro Q E M n a w h; exact h.elim
theorem vRets_out (hT : TabOK Pg T) (hI : InvM w P adr (VM.get M)) (hE : EnvR w P adr (VE.get E) a) : ∀ {rs : List ResultVar} {K : List MV → Prop}, vRets T M E rs K →
    ∃ (ps : List MV) (vs : List Value), vs.length = rs.length ∧ (∀ (i : Nat) (r : ResultVar), rs[i]? = some r → ∃ v, vs[i]? = some v ∧ (resOne a.tmps r).run Pg w = .ok v w) ∧ RepVs w P adr ps vs ∧ K ps
  | [], K, h => ⟨[], [], rfl, fun i r hi => by simp at hi, .nil, h⟩
  | .tmp t :: l, K, h => by
    unfold vRets at h
    split at h
    · rename_i p hp
      obtain ⟨v, h1, h2⟩ := hE t p hp
      obtain ⟨ps, vs, hl, hi, hr, hK⟩ := vRets_out hT hI hE h
      refine ⟨p :: ps, v :: vs, by simp [hl], fun i r hr => ?_, .cons h2 hr, hK⟩
      cases i with
      | zero => simp at hr; subst hr; exact ⟨v, rfl, by simp [resOne, h1]⟩
      | succ i => exact hi i r (by simpa using hr)
    · exact h.elim
  | .cell p ty :: l, K, h => by
    unfold vRets at h
    split at h
    · rename_i q hq
      obtain ⟨uv, h1, h2⟩ := hE p q hq
      obtain ⟨r0, v, h3, h4, h5⟩ := oLoad_ok hT h h2 hI
      obtain ⟨ps, vs, hl, hi, hr, hK⟩ := vRets_out hT hI hE h3
      refine ⟨r0 :: ps, v :: vs, by simp [hl], fun i r hr => ?_, .cons h5 hr, hK⟩
      cases i with
      | zero =>
        simp at hr
        subst hr
        refine ⟨v, rfl, ?_⟩
        have hg' : a.tmps.getD p undef = uv := by simp [h1]
        simp only [resOne, hg']
        exact loadAt_asAddr h4
      | succ i => exact hi i r (by simpa using hr)
    · exact h.elim
theorem tup_rep {ps : List MV} {vs : List Value} (h : RepVs w P adr ps vs) (hv : ∀ p ∈ ps, p.isVal = true) : RepV w P adr (tupM ps) (tup vs) := by
  obtain ⟨parts, h1, h2, rfl⟩ := h.caps hv
  match ps, parts, h1, h2 with
  | [], [], _, _ => exact .tup [] rfl (fun j m u h => by simp at h)
  | [p], [q], _, h2 => exact .val q (h2 0 p q rfl rfl)
  | p :: p' :: ps, q :: q' :: parts, h1, h2 =>
    refine .tup (List.zipWith valM (p :: p' :: ps) (q :: q' :: parts)) (by rw [List.length_zipWith]; simp at h1 ⊢; omega) fun j m u hj hu => ?_
    rw [List.getElem?_zipWith] at hu
    rw [hj] at hu
    cases hq : (q :: q' :: parts)[j]? with
    | none => rw [hq] at hu; cases hu
    | some c =>
      rw [hq] at hu
      injection hu with hu
      exact ⟨c, h2 j m c hj hq, hu.symm⟩
theorem envM_get : ∀ {l : List MV} {i t : Nat} {v : MV}, VE.get (envM i l) t = some v → i ≤ t ∧ l[t - i]? = some v
  | [], i, t, v, h => by simp [envM, VE.get] at h
  | x :: l, i, t, v, h => by
    rw [envM, VE.get_cons] at h
    split at h
    · rename_i e; subst e; injection h with h; subst h; simp
    · rename_i e
      obtain ⟨h1, h2⟩ := envM_get h
      refine ⟨by omega, ?_⟩
      rw [show t - i = (t - (i + 1)) + 1 by omega]
      simpa using h2
theorem RepVs.get : ∀ {ps : List MV} {vs : List Value}, RepVs w P adr ps vs → ∀ {i : Nat} {p : MV}, ps[i]? = some p → ∃ v, vs[i]? = some v ∧ RepV w P adr p v
  | _, _, .nil, i, p, h => by simp at h
  | _, _, .cons (p := q) (v := v) h t, i, p, hi => by
    cases i with
    | zero => simp at hi; subst hi; exact ⟨v, rfl, h⟩
    | succ i => simpa using t.get (i := i) (by simpa using hi)
theorem RepVs.length : ∀ {ps : List MV} {vs : List Value}, RepVs w P adr ps vs → ps.length = vs.length
  | _, _, .nil => rfl
  | _, _, .cons _ t => by simp [t.length]
theorem frzs_conj {K : List MV × List (Nat × Nat) → Prop} {m : FM} : ∀ {l : List MV}, (frzs m l).runP K → (frzs m l).runP fun x => K x ∧ ∀ p ∈ x.1, p.isVal = true := by
  have one : ∀ {p : MV} {K : MV × List (Nat × Nat) → Prop}, (frz m p).runP K → (frz m p).runP fun x => K x ∧ x.1.isVal = true := by
    intro p K h
    cases p <;> simp only [frz] at h ⊢
    case ms c es off n =>
      split at h
      · split at h
        · obtain ⟨a1, l, a2, h⟩ := h; exact ⟨a1, l, a2, h, rfl⟩
        · exact h.elim
      · exact h.elim
    case ptr c es k fo path =>
      split at h
      · rename_i b hb
        cases he : Nat.beq b.es es with
        | false => rw [he] at h; exact h.elim
        | true =>
          rw [he] at h
          obtain ⟨v, q1, h⟩ := h
          dsimp only at h
          cases hf : v.idFree with
          | false => rw [hf] at h; exact h.elim
          | true => rw [hf] at h; exact ⟨v, q1, by simp only [hf]; exact ⟨h, rfl⟩⟩
      · exact h.elim
    case st l => exact frzs_weak (Ask.bind_runP.1 h) fun _ h => ⟨h, rfl⟩
    case fn f l => exact frzs_weak (Ask.bind_runP.1 h) fun _ h => ⟨h, rfl⟩
    case ifc t v => exact frz_weak (Ask.bind_runP.1 h) fun _ h => ⟨h, rfl⟩
    all_goals first | exact h.elim | exact ⟨h, rfl⟩
  intro l
  induction l generalizing K with
  | nil => intro h; exact ⟨h, fun p hp => nomatch hp⟩
  | cons q l ih =>
    intro h
    simp only [frzs] at h ⊢
    refine frz_weak (one (Ask.bind_runP.1 h)) fun x hx => ?_
    refine frzs_weak (ih (Ask.bind_runP.1 hx.1)) fun y hy => ⟨hy.1, fun p hp => ?_⟩
    rcases List.mem_cons.1 hp with rfl | hp
    · exact hx.2
    · exact hy.2 p hp
theorem semC_of_vc (hS : Seat Pg T ents) {f : FuncId} {fn : Func} {c : Code} {rs : List ResultVar} (hf : Pg.funcs[f]? = some fn) (hb : fn.body = some c) (hrs : fn.results = rs.toArray) (h5 : rs.length ≤ 6) {args : List MV} (hn : args.length ≤ fn.ntmps) (hN : fn.ntmps = N) {res : MV}
    (h : vC Pg T N ents G 0 c (vRetQ T rs fun r => r = res) (envM 0 args) [] 0) : SemC Pg G f args res := by
  intro w P vals hg hP hargs
  have hSM : SeatM Pg T ents G w noAnc := ⟨hS, fun w' h => G.stab w w' _ hg (fun _ h => h.elim) h, fun _ h => h.elim, fun g h => G.lt w g hg h⟩
  have hlen := hargs.length
  have h0 : Sim N w noAnc P (VE.get (envM 0 args)) (VM.get []) 0 { tmps := vals.toArray ++ Array.replicate (fn.ntmps - vals.toArray.size) undef, defers := [] } w := by
    refine ⟨⟨P, noAdr, ⟨fun c b hc => by simp [VM.get] at hc, fun c d b b' g hc => by simp [VM.get] at hc, hP⟩, fun t v ht => ?_, fun _ _ => rfl, ⟨fun c g hc => (nomatch hc), fun c hc => absurd hc (Nat.not_lt_zero c), Keep.refl _ _ _⟩, fun b o h => .inl h⟩, fun c _ => rfl, Nat.zero_le _, Since.refl _ _, rfl, by simp; omega⟩
    obtain ⟨_, h2⟩ := envM_get ht
    rw [Nat.sub_zero] at h2
    obtain ⟨u, h3, h4⟩ := hargs.get h2
    have hlt := (List.getElem?_eq_some_iff.1 h3).1
    refine ⟨u, ?_, h4⟩
    show (vals.toArray ++ Array.replicate (fn.ntmps - vals.toArray.size) undef)[t]? = some u
    rw [Array.getElem?_append_left (by simpa using hlt)]
    simpa using h3
  refine calls_of_wp hf hb (Code.wp_mono (fun e a w' hq => ?_) (vC_ok (ex0 := noAnc) hSM c h h0))
  obtain ⟨E', M', n', hq, hs⟩ := hq
  have fin : vRets T M' E' rs (fun vs => (frzs (VM.get M') vs).runP fun x => tupM x.1 = res) →
      a.defers = [] ∧ ∃ v, (results fn a.tmps).run Pg w' = .ok v w' ∧ ∃ v', Ending.returned v = .returned v' ∧ RepV w' (protNew w w' P) noAdr res v' ∧ Below w.heap.size w w' := by
    intro hq
    obtain ⟨P', adr', hI, hE, ha1, ha2, ha3⟩ := hs.ex
    obtain ⟨ps, vs, hl, hi, hr, hK⟩ := vRets_out hS.tab hI hE hq
    obtain ⟨l', bs, ⟨hxr, hfree⟩, P2, h1, h2, h3, h4⟩ := frzs_vals (frzs_conj hK) hr hI
    refine ⟨hs.defers, tup vs, results_out hrs h5 hl hi, tup vs, rfl, ?_, hs.since.below⟩
    rw [← hxr]
    refine (tup_rep h4 hfree).keep ⟨fun b o hp => ?_, fun _ _ _ => rfl, fun _ _ h => (nomatch h), fun _ _ _ _ h => nomatch h⟩
    rcases h3 b o hp with hp' | ⟨c', hc'⟩
    · rcases ha3 b o hp' with h | h | h
      · exact .inl h
      · exact .inr ⟨h, hI.prot b o hp'⟩
      · exact h.elim
    · rcases ha2.in_ c' b hc' with h | h
      · exact .inr ⟨h, h1.prot b o hp⟩
      · exact h.elim
  cases e with
  | normal => exact fin hq
  | ret => exact fin hq
  | _ => exact hq.elim
theorem semR_of_vc (hS : Seat Pg T ents) {f : FuncId} {fn : Func} {c : Code} {rs : List ResultVar} (hf : Pg.funcs[f]? = some fn) (hb : fn.body = some c) (hrs : fn.results = rs.toArray) (h5 : rs.length ≤ 6) {args : List MV} (hn : args.length ≤ fn.ntmps) (hN : fn.ntmps = N) {M0 : VM} {n0 : Nat} (hM0 : M0.all (fun x => Nat.blt x.1 n0) = true) {res : MV} {M1 : VM} {n1 : Nat}
    (h : vC Pg T N ents G n0 c (vRetR T n0 rs res M1 n1) (envM 0 args) M0 n0) : SemR Pg G f args M0 n0 res M1 n1 := by
  intro w P adr vals hg hI0 hn0 hL hargs
  have hSM : SeatM Pg T ents G w ⟨fun g => ∃ c, adr c = some g, adr, n0, fun c g hc => by
      rcases Nat.lt_or_ge c n0 with h | h
      · exact h
      · rw [hn0 c h] at hc; cases hc⟩ := ⟨hS, fun w' h => G.stab w w' _ hg (fun g ⟨c, hc⟩ => hL c g hc) h, fun g ⟨c, hc⟩ => hL c g hc, fun g h => G.lt w g hg h⟩
  have hlen := hargs.length
  have h0 : Sim N w ⟨fun g => ∃ c, adr c = some g, adr, n0, fun c g hc => by
      rcases Nat.lt_or_ge c n0 with h | h
      · exact h
      · rw [hn0 c h] at hc; cases hc⟩ P (VE.get (envM 0 args)) (VM.get M0) n0 { tmps := vals.toArray ++ Array.replicate (fn.ntmps - vals.toArray.size) undef, defers := [] } w := by
    refine ⟨⟨P, adr, hI0, fun t v ht => ?_, hn0, ⟨fun c g hc => .inr ⟨c, hc⟩, fun c _ => rfl, Keep.refl _ _ _⟩, fun b o h => .inl h⟩, fun c hc => all_lt hM0 hc, Nat.le_refl _, Since.refl _ _, rfl, by simp; omega⟩
    obtain ⟨_, h2⟩ := envM_get ht
    rw [Nat.sub_zero] at h2
    obtain ⟨u, h3, h4⟩ := hargs.get h2
    have hlt := (List.getElem?_eq_some_iff.1 h3).1
    refine ⟨u, ?_, h4⟩
    show (vals.toArray ++ Array.replicate (fn.ntmps - vals.toArray.size) undef)[t]? = some u
    rw [Array.getElem?_append_left (by simpa using hlt)]
    simpa using h3
  refine calls_of_wp hf hb (Code.wp_mono (fun e a w' hq => ?_) (vC_ok hSM c h h0))
  obtain ⟨E', M', n', hq, hs⟩ := hq
  have fin : vRets T M' E' rs (fun vs => ∃ (rv : List MV) (σ bs : List (Nat × Nat)), tupM rv = res ∧ LMatch n0 rv M1 n1 vs M' σ bs) →
      a.defers = [] ∧ ∃ v, (results fn a.tmps).run Pg w' = .ok v w' ∧ ∃ v', Ending.returned v = .returned v' ∧ ∃ P' adr', InvM w' P' adr' (VM.get M1) ∧ RepV w' P' adr' res v' ∧ Keep w w' P P' adr adr' ∧ (∀ c, c < n0 → adr' c = adr c) ∧ (∀ c, n1 ≤ c → adr' c = none) ∧
      (∀ c g, adr' c = some g → w.heap.size ≤ g ∨ ∃ c0, adr c0 = some g) ∧ (∀ b o, P' b o → P b o ∨ w.heap.size ≤ b ∨ ∃ c0, adr c0 = some b) ∧ Since (fun g => ∃ c0, adr c0 = some g) w w' := by
    intro hq
    obtain ⟨P1, adr1, hI, hE, ha1, ha2, ha3⟩ := hs.ex
    obtain ⟨ps, vs, hl, hi, hr, rv, σ, bs, hres, hok, hokb, hall, hrel, hmm⟩ := vRets_out hS.tab hI hE hq
    have hσ := okSg_out hok
    obtain ⟨P2, i1, i2, i3, i4⟩ := hI.frozen hokb
    obtain ⟨r1, r2⟩ := relVs_repVs i4 hrel (hr.kp i2)
    have hA := (ha2.frozen i2).matched hσ
    refine ⟨hs.defers, tup vs, results_out hrs h5 hl hi, tup vs, rfl, P2, adrS (sigA n0 σ) adr1, i1.matched hσ i4 hmm, ?_, hA.keep, fun c hc => hA.old c hc, fun c hc => adrS_none hσ hc, fun c g hc => hA.in_ c g hc, fun b o ho => ?_, hs.since⟩
    · rw [← hres]; exact tup_rep r1 r2
    · rcases i3 b o ho with h | ⟨c, h⟩
      · exact ha3 b o h
      · rcases ha2.in_ c b h with h | h
        · exact .inr (.inl h)
        · exact .inr (.inr h)
  cases e with
  | normal => exact fin hq
  | ret => exact fin hq
  | _ => exact hq.elim
theorem semE_of_vc (hS : Seat Pg T ents) {f : FuncId} {fn : Func} {c : Code} {rs : List ResultVar} (hf : Pg.funcs[f]? = some fn) (hb : fn.body = some c) (hrs : fn.results = rs.toArray) (h5 : rs.length ≤ 6) {args : List MV} (hn : args.length ≤ fn.ntmps) (hN : fn.ntmps = N) {M0 : VM} {n0 : Nat} (hM0 : M0.all (fun x => Nat.blt x.1 n0) = true) {Φ : MV → VM → Nat → Prop}
    (h : vC Pg T N ents G n0 c (vRetE T n0 rs Φ) (envM 0 args) M0 n0) : SemE Pg G f args M0 n0 Φ := by
  intro w P adr vals hg hI0 hn0 hL hargs
  have hSM : SeatM Pg T ents G w ⟨fun g => ∃ c, adr c = some g, adr, n0, fun c g hc => by
      rcases Nat.lt_or_ge c n0 with h | h
      · exact h
      · rw [hn0 c h] at hc; cases hc⟩ := ⟨hS, fun w' h => G.stab w w' _ hg (fun g ⟨c, hc⟩ => hL c g hc) h, fun g ⟨c, hc⟩ => hL c g hc, fun g h => G.lt w g hg h⟩
  have hlen := hargs.length
  have h0 : Sim N w ⟨fun g => ∃ c, adr c = some g, adr, n0, fun c g hc => by
      rcases Nat.lt_or_ge c n0 with h | h
      · exact h
      · rw [hn0 c h] at hc; cases hc⟩ P (VE.get (envM 0 args)) (VM.get M0) n0 { tmps := vals.toArray ++ Array.replicate (fn.ntmps - vals.toArray.size) undef, defers := [] } w := by
    refine ⟨⟨P, adr, hI0, fun t v ht => ?_, hn0, ⟨fun c g hc => .inr ⟨c, hc⟩, fun c _ => rfl, Keep.refl _ _ _⟩, fun b o h => .inl h⟩, fun c hc => all_lt hM0 hc, Nat.le_refl _, Since.refl _ _, rfl, by simp; omega⟩
    obtain ⟨_, h2⟩ := envM_get ht
    rw [Nat.sub_zero] at h2
    obtain ⟨u, h3, h4⟩ := hargs.get h2
    have hlt := (List.getElem?_eq_some_iff.1 h3).1
    refine ⟨u, ?_, h4⟩
    show (vals.toArray ++ Array.replicate (fn.ntmps - vals.toArray.size) undef)[t]? = some u
    rw [Array.getElem?_append_left (by simpa using hlt)]
    simpa using h3
  refine calls_of_wp hf hb (Code.wp_mono (fun e a w' hq => ?_) (vC_ok hSM c h h0))
  obtain ⟨E', M', n', hq, hs⟩ := hq
  have fin : vRets T M' E' rs (fun vs => ∃ (res : MV) (M1 : VM) (n1 : Nat), Φ res M1 n1 ∧ ∃ (rv : List MV) (σ bs : List (Nat × Nat)), tupM rv = res ∧ LMatch n0 rv M1 n1 vs M' σ bs) →
      a.defers = [] ∧ ∃ v, (results fn a.tmps).run Pg w' = .ok v w' ∧ ∃ v', Ending.returned v = .returned v' ∧ ∃ (res : MV) (M1 : VM) (n1 : Nat), Φ res M1 n1 ∧ ∃ P' adr', InvM w' P' adr' (VM.get M1) ∧ RepV w' P' adr' res v' ∧ Keep w w' P P' adr adr' ∧ (∀ c, c < n0 → adr' c = adr c) ∧ (∀ c, n1 ≤ c → adr' c = none) ∧
      (∀ c g, adr' c = some g → w.heap.size ≤ g ∨ ∃ c0, adr c0 = some g) ∧ (∀ b o, P' b o → P b o ∨ w.heap.size ≤ b ∨ ∃ c0, adr c0 = some b) ∧ Since (fun g => ∃ c0, adr c0 = some g) w w' := by
    intro hq
    obtain ⟨P1, adr1, hI, hE, ha1, ha2, ha3⟩ := hs.ex
    obtain ⟨ps, vs, hl, hi, hr, res, M1, n1, hΦ, rv, σ, bs, hres, hok, hokb, hall, hrel, hmm⟩ := vRets_out hS.tab hI hE hq
    have hσ := okSg_out hok
    obtain ⟨P2, i1, i2, i3, i4⟩ := hI.frozen hokb
    obtain ⟨r1, r2⟩ := relVs_repVs i4 hrel (hr.kp i2)
    have hA := (ha2.frozen i2).matched hσ
    refine ⟨hs.defers, tup vs, results_out hrs h5 hl hi, tup vs, rfl, res, M1, n1, hΦ, P2, adrS (sigA n0 σ) adr1, i1.matched hσ i4 hmm, ?_, hA.keep, fun c hc => hA.old c hc, fun c hc => adrS_none hσ hc, fun c g hc => hA.in_ c g hc, fun b o ho => ?_, hs.since⟩
    · rw [← hres]; exact tup_rep r1 r2
    · rcases i3 b o ho with h | ⟨c, h⟩
      · exact ha3 b o h
      · rcases ha2.in_ c b h with h | h
        · exact .inr (.inl h)
        · exact .inr (.inr h)
  cases e with
  | normal => exact fin hq
  | ret => exact fin hq
  | _ => exact hq.elim
theorem semR_of_semC {f : FuncId} {args : List MV} {res : MV} (h : SemC Pg G f args res) : SemR Pg G f args [] 0 res [] 0 := by
  intro w P adr vals hg hI hn hL hargs
  have e : adr = noAdr := by funext c; exact hn c (Nat.zero_le _)
  subst e
  refine (h w P vals hg hI.prot hargs).mono ?_
  rintro e w' ⟨v, rfl, h1, h2⟩
  have hb := Keep.below (adr := noAdr) hI.prot h2
  refine ⟨v, rfl, protNew w w' P, noAdr, hI.below h2, h1, hb, fun _ _ => rfl, fun _ _ => rfl, fun c g hc => (nomatch hc), fun b o ho => ?_, (Since.of_below h2).weak fun _ e => e.elim⟩
  rcases ho with h | h
  · exact .inl h
  · exact .inr (.inl h.1)
theorem semC_of_semR {f : FuncId} {args : List MV} {res : MV} (h : SemR Pg G f args [] 0 res [] 0) : SemC Pg G f args res := by
  intro w P vals hg hP hargs
  refine (h w P noAdr vals hg ⟨fun c b hc => by simp [VM.get] at hc, fun c d b b' g hc => by simp [VM.get] at hc, hP⟩ (fun _ _ => rfl) (fun c g hc => nomatch hc) hargs).mono ?_
  rintro e w' ⟨v, rfl, P', adr', h1, h2, h3, h4, h5, h6, h7, h8⟩
  have e : adr' = noAdr := by funext c; exact h5 c (Nat.zero_le _)
  subst e
  refine ⟨v, rfl, h2.keep ⟨fun b o hp => ?_, fun _ _ _ => rfl, fun _ _ h => (nomatch h), fun _ _ _ _ h => nomatch h⟩, Since.below (h8.weak fun _ ⟨c, hc⟩ => nomatch hc)⟩
  rcases h7 b o hp with h | h | ⟨c, h⟩
  · exact .inl h
  · exact .inr ⟨h, h1.prot b o hp⟩
  · cases h
end
end Go.Proofs.YtmeeeigfjlbnkaaGreat
namespace Go.Proofs.YtmeeeigfjlbnkaaGreat
open Go.RowKit
abbrev Bs := List (Nat × Nat)
section
variable (n0 : Nat) (σ : Bs) (κ : Nat → Option Nat) (M : VM)
def okTo (d c : Nat) : Bool := match sigA n0 σ d with
  | some x => Nat.beq x c
  | none => false
mutual
def mkV : MV → Option (MV × Bs)
  | .ms c es off n => match κ c with
    | some d => bif okTo n0 σ d c then some (.ms d es off n, []) else none
    | none => match VM.get M c with
      | some b => bif b.row && Nat.beq b.es es && Nat.ble (off + n) b.l.length then some (.sl n (cutL b.l off (off + n)), [(c, b.l.length)]) else none
      | none => none
  | .ptr c es k fo path => match κ c with
    | some d => bif okTo n0 σ d c then some (.ptr d es k fo path, []) else none
    | none => match VM.get M c with
      | some b => match nthM b.l k with
        | some x => bif Nat.beq b.es es && x.idFree then some (.ep x fo path, [(c, b.l.length)]) else none
        | none => none
      | none => none
  | .mp c => match κ c with
    | some d => bif okTo n0 σ d c then some (.mp d, []) else none
    | none => none
  | .st l => bif MV.idFrees l then some (.st l, []) else match mkVs l with
    | some (r, b) => some (.st r, b)
    | none => none
  | .fn f l => bif MV.idFrees l then some (.fn f l, []) else match mkVs l with
    | some (r, b) => some (.fn f r, b)
    | none => none
  | .ifc t x => bif x.idFree then some (.ifc t x, []) else match mkV x with
    | some (y, b) => some (.ifc t y, b)
    | none => none
  | .tup _ => none
  | .mpv .. => none
  | .undef => none
  | m => some (m, [])
def mkVs : List MV → Option (List MV × Bs)
  | [] => some ([], [])
  | m :: l => match mkV m with
    | some (x, b) => match mkVs l with
      | some (r, c) => some (x :: r, b ++ c)
      | none => none
    | none => none
end
def mkC : Bs → Option (List (Nat × Nat × MB × List MV) × Bs)
  | [] => some ([], [])
  | (d, c) :: cs => match VM.get M c with
    | some b => match mkC cs with
      | some (r, bs) => bif okTo n0 σ d c then (bif b.row || isMpv b.l then some ((d, c, b, b.l) :: r, bs) else match mkVs n0 σ κ M b.l with
        | some (l, b2) => some ((d, c, b, l) :: r, b2 ++ bs)
        | none => none) else none
      | none => none
    | none => none
def mkB (up : Bool) (bs : Bs) : List (Nat × Nat × MB × List MV) → VM
  | [] => []
  | (d, c, b, l) :: r => (d, { b with l := l, pe := Nat.max b.pe (mxB bs c), row := b.row || (up && Nat.ble n0 d && !isMpv b.l && MV.idFrees l) }) :: mkB up bs r
def mkAll (up : Bool) (cs : Bs) (vs : List MV) : Option (List MV × VM × Bs) := match mkVs n0 σ κ M vs with
  | some (rv, b1) => match mkC n0 σ κ M cs with
    | some (r, b2) => some (rv, mkB n0 up (b1 ++ b2) r, b1 ++ b2)
    | none => none
  | none => none
end
section
variable {n0 n' : Nat} {σ : Bs} {κ : Nat → Option Nat} {M M' : VM} {bs : Bs}
def GoodB (M : VM) (bs : Bs) : Prop := ∀ c k, (c, k) ∈ bs → ∃ b, VM.get M c = some b ∧ k = b.l.length
theorem fzb_of : ∀ {bs : Bs}, GoodB M bs → ∀ {c k : Nat}, (c, k) ∈ bs → ∃ b, VM.get M c = some b ∧ fzb M bs c = some (b, b.l.length)
  | (x, j) :: l, hg, c, k, h => by
    obtain ⟨b, h1, h2⟩ := hg c k h
    refine ⟨b, h1, ?_⟩
    show (bif Nat.beq x c then (match VM.get M c with | some b => some (b, j) | none => none) else fzb M l c) = _
    cases hx : Nat.beq x c with
    | true =>
      have := Nat.eq_of_beq_eq_true hx
      subst this
      obtain ⟨b', h3, h4⟩ := hg x j (by simp)
      rw [h1] at h3
      injection h3 with h3
      subst h3
      simp only [cond_true, h1, h4]
    | false =>
      rcases List.mem_cons.1 h with e | h
      · injection e with e1 e2
        subst e1
        rw [Nat.beq_refl] at hx; cases hx
      · obtain ⟨b', h3, h4⟩ := fzb_of (bs := l) (fun c k h => hg c k (List.mem_cons_of_mem _ h)) h
        rw [h1] at h3
        injection h3 with h3
        subst h3
        exact h4
theorem okB_of : ∀ {bs : Bs}, GoodB M bs → okB M bs
  | [], _ => trivial
  | (c, k) :: l, h => by
    refine ⟨?_, okB_of fun c k hc => h c k (List.mem_cons_of_mem _ hc)⟩
    obtain ⟨b, h1, h2⟩ := h c k (by simp)
    rw [h1]
    exact Nat.le_of_eq h2
theorem okTo_out {d c : Nat} (h : okTo n0 σ d c = true) : sigA n0 σ d = some c := by
  unfold okTo at h
  split at h
  · rename_i x hx
    rw [hx, Nat.eq_of_beq_eq_true h]
  · cases h
theorem bif_some {α : Type} {p : Bool} {x : Option α} {y : α} (h : (bif p then x else none) = some y) : p = true ∧ x = some y := by cases p <;> first | exact ⟨rfl, h⟩ | cases h
mutual
theorem mkV_good : ∀ {v v' : MV} {b : Bs}, mkV n0 σ κ M v = some (v', b) → GoodB M b
  | .ms c es off n, v', b, h => by
    unfold mkV at h
    split at h
    · obtain ⟨_, h⟩ := bif_some h
      injection h with h; injection h with h1 h2; subst h2; exact fun _ _ h => nomatch h
    · split at h
      · rename_i b0 hb
        obtain ⟨_, h⟩ := bif_some h
        injection h with h; injection h with h1 h2; subst h2
        intro c' k hc
        rw [List.mem_singleton] at hc
        injection hc with e1 e2
        subst e1
        exact ⟨b0, hb, e2⟩
      · cases h
  | .ptr c es k fo path, v', b, h => by
    unfold mkV at h
    split at h
    · obtain ⟨_, h⟩ := bif_some h
      injection h with h; injection h with h1 h2; subst h2; exact fun _ _ h => nomatch h
    · split at h
      · rename_i b0 hb
        split at h
        · obtain ⟨_, h⟩ := bif_some h
          injection h with h; injection h with h1 h2; subst h2
          intro c' k hc
          rw [List.mem_singleton] at hc
          injection hc with e1 e2
          subst e1
          exact ⟨b0, hb, e2⟩
        · cases h
      · cases h
  | .mp c, v', b, h => by
    unfold mkV at h
    split at h
    · obtain ⟨_, h⟩ := bif_some h
      injection h with h; injection h with h1 h2; subst h2; exact fun _ _ h => nomatch h
    · cases h
  | .st l, v', b, h => by
    unfold mkV at h
    cases hf : MV.idFrees l with
    | true => rw [hf] at h; injection h with h; injection h with h1 h2; subst h2; exact fun _ _ h => nomatch h
    | false =>
      rw [hf] at h
      dsimp only [cond_false] at h
      split at h
      · rename_i r b1 hr
        injection h with h; injection h with h1 h2; subst h2; exact mkVs_good hr
      · cases h
  | .fn f l, v', b, h => by
    unfold mkV at h
    cases hf : MV.idFrees l with
    | true => rw [hf] at h; injection h with h; injection h with h1 h2; subst h2; exact fun _ _ h => nomatch h
    | false =>
      rw [hf] at h
      dsimp only [cond_false] at h
      split at h
      · rename_i r b1 hr
        injection h with h; injection h with h1 h2; subst h2; exact mkVs_good hr
      · cases h
  | .ifc t x, v', b, h => by
    unfold mkV at h
    cases hf : x.idFree with
    | true => rw [hf] at h; injection h with h; injection h with h1 h2; subst h2; exact fun _ _ h => nomatch h
    | false =>
      rw [hf] at h
      dsimp only [cond_false] at h
      split at h
      · rename_i r b1 hr
        injection h with h; injection h with h1 h2; subst h2; exact mkV_good hr
      · cases h
  | .tup _, v', b, h => by cases h
  | .mpv .., v', b, h => by cases h
  | .undef, v', b, h => by cases h
  | .int .., v', b, h => by injection h with h; injection h with h1 h2; subst h2; exact fun _ _ h => nomatch h
  | .bool .., v', b, h => by injection h with h; injection h with h1 h2; subst h2; exact fun _ _ h => nomatch h
  | .str .., v', b, h => by injection h with h; injection h with h1 h2; subst h2; exact fun _ _ h => nomatch h
  | .nilp, v', b, h => by injection h with h; injection h with h1 h2; subst h2; exact fun _ _ h => nomatch h
  | .gp .., v', b, h => by injection h with h; injection h with h1 h2; subst h2; exact fun _ _ h => nomatch h
  | .ep .., v', b, h => by injection h with h; injection h with h1 h2; subst h2; exact fun _ _ h => nomatch h
  | .sl .., v', b, h => by injection h with h; injection h with h1 h2; subst h2; exact fun _ _ h => nomatch h
  | .nils, v', b, h => by injection h with h; injection h with h1 h2; subst h2; exact fun _ _ h => nomatch h
  | .nilf, v', b, h => by injection h with h; injection h with h1 h2; subst h2; exact fun _ _ h => nomatch h
  | .nili, v', b, h => by injection h with h; injection h with h1 h2; subst h2; exact fun _ _ h => nomatch h
  | .arr .., v', b, h => by injection h with h; injection h with h1 h2; subst h2; exact fun _ _ h => nomatch h
theorem mkVs_good : ∀ {l r : List MV} {b : Bs}, mkVs n0 σ κ M l = some (r, b) → GoodB M b
  | [], r, b, h => by injection h with h; injection h with h1 h2; subst h2; exact fun _ _ h => nomatch h
  | m :: l, r, b, h => by
    unfold mkVs at h
    split at h
    · rename_i x b1 hx
      split at h
      · rename_i r1 b2 hr
        injection h with h; injection h with h1 h2; subst h2
        intro c k hc
        exact (List.mem_append.1 hc).elim (mkV_good hx c k) (mkVs_good hr c k)
      · cases h
    · cases h
end
mutual
theorem mkV_ok (hg : GoodB M bs) : ∀ {v v' : MV} {b : Bs}, mkV n0 σ κ M v = some (v', b) → (∀ x ∈ b, x ∈ bs) → relV (sigA n0 σ) (fzb M bs) v' v
  | .ms c es off n, v', b, h, hs => by
    unfold mkV at h
    split at h
    · obtain ⟨h0, h⟩ := bif_some h
      injection h with h; injection h with h1 h2; subst h1
      exact .inr ⟨c, okTo_out h0, rfl⟩
    · split at h
      · rename_i b0 hb
        obtain ⟨h0, h⟩ := bif_some h
        injection h with h; injection h with h1 h2; subst h1; subst h2
        simp only [Bool.and_eq_true, Nat.ble_eq] at h0
        obtain ⟨⟨q1, q2⟩, q3⟩ := h0
        obtain ⟨b', e1, e2⟩ := fzb_of hg (hs (c, b0.l.length) (by simp))
        rw [hb] at e1
        injection e1 with e1
        subst e1
        refine .inr ?_
        show (match fzb M bs c with | some (b, k) => _ | none => False : Prop)
        rw [e2]
        exact ⟨q1, Nat.eq_of_beq_eq_true q2, rfl, q3, rfl⟩
      · cases h
  | .ptr c es k fo path, v', b, h, hs => by
    unfold mkV at h
    split at h
    · obtain ⟨h0, h⟩ := bif_some h
      injection h with h; injection h with h1 h2; subst h1
      exact ⟨c, okTo_out h0, rfl⟩
    · split at h
      · rename_i b0 hb
        split at h
        · rename_i x hx
          obtain ⟨h0, h⟩ := bif_some h
          injection h with h; injection h with h1 h2; subst h1; subst h2
          simp only [Bool.and_eq_true] at h0
          obtain ⟨b', e1, e2⟩ := fzb_of hg (hs (c, b0.l.length) (by simp))
          rw [hb] at e1
          injection e1 with e1
          subst e1
          refine .inr ?_
          show (match fzb M bs c with | some (b, kk) => _ | none => False : Prop)
          rw [e2]
          have hk : k < b0.l.length := by rw [nthM_eq] at hx; exact (List.getElem?_eq_some_iff.1 hx).1
          exact ⟨Nat.eq_of_beq_eq_true h0.1, hk, rfl, rfl, hx, h0.2⟩
        · cases h
      · cases h
  | .mp c, v', b, h, hs => by
    unfold mkV at h
    split at h
    · obtain ⟨h0, h⟩ := bif_some h
      injection h with h; injection h with h1 h2; subst h1
      exact ⟨c, okTo_out h0, rfl⟩
    · cases h
  | .st l, v', b, h, hs => by
    unfold mkV at h
    cases hf : MV.idFrees l with
    | true => rw [hf] at h; injection h with h; injection h with h1 h2; subst h1; exact .inl ⟨rfl, hf⟩
    | false =>
      rw [hf] at h
      dsimp only [cond_false] at h
      split at h
      · rename_i r b1 hr
        injection h with h; injection h with h1 h2; subst h1; subst h2; exact .inr ⟨l, rfl, mkVs_ok hg hr hs⟩
      · cases h
  | .fn f l, v', b, h, hs => by
    unfold mkV at h
    cases hf : MV.idFrees l with
    | true => rw [hf] at h; injection h with h; injection h with h1 h2; subst h1; exact .inl ⟨rfl, hf⟩
    | false =>
      rw [hf] at h
      dsimp only [cond_false] at h
      split at h
      · rename_i r b1 hr
        injection h with h; injection h with h1 h2; subst h1; subst h2; exact .inr ⟨l, rfl, mkVs_ok hg hr hs⟩
      · cases h
  | .ifc t x, v', b, h, hs => by
    unfold mkV at h
    cases hf : x.idFree with
    | true => rw [hf] at h; injection h with h; injection h with h1 h2; subst h1; exact .inl ⟨rfl, hf⟩
    | false =>
      rw [hf] at h
      dsimp only [cond_false] at h
      split at h
      · rename_i r b1 hr
        injection h with h; injection h with h1 h2; subst h1; subst h2; exact .inr ⟨x, rfl, mkV_ok hg hr hs⟩
      · cases h
  | .tup _, v', b, h, hs => by cases h
  | .mpv .., v', b, h, hs => by cases h
  | .undef, v', b, h, hs => by cases h
  | .int .., v', b, h, hs => by injection h with h; injection h with h1 h2; subst h1; exact ⟨rfl, rfl⟩
  | .bool .., v', b, h, hs => by injection h with h; injection h with h1 h2; subst h1; exact ⟨rfl, rfl⟩
  | .str .., v', b, h, hs => by injection h with h; injection h with h1 h2; subst h1; exact ⟨rfl, rfl⟩
  | .nilp, v', b, h, hs => by injection h with h; injection h with h1 h2; subst h1; exact ⟨rfl, rfl⟩
  | .gp .., v', b, h, hs => by injection h with h; injection h with h1 h2; subst h1; exact ⟨rfl, rfl⟩
  | .ep .., v', b, h, hs => by injection h with h; injection h with h1 h2; subst h1; exact .inl rfl
  | .sl .., v', b, h, hs => by injection h with h; injection h with h1 h2; subst h1; exact .inl rfl
  | .nils, v', b, h, hs => by injection h with h; injection h with h1 h2; subst h1; exact ⟨rfl, rfl⟩
  | .nilf, v', b, h, hs => by injection h with h; injection h with h1 h2; subst h1; exact ⟨rfl, rfl⟩
  | .nili, v', b, h, hs => by injection h with h; injection h with h1 h2; subst h1; exact ⟨rfl, rfl⟩
  | .arr .., v', b, h, hs => by injection h with h; injection h with h1 h2; subst h1; exact ⟨rfl, rfl⟩
theorem mkVs_ok (hg : GoodB M bs) : ∀ {l r : List MV} {b : Bs}, mkVs n0 σ κ M l = some (r, b) → (∀ x ∈ b, x ∈ bs) → relV.relVs (sigA n0 σ) (fzb M bs) r l
  | [], r, b, h, hs => by injection h with h; injection h with h1 h2; subst h1; exact trivial
  | m :: l, r, b, h, hs => by
    unfold mkVs at h
    split at h
    · rename_i x b1 hx
      split at h
      · rename_i r1 b2 hr
        injection h with h; injection h with h1 h2; subst h1; subst h2
        exact ⟨mkV_ok hg hx fun y hy => hs y (List.mem_append_left _ hy), mkVs_ok hg hr fun y hy => hs y (List.mem_append_right _ hy)⟩
      · cases h
    · cases h
end
theorem mkC_ok {up : Bool} : ∀ {cs : Bs} {r : List (Nat × Nat × MB × List MV)} {b : Bs}, mkC n0 σ κ M cs = some (r, b) → GoodB M b ∧ ∀ {bs : Bs}, GoodB M bs → (∀ x ∈ b, x ∈ bs) → mM (sigA n0 σ) (fzb M bs) (mkB n0 up bs r) (VM.bump M bs)
  | [], r, b, h => by injection h with h; injection h with h1 h2; subst h1; subst h2; exact ⟨fun _ _ h => (nomatch h), fun _ _ => trivial⟩
  | (d, c) :: cs, r, b, h => by
    unfold mkC at h
    split at h
    · rename_i b0 hb
      split at h
      · rename_i r1 b1 hr
        obtain ⟨h0, h⟩ := bif_some h
        have hd := okTo_out h0
        obtain ⟨k1, k2⟩ := mkC_ok (up := up) hr
        have hrow : ∀ (l : List MV) (p : Nat), RowR { b0 with l := l, pe := p, row := b0.row || (up && Nat.ble n0 d && !isMpv b0.l && MV.idFrees l) } { b0 with pe := p } := fun l p => by
          cases hr0 : b0.row with
          | true => exact .inl (by simp [hr0])
          | false =>
            cases hu : (up && Nat.ble n0 d && !isMpv b0.l && MV.idFrees l) with
            | false => exact .inl (by simp [hr0, hu])
            | true =>
              simp only [Bool.and_eq_true] at hu
              exact .inr (.inr ⟨rfl, by simp [hu], hu.2⟩)
        have hgb : ∀ bs : Bs, VM.get (VM.bump M bs) c = some { b0 with pe := Nat.max b0.pe (mxB bs c) } := fun bs => by
          rw [VM.get_bump, bumpF_get, hb]; rfl
        cases hx : (b0.row || isMpv b0.l) with
        | true =>
          rw [hx] at h
          injection h with h; injection h with h1 h2; subst h1; subst h2
          refine ⟨k1, fun {bs} hg hs => ⟨.inr ⟨c, _, hd, hgb bs, rfl, rfl, hrow _ _, .inl rfl, .inl ⟨rfl, hx⟩⟩, k2 hg hs⟩⟩
        | false =>
          rw [hx] at h
          dsimp only [cond_false] at h
          split at h
          · rename_i l2 b2 hl
            injection h with h; injection h with h1 h2; subst h1; subst h2
            refine ⟨fun c k hc => (List.mem_append.1 hc).elim (mkVs_good hl c k) (k1 c k), fun {bs} hg hs => ⟨.inr ⟨c, _, hd, hgb bs, rfl, rfl, hrow _ _, .inl rfl, .inr ?_⟩, k2 hg fun x hx => hs x (List.mem_append_right _ hx)⟩⟩
            exact mkVs_ok hg hl fun x hx => hs x (List.mem_append_left _ hx)
          · cases h
      · cases h
    · cases h
theorem mkAll_ok {up : Bool} {cs : Bs} {vs rv : List MV} (h : mkAll n0 σ κ M up cs vs = some (rv, M', bs)) (h1 : okSg n0 n' σ = true) (h2 : M'.all (fun x => Nat.blt x.1 n') = true) : LMatch n0 rv M' n' vs M σ bs := by
  unfold mkAll at h
  split at h
  · rename_i r1 b1 hr
    split at h
    · rename_i r2 b2 hc
      injection h with h; injection h with e1 h; injection h with e2 e3
      subst e1; subst e2; subst e3
      obtain ⟨k1, k2⟩ := mkC_ok (up := up) hc
      have hg : GoodB M (b1 ++ b2) := fun c k hc => (List.mem_append.1 hc).elim (mkVs_good hr c k) (k1 c k)
      exact ⟨h1, okB_of hg, h2, mkVs_ok hg hr fun x hx => List.mem_append_left _ hx, k2 hg fun x hx => List.mem_append_right _ hx⟩
    · cases h
  · cases h
def comps : MV → List MV
  | .tup l => l
  | r => [r]
def okCo : MV → Bool
  | .tup [_] => false
  | _ => true
theorem repVs_of {w : World} {P : Prot} {adr : Adr} : ∀ {l : List MV} {vs : List Value}, vs.length = l.length → (∀ (j : Nat) m u, l[j]? = some m → vs[j]? = some u → ∃ cs, Rep w P adr m cs ∧ u = valM m cs) → RepVs w P adr l vs
  | [], [], _, _ => .nil
  | m :: l, u :: vs, hl, h => by
    obtain ⟨cs, h1, rfl⟩ := h 0 m u rfl rfl
    exact .cons (.val cs h1) (repVs_of (by simpa using hl) fun j m u hj hu => h (j + 1) m u (by simpa using hj) (by simpa using hu))
  | [], _ :: _, h, _ => by simp at h
  | _ :: _, [], h, _ => by simp at h
theorem comps_rep {w : World} {P : Prot} {adr : Adr} {r : MV} {v : Value} (h : RepV w P adr r v) (hc : okCo r = true) : ∃ us, RepVs w P adr (comps r) us ∧ tup us = v := by
  cases h with
  | tup us hl hp =>
    rename_i l
    refine ⟨us, repVs_of hl hp, ?_⟩
    match us, l, hl, hc with
    | [], _, _, _ => rfl
    | [x], [y], _, hc => cases hc
    | x :: y :: us, _, _, _ => rfl
  | val cs h1 =>
    have e : comps r = [r] := by cases h1 <;> rfl
    rw [e]
    exact ⟨[_], .cons (.val cs h1) .nil, rfl⟩
  | undef => exact ⟨[_], .cons .undef .nil, rfl⟩
theorem semR_match {Pg : Program} {G : GS} {f : FuncId} {args : List MV} {M0 M1 M2 : VM} {n1 n2 : Nat} {res : MV} {rv : List MV} (h : SemR Pg G f args M0 n0 res M1 n1) (hm : LMatch n0 rv M2 n2 (comps res) M1 σ bs) (hc : okCo res = true) : SemR Pg G f args M0 n0 (tupM rv) M2 n2 := by
  obtain ⟨hok, hokb, hall, hrel, hmm⟩ := hm
  have hσ := okSg_out hok
  intro w P adr vals a1 a2 a3 a4 a5
  refine Calls.mono (h w P adr vals a1 a2 a3 a4 a5) ?_
  rintro e w' ⟨v, rfl, P1, adr1, hI, hr, hk, h4, h5, h6, h7, h8⟩
  obtain ⟨us, hus, rfl⟩ := comps_rep hr hc
  obtain ⟨P2, i1, i2, i3, i4⟩ := hI.frozen hokb
  obtain ⟨r1, r2⟩ := relVs_repVs i4 hrel (hus.kp i2)
  have hA0 : AdrOK w ⟨fun g => ∃ c, adr c = some g, adr, n0, fun c g hc => by
      rcases Nat.lt_or_ge c n0 with h | h
      · exact h
      · rw [a3 c h] at hc; cases hc⟩ P w' P1 adr1 := ⟨h6, h4, hk⟩
  have hA := (hA0.frozen i2).matched hσ
  refine ⟨_, rfl, P2, adrS (sigA n0 σ) adr1, i1.matched hσ i4 hmm, tup_rep r1 r2, hA.keep, fun c hc => hA.old c hc, fun c hc => adrS_none hσ hc, fun c g hc => hA.in_ c g hc, fun b o ho => ?_, h8⟩
  rcases i3 b o ho with h | ⟨c, h⟩
  · exact h7 b o h
  · rcases h6 c b h with h | h
    · exact .inr (.inl h)
    · exact .inr (.inr h)
end
mutual
def msV : MV → List Nat
  | .ms c .. => [c]
  | .st l => bif MV.idFrees l then [] else msVs l
  | .fn _ l => bif MV.idFrees l then [] else msVs l
  | .ifc _ v => bif v.idFree then [] else msV v
  | _ => []
def msVs : List MV → List Nat
  | [] => []
  | m :: l => msV m ++ msVs l
end
def looseR (n : Nat) (M : VM) : List Nat → List Nat → List Nat
  | [], s => s
  | c :: t, s => bif Nat.blt c n || s.any (Nat.beq c) then looseR n M t s else match VM.get M c with
    | some b => bif b.row || isMpv b.l then looseR n M t s else looseR n M t (c :: s)
    | none => looseR n M t s
def oldL (n : Nat) : VM → List MV
  | [] => []
  | (c, b) :: M => bif Nat.blt c n && !(b.row || isMpv b.l) then b.l ++ oldL n M else oldL n M
def oldS (n : Nat) : VM → Bs
  | [] => []
  | (c, _) :: M => bif Nat.blt c n then (c, c) :: oldS n M else oldS n M
def numbS : Nat → List Nat → Bs
  | _, [] => []
  | n, c :: l => (n, c) :: numbS (n + 1) l
def rsig : Bs → Nat → Option Nat
  | [], _ => none
  | (d, c) :: l, x => bif Nat.beq c x then some d else rsig l x
def tight (n : Nat) (r : MV) (M : VM) (k : Option Nat) : Option (MV × VM × Nat) := match looseR n M (msVs (comps r) ++ msVs (oldL n M)) [] with
  | [] => some (r, M, n)
  | K => match numbS n (match k with | some c => bif K.any (Nat.beq c) then K else c :: K | none => K) with
    | σ => match mkAll n σ (fun c => bif Nat.blt c n then some c else rsig σ c) M true (oldS n M ++ σ) (comps r) with
      | some (rv, M2, _) => bif okSg n (n + σ.length) σ && M2.all (fun x => Nat.blt x.1 (n + σ.length)) && okCo r then some (tupM rv, M2, n + σ.length) else none
      | none => none
theorem tight_ok {Pg : Program} {G : GS} {f : FuncId} {args : List MV} {M0 M1 M2 : VM} {n n1 n2 : Nat} {r r2 : MV} {k : Option Nat} (h : SemR Pg G f args M0 n r M1 n1) (ht : tight n r M1 k = some (r2, M2, n2)) : ∃ n3, SemR Pg G f args M0 n r2 M2 n3 := by
  unfold tight at ht
  split at ht
  · injection ht with ht; injection ht with e1 ht; injection ht with e2 e3
    subst e1; subst e2
    exact ⟨n1, h⟩
  · dsimp only at ht
    generalize numbS n _ = σ at ht
    split at ht
    · rename_i rv M3 bs hm
      obtain ⟨h0, hx⟩ := bif_some ht
      simp only [Bool.and_eq_true] at h0
      obtain ⟨⟨q1, q2⟩, q3⟩ := h0
      injection hx with hx; injection hx with e1 hx; injection hx with e2 e3
      subst e1; subst e2
      exact ⟨_, semR_match h (mkAll_ok hm q1 q2) q3⟩
    · cases ht
end Go.Proofs.YtmeeeigfjlbnkaaGreat
