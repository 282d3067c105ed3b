/- Parts of a proof, one behind the other: M34, M35, Seat, S0, S2, U32, K, H1, H2, S1, E1, E2, E3, E4, E5, E6, O1, O2, O3. -/
import Derived.Test.YtplkofafnbfkmaaProg
import Derived.Lib.ReflectliteSwap
import Derived.Laws.Externs
import Derived.Test.YtplkofafnbfkmaaW03
/- Steps of a walk over trees: regions whose order is drawn. -/
namespace Go.Proofs.Ytplkofafnbfkmaa
open Go.RowKit
section
variable {Pg : Program} {T : Tab} {N : Nat} {ents : List FuncId} {G : GS} {ops : Array Oper} {dst : Option Tmp} {d : Tmp} {op : Op} {ty : TypeId} {pos : String} {after : Array Edge} {g : Option (Nat × Bool)} {K : VK} {r : MV} {δ : Dl} {o : Oper} {j s k : Nat} {want t rf : Bool}
  {E : VE} {M : VM} {n : Nat} {J : List Nat → VE → VM → Prop} {L : List (Nat × Bool)} {A : List Dop} {fp : List Nat}
def NextD (Pg : Program) (T : Tab) (N : Nat) (ents : List FuncId) (G : GS) (ops : Array Oper) (L : List (Nat × Bool)) (A : List Dop) (K : VK) (k n : Nat) (rf : Bool) : List Nat → VE → VM → Prop := fun fp E M => vOpsD Pg T N ents G ops L (⟨k, n, rf, fp⟩ :: A) K E M (n + 1)
theorem d_end (ho : okDraw ops A.reverse = true) (h : K E M n) : vOpsD Pg T N ents G ops [] A K E M n := ⟨ho, h⟩
def nthO : List Oper → Nat → Option Oper
  | [], _ => none
  | o :: _, 0 => some o
  | _ :: l, k + 1 => nthO l k
theorem nthO_eq : ∀ (l : List Oper) (k : Nat), l[k]? = nthO l k
  | [], _ => by simp [nthO]
  | o :: _, 0 => rfl
  | o :: l, k + 1 => by simp [nthO, nthO_eq l k]
theorem d_step {l : List Oper} (ho : nthO l k = some o) (h : vOpD Pg T N ents G (List.toArray l) rf o (NextD Pg T N ents G (List.toArray l) L A K k n rf) E M n) : vOpsD Pg T N ents G (List.toArray l) ((k, rf) :: L) A K E M n := by
  unfold vOpsD
  have e : (List.toArray l)[k]? = some o := by rw [← ho, ← nthO_eq]; simp
  simp only [e]
  exact h
theorem d_next (h : vOpsD Pg T N ents G ops L (⟨k, n, rf, fp⟩ :: A) K E M (n + 1)) : NextD Pg T N ents G ops L A K k n rf fp E M := h
def vOpGD (Pg : Program) (T : Tab) (N : Nat) (ents : List FuncId) (G : GS) (rf : Bool) (o : Oper) (J : List Nat → VE → VM → Prop) (E : VE) (M : VM) (n : Nat) : Prop := vRunD Pg T ents G rf o E M n fun r M fp => vPut N o.dst r E fun E => J fp E M
theorem d_go (h : vOpGD Pg T N ents G rf ⟨dst, op, ty, pos, after, none⟩ J E M n) : vOpD Pg T N ents G ops rf ⟨dst, op, ty, pos, after, none⟩ J E M n := h
theorem d_guard (hs : (ops[j]?).bind (·.dst) = some s) (hv : VE.get E s = some (.bool t)) (h1 : t = want → vOpGD Pg T N ents G rf ⟨some d, op, ty, pos, after, some (j, want)⟩ J ((s, .bool want) :: E) M n) (hd : Nat.blt d N = true)
    (h2 : t = !want → J (bif rf then [] else numsO (VE.get E) op.operands.toList) ((d, .undef) :: (s, .bool (!want)) :: E) M) : vOpD Pg T N ents G ops rf ⟨some d, op, ty, pos, after, some (j, want)⟩ J E M n := by
  unfold vOpD
  simp only [hs, hv]
  refine ⟨h1, fun ht => ?_⟩
  unfold vPut
  simp only [hd]
  exact h2 ht
theorem d_guardY (hs : (ops[j]?).bind (·.dst) = some s) (hv : VE.get E s = some (.bool want)) (h : vOpGD Pg T N ents G rf ⟨dst, op, ty, pos, after, some (j, want)⟩ J ((s, .bool want) :: E) M n) : vOpD Pg T N ents G ops rf ⟨dst, op, ty, pos, after, some (j, want)⟩ J E M n := by
  unfold vOpD
  simp only [hs, hv]
  exact ⟨fun _ => h, fun ht => by cases want <;> cases ht⟩
theorem d_guardN (hs : (ops[j]?).bind (·.dst) = some s) (hv : VE.get E s = some (.bool (!want))) (hd : Nat.blt d N = true) (h : J (bif rf then [] else numsO (VE.get E) op.operands.toList) ((d, .undef) :: (s, .bool (!want)) :: E) M) : vOpD Pg T N ents G ops rf ⟨some d, op, ty, pos, after, some (j, want)⟩ J E M n :=
  d_guard hs hv (fun ht => by cases want <;> cases ht) hd (fun _ => h)
theorem d_guardU (hs : (ops[j]?).bind (·.dst) = some s) (hv : VE.get E s = some .undef) (hd : Nat.blt d N = true) (h : J (bif rf then [] else numsO (VE.get E) op.operands.toList) ((d, .undef) :: E) M) : vOpD Pg T N ents G ops rf ⟨some d, op, ty, pos, after, some (j, want)⟩ J E M n := by
  unfold vOpD
  simp only [hs, hv]
  unfold vPut
  simp only [hd]
  exact h
theorem gd_run (hv : plainO op = true) (he : ∀ R : MV × Dl → Prop, R (r, δ) → (eOp Pg T (VE.get E) (VM.get M) n ⟨dst, op, ty, pos, after, g⟩).runP R)
    (h : vPut N dst r E fun E2 => J (numsO (VE.get E) op.operands.toList) E2 (δ.app n M)) : vOpGD Pg T N ents G false ⟨dst, op, ty, pos, after, g⟩ J E M n := by
  unfold vOpGD vRunD vRun
  dsimp only
  cases op with
  | call c =>
    obtain ⟨callee, args, ats⟩ := c
    cases callee with
    | value f => cases hv
    | builtin b => exact he _ h
    | invoke r n => exact he _ h
  | _ => exact he _ h
theorem gd_val (hv : plainO op = true) (he : ∀ R : MV × Dl → Prop, R (r, .none) → (eOp Pg T (VE.get E) (VM.get M) n ⟨some d, op, ty, pos, after, g⟩).runP R) (hd : Nat.blt d N = true)
    (h : J (numsO (VE.get E) op.operands.toList) ((d, r) :: E) M) : vOpGD Pg T N ents G false ⟨some d, op, ty, pos, after, g⟩ J E M n := by
  refine gd_run hv he ?_
  unfold vPut
  simp only [hd]
  exact h
theorem gd_mem (hv : plainO op = true) (he : ∀ R : MV × Dl → Prop, R (r, δ) → (eOp Pg T (VE.get E) (VM.get M) n ⟨some d, op, ty, pos, after, g⟩).runP R) (hd : Nat.blt d N = true)
    (h : J (numsO (VE.get E) op.operands.toList) ((d, r) :: E) (δ.app n M)) : vOpGD Pg T N ents G false ⟨some d, op, ty, pos, after, g⟩ J E M n := by
  refine gd_run hv he ?_
  unfold vPut
  simp only [hd]
  exact h
theorem gd_none (hv : plainO op = true) (he : ∀ R : MV × Dl → Prop, R (r, δ) → (eOp Pg T (VE.get E) (VM.get M) n ⟨none, op, ty, pos, after, g⟩).runP R)
    (h : J (numsO (VE.get E) op.operands.toList) E (δ.app n M)) : vOpGD Pg T N ents G false ⟨none, op, ty, pos, after, g⟩ J E M n := gd_run hv he h
theorem e_val {l : List Oper} (ho : nthO l k = some ⟨some d, op, ty, pos, after, none⟩) (hb : (plainO op && Nat.blt d N) = true) (he : ∀ R : MV × Dl → Prop, R (r, .none) → (eOp Pg T (VE.get E) (VM.get M) n ⟨some d, op, ty, pos, after, none⟩).runP R)
    (h : vOpsD Pg T N ents G (List.toArray l) L (⟨k, n, false, numsO (VE.get E) op.operands.toList⟩ :: A) K ((d, r) :: E) M (n + 1)) : vOpsD Pg T N ents G (List.toArray l) ((k, false) :: L) A K E M n := by
  rw [Bool.and_eq_true] at hb
  exact d_step ho (d_go (gd_val hb.1 he hb.2 h))
theorem e_mem {l : List Oper} (ho : nthO l k = some ⟨some d, op, ty, pos, after, none⟩) (hb : (plainO op && Nat.blt d N) = true) (he : ∀ R : MV × Dl → Prop, R (r, δ) → (eOp Pg T (VE.get E) (VM.get M) n ⟨some d, op, ty, pos, after, none⟩).runP R)
    (h : vOpsD Pg T N ents G (List.toArray l) L (⟨k, n, false, numsO (VE.get E) op.operands.toList⟩ :: A) K ((d, r) :: E) (δ.app n M) (n + 1)) : vOpsD Pg T N ents G (List.toArray l) ((k, false) :: L) A K E M n := by
  rw [Bool.and_eq_true] at hb
  exact d_step ho (d_go (gd_mem hb.1 he hb.2 h))
theorem e_none {l : List Oper} (ho : nthO l k = some ⟨none, op, ty, pos, after, none⟩) (hb : plainO op = true) (he : ∀ R : MV × Dl → Prop, R (r, δ) → (eOp Pg T (VE.get E) (VM.get M) n ⟨none, op, ty, pos, after, none⟩).runP R)
    (h : vOpsD Pg T N ents G (List.toArray l) L (⟨k, n, false, numsO (VE.get E) op.operands.toList⟩ :: A) K E (δ.app n M) (n + 1)) : vOpsD Pg T N ents G (List.toArray l) ((k, false) :: L) A K E M n :=
  d_step ho (d_go (gd_none hb he h))
theorem e_valY {l : List Oper} (ho : nthO l k = some ⟨some d, op, ty, pos, after, some (j, want)⟩) (hs : ((List.toArray l)[j]?).bind (·.dst) = some s) (hv : VE.get E s = some (.bool want)) (hb : (plainO op && Nat.blt d N) = true) (he : ∀ R : MV × Dl → Prop, R (r, .none) → (eOp Pg T (VE.get ((s, .bool want) :: E)) (VM.get M) n ⟨some d, op, ty, pos, after, some (j, want)⟩).runP R)
    (h : vOpsD Pg T N ents G (List.toArray l) L (⟨k, n, false, numsO (VE.get ((s, .bool want) :: E)) op.operands.toList⟩ :: A) K ((d, r) :: (s, .bool want) :: E) M (n + 1)) : vOpsD Pg T N ents G (List.toArray l) ((k, false) :: L) A K E M n := by
  rw [Bool.and_eq_true] at hb
  exact d_step ho (d_guardY hs hv (gd_val hb.1 he hb.2 h))
section
variable {f : Operand} {args : Array Operand} {ats : Array TypeId} {f0 : FuncId} {vs : List MV} {bs : List (Nat × Nat)} {res : MV}
theorem gd_callV (hd : ∀ d, dst = some d → Nat.blt d N = true) (h1 : ∀ R : FuncId × List MV × List (Nat × Nat) → Prop, R (f0, vs, bs) → (vCall E M f args.toList).runP R) (h2 : ents.contains f0 = true) (hc : SemC Pg G f0 vs res)
    (h : J (numsO (VE.get E) (Op.call ⟨.value f, args, ats⟩).operands.toList) (match dst with | some d => (d, res) :: E | none => E) (VM.bump M bs)) : vOpGD Pg T N ents G false ⟨dst, .call ⟨.value f, args, ats⟩, ty, pos, after, g⟩ J E M n := by
  show (vCall E M f args.toList).runP _
  refine h1 _ ?_
  show (match ents.contains f0 with | true => ∃ res, SemC Pg G f0 vs res ∧ _ | false => False)
  rw [h2]
  refine ⟨res, hc, ?_⟩
  unfold vPut
  cases dst with
  | none => exact h
  | some d =>
    simp only [hd d rfl]
    exact h
theorem gd_callR (hd : ∀ d, dst = some d → Nat.blt d N = true) (h1 : ∀ R : FuncId × List MV → Prop, R (f0, vs) → (vArgs E f args.toList).runP R) (h2 : ents.contains f0 = true) (fp : List Nat) {args' : List MV} {M0 : VM} {n0 : Nat} {M1 : VM} (hc : SemR Pg G f0 args' M0 n0 res M1 n0) (σ bs : List (Nat × Nat))
    (hm : LMatch 0 args' M0 n0 vs M σ bs) (h3 : allIn M σ = true) (h4 : M1.all (fun x => (sig σ x.1).isSome) = true) (h5 : subN (σ.map (·.2)) fp = true) (h6 : subN (bs.map (·.1)) fp = true)
    (h : J fp (match dst with | some d => (d, renV (rhoZ σ) res) :: E | none => E) (renM (rhoZ σ) M1 ++ delM (VM.bump M bs) σ)) : vOpGD Pg T N ents G true ⟨dst, .call ⟨.value f, args, ats⟩, ty, pos, after, g⟩ J E M n := by
  show (vArgs E f args.toList).runP _
  refine h1 _ ?_
  show (match ents.contains f0 with | true => ∃ fp, vCallZ Pg G M f0 vs fp _ | false => False)
  rw [h2]
  refine ⟨fp, args', M0, n0, res, M1, hc, σ, bs, hm, h3, h4, h5, h6, ?_⟩
  unfold vPut
  cases dst with
  | none => exact h
  | some d =>
    simp only [hd d rfl]
    exact h
theorem gd_callV1 (hd : Nat.blt d N = true) (h1 : ∀ R : FuncId × List MV × List (Nat × Nat) → Prop, R (f0, vs, bs) → (vCall E M f args.toList).runP R) (h2 : ents.contains f0 = true) (hc : SemC Pg G f0 vs res)
    (h : J (numsO (VE.get E) (Op.call ⟨.value f, args, ats⟩).operands.toList) ((d, res) :: E) (VM.bump M bs)) : vOpGD Pg T N ents G false ⟨some d, .call ⟨.value f, args, ats⟩, ty, pos, after, g⟩ J E M n := gd_callV (fun d' e => by injection e with e; subst e; exact hd) h1 h2 hc h
theorem gd_callR1 (hd : Nat.blt d N = true) (h1 : ∀ R : FuncId × List MV → Prop, R (f0, vs) → (vArgs E f args.toList).runP R) (h2 : ents.contains f0 = true) (fp : List Nat) {args' : List MV} {M0 : VM} {n0 : Nat} {M1 : VM} (hc : SemR Pg G f0 args' M0 n0 res M1 n0) (σ bs : List (Nat × Nat))
    (hm : LMatch 0 args' M0 n0 vs M σ bs) (h3 : allIn M σ = true) (h4 : M1.all (fun x => (sig σ x.1).isSome) = true) (h5 : subN (σ.map (·.2)) fp = true) (h6 : subN (bs.map (·.1)) fp = true)
    (h : J fp ((d, renV (rhoZ σ) res) :: E) (renM (rhoZ σ) M1 ++ delM (VM.bump M bs) σ)) : vOpGD Pg T N ents G true ⟨some d, .call ⟨.value f, args, ats⟩, ty, pos, after, g⟩ J E M n := gd_callR (fun d' e => by injection e with e; subst e; exact hd) h1 h2 fp hc σ bs hm h3 h4 h5 h6 h
end
end
end Go.Proofs.Ytplkofafnbfkmaa
/- Calls that neither take nor give blocks. -/
namespace Go.Proofs.Ytplkofafnbfkmaa
open Go.RowKit
mutual
/-- It mentions no block. -/
def nfree : MV → Bool
  | .tup l => nfrees l
  | .undef => true
  | m => m.idFree
def nfrees : List MV → Bool
  | [] => true
  | m :: l => nfree m && nfrees l
end
theorem renV_free {ρ : Nat → Nat} : ∀ m : MV, m.idFree = true → renV ρ m = m
  | .st l, h => by
    have h : MV.idFrees l = true := h
    simp only [renV, h, cond_true]
  | .fn f l, h => by
    have h : MV.idFrees l = true := h
    simp only [renV, h, cond_true]
  | .ifc t v, h => by
    have h : MV.idFree v = true := h
    simp only [renV, h, cond_true]
  | .ptr .., h => by cases h
  | .ms .., h => by cases h
  | .tup .., h => by cases h
  | .undef, h => by cases h
  | .int .., _ => by simp only [renV]
  | .bool .., _ => by simp only [renV]
  | .str .., _ => by simp only [renV]
  | .nilp, _ => by simp only [renV]
  | .gp .., _ => by simp only [renV]
  | .ep .., _ => by simp only [renV]
  | .sl .., _ => by simp only [renV]
  | .nils, _ => by simp only [renV]
  | .nilf, _ => by simp only [renV]
  | .nili, _ => by simp only [renV]
  | .arr .., _ => by simp only [renV]
mutual
theorem renV_nfree {ρ : Nat → Nat} : ∀ m : MV, nfree m = true → renV ρ m = m
  | .tup l, h => by
    simp only [nfree] at h
    simp only [renV, renVs_nfree l h]
  | .undef, _ => by simp only [renV]
  | .st l, h => renV_free _ (by simpa only [nfree] using h)
  | .fn f l, h => renV_free _ (by simpa only [nfree] using h)
  | .ifc t v, h => renV_free _ (by simpa only [nfree] using h)
  | .ptr .., h => by simp only [nfree] at h; cases h
  | .ms .., h => by simp only [nfree] at h; cases h
  | .int .., _ => by simp only [renV]
  | .bool .., _ => by simp only [renV]
  | .str .., _ => by simp only [renV]
  | .nilp, _ => by simp only [renV]
  | .gp .., _ => by simp only [renV]
  | .ep .., _ => by simp only [renV]
  | .sl .., _ => by simp only [renV]
  | .nils, _ => by simp only [renV]
  | .nilf, _ => by simp only [renV]
  | .nili, _ => by simp only [renV]
  | .arr .., _ => by simp only [renV]
theorem renVs_nfree {ρ : Nat → Nat} : ∀ l : List MV, nfrees l = true → renVs ρ l = l
  | [], _ => by simp only [renVs]
  | m :: l, h => by
    simp only [nfrees, Bool.and_eq_true] at h
    simp only [renVs, renV_nfree m h.1, renVs_nfree l h.2]
end
section
variable {Pg : Program} {T : Tab} {N : Nat} {ents : List FuncId} {G : GS} {ops : Array Oper} {d : Tmp} {ty : TypeId} {pos : String} {after : Array Edge} {g : Option (Nat × Bool)} {rest : List Oper} {K : VK} {E : VE} {M : VM} {n : Nat}
  {f : Operand} {args : Array Operand} {ats : Array TypeId} {f0 : FuncId} {vs : List MV} {res : MV} {J : List Nat → VE → VM → Prop}
theorem LMatch_nil {args' l : List MV} {_σ' : List (Nat × Nat)} {bs : List (Nat × Nat)} (hb : okB M bs) (h : relV.relVs (sigA 0 []) (fzb M bs) args' l) : LMatch 0 args' [] 0 l M [] bs := ⟨rfl, hb, rfl, h, trivial⟩
/-- A call by value; rows of the caller's that it is handed (bs) are written no more. -/
theorem g_call1 (hd : Nat.blt d N = true) (h1 : ∀ R : FuncId × List MV → Prop, R (f0, vs) → (vArgs E f args.toList).runP R) (h2 : ents.contains f0 = true) {args' : List MV} (hc : SemR Pg G f0 args' [] 0 res [] 0) (hf : nfree res = true) (bs : List (Nat × Nat)) (hb : okB M bs)
    (hm : relV.relVs (sigA 0 []) (fzb M bs) args' vs) (h : vOpsN Pg T N ents G ops rest K ((d, res) :: E) (VM.bump M bs) n) : vOpsG Pg T N ents G ops ⟨some d, .call ⟨.value f, args, ats⟩, ty, pos, after, g⟩ rest K E M n := by
  refine g_callR1 hd h1 h2 hc [] bs ⟨rfl, hb, rfl, hm, trivial⟩ rfl rfl ?_
  rw [renV_nfree res hf]
  exact h
theorem g_call2 (hd : Nat.blt d N = true) (h1 : ∀ R : FuncId × List MV → Prop, R (f0, vs) → (vArgs E f args.toList).runP R) (h2 : ents.contains f0 = true) {args' : List MV} (hc : SemR Pg G f0 args' [] 0 res [] 0) (hf : nfree res = true)
    (hm : relV.relVs (sigA 0 []) (fzb M []) args' vs) (h : vOpsN Pg T N ents G ops rest K ((d, res) :: E) M n) : vOpsG Pg T N ents G ops ⟨some d, .call ⟨.value f, args, ats⟩, ty, pos, after, g⟩ rest K E M n :=
  g_call1 hd h1 h2 hc hf [] trivial hm h
theorem gd_call1 (hd : Nat.blt d N = true) (h1 : ∀ R : FuncId × List MV → Prop, R (f0, vs) → (vArgs E f args.toList).runP R) (h2 : ents.contains f0 = true) (fp : List Nat) {args' : List MV} (hc : SemR Pg G f0 args' [] 0 res [] 0) (hf : nfree res = true) (bs : List (Nat × Nat)) (hb : okB M bs)
    (hm : relV.relVs (sigA 0 []) (fzb M bs) args' vs) (h6 : subN (bs.map (·.1)) fp = true) (h : J fp ((d, res) :: E) (VM.bump M bs)) : vOpGD Pg T N ents G true ⟨some d, .call ⟨.value f, args, ats⟩, ty, pos, after, g⟩ J E M n := by
  refine gd_callR1 hd h1 h2 fp hc [] bs ⟨rfl, hb, rfl, hm, trivial⟩ rfl rfl rfl h6 ?_
  rw [renV_nfree res hf]
  exact h
end
end Go.Proofs.Ytplkofafnbfkmaa
/- The seat's table of types, and the functions that have a body. Printed by gentab.py. -/
namespace Go.Proofs.Ytplkofafnbfkmaa
def tab : Tab := [(1, .fn), (2, .int .i64), (3, .int .i64), (4, .bool), (5, .int .u8), (6, .int .u8), (7, .struct [(0, 2), (1, 3), (2, 4), (3, 6)] 4), (8, .struct [(0, 2), (1, 3), (2, 4), (3, 6)] 4), (9, .str), (10, .str), (11, .str), (12, .int .u64), (13, .struct [(0, 9), (1, 12)] 2), (14, .struct [(0, 9), (1, 12)] 2), (15, .ptr), (16, .ptr), (17, .ptr), (18, .struct [(0, 17)] 1), (19, .struct [(0, 17)] 1), (20, .iface), (21, .int .i32), (22, .slice 50 41), (23, .slice 3 1), (24, .fn), (25, .fn), (26, .fn), (27, .fn), (28, .ptr), (29, .fn), (30, .fn), (31, .fn), (32, .fn), (33, .int .u64), (34, .slice 22 1), (35, .fn), (36, .slice 33 1), (37, .arr 3 3 1), (38, .slice 37 3), (39, .slice 47 32), (41, .fn), (42, .fn), (43, .fn), (44, .fn), (45, .fn), (46, .arr 32 5 1), (47, .arr 32 5 1), (48, .slice 5 1), (49, .struct [(0, 47), (32, 48), (33, 9), (34, 33), (35, 33), (36, 33), (37, 3), (38, 3), (39, 3), (40, 23)] 41), (50, .struct [(0, 47), (32, 48), (33, 9), (34, 33), (35, 33), (36, 33), (37, 3), (38, 3), (39, 3), (40, 23)] 41), (51, .fn), (52, .slice 23 1), (53, .fn), (54, .fn), (55, .struct [(0, 23), (1, 3)] 2), (56, .struct [(0, 23), (1, 3)] 2), (57, .fn), (58, .fn), (59, .fn), (60, .fn), (61, .fn), (62, .fn), (63, .fn), (64, .fn), (65, .fn), (66, .fn), (67, .ptr), (68, .int .u64), (69, .struct [(0, 17), (1, 67), (2, 68)] 3), (70, .struct [(0, 17), (1, 67), (2, 68)] 3), (71, .fn), (72, .fn), (73, .fn), (74, .fn), (75, .struct [(0, 60), (1, 72)] 2), (76, .struct [(0, 60), (1, 72)] 2), (77, .fn), (78, .int .u32), (79, .arr 8 78 1), (80, .fn), (81, .slice 9 1), (82, .fn), (83, .fn), (84, .struct [(0, 17)] 1), (85, .struct [(0, 17)] 1), (86, .ptr), (87, .fn), (88, .fn), (89, .arr 64 78 1), (90, .int .u64), (91, .fn), (92, .fn), (93, .fn), (94, .struct [(0, 17), (1, 17), (2, 17), (3, 9)] 4), (95, .struct [(0, 17), (1, 17), (2, 17), (3, 9)] 4), (99, .int .u8), (100, .int .u8), (101, .fn), (102, .ptr), (103, .int .i32), (104, .int .i32), (105, .struct [(0, 12), (1, 12), (2, 78), (3, 99), (4, 5), (5, 5), (6, 100), (7, 101), (8, 102), (9, 103), (10, 104)] 11), (106, .struct [(0, 12), (1, 12), (2, 78), (3, 99), (4, 5), (5, 5), (6, 100), (7, 101), (8, 102), (9, 103), (10, 104)] 11), (107, .struct [(0, 9), (1, 100)] 2), (108, .struct [(0, 9), (1, 100)] 2)]
def ents : List FuncId := [2, 3, 4, 5, 6, 7, 8, 9, 10, 11, 12, 13, 14, 15, 16, 17, 18, 19, 20, 21, 22, 23, 24, 25, 26, 27, 28, 29, 30, 31, 32, 33, 34, 37, 39, 40, 41, 51, 52, 53, 54, 55, 56]
def entB (P : Program) (f : FuncId) : Bool := match P.funcs[f]? with | some fn => fn.body.isSome && !(fn.name == "runtime.NumGoroutine") | none => false
theorem enters_of_entB {P : Program} {f : FuncId} (h : entB P f = true) (args : Array Value) (w : World) : (callFunc f args).run P w = .ok (.enter f args) w := by
  unfold entB at h
  split at h
  · rename_i fn hf
    simp only [Bool.and_eq_true, Bool.not_eq_true'] at h
    obtain ⟨h1, h2⟩ := h
    obtain ⟨c, hc⟩ := Option.isSome_iff_exists.1 h1
    exact enters_of hf h2 hc args w
  · cases h
theorem seat : Seat Try.prog tab ents := ⟨⟨by kernel_rfl⟩, fun f hf => enters_of_entB (List.all_eq_true.1 (show ents.all (entB Try.prog) = true by kernel_rfl) f hf), by kernel_rfl⟩
end Go.Proofs.Ytplkofafnbfkmaa
/- Words for walks over trees. -/
namespace Go.Proofs.Ytplkofafnbfkmaa
open Go.RowKit
theorem sv {α : Type} {a b : α} (h : a = b) : some a = some b := congrArg some h
theorem VMatch.of {n0 : Nat} {E' : VE} {M' : VM} {n' : Nat} {E : VE} {M : VM} (σ bs : List (Nat × Nat)) (h1 : mE (sigA n0 σ) (fzb M bs) E' E) (h2 : mM (sigA n0 σ) (fzb M bs) M' (VM.bump M bs)) (h3 : okSg n0 n' σ = true) (h4 : okB M bs) (h5 : M'.all (fun x => Nat.blt x.1 n') = true) : VMatch n0 E' M' n' E M := ⟨σ, bs, h3, h4, h5, h1, h2⟩
theorem emod_of (x n : Int) (hn : 0 < n) : (if x.tmod n < 0 then x.tmod n + n else x.tmod n) = x % n := by
  rw [Int.tmod_eq_emod]
  have h1 := Int.emod_nonneg x (show n ≠ 0 by omega)
  have h2 := Int.emod_lt_of_pos x hn
  have e : (n.natAbs : Int) = n := by omega
  split <;> split at * <;> omega
theorem index_at {l : List MV} {n k : Nat} {x : MV} (hk : k < n) (hx : l[k]? = some x) : idxL l n (k : Int) = some x := by
  unfold idxL
  rw [if_pos (by omega)]
  simpa using hx
theorem idx_at {n k : Nat} (hk : k < n) : idx n (k : Int) = some k := by
  unfold idx
  rw [if_pos (by omega)]
  simp
theorem cut_all {α : Type} (f : α → MV) (l : List α) : cutL (l.map f) 0 (0 + l.length) = l.map f := by simp [cutL, List.take_of_length_le]
theorem app_ok {n m k : Nat} (hb : Nat.ble k 4096 = true) (h : n + m ≤ 2000000000) : (n + m) * k ≤ 140737488355328 ∧ n + m ≤ maxLen := by
  have hb := Nat.le_of_ble_eq_true hb
  have := Nat.mul_le_mul h hb
  have e : maxLen = 9223372036854775807 := rfl
  omega
/-- The lists that the statements draw from. -/
def intsM (l : List Int) : MV := .sl l.length (l.map (.int .i64))
theorem intsM_at {l : List Int} {k : Nat} (hk : k < l.length) : idxL (l.map (MV.int .i64)) l.length (k : Int) = some (.int .i64 l[k]) := index_at hk (by simp [hk])
end Go.Proofs.Ytplkofafnbfkmaa
/- Equal things, compared. -/
namespace Go.Proofs.Ytplkofafnbfkmaa
open Go.RowKit
variable {R : MV × Dl → Prop}
theorem eqs_i {x : Int} (h : R (.bool true, .none)) : R (.bool (x == x), .none) := by rw [beq_self_eq_true]; exact h
theorem nes_i {x : Int} (h : R (.bool false, .none)) : R (.bool (x != x), .none) := by rw [bne_self_eq_false]; exact h
theorem eqs_s {x : List UInt8} (h : R (.bool true, .none)) : R (.bool (x == x), .none) := by rw [beq_self_eq_true]; exact h
theorem nes_s {x : List UInt8} (h : R (.bool false, .none)) : R (.bool (!(x == x)), .none) := by rw [beq_self_eq_true]; exact h
theorem bytesM_u8 : ∀ l : List UInt8, bytesM (u8s l) = some l
  | [] => rfl
  | a :: l => by
    show (if 0 ≤ (a.toNat : Int) ∧ (a.toNat : Int) < 256 then (match bytesM (u8s l) with | some r => some (UInt8.ofNat (Int.toNat (a.toNat : Int)) :: r) | none => none) else none) = _
    have := a.toNat_lt
    rw [if_pos (by omega), bytesM_u8 l]
    simp
end Go.Proofs.Ytplkofafnbfkmaa
/- Words of 32 and 64 bits and bytes, as the operations on numbers make them. -/
namespace Go.Proofs.Ytplkofafnbfkmaa
open Go.RowKit
theorem w32 (n : Int) : IntKind.u32.wrap n = n % 4294967296 := by
  simp only [IntKind.wrap, IntKind.bits, IntKind.signed]; simp
theorem w8 (n : Int) : IntKind.u8.wrap n = n % 256 := by
  simp only [IntKind.wrap, IntKind.bits, IntKind.signed]; simp
theorem wu64 (n : Int) : IntKind.u64.wrap n = n % 18446744073709551616 := by
  simp only [IntKind.wrap, IntKind.bits, IntKind.signed]; simp
abbrev u32M (x : UInt32) : MV := .int .u32 x.toNat
abbrev u8M (x : UInt8) : MV := .int .u8 x.toNat
abbrev u64M (x : UInt64) : MV := .int .u64 x.toNat
theorem bv_of (n m : Nat) (h : m < 2 ^ n) : (BitVec.ofInt n (m : Int)).toNat = m := by
  rw [BitVec.toNat_ofInt]
  have e : ((2 ^ n : Nat) : Int) = (2 : Int) ^ n := by simp
  have : ((m : Int) % ((2 ^ n : Nat) : Int)).toNat = m := by
    rw [← Int.natCast_emod, Int.toNat_natCast, Nat.mod_eq_of_lt h]
  exact this
theorem t32 (x : UInt32) : x.toNat < 4294967296 := x.toNat_lt
theorem t8 (x : UInt8) : x.toNat < 256 := x.toNat_lt
theorem t64 (x : UInt64) : x.toNat < 18446744073709551616 := x.toNat_lt
theorem add32 (x y : UInt32) : IntKind.u32.wrap ((x.toNat : Int) + (y.toNat : Int)) = ((x + y).toNat : Int) := by
  rw [w32, UInt32.toNat_add]; omega
theorem add64 (x y : UInt64) : IntKind.u64.wrap ((x.toNat : Int) + (y.toNat : Int)) = ((x + y).toNat : Int) := by
  rw [wu64, UInt64.toNat_add]; omega
theorem and32 (x y : UInt32) : IntKind.u32.wrap ((BitVec.ofInt IntKind.u32.bits (x.toNat : Int) &&& BitVec.ofInt IntKind.u32.bits (y.toNat : Int)).toNat : Int) = ((x &&& y).toNat : Int) := by
  have h := t32 (x &&& y)
  rw [BitVec.toNat_and, bv_of _ _ (t32 x), bv_of _ _ (t32 y), ← UInt32.toNat_and, w32]; omega
theorem or32 (x y : UInt32) : IntKind.u32.wrap ((BitVec.ofInt IntKind.u32.bits (x.toNat : Int) ||| BitVec.ofInt IntKind.u32.bits (y.toNat : Int)).toNat : Int) = ((x ||| y).toNat : Int) := by
  have h := t32 (x ||| y)
  rw [BitVec.toNat_or, bv_of _ _ (t32 x), bv_of _ _ (t32 y), ← UInt32.toNat_or, w32]; omega
theorem xor32 (x y : UInt32) : IntKind.u32.wrap ((BitVec.ofInt IntKind.u32.bits (x.toNat : Int) ^^^ BitVec.ofInt IntKind.u32.bits (y.toNat : Int)).toNat : Int) = ((x ^^^ y).toNat : Int) := by
  have h := t32 (x ^^^ y)
  rw [BitVec.toNat_xor, bv_of _ _ (t32 x), bv_of _ _ (t32 y), ← UInt32.toNat_xor, w32]; omega
theorem not32 (y : UInt32) : IntKind.u32.wrap ((BitVec.ofInt IntKind.u32.bits (if IntKind.u32.signed then -1 else IntKind.u32.max) ^^^ BitVec.ofInt IntKind.u32.bits (y.toNat : Int)).toNat : Int) = ((~~~y).toNat : Int) := by
  have e : (if IntKind.u32.signed then (-1 : Int) else IntKind.u32.max) = (((-1 : UInt32)).toNat : Int) := by rfl
  rw [e, xor32]
  have h : (-1 : UInt32) ^^^ y = ~~~y := by
    apply UInt32.toBitVec_inj.1
    rw [UInt32.toBitVec_xor, UInt32.toBitVec_not]
    exact BitVec.allOnes_xor
  rw [h]
theorem shl32 (x : UInt32) (k : Nat) (hk : k < 32) : IntKind.u32.wrap ((x.toNat : Int) * 2 ^ (min (k : Int).toNat IntKind.u32.bits)) = ((x <<< UInt32.ofNat k).toNat : Int) := by
  have e : min (k : Int).toNat IntKind.u32.bits = k := by simp [IntKind.bits]; omega
  rw [e, w32, UInt32.toNat_shiftLeft, UInt32.toNat_ofNat', Nat.mod_eq_of_lt (show k < 2 ^ 32 by omega), Nat.mod_eq_of_lt hk, Nat.shiftLeft_eq]
  rw [show (x.toNat : Int) * 2 ^ k = ((x.toNat * 2 ^ k : Nat) : Int) by rw [Int.natCast_mul, Int.natCast_pow]; rfl]
  exact (Int.natCast_emod (x.toNat * 2 ^ k) 4294967296).symm
theorem shr32 (x : UInt32) (k : Nat) (hk : k < 32) : ((x.toNat : Int).fdiv (2 ^ (min (k : Int).toNat IntKind.u32.bits))) = ((x >>> UInt32.ofNat k).toNat : Int) := by
  have e : min (k : Int).toNat IntKind.u32.bits = k := by simp [IntKind.bits]; omega
  rw [e, UInt32.toNat_shiftRight, UInt32.toNat_ofNat', Nat.mod_eq_of_lt (show k < 2 ^ 32 by omega), Nat.mod_eq_of_lt hk, Nat.shiftRight_eq_div_pow, Int.fdiv_eq_ediv_of_nonneg _ (Int.le_of_lt (Int.pow_pos (by omega)))]
  rw [Int.natCast_ediv, Int.natCast_pow]; rfl
theorem shlI (x : UInt32) (j : Int) (h0 : 0 ≤ j) (h1 : j < 32) : IntKind.u32.wrap ((x.toNat : Int) * 2 ^ (min j.toNat IntKind.u32.bits)) = ((x <<< UInt32.ofNat j.toNat).toNat : Int) := by
  have := shl32 x j.toNat (by omega)
  rwa [Int.toNat_of_nonneg h0] at this
theorem shrI (x : UInt32) (j : Int) (h0 : 0 ≤ j) (h1 : j < 32) : ((x.toNat : Int).fdiv (2 ^ (min j.toNat IntKind.u32.bits))) = ((x >>> UInt32.ofNat j.toNat).toNat : Int) := by
  have := shr32 x j.toNat (by omega)
  rwa [Int.toNat_of_nonneg h0] at this
theorem conv832 (x : UInt8) : IntKind.u32.wrap (x.toNat : Int) = ((x.toUInt32).toNat : Int) := by
  have := t8 x
  rw [w32, UInt8.toNat_toUInt32]; omega
theorem conv328 (x : UInt32) : IntKind.u8.wrap (x.toNat : Int) = ((x.toUInt8).toNat : Int) := by
  rw [w8, UInt32.toNat_toUInt8]; omega
end Go.Proofs.Ytplkofafnbfkmaa
/- Steps of a walk, in one word each: what has to be tried stands here once. -/
namespace Go.Proofs.Ytplkofafnbfkmaa
open Go.RowKit
structure Box (q : Prop) : Prop where
  out : q
/-- Facts that a walk may use: an equation for a value, what a look-up gives, a side condition. -/
structure EqF {α : Type} (a b : α) : Prop where
  out : a = b
structure SomF {α : Type} (a : Option α) (b : α) : Prop where
  out' : a = some b
theorem SomF.out {α : Type} {a : Option α} {b : α} (h : SomF a b) : a = some b := h.out'
structure SideF (p : Prop) : Prop where
  out : p
theorem pf {p : Prop} (h : p := by first | rfl | omega | (simp [u8s, cutL, setL, repM, List.replicate_succ', List.range_succ]; done) | (simp [u8s, cutL, setL, repM]; omega)) : p := h
theorem rv {p : Prop} (h : p := by (first | exact ⟨rfl, rfl⟩ | exact .inr ⟨rfl, rfl⟩ | exact .inr ⟨rfl, rfl, rfl, Nat.le_refl _, rfl⟩ | exact .inl rfl | exact .inl ⟨rfl, rfl⟩ | exact ⟨_, rfl, rfl⟩ | exact .inr ⟨_, rfl, rfl⟩ | exact .inl ⟨rfl, rfl, rfl⟩ | exact ⟨congrArg (MV.int _) (by omega), rfl⟩ | exact .inr ⟨rfl, rfl, rfl, Nat.le_of_eq (Nat.zero_add _), cut_all _ _⟩ | (refine .inr ⟨_, rfl, ?_⟩; focus (first | exact ⟨rfl, rfl⟩ | exact .inr ⟨rfl, rfl⟩ | exact .inr ⟨rfl, rfl, rfl, Nat.le_refl _, rfl⟩ | exact .inl rfl | exact .inl ⟨rfl, rfl⟩ | exact ⟨_, rfl, rfl⟩ | exact .inr ⟨_, rfl, rfl⟩ | exact .inl ⟨rfl, rfl, rfl⟩ | exact ⟨congrArg (MV.int _) (by omega), rfl⟩ | exact .inr ⟨rfl, rfl, rfl, Nat.le_of_eq (Nat.zero_add _), cut_all _ _⟩ | (refine .inr ⟨_, rfl, ?_⟩; focus (first | exact ⟨rfl, rfl⟩ | exact .inr ⟨rfl, rfl⟩ | exact .inr ⟨rfl, rfl, rfl, Nat.le_refl _, rfl⟩ | exact .inl rfl | exact .inl ⟨rfl, rfl⟩ | exact ⟨_, rfl, rfl⟩ | exact .inr ⟨_, rfl, rfl⟩ | exact .inl ⟨rfl, rfl, rfl⟩ | exact ⟨congrArg (MV.int _) (by omega), rfl⟩ | exact .inr ⟨rfl, rfl, rfl, Nat.le_of_eq (Nat.zero_add _), cut_all _ _⟩ | (refine .inr ⟨_, rfl, ?_⟩; focus (first | exact ⟨rfl, rfl⟩ | exact .inr ⟨rfl, rfl⟩ | exact .inr ⟨rfl, rfl, rfl, Nat.le_refl _, rfl⟩ | exact .inl rfl | exact .inl ⟨rfl, rfl⟩ | exact ⟨_, rfl, rfl⟩ | exact .inr ⟨_, rfl, rfl⟩ | exact .inl ⟨rfl, rfl, rfl⟩ | exact ⟨congrArg (MV.int _) (by omega), rfl⟩ | exact .inr ⟨rfl, rfl, rfl, Nat.le_of_eq (Nat.zero_add _), cut_all _ _⟩); done) | (refine .inr ⟨_, rfl, ?_⟩; focus (repeat (first | exact trivial | (refine And.intro ?_ ?_; focus (first | exact ⟨rfl, rfl⟩ | exact .inr ⟨rfl, rfl⟩ | exact .inr ⟨rfl, rfl, rfl, Nat.le_refl _, rfl⟩ | exact .inl rfl | exact .inl ⟨rfl, rfl⟩ | exact ⟨_, rfl, rfl⟩ | exact .inr ⟨_, rfl, rfl⟩ | exact .inl ⟨rfl, rfl, rfl⟩ | exact ⟨congrArg (MV.int _) (by omega), rfl⟩ | exact .inr ⟨rfl, rfl, rfl, Nat.le_of_eq (Nat.zero_add _), cut_all _ _⟩)))); done)); done) | (refine .inr ⟨_, rfl, ?_⟩; focus (repeat (first | exact trivial | (refine And.intro ?_ ?_; focus (first | exact ⟨rfl, rfl⟩ | exact .inr ⟨rfl, rfl⟩ | exact .inr ⟨rfl, rfl, rfl, Nat.le_refl _, rfl⟩ | exact .inl rfl | exact .inl ⟨rfl, rfl⟩ | exact ⟨_, rfl, rfl⟩ | exact .inr ⟨_, rfl, rfl⟩ | exact .inl ⟨rfl, rfl, rfl⟩ | exact ⟨congrArg (MV.int _) (by omega), rfl⟩ | exact .inr ⟨rfl, rfl, rfl, Nat.le_of_eq (Nat.zero_add _), cut_all _ _⟩ | (refine .inr ⟨_, rfl, ?_⟩; focus (first | exact ⟨rfl, rfl⟩ | exact .inr ⟨rfl, rfl⟩ | exact .inr ⟨rfl, rfl, rfl, Nat.le_refl _, rfl⟩ | exact .inl rfl | exact .inl ⟨rfl, rfl⟩ | exact ⟨_, rfl, rfl⟩ | exact .inr ⟨_, rfl, rfl⟩ | exact .inl ⟨rfl, rfl, rfl⟩ | exact ⟨congrArg (MV.int _) (by omega), rfl⟩ | exact .inr ⟨rfl, rfl, rfl, Nat.le_of_eq (Nat.zero_add _), cut_all _ _⟩); done) | (refine .inr ⟨_, rfl, ?_⟩; focus (repeat (first | exact trivial | (refine And.intro ?_ ?_; focus (first | exact ⟨rfl, rfl⟩ | exact .inr ⟨rfl, rfl⟩ | exact .inr ⟨rfl, rfl, rfl, Nat.le_refl _, rfl⟩ | exact .inl rfl | exact .inl ⟨rfl, rfl⟩ | exact ⟨_, rfl, rfl⟩ | exact .inr ⟨_, rfl, rfl⟩ | exact .inl ⟨rfl, rfl, rfl⟩ | exact ⟨congrArg (MV.int _) (by omega), rfl⟩ | exact .inr ⟨rfl, rfl, rfl, Nat.le_of_eq (Nat.zero_add _), cut_all _ _⟩)))); done))))); done)); done) | (refine .inr ⟨_, rfl, ?_⟩; focus (repeat (first | exact trivial | (refine And.intro ?_ ?_; focus (first | exact ⟨rfl, rfl⟩ | exact .inr ⟨rfl, rfl⟩ | exact .inr ⟨rfl, rfl, rfl, Nat.le_refl _, rfl⟩ | exact .inl rfl | exact .inl ⟨rfl, rfl⟩ | exact ⟨_, rfl, rfl⟩ | exact .inr ⟨_, rfl, rfl⟩ | exact .inl ⟨rfl, rfl, rfl⟩ | exact ⟨congrArg (MV.int _) (by omega), rfl⟩ | exact .inr ⟨rfl, rfl, rfl, Nat.le_of_eq (Nat.zero_add _), cut_all _ _⟩ | (refine .inr ⟨_, rfl, ?_⟩; focus (first | exact ⟨rfl, rfl⟩ | exact .inr ⟨rfl, rfl⟩ | exact .inr ⟨rfl, rfl, rfl, Nat.le_refl _, rfl⟩ | exact .inl rfl | exact .inl ⟨rfl, rfl⟩ | exact ⟨_, rfl, rfl⟩ | exact .inr ⟨_, rfl, rfl⟩ | exact .inl ⟨rfl, rfl, rfl⟩ | exact ⟨congrArg (MV.int _) (by omega), rfl⟩ | exact .inr ⟨rfl, rfl, rfl, Nat.le_of_eq (Nat.zero_add _), cut_all _ _⟩ | (refine .inr ⟨_, rfl, ?_⟩; focus (first | exact ⟨rfl, rfl⟩ | exact .inr ⟨rfl, rfl⟩ | exact .inr ⟨rfl, rfl, rfl, Nat.le_refl _, rfl⟩ | exact .inl rfl | exact .inl ⟨rfl, rfl⟩ | exact ⟨_, rfl, rfl⟩ | exact .inr ⟨_, rfl, rfl⟩ | exact .inl ⟨rfl, rfl, rfl⟩ | exact ⟨congrArg (MV.int _) (by omega), rfl⟩ | exact .inr ⟨rfl, rfl, rfl, Nat.le_of_eq (Nat.zero_add _), cut_all _ _⟩); done) | (refine .inr ⟨_, rfl, ?_⟩; focus (repeat (first | exact trivial | (refine And.intro ?_ ?_; focus (first | exact ⟨rfl, rfl⟩ | exact .inr ⟨rfl, rfl⟩ | exact .inr ⟨rfl, rfl, rfl, Nat.le_refl _, rfl⟩ | exact .inl rfl | exact .inl ⟨rfl, rfl⟩ | exact ⟨_, rfl, rfl⟩ | exact .inr ⟨_, rfl, rfl⟩ | exact .inl ⟨rfl, rfl, rfl⟩ | exact ⟨congrArg (MV.int _) (by omega), rfl⟩ | exact .inr ⟨rfl, rfl, rfl, Nat.le_of_eq (Nat.zero_add _), cut_all _ _⟩)))); done)); done) | (refine .inr ⟨_, rfl, ?_⟩; focus (repeat (first | exact trivial | (refine And.intro ?_ ?_; focus (first | exact ⟨rfl, rfl⟩ | exact .inr ⟨rfl, rfl⟩ | exact .inr ⟨rfl, rfl, rfl, Nat.le_refl _, rfl⟩ | exact .inl rfl | exact .inl ⟨rfl, rfl⟩ | exact ⟨_, rfl, rfl⟩ | exact .inr ⟨_, rfl, rfl⟩ | exact .inl ⟨rfl, rfl, rfl⟩ | exact ⟨congrArg (MV.int _) (by omega), rfl⟩ | exact .inr ⟨rfl, rfl, rfl, Nat.le_of_eq (Nat.zero_add _), cut_all _ _⟩ | (refine .inr ⟨_, rfl, ?_⟩; focus (first | exact ⟨rfl, rfl⟩ | exact .inr ⟨rfl, rfl⟩ | exact .inr ⟨rfl, rfl, rfl, Nat.le_refl _, rfl⟩ | exact .inl rfl | exact .inl ⟨rfl, rfl⟩ | exact ⟨_, rfl, rfl⟩ | exact .inr ⟨_, rfl, rfl⟩ | exact .inl ⟨rfl, rfl, rfl⟩ | exact ⟨congrArg (MV.int _) (by omega), rfl⟩ | exact .inr ⟨rfl, rfl, rfl, Nat.le_of_eq (Nat.zero_add _), cut_all _ _⟩); done) | (refine .inr ⟨_, rfl, ?_⟩; focus (repeat (first | exact trivial | (refine And.intro ?_ ?_; focus (first | exact ⟨rfl, rfl⟩ | exact .inr ⟨rfl, rfl⟩ | exact .inr ⟨rfl, rfl, rfl, Nat.le_refl _, rfl⟩ | exact .inl rfl | exact .inl ⟨rfl, rfl⟩ | exact ⟨_, rfl, rfl⟩ | exact .inr ⟨_, rfl, rfl⟩ | exact .inl ⟨rfl, rfl, rfl⟩ | exact ⟨congrArg (MV.int _) (by omega), rfl⟩ | exact .inr ⟨rfl, rfl, rfl, Nat.le_of_eq (Nat.zero_add _), cut_all _ _⟩)))); done))))); done))))); done))) : p := h
theorem lm {p : Prop} (h : p := by (repeat (first | exact trivial | (refine And.intro ?_ ?_; focus (first | exact ⟨rfl, rfl⟩ | exact .inr ⟨rfl, rfl⟩ | exact .inr ⟨rfl, rfl, rfl, Nat.le_refl _, rfl⟩ | exact .inl rfl | exact .inl ⟨rfl, rfl⟩ | exact ⟨_, rfl, rfl⟩ | exact .inr ⟨_, rfl, rfl⟩ | exact .inl ⟨rfl, rfl, rfl⟩ | exact ⟨congrArg (MV.int _) (by omega), rfl⟩ | exact .inr ⟨rfl, rfl, rfl, Nat.le_of_eq (Nat.zero_add _), cut_all _ _⟩ | (refine .inr ⟨_, rfl, ?_⟩; focus (first | exact ⟨rfl, rfl⟩ | exact .inr ⟨rfl, rfl⟩ | exact .inr ⟨rfl, rfl, rfl, Nat.le_refl _, rfl⟩ | exact .inl rfl | exact .inl ⟨rfl, rfl⟩ | exact ⟨_, rfl, rfl⟩ | exact .inr ⟨_, rfl, rfl⟩ | exact .inl ⟨rfl, rfl, rfl⟩ | exact ⟨congrArg (MV.int _) (by omega), rfl⟩ | exact .inr ⟨rfl, rfl, rfl, Nat.le_of_eq (Nat.zero_add _), cut_all _ _⟩ | (refine .inr ⟨_, rfl, ?_⟩; focus (first | exact ⟨rfl, rfl⟩ | exact .inr ⟨rfl, rfl⟩ | exact .inr ⟨rfl, rfl, rfl, Nat.le_refl _, rfl⟩ | exact .inl rfl | exact .inl ⟨rfl, rfl⟩ | exact ⟨_, rfl, rfl⟩ | exact .inr ⟨_, rfl, rfl⟩ | exact .inl ⟨rfl, rfl, rfl⟩ | exact ⟨congrArg (MV.int _) (by omega), rfl⟩ | exact .inr ⟨rfl, rfl, rfl, Nat.le_of_eq (Nat.zero_add _), cut_all _ _⟩); done) | (refine .inr ⟨_, rfl, ?_⟩; focus (repeat (first | exact trivial | (refine And.intro ?_ ?_; focus (first | exact ⟨rfl, rfl⟩ | exact .inr ⟨rfl, rfl⟩ | exact .inr ⟨rfl, rfl, rfl, Nat.le_refl _, rfl⟩ | exact .inl rfl | exact .inl ⟨rfl, rfl⟩ | exact ⟨_, rfl, rfl⟩ | exact .inr ⟨_, rfl, rfl⟩ | exact .inl ⟨rfl, rfl, rfl⟩ | exact ⟨congrArg (MV.int _) (by omega), rfl⟩ | exact .inr ⟨rfl, rfl, rfl, Nat.le_of_eq (Nat.zero_add _), cut_all _ _⟩)))); done)); done) | (refine .inr ⟨_, rfl, ?_⟩; focus (repeat (first | exact trivial | (refine And.intro ?_ ?_; focus (first | exact ⟨rfl, rfl⟩ | exact .inr ⟨rfl, rfl⟩ | exact .inr ⟨rfl, rfl, rfl, Nat.le_refl _, rfl⟩ | exact .inl rfl | exact .inl ⟨rfl, rfl⟩ | exact ⟨_, rfl, rfl⟩ | exact .inr ⟨_, rfl, rfl⟩ | exact .inl ⟨rfl, rfl, rfl⟩ | exact ⟨congrArg (MV.int _) (by omega), rfl⟩ | exact .inr ⟨rfl, rfl, rfl, Nat.le_of_eq (Nat.zero_add _), cut_all _ _⟩ | (refine .inr ⟨_, rfl, ?_⟩; focus (first | exact ⟨rfl, rfl⟩ | exact .inr ⟨rfl, rfl⟩ | exact .inr ⟨rfl, rfl, rfl, Nat.le_refl _, rfl⟩ | exact .inl rfl | exact .inl ⟨rfl, rfl⟩ | exact ⟨_, rfl, rfl⟩ | exact .inr ⟨_, rfl, rfl⟩ | exact .inl ⟨rfl, rfl, rfl⟩ | exact ⟨congrArg (MV.int _) (by omega), rfl⟩ | exact .inr ⟨rfl, rfl, rfl, Nat.le_of_eq (Nat.zero_add _), cut_all _ _⟩); done) | (refine .inr ⟨_, rfl, ?_⟩; focus (repeat (first | exact trivial | (refine And.intro ?_ ?_; focus (first | exact ⟨rfl, rfl⟩ | exact .inr ⟨rfl, rfl⟩ | exact .inr ⟨rfl, rfl, rfl, Nat.le_refl _, rfl⟩ | exact .inl rfl | exact .inl ⟨rfl, rfl⟩ | exact ⟨_, rfl, rfl⟩ | exact .inr ⟨_, rfl, rfl⟩ | exact .inl ⟨rfl, rfl, rfl⟩ | exact ⟨congrArg (MV.int _) (by omega), rfl⟩ | exact .inr ⟨rfl, rfl, rfl, Nat.le_of_eq (Nat.zero_add _), cut_all _ _⟩)))); done))))); done)))))) : p := h
theorem mm {p : Prop} (h : p := by (repeat (first | exact trivial | refine ⟨Nat.le_refl _, ?_⟩ | (refine ⟨⟨_, rfl, ?_⟩, ?_⟩; focus (first | exact ⟨rfl, rfl⟩ | exact .inr ⟨rfl, rfl⟩ | exact .inr ⟨rfl, rfl, rfl, Nat.le_refl _, rfl⟩ | exact .inl rfl | exact .inl ⟨rfl, rfl⟩ | exact ⟨_, rfl, rfl⟩ | exact .inr ⟨_, rfl, rfl⟩ | exact .inl ⟨rfl, rfl, rfl⟩ | exact ⟨congrArg (MV.int _) (by omega), rfl⟩ | exact .inr ⟨rfl, rfl, rfl, Nat.le_of_eq (Nat.zero_add _), cut_all _ _⟩ | (refine .inr ⟨_, rfl, ?_⟩; focus (first | exact ⟨rfl, rfl⟩ | exact .inr ⟨rfl, rfl⟩ | exact .inr ⟨rfl, rfl, rfl, Nat.le_refl _, rfl⟩ | exact .inl rfl | exact .inl ⟨rfl, rfl⟩ | exact ⟨_, rfl, rfl⟩ | exact .inr ⟨_, rfl, rfl⟩ | exact .inl ⟨rfl, rfl, rfl⟩ | exact ⟨congrArg (MV.int _) (by omega), rfl⟩ | exact .inr ⟨rfl, rfl, rfl, Nat.le_of_eq (Nat.zero_add _), cut_all _ _⟩ | (refine .inr ⟨_, rfl, ?_⟩; focus (first | exact ⟨rfl, rfl⟩ | exact .inr ⟨rfl, rfl⟩ | exact .inr ⟨rfl, rfl, rfl, Nat.le_refl _, rfl⟩ | exact .inl rfl | exact .inl ⟨rfl, rfl⟩ | exact ⟨_, rfl, rfl⟩ | exact .inr ⟨_, rfl, rfl⟩ | exact .inl ⟨rfl, rfl, rfl⟩ | exact ⟨congrArg (MV.int _) (by omega), rfl⟩ | exact .inr ⟨rfl, rfl, rfl, Nat.le_of_eq (Nat.zero_add _), cut_all _ _⟩ | (refine .inr ⟨_, rfl, ?_⟩; focus (first | exact ⟨rfl, rfl⟩ | exact .inr ⟨rfl, rfl⟩ | exact .inr ⟨rfl, rfl, rfl, Nat.le_refl _, rfl⟩ | exact .inl rfl | exact .inl ⟨rfl, rfl⟩ | exact ⟨_, rfl, rfl⟩ | exact .inr ⟨_, rfl, rfl⟩ | exact .inl ⟨rfl, rfl, rfl⟩ | exact ⟨congrArg (MV.int _) (by omega), rfl⟩ | exact .inr ⟨rfl, rfl, rfl, Nat.le_of_eq (Nat.zero_add _), cut_all _ _⟩); done) | (refine .inr ⟨_, rfl, ?_⟩; focus (repeat (first | exact trivial | (refine And.intro ?_ ?_; focus (first | exact ⟨rfl, rfl⟩ | exact .inr ⟨rfl, rfl⟩ | exact .inr ⟨rfl, rfl, rfl, Nat.le_refl _, rfl⟩ | exact .inl rfl | exact .inl ⟨rfl, rfl⟩ | exact ⟨_, rfl, rfl⟩ | exact .inr ⟨_, rfl, rfl⟩ | exact .inl ⟨rfl, rfl, rfl⟩ | exact ⟨congrArg (MV.int _) (by omega), rfl⟩ | exact .inr ⟨rfl, rfl, rfl, Nat.le_of_eq (Nat.zero_add _), cut_all _ _⟩)))); done)); done) | (refine .inr ⟨_, rfl, ?_⟩; focus (repeat (first | exact trivial | (refine And.intro ?_ ?_; focus (first | exact ⟨rfl, rfl⟩ | exact .inr ⟨rfl, rfl⟩ | exact .inr ⟨rfl, rfl, rfl, Nat.le_refl _, rfl⟩ | exact .inl rfl | exact .inl ⟨rfl, rfl⟩ | exact ⟨_, rfl, rfl⟩ | exact .inr ⟨_, rfl, rfl⟩ | exact .inl ⟨rfl, rfl, rfl⟩ | exact ⟨congrArg (MV.int _) (by omega), rfl⟩ | exact .inr ⟨rfl, rfl, rfl, Nat.le_of_eq (Nat.zero_add _), cut_all _ _⟩ | (refine .inr ⟨_, rfl, ?_⟩; focus (first | exact ⟨rfl, rfl⟩ | exact .inr ⟨rfl, rfl⟩ | exact .inr ⟨rfl, rfl, rfl, Nat.le_refl _, rfl⟩ | exact .inl rfl | exact .inl ⟨rfl, rfl⟩ | exact ⟨_, rfl, rfl⟩ | exact .inr ⟨_, rfl, rfl⟩ | exact .inl ⟨rfl, rfl, rfl⟩ | exact ⟨congrArg (MV.int _) (by omega), rfl⟩ | exact .inr ⟨rfl, rfl, rfl, Nat.le_of_eq (Nat.zero_add _), cut_all _ _⟩); done) | (refine .inr ⟨_, rfl, ?_⟩; focus (repeat (first | exact trivial | (refine And.intro ?_ ?_; focus (first | exact ⟨rfl, rfl⟩ | exact .inr ⟨rfl, rfl⟩ | exact .inr ⟨rfl, rfl, rfl, Nat.le_refl _, rfl⟩ | exact .inl rfl | exact .inl ⟨rfl, rfl⟩ | exact ⟨_, rfl, rfl⟩ | exact .inr ⟨_, rfl, rfl⟩ | exact .inl ⟨rfl, rfl, rfl⟩ | exact ⟨congrArg (MV.int _) (by omega), rfl⟩ | exact .inr ⟨rfl, rfl, rfl, Nat.le_of_eq (Nat.zero_add _), cut_all _ _⟩)))); done))))); done)); done) | (refine .inr ⟨_, rfl, ?_⟩; focus (repeat (first | exact trivial | (refine And.intro ?_ ?_; focus (first | exact ⟨rfl, rfl⟩ | exact .inr ⟨rfl, rfl⟩ | exact .inr ⟨rfl, rfl, rfl, Nat.le_refl _, rfl⟩ | exact .inl rfl | exact .inl ⟨rfl, rfl⟩ | exact ⟨_, rfl, rfl⟩ | exact .inr ⟨_, rfl, rfl⟩ | exact .inl ⟨rfl, rfl, rfl⟩ | exact ⟨congrArg (MV.int _) (by omega), rfl⟩ | exact .inr ⟨rfl, rfl, rfl, Nat.le_of_eq (Nat.zero_add _), cut_all _ _⟩ | (refine .inr ⟨_, rfl, ?_⟩; focus (first | exact ⟨rfl, rfl⟩ | exact .inr ⟨rfl, rfl⟩ | exact .inr ⟨rfl, rfl, rfl, Nat.le_refl _, rfl⟩ | exact .inl rfl | exact .inl ⟨rfl, rfl⟩ | exact ⟨_, rfl, rfl⟩ | exact .inr ⟨_, rfl, rfl⟩ | exact .inl ⟨rfl, rfl, rfl⟩ | exact ⟨congrArg (MV.int _) (by omega), rfl⟩ | exact .inr ⟨rfl, rfl, rfl, Nat.le_of_eq (Nat.zero_add _), cut_all _ _⟩ | (refine .inr ⟨_, rfl, ?_⟩; focus (first | exact ⟨rfl, rfl⟩ | exact .inr ⟨rfl, rfl⟩ | exact .inr ⟨rfl, rfl, rfl, Nat.le_refl _, rfl⟩ | exact .inl rfl | exact .inl ⟨rfl, rfl⟩ | exact ⟨_, rfl, rfl⟩ | exact .inr ⟨_, rfl, rfl⟩ | exact .inl ⟨rfl, rfl, rfl⟩ | exact ⟨congrArg (MV.int _) (by omega), rfl⟩ | exact .inr ⟨rfl, rfl, rfl, Nat.le_of_eq (Nat.zero_add _), cut_all _ _⟩); done) | (refine .inr ⟨_, rfl, ?_⟩; focus (repeat (first | exact trivial | (refine And.intro ?_ ?_; focus (first | exact ⟨rfl, rfl⟩ | exact .inr ⟨rfl, rfl⟩ | exact .inr ⟨rfl, rfl, rfl, Nat.le_refl _, rfl⟩ | exact .inl rfl | exact .inl ⟨rfl, rfl⟩ | exact ⟨_, rfl, rfl⟩ | exact .inr ⟨_, rfl, rfl⟩ | exact .inl ⟨rfl, rfl, rfl⟩ | exact ⟨congrArg (MV.int _) (by omega), rfl⟩ | exact .inr ⟨rfl, rfl, rfl, Nat.le_of_eq (Nat.zero_add _), cut_all _ _⟩)))); done)); done) | (refine .inr ⟨_, rfl, ?_⟩; focus (repeat (first | exact trivial | (refine And.intro ?_ ?_; focus (first | exact ⟨rfl, rfl⟩ | exact .inr ⟨rfl, rfl⟩ | exact .inr ⟨rfl, rfl, rfl, Nat.le_refl _, rfl⟩ | exact .inl rfl | exact .inl ⟨rfl, rfl⟩ | exact ⟨_, rfl, rfl⟩ | exact .inr ⟨_, rfl, rfl⟩ | exact .inl ⟨rfl, rfl, rfl⟩ | exact ⟨congrArg (MV.int _) (by omega), rfl⟩ | exact .inr ⟨rfl, rfl, rfl, Nat.le_of_eq (Nat.zero_add _), cut_all _ _⟩ | (refine .inr ⟨_, rfl, ?_⟩; focus (first | exact ⟨rfl, rfl⟩ | exact .inr ⟨rfl, rfl⟩ | exact .inr ⟨rfl, rfl, rfl, Nat.le_refl _, rfl⟩ | exact .inl rfl | exact .inl ⟨rfl, rfl⟩ | exact ⟨_, rfl, rfl⟩ | exact .inr ⟨_, rfl, rfl⟩ | exact .inl ⟨rfl, rfl, rfl⟩ | exact ⟨congrArg (MV.int _) (by omega), rfl⟩ | exact .inr ⟨rfl, rfl, rfl, Nat.le_of_eq (Nat.zero_add _), cut_all _ _⟩); done) | (refine .inr ⟨_, rfl, ?_⟩; focus (repeat (first | exact trivial | (refine And.intro ?_ ?_; focus (first | exact ⟨rfl, rfl⟩ | exact .inr ⟨rfl, rfl⟩ | exact .inr ⟨rfl, rfl, rfl, Nat.le_refl _, rfl⟩ | exact .inl rfl | exact .inl ⟨rfl, rfl⟩ | exact ⟨_, rfl, rfl⟩ | exact .inr ⟨_, rfl, rfl⟩ | exact .inl ⟨rfl, rfl, rfl⟩ | exact ⟨congrArg (MV.int _) (by omega), rfl⟩ | exact .inr ⟨rfl, rfl, rfl, Nat.le_of_eq (Nat.zero_add _), cut_all _ _⟩)))); done))))); done))))); done))) | refine ⟨.inl ⟨rfl, rfl, rfl, rfl⟩, ?_⟩ | refine ⟨.inr ⟨_, _, rfl, rfl, rfl, rfl, rfl, .inl rfl, .inl ⟨rfl, rfl⟩⟩, ?_⟩ | refine ⟨.inr ⟨_, _, rfl, rfl, rfl, rfl, rfl, .inl rfl, .inl ⟨(by simp [u8s]), rfl⟩⟩, ?_⟩ | refine ⟨.inr ⟨_, _, rfl, rfl, rfl, rfl, rfl, .inr ⟨(by first | exact Nat.max_le.2 ⟨Nat.zero_le _, Nat.le_refl _⟩ | exact Nat.max_le.2 ⟨Nat.le_refl _, Nat.le_refl _⟩), (by simp [u8s])⟩, .inl ⟨rfl, rfl⟩⟩, ?_⟩ | (refine ⟨.inr ⟨_, _, rfl, rfl, rfl, rfl, rfl, .inl rfl, .inr ⟨?_, trivial⟩⟩, ?_⟩; focus (first | exact ⟨rfl, rfl⟩ | exact .inr ⟨rfl, rfl⟩ | exact .inr ⟨rfl, rfl, rfl, Nat.le_refl _, rfl⟩ | exact .inl rfl | exact .inl ⟨rfl, rfl⟩ | exact ⟨_, rfl, rfl⟩ | exact .inr ⟨_, rfl, rfl⟩ | exact .inl ⟨rfl, rfl, rfl⟩ | exact ⟨congrArg (MV.int _) (by omega), rfl⟩ | exact .inr ⟨rfl, rfl, rfl, Nat.le_of_eq (Nat.zero_add _), cut_all _ _⟩ | (refine .inr ⟨_, rfl, ?_⟩; focus (first | exact ⟨rfl, rfl⟩ | exact .inr ⟨rfl, rfl⟩ | exact .inr ⟨rfl, rfl, rfl, Nat.le_refl _, rfl⟩ | exact .inl rfl | exact .inl ⟨rfl, rfl⟩ | exact ⟨_, rfl, rfl⟩ | exact .inr ⟨_, rfl, rfl⟩ | exact .inl ⟨rfl, rfl, rfl⟩ | exact ⟨congrArg (MV.int _) (by omega), rfl⟩ | exact .inr ⟨rfl, rfl, rfl, Nat.le_of_eq (Nat.zero_add _), cut_all _ _⟩ | (refine .inr ⟨_, rfl, ?_⟩; focus (first | exact ⟨rfl, rfl⟩ | exact .inr ⟨rfl, rfl⟩ | exact .inr ⟨rfl, rfl, rfl, Nat.le_refl _, rfl⟩ | exact .inl rfl | exact .inl ⟨rfl, rfl⟩ | exact ⟨_, rfl, rfl⟩ | exact .inr ⟨_, rfl, rfl⟩ | exact .inl ⟨rfl, rfl, rfl⟩ | exact ⟨congrArg (MV.int _) (by omega), rfl⟩ | exact .inr ⟨rfl, rfl, rfl, Nat.le_of_eq (Nat.zero_add _), cut_all _ _⟩ | (refine .inr ⟨_, rfl, ?_⟩; focus (first | exact ⟨rfl, rfl⟩ | exact .inr ⟨rfl, rfl⟩ | exact .inr ⟨rfl, rfl, rfl, Nat.le_refl _, rfl⟩ | exact .inl rfl | exact .inl ⟨rfl, rfl⟩ | exact ⟨_, rfl, rfl⟩ | exact .inr ⟨_, rfl, rfl⟩ | exact .inl ⟨rfl, rfl, rfl⟩ | exact ⟨congrArg (MV.int _) (by omega), rfl⟩ | exact .inr ⟨rfl, rfl, rfl, Nat.le_of_eq (Nat.zero_add _), cut_all _ _⟩); done) | (refine .inr ⟨_, rfl, ?_⟩; focus (repeat (first | exact trivial | (refine And.intro ?_ ?_; focus (first | exact ⟨rfl, rfl⟩ | exact .inr ⟨rfl, rfl⟩ | exact .inr ⟨rfl, rfl, rfl, Nat.le_refl _, rfl⟩ | exact .inl rfl | exact .inl ⟨rfl, rfl⟩ | exact ⟨_, rfl, rfl⟩ | exact .inr ⟨_, rfl, rfl⟩ | exact .inl ⟨rfl, rfl, rfl⟩ | exact ⟨congrArg (MV.int _) (by omega), rfl⟩ | exact .inr ⟨rfl, rfl, rfl, Nat.le_of_eq (Nat.zero_add _), cut_all _ _⟩)))); done)); done) | (refine .inr ⟨_, rfl, ?_⟩; focus (repeat (first | exact trivial | (refine And.intro ?_ ?_; focus (first | exact ⟨rfl, rfl⟩ | exact .inr ⟨rfl, rfl⟩ | exact .inr ⟨rfl, rfl, rfl, Nat.le_refl _, rfl⟩ | exact .inl rfl | exact .inl ⟨rfl, rfl⟩ | exact ⟨_, rfl, rfl⟩ | exact .inr ⟨_, rfl, rfl⟩ | exact .inl ⟨rfl, rfl, rfl⟩ | exact ⟨congrArg (MV.int _) (by omega), rfl⟩ | exact .inr ⟨rfl, rfl, rfl, Nat.le_of_eq (Nat.zero_add _), cut_all _ _⟩ | (refine .inr ⟨_, rfl, ?_⟩; focus (first | exact ⟨rfl, rfl⟩ | exact .inr ⟨rfl, rfl⟩ | exact .inr ⟨rfl, rfl, rfl, Nat.le_refl _, rfl⟩ | exact .inl rfl | exact .inl ⟨rfl, rfl⟩ | exact ⟨_, rfl, rfl⟩ | exact .inr ⟨_, rfl, rfl⟩ | exact .inl ⟨rfl, rfl, rfl⟩ | exact ⟨congrArg (MV.int _) (by omega), rfl⟩ | exact .inr ⟨rfl, rfl, rfl, Nat.le_of_eq (Nat.zero_add _), cut_all _ _⟩); done) | (refine .inr ⟨_, rfl, ?_⟩; focus (repeat (first | exact trivial | (refine And.intro ?_ ?_; focus (first | exact ⟨rfl, rfl⟩ | exact .inr ⟨rfl, rfl⟩ | exact .inr ⟨rfl, rfl, rfl, Nat.le_refl _, rfl⟩ | exact .inl rfl | exact .inl ⟨rfl, rfl⟩ | exact ⟨_, rfl, rfl⟩ | exact .inr ⟨_, rfl, rfl⟩ | exact .inl ⟨rfl, rfl, rfl⟩ | exact ⟨congrArg (MV.int _) (by omega), rfl⟩ | exact .inr ⟨rfl, rfl, rfl, Nat.le_of_eq (Nat.zero_add _), cut_all _ _⟩)))); done))))); done)); done) | (refine .inr ⟨_, rfl, ?_⟩; focus (repeat (first | exact trivial | (refine And.intro ?_ ?_; focus (first | exact ⟨rfl, rfl⟩ | exact .inr ⟨rfl, rfl⟩ | exact .inr ⟨rfl, rfl, rfl, Nat.le_refl _, rfl⟩ | exact .inl rfl | exact .inl ⟨rfl, rfl⟩ | exact ⟨_, rfl, rfl⟩ | exact .inr ⟨_, rfl, rfl⟩ | exact .inl ⟨rfl, rfl, rfl⟩ | exact ⟨congrArg (MV.int _) (by omega), rfl⟩ | exact .inr ⟨rfl, rfl, rfl, Nat.le_of_eq (Nat.zero_add _), cut_all _ _⟩ | (refine .inr ⟨_, rfl, ?_⟩; focus (first | exact ⟨rfl, rfl⟩ | exact .inr ⟨rfl, rfl⟩ | exact .inr ⟨rfl, rfl, rfl, Nat.le_refl _, rfl⟩ | exact .inl rfl | exact .inl ⟨rfl, rfl⟩ | exact ⟨_, rfl, rfl⟩ | exact .inr ⟨_, rfl, rfl⟩ | exact .inl ⟨rfl, rfl, rfl⟩ | exact ⟨congrArg (MV.int _) (by omega), rfl⟩ | exact .inr ⟨rfl, rfl, rfl, Nat.le_of_eq (Nat.zero_add _), cut_all _ _⟩ | (refine .inr ⟨_, rfl, ?_⟩; focus (first | exact ⟨rfl, rfl⟩ | exact .inr ⟨rfl, rfl⟩ | exact .inr ⟨rfl, rfl, rfl, Nat.le_refl _, rfl⟩ | exact .inl rfl | exact .inl ⟨rfl, rfl⟩ | exact ⟨_, rfl, rfl⟩ | exact .inr ⟨_, rfl, rfl⟩ | exact .inl ⟨rfl, rfl, rfl⟩ | exact ⟨congrArg (MV.int _) (by omega), rfl⟩ | exact .inr ⟨rfl, rfl, rfl, Nat.le_of_eq (Nat.zero_add _), cut_all _ _⟩); done) | (refine .inr ⟨_, rfl, ?_⟩; focus (repeat (first | exact trivial | (refine And.intro ?_ ?_; focus (first | exact ⟨rfl, rfl⟩ | exact .inr ⟨rfl, rfl⟩ | exact .inr ⟨rfl, rfl, rfl, Nat.le_refl _, rfl⟩ | exact .inl rfl | exact .inl ⟨rfl, rfl⟩ | exact ⟨_, rfl, rfl⟩ | exact .inr ⟨_, rfl, rfl⟩ | exact .inl ⟨rfl, rfl, rfl⟩ | exact ⟨congrArg (MV.int _) (by omega), rfl⟩ | exact .inr ⟨rfl, rfl, rfl, Nat.le_of_eq (Nat.zero_add _), cut_all _ _⟩)))); done)); done) | (refine .inr ⟨_, rfl, ?_⟩; focus (repeat (first | exact trivial | (refine And.intro ?_ ?_; focus (first | exact ⟨rfl, rfl⟩ | exact .inr ⟨rfl, rfl⟩ | exact .inr ⟨rfl, rfl, rfl, Nat.le_refl _, rfl⟩ | exact .inl rfl | exact .inl ⟨rfl, rfl⟩ | exact ⟨_, rfl, rfl⟩ | exact .inr ⟨_, rfl, rfl⟩ | exact .inl ⟨rfl, rfl, rfl⟩ | exact ⟨congrArg (MV.int _) (by omega), rfl⟩ | exact .inr ⟨rfl, rfl, rfl, Nat.le_of_eq (Nat.zero_add _), cut_all _ _⟩ | (refine .inr ⟨_, rfl, ?_⟩; focus (first | exact ⟨rfl, rfl⟩ | exact .inr ⟨rfl, rfl⟩ | exact .inr ⟨rfl, rfl, rfl, Nat.le_refl _, rfl⟩ | exact .inl rfl | exact .inl ⟨rfl, rfl⟩ | exact ⟨_, rfl, rfl⟩ | exact .inr ⟨_, rfl, rfl⟩ | exact .inl ⟨rfl, rfl, rfl⟩ | exact ⟨congrArg (MV.int _) (by omega), rfl⟩ | exact .inr ⟨rfl, rfl, rfl, Nat.le_of_eq (Nat.zero_add _), cut_all _ _⟩); done) | (refine .inr ⟨_, rfl, ?_⟩; focus (repeat (first | exact trivial | (refine And.intro ?_ ?_; focus (first | exact ⟨rfl, rfl⟩ | exact .inr ⟨rfl, rfl⟩ | exact .inr ⟨rfl, rfl, rfl, Nat.le_refl _, rfl⟩ | exact .inl rfl | exact .inl ⟨rfl, rfl⟩ | exact ⟨_, rfl, rfl⟩ | exact .inr ⟨_, rfl, rfl⟩ | exact .inl ⟨rfl, rfl, rfl⟩ | exact ⟨congrArg (MV.int _) (by omega), rfl⟩ | exact .inr ⟨rfl, rfl, rfl, Nat.le_of_eq (Nat.zero_add _), cut_all _ _⟩)))); done))))); done))))); done))) | refine ⟨(show _ ≤ _ by simp [u8s]), ?_⟩))) : p := h
theorem go0 {p q : Prop} (h : q) (s : Box q → p := by intro hq; (repeat ((try conv => whnf); first | (with_reducible refine And.intro (Nat.zero_le _) ?_) | (with_reducible refine And.intro rfl ?_) | (with_reducible refine ⟨_, idx_at (by omega), ?_⟩) | (with_reducible refine ⟨fun _ => ?_, fun h => Bool.noConfusion h⟩) | (with_reducible refine ⟨fun h => Bool.noConfusion h, fun _ => ?_⟩) | (with_reducible refine ⟨_, sv (wrap_in _ (by omega) (by omega)), ?_⟩) | (with_reducible refine ⟨_, sv (wrapu_in _ (by omega) (by omega)), ?_⟩) | (with_reducible refine ⟨_, sv (wrap8_in _ (by omega) (by omega)), ?_⟩) | refine ⟨_, rfl, ?_⟩ | refine And.intro (show okDraw _ _ = true by kernel_rfl) ?_ | refine And.intro (by omega) ?_)); exact hq.out) : p := s ⟨h⟩
theorem gow0 {p q : Prop} (h : q) (s : Box q → p := by intro hq; (repeat ((try conv => whnf); first | (with_reducible refine And.intro (Nat.zero_le _) ?_) | (with_reducible refine And.intro rfl ?_) | (with_reducible refine ⟨fun _ => ?_, fun h => Bool.noConfusion h⟩) | (with_reducible refine ⟨fun h => Bool.noConfusion h, fun _ => ?_⟩) | (with_reducible refine ⟨_, sv (add32 _ _), ?_⟩) | (with_reducible refine ⟨_, sv (xor32 _ _), ?_⟩) | (with_reducible refine ⟨_, sv (and32 _ _), ?_⟩) | (with_reducible refine ⟨_, sv (or32 _ _), ?_⟩) | (with_reducible refine ⟨_, sv (not32 _), ?_⟩) | (with_reducible refine ⟨_, sv (shlI _ _ (by omega) (by omega)), ?_⟩) | (with_reducible refine ⟨_, sv (shrI _ _ (by omega) (by omega)), ?_⟩) | (with_reducible refine ⟨_, sv (conv832 _), ?_⟩) | (with_reducible refine ⟨_, sv (conv328 _), ?_⟩) | (with_reducible refine ⟨_, sv (wrap_in _ (by omega) (by omega)), ?_⟩) | (with_reducible refine ⟨_, sv (wrapu_in _ (by omega) (by omega)), ?_⟩) | (with_reducible refine ⟨_, sv (wrap8_in _ (by omega) (by omega)), ?_⟩) | refine ⟨_, rfl, ?_⟩ | refine And.intro (show okDraw _ _ = true by kernel_rfl) ?_ | refine And.intro (by omega) ?_)); exact hq.out) : p := s ⟨h⟩
theorem go1 {p q : Prop} (h : q) (s : Box q → p := by intro hq; (repeat (first | ((with_reducible apply n_val); (case hb => exact rfl); (case he => (intro R hR; repeat (first | exact hR | ((try conv => whnf); first | exact hR | (with_reducible refine ⟨_, sv (EqF.out (by assumption)), ?_⟩) | (with_reducible refine And.intro (SideF.out (by assumption)) ?_) | (with_reducible refine And.intro (Nat.zero_le _) ?_) | (with_reducible refine And.intro rfl ?_) | (with_reducible refine ⟨_, idx_at (by omega), ?_⟩) | (with_reducible refine ⟨fun _ => ?_, fun h => Bool.noConfusion h⟩) | (with_reducible refine ⟨fun h => Bool.noConfusion h, fun _ => ?_⟩) | (with_reducible refine ⟨_, sv (wrap_in _ (by omega) (by omega)), ?_⟩) | (with_reducible refine ⟨_, sv (wrapu_in _ (by omega) (by omega)), ?_⟩) | (with_reducible refine ⟨_, sv (wrap8_in _ (by omega) (by omega)), ?_⟩) | (refine ⟨_, rfl, ?_⟩) | (refine ⟨_, SomF.out (by assumption), ?_⟩) | (refine And.intro (by omega) ?_)))))) | ((with_reducible apply n_nilS)) | ((with_reducible apply c_seqR)) | ((with_reducible apply n_app)) | ((with_reducible apply n_app0)) | ((with_reducible apply e_val); (case ho => exact rfl); (case hb => exact rfl); (case he => (intro R hR; repeat (first | exact hR | ((try conv => whnf); first | exact hR | (with_reducible refine ⟨_, sv (EqF.out (by assumption)), ?_⟩) | (with_reducible refine And.intro (SideF.out (by assumption)) ?_) | (with_reducible refine And.intro (Nat.zero_le _) ?_) | (with_reducible refine And.intro rfl ?_) | (with_reducible refine ⟨_, idx_at (by omega), ?_⟩) | (with_reducible refine ⟨fun _ => ?_, fun h => Bool.noConfusion h⟩) | (with_reducible refine ⟨fun h => Bool.noConfusion h, fun _ => ?_⟩) | (with_reducible refine ⟨_, sv (wrap_in _ (by omega) (by omega)), ?_⟩) | (with_reducible refine ⟨_, sv (wrapu_in _ (by omega) (by omega)), ?_⟩) | (with_reducible refine ⟨_, sv (wrap8_in _ (by omega) (by omega)), ?_⟩) | (refine ⟨_, rfl, ?_⟩) | (refine ⟨_, SomF.out (by assumption), ?_⟩) | (refine And.intro (by omega) ?_)))))) | ((with_reducible apply d_end); (case ho => exact (show okDraw _ _ = true by kernel_rfl))) | ((with_reducible apply n_none); (case hb => exact rfl); (case he => (intro R hR; repeat (first | exact hR | ((try conv => whnf); first | exact hR | (with_reducible refine ⟨_, sv (EqF.out (by assumption)), ?_⟩) | (with_reducible refine And.intro (SideF.out (by assumption)) ?_) | (with_reducible refine And.intro (Nat.zero_le _) ?_) | (with_reducible refine And.intro rfl ?_) | (with_reducible refine ⟨_, idx_at (by omega), ?_⟩) | (with_reducible refine ⟨fun _ => ?_, fun h => Bool.noConfusion h⟩) | (with_reducible refine ⟨fun h => Bool.noConfusion h, fun _ => ?_⟩) | (with_reducible refine ⟨_, sv (wrap_in _ (by omega) (by omega)), ?_⟩) | (with_reducible refine ⟨_, sv (wrapu_in _ (by omega) (by omega)), ?_⟩) | (with_reducible refine ⟨_, sv (wrap8_in _ (by omega) (by omega)), ?_⟩) | (refine ⟨_, rfl, ?_⟩) | (refine ⟨_, SomF.out (by assumption), ?_⟩) | (refine And.intro (by omega) ?_)))))) | ((with_reducible apply n_mem); (case hb => exact rfl); (case he => (intro R hR; repeat (first | exact hR | ((try conv => whnf); first | exact hR | (with_reducible refine ⟨_, sv (EqF.out (by assumption)), ?_⟩) | (with_reducible refine And.intro (SideF.out (by assumption)) ?_) | (with_reducible refine And.intro (Nat.zero_le _) ?_) | (with_reducible refine And.intro rfl ?_) | (with_reducible refine ⟨_, idx_at (by omega), ?_⟩) | (with_reducible refine ⟨fun _ => ?_, fun h => Bool.noConfusion h⟩) | (with_reducible refine ⟨fun h => Bool.noConfusion h, fun _ => ?_⟩) | (with_reducible refine ⟨_, sv (wrap_in _ (by omega) (by omega)), ?_⟩) | (with_reducible refine ⟨_, sv (wrapu_in _ (by omega) (by omega)), ?_⟩) | (with_reducible refine ⟨_, sv (wrap8_in _ (by omega) (by omega)), ?_⟩) | (refine ⟨_, rfl, ?_⟩) | (refine ⟨_, SomF.out (by assumption), ?_⟩) | (refine And.intro (by omega) ?_)))))) | ((with_reducible apply n_valY); (case hs => exact rfl); (case hv => exact rfl); (case hb => exact rfl); (case he => (intro R hR; repeat (first | exact hR | ((try conv => whnf); first | exact hR | (with_reducible refine ⟨_, sv (EqF.out (by assumption)), ?_⟩) | (with_reducible refine And.intro (SideF.out (by assumption)) ?_) | (with_reducible refine And.intro (Nat.zero_le _) ?_) | (with_reducible refine And.intro rfl ?_) | (with_reducible refine ⟨_, idx_at (by omega), ?_⟩) | (with_reducible refine ⟨fun _ => ?_, fun h => Bool.noConfusion h⟩) | (with_reducible refine ⟨fun h => Bool.noConfusion h, fun _ => ?_⟩) | (with_reducible refine ⟨_, sv (wrap_in _ (by omega) (by omega)), ?_⟩) | (with_reducible refine ⟨_, sv (wrapu_in _ (by omega) (by omega)), ?_⟩) | (with_reducible refine ⟨_, sv (wrap8_in _ (by omega) (by omega)), ?_⟩) | (refine ⟨_, rfl, ?_⟩) | (refine ⟨_, SomF.out (by assumption), ?_⟩) | (refine And.intro (by omega) ?_)))))) | ((with_reducible apply n_guardN); (case hs => exact rfl); (case hv => exact rfl); (case hd => exact rfl)) | ((with_reducible apply n_guardU); (case hs => exact rfl); (case hv => exact rfl); (case hd => exact rfl)) | ((with_reducible apply g_val); (case hq => exact rfl); (case hv => exact rfl); (case he => (intro R hR; repeat (first | exact hR | ((try conv => whnf); first | exact hR | (with_reducible refine ⟨_, sv (EqF.out (by assumption)), ?_⟩) | (with_reducible refine And.intro (SideF.out (by assumption)) ?_) | (with_reducible refine And.intro (Nat.zero_le _) ?_) | (with_reducible refine And.intro rfl ?_) | (with_reducible refine ⟨_, idx_at (by omega), ?_⟩) | (with_reducible refine ⟨fun _ => ?_, fun h => Bool.noConfusion h⟩) | (with_reducible refine ⟨fun h => Bool.noConfusion h, fun _ => ?_⟩) | (with_reducible refine ⟨_, sv (wrap_in _ (by omega) (by omega)), ?_⟩) | (with_reducible refine ⟨_, sv (wrapu_in _ (by omega) (by omega)), ?_⟩) | (with_reducible refine ⟨_, sv (wrap8_in _ (by omega) (by omega)), ?_⟩) | (refine ⟨_, rfl, ?_⟩) | (refine ⟨_, SomF.out (by assumption), ?_⟩) | (refine And.intro (by omega) ?_))))); (case hd => exact rfl)) | ((with_reducible apply g_none); (case hq => exact rfl); (case hv => exact rfl); (case he => (intro R hR; repeat (first | exact hR | ((try conv => whnf); first | exact hR | (with_reducible refine ⟨_, sv (EqF.out (by assumption)), ?_⟩) | (with_reducible refine And.intro (SideF.out (by assumption)) ?_) | (with_reducible refine And.intro (Nat.zero_le _) ?_) | (with_reducible refine And.intro rfl ?_) | (with_reducible refine ⟨_, idx_at (by omega), ?_⟩) | (with_reducible refine ⟨fun _ => ?_, fun h => Bool.noConfusion h⟩) | (with_reducible refine ⟨fun h => Bool.noConfusion h, fun _ => ?_⟩) | (with_reducible refine ⟨_, sv (wrap_in _ (by omega) (by omega)), ?_⟩) | (with_reducible refine ⟨_, sv (wrapu_in _ (by omega) (by omega)), ?_⟩) | (with_reducible refine ⟨_, sv (wrap8_in _ (by omega) (by omega)), ?_⟩) | (refine ⟨_, rfl, ?_⟩) | (refine ⟨_, SomF.out (by assumption), ?_⟩) | (refine And.intro (by omega) ?_)))))) | ((with_reducible apply g_mem); (case hq => exact rfl); (case hv => exact rfl); (case he => (intro R hR; repeat (first | exact hR | ((try conv => whnf); first | exact hR | (with_reducible refine ⟨_, sv (EqF.out (by assumption)), ?_⟩) | (with_reducible refine And.intro (SideF.out (by assumption)) ?_) | (with_reducible refine And.intro (Nat.zero_le _) ?_) | (with_reducible refine And.intro rfl ?_) | (with_reducible refine ⟨_, idx_at (by omega), ?_⟩) | (with_reducible refine ⟨fun _ => ?_, fun h => Bool.noConfusion h⟩) | (with_reducible refine ⟨fun h => Bool.noConfusion h, fun _ => ?_⟩) | (with_reducible refine ⟨_, sv (wrap_in _ (by omega) (by omega)), ?_⟩) | (with_reducible refine ⟨_, sv (wrapu_in _ (by omega) (by omega)), ?_⟩) | (with_reducible refine ⟨_, sv (wrap8_in _ (by omega) (by omega)), ?_⟩) | (refine ⟨_, rfl, ?_⟩) | (refine ⟨_, SomF.out (by assumption), ?_⟩) | (refine And.intro (by omega) ?_))))); (case hd => exact rfl)) | ((with_reducible apply n_nil)) | ((with_reducible apply c_seq)) | ((with_reducible apply seqQ_n)) | ((with_reducible apply c_region)) | ((with_reducible apply c_condT); (case he => exact rfl)) | ((with_reducible apply c_condF); (case he => exact rfl)) | ((with_reducible apply c_block)) | ((with_reducible apply c_skip)) | ((with_reducible apply c_exit)) | ((with_reducible apply c_ret)) | ((with_reducible apply seqQ_x)) | ((with_reducible apply seqQ_r)) | ((with_reducible apply blockQ_n)) | ((with_reducible apply blockQ_r)) | ((with_reducible apply blockQ_x); (case hb => exact rfl)) | ((with_reducible apply blockQ_y); (case hb => exact rfl)) | ((with_reducible apply loopQ_x)) | ((with_reducible apply loopQ_r)) | ((with_reducible apply c_label)) | ((with_reducible apply e_none); (case ho => exact rfl); (case hb => exact rfl); (case he => (intro R hR; repeat (first | exact hR | ((try conv => whnf); first | exact hR | (with_reducible refine ⟨_, sv (EqF.out (by assumption)), ?_⟩) | (with_reducible refine And.intro (SideF.out (by assumption)) ?_) | (with_reducible refine And.intro (Nat.zero_le _) ?_) | (with_reducible refine And.intro rfl ?_) | (with_reducible refine ⟨_, idx_at (by omega), ?_⟩) | (with_reducible refine ⟨fun _ => ?_, fun h => Bool.noConfusion h⟩) | (with_reducible refine ⟨fun h => Bool.noConfusion h, fun _ => ?_⟩) | (with_reducible refine ⟨_, sv (wrap_in _ (by omega) (by omega)), ?_⟩) | (with_reducible refine ⟨_, sv (wrapu_in _ (by omega) (by omega)), ?_⟩) | (with_reducible refine ⟨_, sv (wrap8_in _ (by omega) (by omega)), ?_⟩) | (refine ⟨_, rfl, ?_⟩) | (refine ⟨_, SomF.out (by assumption), ?_⟩) | (refine And.intro (by omega) ?_)))))) | ((with_reducible apply e_valY); (case ho => exact rfl); (case hs => exact rfl); (case hv => exact rfl); (case hb => exact rfl); (case he => (intro R hR; repeat (first | exact hR | ((try conv => whnf); first | exact hR | (with_reducible refine ⟨_, sv (EqF.out (by assumption)), ?_⟩) | (with_reducible refine And.intro (SideF.out (by assumption)) ?_) | (with_reducible refine And.intro (Nat.zero_le _) ?_) | (with_reducible refine And.intro rfl ?_) | (with_reducible refine ⟨_, idx_at (by omega), ?_⟩) | (with_reducible refine ⟨fun _ => ?_, fun h => Bool.noConfusion h⟩) | (with_reducible refine ⟨fun h => Bool.noConfusion h, fun _ => ?_⟩) | (with_reducible refine ⟨_, sv (wrap_in _ (by omega) (by omega)), ?_⟩) | (with_reducible refine ⟨_, sv (wrapu_in _ (by omega) (by omega)), ?_⟩) | (with_reducible refine ⟨_, sv (wrap8_in _ (by omega) (by omega)), ?_⟩) | (refine ⟨_, rfl, ?_⟩) | (refine ⟨_, SomF.out (by assumption), ?_⟩) | (refine And.intro (by omega) ?_)))))) | ((with_reducible apply e_mem); (case ho => exact rfl); (case hb => exact rfl); (case he => (intro R hR; repeat (first | exact hR | ((try conv => whnf); first | exact hR | (with_reducible refine ⟨_, sv (EqF.out (by assumption)), ?_⟩) | (with_reducible refine And.intro (SideF.out (by assumption)) ?_) | (with_reducible refine And.intro (Nat.zero_le _) ?_) | (with_reducible refine And.intro rfl ?_) | (with_reducible refine ⟨_, idx_at (by omega), ?_⟩) | (with_reducible refine ⟨fun _ => ?_, fun h => Bool.noConfusion h⟩) | (with_reducible refine ⟨fun h => Bool.noConfusion h, fun _ => ?_⟩) | (with_reducible refine ⟨_, sv (wrap_in _ (by omega) (by omega)), ?_⟩) | (with_reducible refine ⟨_, sv (wrapu_in _ (by omega) (by omega)), ?_⟩) | (with_reducible refine ⟨_, sv (wrap8_in _ (by omega) (by omega)), ?_⟩) | (refine ⟨_, rfl, ?_⟩) | (refine ⟨_, SomF.out (by assumption), ?_⟩) | (refine And.intro (by omega) ?_)))))) | ((with_reducible apply d_next)) | ((with_reducible apply d_step); (case ho => exact rfl)) | ((with_reducible apply d_guardN); (case hs => exact rfl); (case hv => exact rfl); (case hd => exact rfl)) | ((with_reducible apply d_guardU); (case hs => exact rfl); (case hv => exact rfl); (case hd => exact rfl)) | ((with_reducible apply d_guardY); (case hs => exact rfl); (case hv => exact rfl)) | ((with_reducible apply d_go)) | ((with_reducible apply gd_val); (case hv => exact rfl); (case he => (intro R hR; repeat (first | exact hR | ((try conv => whnf); first | exact hR | (with_reducible refine ⟨_, sv (EqF.out (by assumption)), ?_⟩) | (with_reducible refine And.intro (SideF.out (by assumption)) ?_) | (with_reducible refine And.intro (Nat.zero_le _) ?_) | (with_reducible refine And.intro rfl ?_) | (with_reducible refine ⟨_, idx_at (by omega), ?_⟩) | (with_reducible refine ⟨fun _ => ?_, fun h => Bool.noConfusion h⟩) | (with_reducible refine ⟨fun h => Bool.noConfusion h, fun _ => ?_⟩) | (with_reducible refine ⟨_, sv (wrap_in _ (by omega) (by omega)), ?_⟩) | (with_reducible refine ⟨_, sv (wrapu_in _ (by omega) (by omega)), ?_⟩) | (with_reducible refine ⟨_, sv (wrap8_in _ (by omega) (by omega)), ?_⟩) | (refine ⟨_, rfl, ?_⟩) | (refine ⟨_, SomF.out (by assumption), ?_⟩) | (refine And.intro (by omega) ?_))))); (case hd => exact rfl)) | ((with_reducible apply gd_none); (case hv => exact rfl); (case he => (intro R hR; repeat (first | exact hR | ((try conv => whnf); first | exact hR | (with_reducible refine ⟨_, sv (EqF.out (by assumption)), ?_⟩) | (with_reducible refine And.intro (SideF.out (by assumption)) ?_) | (with_reducible refine And.intro (Nat.zero_le _) ?_) | (with_reducible refine And.intro rfl ?_) | (with_reducible refine ⟨_, idx_at (by omega), ?_⟩) | (with_reducible refine ⟨fun _ => ?_, fun h => Bool.noConfusion h⟩) | (with_reducible refine ⟨fun h => Bool.noConfusion h, fun _ => ?_⟩) | (with_reducible refine ⟨_, sv (wrap_in _ (by omega) (by omega)), ?_⟩) | (with_reducible refine ⟨_, sv (wrapu_in _ (by omega) (by omega)), ?_⟩) | (with_reducible refine ⟨_, sv (wrap8_in _ (by omega) (by omega)), ?_⟩) | (refine ⟨_, rfl, ?_⟩) | (refine ⟨_, SomF.out (by assumption), ?_⟩) | (refine And.intro (by omega) ?_)))))) | ((with_reducible apply gd_mem); (case hv => exact rfl); (case he => (intro R hR; repeat (first | exact hR | ((try conv => whnf); first | exact hR | (with_reducible refine ⟨_, sv (EqF.out (by assumption)), ?_⟩) | (with_reducible refine And.intro (SideF.out (by assumption)) ?_) | (with_reducible refine And.intro (Nat.zero_le _) ?_) | (with_reducible refine And.intro rfl ?_) | (with_reducible refine ⟨_, idx_at (by omega), ?_⟩) | (with_reducible refine ⟨fun _ => ?_, fun h => Bool.noConfusion h⟩) | (with_reducible refine ⟨fun h => Bool.noConfusion h, fun _ => ?_⟩) | (with_reducible refine ⟨_, sv (wrap_in _ (by omega) (by omega)), ?_⟩) | (with_reducible refine ⟨_, sv (wrapu_in _ (by omega) (by omega)), ?_⟩) | (with_reducible refine ⟨_, sv (wrap8_in _ (by omega) (by omega)), ?_⟩) | (refine ⟨_, rfl, ?_⟩) | (refine ⟨_, SomF.out (by assumption), ?_⟩) | (refine And.intro (by omega) ?_))))); (case hd => exact rfl)) | ((with_reducible apply n_guardY); (case hs => exact rfl); (case hv => exact rfl)) | ((with_reducible apply n_go)))); exact hq.out) : p := s ⟨h⟩
theorem gow1 {p q : Prop} (h : q) (s : Box q → p := by intro hq; (repeat (first | ((with_reducible apply n_val); (case hb => exact rfl); (case he => (intro R hR; repeat (first | exact hR | ((try conv => whnf); first | exact hR | (with_reducible refine ⟨_, sv (EqF.out (by assumption)), ?_⟩) | (with_reducible refine And.intro (SideF.out (by assumption)) ?_) | (with_reducible refine And.intro (Nat.zero_le _) ?_) | (with_reducible refine And.intro rfl ?_) | (with_reducible refine ⟨_, sv (add32 _ _), ?_⟩) | (with_reducible refine ⟨_, sv (xor32 _ _), ?_⟩) | (with_reducible refine ⟨_, sv (and32 _ _), ?_⟩) | (with_reducible refine ⟨_, sv (or32 _ _), ?_⟩) | (with_reducible refine ⟨_, sv (not32 _), ?_⟩) | (with_reducible refine ⟨_, sv (shlI _ _ (by omega) (by omega)), ?_⟩) | (with_reducible refine ⟨_, sv (shrI _ _ (by omega) (by omega)), ?_⟩) | (with_reducible refine ⟨_, sv (conv832 _), ?_⟩) | (with_reducible refine ⟨_, sv (conv328 _), ?_⟩) | (with_reducible refine ⟨fun _ => ?_, fun h => Bool.noConfusion h⟩) | (with_reducible refine ⟨fun h => Bool.noConfusion h, fun _ => ?_⟩) | (with_reducible refine ⟨_, sv (wrap_in _ (by omega) (by omega)), ?_⟩) | (with_reducible refine ⟨_, sv (wrapu_in _ (by omega) (by omega)), ?_⟩) | (with_reducible refine ⟨_, sv (wrap8_in _ (by omega) (by omega)), ?_⟩) | (refine ⟨_, rfl, ?_⟩) | (refine ⟨_, SomF.out (by assumption), ?_⟩) | (refine And.intro (by omega) ?_)))))) | ((with_reducible apply n_nilS)) | ((with_reducible apply c_seqR)) | ((with_reducible apply n_app)) | ((with_reducible apply n_app0)) | ((with_reducible apply e_val); (case ho => exact rfl); (case hb => exact rfl); (case he => (intro R hR; repeat (first | exact hR | ((try conv => whnf); first | exact hR | (with_reducible refine ⟨_, sv (EqF.out (by assumption)), ?_⟩) | (with_reducible refine And.intro (SideF.out (by assumption)) ?_) | (with_reducible refine And.intro (Nat.zero_le _) ?_) | (with_reducible refine And.intro rfl ?_) | (with_reducible refine ⟨_, sv (add32 _ _), ?_⟩) | (with_reducible refine ⟨_, sv (xor32 _ _), ?_⟩) | (with_reducible refine ⟨_, sv (and32 _ _), ?_⟩) | (with_reducible refine ⟨_, sv (or32 _ _), ?_⟩) | (with_reducible refine ⟨_, sv (not32 _), ?_⟩) | (with_reducible refine ⟨_, sv (shlI _ _ (by omega) (by omega)), ?_⟩) | (with_reducible refine ⟨_, sv (shrI _ _ (by omega) (by omega)), ?_⟩) | (with_reducible refine ⟨_, sv (conv832 _), ?_⟩) | (with_reducible refine ⟨_, sv (conv328 _), ?_⟩) | (with_reducible refine ⟨fun _ => ?_, fun h => Bool.noConfusion h⟩) | (with_reducible refine ⟨fun h => Bool.noConfusion h, fun _ => ?_⟩) | (with_reducible refine ⟨_, sv (wrap_in _ (by omega) (by omega)), ?_⟩) | (with_reducible refine ⟨_, sv (wrapu_in _ (by omega) (by omega)), ?_⟩) | (with_reducible refine ⟨_, sv (wrap8_in _ (by omega) (by omega)), ?_⟩) | (refine ⟨_, rfl, ?_⟩) | (refine ⟨_, SomF.out (by assumption), ?_⟩) | (refine And.intro (by omega) ?_)))))) | ((with_reducible apply d_end); (case ho => exact (show okDraw _ _ = true by kernel_rfl))) | ((with_reducible apply n_none); (case hb => exact rfl); (case he => (intro R hR; repeat (first | exact hR | ((try conv => whnf); first | exact hR | (with_reducible refine ⟨_, sv (EqF.out (by assumption)), ?_⟩) | (with_reducible refine And.intro (SideF.out (by assumption)) ?_) | (with_reducible refine And.intro (Nat.zero_le _) ?_) | (with_reducible refine And.intro rfl ?_) | (with_reducible refine ⟨_, sv (add32 _ _), ?_⟩) | (with_reducible refine ⟨_, sv (xor32 _ _), ?_⟩) | (with_reducible refine ⟨_, sv (and32 _ _), ?_⟩) | (with_reducible refine ⟨_, sv (or32 _ _), ?_⟩) | (with_reducible refine ⟨_, sv (not32 _), ?_⟩) | (with_reducible refine ⟨_, sv (shlI _ _ (by omega) (by omega)), ?_⟩) | (with_reducible refine ⟨_, sv (shrI _ _ (by omega) (by omega)), ?_⟩) | (with_reducible refine ⟨_, sv (conv832 _), ?_⟩) | (with_reducible refine ⟨_, sv (conv328 _), ?_⟩) | (with_reducible refine ⟨fun _ => ?_, fun h => Bool.noConfusion h⟩) | (with_reducible refine ⟨fun h => Bool.noConfusion h, fun _ => ?_⟩) | (with_reducible refine ⟨_, sv (wrap_in _ (by omega) (by omega)), ?_⟩) | (with_reducible refine ⟨_, sv (wrapu_in _ (by omega) (by omega)), ?_⟩) | (with_reducible refine ⟨_, sv (wrap8_in _ (by omega) (by omega)), ?_⟩) | (refine ⟨_, rfl, ?_⟩) | (refine ⟨_, SomF.out (by assumption), ?_⟩) | (refine And.intro (by omega) ?_)))))) | ((with_reducible apply n_mem); (case hb => exact rfl); (case he => (intro R hR; repeat (first | exact hR | ((try conv => whnf); first | exact hR | (with_reducible refine ⟨_, sv (EqF.out (by assumption)), ?_⟩) | (with_reducible refine And.intro (SideF.out (by assumption)) ?_) | (with_reducible refine And.intro (Nat.zero_le _) ?_) | (with_reducible refine And.intro rfl ?_) | (with_reducible refine ⟨_, sv (add32 _ _), ?_⟩) | (with_reducible refine ⟨_, sv (xor32 _ _), ?_⟩) | (with_reducible refine ⟨_, sv (and32 _ _), ?_⟩) | (with_reducible refine ⟨_, sv (or32 _ _), ?_⟩) | (with_reducible refine ⟨_, sv (not32 _), ?_⟩) | (with_reducible refine ⟨_, sv (shlI _ _ (by omega) (by omega)), ?_⟩) | (with_reducible refine ⟨_, sv (shrI _ _ (by omega) (by omega)), ?_⟩) | (with_reducible refine ⟨_, sv (conv832 _), ?_⟩) | (with_reducible refine ⟨_, sv (conv328 _), ?_⟩) | (with_reducible refine ⟨fun _ => ?_, fun h => Bool.noConfusion h⟩) | (with_reducible refine ⟨fun h => Bool.noConfusion h, fun _ => ?_⟩) | (with_reducible refine ⟨_, sv (wrap_in _ (by omega) (by omega)), ?_⟩) | (with_reducible refine ⟨_, sv (wrapu_in _ (by omega) (by omega)), ?_⟩) | (with_reducible refine ⟨_, sv (wrap8_in _ (by omega) (by omega)), ?_⟩) | (refine ⟨_, rfl, ?_⟩) | (refine ⟨_, SomF.out (by assumption), ?_⟩) | (refine And.intro (by omega) ?_)))))) | ((with_reducible apply n_valY); (case hs => exact rfl); (case hv => exact rfl); (case hb => exact rfl); (case he => (intro R hR; repeat (first | exact hR | ((try conv => whnf); first | exact hR | (with_reducible refine ⟨_, sv (EqF.out (by assumption)), ?_⟩) | (with_reducible refine And.intro (SideF.out (by assumption)) ?_) | (with_reducible refine And.intro (Nat.zero_le _) ?_) | (with_reducible refine And.intro rfl ?_) | (with_reducible refine ⟨_, sv (add32 _ _), ?_⟩) | (with_reducible refine ⟨_, sv (xor32 _ _), ?_⟩) | (with_reducible refine ⟨_, sv (and32 _ _), ?_⟩) | (with_reducible refine ⟨_, sv (or32 _ _), ?_⟩) | (with_reducible refine ⟨_, sv (not32 _), ?_⟩) | (with_reducible refine ⟨_, sv (shlI _ _ (by omega) (by omega)), ?_⟩) | (with_reducible refine ⟨_, sv (shrI _ _ (by omega) (by omega)), ?_⟩) | (with_reducible refine ⟨_, sv (conv832 _), ?_⟩) | (with_reducible refine ⟨_, sv (conv328 _), ?_⟩) | (with_reducible refine ⟨fun _ => ?_, fun h => Bool.noConfusion h⟩) | (with_reducible refine ⟨fun h => Bool.noConfusion h, fun _ => ?_⟩) | (with_reducible refine ⟨_, sv (wrap_in _ (by omega) (by omega)), ?_⟩) | (with_reducible refine ⟨_, sv (wrapu_in _ (by omega) (by omega)), ?_⟩) | (with_reducible refine ⟨_, sv (wrap8_in _ (by omega) (by omega)), ?_⟩) | (refine ⟨_, rfl, ?_⟩) | (refine ⟨_, SomF.out (by assumption), ?_⟩) | (refine And.intro (by omega) ?_)))))) | ((with_reducible apply n_guardN); (case hs => exact rfl); (case hv => exact rfl); (case hd => exact rfl)) | ((with_reducible apply n_guardU); (case hs => exact rfl); (case hv => exact rfl); (case hd => exact rfl)) | ((with_reducible apply g_val); (case hq => exact rfl); (case hv => exact rfl); (case he => (intro R hR; repeat (first | exact hR | ((try conv => whnf); first | exact hR | (with_reducible refine ⟨_, sv (EqF.out (by assumption)), ?_⟩) | (with_reducible refine And.intro (SideF.out (by assumption)) ?_) | (with_reducible refine And.intro (Nat.zero_le _) ?_) | (with_reducible refine And.intro rfl ?_) | (with_reducible refine ⟨_, sv (add32 _ _), ?_⟩) | (with_reducible refine ⟨_, sv (xor32 _ _), ?_⟩) | (with_reducible refine ⟨_, sv (and32 _ _), ?_⟩) | (with_reducible refine ⟨_, sv (or32 _ _), ?_⟩) | (with_reducible refine ⟨_, sv (not32 _), ?_⟩) | (with_reducible refine ⟨_, sv (shlI _ _ (by omega) (by omega)), ?_⟩) | (with_reducible refine ⟨_, sv (shrI _ _ (by omega) (by omega)), ?_⟩) | (with_reducible refine ⟨_, sv (conv832 _), ?_⟩) | (with_reducible refine ⟨_, sv (conv328 _), ?_⟩) | (with_reducible refine ⟨fun _ => ?_, fun h => Bool.noConfusion h⟩) | (with_reducible refine ⟨fun h => Bool.noConfusion h, fun _ => ?_⟩) | (with_reducible refine ⟨_, sv (wrap_in _ (by omega) (by omega)), ?_⟩) | (with_reducible refine ⟨_, sv (wrapu_in _ (by omega) (by omega)), ?_⟩) | (with_reducible refine ⟨_, sv (wrap8_in _ (by omega) (by omega)), ?_⟩) | (refine ⟨_, rfl, ?_⟩) | (refine ⟨_, SomF.out (by assumption), ?_⟩) | (refine And.intro (by omega) ?_))))); (case hd => exact rfl)) | ((with_reducible apply g_none); (case hq => exact rfl); (case hv => exact rfl); (case he => (intro R hR; repeat (first | exact hR | ((try conv => whnf); first | exact hR | (with_reducible refine ⟨_, sv (EqF.out (by assumption)), ?_⟩) | (with_reducible refine And.intro (SideF.out (by assumption)) ?_) | (with_reducible refine And.intro (Nat.zero_le _) ?_) | (with_reducible refine And.intro rfl ?_) | (with_reducible refine ⟨_, sv (add32 _ _), ?_⟩) | (with_reducible refine ⟨_, sv (xor32 _ _), ?_⟩) | (with_reducible refine ⟨_, sv (and32 _ _), ?_⟩) | (with_reducible refine ⟨_, sv (or32 _ _), ?_⟩) | (with_reducible refine ⟨_, sv (not32 _), ?_⟩) | (with_reducible refine ⟨_, sv (shlI _ _ (by omega) (by omega)), ?_⟩) | (with_reducible refine ⟨_, sv (shrI _ _ (by omega) (by omega)), ?_⟩) | (with_reducible refine ⟨_, sv (conv832 _), ?_⟩) | (with_reducible refine ⟨_, sv (conv328 _), ?_⟩) | (with_reducible refine ⟨fun _ => ?_, fun h => Bool.noConfusion h⟩) | (with_reducible refine ⟨fun h => Bool.noConfusion h, fun _ => ?_⟩) | (with_reducible refine ⟨_, sv (wrap_in _ (by omega) (by omega)), ?_⟩) | (with_reducible refine ⟨_, sv (wrapu_in _ (by omega) (by omega)), ?_⟩) | (with_reducible refine ⟨_, sv (wrap8_in _ (by omega) (by omega)), ?_⟩) | (refine ⟨_, rfl, ?_⟩) | (refine ⟨_, SomF.out (by assumption), ?_⟩) | (refine And.intro (by omega) ?_)))))) | ((with_reducible apply g_mem); (case hq => exact rfl); (case hv => exact rfl); (case he => (intro R hR; repeat (first | exact hR | ((try conv => whnf); first | exact hR | (with_reducible refine ⟨_, sv (EqF.out (by assumption)), ?_⟩) | (with_reducible refine And.intro (SideF.out (by assumption)) ?_) | (with_reducible refine And.intro (Nat.zero_le _) ?_) | (with_reducible refine And.intro rfl ?_) | (with_reducible refine ⟨_, sv (add32 _ _), ?_⟩) | (with_reducible refine ⟨_, sv (xor32 _ _), ?_⟩) | (with_reducible refine ⟨_, sv (and32 _ _), ?_⟩) | (with_reducible refine ⟨_, sv (or32 _ _), ?_⟩) | (with_reducible refine ⟨_, sv (not32 _), ?_⟩) | (with_reducible refine ⟨_, sv (shlI _ _ (by omega) (by omega)), ?_⟩) | (with_reducible refine ⟨_, sv (shrI _ _ (by omega) (by omega)), ?_⟩) | (with_reducible refine ⟨_, sv (conv832 _), ?_⟩) | (with_reducible refine ⟨_, sv (conv328 _), ?_⟩) | (with_reducible refine ⟨fun _ => ?_, fun h => Bool.noConfusion h⟩) | (with_reducible refine ⟨fun h => Bool.noConfusion h, fun _ => ?_⟩) | (with_reducible refine ⟨_, sv (wrap_in _ (by omega) (by omega)), ?_⟩) | (with_reducible refine ⟨_, sv (wrapu_in _ (by omega) (by omega)), ?_⟩) | (with_reducible refine ⟨_, sv (wrap8_in _ (by omega) (by omega)), ?_⟩) | (refine ⟨_, rfl, ?_⟩) | (refine ⟨_, SomF.out (by assumption), ?_⟩) | (refine And.intro (by omega) ?_))))); (case hd => exact rfl)) | ((with_reducible apply n_nil)) | ((with_reducible apply c_seq)) | ((with_reducible apply seqQ_n)) | ((with_reducible apply c_region)) | ((with_reducible apply c_condT); (case he => exact rfl)) | ((with_reducible apply c_condF); (case he => exact rfl)) | ((with_reducible apply c_block)) | ((with_reducible apply c_skip)) | ((with_reducible apply c_exit)) | ((with_reducible apply c_ret)) | ((with_reducible apply seqQ_x)) | ((with_reducible apply seqQ_r)) | ((with_reducible apply blockQ_n)) | ((with_reducible apply blockQ_r)) | ((with_reducible apply blockQ_x); (case hb => exact rfl)) | ((with_reducible apply blockQ_y); (case hb => exact rfl)) | ((with_reducible apply loopQ_x)) | ((with_reducible apply loopQ_r)) | ((with_reducible apply c_label)) | ((with_reducible apply e_none); (case ho => exact rfl); (case hb => exact rfl); (case he => (intro R hR; repeat (first | exact hR | ((try conv => whnf); first | exact hR | (with_reducible refine ⟨_, sv (EqF.out (by assumption)), ?_⟩) | (with_reducible refine And.intro (SideF.out (by assumption)) ?_) | (with_reducible refine And.intro (Nat.zero_le _) ?_) | (with_reducible refine And.intro rfl ?_) | (with_reducible refine ⟨_, sv (add32 _ _), ?_⟩) | (with_reducible refine ⟨_, sv (xor32 _ _), ?_⟩) | (with_reducible refine ⟨_, sv (and32 _ _), ?_⟩) | (with_reducible refine ⟨_, sv (or32 _ _), ?_⟩) | (with_reducible refine ⟨_, sv (not32 _), ?_⟩) | (with_reducible refine ⟨_, sv (shlI _ _ (by omega) (by omega)), ?_⟩) | (with_reducible refine ⟨_, sv (shrI _ _ (by omega) (by omega)), ?_⟩) | (with_reducible refine ⟨_, sv (conv832 _), ?_⟩) | (with_reducible refine ⟨_, sv (conv328 _), ?_⟩) | (with_reducible refine ⟨fun _ => ?_, fun h => Bool.noConfusion h⟩) | (with_reducible refine ⟨fun h => Bool.noConfusion h, fun _ => ?_⟩) | (with_reducible refine ⟨_, sv (wrap_in _ (by omega) (by omega)), ?_⟩) | (with_reducible refine ⟨_, sv (wrapu_in _ (by omega) (by omega)), ?_⟩) | (with_reducible refine ⟨_, sv (wrap8_in _ (by omega) (by omega)), ?_⟩) | (refine ⟨_, rfl, ?_⟩) | (refine ⟨_, SomF.out (by assumption), ?_⟩) | (refine And.intro (by omega) ?_)))))) | ((with_reducible apply e_valY); (case ho => exact rfl); (case hs => exact rfl); (case hv => exact rfl); (case hb => exact rfl); (case he => (intro R hR; repeat (first | exact hR | ((try conv => whnf); first | exact hR | (with_reducible refine ⟨_, sv (EqF.out (by assumption)), ?_⟩) | (with_reducible refine And.intro (SideF.out (by assumption)) ?_) | (with_reducible refine And.intro (Nat.zero_le _) ?_) | (with_reducible refine And.intro rfl ?_) | (with_reducible refine ⟨_, sv (add32 _ _), ?_⟩) | (with_reducible refine ⟨_, sv (xor32 _ _), ?_⟩) | (with_reducible refine ⟨_, sv (and32 _ _), ?_⟩) | (with_reducible refine ⟨_, sv (or32 _ _), ?_⟩) | (with_reducible refine ⟨_, sv (not32 _), ?_⟩) | (with_reducible refine ⟨_, sv (shlI _ _ (by omega) (by omega)), ?_⟩) | (with_reducible refine ⟨_, sv (shrI _ _ (by omega) (by omega)), ?_⟩) | (with_reducible refine ⟨_, sv (conv832 _), ?_⟩) | (with_reducible refine ⟨_, sv (conv328 _), ?_⟩) | (with_reducible refine ⟨fun _ => ?_, fun h => Bool.noConfusion h⟩) | (with_reducible refine ⟨fun h => Bool.noConfusion h, fun _ => ?_⟩) | (with_reducible refine ⟨_, sv (wrap_in _ (by omega) (by omega)), ?_⟩) | (with_reducible refine ⟨_, sv (wrapu_in _ (by omega) (by omega)), ?_⟩) | (with_reducible refine ⟨_, sv (wrap8_in _ (by omega) (by omega)), ?_⟩) | (refine ⟨_, rfl, ?_⟩) | (refine ⟨_, SomF.out (by assumption), ?_⟩) | (refine And.intro (by omega) ?_)))))) | ((with_reducible apply e_mem); (case ho => exact rfl); (case hb => exact rfl); (case he => (intro R hR; repeat (first | exact hR | ((try conv => whnf); first | exact hR | (with_reducible refine ⟨_, sv (EqF.out (by assumption)), ?_⟩) | (with_reducible refine And.intro (SideF.out (by assumption)) ?_) | (with_reducible refine And.intro (Nat.zero_le _) ?_) | (with_reducible refine And.intro rfl ?_) | (with_reducible refine ⟨_, sv (add32 _ _), ?_⟩) | (with_reducible refine ⟨_, sv (xor32 _ _), ?_⟩) | (with_reducible refine ⟨_, sv (and32 _ _), ?_⟩) | (with_reducible refine ⟨_, sv (or32 _ _), ?_⟩) | (with_reducible refine ⟨_, sv (not32 _), ?_⟩) | (with_reducible refine ⟨_, sv (shlI _ _ (by omega) (by omega)), ?_⟩) | (with_reducible refine ⟨_, sv (shrI _ _ (by omega) (by omega)), ?_⟩) | (with_reducible refine ⟨_, sv (conv832 _), ?_⟩) | (with_reducible refine ⟨_, sv (conv328 _), ?_⟩) | (with_reducible refine ⟨fun _ => ?_, fun h => Bool.noConfusion h⟩) | (with_reducible refine ⟨fun h => Bool.noConfusion h, fun _ => ?_⟩) | (with_reducible refine ⟨_, sv (wrap_in _ (by omega) (by omega)), ?_⟩) | (with_reducible refine ⟨_, sv (wrapu_in _ (by omega) (by omega)), ?_⟩) | (with_reducible refine ⟨_, sv (wrap8_in _ (by omega) (by omega)), ?_⟩) | (refine ⟨_, rfl, ?_⟩) | (refine ⟨_, SomF.out (by assumption), ?_⟩) | (refine And.intro (by omega) ?_)))))) | ((with_reducible apply d_next)) | ((with_reducible apply d_step); (case ho => exact rfl)) | ((with_reducible apply d_guardN); (case hs => exact rfl); (case hv => exact rfl); (case hd => exact rfl)) | ((with_reducible apply d_guardU); (case hs => exact rfl); (case hv => exact rfl); (case hd => exact rfl)) | ((with_reducible apply d_guardY); (case hs => exact rfl); (case hv => exact rfl)) | ((with_reducible apply d_go)) | ((with_reducible apply gd_val); (case hv => exact rfl); (case he => (intro R hR; repeat (first | exact hR | ((try conv => whnf); first | exact hR | (with_reducible refine ⟨_, sv (EqF.out (by assumption)), ?_⟩) | (with_reducible refine And.intro (SideF.out (by assumption)) ?_) | (with_reducible refine And.intro (Nat.zero_le _) ?_) | (with_reducible refine And.intro rfl ?_) | (with_reducible refine ⟨_, sv (add32 _ _), ?_⟩) | (with_reducible refine ⟨_, sv (xor32 _ _), ?_⟩) | (with_reducible refine ⟨_, sv (and32 _ _), ?_⟩) | (with_reducible refine ⟨_, sv (or32 _ _), ?_⟩) | (with_reducible refine ⟨_, sv (not32 _), ?_⟩) | (with_reducible refine ⟨_, sv (shlI _ _ (by omega) (by omega)), ?_⟩) | (with_reducible refine ⟨_, sv (shrI _ _ (by omega) (by omega)), ?_⟩) | (with_reducible refine ⟨_, sv (conv832 _), ?_⟩) | (with_reducible refine ⟨_, sv (conv328 _), ?_⟩) | (with_reducible refine ⟨fun _ => ?_, fun h => Bool.noConfusion h⟩) | (with_reducible refine ⟨fun h => Bool.noConfusion h, fun _ => ?_⟩) | (with_reducible refine ⟨_, sv (wrap_in _ (by omega) (by omega)), ?_⟩) | (with_reducible refine ⟨_, sv (wrapu_in _ (by omega) (by omega)), ?_⟩) | (with_reducible refine ⟨_, sv (wrap8_in _ (by omega) (by omega)), ?_⟩) | (refine ⟨_, rfl, ?_⟩) | (refine ⟨_, SomF.out (by assumption), ?_⟩) | (refine And.intro (by omega) ?_))))); (case hd => exact rfl)) | ((with_reducible apply gd_none); (case hv => exact rfl); (case he => (intro R hR; repeat (first | exact hR | ((try conv => whnf); first | exact hR | (with_reducible refine ⟨_, sv (EqF.out (by assumption)), ?_⟩) | (with_reducible refine And.intro (SideF.out (by assumption)) ?_) | (with_reducible refine And.intro (Nat.zero_le _) ?_) | (with_reducible refine And.intro rfl ?_) | (with_reducible refine ⟨_, sv (add32 _ _), ?_⟩) | (with_reducible refine ⟨_, sv (xor32 _ _), ?_⟩) | (with_reducible refine ⟨_, sv (and32 _ _), ?_⟩) | (with_reducible refine ⟨_, sv (or32 _ _), ?_⟩) | (with_reducible refine ⟨_, sv (not32 _), ?_⟩) | (with_reducible refine ⟨_, sv (shlI _ _ (by omega) (by omega)), ?_⟩) | (with_reducible refine ⟨_, sv (shrI _ _ (by omega) (by omega)), ?_⟩) | (with_reducible refine ⟨_, sv (conv832 _), ?_⟩) | (with_reducible refine ⟨_, sv (conv328 _), ?_⟩) | (with_reducible refine ⟨fun _ => ?_, fun h => Bool.noConfusion h⟩) | (with_reducible refine ⟨fun h => Bool.noConfusion h, fun _ => ?_⟩) | (with_reducible refine ⟨_, sv (wrap_in _ (by omega) (by omega)), ?_⟩) | (with_reducible refine ⟨_, sv (wrapu_in _ (by omega) (by omega)), ?_⟩) | (with_reducible refine ⟨_, sv (wrap8_in _ (by omega) (by omega)), ?_⟩) | (refine ⟨_, rfl, ?_⟩) | (refine ⟨_, SomF.out (by assumption), ?_⟩) | (refine And.intro (by omega) ?_)))))) | ((with_reducible apply gd_mem); (case hv => exact rfl); (case he => (intro R hR; repeat (first | exact hR | ((try conv => whnf); first | exact hR | (with_reducible refine ⟨_, sv (EqF.out (by assumption)), ?_⟩) | (with_reducible refine And.intro (SideF.out (by assumption)) ?_) | (with_reducible refine And.intro (Nat.zero_le _) ?_) | (with_reducible refine And.intro rfl ?_) | (with_reducible refine ⟨_, sv (add32 _ _), ?_⟩) | (with_reducible refine ⟨_, sv (xor32 _ _), ?_⟩) | (with_reducible refine ⟨_, sv (and32 _ _), ?_⟩) | (with_reducible refine ⟨_, sv (or32 _ _), ?_⟩) | (with_reducible refine ⟨_, sv (not32 _), ?_⟩) | (with_reducible refine ⟨_, sv (shlI _ _ (by omega) (by omega)), ?_⟩) | (with_reducible refine ⟨_, sv (shrI _ _ (by omega) (by omega)), ?_⟩) | (with_reducible refine ⟨_, sv (conv832 _), ?_⟩) | (with_reducible refine ⟨_, sv (conv328 _), ?_⟩) | (with_reducible refine ⟨fun _ => ?_, fun h => Bool.noConfusion h⟩) | (with_reducible refine ⟨fun h => Bool.noConfusion h, fun _ => ?_⟩) | (with_reducible refine ⟨_, sv (wrap_in _ (by omega) (by omega)), ?_⟩) | (with_reducible refine ⟨_, sv (wrapu_in _ (by omega) (by omega)), ?_⟩) | (with_reducible refine ⟨_, sv (wrap8_in _ (by omega) (by omega)), ?_⟩) | (refine ⟨_, rfl, ?_⟩) | (refine ⟨_, SomF.out (by assumption), ?_⟩) | (refine And.intro (by omega) ?_))))); (case hd => exact rfl)) | ((with_reducible apply n_guardY); (case hs => exact rfl); (case hv => exact rfl)) | ((with_reducible apply n_go)))); exact hq.out) : p := s ⟨h⟩
theorem goe1 {p q : Prop} (h : q) (s : Box q → p := by intro hq; (repeat (first | ((with_reducible apply n_val); (case hb => exact rfl); (case he => (intro R hR; repeat ((try conv => whnf); first | (with_reducible exact eqs_i hR) | (with_reducible exact nes_i hR) | (with_reducible exact eqs_s hR) | (with_reducible exact nes_s hR) | exact hR | (with_reducible refine ⟨_, sv (EqF.out (by assumption)), ?_⟩) | (with_reducible refine And.intro (SideF.out (by assumption)) ?_) | (with_reducible refine And.intro (Nat.zero_le _) ?_) | (with_reducible refine And.intro rfl ?_) | (with_reducible refine ⟨_, idx_at (by omega), ?_⟩) | (with_reducible refine ⟨fun _ => ?_, fun h => Bool.noConfusion h⟩) | (with_reducible refine ⟨fun h => Bool.noConfusion h, fun _ => ?_⟩) | (with_reducible refine ⟨_, sv (wrap_in _ (by omega) (by omega)), ?_⟩) | (with_reducible refine ⟨_, sv (wrapu_in _ (by omega) (by omega)), ?_⟩) | (with_reducible refine ⟨_, sv (wrap8_in _ (by omega) (by omega)), ?_⟩) | (refine ⟨_, rfl, ?_⟩) | (refine ⟨_, SomF.out (by assumption), ?_⟩) | (refine And.intro (by omega) ?_))))) | ((with_reducible apply n_nilS)) | ((with_reducible apply c_seqR)) | ((with_reducible apply n_app)) | ((with_reducible apply n_app0)) | ((with_reducible apply e_val); (case ho => exact rfl); (case hb => exact rfl); (case he => (intro R hR; repeat ((try conv => whnf); first | (with_reducible exact eqs_i hR) | (with_reducible exact nes_i hR) | (with_reducible exact eqs_s hR) | (with_reducible exact nes_s hR) | exact hR | (with_reducible refine ⟨_, sv (EqF.out (by assumption)), ?_⟩) | (with_reducible refine And.intro (SideF.out (by assumption)) ?_) | (with_reducible refine And.intro (Nat.zero_le _) ?_) | (with_reducible refine And.intro rfl ?_) | (with_reducible refine ⟨_, idx_at (by omega), ?_⟩) | (with_reducible refine ⟨fun _ => ?_, fun h => Bool.noConfusion h⟩) | (with_reducible refine ⟨fun h => Bool.noConfusion h, fun _ => ?_⟩) | (with_reducible refine ⟨_, sv (wrap_in _ (by omega) (by omega)), ?_⟩) | (with_reducible refine ⟨_, sv (wrapu_in _ (by omega) (by omega)), ?_⟩) | (with_reducible refine ⟨_, sv (wrap8_in _ (by omega) (by omega)), ?_⟩) | (refine ⟨_, rfl, ?_⟩) | (refine ⟨_, SomF.out (by assumption), ?_⟩) | (refine And.intro (by omega) ?_))))) | ((with_reducible apply d_end); (case ho => exact (show okDraw _ _ = true by kernel_rfl))) | ((with_reducible apply n_none); (case hb => exact rfl); (case he => (intro R hR; repeat ((try conv => whnf); first | (with_reducible exact eqs_i hR) | (with_reducible exact nes_i hR) | (with_reducible exact eqs_s hR) | (with_reducible exact nes_s hR) | exact hR | (with_reducible refine ⟨_, sv (EqF.out (by assumption)), ?_⟩) | (with_reducible refine And.intro (SideF.out (by assumption)) ?_) | (with_reducible refine And.intro (Nat.zero_le _) ?_) | (with_reducible refine And.intro rfl ?_) | (with_reducible refine ⟨_, idx_at (by omega), ?_⟩) | (with_reducible refine ⟨fun _ => ?_, fun h => Bool.noConfusion h⟩) | (with_reducible refine ⟨fun h => Bool.noConfusion h, fun _ => ?_⟩) | (with_reducible refine ⟨_, sv (wrap_in _ (by omega) (by omega)), ?_⟩) | (with_reducible refine ⟨_, sv (wrapu_in _ (by omega) (by omega)), ?_⟩) | (with_reducible refine ⟨_, sv (wrap8_in _ (by omega) (by omega)), ?_⟩) | (refine ⟨_, rfl, ?_⟩) | (refine ⟨_, SomF.out (by assumption), ?_⟩) | (refine And.intro (by omega) ?_))))) | ((with_reducible apply n_mem); (case hb => exact rfl); (case he => (intro R hR; repeat ((try conv => whnf); first | (with_reducible exact eqs_i hR) | (with_reducible exact nes_i hR) | (with_reducible exact eqs_s hR) | (with_reducible exact nes_s hR) | exact hR | (with_reducible refine ⟨_, sv (EqF.out (by assumption)), ?_⟩) | (with_reducible refine And.intro (SideF.out (by assumption)) ?_) | (with_reducible refine And.intro (Nat.zero_le _) ?_) | (with_reducible refine And.intro rfl ?_) | (with_reducible refine ⟨_, idx_at (by omega), ?_⟩) | (with_reducible refine ⟨fun _ => ?_, fun h => Bool.noConfusion h⟩) | (with_reducible refine ⟨fun h => Bool.noConfusion h, fun _ => ?_⟩) | (with_reducible refine ⟨_, sv (wrap_in _ (by omega) (by omega)), ?_⟩) | (with_reducible refine ⟨_, sv (wrapu_in _ (by omega) (by omega)), ?_⟩) | (with_reducible refine ⟨_, sv (wrap8_in _ (by omega) (by omega)), ?_⟩) | (refine ⟨_, rfl, ?_⟩) | (refine ⟨_, SomF.out (by assumption), ?_⟩) | (refine And.intro (by omega) ?_))))) | ((with_reducible apply n_valY); (case hs => exact rfl); (case hv => exact rfl); (case hb => exact rfl); (case he => (intro R hR; repeat ((try conv => whnf); first | (with_reducible exact eqs_i hR) | (with_reducible exact nes_i hR) | (with_reducible exact eqs_s hR) | (with_reducible exact nes_s hR) | exact hR | (with_reducible refine ⟨_, sv (EqF.out (by assumption)), ?_⟩) | (with_reducible refine And.intro (SideF.out (by assumption)) ?_) | (with_reducible refine And.intro (Nat.zero_le _) ?_) | (with_reducible refine And.intro rfl ?_) | (with_reducible refine ⟨_, idx_at (by omega), ?_⟩) | (with_reducible refine ⟨fun _ => ?_, fun h => Bool.noConfusion h⟩) | (with_reducible refine ⟨fun h => Bool.noConfusion h, fun _ => ?_⟩) | (with_reducible refine ⟨_, sv (wrap_in _ (by omega) (by omega)), ?_⟩) | (with_reducible refine ⟨_, sv (wrapu_in _ (by omega) (by omega)), ?_⟩) | (with_reducible refine ⟨_, sv (wrap8_in _ (by omega) (by omega)), ?_⟩) | (refine ⟨_, rfl, ?_⟩) | (refine ⟨_, SomF.out (by assumption), ?_⟩) | (refine And.intro (by omega) ?_))))) | ((with_reducible apply n_guardN); (case hs => exact rfl); (case hv => exact rfl); (case hd => exact rfl)) | ((with_reducible apply n_guardU); (case hs => exact rfl); (case hv => exact rfl); (case hd => exact rfl)) | ((with_reducible apply g_val); (case hq => exact rfl); (case hv => exact rfl); (case he => (intro R hR; repeat ((try conv => whnf); first | (with_reducible exact eqs_i hR) | (with_reducible exact nes_i hR) | (with_reducible exact eqs_s hR) | (with_reducible exact nes_s hR) | exact hR | (with_reducible refine ⟨_, sv (EqF.out (by assumption)), ?_⟩) | (with_reducible refine And.intro (SideF.out (by assumption)) ?_) | (with_reducible refine And.intro (Nat.zero_le _) ?_) | (with_reducible refine And.intro rfl ?_) | (with_reducible refine ⟨_, idx_at (by omega), ?_⟩) | (with_reducible refine ⟨fun _ => ?_, fun h => Bool.noConfusion h⟩) | (with_reducible refine ⟨fun h => Bool.noConfusion h, fun _ => ?_⟩) | (with_reducible refine ⟨_, sv (wrap_in _ (by omega) (by omega)), ?_⟩) | (with_reducible refine ⟨_, sv (wrapu_in _ (by omega) (by omega)), ?_⟩) | (with_reducible refine ⟨_, sv (wrap8_in _ (by omega) (by omega)), ?_⟩) | (refine ⟨_, rfl, ?_⟩) | (refine ⟨_, SomF.out (by assumption), ?_⟩) | (refine And.intro (by omega) ?_)))); (case hd => exact rfl)) | ((with_reducible apply g_none); (case hq => exact rfl); (case hv => exact rfl); (case he => (intro R hR; repeat ((try conv => whnf); first | (with_reducible exact eqs_i hR) | (with_reducible exact nes_i hR) | (with_reducible exact eqs_s hR) | (with_reducible exact nes_s hR) | exact hR | (with_reducible refine ⟨_, sv (EqF.out (by assumption)), ?_⟩) | (with_reducible refine And.intro (SideF.out (by assumption)) ?_) | (with_reducible refine And.intro (Nat.zero_le _) ?_) | (with_reducible refine And.intro rfl ?_) | (with_reducible refine ⟨_, idx_at (by omega), ?_⟩) | (with_reducible refine ⟨fun _ => ?_, fun h => Bool.noConfusion h⟩) | (with_reducible refine ⟨fun h => Bool.noConfusion h, fun _ => ?_⟩) | (with_reducible refine ⟨_, sv (wrap_in _ (by omega) (by omega)), ?_⟩) | (with_reducible refine ⟨_, sv (wrapu_in _ (by omega) (by omega)), ?_⟩) | (with_reducible refine ⟨_, sv (wrap8_in _ (by omega) (by omega)), ?_⟩) | (refine ⟨_, rfl, ?_⟩) | (refine ⟨_, SomF.out (by assumption), ?_⟩) | (refine And.intro (by omega) ?_))))) | ((with_reducible apply g_mem); (case hq => exact rfl); (case hv => exact rfl); (case he => (intro R hR; repeat ((try conv => whnf); first | (with_reducible exact eqs_i hR) | (with_reducible exact nes_i hR) | (with_reducible exact eqs_s hR) | (with_reducible exact nes_s hR) | exact hR | (with_reducible refine ⟨_, sv (EqF.out (by assumption)), ?_⟩) | (with_reducible refine And.intro (SideF.out (by assumption)) ?_) | (with_reducible refine And.intro (Nat.zero_le _) ?_) | (with_reducible refine And.intro rfl ?_) | (with_reducible refine ⟨_, idx_at (by omega), ?_⟩) | (with_reducible refine ⟨fun _ => ?_, fun h => Bool.noConfusion h⟩) | (with_reducible refine ⟨fun h => Bool.noConfusion h, fun _ => ?_⟩) | (with_reducible refine ⟨_, sv (wrap_in _ (by omega) (by omega)), ?_⟩) | (with_reducible refine ⟨_, sv (wrapu_in _ (by omega) (by omega)), ?_⟩) | (with_reducible refine ⟨_, sv (wrap8_in _ (by omega) (by omega)), ?_⟩) | (refine ⟨_, rfl, ?_⟩) | (refine ⟨_, SomF.out (by assumption), ?_⟩) | (refine And.intro (by omega) ?_)))); (case hd => exact rfl)) | ((with_reducible apply n_nil)) | ((with_reducible apply c_seq)) | ((with_reducible apply seqQ_n)) | ((with_reducible apply c_region)) | ((with_reducible apply c_condT); (case he => exact rfl)) | ((with_reducible apply c_condF); (case he => exact rfl)) | ((with_reducible apply c_block)) | ((with_reducible apply c_skip)) | ((with_reducible apply c_exit)) | ((with_reducible apply c_ret)) | ((with_reducible apply seqQ_x)) | ((with_reducible apply seqQ_r)) | ((with_reducible apply blockQ_n)) | ((with_reducible apply blockQ_r)) | ((with_reducible apply blockQ_x); (case hb => exact rfl)) | ((with_reducible apply blockQ_y); (case hb => exact rfl)) | ((with_reducible apply loopQ_x)) | ((with_reducible apply loopQ_r)) | ((with_reducible apply c_label)) | ((with_reducible apply e_none); (case ho => exact rfl); (case hb => exact rfl); (case he => (intro R hR; repeat ((try conv => whnf); first | (with_reducible exact eqs_i hR) | (with_reducible exact nes_i hR) | (with_reducible exact eqs_s hR) | (with_reducible exact nes_s hR) | exact hR | (with_reducible refine ⟨_, sv (EqF.out (by assumption)), ?_⟩) | (with_reducible refine And.intro (SideF.out (by assumption)) ?_) | (with_reducible refine And.intro (Nat.zero_le _) ?_) | (with_reducible refine And.intro rfl ?_) | (with_reducible refine ⟨_, idx_at (by omega), ?_⟩) | (with_reducible refine ⟨fun _ => ?_, fun h => Bool.noConfusion h⟩) | (with_reducible refine ⟨fun h => Bool.noConfusion h, fun _ => ?_⟩) | (with_reducible refine ⟨_, sv (wrap_in _ (by omega) (by omega)), ?_⟩) | (with_reducible refine ⟨_, sv (wrapu_in _ (by omega) (by omega)), ?_⟩) | (with_reducible refine ⟨_, sv (wrap8_in _ (by omega) (by omega)), ?_⟩) | (refine ⟨_, rfl, ?_⟩) | (refine ⟨_, SomF.out (by assumption), ?_⟩) | (refine And.intro (by omega) ?_))))) | ((with_reducible apply e_valY); (case ho => exact rfl); (case hs => exact rfl); (case hv => exact rfl); (case hb => exact rfl); (case he => (intro R hR; repeat ((try conv => whnf); first | (with_reducible exact eqs_i hR) | (with_reducible exact nes_i hR) | (with_reducible exact eqs_s hR) | (with_reducible exact nes_s hR) | exact hR | (with_reducible refine ⟨_, sv (EqF.out (by assumption)), ?_⟩) | (with_reducible refine And.intro (SideF.out (by assumption)) ?_) | (with_reducible refine And.intro (Nat.zero_le _) ?_) | (with_reducible refine And.intro rfl ?_) | (with_reducible refine ⟨_, idx_at (by omega), ?_⟩) | (with_reducible refine ⟨fun _ => ?_, fun h => Bool.noConfusion h⟩) | (with_reducible refine ⟨fun h => Bool.noConfusion h, fun _ => ?_⟩) | (with_reducible refine ⟨_, sv (wrap_in _ (by omega) (by omega)), ?_⟩) | (with_reducible refine ⟨_, sv (wrapu_in _ (by omega) (by omega)), ?_⟩) | (with_reducible refine ⟨_, sv (wrap8_in _ (by omega) (by omega)), ?_⟩) | (refine ⟨_, rfl, ?_⟩) | (refine ⟨_, SomF.out (by assumption), ?_⟩) | (refine And.intro (by omega) ?_))))) | ((with_reducible apply e_mem); (case ho => exact rfl); (case hb => exact rfl); (case he => (intro R hR; repeat ((try conv => whnf); first | (with_reducible exact eqs_i hR) | (with_reducible exact nes_i hR) | (with_reducible exact eqs_s hR) | (with_reducible exact nes_s hR) | exact hR | (with_reducible refine ⟨_, sv (EqF.out (by assumption)), ?_⟩) | (with_reducible refine And.intro (SideF.out (by assumption)) ?_) | (with_reducible refine And.intro (Nat.zero_le _) ?_) | (with_reducible refine And.intro rfl ?_) | (with_reducible refine ⟨_, idx_at (by omega), ?_⟩) | (with_reducible refine ⟨fun _ => ?_, fun h => Bool.noConfusion h⟩) | (with_reducible refine ⟨fun h => Bool.noConfusion h, fun _ => ?_⟩) | (with_reducible refine ⟨_, sv (wrap_in _ (by omega) (by omega)), ?_⟩) | (with_reducible refine ⟨_, sv (wrapu_in _ (by omega) (by omega)), ?_⟩) | (with_reducible refine ⟨_, sv (wrap8_in _ (by omega) (by omega)), ?_⟩) | (refine ⟨_, rfl, ?_⟩) | (refine ⟨_, SomF.out (by assumption), ?_⟩) | (refine And.intro (by omega) ?_))))) | ((with_reducible apply d_next)) | ((with_reducible apply d_step); (case ho => exact rfl)) | ((with_reducible apply d_guardN); (case hs => exact rfl); (case hv => exact rfl); (case hd => exact rfl)) | ((with_reducible apply d_guardU); (case hs => exact rfl); (case hv => exact rfl); (case hd => exact rfl)) | ((with_reducible apply d_guardY); (case hs => exact rfl); (case hv => exact rfl)) | ((with_reducible apply d_go)) | ((with_reducible apply gd_val); (case hv => exact rfl); (case he => (intro R hR; repeat ((try conv => whnf); first | (with_reducible exact eqs_i hR) | (with_reducible exact nes_i hR) | (with_reducible exact eqs_s hR) | (with_reducible exact nes_s hR) | exact hR | (with_reducible refine ⟨_, sv (EqF.out (by assumption)), ?_⟩) | (with_reducible refine And.intro (SideF.out (by assumption)) ?_) | (with_reducible refine And.intro (Nat.zero_le _) ?_) | (with_reducible refine And.intro rfl ?_) | (with_reducible refine ⟨_, idx_at (by omega), ?_⟩) | (with_reducible refine ⟨fun _ => ?_, fun h => Bool.noConfusion h⟩) | (with_reducible refine ⟨fun h => Bool.noConfusion h, fun _ => ?_⟩) | (with_reducible refine ⟨_, sv (wrap_in _ (by omega) (by omega)), ?_⟩) | (with_reducible refine ⟨_, sv (wrapu_in _ (by omega) (by omega)), ?_⟩) | (with_reducible refine ⟨_, sv (wrap8_in _ (by omega) (by omega)), ?_⟩) | (refine ⟨_, rfl, ?_⟩) | (refine ⟨_, SomF.out (by assumption), ?_⟩) | (refine And.intro (by omega) ?_)))); (case hd => exact rfl)) | ((with_reducible apply gd_none); (case hv => exact rfl); (case he => (intro R hR; repeat ((try conv => whnf); first | (with_reducible exact eqs_i hR) | (with_reducible exact nes_i hR) | (with_reducible exact eqs_s hR) | (with_reducible exact nes_s hR) | exact hR | (with_reducible refine ⟨_, sv (EqF.out (by assumption)), ?_⟩) | (with_reducible refine And.intro (SideF.out (by assumption)) ?_) | (with_reducible refine And.intro (Nat.zero_le _) ?_) | (with_reducible refine And.intro rfl ?_) | (with_reducible refine ⟨_, idx_at (by omega), ?_⟩) | (with_reducible refine ⟨fun _ => ?_, fun h => Bool.noConfusion h⟩) | (with_reducible refine ⟨fun h => Bool.noConfusion h, fun _ => ?_⟩) | (with_reducible refine ⟨_, sv (wrap_in _ (by omega) (by omega)), ?_⟩) | (with_reducible refine ⟨_, sv (wrapu_in _ (by omega) (by omega)), ?_⟩) | (with_reducible refine ⟨_, sv (wrap8_in _ (by omega) (by omega)), ?_⟩) | (refine ⟨_, rfl, ?_⟩) | (refine ⟨_, SomF.out (by assumption), ?_⟩) | (refine And.intro (by omega) ?_))))) | ((with_reducible apply gd_mem); (case hv => exact rfl); (case he => (intro R hR; repeat ((try conv => whnf); first | (with_reducible exact eqs_i hR) | (with_reducible exact nes_i hR) | (with_reducible exact eqs_s hR) | (with_reducible exact nes_s hR) | exact hR | (with_reducible refine ⟨_, sv (EqF.out (by assumption)), ?_⟩) | (with_reducible refine And.intro (SideF.out (by assumption)) ?_) | (with_reducible refine And.intro (Nat.zero_le _) ?_) | (with_reducible refine And.intro rfl ?_) | (with_reducible refine ⟨_, idx_at (by omega), ?_⟩) | (with_reducible refine ⟨fun _ => ?_, fun h => Bool.noConfusion h⟩) | (with_reducible refine ⟨fun h => Bool.noConfusion h, fun _ => ?_⟩) | (with_reducible refine ⟨_, sv (wrap_in _ (by omega) (by omega)), ?_⟩) | (with_reducible refine ⟨_, sv (wrapu_in _ (by omega) (by omega)), ?_⟩) | (with_reducible refine ⟨_, sv (wrap8_in _ (by omega) (by omega)), ?_⟩) | (refine ⟨_, rfl, ?_⟩) | (refine ⟨_, SomF.out (by assumption), ?_⟩) | (refine And.intro (by omega) ?_)))); (case hd => exact rfl)) | ((with_reducible apply n_guardY); (case hs => exact rfl); (case hv => exact rfl)) | ((with_reducible apply n_go)))); exact hq.out) : p := s ⟨h⟩
theorem vm {n0 : Nat} {E' : VE} {M' : VM} {n' : Nat} {E : VE} {M : VM} (σ bs : List (Nat × Nat)) (h1 : mE (sigA n0 σ) (fzb M bs) E' E := by (repeat (first | exact trivial | refine ⟨Nat.le_refl _, ?_⟩ | (refine ⟨⟨_, rfl, ?_⟩, ?_⟩; focus (first | exact ⟨rfl, rfl⟩ | exact .inr ⟨rfl, rfl⟩ | exact .inr ⟨rfl, rfl, rfl, Nat.le_refl _, rfl⟩ | exact .inl rfl | exact .inl ⟨rfl, rfl⟩ | exact ⟨_, rfl, rfl⟩ | exact .inr ⟨_, rfl, rfl⟩ | exact .inl ⟨rfl, rfl, rfl⟩ | exact ⟨congrArg (MV.int _) (by omega), rfl⟩ | exact .inr ⟨rfl, rfl, rfl, Nat.le_of_eq (Nat.zero_add _), cut_all _ _⟩ | (refine .inr ⟨_, rfl, ?_⟩; focus (first | exact ⟨rfl, rfl⟩ | exact .inr ⟨rfl, rfl⟩ | exact .inr ⟨rfl, rfl, rfl, Nat.le_refl _, rfl⟩ | exact .inl rfl | exact .inl ⟨rfl, rfl⟩ | exact ⟨_, rfl, rfl⟩ | exact .inr ⟨_, rfl, rfl⟩ | exact .inl ⟨rfl, rfl, rfl⟩ | exact ⟨congrArg (MV.int _) (by omega), rfl⟩ | exact .inr ⟨rfl, rfl, rfl, Nat.le_of_eq (Nat.zero_add _), cut_all _ _⟩ | (refine .inr ⟨_, rfl, ?_⟩; focus (first | exact ⟨rfl, rfl⟩ | exact .inr ⟨rfl, rfl⟩ | exact .inr ⟨rfl, rfl, rfl, Nat.le_refl _, rfl⟩ | exact .inl rfl | exact .inl ⟨rfl, rfl⟩ | exact ⟨_, rfl, rfl⟩ | exact .inr ⟨_, rfl, rfl⟩ | exact .inl ⟨rfl, rfl, rfl⟩ | exact ⟨congrArg (MV.int _) (by omega), rfl⟩ | exact .inr ⟨rfl, rfl, rfl, Nat.le_of_eq (Nat.zero_add _), cut_all _ _⟩ | (refine .inr ⟨_, rfl, ?_⟩; focus (first | exact ⟨rfl, rfl⟩ | exact .inr ⟨rfl, rfl⟩ | exact .inr ⟨rfl, rfl, rfl, Nat.le_refl _, rfl⟩ | exact .inl rfl | exact .inl ⟨rfl, rfl⟩ | exact ⟨_, rfl, rfl⟩ | exact .inr ⟨_, rfl, rfl⟩ | exact .inl ⟨rfl, rfl, rfl⟩ | exact ⟨congrArg (MV.int _) (by omega), rfl⟩ | exact .inr ⟨rfl, rfl, rfl, Nat.le_of_eq (Nat.zero_add _), cut_all _ _⟩); done) | (refine .inr ⟨_, rfl, ?_⟩; focus (repeat (first | exact trivial | (refine And.intro ?_ ?_; focus (first | exact ⟨rfl, rfl⟩ | exact .inr ⟨rfl, rfl⟩ | exact .inr ⟨rfl, rfl, rfl, Nat.le_refl _, rfl⟩ | exact .inl rfl | exact .inl ⟨rfl, rfl⟩ | exact ⟨_, rfl, rfl⟩ | exact .inr ⟨_, rfl, rfl⟩ | exact .inl ⟨rfl, rfl, rfl⟩ | exact ⟨congrArg (MV.int _) (by omega), rfl⟩ | exact .inr ⟨rfl, rfl, rfl, Nat.le_of_eq (Nat.zero_add _), cut_all _ _⟩)))); done)); done) | (refine .inr ⟨_, rfl, ?_⟩; focus (repeat (first | exact trivial | (refine And.intro ?_ ?_; focus (first | exact ⟨rfl, rfl⟩ | exact .inr ⟨rfl, rfl⟩ | exact .inr ⟨rfl, rfl, rfl, Nat.le_refl _, rfl⟩ | exact .inl rfl | exact .inl ⟨rfl, rfl⟩ | exact ⟨_, rfl, rfl⟩ | exact .inr ⟨_, rfl, rfl⟩ | exact .inl ⟨rfl, rfl, rfl⟩ | exact ⟨congrArg (MV.int _) (by omega), rfl⟩ | exact .inr ⟨rfl, rfl, rfl, Nat.le_of_eq (Nat.zero_add _), cut_all _ _⟩ | (refine .inr ⟨_, rfl, ?_⟩; focus (first | exact ⟨rfl, rfl⟩ | exact .inr ⟨rfl, rfl⟩ | exact .inr ⟨rfl, rfl, rfl, Nat.le_refl _, rfl⟩ | exact .inl rfl | exact .inl ⟨rfl, rfl⟩ | exact ⟨_, rfl, rfl⟩ | exact .inr ⟨_, rfl, rfl⟩ | exact .inl ⟨rfl, rfl, rfl⟩ | exact ⟨congrArg (MV.int _) (by omega), rfl⟩ | exact .inr ⟨rfl, rfl, rfl, Nat.le_of_eq (Nat.zero_add _), cut_all _ _⟩); done) | (refine .inr ⟨_, rfl, ?_⟩; focus (repeat (first | exact trivial | (refine And.intro ?_ ?_; focus (first | exact ⟨rfl, rfl⟩ | exact .inr ⟨rfl, rfl⟩ | exact .inr ⟨rfl, rfl, rfl, Nat.le_refl _, rfl⟩ | exact .inl rfl | exact .inl ⟨rfl, rfl⟩ | exact ⟨_, rfl, rfl⟩ | exact .inr ⟨_, rfl, rfl⟩ | exact .inl ⟨rfl, rfl, rfl⟩ | exact ⟨congrArg (MV.int _) (by omega), rfl⟩ | exact .inr ⟨rfl, rfl, rfl, Nat.le_of_eq (Nat.zero_add _), cut_all _ _⟩)))); done))))); done)); done) | (refine .inr ⟨_, rfl, ?_⟩; focus (repeat (first | exact trivial | (refine And.intro ?_ ?_; focus (first | exact ⟨rfl, rfl⟩ | exact .inr ⟨rfl, rfl⟩ | exact .inr ⟨rfl, rfl, rfl, Nat.le_refl _, rfl⟩ | exact .inl rfl | exact .inl ⟨rfl, rfl⟩ | exact ⟨_, rfl, rfl⟩ | exact .inr ⟨_, rfl, rfl⟩ | exact .inl ⟨rfl, rfl, rfl⟩ | exact ⟨congrArg (MV.int _) (by omega), rfl⟩ | exact .inr ⟨rfl, rfl, rfl, Nat.le_of_eq (Nat.zero_add _), cut_all _ _⟩ | (refine .inr ⟨_, rfl, ?_⟩; focus (first | exact ⟨rfl, rfl⟩ | exact .inr ⟨rfl, rfl⟩ | exact .inr ⟨rfl, rfl, rfl, Nat.le_refl _, rfl⟩ | exact .inl rfl | exact .inl ⟨rfl, rfl⟩ | exact ⟨_, rfl, rfl⟩ | exact .inr ⟨_, rfl, rfl⟩ | exact .inl ⟨rfl, rfl, rfl⟩ | exact ⟨congrArg (MV.int _) (by omega), rfl⟩ | exact .inr ⟨rfl, rfl, rfl, Nat.le_of_eq (Nat.zero_add _), cut_all _ _⟩ | (refine .inr ⟨_, rfl, ?_⟩; focus (first | exact ⟨rfl, rfl⟩ | exact .inr ⟨rfl, rfl⟩ | exact .inr ⟨rfl, rfl, rfl, Nat.le_refl _, rfl⟩ | exact .inl rfl | exact .inl ⟨rfl, rfl⟩ | exact ⟨_, rfl, rfl⟩ | exact .inr ⟨_, rfl, rfl⟩ | exact .inl ⟨rfl, rfl, rfl⟩ | exact ⟨congrArg (MV.int _) (by omega), rfl⟩ | exact .inr ⟨rfl, rfl, rfl, Nat.le_of_eq (Nat.zero_add _), cut_all _ _⟩); done) | (refine .inr ⟨_, rfl, ?_⟩; focus (repeat (first | exact trivial | (refine And.intro ?_ ?_; focus (first | exact ⟨rfl, rfl⟩ | exact .inr ⟨rfl, rfl⟩ | exact .inr ⟨rfl, rfl, rfl, Nat.le_refl _, rfl⟩ | exact .inl rfl | exact .inl ⟨rfl, rfl⟩ | exact ⟨_, rfl, rfl⟩ | exact .inr ⟨_, rfl, rfl⟩ | exact .inl ⟨rfl, rfl, rfl⟩ | exact ⟨congrArg (MV.int _) (by omega), rfl⟩ | exact .inr ⟨rfl, rfl, rfl, Nat.le_of_eq (Nat.zero_add _), cut_all _ _⟩)))); done)); done) | (refine .inr ⟨_, rfl, ?_⟩; focus (repeat (first | exact trivial | (refine And.intro ?_ ?_; focus (first | exact ⟨rfl, rfl⟩ | exact .inr ⟨rfl, rfl⟩ | exact .inr ⟨rfl, rfl, rfl, Nat.le_refl _, rfl⟩ | exact .inl rfl | exact .inl ⟨rfl, rfl⟩ | exact ⟨_, rfl, rfl⟩ | exact .inr ⟨_, rfl, rfl⟩ | exact .inl ⟨rfl, rfl, rfl⟩ | exact ⟨congrArg (MV.int _) (by omega), rfl⟩ | exact .inr ⟨rfl, rfl, rfl, Nat.le_of_eq (Nat.zero_add _), cut_all _ _⟩ | (refine .inr ⟨_, rfl, ?_⟩; focus (first | exact ⟨rfl, rfl⟩ | exact .inr ⟨rfl, rfl⟩ | exact .inr ⟨rfl, rfl, rfl, Nat.le_refl _, rfl⟩ | exact .inl rfl | exact .inl ⟨rfl, rfl⟩ | exact ⟨_, rfl, rfl⟩ | exact .inr ⟨_, rfl, rfl⟩ | exact .inl ⟨rfl, rfl, rfl⟩ | exact ⟨congrArg (MV.int _) (by omega), rfl⟩ | exact .inr ⟨rfl, rfl, rfl, Nat.le_of_eq (Nat.zero_add _), cut_all _ _⟩); done) | (refine .inr ⟨_, rfl, ?_⟩; focus (repeat (first | exact trivial | (refine And.intro ?_ ?_; focus (first | exact ⟨rfl, rfl⟩ | exact .inr ⟨rfl, rfl⟩ | exact .inr ⟨rfl, rfl, rfl, Nat.le_refl _, rfl⟩ | exact .inl rfl | exact .inl ⟨rfl, rfl⟩ | exact ⟨_, rfl, rfl⟩ | exact .inr ⟨_, rfl, rfl⟩ | exact .inl ⟨rfl, rfl, rfl⟩ | exact ⟨congrArg (MV.int _) (by omega), rfl⟩ | exact .inr ⟨rfl, rfl, rfl, Nat.le_of_eq (Nat.zero_add _), cut_all _ _⟩)))); done))))); done))))); done))) | refine ⟨.inl ⟨rfl, rfl, rfl, rfl⟩, ?_⟩ | refine ⟨.inr ⟨_, _, rfl, rfl, rfl, rfl, rfl, .inl rfl, .inl ⟨rfl, rfl⟩⟩, ?_⟩ | refine ⟨.inr ⟨_, _, rfl, rfl, rfl, rfl, rfl, .inl rfl, .inl ⟨(by simp [u8s]), rfl⟩⟩, ?_⟩ | refine ⟨.inr ⟨_, _, rfl, rfl, rfl, rfl, rfl, .inr ⟨(by first | exact Nat.max_le.2 ⟨Nat.zero_le _, Nat.le_refl _⟩ | exact Nat.max_le.2 ⟨Nat.le_refl _, Nat.le_refl _⟩), (by simp [u8s])⟩, .inl ⟨rfl, rfl⟩⟩, ?_⟩ | (refine ⟨.inr ⟨_, _, rfl, rfl, rfl, rfl, rfl, .inl rfl, .inr ⟨?_, trivial⟩⟩, ?_⟩; focus (first | exact ⟨rfl, rfl⟩ | exact .inr ⟨rfl, rfl⟩ | exact .inr ⟨rfl, rfl, rfl, Nat.le_refl _, rfl⟩ | exact .inl rfl | exact .inl ⟨rfl, rfl⟩ | exact ⟨_, rfl, rfl⟩ | exact .inr ⟨_, rfl, rfl⟩ | exact .inl ⟨rfl, rfl, rfl⟩ | exact ⟨congrArg (MV.int _) (by omega), rfl⟩ | exact .inr ⟨rfl, rfl, rfl, Nat.le_of_eq (Nat.zero_add _), cut_all _ _⟩ | (refine .inr ⟨_, rfl, ?_⟩; focus (first | exact ⟨rfl, rfl⟩ | exact .inr ⟨rfl, rfl⟩ | exact .inr ⟨rfl, rfl, rfl, Nat.le_refl _, rfl⟩ | exact .inl rfl | exact .inl ⟨rfl, rfl⟩ | exact ⟨_, rfl, rfl⟩ | exact .inr ⟨_, rfl, rfl⟩ | exact .inl ⟨rfl, rfl, rfl⟩ | exact ⟨congrArg (MV.int _) (by omega), rfl⟩ | exact .inr ⟨rfl, rfl, rfl, Nat.le_of_eq (Nat.zero_add _), cut_all _ _⟩ | (refine .inr ⟨_, rfl, ?_⟩; focus (first | exact ⟨rfl, rfl⟩ | exact .inr ⟨rfl, rfl⟩ | exact .inr ⟨rfl, rfl, rfl, Nat.le_refl _, rfl⟩ | exact .inl rfl | exact .inl ⟨rfl, rfl⟩ | exact ⟨_, rfl, rfl⟩ | exact .inr ⟨_, rfl, rfl⟩ | exact .inl ⟨rfl, rfl, rfl⟩ | exact ⟨congrArg (MV.int _) (by omega), rfl⟩ | exact .inr ⟨rfl, rfl, rfl, Nat.le_of_eq (Nat.zero_add _), cut_all _ _⟩ | (refine .inr ⟨_, rfl, ?_⟩; focus (first | exact ⟨rfl, rfl⟩ | exact .inr ⟨rfl, rfl⟩ | exact .inr ⟨rfl, rfl, rfl, Nat.le_refl _, rfl⟩ | exact .inl rfl | exact .inl ⟨rfl, rfl⟩ | exact ⟨_, rfl, rfl⟩ | exact .inr ⟨_, rfl, rfl⟩ | exact .inl ⟨rfl, rfl, rfl⟩ | exact ⟨congrArg (MV.int _) (by omega), rfl⟩ | exact .inr ⟨rfl, rfl, rfl, Nat.le_of_eq (Nat.zero_add _), cut_all _ _⟩); done) | (refine .inr ⟨_, rfl, ?_⟩; focus (repeat (first | exact trivial | (refine And.intro ?_ ?_; focus (first | exact ⟨rfl, rfl⟩ | exact .inr ⟨rfl, rfl⟩ | exact .inr ⟨rfl, rfl, rfl, Nat.le_refl _, rfl⟩ | exact .inl rfl | exact .inl ⟨rfl, rfl⟩ | exact ⟨_, rfl, rfl⟩ | exact .inr ⟨_, rfl, rfl⟩ | exact .inl ⟨rfl, rfl, rfl⟩ | exact ⟨congrArg (MV.int _) (by omega), rfl⟩ | exact .inr ⟨rfl, rfl, rfl, Nat.le_of_eq (Nat.zero_add _), cut_all _ _⟩)))); done)); done) | (refine .inr ⟨_, rfl, ?_⟩; focus (repeat (first | exact trivial | (refine And.intro ?_ ?_; focus (first | exact ⟨rfl, rfl⟩ | exact .inr ⟨rfl, rfl⟩ | exact .inr ⟨rfl, rfl, rfl, Nat.le_refl _, rfl⟩ | exact .inl rfl | exact .inl ⟨rfl, rfl⟩ | exact ⟨_, rfl, rfl⟩ | exact .inr ⟨_, rfl, rfl⟩ | exact .inl ⟨rfl, rfl, rfl⟩ | exact ⟨congrArg (MV.int _) (by omega), rfl⟩ | exact .inr ⟨rfl, rfl, rfl, Nat.le_of_eq (Nat.zero_add _), cut_all _ _⟩ | (refine .inr ⟨_, rfl, ?_⟩; focus (first | exact ⟨rfl, rfl⟩ | exact .inr ⟨rfl, rfl⟩ | exact .inr ⟨rfl, rfl, rfl, Nat.le_refl _, rfl⟩ | exact .inl rfl | exact .inl ⟨rfl, rfl⟩ | exact ⟨_, rfl, rfl⟩ | exact .inr ⟨_, rfl, rfl⟩ | exact .inl ⟨rfl, rfl, rfl⟩ | exact ⟨congrArg (MV.int _) (by omega), rfl⟩ | exact .inr ⟨rfl, rfl, rfl, Nat.le_of_eq (Nat.zero_add _), cut_all _ _⟩); done) | (refine .inr ⟨_, rfl, ?_⟩; focus (repeat (first | exact trivial | (refine And.intro ?_ ?_; focus (first | exact ⟨rfl, rfl⟩ | exact .inr ⟨rfl, rfl⟩ | exact .inr ⟨rfl, rfl, rfl, Nat.le_refl _, rfl⟩ | exact .inl rfl | exact .inl ⟨rfl, rfl⟩ | exact ⟨_, rfl, rfl⟩ | exact .inr ⟨_, rfl, rfl⟩ | exact .inl ⟨rfl, rfl, rfl⟩ | exact ⟨congrArg (MV.int _) (by omega), rfl⟩ | exact .inr ⟨rfl, rfl, rfl, Nat.le_of_eq (Nat.zero_add _), cut_all _ _⟩)))); done))))); done)); done) | (refine .inr ⟨_, rfl, ?_⟩; focus (repeat (first | exact trivial | (refine And.intro ?_ ?_; focus (first | exact ⟨rfl, rfl⟩ | exact .inr ⟨rfl, rfl⟩ | exact .inr ⟨rfl, rfl, rfl, Nat.le_refl _, rfl⟩ | exact .inl rfl | exact .inl ⟨rfl, rfl⟩ | exact ⟨_, rfl, rfl⟩ | exact .inr ⟨_, rfl, rfl⟩ | exact .inl ⟨rfl, rfl, rfl⟩ | exact ⟨congrArg (MV.int _) (by omega), rfl⟩ | exact .inr ⟨rfl, rfl, rfl, Nat.le_of_eq (Nat.zero_add _), cut_all _ _⟩ | (refine .inr ⟨_, rfl, ?_⟩; focus (first | exact ⟨rfl, rfl⟩ | exact .inr ⟨rfl, rfl⟩ | exact .inr ⟨rfl, rfl, rfl, Nat.le_refl _, rfl⟩ | exact .inl rfl | exact .inl ⟨rfl, rfl⟩ | exact ⟨_, rfl, rfl⟩ | exact .inr ⟨_, rfl, rfl⟩ | exact .inl ⟨rfl, rfl, rfl⟩ | exact ⟨congrArg (MV.int _) (by omega), rfl⟩ | exact .inr ⟨rfl, rfl, rfl, Nat.le_of_eq (Nat.zero_add _), cut_all _ _⟩ | (refine .inr ⟨_, rfl, ?_⟩; focus (first | exact ⟨rfl, rfl⟩ | exact .inr ⟨rfl, rfl⟩ | exact .inr ⟨rfl, rfl, rfl, Nat.le_refl _, rfl⟩ | exact .inl rfl | exact .inl ⟨rfl, rfl⟩ | exact ⟨_, rfl, rfl⟩ | exact .inr ⟨_, rfl, rfl⟩ | exact .inl ⟨rfl, rfl, rfl⟩ | exact ⟨congrArg (MV.int _) (by omega), rfl⟩ | exact .inr ⟨rfl, rfl, rfl, Nat.le_of_eq (Nat.zero_add _), cut_all _ _⟩); done) | (refine .inr ⟨_, rfl, ?_⟩; focus (repeat (first | exact trivial | (refine And.intro ?_ ?_; focus (first | exact ⟨rfl, rfl⟩ | exact .inr ⟨rfl, rfl⟩ | exact .inr ⟨rfl, rfl, rfl, Nat.le_refl _, rfl⟩ | exact .inl rfl | exact .inl ⟨rfl, rfl⟩ | exact ⟨_, rfl, rfl⟩ | exact .inr ⟨_, rfl, rfl⟩ | exact .inl ⟨rfl, rfl, rfl⟩ | exact ⟨congrArg (MV.int _) (by omega), rfl⟩ | exact .inr ⟨rfl, rfl, rfl, Nat.le_of_eq (Nat.zero_add _), cut_all _ _⟩)))); done)); done) | (refine .inr ⟨_, rfl, ?_⟩; focus (repeat (first | exact trivial | (refine And.intro ?_ ?_; focus (first | exact ⟨rfl, rfl⟩ | exact .inr ⟨rfl, rfl⟩ | exact .inr ⟨rfl, rfl, rfl, Nat.le_refl _, rfl⟩ | exact .inl rfl | exact .inl ⟨rfl, rfl⟩ | exact ⟨_, rfl, rfl⟩ | exact .inr ⟨_, rfl, rfl⟩ | exact .inl ⟨rfl, rfl, rfl⟩ | exact ⟨congrArg (MV.int _) (by omega), rfl⟩ | exact .inr ⟨rfl, rfl, rfl, Nat.le_of_eq (Nat.zero_add _), cut_all _ _⟩ | (refine .inr ⟨_, rfl, ?_⟩; focus (first | exact ⟨rfl, rfl⟩ | exact .inr ⟨rfl, rfl⟩ | exact .inr ⟨rfl, rfl, rfl, Nat.le_refl _, rfl⟩ | exact .inl rfl | exact .inl ⟨rfl, rfl⟩ | exact ⟨_, rfl, rfl⟩ | exact .inr ⟨_, rfl, rfl⟩ | exact .inl ⟨rfl, rfl, rfl⟩ | exact ⟨congrArg (MV.int _) (by omega), rfl⟩ | exact .inr ⟨rfl, rfl, rfl, Nat.le_of_eq (Nat.zero_add _), cut_all _ _⟩); done) | (refine .inr ⟨_, rfl, ?_⟩; focus (repeat (first | exact trivial | (refine And.intro ?_ ?_; focus (first | exact ⟨rfl, rfl⟩ | exact .inr ⟨rfl, rfl⟩ | exact .inr ⟨rfl, rfl, rfl, Nat.le_refl _, rfl⟩ | exact .inl rfl | exact .inl ⟨rfl, rfl⟩ | exact ⟨_, rfl, rfl⟩ | exact .inr ⟨_, rfl, rfl⟩ | exact .inl ⟨rfl, rfl, rfl⟩ | exact ⟨congrArg (MV.int _) (by omega), rfl⟩ | exact .inr ⟨rfl, rfl, rfl, Nat.le_of_eq (Nat.zero_add _), cut_all _ _⟩)))); done))))); done))))); done))) | refine ⟨(show _ ≤ _ by simp [u8s]), ?_⟩))) (h2 : mM (sigA n0 σ) (fzb M bs) M' (VM.bump M bs) := by (repeat (first | exact trivial | refine ⟨Nat.le_refl _, ?_⟩ | (refine ⟨⟨_, rfl, ?_⟩, ?_⟩; focus (first | exact ⟨rfl, rfl⟩ | exact .inr ⟨rfl, rfl⟩ | exact .inr ⟨rfl, rfl, rfl, Nat.le_refl _, rfl⟩ | exact .inl rfl | exact .inl ⟨rfl, rfl⟩ | exact ⟨_, rfl, rfl⟩ | exact .inr ⟨_, rfl, rfl⟩ | exact .inl ⟨rfl, rfl, rfl⟩ | exact ⟨congrArg (MV.int _) (by omega), rfl⟩ | exact .inr ⟨rfl, rfl, rfl, Nat.le_of_eq (Nat.zero_add _), cut_all _ _⟩ | (refine .inr ⟨_, rfl, ?_⟩; focus (first | exact ⟨rfl, rfl⟩ | exact .inr ⟨rfl, rfl⟩ | exact .inr ⟨rfl, rfl, rfl, Nat.le_refl _, rfl⟩ | exact .inl rfl | exact .inl ⟨rfl, rfl⟩ | exact ⟨_, rfl, rfl⟩ | exact .inr ⟨_, rfl, rfl⟩ | exact .inl ⟨rfl, rfl, rfl⟩ | exact ⟨congrArg (MV.int _) (by omega), rfl⟩ | exact .inr ⟨rfl, rfl, rfl, Nat.le_of_eq (Nat.zero_add _), cut_all _ _⟩ | (refine .inr ⟨_, rfl, ?_⟩; focus (first | exact ⟨rfl, rfl⟩ | exact .inr ⟨rfl, rfl⟩ | exact .inr ⟨rfl, rfl, rfl, Nat.le_refl _, rfl⟩ | exact .inl rfl | exact .inl ⟨rfl, rfl⟩ | exact ⟨_, rfl, rfl⟩ | exact .inr ⟨_, rfl, rfl⟩ | exact .inl ⟨rfl, rfl, rfl⟩ | exact ⟨congrArg (MV.int _) (by omega), rfl⟩ | exact .inr ⟨rfl, rfl, rfl, Nat.le_of_eq (Nat.zero_add _), cut_all _ _⟩ | (refine .inr ⟨_, rfl, ?_⟩; focus (first | exact ⟨rfl, rfl⟩ | exact .inr ⟨rfl, rfl⟩ | exact .inr ⟨rfl, rfl, rfl, Nat.le_refl _, rfl⟩ | exact .inl rfl | exact .inl ⟨rfl, rfl⟩ | exact ⟨_, rfl, rfl⟩ | exact .inr ⟨_, rfl, rfl⟩ | exact .inl ⟨rfl, rfl, rfl⟩ | exact ⟨congrArg (MV.int _) (by omega), rfl⟩ | exact .inr ⟨rfl, rfl, rfl, Nat.le_of_eq (Nat.zero_add _), cut_all _ _⟩); done) | (refine .inr ⟨_, rfl, ?_⟩; focus (repeat (first | exact trivial | (refine And.intro ?_ ?_; focus (first | exact ⟨rfl, rfl⟩ | exact .inr ⟨rfl, rfl⟩ | exact .inr ⟨rfl, rfl, rfl, Nat.le_refl _, rfl⟩ | exact .inl rfl | exact .inl ⟨rfl, rfl⟩ | exact ⟨_, rfl, rfl⟩ | exact .inr ⟨_, rfl, rfl⟩ | exact .inl ⟨rfl, rfl, rfl⟩ | exact ⟨congrArg (MV.int _) (by omega), rfl⟩ | exact .inr ⟨rfl, rfl, rfl, Nat.le_of_eq (Nat.zero_add _), cut_all _ _⟩)))); done)); done) | (refine .inr ⟨_, rfl, ?_⟩; focus (repeat (first | exact trivial | (refine And.intro ?_ ?_; focus (first | exact ⟨rfl, rfl⟩ | exact .inr ⟨rfl, rfl⟩ | exact .inr ⟨rfl, rfl, rfl, Nat.le_refl _, rfl⟩ | exact .inl rfl | exact .inl ⟨rfl, rfl⟩ | exact ⟨_, rfl, rfl⟩ | exact .inr ⟨_, rfl, rfl⟩ | exact .inl ⟨rfl, rfl, rfl⟩ | exact ⟨congrArg (MV.int _) (by omega), rfl⟩ | exact .inr ⟨rfl, rfl, rfl, Nat.le_of_eq (Nat.zero_add _), cut_all _ _⟩ | (refine .inr ⟨_, rfl, ?_⟩; focus (first | exact ⟨rfl, rfl⟩ | exact .inr ⟨rfl, rfl⟩ | exact .inr ⟨rfl, rfl, rfl, Nat.le_refl _, rfl⟩ | exact .inl rfl | exact .inl ⟨rfl, rfl⟩ | exact ⟨_, rfl, rfl⟩ | exact .inr ⟨_, rfl, rfl⟩ | exact .inl ⟨rfl, rfl, rfl⟩ | exact ⟨congrArg (MV.int _) (by omega), rfl⟩ | exact .inr ⟨rfl, rfl, rfl, Nat.le_of_eq (Nat.zero_add _), cut_all _ _⟩); done) | (refine .inr ⟨_, rfl, ?_⟩; focus (repeat (first | exact trivial | (refine And.intro ?_ ?_; focus (first | exact ⟨rfl, rfl⟩ | exact .inr ⟨rfl, rfl⟩ | exact .inr ⟨rfl, rfl, rfl, Nat.le_refl _, rfl⟩ | exact .inl rfl | exact .inl ⟨rfl, rfl⟩ | exact ⟨_, rfl, rfl⟩ | exact .inr ⟨_, rfl, rfl⟩ | exact .inl ⟨rfl, rfl, rfl⟩ | exact ⟨congrArg (MV.int _) (by omega), rfl⟩ | exact .inr ⟨rfl, rfl, rfl, Nat.le_of_eq (Nat.zero_add _), cut_all _ _⟩)))); done))))); done)); done) | (refine .inr ⟨_, rfl, ?_⟩; focus (repeat (first | exact trivial | (refine And.intro ?_ ?_; focus (first | exact ⟨rfl, rfl⟩ | exact .inr ⟨rfl, rfl⟩ | exact .inr ⟨rfl, rfl, rfl, Nat.le_refl _, rfl⟩ | exact .inl rfl | exact .inl ⟨rfl, rfl⟩ | exact ⟨_, rfl, rfl⟩ | exact .inr ⟨_, rfl, rfl⟩ | exact .inl ⟨rfl, rfl, rfl⟩ | exact ⟨congrArg (MV.int _) (by omega), rfl⟩ | exact .inr ⟨rfl, rfl, rfl, Nat.le_of_eq (Nat.zero_add _), cut_all _ _⟩ | (refine .inr ⟨_, rfl, ?_⟩; focus (first | exact ⟨rfl, rfl⟩ | exact .inr ⟨rfl, rfl⟩ | exact .inr ⟨rfl, rfl, rfl, Nat.le_refl _, rfl⟩ | exact .inl rfl | exact .inl ⟨rfl, rfl⟩ | exact ⟨_, rfl, rfl⟩ | exact .inr ⟨_, rfl, rfl⟩ | exact .inl ⟨rfl, rfl, rfl⟩ | exact ⟨congrArg (MV.int _) (by omega), rfl⟩ | exact .inr ⟨rfl, rfl, rfl, Nat.le_of_eq (Nat.zero_add _), cut_all _ _⟩ | (refine .inr ⟨_, rfl, ?_⟩; focus (first | exact ⟨rfl, rfl⟩ | exact .inr ⟨rfl, rfl⟩ | exact .inr ⟨rfl, rfl, rfl, Nat.le_refl _, rfl⟩ | exact .inl rfl | exact .inl ⟨rfl, rfl⟩ | exact ⟨_, rfl, rfl⟩ | exact .inr ⟨_, rfl, rfl⟩ | exact .inl ⟨rfl, rfl, rfl⟩ | exact ⟨congrArg (MV.int _) (by omega), rfl⟩ | exact .inr ⟨rfl, rfl, rfl, Nat.le_of_eq (Nat.zero_add _), cut_all _ _⟩); done) | (refine .inr ⟨_, rfl, ?_⟩; focus (repeat (first | exact trivial | (refine And.intro ?_ ?_; focus (first | exact ⟨rfl, rfl⟩ | exact .inr ⟨rfl, rfl⟩ | exact .inr ⟨rfl, rfl, rfl, Nat.le_refl _, rfl⟩ | exact .inl rfl | exact .inl ⟨rfl, rfl⟩ | exact ⟨_, rfl, rfl⟩ | exact .inr ⟨_, rfl, rfl⟩ | exact .inl ⟨rfl, rfl, rfl⟩ | exact ⟨congrArg (MV.int _) (by omega), rfl⟩ | exact .inr ⟨rfl, rfl, rfl, Nat.le_of_eq (Nat.zero_add _), cut_all _ _⟩)))); done)); done) | (refine .inr ⟨_, rfl, ?_⟩; focus (repeat (first | exact trivial | (refine And.intro ?_ ?_; focus (first | exact ⟨rfl, rfl⟩ | exact .inr ⟨rfl, rfl⟩ | exact .inr ⟨rfl, rfl, rfl, Nat.le_refl _, rfl⟩ | exact .inl rfl | exact .inl ⟨rfl, rfl⟩ | exact ⟨_, rfl, rfl⟩ | exact .inr ⟨_, rfl, rfl⟩ | exact .inl ⟨rfl, rfl, rfl⟩ | exact ⟨congrArg (MV.int _) (by omega), rfl⟩ | exact .inr ⟨rfl, rfl, rfl, Nat.le_of_eq (Nat.zero_add _), cut_all _ _⟩ | (refine .inr ⟨_, rfl, ?_⟩; focus (first | exact ⟨rfl, rfl⟩ | exact .inr ⟨rfl, rfl⟩ | exact .inr ⟨rfl, rfl, rfl, Nat.le_refl _, rfl⟩ | exact .inl rfl | exact .inl ⟨rfl, rfl⟩ | exact ⟨_, rfl, rfl⟩ | exact .inr ⟨_, rfl, rfl⟩ | exact .inl ⟨rfl, rfl, rfl⟩ | exact ⟨congrArg (MV.int _) (by omega), rfl⟩ | exact .inr ⟨rfl, rfl, rfl, Nat.le_of_eq (Nat.zero_add _), cut_all _ _⟩); done) | (refine .inr ⟨_, rfl, ?_⟩; focus (repeat (first | exact trivial | (refine And.intro ?_ ?_; focus (first | exact ⟨rfl, rfl⟩ | exact .inr ⟨rfl, rfl⟩ | exact .inr ⟨rfl, rfl, rfl, Nat.le_refl _, rfl⟩ | exact .inl rfl | exact .inl ⟨rfl, rfl⟩ | exact ⟨_, rfl, rfl⟩ | exact .inr ⟨_, rfl, rfl⟩ | exact .inl ⟨rfl, rfl, rfl⟩ | exact ⟨congrArg (MV.int _) (by omega), rfl⟩ | exact .inr ⟨rfl, rfl, rfl, Nat.le_of_eq (Nat.zero_add _), cut_all _ _⟩)))); done))))); done))))); done))) | refine ⟨.inl ⟨rfl, rfl, rfl, rfl⟩, ?_⟩ | refine ⟨.inr ⟨_, _, rfl, rfl, rfl, rfl, rfl, .inl rfl, .inl ⟨rfl, rfl⟩⟩, ?_⟩ | refine ⟨.inr ⟨_, _, rfl, rfl, rfl, rfl, rfl, .inl rfl, .inl ⟨(by simp [u8s]), rfl⟩⟩, ?_⟩ | refine ⟨.inr ⟨_, _, rfl, rfl, rfl, rfl, rfl, .inr ⟨(by first | exact Nat.max_le.2 ⟨Nat.zero_le _, Nat.le_refl _⟩ | exact Nat.max_le.2 ⟨Nat.le_refl _, Nat.le_refl _⟩), (by simp [u8s])⟩, .inl ⟨rfl, rfl⟩⟩, ?_⟩ | (refine ⟨.inr ⟨_, _, rfl, rfl, rfl, rfl, rfl, .inl rfl, .inr ⟨?_, trivial⟩⟩, ?_⟩; focus (first | exact ⟨rfl, rfl⟩ | exact .inr ⟨rfl, rfl⟩ | exact .inr ⟨rfl, rfl, rfl, Nat.le_refl _, rfl⟩ | exact .inl rfl | exact .inl ⟨rfl, rfl⟩ | exact ⟨_, rfl, rfl⟩ | exact .inr ⟨_, rfl, rfl⟩ | exact .inl ⟨rfl, rfl, rfl⟩ | exact ⟨congrArg (MV.int _) (by omega), rfl⟩ | exact .inr ⟨rfl, rfl, rfl, Nat.le_of_eq (Nat.zero_add _), cut_all _ _⟩ | (refine .inr ⟨_, rfl, ?_⟩; focus (first | exact ⟨rfl, rfl⟩ | exact .inr ⟨rfl, rfl⟩ | exact .inr ⟨rfl, rfl, rfl, Nat.le_refl _, rfl⟩ | exact .inl rfl | exact .inl ⟨rfl, rfl⟩ | exact ⟨_, rfl, rfl⟩ | exact .inr ⟨_, rfl, rfl⟩ | exact .inl ⟨rfl, rfl, rfl⟩ | exact ⟨congrArg (MV.int _) (by omega), rfl⟩ | exact .inr ⟨rfl, rfl, rfl, Nat.le_of_eq (Nat.zero_add _), cut_all _ _⟩ | (refine .inr ⟨_, rfl, ?_⟩; focus (first | exact ⟨rfl, rfl⟩ | exact .inr ⟨rfl, rfl⟩ | exact .inr ⟨rfl, rfl, rfl, Nat.le_refl _, rfl⟩ | exact .inl rfl | exact .inl ⟨rfl, rfl⟩ | exact ⟨_, rfl, rfl⟩ | exact .inr ⟨_, rfl, rfl⟩ | exact .inl ⟨rfl, rfl, rfl⟩ | exact ⟨congrArg (MV.int _) (by omega), rfl⟩ | exact .inr ⟨rfl, rfl, rfl, Nat.le_of_eq (Nat.zero_add _), cut_all _ _⟩ | (refine .inr ⟨_, rfl, ?_⟩; focus (first | exact ⟨rfl, rfl⟩ | exact .inr ⟨rfl, rfl⟩ | exact .inr ⟨rfl, rfl, rfl, Nat.le_refl _, rfl⟩ | exact .inl rfl | exact .inl ⟨rfl, rfl⟩ | exact ⟨_, rfl, rfl⟩ | exact .inr ⟨_, rfl, rfl⟩ | exact .inl ⟨rfl, rfl, rfl⟩ | exact ⟨congrArg (MV.int _) (by omega), rfl⟩ | exact .inr ⟨rfl, rfl, rfl, Nat.le_of_eq (Nat.zero_add _), cut_all _ _⟩); done) | (refine .inr ⟨_, rfl, ?_⟩; focus (repeat (first | exact trivial | (refine And.intro ?_ ?_; focus (first | exact ⟨rfl, rfl⟩ | exact .inr ⟨rfl, rfl⟩ | exact .inr ⟨rfl, rfl, rfl, Nat.le_refl _, rfl⟩ | exact .inl rfl | exact .inl ⟨rfl, rfl⟩ | exact ⟨_, rfl, rfl⟩ | exact .inr ⟨_, rfl, rfl⟩ | exact .inl ⟨rfl, rfl, rfl⟩ | exact ⟨congrArg (MV.int _) (by omega), rfl⟩ | exact .inr ⟨rfl, rfl, rfl, Nat.le_of_eq (Nat.zero_add _), cut_all _ _⟩)))); done)); done) | (refine .inr ⟨_, rfl, ?_⟩; focus (repeat (first | exact trivial | (refine And.intro ?_ ?_; focus (first | exact ⟨rfl, rfl⟩ | exact .inr ⟨rfl, rfl⟩ | exact .inr ⟨rfl, rfl, rfl, Nat.le_refl _, rfl⟩ | exact .inl rfl | exact .inl ⟨rfl, rfl⟩ | exact ⟨_, rfl, rfl⟩ | exact .inr ⟨_, rfl, rfl⟩ | exact .inl ⟨rfl, rfl, rfl⟩ | exact ⟨congrArg (MV.int _) (by omega), rfl⟩ | exact .inr ⟨rfl, rfl, rfl, Nat.le_of_eq (Nat.zero_add _), cut_all _ _⟩ | (refine .inr ⟨_, rfl, ?_⟩; focus (first | exact ⟨rfl, rfl⟩ | exact .inr ⟨rfl, rfl⟩ | exact .inr ⟨rfl, rfl, rfl, Nat.le_refl _, rfl⟩ | exact .inl rfl | exact .inl ⟨rfl, rfl⟩ | exact ⟨_, rfl, rfl⟩ | exact .inr ⟨_, rfl, rfl⟩ | exact .inl ⟨rfl, rfl, rfl⟩ | exact ⟨congrArg (MV.int _) (by omega), rfl⟩ | exact .inr ⟨rfl, rfl, rfl, Nat.le_of_eq (Nat.zero_add _), cut_all _ _⟩); done) | (refine .inr ⟨_, rfl, ?_⟩; focus (repeat (first | exact trivial | (refine And.intro ?_ ?_; focus (first | exact ⟨rfl, rfl⟩ | exact .inr ⟨rfl, rfl⟩ | exact .inr ⟨rfl, rfl, rfl, Nat.le_refl _, rfl⟩ | exact .inl rfl | exact .inl ⟨rfl, rfl⟩ | exact ⟨_, rfl, rfl⟩ | exact .inr ⟨_, rfl, rfl⟩ | exact .inl ⟨rfl, rfl, rfl⟩ | exact ⟨congrArg (MV.int _) (by omega), rfl⟩ | exact .inr ⟨rfl, rfl, rfl, Nat.le_of_eq (Nat.zero_add _), cut_all _ _⟩)))); done))))); done)); done) | (refine .inr ⟨_, rfl, ?_⟩; focus (repeat (first | exact trivial | (refine And.intro ?_ ?_; focus (first | exact ⟨rfl, rfl⟩ | exact .inr ⟨rfl, rfl⟩ | exact .inr ⟨rfl, rfl, rfl, Nat.le_refl _, rfl⟩ | exact .inl rfl | exact .inl ⟨rfl, rfl⟩ | exact ⟨_, rfl, rfl⟩ | exact .inr ⟨_, rfl, rfl⟩ | exact .inl ⟨rfl, rfl, rfl⟩ | exact ⟨congrArg (MV.int _) (by omega), rfl⟩ | exact .inr ⟨rfl, rfl, rfl, Nat.le_of_eq (Nat.zero_add _), cut_all _ _⟩ | (refine .inr ⟨_, rfl, ?_⟩; focus (first | exact ⟨rfl, rfl⟩ | exact .inr ⟨rfl, rfl⟩ | exact .inr ⟨rfl, rfl, rfl, Nat.le_refl _, rfl⟩ | exact .inl rfl | exact .inl ⟨rfl, rfl⟩ | exact ⟨_, rfl, rfl⟩ | exact .inr ⟨_, rfl, rfl⟩ | exact .inl ⟨rfl, rfl, rfl⟩ | exact ⟨congrArg (MV.int _) (by omega), rfl⟩ | exact .inr ⟨rfl, rfl, rfl, Nat.le_of_eq (Nat.zero_add _), cut_all _ _⟩ | (refine .inr ⟨_, rfl, ?_⟩; focus (first | exact ⟨rfl, rfl⟩ | exact .inr ⟨rfl, rfl⟩ | exact .inr ⟨rfl, rfl, rfl, Nat.le_refl _, rfl⟩ | exact .inl rfl | exact .inl ⟨rfl, rfl⟩ | exact ⟨_, rfl, rfl⟩ | exact .inr ⟨_, rfl, rfl⟩ | exact .inl ⟨rfl, rfl, rfl⟩ | exact ⟨congrArg (MV.int _) (by omega), rfl⟩ | exact .inr ⟨rfl, rfl, rfl, Nat.le_of_eq (Nat.zero_add _), cut_all _ _⟩); done) | (refine .inr ⟨_, rfl, ?_⟩; focus (repeat (first | exact trivial | (refine And.intro ?_ ?_; focus (first | exact ⟨rfl, rfl⟩ | exact .inr ⟨rfl, rfl⟩ | exact .inr ⟨rfl, rfl, rfl, Nat.le_refl _, rfl⟩ | exact .inl rfl | exact .inl ⟨rfl, rfl⟩ | exact ⟨_, rfl, rfl⟩ | exact .inr ⟨_, rfl, rfl⟩ | exact .inl ⟨rfl, rfl, rfl⟩ | exact ⟨congrArg (MV.int _) (by omega), rfl⟩ | exact .inr ⟨rfl, rfl, rfl, Nat.le_of_eq (Nat.zero_add _), cut_all _ _⟩)))); done)); done) | (refine .inr ⟨_, rfl, ?_⟩; focus (repeat (first | exact trivial | (refine And.intro ?_ ?_; focus (first | exact ⟨rfl, rfl⟩ | exact .inr ⟨rfl, rfl⟩ | exact .inr ⟨rfl, rfl, rfl, Nat.le_refl _, rfl⟩ | exact .inl rfl | exact .inl ⟨rfl, rfl⟩ | exact ⟨_, rfl, rfl⟩ | exact .inr ⟨_, rfl, rfl⟩ | exact .inl ⟨rfl, rfl, rfl⟩ | exact ⟨congrArg (MV.int _) (by omega), rfl⟩ | exact .inr ⟨rfl, rfl, rfl, Nat.le_of_eq (Nat.zero_add _), cut_all _ _⟩ | (refine .inr ⟨_, rfl, ?_⟩; focus (first | exact ⟨rfl, rfl⟩ | exact .inr ⟨rfl, rfl⟩ | exact .inr ⟨rfl, rfl, rfl, Nat.le_refl _, rfl⟩ | exact .inl rfl | exact .inl ⟨rfl, rfl⟩ | exact ⟨_, rfl, rfl⟩ | exact .inr ⟨_, rfl, rfl⟩ | exact .inl ⟨rfl, rfl, rfl⟩ | exact ⟨congrArg (MV.int _) (by omega), rfl⟩ | exact .inr ⟨rfl, rfl, rfl, Nat.le_of_eq (Nat.zero_add _), cut_all _ _⟩); done) | (refine .inr ⟨_, rfl, ?_⟩; focus (repeat (first | exact trivial | (refine And.intro ?_ ?_; focus (first | exact ⟨rfl, rfl⟩ | exact .inr ⟨rfl, rfl⟩ | exact .inr ⟨rfl, rfl, rfl, Nat.le_refl _, rfl⟩ | exact .inl rfl | exact .inl ⟨rfl, rfl⟩ | exact ⟨_, rfl, rfl⟩ | exact .inr ⟨_, rfl, rfl⟩ | exact .inl ⟨rfl, rfl, rfl⟩ | exact ⟨congrArg (MV.int _) (by omega), rfl⟩ | exact .inr ⟨rfl, rfl, rfl, Nat.le_of_eq (Nat.zero_add _), cut_all _ _⟩)))); done))))); done))))); done))) | refine ⟨(show _ ≤ _ by simp [u8s]), ?_⟩))) (h3 : okSg n0 n' σ = true := by exact rfl) (h4 : okB M bs := by (repeat (first | exact trivial | refine ⟨Nat.le_refl _, ?_⟩ | (refine ⟨⟨_, rfl, ?_⟩, ?_⟩; focus (first | exact ⟨rfl, rfl⟩ | exact .inr ⟨rfl, rfl⟩ | exact .inr ⟨rfl, rfl, rfl, Nat.le_refl _, rfl⟩ | exact .inl rfl | exact .inl ⟨rfl, rfl⟩ | exact ⟨_, rfl, rfl⟩ | exact .inr ⟨_, rfl, rfl⟩ | exact .inl ⟨rfl, rfl, rfl⟩ | exact ⟨congrArg (MV.int _) (by omega), rfl⟩ | exact .inr ⟨rfl, rfl, rfl, Nat.le_of_eq (Nat.zero_add _), cut_all _ _⟩ | (refine .inr ⟨_, rfl, ?_⟩; focus (first | exact ⟨rfl, rfl⟩ | exact .inr ⟨rfl, rfl⟩ | exact .inr ⟨rfl, rfl, rfl, Nat.le_refl _, rfl⟩ | exact .inl rfl | exact .inl ⟨rfl, rfl⟩ | exact ⟨_, rfl, rfl⟩ | exact .inr ⟨_, rfl, rfl⟩ | exact .inl ⟨rfl, rfl, rfl⟩ | exact ⟨congrArg (MV.int _) (by omega), rfl⟩ | exact .inr ⟨rfl, rfl, rfl, Nat.le_of_eq (Nat.zero_add _), cut_all _ _⟩ | (refine .inr ⟨_, rfl, ?_⟩; focus (first | exact ⟨rfl, rfl⟩ | exact .inr ⟨rfl, rfl⟩ | exact .inr ⟨rfl, rfl, rfl, Nat.le_refl _, rfl⟩ | exact .inl rfl | exact .inl ⟨rfl, rfl⟩ | exact ⟨_, rfl, rfl⟩ | exact .inr ⟨_, rfl, rfl⟩ | exact .inl ⟨rfl, rfl, rfl⟩ | exact ⟨congrArg (MV.int _) (by omega), rfl⟩ | exact .inr ⟨rfl, rfl, rfl, Nat.le_of_eq (Nat.zero_add _), cut_all _ _⟩ | (refine .inr ⟨_, rfl, ?_⟩; focus (first | exact ⟨rfl, rfl⟩ | exact .inr ⟨rfl, rfl⟩ | exact .inr ⟨rfl, rfl, rfl, Nat.le_refl _, rfl⟩ | exact .inl rfl | exact .inl ⟨rfl, rfl⟩ | exact ⟨_, rfl, rfl⟩ | exact .inr ⟨_, rfl, rfl⟩ | exact .inl ⟨rfl, rfl, rfl⟩ | exact ⟨congrArg (MV.int _) (by omega), rfl⟩ | exact .inr ⟨rfl, rfl, rfl, Nat.le_of_eq (Nat.zero_add _), cut_all _ _⟩); done) | (refine .inr ⟨_, rfl, ?_⟩; focus (repeat (first | exact trivial | (refine And.intro ?_ ?_; focus (first | exact ⟨rfl, rfl⟩ | exact .inr ⟨rfl, rfl⟩ | exact .inr ⟨rfl, rfl, rfl, Nat.le_refl _, rfl⟩ | exact .inl rfl | exact .inl ⟨rfl, rfl⟩ | exact ⟨_, rfl, rfl⟩ | exact .inr ⟨_, rfl, rfl⟩ | exact .inl ⟨rfl, rfl, rfl⟩ | exact ⟨congrArg (MV.int _) (by omega), rfl⟩ | exact .inr ⟨rfl, rfl, rfl, Nat.le_of_eq (Nat.zero_add _), cut_all _ _⟩)))); done)); done) | (refine .inr ⟨_, rfl, ?_⟩; focus (repeat (first | exact trivial | (refine And.intro ?_ ?_; focus (first | exact ⟨rfl, rfl⟩ | exact .inr ⟨rfl, rfl⟩ | exact .inr ⟨rfl, rfl, rfl, Nat.le_refl _, rfl⟩ | exact .inl rfl | exact .inl ⟨rfl, rfl⟩ | exact ⟨_, rfl, rfl⟩ | exact .inr ⟨_, rfl, rfl⟩ | exact .inl ⟨rfl, rfl, rfl⟩ | exact ⟨congrArg (MV.int _) (by omega), rfl⟩ | exact .inr ⟨rfl, rfl, rfl, Nat.le_of_eq (Nat.zero_add _), cut_all _ _⟩ | (refine .inr ⟨_, rfl, ?_⟩; focus (first | exact ⟨rfl, rfl⟩ | exact .inr ⟨rfl, rfl⟩ | exact .inr ⟨rfl, rfl, rfl, Nat.le_refl _, rfl⟩ | exact .inl rfl | exact .inl ⟨rfl, rfl⟩ | exact ⟨_, rfl, rfl⟩ | exact .inr ⟨_, rfl, rfl⟩ | exact .inl ⟨rfl, rfl, rfl⟩ | exact ⟨congrArg (MV.int _) (by omega), rfl⟩ | exact .inr ⟨rfl, rfl, rfl, Nat.le_of_eq (Nat.zero_add _), cut_all _ _⟩); done) | (refine .inr ⟨_, rfl, ?_⟩; focus (repeat (first | exact trivial | (refine And.intro ?_ ?_; focus (first | exact ⟨rfl, rfl⟩ | exact .inr ⟨rfl, rfl⟩ | exact .inr ⟨rfl, rfl, rfl, Nat.le_refl _, rfl⟩ | exact .inl rfl | exact .inl ⟨rfl, rfl⟩ | exact ⟨_, rfl, rfl⟩ | exact .inr ⟨_, rfl, rfl⟩ | exact .inl ⟨rfl, rfl, rfl⟩ | exact ⟨congrArg (MV.int _) (by omega), rfl⟩ | exact .inr ⟨rfl, rfl, rfl, Nat.le_of_eq (Nat.zero_add _), cut_all _ _⟩)))); done))))); done)); done) | (refine .inr ⟨_, rfl, ?_⟩; focus (repeat (first | exact trivial | (refine And.intro ?_ ?_; focus (first | exact ⟨rfl, rfl⟩ | exact .inr ⟨rfl, rfl⟩ | exact .inr ⟨rfl, rfl, rfl, Nat.le_refl _, rfl⟩ | exact .inl rfl | exact .inl ⟨rfl, rfl⟩ | exact ⟨_, rfl, rfl⟩ | exact .inr ⟨_, rfl, rfl⟩ | exact .inl ⟨rfl, rfl, rfl⟩ | exact ⟨congrArg (MV.int _) (by omega), rfl⟩ | exact .inr ⟨rfl, rfl, rfl, Nat.le_of_eq (Nat.zero_add _), cut_all _ _⟩ | (refine .inr ⟨_, rfl, ?_⟩; focus (first | exact ⟨rfl, rfl⟩ | exact .inr ⟨rfl, rfl⟩ | exact .inr ⟨rfl, rfl, rfl, Nat.le_refl _, rfl⟩ | exact .inl rfl | exact .inl ⟨rfl, rfl⟩ | exact ⟨_, rfl, rfl⟩ | exact .inr ⟨_, rfl, rfl⟩ | exact .inl ⟨rfl, rfl, rfl⟩ | exact ⟨congrArg (MV.int _) (by omega), rfl⟩ | exact .inr ⟨rfl, rfl, rfl, Nat.le_of_eq (Nat.zero_add _), cut_all _ _⟩ | (refine .inr ⟨_, rfl, ?_⟩; focus (first | exact ⟨rfl, rfl⟩ | exact .inr ⟨rfl, rfl⟩ | exact .inr ⟨rfl, rfl, rfl, Nat.le_refl _, rfl⟩ | exact .inl rfl | exact .inl ⟨rfl, rfl⟩ | exact ⟨_, rfl, rfl⟩ | exact .inr ⟨_, rfl, rfl⟩ | exact .inl ⟨rfl, rfl, rfl⟩ | exact ⟨congrArg (MV.int _) (by omega), rfl⟩ | exact .inr ⟨rfl, rfl, rfl, Nat.le_of_eq (Nat.zero_add _), cut_all _ _⟩); done) | (refine .inr ⟨_, rfl, ?_⟩; focus (repeat (first | exact trivial | (refine And.intro ?_ ?_; focus (first | exact ⟨rfl, rfl⟩ | exact .inr ⟨rfl, rfl⟩ | exact .inr ⟨rfl, rfl, rfl, Nat.le_refl _, rfl⟩ | exact .inl rfl | exact .inl ⟨rfl, rfl⟩ | exact ⟨_, rfl, rfl⟩ | exact .inr ⟨_, rfl, rfl⟩ | exact .inl ⟨rfl, rfl, rfl⟩ | exact ⟨congrArg (MV.int _) (by omega), rfl⟩ | exact .inr ⟨rfl, rfl, rfl, Nat.le_of_eq (Nat.zero_add _), cut_all _ _⟩)))); done)); done) | (refine .inr ⟨_, rfl, ?_⟩; focus (repeat (first | exact trivial | (refine And.intro ?_ ?_; focus (first | exact ⟨rfl, rfl⟩ | exact .inr ⟨rfl, rfl⟩ | exact .inr ⟨rfl, rfl, rfl, Nat.le_refl _, rfl⟩ | exact .inl rfl | exact .inl ⟨rfl, rfl⟩ | exact ⟨_, rfl, rfl⟩ | exact .inr ⟨_, rfl, rfl⟩ | exact .inl ⟨rfl, rfl, rfl⟩ | exact ⟨congrArg (MV.int _) (by omega), rfl⟩ | exact .inr ⟨rfl, rfl, rfl, Nat.le_of_eq (Nat.zero_add _), cut_all _ _⟩ | (refine .inr ⟨_, rfl, ?_⟩; focus (first | exact ⟨rfl, rfl⟩ | exact .inr ⟨rfl, rfl⟩ | exact .inr ⟨rfl, rfl, rfl, Nat.le_refl _, rfl⟩ | exact .inl rfl | exact .inl ⟨rfl, rfl⟩ | exact ⟨_, rfl, rfl⟩ | exact .inr ⟨_, rfl, rfl⟩ | exact .inl ⟨rfl, rfl, rfl⟩ | exact ⟨congrArg (MV.int _) (by omega), rfl⟩ | exact .inr ⟨rfl, rfl, rfl, Nat.le_of_eq (Nat.zero_add _), cut_all _ _⟩); done) | (refine .inr ⟨_, rfl, ?_⟩; focus (repeat (first | exact trivial | (refine And.intro ?_ ?_; focus (first | exact ⟨rfl, rfl⟩ | exact .inr ⟨rfl, rfl⟩ | exact .inr ⟨rfl, rfl, rfl, Nat.le_refl _, rfl⟩ | exact .inl rfl | exact .inl ⟨rfl, rfl⟩ | exact ⟨_, rfl, rfl⟩ | exact .inr ⟨_, rfl, rfl⟩ | exact .inl ⟨rfl, rfl, rfl⟩ | exact ⟨congrArg (MV.int _) (by omega), rfl⟩ | exact .inr ⟨rfl, rfl, rfl, Nat.le_of_eq (Nat.zero_add _), cut_all _ _⟩)))); done))))); done))))); done))) | refine ⟨.inl ⟨rfl, rfl, rfl, rfl⟩, ?_⟩ | refine ⟨.inr ⟨_, _, rfl, rfl, rfl, rfl, rfl, .inl rfl, .inl ⟨rfl, rfl⟩⟩, ?_⟩ | refine ⟨.inr ⟨_, _, rfl, rfl, rfl, rfl, rfl, .inl rfl, .inl ⟨(by simp [u8s]), rfl⟩⟩, ?_⟩ | refine ⟨.inr ⟨_, _, rfl, rfl, rfl, rfl, rfl, .inr ⟨(by first | exact Nat.max_le.2 ⟨Nat.zero_le _, Nat.le_refl _⟩ | exact Nat.max_le.2 ⟨Nat.le_refl _, Nat.le_refl _⟩), (by simp [u8s])⟩, .inl ⟨rfl, rfl⟩⟩, ?_⟩ | (refine ⟨.inr ⟨_, _, rfl, rfl, rfl, rfl, rfl, .inl rfl, .inr ⟨?_, trivial⟩⟩, ?_⟩; focus (first | exact ⟨rfl, rfl⟩ | exact .inr ⟨rfl, rfl⟩ | exact .inr ⟨rfl, rfl, rfl, Nat.le_refl _, rfl⟩ | exact .inl rfl | exact .inl ⟨rfl, rfl⟩ | exact ⟨_, rfl, rfl⟩ | exact .inr ⟨_, rfl, rfl⟩ | exact .inl ⟨rfl, rfl, rfl⟩ | exact ⟨congrArg (MV.int _) (by omega), rfl⟩ | exact .inr ⟨rfl, rfl, rfl, Nat.le_of_eq (Nat.zero_add _), cut_all _ _⟩ | (refine .inr ⟨_, rfl, ?_⟩; focus (first | exact ⟨rfl, rfl⟩ | exact .inr ⟨rfl, rfl⟩ | exact .inr ⟨rfl, rfl, rfl, Nat.le_refl _, rfl⟩ | exact .inl rfl | exact .inl ⟨rfl, rfl⟩ | exact ⟨_, rfl, rfl⟩ | exact .inr ⟨_, rfl, rfl⟩ | exact .inl ⟨rfl, rfl, rfl⟩ | exact ⟨congrArg (MV.int _) (by omega), rfl⟩ | exact .inr ⟨rfl, rfl, rfl, Nat.le_of_eq (Nat.zero_add _), cut_all _ _⟩ | (refine .inr ⟨_, rfl, ?_⟩; focus (first | exact ⟨rfl, rfl⟩ | exact .inr ⟨rfl, rfl⟩ | exact .inr ⟨rfl, rfl, rfl, Nat.le_refl _, rfl⟩ | exact .inl rfl | exact .inl ⟨rfl, rfl⟩ | exact ⟨_, rfl, rfl⟩ | exact .inr ⟨_, rfl, rfl⟩ | exact .inl ⟨rfl, rfl, rfl⟩ | exact ⟨congrArg (MV.int _) (by omega), rfl⟩ | exact .inr ⟨rfl, rfl, rfl, Nat.le_of_eq (Nat.zero_add _), cut_all _ _⟩ | (refine .inr ⟨_, rfl, ?_⟩; focus (first | exact ⟨rfl, rfl⟩ | exact .inr ⟨rfl, rfl⟩ | exact .inr ⟨rfl, rfl, rfl, Nat.le_refl _, rfl⟩ | exact .inl rfl | exact .inl ⟨rfl, rfl⟩ | exact ⟨_, rfl, rfl⟩ | exact .inr ⟨_, rfl, rfl⟩ | exact .inl ⟨rfl, rfl, rfl⟩ | exact ⟨congrArg (MV.int _) (by omega), rfl⟩ | exact .inr ⟨rfl, rfl, rfl, Nat.le_of_eq (Nat.zero_add _), cut_all _ _⟩); done) | (refine .inr ⟨_, rfl, ?_⟩; focus (repeat (first | exact trivial | (refine And.intro ?_ ?_; focus (first | exact ⟨rfl, rfl⟩ | exact .inr ⟨rfl, rfl⟩ | exact .inr ⟨rfl, rfl, rfl, Nat.le_refl _, rfl⟩ | exact .inl rfl | exact .inl ⟨rfl, rfl⟩ | exact ⟨_, rfl, rfl⟩ | exact .inr ⟨_, rfl, rfl⟩ | exact .inl ⟨rfl, rfl, rfl⟩ | exact ⟨congrArg (MV.int _) (by omega), rfl⟩ | exact .inr ⟨rfl, rfl, rfl, Nat.le_of_eq (Nat.zero_add _), cut_all _ _⟩)))); done)); done) | (refine .inr ⟨_, rfl, ?_⟩; focus (repeat (first | exact trivial | (refine And.intro ?_ ?_; focus (first | exact ⟨rfl, rfl⟩ | exact .inr ⟨rfl, rfl⟩ | exact .inr ⟨rfl, rfl, rfl, Nat.le_refl _, rfl⟩ | exact .inl rfl | exact .inl ⟨rfl, rfl⟩ | exact ⟨_, rfl, rfl⟩ | exact .inr ⟨_, rfl, rfl⟩ | exact .inl ⟨rfl, rfl, rfl⟩ | exact ⟨congrArg (MV.int _) (by omega), rfl⟩ | exact .inr ⟨rfl, rfl, rfl, Nat.le_of_eq (Nat.zero_add _), cut_all _ _⟩ | (refine .inr ⟨_, rfl, ?_⟩; focus (first | exact ⟨rfl, rfl⟩ | exact .inr ⟨rfl, rfl⟩ | exact .inr ⟨rfl, rfl, rfl, Nat.le_refl _, rfl⟩ | exact .inl rfl | exact .inl ⟨rfl, rfl⟩ | exact ⟨_, rfl, rfl⟩ | exact .inr ⟨_, rfl, rfl⟩ | exact .inl ⟨rfl, rfl, rfl⟩ | exact ⟨congrArg (MV.int _) (by omega), rfl⟩ | exact .inr ⟨rfl, rfl, rfl, Nat.le_of_eq (Nat.zero_add _), cut_all _ _⟩); done) | (refine .inr ⟨_, rfl, ?_⟩; focus (repeat (first | exact trivial | (refine And.intro ?_ ?_; focus (first | exact ⟨rfl, rfl⟩ | exact .inr ⟨rfl, rfl⟩ | exact .inr ⟨rfl, rfl, rfl, Nat.le_refl _, rfl⟩ | exact .inl rfl | exact .inl ⟨rfl, rfl⟩ | exact ⟨_, rfl, rfl⟩ | exact .inr ⟨_, rfl, rfl⟩ | exact .inl ⟨rfl, rfl, rfl⟩ | exact ⟨congrArg (MV.int _) (by omega), rfl⟩ | exact .inr ⟨rfl, rfl, rfl, Nat.le_of_eq (Nat.zero_add _), cut_all _ _⟩)))); done))))); done)); done) | (refine .inr ⟨_, rfl, ?_⟩; focus (repeat (first | exact trivial | (refine And.intro ?_ ?_; focus (first | exact ⟨rfl, rfl⟩ | exact .inr ⟨rfl, rfl⟩ | exact .inr ⟨rfl, rfl, rfl, Nat.le_refl _, rfl⟩ | exact .inl rfl | exact .inl ⟨rfl, rfl⟩ | exact ⟨_, rfl, rfl⟩ | exact .inr ⟨_, rfl, rfl⟩ | exact .inl ⟨rfl, rfl, rfl⟩ | exact ⟨congrArg (MV.int _) (by omega), rfl⟩ | exact .inr ⟨rfl, rfl, rfl, Nat.le_of_eq (Nat.zero_add _), cut_all _ _⟩ | (refine .inr ⟨_, rfl, ?_⟩; focus (first | exact ⟨rfl, rfl⟩ | exact .inr ⟨rfl, rfl⟩ | exact .inr ⟨rfl, rfl, rfl, Nat.le_refl _, rfl⟩ | exact .inl rfl | exact .inl ⟨rfl, rfl⟩ | exact ⟨_, rfl, rfl⟩ | exact .inr ⟨_, rfl, rfl⟩ | exact .inl ⟨rfl, rfl, rfl⟩ | exact ⟨congrArg (MV.int _) (by omega), rfl⟩ | exact .inr ⟨rfl, rfl, rfl, Nat.le_of_eq (Nat.zero_add _), cut_all _ _⟩ | (refine .inr ⟨_, rfl, ?_⟩; focus (first | exact ⟨rfl, rfl⟩ | exact .inr ⟨rfl, rfl⟩ | exact .inr ⟨rfl, rfl, rfl, Nat.le_refl _, rfl⟩ | exact .inl rfl | exact .inl ⟨rfl, rfl⟩ | exact ⟨_, rfl, rfl⟩ | exact .inr ⟨_, rfl, rfl⟩ | exact .inl ⟨rfl, rfl, rfl⟩ | exact ⟨congrArg (MV.int _) (by omega), rfl⟩ | exact .inr ⟨rfl, rfl, rfl, Nat.le_of_eq (Nat.zero_add _), cut_all _ _⟩); done) | (refine .inr ⟨_, rfl, ?_⟩; focus (repeat (first | exact trivial | (refine And.intro ?_ ?_; focus (first | exact ⟨rfl, rfl⟩ | exact .inr ⟨rfl, rfl⟩ | exact .inr ⟨rfl, rfl, rfl, Nat.le_refl _, rfl⟩ | exact .inl rfl | exact .inl ⟨rfl, rfl⟩ | exact ⟨_, rfl, rfl⟩ | exact .inr ⟨_, rfl, rfl⟩ | exact .inl ⟨rfl, rfl, rfl⟩ | exact ⟨congrArg (MV.int _) (by omega), rfl⟩ | exact .inr ⟨rfl, rfl, rfl, Nat.le_of_eq (Nat.zero_add _), cut_all _ _⟩)))); done)); done) | (refine .inr ⟨_, rfl, ?_⟩; focus (repeat (first | exact trivial | (refine And.intro ?_ ?_; focus (first | exact ⟨rfl, rfl⟩ | exact .inr ⟨rfl, rfl⟩ | exact .inr ⟨rfl, rfl, rfl, Nat.le_refl _, rfl⟩ | exact .inl rfl | exact .inl ⟨rfl, rfl⟩ | exact ⟨_, rfl, rfl⟩ | exact .inr ⟨_, rfl, rfl⟩ | exact .inl ⟨rfl, rfl, rfl⟩ | exact ⟨congrArg (MV.int _) (by omega), rfl⟩ | exact .inr ⟨rfl, rfl, rfl, Nat.le_of_eq (Nat.zero_add _), cut_all _ _⟩ | (refine .inr ⟨_, rfl, ?_⟩; focus (first | exact ⟨rfl, rfl⟩ | exact .inr ⟨rfl, rfl⟩ | exact .inr ⟨rfl, rfl, rfl, Nat.le_refl _, rfl⟩ | exact .inl rfl | exact .inl ⟨rfl, rfl⟩ | exact ⟨_, rfl, rfl⟩ | exact .inr ⟨_, rfl, rfl⟩ | exact .inl ⟨rfl, rfl, rfl⟩ | exact ⟨congrArg (MV.int _) (by omega), rfl⟩ | exact .inr ⟨rfl, rfl, rfl, Nat.le_of_eq (Nat.zero_add _), cut_all _ _⟩); done) | (refine .inr ⟨_, rfl, ?_⟩; focus (repeat (first | exact trivial | (refine And.intro ?_ ?_; focus (first | exact ⟨rfl, rfl⟩ | exact .inr ⟨rfl, rfl⟩ | exact .inr ⟨rfl, rfl, rfl, Nat.le_refl _, rfl⟩ | exact .inl rfl | exact .inl ⟨rfl, rfl⟩ | exact ⟨_, rfl, rfl⟩ | exact .inr ⟨_, rfl, rfl⟩ | exact .inl ⟨rfl, rfl, rfl⟩ | exact ⟨congrArg (MV.int _) (by omega), rfl⟩ | exact .inr ⟨rfl, rfl, rfl, Nat.le_of_eq (Nat.zero_add _), cut_all _ _⟩)))); done))))); done))))); done))) | refine ⟨(show _ ≤ _ by simp [u8s]), ?_⟩))) (h5 : M'.all (fun x => Nat.blt x.1 n') = true := by exact rfl) : VMatch n0 E' M' n' E M := VMatch.of σ bs h1 h2 h3 h4 h5
theorem sms {R : MV × Dl → Prop} {p q : Prop} {x : MV × Dl} (_hR : R x) (h : q) (s : Box q → p := by intro hq; repeat (first | exact hR | ((try conv => whnf); first | exact hR | (with_reducible refine And.intro (Nat.zero_le _) ?_) | (with_reducible refine And.intro rfl ?_) | (with_reducible refine ⟨_, idx_at (by omega), ?_⟩) | (with_reducible refine ⟨fun _ => ?_, fun h => Bool.noConfusion h⟩) | (with_reducible refine ⟨fun h => Bool.noConfusion h, fun _ => ?_⟩) | (with_reducible refine ⟨_, sv (wrap_in _ (by omega) (by omega)), ?_⟩) | (with_reducible refine ⟨_, sv (wrapu_in _ (by omega) (by omega)), ?_⟩) | (with_reducible refine ⟨_, sv (wrap8_in _ (by omega) (by omega)), ?_⟩) | (refine ⟨_, rfl, ?_⟩) | (refine And.intro (by omega) ?_))); exact hq.out) : p := s ⟨h⟩
end Go.Proofs.Ytplkofafnbfkmaa
/- The sum of bytes: what it is, and the reference's turn, constants and block. -/
namespace Go.Proofs.Ytplkofafnbfkmaa
open Go.RowKit
variable {G : GS}
/-- The state of a sum. -/
structure W8 where
  a : UInt32
  b : UInt32
  c : UInt32
  d : UInt32
  e : UInt32
  f : UInt32
  g : UInt32
  h : UInt32
def W8.toM (s : W8) : MV := .arr 8 1 [u32M s.a, u32M s.b, u32M s.c, u32M s.d, u32M s.e, u32M s.f, u32M s.g, u32M s.h]
def turnU (x : UInt32) (n : Nat) : UInt32 := (x >>> UInt32.ofNat n) ||| (x <<< UInt32.ofNat (32 - n))
def kL : List UInt32 := [1116352408, 1899447441, 3049323471, 3921009573, 961987163, 1508970993, 2453635748, 2870763221, 3624381080, 310598401, 607225278, 1426881987, 1925078388, 2162078206, 2614888103, 3248222580, 3835390401, 4022224774, 264347078, 604807628, 770255983, 1249150122, 1555081692, 1996064986, 2554220882, 2821834349, 2952996808, 3210313671, 3336571891, 3584528711, 113926993, 338241895, 666307205, 773529912, 1294757372, 1396182291, 1695183700, 1986661051, 2177026350, 2456956037, 2730485921, 2820302411, 3259730800, 3345764771, 3516065817, 3600352804, 4094571909, 275423344, 430227734, 506948616, 659060556, 883997877, 958139571, 1322822218, 1537002063, 1747873779, 1955562222, 2024104815, 2227730452, 2361852424, 2428436474, 2756734187, 3204031479, 3329325298]
def wsM (l : List UInt32) : MV := .arr 64 1 (l.map u32M)
def beU (b : List UInt8) (k : Nat) : UInt32 := (b.getD (4 * k) 0).toUInt32 <<< UInt32.ofNat 24 ||| (b.getD (4 * k + 1) 0).toUInt32 <<< UInt32.ofNat 16 ||| (b.getD (4 * k + 2) 0).toUInt32 <<< UInt32.ofNat 8 ||| (b.getD (4 * k + 3) 0).toUInt32
/-- The words of the rounds: those of the block, and the others. -/
def fillW (b : List UInt8) : Nat → List UInt32
  | 0 => List.replicate 64 0
  | t + 1 => (fillW b t).set t (beU b t)
def stepW (l : List UInt32) (t : Nat) : UInt32 :=
  (turnU (l.getD (t - 2) 0) 17 ^^^ turnU (l.getD (t - 2) 0) 19 ^^^ l.getD (t - 2) 0 >>> UInt32.ofNat 10) + l.getD (t - 7) 0 + (turnU (l.getD (t - 15) 0) 7 ^^^ turnU (l.getD (t - 15) 0) 18 ^^^ l.getD (t - 15) 0 >>> UInt32.ofNat 3) + l.getD (t - 16) 0
def moreW (b : List UInt8) : Nat → List UInt32
  | 0 => fillW b 16
  | t + 1 => (moreW b t).set (16 + t) (stepW (moreW b t) (16 + t))
theorem fillW_len (b : List UInt8) : ∀ t, (fillW b t).length = 64
  | 0 => by simp [fillW]
  | t + 1 => by simp [fillW, fillW_len b t]
theorem moreW_len (b : List UInt8) : ∀ t, (moreW b t).length = 64
  | 0 => fillW_len b 16
  | t + 1 => by simp [moreW, moreW_len b t]
def tmp1 (k w : UInt32) (s : W8) : UInt32 := s.h + (turnU s.e 6 ^^^ turnU s.e 11 ^^^ turnU s.e 25) + (s.e &&& s.f ^^^ ~~~s.e &&& s.g) + k + w
def tmp2 (s : W8) : UInt32 := (turnU s.a 2 ^^^ turnU s.a 13 ^^^ turnU s.a 22) + (s.a &&& s.b ^^^ s.a &&& s.c ^^^ s.b &&& s.c)
def roundS (k w : UInt32) (s : W8) : W8 := ⟨tmp1 k w s + tmp2 s, s.a, s.b, s.c, s.d + tmp1 k w s, s.e, s.f, s.g⟩
def rounds (k w : List UInt32) (s : W8) : Nat → W8
  | 0 => s
  | t + 1 => roundS (k.getD t 0) (w.getD t 0) (rounds k w s t)
def addW (h s : W8) : Nat → W8
  | 0 => h
  | 1 => ⟨h.a + s.a, h.b, h.c, h.d, h.e, h.f, h.g, h.h⟩
  | 2 => ⟨h.a + s.a, h.b + s.b, h.c, h.d, h.e, h.f, h.g, h.h⟩
  | 3 => ⟨h.a + s.a, h.b + s.b, h.c + s.c, h.d, h.e, h.f, h.g, h.h⟩
  | 4 => ⟨h.a + s.a, h.b + s.b, h.c + s.c, h.d + s.d, h.e, h.f, h.g, h.h⟩
  | 5 => ⟨h.a + s.a, h.b + s.b, h.c + s.c, h.d + s.d, h.e + s.e, h.f, h.g, h.h⟩
  | 6 => ⟨h.a + s.a, h.b + s.b, h.c + s.c, h.d + s.d, h.e + s.e, h.f + s.f, h.g, h.h⟩
  | 7 => ⟨h.a + s.a, h.b + s.b, h.c + s.c, h.d + s.d, h.e + s.e, h.f + s.f, h.g + s.g, h.h⟩
  | _ => ⟨h.a + s.a, h.b + s.b, h.c + s.c, h.d + s.d, h.e + s.e, h.f + s.f, h.g + s.g, h.h + s.h⟩
/-- A block of 64 bytes. -/
def blockS (h : W8) (b : List UInt8) : W8 := addW h (rounds kL (moreW b 48) h 64) 8

theorem index_of {l : List MV} {n : Nat} {j : Int} {x : MV} (k : Nat) (hj : j = k) (hk : k < n) (hx : l[k]? = some x) : idxL l n j = some x := by
  subst hj; exact index_at hk hx
theorem idx_of {n : Nat} {j : Int} (k : Nat) (hj : j = k) (hk : k < n) : idx n j = some k := by
  subst hj; exact idx_at hk
theorem u8_at {b : List UInt8} {k : Nat} (h : k < b.length) : (u8s b)[k]? = some (u8M (b.getD k 0)) := by simp [u8s, h]
theorem ws_get {l : List UInt32} {k : Nat} (h : k < l.length) : getPO (wsM l) ([] ++ [k]) (0 + k * 1) = some (u32M (l.getD k 0)) := by
  show (match nthM (l.map u32M) k with | some m => bif Nat.ble (k * 1) (0 + k * 1) then getPO m [] (0 + k * 1 - k * 1) else none | none => none) = _
  have e : nthM (l.map u32M) k = some (u32M (l.getD k 0)) := by rw [nthM_eq]; simp [h]
  rw [e]
  have e2 : Nat.ble (k * 1) (0 + k * 1) = true := by simp
  simp only [e2, cond_true]
  simp [getPO]
theorem ws_set {l : List UInt32} {k : Nat} (h : k < l.length) (x : UInt32) : setPO (wsM l) ([] ++ [k]) (0 + k * 1) (u32M x) = some (wsM (l.set k x)) := by
  show (match nthM (l.map u32M) k with | some m => bif Nat.ble (k * 1) (0 + k * 1) && (u32M x).idFree then (match setPO m [] (0 + k * 1 - k * 1) (u32M x) with | some m' => some (MV.arr 64 1 (setL (l.map u32M) k m')) | none => none) else none | none => none) = _
  have e : nthM (l.map u32M) k = some (u32M (l.getD k 0)) := by rw [nthM_eq]; simp [h]
  rw [e]
  have e2 : Nat.ble (k * 1) (0 + k * 1) = true := by simp
  simp only [e2]
  simp [setPO, setL_eq, MV.idFree, MV.size, MV.isAgg, wsM, List.map_set]
def W8.nth (s : W8) : Nat → UInt32
  | 0 => s.a
  | 1 => s.b
  | 2 => s.c
  | 3 => s.d
  | 4 => s.e
  | 5 => s.f
  | 6 => s.g
  | _ => s.h
theorem get8 (s : W8) {i : Nat} (hi : i < 8) : getPO s.toM ([] ++ [i]) (0 + i * 1) = some (u32M (s.nth i)) := by
  have h8 : i = 0 ∨ i = 1 ∨ i = 2 ∨ i = 3 ∨ i = 4 ∨ i = 5 ∨ i = 6 ∨ i = 7 := by omega
  rcases h8 with rfl | rfl | rfl | rfl | rfl | rfl | rfl | rfl <;> rfl
theorem set8 (h s : W8) {i : Nat} (hi : i < 8) : setPO (addW h s i).toM ([] ++ [i]) (0 + i * 1) (u32M ((addW h s i).nth i + s.nth i)) = some (addW h s (i + 1)).toM := by
  have h8 : i = 0 ∨ i = 1 ∨ i = 2 ∨ i = 3 ∨ i = 4 ∨ i = 5 ∨ i = 6 ∨ i = 7 := by omega
  rcases h8 with rfl | rfl | rfl | rfl | rfl | rfl | rfl | rfl <;> rfl
theorem turn_m (x : UInt32) (n : Nat) (h0 : 0 < n) (h1 : n < 32) : SemC Try.prog G 53 [u32M x, .int .i64 n] (u32M (turnU x n)) := by
  refine semC_of_vc seat Try.func53 rfl rfl (Nat.le_of_ble_eq_true rfl) (Nat.le_of_ble_eq_true rfl) (N := 13) rfl ?_
  refine ⟨[(0, false), (1, false), (2, false), (3, false), (4, false), (5, false), (6, false), (7, false), (8, false)], ?_⟩
  refine ⟨by omega, _, sv (shr32 x n h1), ?_⟩
  refine ⟨((32 - n : Nat) : Int), sv ((wrap_in _ (by omega) (by omega)).trans (by omega)), ?_⟩
  refine ⟨by omega, _, sv (shl32 x (32 - n) (by omega)), ?_⟩
  refine gow0 ?_
  rfl
theorem constants_m : SemC Try.prog G 54 [] (wsM kL) := by
  refine semC_of_vc seat Try.func54 rfl rfl (Nat.le_of_ble_eq_true rfl) (Nat.le_of_ble_eq_true rfl) (N := 2) rfl ?_
  refine gow0 ?_
  rfl
set_option maxHeartbeats 4000000 in
set_option maxRecDepth 20000 in
theorem block_m (h : W8) (b : List UInt8) (hb : b.length = 64) : SemC Try.prog G 39 [h.toM, .sl 64 (u8s b)] (blockS h b).toM := by
  unfold blockS
  refine semC_of_vc seat Try.func39 rfl rfl (Nat.le_of_ble_eq_true rfl) (Nat.le_of_ble_eq_true rfl) (N := 193) rfl ?_
  refine ⟨Nat, fun t => [(6, .int .i64 t), (5, .ptr 2 64 0 0 []), (4, .ptr 1 8 0 0 []), (2, .ptr 0 8 0 0 []), (1, .sl 64 (u8s b))], fun t => [(0, ⟨79, 8, false, 0, [h.toM]⟩), (1, ⟨79, 8, false, 0, [W8.toM ⟨0, 0, 0, 0, 0, 0, 0, 0⟩]⟩), (2, ⟨89, 64, false, 0, [wsM (fillW b t)]⟩)], 3, fun t => t ≤ 16, fun t => 16 - t, ⟨0, by omega, (vm [(0, 0), (1, 1), (2, 2)] [])⟩, ?_⟩
  intro t ht
  refine ⟨fun hc => ?_, fun hc => ?_⟩
  · have ht' : t < 16 := by have := of_decide_eq_true hc; omega
    have hl := fillW_len b t
    refine ⟨[(0, false), (1, false), (2, false), (3, false), (4, false), (5, false), (6, false), (7, false), (8, false), (9, false), (10, false), (11, false), (12, false), (13, false), (14, false), (15, false), (16, false), (17, false), (18, false), (19, false), (20, false), (21, false), (22, false), (23, false), (24, false), (25, false), (26, false), (27, false), (28, false), (29, false), (30, false), (31, false), (32, false), (33, false), (34, false), (35, false)], ?_⟩
    refine gow0 ?_
    refine ⟨_, index_of (4 * t) (by omega) (by omega) (u8_at (by omega)), ?_⟩
    refine gow0 ?_
    refine ⟨_, index_of (4 * t + 1) (by omega) (by omega) (u8_at (by omega)), ?_⟩
    refine gow0 ?_
    refine ⟨_, index_of (4 * t + 2) (by omega) (by omega) (u8_at (by omega)), ?_⟩
    refine gow0 ?_
    refine ⟨_, index_of (4 * t + 3) (by omega) (by omega) (u8_at (by omega)), ?_⟩
    refine gow0 ?_
    refine ⟨_, idx_at (by omega), ?_⟩
    refine gow0 ?_
    refine ⟨_, ws_set (by omega) _, ?_⟩
    refine gow0 ?_
    exact ⟨t + 1, by omega, by show 16 - (t + 1) < 16 - t; omega, (vm [(0, 0), (1, 1), (2, 2)] [])⟩
  · have ht' : t = 16 := by have := of_decide_eq_false hc; omega
    subst ht'
    refine ⟨Nat, fun t => [(7, .int .i64 ((16 + t : Nat) : Int)), (5, .ptr 2 64 0 0 []), (4, .ptr 1 8 0 0 []), (2, .ptr 0 8 0 0 [])], fun t => [(0, ⟨79, 8, false, 0, [h.toM]⟩), (1, ⟨79, 8, false, 0, [W8.toM ⟨0, 0, 0, 0, 0, 0, 0, 0⟩]⟩), (2, ⟨89, 64, false, 0, [wsM (moreW b t)]⟩)], 3, fun t => t ≤ 48, fun t => 48 - t, ⟨0, by omega, (vm [(0, 0), (1, 1), (2, 2)] [])⟩, ?_⟩
    intro t ht
    refine ⟨fun hc => ?_, fun hc => ?_⟩
    · have ht' : t < 48 := by have := of_decide_eq_true hc; omega
      have hl := moreW_len b t
      refine ⟨[(0, false), (1, false), (2, false), (3, false), (4, false), (5, false), (6, false), (7, false), (8, false), (9, false)], ?_⟩
      refine gow0 ?_
      refine ⟨_, idx_of (16 + t - 15) (by omega) (by omega), ?_⟩
      refine gow0 ?_
      refine ⟨_, ws_get (by omega), ?_⟩
      refine gow0 ?_
      refine ⟨_, idx_of (16 + t - 2) (by omega) (by omega), ?_⟩
      refine gow0 ?_
      refine ⟨_, ws_get (by omega), ?_⟩
      refine gow0 ?_
      refine ⟨[(0, false), (1, false), (2, false), (3, false), (4, false), (5, false), (6, false), (7, false), (8, false), (9, false), (10, false), (11, false), (12, false), (13, false), (14, false), (15, false), (16, false), (17, false), (18, false), (19, false), (20, false), (21, false), (22, false), (23, false), (24, false), (25, false), (26, false), (27, false), (28, false), (29, false)], ?_⟩
      refine ⟨_, turn_m _ 17 (by omega) (by omega), ?_⟩
      refine ⟨_, turn_m _ 19 (by omega) (by omega), ?_⟩
      refine gow0 ?_
      refine ⟨_, idx_of (16 + t - 7) (by omega) (by omega), ?_⟩
      refine gow0 ?_
      refine ⟨_, ws_get (by omega), ?_⟩
      refine gow0 ?_
      refine ⟨_, turn_m _ 7 (by omega) (by omega), ?_⟩
      refine ⟨_, turn_m _ 18 (by omega) (by omega), ?_⟩
      refine gow0 ?_
      refine ⟨_, idx_of (16 + t - 16) (by omega) (by omega), ?_⟩
      refine gow0 ?_
      refine ⟨_, ws_get (by omega), ?_⟩
      refine gow0 ?_
      refine ⟨_, idx_of (16 + t) (by omega) (by omega), ?_⟩
      refine gow0 ?_
      refine ⟨_, ws_set (by omega) _, ?_⟩
      refine gow0 ?_
      exact ⟨t + 1, by show t + 1 ≤ 48; omega, by show 48 - (t + 1) < 48 - t; omega, (vm [(0, 0), (1, 1), (2, 2)] [])⟩
    · have ht' : t = 48 := by have := of_decide_eq_false hc; omega
      subst ht'
      refine .inl ⟨_, constants_m, ?_⟩
      refine gow0 ?_
      have hl := moreW_len b 48
      have hk : kL.length = 64 := rfl
      dsimp only
      generalize moreW b 48 = ws at *
      generalize kL = kl at *
      refine ⟨Nat, fun t => [(12, .int .i64 t), (11, .ptr 4 8 0 0 []), (10, .ptr 3 64 0 0 []), (5, .ptr 2 64 0 0 []), (4, .ptr 1 8 0 0 []), (2, .ptr 0 8 0 0 [])], fun t => [(0, ⟨79, 8, false, 0, [h.toM]⟩), (1, ⟨79, 8, false, 0, [W8.toM ⟨0, 0, 0, 0, 0, 0, 0, 0⟩]⟩), (2, ⟨89, 64, false, 0, [wsM ws]⟩), (3, ⟨89, 64, false, 0, [wsM kl]⟩), (4, ⟨79, 8, false, 0, [(rounds kl ws h t).toM]⟩)], 5, fun t => t ≤ 64, fun t => 64 - t, ⟨0, by omega, (vm [(0, 0), (1, 1), (2, 2), (3, 6), (4, 9)] [])⟩, ?_⟩
      intro t ht
      refine ⟨fun hc => ?_, fun hc => ?_⟩
      · have ht' : t < 64 := by have := of_decide_eq_true hc; omega
        refine ⟨[(0, false), (1, false), (2, false), (3, false), (4, false), (5, false)], ?_⟩
        refine gow0 ?_
        refine ⟨[(0, false), (1, false), (2, false), (3, false), (4, false), (5, false), (6, false), (7, false), (8, false), (9, false), (10, false), (11, false), (12, false), (13, false), (14, false), (15, false), (16, false), (17, false), (18, false), (19, false), (20, false), (21, false), (22, false), (23, false), (24, false), (25, false), (26, false), (27, false), (28, false), (29, false), (30, false)], ?_⟩
        refine gow0 ?_
        refine ⟨_, turn_m _ 6 (by omega) (by omega), ?_⟩
        refine ⟨_, turn_m _ 11 (by omega) (by omega), ?_⟩
        refine gow0 ?_
        refine ⟨_, turn_m _ 25 (by omega) (by omega), ?_⟩
        refine gow0 ?_
        refine ⟨_, idx_at (by omega), ?_⟩
        refine gow0 ?_
        refine ⟨_, ws_get (by omega), ?_⟩
        refine gow0 ?_
        refine ⟨_, idx_at (by omega), ?_⟩
        refine gow0 ?_
        refine ⟨_, ws_get (by omega), ?_⟩
        refine gow0 ?_
        refine ⟨[(0, false), (1, false), (2, false), (3, false), (4, false), (5, false), (6, false), (7, false), (8, false), (9, false), (10, false), (11, false), (12, false), (13, false), (14, false), (15, false), (16, false), (17, false), (18, false), (19, false), (20, false), (21, false), (22, false), (23, false), (24, false)], ?_⟩
        refine ⟨_, turn_m _ 2 (by omega) (by omega), ?_⟩
        refine ⟨_, turn_m _ 13 (by omega) (by omega), ?_⟩
        refine gow0 ?_
        refine ⟨_, turn_m _ 22 (by omega) (by omega), ?_⟩
        refine gow0 ?_
        exact ⟨t + 1, by show t + 1 ≤ 64; omega, by show 64 - (t + 1) < 64 - t; omega, (vm [(0, 0), (1, 1), (2, 2), (3, 3), (4, 4)] [])⟩
      · have ht' : t = 64 := by have := of_decide_eq_false hc; omega
        subst ht'
        refine gow0 ?_
        refine ⟨Nat, fun i => [(180, .int .i64 i), (11, .ptr 2 8 0 0 []), (4, .ptr 1 8 0 0 []), (2, .ptr 0 8 0 0 [])], fun i => [(0, ⟨79, 8, false, 0, [(addW h (rounds kl ws h 64) i).toM]⟩), (1, ⟨79, 8, false, 0, [W8.toM ⟨0, 0, 0, 0, 0, 0, 0, 0⟩]⟩), (2, ⟨79, 8, false, 0, [(rounds kl ws h 64).toM]⟩)], 3, fun i => i ≤ 8, fun i => 8 - i, ⟨0, by omega, (vm [(0, 0), (1, 1), (2, 4)] [])⟩, ?_⟩
        intro i hi
        refine ⟨fun hc => ?_, fun hc => ?_⟩
        · have hi' : i < 8 := by have := of_decide_eq_true hc; omega
          refine ⟨[(0, false), (1, false), (2, false), (3, false), (4, false), (5, false), (6, false), (7, false), (8, false)], ?_⟩
          generalize rounds kl ws h 64 = s at *
          refine gow0 ?_
          refine ⟨_, idx_at (by omega), ?_⟩
          refine gow0 ?_
          refine ⟨_, get8 _ hi', ?_⟩
          refine gow0 ?_
          refine ⟨_, idx_at (by omega), ?_⟩
          refine gow0 ?_
          refine ⟨_, get8 _ hi', ?_⟩
          refine gow0 ?_
          refine ⟨_, idx_at (by omega), ?_⟩
          refine gow0 ?_
          refine ⟨_, set8 h s hi', ?_⟩
          refine gow0 ?_
          exact ⟨i + 1, by show i + 1 ≤ 8; omega, by show 8 - (i + 1) < 8 - i; omega, (vm [(0, 0), (1, 1), (2, 2)] [])⟩
        · have hi' : i = 8 := by have := of_decide_eq_false hc; omega
          subst hi'
          refine gow0 ?_
          rfl
end Go.Proofs.Ytplkofafnbfkmaa
/- The reference's sum of bytes. -/
namespace Go.Proofs.Ytplkofafnbfkmaa
open Go.RowKit
variable {G : GS}
theorem quo_nat (i n : Nat) (h : i < 4611686018427387904) : IntKind.i64.wrap ((i : Int).tdiv (n : Int)) = ((i / n : Nat) : Int) := by
  have e : (i : Int).tdiv (n : Int) = ((i / n : Nat) : Int) := rfl
  have := Nat.div_le_self i n
  generalize i / n = q at *
  rw [e, wrap_in _ (by omega) (by omega)]
theorem rem_nat (i n : Nat) : (i : Int).tmod (n : Int) = ((i % n : Nat) : Int) := rfl
theorem bounds_at {n a c : Nat} {k k' : IntKind} {lo hi : Int} (ha : lo = (a : Int)) (hc : hi = (c : Int)) (h1 : a ≤ c) (h2 : c ≤ n) : bounds n (some (.int k lo)) (some (.int k' hi)) = some (a, c) := by
  subst ha; subst hc
  unfold bounds
  simp only
  rw [if_pos (by omega)]
  simp only [Int.toNat_natCast]
  rw [if_pos (by omega)]
theorem cut_u8 (m : List UInt8) (a c : Nat) : cutL (u8s m) a c = u8s ((m.drop a).take (c - a)) := by simp [cutL, u8s, List.map_drop, List.map_take]
theorem head_u8 (m : List UInt8) : headSize (u8s m) 1 = true := by cases m <;> rfl
/-- How many zeros follow. -/
def padN (n : Nat) : Nat := (119 - n % 64) % 64
def byteAt (n k : Nat) : UInt8 := UInt8.ofNat (n / 2 ^ (8 * (7 - k)))
def be64 (n : Nat) : List UInt8 := (List.range 8).map (byteAt n)
def padS (b : List UInt8) : List UInt8 := b ++ [128] ++ List.replicate (padN b.length) 0 ++ be64 (8 * b.length)
def initW : W8 := ⟨1779033703, 3144134277, 1013904242, 2773480762, 1359893119, 2600822924, 528734635, 1541459225⟩
def absorb (s : W8) (m : List UInt8) : Nat → W8
  | 0 => s
  | k + 1 => blockS (absorb s m k) ((m.drop (64 * k)).take 64)
def outAt (s : W8) (i : Nat) : UInt8 := (s.nth (i / 4) >>> UInt32.ofNat (24 - i % 4 * 8)).toUInt8
def outK (s : W8) : Nat → List UInt8
  | 0 => List.replicate 32 0
  | i + 1 => (outK s i).set i (outAt s i)
theorem outK_len (s : W8) : ∀ i, (outK s i).length = 32
  | 0 => by simp [outK]
  | i + 1 => by simp [outK, outK_len s i]
def shaS (b : List UInt8) : List UInt8 := outK (absorb initW (padS b) ((padS b).length / 64)) 32
theorem shaS_len (b : List UInt8) : (shaS b).length = 32 := outK_len _ _
def keyM (k : List UInt8) : MV := .arr 32 1 (u8s k)
theorem padS_len (b : List UInt8) : (padS b).length = b.length + 9 + padN b.length := by simp [padS, be64]; omega
theorem padS_div (b : List UInt8) : (padS b).length = 64 * ((padS b).length / 64) := by rw [padS_len]; unfold padN; omega
theorem key_get {k : List UInt8} {i : Nat} (h : i < k.length) : getPO (keyM k) ([] ++ [i]) (0 + i * 1) = some (u8M (k.getD i 0)) := by
  show (match nthM (u8s k) i with | some m => bif Nat.ble (i * 1) (0 + i * 1) then getPO m [] (0 + i * 1 - i * 1) else none | none => none) = _
  have e : nthM (u8s k) i = some (u8M (k.getD i 0)) := by rw [nthM_eq]; exact u8_at h
  rw [e]
  have e2 : Nat.ble (i * 1) (0 + i * 1) = true := by simp
  simp only [e2, cond_true]
  simp [getPO]
theorem key_set {k : List UInt8} {i : Nat} (h : i < k.length) (x : UInt8) : setPO (keyM k) ([] ++ [i]) (0 + i * 1) (u8M x) = some (keyM (k.set i x)) := by
  show (match nthM (u8s k) i with | some m => bif Nat.ble (i * 1) (0 + i * 1) && (u8M x).idFree then (match setPO m [] (0 + i * 1 - i * 1) (u8M x) with | some m' => some (MV.arr 32 1 (setL (u8s k) i m')) | none => none) else none | none => none) = _
  have e : nthM (u8s k) i = some (u8M (k.getD i 0)) := by rw [nthM_eq]; exact u8_at h
  rw [e]
  have e2 : Nat.ble (i * 1) (0 + i * 1) = true := by simp
  simp only [e2]
  simp [setPO, setL_eq, MV.idFree, MV.size, MV.isAgg, keyM, u8s, List.map_set]
theorem byteAt_eq (n k : Nat) (hk : k < 8) : IntKind.u8.wrap (((n : Int) * 8).fdiv (2 ^ (min (8 * (7 - (k : Int))).toNat IntKind.u64.bits))) = ((byteAt (8 * n) k).toNat : Int) := by
  have e : min (8 * (7 - (k : Int))).toNat IntKind.u64.bits = 8 * (7 - k) := by simp [IntKind.bits]; omega
  have e2 : ((n : Int) * 8) = ((8 * n : Nat) : Int) := by omega
  rw [e, e2, Int.fdiv_eq_ediv_of_nonneg _ (Int.le_of_lt (Int.pow_pos (by omega))), w8, byteAt, UInt8.toNat_ofNat']
  have e3 : (2 : Int) ^ (8 * (7 - k)) = ((2 ^ (8 * (7 - k)) : Nat) : Int) := by rw [Int.natCast_pow]; rfl
  rw [e3, ← Int.natCast_ediv]
  exact (Int.natCast_emod _ 256).symm
set_option maxHeartbeats 4000000 in
theorem sha_m (b : List UInt8) (hb : b.length < 536870912) : SemC Try.prog G 30 [.sl b.length (u8s b)] (keyM (shaS b)) := by
  have hp : padN b.length < 64 := by unfold padN; omega
  refine semC_of_vc seat Try.func30 rfl rfl (Nat.le_of_ble_eq_true rfl) (Nat.le_of_ble_eq_true rfl) (N := 69) rfl ?_
  refine gow0 ?_
  refine ⟨head_u8 b, ?_⟩
  refine gow0 ?_
  (refine And.intro ⟨pf, app_ok (by kernel_rfl) pf⟩ ?_; refine ⟨u8s b, sv pf, b.length, sv pf, ?_⟩)
  refine gow0 ?_
  (refine And.intro (Nat.le_refl _) ?_; refine ⟨_, rfl, ?_⟩; refine And.intro ⟨pf, app_ok (by kernel_rfl) pf⟩ ?_; refine ⟨u8s (b ++ [128]), sv pf, b.length + 1, sv pf, ?_⟩)
  refine gow0 ?_
  refine ⟨Nat, fun k => [(3, .ms 1 1 0 (b.length + 1 + k)), (2, .ptr 0 32 0 0 []), (0, .sl b.length (u8s b))], fun k => [(0, ⟨47, 32, false, 0, [keyM (List.replicate 32 0)]⟩), (1, ⟨5, 1, true, 0, u8s (b ++ [128] ++ List.replicate k 0)⟩)], 2, fun k => k ≤ padN b.length, fun k => padN b.length - k, ⟨0, Nat.zero_le _, (vm [(0, _), (1, _)] [])⟩, ?_⟩
  intro k hk
  refine gow0 ?_
  refine ⟨fun hc => ?_, fun hc => ?_⟩
  · have hk' : k < padN b.length := by
      have hc : ((b.length + 1 + k : Nat) : Int).tmod (64 : Int) ≠ 56 := by simpa using hc
      have e : ((b.length + 1 + k : Nat) : Int).tmod (64 : Int) = (((b.length + 1 + k) % 64 : Nat) : Int) := rfl
      unfold padN at hk ⊢
      omega
    refine gow0 ?_
    (refine And.intro (Nat.le_refl _) ?_; refine ⟨_, rfl, ?_⟩; refine And.intro ⟨pf, app_ok (by kernel_rfl) pf⟩ ?_; refine ⟨u8s (b ++ [128] ++ List.replicate (k + 1) 0), sv pf, b.length + 1 + (k + 1), sv pf, ?_⟩)
    refine gow0 ?_
    exact ⟨k + 1, by show k + 1 ≤ padN b.length; omega, by show padN b.length - (k + 1) < padN b.length - k; omega, (vm [(0, _), (1, _)] [])⟩
  · have hk' : k = padN b.length := by
      have hc : ((b.length + 1 + k : Nat) : Int).tmod (64 : Int) = 56 := by simpa using hc
      have e : ((b.length + 1 + k : Nat) : Int).tmod (64 : Int) = (((b.length + 1 + k) % 64 : Nat) : Int) := rfl
      unfold padN at hk ⊢
      omega
    subst hk'
    refine gow0 ?_
    refine ⟨Nat, fun k => [(5, .int .i64 (7 - (k : Int))), (4, .int .u64 ((b.length : Int) * 8)), (3, .ms 1 1 0 (b.length + 1 + padN b.length + k)), (2, .ptr 0 32 0 0 [])], fun k => [(0, ⟨47, 32, false, 0, [keyM (List.replicate 32 0)]⟩), (1, ⟨5, 1, true, 0, u8s (b ++ [128] ++ List.replicate (padN b.length) 0 ++ (List.range k).map (byteAt (8 * b.length)))⟩)], 2, fun k => k ≤ 8, fun k => 8 - k, ⟨0, Nat.zero_le _, (vm [(0, _), (1, _)] [])⟩, ?_⟩
    intro k hk
    refine ⟨fun hc => ?_, fun hc => ?_⟩
    · have hk' : k < 8 := by have := of_decide_eq_true hc; omega
      (repeat ((try conv => whnf); first | (with_reducible refine ⟨_, sv (byteAt_eq _ _ hk'), ?_⟩) | (with_reducible refine And.intro (Nat.zero_le _) ?_) | (with_reducible refine And.intro rfl ?_) | (with_reducible refine ⟨fun _ => ?_, fun h => Bool.noConfusion h⟩) | (with_reducible refine ⟨fun h => Bool.noConfusion h, fun _ => ?_⟩) | (with_reducible refine ⟨_, sv (add32 _ _), ?_⟩) | (with_reducible refine ⟨_, sv (xor32 _ _), ?_⟩) | (with_reducible refine ⟨_, sv (and32 _ _), ?_⟩) | (with_reducible refine ⟨_, sv (or32 _ _), ?_⟩) | (with_reducible refine ⟨_, sv (not32 _), ?_⟩) | (with_reducible refine ⟨_, sv (shlI _ _ (by omega) (by omega)), ?_⟩) | (with_reducible refine ⟨_, sv (shrI _ _ (by omega) (by omega)), ?_⟩) | (with_reducible refine ⟨_, sv (conv832 _), ?_⟩) | (with_reducible refine ⟨_, sv (conv328 _), ?_⟩) | (with_reducible refine ⟨_, sv (wrap_in _ (by omega) (by omega)), ?_⟩) | (with_reducible refine ⟨_, sv (wrapu_in _ (by omega) (by omega)), ?_⟩) | (with_reducible refine ⟨_, sv (wrap8_in _ (by omega) (by omega)), ?_⟩) | refine ⟨_, rfl, ?_⟩ | refine And.intro (show okDraw _ _ = true by kernel_rfl) ?_ | refine And.intro (by omega) ?_))
      (refine And.intro (Nat.le_refl _) ?_; refine ⟨_, rfl, ?_⟩; refine And.intro ⟨pf, app_ok (by kernel_rfl) pf⟩ ?_; refine ⟨u8s (b ++ [128] ++ List.replicate (padN b.length) 0 ++ (List.range (k + 1)).map (byteAt (8 * b.length))), sv pf, b.length + 1 + padN b.length + (k + 1), sv pf, ?_⟩)
      refine gow0 ?_
      exact ⟨k + 1, by show k + 1 ≤ 8; omega, by show 8 - (k + 1) < 8 - k; omega, (vm [(0, _), (1, _)] [])⟩
    · have hk' : k = 8 := by have := of_decide_eq_false hc; omega
      subst hk'
      have hm : b ++ [128] ++ List.replicate (padN b.length) 0 ++ (List.range 8).map (byteAt (8 * b.length)) = padS b := rfl
      have hl := padS_len b
      have hd := padS_div b
      have hlm : b.length + 1 + padN b.length + 8 = (padS b).length := by omega
      unfold shaS
      dsimp only
      rw [hm, hlm]
      generalize (padS b).length / 64 = q at *
      have hq : (padS b).length < 2000000000 := by omega
      generalize padS b = m at *
      refine gow0 ?_
      refine ⟨Nat, fun k => [(7, .int .i64 ((64 * k : Nat) : Int)), (6, .ptr 1 8 0 0 []), (3, .sl m.length (u8s m)), (2, .ptr 0 32 0 0 [])], fun k => [(0, ⟨47, 32, false, 0, [keyM (List.replicate 32 0)]⟩), (1, ⟨79, 8, false, 0, [(absorb initW m k).toM]⟩)], 2, fun k => k ≤ q, fun k => q - k, ⟨0, Nat.zero_le _, (vm [(0, _), (1, _)] [(1, m.length)])⟩, ?_⟩
      intro k hk
      refine ⟨fun hc => ?_, fun hc => ?_⟩
      · have hk' : k < q := by have := of_decide_eq_true hc; omega
        refine ⟨[(0, false), (1, false), (2, false), (3, false), (4, false), (5, false), (6, false), (7, false)], ?_⟩
        refine gow0 ?_
        refine ⟨_, bounds_at (a := 64 * k) (c := 64 * k + 64) rfl (by omega) (by omega) (by omega), head_u8 m, ?_⟩
        refine ⟨u8s ((m.drop (64 * k)).take 64), sv ((cut_u8 _ _ _).trans (by rw [show 64 * k + 64 - 64 * k = 64 by omega])), 64, sv (by omega), ?_⟩
        refine ⟨_, block_m _ _ (by simp; omega), ?_⟩
        refine gow0 ?_
        exact ⟨k + 1, by show k + 1 ≤ q; omega, by show q - (k + 1) < q - k; omega, (vm [(0, _), (1, _)] [])⟩
      · have hk' : k = q := by have := of_decide_eq_false hc; omega
        subst hk'
        dsimp only
        generalize absorb initW m k = s at *
        refine gow0 ?_
        refine ⟨Nat, fun i => [(52, .int .i64 i), (8, .ptr 2 32 0 0 []), (6, .ptr 1 8 0 0 []), (2, .ptr 0 32 0 0 [])], fun i => [(0, ⟨47, 32, false, 0, [keyM (List.replicate 32 0)]⟩), (1, ⟨79, 8, false, 0, [s.toM]⟩), (2, ⟨47, 32, false, 0, [keyM (outK s i)]⟩)], 3, fun i => i ≤ 32, fun i => 32 - i, ⟨0, Nat.zero_le _, (vm [(0, _), (1, _), (2, _)] [])⟩, ?_⟩
        intro i hi
        refine ⟨fun hc => ?_, fun hc => ?_⟩
        · have hi' : i < 32 := by have := of_decide_eq_true hc; omega
          have hl := outK_len s i
          have e1 : IntKind.i64.wrap ((i : Int).tmod 4 * 8) = ((i % 4 * 8 : Nat) : Int) := by
            have e : (i : Int).tmod 4 = ((i % 4 : Nat) : Int) := rfl
            rw [e, wrap_in _ (by omega) (by omega)]; omega
          have e2 : IntKind.i64.wrap (24 - ((i % 4 * 8 : Nat) : Int)) = ((24 - i % 4 * 8 : Nat) : Int) := by
            rw [wrap_in _ (by omega) (by omega)]; omega
          (repeat ((try conv => whnf); first | (with_reducible refine ⟨_, sv (quo_nat i 4 (by omega)), ?_⟩) | (with_reducible refine And.intro (Nat.zero_le _) ?_) | (with_reducible refine And.intro rfl ?_) | (with_reducible refine ⟨fun _ => ?_, fun h => Bool.noConfusion h⟩) | (with_reducible refine ⟨fun h => Bool.noConfusion h, fun _ => ?_⟩) | (with_reducible refine ⟨_, sv (add32 _ _), ?_⟩) | (with_reducible refine ⟨_, sv (xor32 _ _), ?_⟩) | (with_reducible refine ⟨_, sv (and32 _ _), ?_⟩) | (with_reducible refine ⟨_, sv (or32 _ _), ?_⟩) | (with_reducible refine ⟨_, sv (not32 _), ?_⟩) | (with_reducible refine ⟨_, sv (shlI _ _ (by omega) (by omega)), ?_⟩) | (with_reducible refine ⟨_, sv (shrI _ _ (by omega) (by omega)), ?_⟩) | (with_reducible refine ⟨_, sv (conv832 _), ?_⟩) | (with_reducible refine ⟨_, sv (conv328 _), ?_⟩) | (with_reducible refine ⟨_, sv (wrap_in _ (by omega) (by omega)), ?_⟩) | (with_reducible refine ⟨_, sv (wrapu_in _ (by omega) (by omega)), ?_⟩) | (with_reducible refine ⟨_, sv (wrap8_in _ (by omega) (by omega)), ?_⟩) | refine ⟨_, rfl, ?_⟩ | refine And.intro (show okDraw _ _ = true by kernel_rfl) ?_ | refine And.intro (by omega) ?_))
          refine ⟨_, idx_of (i / 4) rfl (by omega), ?_⟩
          refine gow0 ?_
          refine ⟨_, get8 _ (by omega), ?_⟩
          (repeat ((try conv => whnf); first | (with_reducible refine ⟨_, sv e1, ?_⟩) | (with_reducible refine ⟨_, sv e2, ?_⟩) | (with_reducible refine ⟨_, sv (shr32 _ (24 - i % 4 * 8) (by omega)), ?_⟩) | (with_reducible refine And.intro (Nat.zero_le _) ?_) | (with_reducible refine And.intro rfl ?_) | (with_reducible refine ⟨fun _ => ?_, fun h => Bool.noConfusion h⟩) | (with_reducible refine ⟨fun h => Bool.noConfusion h, fun _ => ?_⟩) | (with_reducible refine ⟨_, sv (add32 _ _), ?_⟩) | (with_reducible refine ⟨_, sv (xor32 _ _), ?_⟩) | (with_reducible refine ⟨_, sv (and32 _ _), ?_⟩) | (with_reducible refine ⟨_, sv (or32 _ _), ?_⟩) | (with_reducible refine ⟨_, sv (not32 _), ?_⟩) | (with_reducible refine ⟨_, sv (shlI _ _ (by omega) (by omega)), ?_⟩) | (with_reducible refine ⟨_, sv (shrI _ _ (by omega) (by omega)), ?_⟩) | (with_reducible refine ⟨_, sv (conv832 _), ?_⟩) | (with_reducible refine ⟨_, sv (conv328 _), ?_⟩) | (with_reducible refine ⟨_, sv (wrap_in _ (by omega) (by omega)), ?_⟩) | (with_reducible refine ⟨_, sv (wrapu_in _ (by omega) (by omega)), ?_⟩) | (with_reducible refine ⟨_, sv (wrap8_in _ (by omega) (by omega)), ?_⟩) | refine ⟨_, rfl, ?_⟩ | refine And.intro (show okDraw _ _ = true by kernel_rfl) ?_ | refine And.intro (by omega) ?_))
          refine ⟨_, idx_at (by omega), ?_⟩
          refine gow0 ?_
          refine ⟨_, key_set (by omega) _, ?_⟩
          refine gow0 ?_
          exact ⟨i + 1, by show i + 1 ≤ 32; omega, by show 32 - (i + 1) < 32 - i; omega, (vm [(0, _), (1, _), (2, _)] [])⟩
        · have hi' : i = 32 := by have := of_decide_eq_false hc; omega
          subst hi'
          refine gow0 ?_
          rfl
end Go.Proofs.Ytplkofafnbfkmaa
/- The numbers from which the statements make their inputs. -/
namespace Go.Proofs.Ytplkofafnbfkmaa
open Go.RowKit
variable {G : GS}
theorem place_m (x n : Int) (hn : 0 < n) (hn2 : n < 9223372036854775808) : SemC Try.prog G 19 [.int .i64 x, .int .i64 n] (.int .i64 (x % n)) := by
  have h := emod_of x n hn
  have h1 : -9223372036854775808 ≤ x.tmod n + n ∧ x.tmod n + n < 9223372036854775808 ∨ ¬ x.tmod n < 0 := by
    have := Int.lt_tmod_of_pos x hn
    omega
  refine semC_of_vc seat Try.func19 rfl rfl (Nat.le_of_ble_eq_true rfl) (Nat.le_of_ble_eq_true rfl) (N := 14) rfl ?_
  refine ⟨by omega, _, rfl, ?_⟩
  refine ⟨fun hx => ?_, fun hx => ?_⟩
  · have hx := of_decide_eq_true hx
    rw [if_pos hx] at h
    refine ⟨_, sv (wrap_in _ (by omega) (by omega)), ?_⟩
    exact congrArg (MV.int .i64) h
  · have hx := of_decide_eq_false hx
    rw [if_neg hx] at h
    exact congrArg (MV.int .i64) h
/-- What the N-th number is, placed below n. -/
def nextV (L : List Int) (N : Nat) (n : Int) : Int := (L[N]?.getD 0) % n
def numB (L : List Int) (N : Nat) : VM := [(0, ⟨56, 2, false, 0, [.st [intsM L, .int .i64 N]]⟩)]
abbrev numP : MV := .ptr 0 2 0 0 []
theorem next_r (L : List Int) (N : Nat) (n : Int) (hn : 0 < n) (hn2 : n < 9223372036854775808) (hN : N < 4611686018427387904) :
    SemR Try.prog G 15 [numP, .int .i64 n] (numB L N) 1 (.int .i64 (nextV L N n)) (numB L (N + 1)) 1 := by
  refine semR_of_vc seat Try.func15 rfl rfl (Nat.le_of_ble_eq_true rfl) (Nat.le_of_ble_eq_true rfl) (N := 36) rfl rfl ?_
  refine ⟨[(0, false), (1, false), (2, false), (3, false), (4, false), (5, false), (6, false), (7, false), (8, false), (9, false)], ?_⟩
  refine go0 ?_
  refine ⟨fun h => ?_, fun h => ?_⟩
  · have hlt : N < L.length := by have : (N : Int) < L.length := by simpa using h
                                  omega
    refine ⟨[(0, false), (1, false), (2, false), (3, false), (4, false), (5, false), (6, false), (7, false), (8, false), (9, false), (10, false)], ?_⟩
    refine go0 ?_
    refine ⟨_, intsM_at hlt, ?_⟩
    refine go0 ?_
    refine .inl ⟨_, place_m _ _ hn hn2, ?_⟩
    refine go0 ?_
    refine ⟨[_], [], [], rfl, rfl, trivial, rfl, ⟨?_, trivial⟩, ?_⟩
    · exact ⟨congrArg (MV.int .i64) (by simp [nextV, hlt]), rfl⟩
    · exact mm
  · have hlt : ¬ N < L.length := by have : ¬ (N : Int) < L.length := by simpa using h
                                    omega
    change vC _ _ _ _ _ _ _ _ _ _ _
    refine go0 ?_
    refine .inl ⟨_, place_m _ _ hn hn2, ?_⟩
    refine go0 ?_
    refine ⟨[_], [], [], rfl, rfl, trivial, rfl, ⟨?_, trivial⟩, ?_⟩
    · exact ⟨congrArg (MV.int .i64) (by simp [nextV, hlt]), rfl⟩
    · exact mm
end Go.Proofs.Ytplkofafnbfkmaa
/- Entries, and how the statements make them. -/
namespace Go.Proofs.Ytplkofafnbfkmaa
open Go.RowKit
variable {G : GS}
theorem nextV_lt (L : List Int) (N : Nat) (n : Int) (hn : 0 < n) : 0 ≤ nextV L N n ∧ nextV L N n < n := ⟨Int.emod_nonneg _ (by omega), Int.emod_lt_of_pos _ hn⟩
def nextN (L : List Int) (N : Nat) (n : Nat) : Nat := (nextV L N n).toNat
theorem nextN_eq (L : List Int) (N n : Nat) (hn : 0 < n) : nextV L N n = (nextN L N n : Int) ∧ nextN L N n < n := by
  have := nextV_lt L N n (by omega)
  unfold nextN
  omega
/-- A number that comes next, as a natural number. -/
theorem next_n (L : List Int) (N n : Nat) (hn : 0 < n) (hn2 : n < 4611686018427387904) (hN : N < 4611686018427387904) :
    SemR Try.prog G 15 [numP, .int .i64 (n : Int)] (numB L N) 1 (.int .i64 (nextN L N n : Int)) (numB L (N + 1)) 1 := by
  have := next_r (G := G) L N n (by omega) (by omega) hN
  rw [(nextN_eq L N n hn).1] at this
  exact this
def namesL : List (List UInt8) := [[97, 110, 110], [98, 111, 98], [101, 118, 101], [122, 111, 101], [110, 101, 119], [120, 45, 49]]
def nameV (L : List Int) (N : Nat) : List UInt8 := namesL.getD (nextN L N 6) []
theorem names_at {k : Nat} (hk : k < 6) : nthM (namesL.map MV.str) (0 + k) = some (.str (namesL.getD k [])) := by
  have h6 : k = 0 ∨ k = 1 ∨ k = 2 ∨ k = 3 ∨ k = 4 ∨ k = 5 := by omega
  rcases h6 with rfl | rfl | rfl | rfl | rfl | rfl <;> rfl
theorem name_r (L : List Int) (N : Nat) (hN : N < 4611686018427387904) : SemR Try.prog G 31 [numP] (numB L N) 1 (.str (nameV L N)) (numB L (N + 1)) 1 := by
  have h6 := (nextN_eq L N 6 (by omega)).2
  refine semR_of_vc seat Try.func31 rfl rfl (Nat.le_of_ble_eq_true rfl) (Nat.le_of_ble_eq_true rfl) (N := 8) rfl rfl ?_
  refine go0 ?_
  refine .inr ⟨_, _, _, _, _, _, next_n L N 6 (by omega) (by omega) hN, [(0, 0)], [], ⟨rfl, trivial, rfl, lm, mm⟩, rfl, rfl, ?_⟩
  refine go0 ?_
  refine ⟨_, names_at h6, ?_⟩
  refine go0 ?_
  refine ⟨[_], [], [], rfl, rfl, trivial, rfl, ⟨?_, trivial⟩, ?_⟩
  · exact rv
  · exact mm
theorem from_r (L : List Int) : SemR Try.prog G 11 [intsM L] [] 0 numP (numB L 0) 1 := by
  refine semR_of_vc seat Try.func11 rfl rfl (Nat.le_of_ble_eq_true rfl) (Nat.le_of_ble_eq_true rfl) (N := 6) rfl rfl ?_
  refine go0 ?_
  refine ⟨[_], [(0, 3)], [], rfl, rfl, trivial, rfl, ⟨?_, trivial⟩, ?_⟩
  · exact rv
  · exact mm
/-- An entry. -/
structure Ent where
  key : List UInt8
  raw : List UInt8
  sender : List UInt8
  seq : Int
  gas : Int
  prio : Int
  height : Int
  time : Int
  order : Int
  peers : List Int
def entM (e : Ent) : MV := .st [keyM e.key, .sl e.raw.length (u8s e.raw), .str e.sender, .int .u64 e.seq, .int .u64 e.gas, .int .u64 e.prio, .int .i64 e.height, .int .i64 e.time, .int .i64 e.order, intsM e.peers]
def rawE (L : List Int) (N k : Nat) : List UInt8 := (List.range k).map fun i => UInt8.ofNat (nextN L (N + i) 3)
def peersE (L : List Int) (N k : Nat) : List Int := (List.range k).map fun i => 1 + (nextN L (N + i) 4 : Int)
def entryS (L : List Int) (N : Nat) : Ent × Nat :=
  let n := nextN L N 9
  let raw := rawE L (N + 1) n
  let M := N + 1 + n
  let p := nextN L (M + 7) 3
  (⟨shaS raw, raw, nameV L M, nextN L (M + 1) 4, nextN L (M + 2) 50, nextN L (M + 3) 5, nextN L (M + 4) 9, nextN L (M + 5) 30, nextN L (M + 6) 9, peersE L (M + 8) p⟩, M + 8 + p)
theorem conv8n (k : Nat) : IntKind.u8.wrap (k : Int) = ((UInt8.ofNat k).toNat : Int) := by
  rw [w8, UInt8.toNat_ofNat']
  exact (Int.natCast_emod _ 256).symm
theorem set_row {α : Type} (l : List α) (m : Nat) (z x : α) : (l ++ List.replicate (m + 1) z).set l.length x = l ++ [x] ++ List.replicate m z := by
  rw [List.set_append_right _ _ (Nat.le_refl _), Nat.sub_self, List.replicate_succ, List.set_cons_zero]; simp
theorem peersE_len (L : List Int) (N k : Nat) : ((peersE L N k).map (MV.int .i64)).length = k := by simp [peersE]
theorem peersE_succ (L : List Int) (N k : Nat) : (peersE L N k).map (MV.int .i64) ++ [.int .i64 (1 + (nextN L (N + k) 4 : Int))] = (peersE L N (k + 1)).map (MV.int .i64) := by simp [peersE, List.range_succ]
theorem rawE_len (L : List Int) (N k : Nat) : (rawE L N k).length = k := by simp [rawE]
theorem rawE_succ (L : List Int) (N k : Nat) : rawE L N (k + 1) = rawE L N k ++ [UInt8.ofNat (nextN L (N + k) 3)] := by simp [rawE, List.range_succ]
theorem mk_ok {n k : Nat} (hb : Nat.ble k 4096 = true) (h : n ≤ 1000000000) : n * k ≤ 281474976710656 := by
  have := Nat.mul_le_mul h (Nat.le_of_ble_eq_true hb)
  omega
theorem repM_u8 : ∀ (m : Nat), repM m (MV.int .u8 0) = u8s (List.replicate m 0)
  | 0 => rfl
  | m + 1 => by rw [repM, repM_u8 m]; rfl
theorem row_get (L : List Int) (N n k : Nat) (hk : k < n) : nthM (u8s (rawE L N k ++ List.replicate (n - k) 0)) (0 + k) = some (u8M 0) := by
  rw [nthM_eq, Nat.zero_add, show n - k = n - (k + 1) + 1 by omega]
  have e : (rawE L N k ++ List.replicate (n - (k + 1) + 1) 0)[k]? = some 0 := by
    rw [List.getElem?_append_right (by rw [rawE_len]; omega), rawE_len, Nat.sub_self]; rfl
  simp only [u8s, List.getElem?_map, e]
  rfl
theorem row_set (L : List Int) (N n k : Nat) (hk : k < n) : setL (u8s (rawE L N k ++ List.replicate (n - k) 0)) (0 + k) (u8M (UInt8.ofNat (nextN L (N + k) 3))) = u8s (rawE L N (k + 1) ++ List.replicate (n - (k + 1)) 0) := by
  rw [setL_eq, Nat.zero_add]
  unfold u8s
  have := set_row (rawE L N k) (n - (k + 1)) (0 : UInt8) (UInt8.ofNat (nextN L (N + k) 3))
  rw [rawE_len, show n - (k + 1) + 1 = n - k by omega] at this
  rw [rawE_succ, ← this, List.map_set]
set_option maxHeartbeats 4000000 in
set_option maxRecDepth 20000 in
theorem entry_r (L : List Int) (N : Nat) (hN : N < 4611686018427380000) : SemR Try.prog G 22 [numP] (numB L N) 1 (entM (entryS L N).1) (numB L (entryS L N).2) 1 := by
  have h9 := (nextN_eq L N 9 (by omega)).2
  unfold entryS entM
  dsimp only
  generalize hn : nextN L N 9 = n at *
  refine semR_of_vc seat Try.func22 rfl rfl (Nat.le_of_ble_eq_true rfl) (Nat.le_of_ble_eq_true rfl) (N := 58) rfl rfl ?_
  refine go0 ?_
  refine .inr ⟨_, _, _, _, _, _, next_n L N 9 (by omega) (by omega) (by omega), [(0, 0)], [], ⟨rfl, trivial, rfl, lm, mm⟩, rfl, rfl, ?_⟩
  rw [hn]
  refine go0 ?_
  refine And.intro (mk_ok (by kernel_rfl) (by omega)) ?_
  rw [repM_u8]
  refine go0 ?_
  refine ⟨Nat, fun k => [(12, .int .i64 k), (11, .int .i64 n), (3, .ms 2 1 0 n), (2, .ptr 1 41 0 0 []), (0, numP)], fun k => numB L (N + 1 + k) ++ [(1, ⟨50, 41, false, 0, [.st [keyM (List.replicate 32 0), .nils, .str [], .int .u64 0, .int .u64 0, .int .u64 0, .int .i64 0, .int .i64 0, .int .i64 0, .nils]]⟩), (2, ⟨5, 1, true, 0, u8s (rawE L (N + 1) k ++ List.replicate (n - k) 0)⟩)], 3, fun k => k ≤ n, fun k => n - k, ⟨0, Nat.zero_le _, (vm [(1, _), (2, _)] [])⟩, ?_⟩
  intro k hk
  refine ⟨fun hc => ?_, fun hc => ?_⟩
  · have hk' : k < n := by have := of_decide_eq_true hc; omega
    refine go0 ?_
    refine .inr ⟨_, _, _, _, _, _, next_n L (N + 1 + k) 3 (by omega) (by omega) (by omega), [(0, 0)], [], ⟨rfl, trivial, rfl, lm, mm⟩, rfl, rfl, ?_⟩
    (repeat ((try conv => whnf); first | (with_reducible refine ⟨_, sv (conv8n _), ?_⟩) | (with_reducible refine And.intro (Nat.zero_le _) ?_) | (with_reducible refine And.intro rfl ?_) | (with_reducible refine ⟨fun _ => ?_, fun h => Bool.noConfusion h⟩) | (with_reducible refine ⟨fun h => Bool.noConfusion h, fun _ => ?_⟩) | (with_reducible refine ⟨_, sv (add32 _ _), ?_⟩) | (with_reducible refine ⟨_, sv (xor32 _ _), ?_⟩) | (with_reducible refine ⟨_, sv (and32 _ _), ?_⟩) | (with_reducible refine ⟨_, sv (or32 _ _), ?_⟩) | (with_reducible refine ⟨_, sv (not32 _), ?_⟩) | (with_reducible refine ⟨_, sv (shlI _ _ (by omega) (by omega)), ?_⟩) | (with_reducible refine ⟨_, sv (shrI _ _ (by omega) (by omega)), ?_⟩) | (with_reducible refine ⟨_, sv (conv832 _), ?_⟩) | (with_reducible refine ⟨_, sv (conv328 _), ?_⟩) | (with_reducible refine ⟨_, sv (wrap_in _ (by omega) (by omega)), ?_⟩) | (with_reducible refine ⟨_, sv (wrapu_in _ (by omega) (by omega)), ?_⟩) | (with_reducible refine ⟨_, sv (wrap8_in _ (by omega) (by omega)), ?_⟩) | refine ⟨_, rfl, ?_⟩ | refine And.intro (show okDraw _ _ = true by kernel_rfl) ?_ | refine And.intro (by omega) ?_))
    refine ⟨_, idx_at hk', ?_⟩
    refine go0 ?_
    refine ⟨_, row_get _ _ _ _ hk', _, rfl, _, sv (row_set _ _ _ _ hk'), ?_⟩
    refine go0 ?_
    exact ⟨k + 1, by show k + 1 ≤ n; omega, by show n - (k + 1) < n - k; omega, (vm [(1, _), (2, _)] [])⟩
  · have hk' : k = n := by have := of_decide_eq_false hc; omega
    subst hk'
    dsimp only
    rw [Nat.sub_self, List.replicate_zero, List.append_nil]
    have hr := rawE_len L (N + 1) k
    generalize hraw : rawE L (N + 1) k = raw at *
    subst hr
    refine go0 ?_
    have b1 := (nextN_eq L (N + 1 + raw.length + 1) 4 (by omega)).2
    have b2 := (nextN_eq L (N + 1 + raw.length + 2) 50 (by omega)).2
    have b3 := (nextN_eq L (N + 1 + raw.length + 3) 5 (by omega)).2
    refine .inr ⟨_, _, _, _, _, _, semR_of_semC (sha_m raw (by omega)), [], [(2, raw.length)], ⟨rfl, mm, rfl, lm, mm⟩, rfl, rfl, ?_⟩
    refine go0 ?_
    refine .inr ⟨_, _, _, _, _, _, name_r L (N + 1 + raw.length) (by omega), [(0, 0)], [], ⟨rfl, trivial, rfl, lm, mm⟩, rfl, rfl, ?_⟩
    refine go0 ?_
    refine .inr ⟨_, _, _, _, _, _, next_n L (N + 1 + raw.length + 1) 4 (by omega) (by omega) (by omega), [(0, 0)], [], ⟨rfl, trivial, rfl, lm, mm⟩, rfl, rfl, ?_⟩
    refine go0 ?_
    refine .inr ⟨_, _, _, _, _, _, next_n L (N + 1 + raw.length + 2) 50 (by omega) (by omega) (by omega), [(0, 0)], [], ⟨rfl, trivial, rfl, lm, mm⟩, rfl, rfl, ?_⟩
    refine go0 ?_
    refine .inr ⟨_, _, _, _, _, _, next_n L (N + 1 + raw.length + 3) 5 (by omega) (by omega) (by omega), [(0, 0)], [], ⟨rfl, trivial, rfl, lm, mm⟩, rfl, rfl, ?_⟩
    refine go0 ?_
    refine .inr ⟨_, _, _, _, _, _, next_n L (N + 1 + raw.length + 4) 9 (by omega) (by omega) (by omega), [(0, 0)], [], ⟨rfl, trivial, rfl, lm, mm⟩, rfl, rfl, ?_⟩
    refine go0 ?_
    refine .inr ⟨_, _, _, _, _, _, next_n L (N + 1 + raw.length + 5) 30 (by omega) (by omega) (by omega), [(0, 0)], [], ⟨rfl, trivial, rfl, lm, mm⟩, rfl, rfl, ?_⟩
    refine go0 ?_
    refine .inr ⟨_, _, _, _, _, _, next_n L (N + 1 + raw.length + 6) 9 (by omega) (by omega) (by omega), [(0, 0)], [], ⟨rfl, trivial, rfl, lm, mm⟩, rfl, rfl, ?_⟩
    refine go0 ?_
    refine .inr ⟨_, _, _, _, _, _, next_n L (N + 1 + raw.length + 7) 3 (by omega) (by omega) (by omega), [(0, 0)], [], ⟨rfl, trivial, rfl, lm, mm⟩, rfl, rfl, ?_⟩
    generalize hM : N + 1 + raw.length = M at *
    have h3 := (nextN_eq L (M + 7) 3 (by omega)).2
    generalize hp : nextN L (M + 7) 3 = p at *
    refine ⟨Nat, fun k => [(6, .int .i64 ((p : Int) - k)), (5, .ptr 3 41 0 0 []), (2, .ptr 1 41 0 0 []), (0, numP)], fun k => numB L (M + 8 + k) ++ [(1, ⟨50, 41, false, 0, [.st [keyM (List.replicate 32 0), .nils, .str [], .int .u64 0, .int .u64 0, .int .u64 0, .int .i64 0, .int .i64 0, .int .i64 0, .nils]]⟩), (2, ⟨5, 1, true, raw.length, u8s raw⟩),
      (3, ⟨50, 41, false, 0, [.st [keyM (shaS raw), .ms 2 1 0 raw.length, .str (nameV L M), .int .u64 (nextN L (M + 1) 4), .int .u64 (nextN L (M + 2) 50), .int .u64 (nextN L (M + 3) 5), .int .i64 (nextN L (M + 4) 9), .int .i64 (nextN L (M + 5) 30), .int .i64 (nextN L (M + 6) 9), .ms 4 1 0 k]]⟩), (4, ⟨3, 1, true, 0, (peersE L (M + 8) k).map (.int .i64)⟩)], 5, fun k => k ≤ p, fun k => p - k, ⟨0, Nat.zero_le _, (vm [(1, _), (2, 2), (3, _)] [])⟩, ?_⟩
    intro k hk
    refine ⟨fun hc => ?_, fun hc => ?_⟩
    · have hk' : k < p := by have := of_decide_eq_true hc; omega
      refine ⟨[(0, false), (1, false), (2, false), (3, true), (4, false), (5, false), (6, false), (7, false), (8, false)], ?_⟩
      have b4 := (nextN_eq L (M + 8 + k) 4 (by omega)).2
      refine go0 ?_
      refine ⟨[0], _, _, _, _, _, next_n L (M + 8 + k) 4 (by omega) (by omega) (by omega), [(0, 0)], [], ⟨rfl, trivial, rfl, lm, mm⟩, rfl, rfl, rfl, rfl, ?_⟩
      refine go0 ?_
      (refine And.intro (Nat.le_refl _) ?_; refine ⟨_, rfl, ?_⟩; refine And.intro ⟨(peersE_len _ _ _), app_ok (by kernel_rfl) pf⟩ ?_; refine ⟨(peersE L (M + 8) (k + 1)).map (MV.int .i64), sv (peersE_succ _ _ _), k + 1, sv pf, ?_⟩)
      refine go0 ?_
      exact ⟨k + 1, by show k + 1 ≤ p; omega, by show p - (k + 1) < p - k; omega, (vm [(1, _), (2, 2), (3, _), (4, _)] [])⟩
    · have hk' : k = p := by have := of_decide_eq_false hc; omega
      subst hk'
      dsimp only
      have hpl : (peersE L (M + 8) k).length = k := by simp [peersE]
      generalize peersE L (M + 8) k = ps at *
      subst hpl
      refine go0 ?_
      refine ⟨[_], [], [(2, raw.length), (4, ps.length)], rfl, rfl, ?_, rfl, ⟨?_, trivial⟩, ?_⟩
      · exact ⟨by show raw.length ≤ (u8s raw).length; simp [u8s], by show ps.length ≤ (ps.map (MV.int .i64)).length; simp, trivial⟩
      · exact .inr ⟨_, rfl, lm⟩
      · exact mm
end Go.Proofs.Ytplkofafnbfkmaa
/- Lists of entries. -/
namespace Go.Proofs.Ytplkofafnbfkmaa
open Go.RowKit
variable {G : GS}
theorem key_conf (T : Tab) (f : Nat) (e : TypeId) (he : Tab.find T e = some (.int .u8)) : ∀ k : List UInt8, (u8s k).all (confM T (f + 1) e) = true
  | [] => rfl
  | a :: k => by
    show (confM T (f + 1) e (.int .u8 a.toNat) && (u8s k).all (confM T (f + 1) e)) = true
    rw [key_conf T f e he k]
    simp [confM, he, kid]
theorem eqMs_u8 : ∀ (a b : List UInt8), a.length = b.length → eqMs (u8s a) (u8s b) = some (decide (a = b))
  | [], [], _ => rfl
  | x :: a, y :: b, h => by
    show (match eqM (.int .u8 x.toNat) (.int .u8 y.toNat), eqMs (u8s a) (u8s b) with | some p, some q => some (p && q) | _, _ => none) = _
    rw [eqMs_u8 a b (by simpa using h)]
    have e : eqM (.int .u8 x.toNat) (.int .u8 y.toNat) = some (decide (x = y)) := by
      show some (decide ((x.toNat : Int) = (y.toNat : Int))) = _
      have : ((x.toNat : Int) = (y.toNat : Int)) ↔ x = y := by rw [Int.ofNat_inj, UInt8.toNat_inj]
      simp [this]
    rw [e]
    simp
  | [], _ :: _, h => by simp at h
  | _ :: _, [], h => by simp at h
theorem eq_key {a b : List UInt8} (h : a.length = b.length) : eqM (keyM a) (keyM b) = some (decide (a = b)) := eqMs_u8 a b h
theorem conf_key (k : List UInt8) : confM tab 9 47 (keyM k) = true := by
  have h1 : Tab.find tab 47 = some (.arr 32 5 1) := rfl
  have h2 := key_conf tab 7 5 rfl k
  unfold keyM
  rw [confM.eq_def]
  simp only [h1]
  rw [h2]; rfl
theorem eqT_key : eqT Try.prog tab 47 = true := by kernel_rfl
theorem keySide (a b : List UInt8) : eqT Try.prog tab 47 = true ∧ confM tab 9 47 (keyM a) = true ∧ confM tab 9 47 (keyM b) = true := ⟨eqT_key, conf_key a, conf_key b⟩
theorem nthm_map {α : Type} {f : α → MV} {l : List α} {k : Nat} (hk : k < l.length) : nthM (l.map f) (0 + k) = some (f l[k]) := by rw [nthM_eq, Nat.zero_add]; simp [hk]
def anyK (l : List Ent) (k : List UInt8) : Bool := l.any fun x => decide (x.key = k)
theorem anyK_succ (out : List Ent) (k : List UInt8) {j : Nat} (hj : j < out.length) : anyK (out.take (j + 1)) k = (anyK (out.take j) k || decide (out[j].key = k)) := by
  unfold anyK
  rw [List.take_succ_eq_append_getElem hj, List.any_append]; simp
def laterE (e : Ent) (n : Int) : Ent := { e with order := e.order + n }
def entriesS (L : List Int) : Nat → Nat → List Ent → List Ent × Nat
  | 0, N, out => (out, N)
  | i + 1, N, out => match anyK out (entryS L N).1.key with
    | true => entriesS L i (entryS L N).2 out
    | false => entriesS L i ((entryS L N).2 + 1) (out ++ [laterE (entryS L N).1 (out.length * nextN L (entryS L N).2 2 : Nat)])
theorem entryS_num (L : List Int) (N : Nat) : (entryS L N).2 ≤ N + 19 := by
  have h1 := (nextN_eq L N 9 (by omega)).2
  have h2 := (nextN_eq L (N + 1 + nextN L N 9 + 7) 3 (by omega)).2
  unfold entryS
  simp only
  omega
theorem entryS_key (L : List Int) (N : Nat) : (entryS L N).1.key.length = 32 := by simp only [entryS, shaS_len]
theorem entryS_order (L : List Int) (N : Nat) : 0 ≤ (entryS L N).1.order ∧ (entryS L N).1.order < 9 := by
  have := (nextN_eq L (N + 1 + nextN L N 9 + 6) 9 (by omega)).2
  unfold entryS
  simp only
  omega
theorem laterE_m (e : Ent) (h : 0 ≤ e.order ∧ e.order < 9) (a b : Nat) (ha : a < 1000) (hb : b < 2) : MV.st (setL [keyM e.key, .sl e.raw.length (u8s e.raw), .str e.sender, .int .u64 e.seq, .int .u64 e.gas, .int .u64 e.prio, .int .i64 e.height, .int .i64 e.time, .int .i64 e.order, intsM e.peers] 8 (.int .i64 (IntKind.i64.wrap (e.order + IntKind.i64.wrap ((a : Int) * (b : Int)))))) = entM (laterE e (a * b : Nat)) := by
  have h1 : a * b < 2000 := by
    have : a * b ≤ 999 * 1 := Nat.mul_le_mul (by omega) (by omega)
    omega
  have h2 : ((a : Int) * (b : Int)) = ((a * b : Nat) : Int) := by simp
  rw [h2]
  generalize a * b = q at *
  rw [wrap_in (n := (q : Int)) (by omega) (by omega), wrap_in (n := e.order + (q : Int)) (by omega) (by omega)]
  rfl
def OkE (e : Ent) : Prop := e.key.length = 32
set_option maxHeartbeats 4000000 in
set_option maxRecDepth 20000 in
theorem entries_r (L : List Int) (n : Nat) (hn : n < 1000) : SemR Try.prog G 10 [numP, .int .i64 n] (numB L 0) 1 (.sl (entriesS L (nextN L 0 (n + 1)) 1 []).1.length ((entriesS L (nextN L 0 (n + 1)) 1 []).1.map entM)) (numB L (entriesS L (nextN L 0 (n + 1)) 1 []).2) 1 := by
  have h1 := (nextN_eq L 0 (n + 1) (by omega)).2
  refine semR_of_vc seat Try.func10 rfl rfl (Nat.le_of_ble_eq_true rfl) (Nat.le_of_ble_eq_true rfl) (N := 52) rfl rfl ?_
  refine go0 ?_
  refine .inr ⟨_, _, _, _, _, _, next_n L 0 (n + 1) (by omega) (by omega) (by omega), [(0, 0)], [], ⟨rfl, trivial, rfl, lm, mm⟩, rfl, rfl, ?_⟩
  generalize hc : nextN L 0 (n + 1) = c at *
  refine ⟨Nat × Nat × List Ent, fun x => [(6, .int .i64 x.1), (5, .ms 1 41 0 x.2.2.length), (0, numP)], fun x => numB L x.2.1 ++ [(1, ⟨50, 41, true, 0, x.2.2.map entM⟩)], 2, fun x => entriesS L x.1 x.2.1 x.2.2 = entriesS L c 1 [] ∧ x.1 + x.2.2.length ≤ c ∧ x.2.1 + 20 * x.1 ≤ 1 + 20 * c ∧ ∀ e ∈ x.2.2, OkE e, fun x => x.1, ⟨(c, 1, []), ⟨rfl, by simp, by show 1 + 20 * c ≤ _; omega, by simp⟩, (vm [] [])⟩, ?_⟩
  rintro ⟨i, N, out⟩ ⟨hS, hl, hN, hok⟩
  dsimp only at hS hl hN hok ⊢
  refine ⟨fun hd => ?_, fun hd => ?_⟩
  · have hi : 0 < i := by have := of_decide_eq_true hd; omega
    obtain ⟨i, rfl⟩ : ∃ j, i = j + 1 := ⟨i - 1, by omega⟩
    have hnum := entryS_num L N
    have hkl := entryS_key L N
    have hor := entryS_order L N
    rw [entriesS] at hS
    refine go0 ?_
    refine .inr ⟨_, _, _, _, _, _, entry_r L N (by omega), [(0, 0)], [], ⟨rfl, trivial, rfl, lm, mm⟩, rfl, rfl, ?_⟩
    generalize hen : entryS L N = en at *
    obtain ⟨e, N1⟩ := en
    dsimp only at hnum hkl hor hS
    refine go0 ?_
    refine ⟨Nat, fun j => [(23, .int .i64 j), (22, .int .i64 out.length), (21, .ms 1 41 0 out.length), (8, .bool (anyK (out.take j) e.key)), (7, .ptr 2 41 0 0 []), (6, .int .i64 ((i + 1 : Nat) : Int)), (5, .ms 1 41 0 out.length), (0, numP)], fun j => numB L N1 ++ [(1, ⟨50, 41, true, 0, out.map entM⟩), (2, ⟨50, 41, false, 0, [entM e]⟩)], 3, fun j => j ≤ out.length, fun j => out.length - j, ⟨0, Nat.zero_le _, (vm [(1, _), (2, _)] [])⟩, ?_⟩
    intro j hj
    refine ⟨fun hd => ?_, fun hd => ?_⟩
    · have hj' : j < out.length := by have := of_decide_eq_true hd; omega
      have hbs := anyK_succ out e.key hj'
      have hkj : out[j].key.length = 32 := hok _ (List.getElem_mem hj')
      dsimp only
      generalize hb : anyK (out.take j) e.key = bb at *
      cases bb with
      | true =>
        refine go0 ?_
        refine ⟨_, nthm_map hj', ?_⟩
        refine go0 ?_
        exact ⟨j + 1, by show j + 1 ≤ out.length; omega, by show out.length - (j + 1) < out.length - j; omega, by
          rw [hbs]; exact (vm [(1, _), (2, _)] [])⟩
      | false =>
        refine go0 ?_
        refine ⟨_, nthm_map hj', ?_⟩
        refine go0 ?_
        refine And.intro ⟨eqT_key, conf_key _, conf_key _⟩ ?_
        refine ⟨_, eq_key (by rw [hkj, hkl]), ?_⟩
        refine go0 ?_
        refine go0 ?_
        exact ⟨j + 1, by show j + 1 ≤ out.length; omega, by show out.length - (j + 1) < out.length - j; omega, by
          rw [hbs]; exact (vm [(1, _), (2, _)] [])⟩
    · have hj' : j = out.length := by have := of_decide_eq_false hd; omega
      subst hj'
      dsimp only
      rw [List.take_length]
      refine go0 ?_
      cases ha : anyK out e.key with
      | true =>
        rw [ha] at hS
        dsimp only at hS
        refine go0 ?_
        refine go0 ?_
        exact ⟨(i, N1, out), ⟨hS, by show i + out.length ≤ c; omega, by show N1 + 20 * i ≤ 1 + 20 * c; omega, hok⟩, by show i < i + 1; omega, (vm [(1, _)] [])⟩
      | false =>
        rw [ha] at hS
        dsimp only at hS
        have h2 := (nextN_eq L N1 2 (by omega)).2
        refine go0 ?_
        refine ⟨[(0, false), (1, false), (2, false), (3, false), (4, false), (5, true), (6, false), (7, false), (8, false), (9, false)], ?_⟩
        refine go0 ?_
        refine go0 ?_
        refine ⟨[0], _, _, _, _, _, next_n L N1 2 (by omega) (by omega) (by omega), [(0, 0)], [], ⟨rfl, trivial, rfl, lm, mm⟩, rfl, rfl, rfl, rfl, ?_⟩
        refine go0 ?_
        refine go0 ?_
        (refine And.intro (Nat.le_refl _) ?_; refine ⟨_, rfl, ?_⟩; refine And.intro ⟨(by simp), app_ok (by kernel_rfl) pf⟩ ?_; refine ⟨(out ++ [laterE e (out.length * nextN L N1 2 : Nat)]).map entM, sv (by rw [List.map_append]; exact congrArg (fun x => List.map entM out ++ [x]) (laterE_m e hor _ _ (by omega) h2)), (out ++ [laterE e (out.length * nextN L N1 2 : Nat)]).length, sv pf, ?_⟩)
        refine go0 ?_
        refine go0 ?_
        refine go0 ?_
        exact ⟨(i, N1 + 1, out ++ [laterE e (out.length * nextN L N1 2 : Nat)]), ⟨hS, by show i + (out ++ [_]).length ≤ c; rw [List.length_append]; simp only [List.length_cons, List.length_nil]; omega, by show N1 + 1 + 20 * i ≤ 1 + 20 * c; omega, fun x hx => by
          rcases List.mem_append.1 hx with h | h
          · exact hok x h
          · rw [List.mem_singleton.1 h]; exact hkl⟩, by show i < i + 1; omega, (vm [(1, _)] [])⟩
  · have hi : i = 0 := by have := of_decide_eq_false hd; omega
    subst hi
    rw [entriesS] at hS
    rw [← hS]
    dsimp only
    refine go0 ?_
    refine ⟨[_], [], [(1, out.length)], rfl, rfl, ?_, rfl, ⟨?_, trivial⟩, ?_⟩
    · exact ⟨by show out.length ≤ (out.map entM).length; simp, trivial⟩
    · exact rv
    · exact mm
end Go.Proofs.Ytplkofafnbfkmaa
/- Copies of entries. -/
namespace Go.Proofs.Ytplkofafnbfkmaa
open Go.RowKit
variable {G : GS}
set_option maxHeartbeats 1000000 in
theorem clone_u8 (b : List UInt8) (hb : b.length < 536870912) : SemR Try.prog G 40 [.sl b.length (u8s b)] [] 0 (.sl b.length (u8s b)) [] 0 := by
  refine semR_of_vc seat Try.func40 rfl rfl (Nat.le_of_ble_eq_true rfl) (Nat.le_of_ble_eq_true rfl) (N := 8) rfl rfl ?_
  refine go0 ?_
  intro v hv
  cases v with
  | true =>
    have h0 := hv rfl
    have h1 : b = [] := List.length_eq_zero_iff.1 h0
    subst h1
    refine go0 ?_
    refine go0 ?_
    refine go0 ?_
    refine ⟨[_], [], [], rfl, rfl, trivial, rfl, ⟨?_, trivial⟩, ?_⟩
    · exact .inr ⟨rfl, rfl⟩
    · exact mm
  | false =>
    refine go0 ?_
    refine go0 ?_
    refine ⟨head_u8 b, ?_⟩
    refine go0 ?_
    (refine And.intro ⟨pf, app_ok (by kernel_rfl) pf⟩ ?_; refine ⟨u8s b, sv pf, b.length, sv pf, ?_⟩)
    refine go0 ?_
    refine ⟨[_], [], [(5, b.length)], rfl, rfl, ?_, rfl, ⟨?_, trivial⟩, ?_⟩
    · exact ⟨by show b.length ≤ (u8s b).length; simp [u8s], trivial⟩
    · exact rv
    · exact mm
theorem head_ints : ∀ (l : List Int), headSize (l.map (MV.int .i64)) 1 = true
  | [] => rfl
  | _ :: _ => rfl
set_option maxHeartbeats 1000000 in
theorem clone_ints (l : List Int) (hb : l.length < 536870912) : SemR Try.prog G 41 [intsM l] [] 0 (intsM l) [] 0 := by
  unfold intsM
  refine semR_of_vc seat Try.func41 rfl rfl (Nat.le_of_ble_eq_true rfl) (Nat.le_of_ble_eq_true rfl) (N := 8) rfl rfl ?_
  refine go0 ?_
  intro v hv
  cases v with
  | true =>
    have h0 := hv rfl
    have h1 : l = [] := List.length_eq_zero_iff.1 h0
    subst h1
    refine go0 ?_
    refine go0 ?_
    refine go0 ?_
    refine ⟨[_], [], [], rfl, rfl, trivial, rfl, ⟨?_, trivial⟩, ?_⟩
    · exact .inr ⟨rfl, rfl⟩
    · exact mm
  | false =>
    refine go0 ?_
    refine go0 ?_
    refine ⟨head_ints l, ?_⟩
    refine go0 ?_
    (refine And.intro ⟨pf, app_ok (by kernel_rfl) pf⟩ ?_; refine ⟨l.map (MV.int .i64), sv pf, l.length, sv pf, ?_⟩)
    refine go0 ?_
    refine ⟨[_], [], [(5, l.length)], rfl, rfl, ?_, rfl, ⟨?_, trivial⟩, ?_⟩
    · exact ⟨by show l.length ≤ (l.map (MV.int .i64)).length; simp, trivial⟩
    · exact .inr ⟨rfl, rfl, rfl, Nat.le_of_eq (Nat.zero_add _), cut_all (MV.int .i64) l⟩
    · exact mm
set_option maxHeartbeats 2000000 in
theorem own_entry (e : Ent) (hr : e.raw.length < 536870912) (hp : e.peers.length < 536870912) : SemC Try.prog G 34 [entM e] (entM e) := by
  unfold entM
  refine semC_of_vc seat Try.func34 rfl rfl (Nat.le_of_ble_eq_true rfl) (Nat.le_of_ble_eq_true rfl) (N := 12) rfl ?_
  refine go0 ?_
  refine ⟨[(0, false), (1, false), (2, true), (3, false), (4, false), (5, true), (6, false), (7, false), (8, false), (9, false)], ?_⟩
  refine go0 ?_
  refine ⟨[], _, _, _, _, _, clone_u8 e.raw hr, [], [], ⟨rfl, trivial, rfl, lm, mm⟩, rfl, rfl, rfl, rfl, ?_⟩
  refine go0 ?_
  refine ⟨[], _, _, _, _, _, clone_ints e.peers hp, [], [], ⟨rfl, trivial, rfl, lm, mm⟩, rfl, rfl, rfl, rfl, ?_⟩
  refine go0 ?_
  refine go0 ?_
  rfl
theorem ents_at {l : List Ent} {k : Nat} (hk : k < l.length) : idxL (l.map entM) l.length (k : Int) = some (entM l[k]) := index_at hk (by simp [hk])
set_option maxHeartbeats 2000000 in
theorem own_entries (l : List Ent) (hl : l.length < 1000000) (hok : ∀ e ∈ l, e.raw.length < 536870912 ∧ e.peers.length < 536870912) : SemR Try.prog G 24 [.sl l.length (l.map entM)] [] 0 (.sl l.length (l.map entM)) [] 0 := by
  refine semR_of_vc seat Try.func24 rfl rfl (Nat.le_of_ble_eq_true rfl) (Nat.le_of_ble_eq_true rfl) (N := 19) rfl rfl ?_
  refine go0 ?_
  refine ⟨Nat, fun k => [(8, .int .i64 k), (7, .int .i64 l.length), (6, .sl l.length (l.map entM)), (3, .ms 0 41 0 k)], fun k => [(0, ⟨50, 41, true, 0, (l.take k).map entM⟩)], 1, fun k => k ≤ l.length, fun k => l.length - k, ⟨0, Nat.zero_le _, (vm [] [])⟩, ?_⟩
  intro k hk
  refine ⟨fun hd => ?_, fun hd => ?_⟩
  · have hk' : k < l.length := by have := of_decide_eq_true hd; omega
    have hke := hok _ (List.getElem_mem hk')
    refine go0 ?_
    refine go0 ?_
    refine ⟨_, ents_at hk', ?_⟩
    refine go0 ?_
    refine .inl ⟨_, own_entry l[k] hke.1 hke.2, ?_⟩
    refine go0 ?_
    (refine And.intro (Nat.le_refl _) ?_; refine ⟨_, rfl, ?_⟩; refine And.intro ⟨(by simp; omega), app_ok (by kernel_rfl) pf⟩ ?_; refine ⟨(l.take (k + 1)).map entM, sv (by rw [List.take_succ_eq_append_getElem hk', List.map_append]; rfl), k + 1, sv pf, ?_⟩)
    refine go0 ?_
    refine go0 ?_
    exact ⟨k + 1, by show k + 1 ≤ l.length; omega, by show l.length - (k + 1) < l.length - k; omega, (vm [(0, _)] [])⟩
  · have hk' : k = l.length := by have := of_decide_eq_false hd; omega
    subst hk'
    dsimp only
    rw [List.take_length]
    refine go0 ?_
    refine go0 ?_
    refine ⟨[_], [], [(0, l.length)], rfl, rfl, ?_, rfl, ⟨?_, trivial⟩, ?_⟩
    · exact ⟨by show l.length ≤ (l.map entM).length; simp, trivial⟩
    · exact .inr ⟨rfl, rfl, rfl, Nat.le_of_eq (Nat.zero_add _), cut_all entM l⟩
    · exact mm
end Go.Proofs.Ytplkofafnbfkmaa
/- Small functions of the law. -/
namespace Go.Proofs.Ytplkofafnbfkmaa
open Go.RowKit
variable {G : GS}
set_option maxHeartbeats 2000000 in
theorem long_m (k : List Int) (hk : k.length ≤ 140737488355328) : SemC Try.prog G 7 [.sl 1 [intsM k]] (.bool (decide (160 < k.length))) := by
  refine semC_of_vc seat Try.func7 rfl rfl (Nat.le_of_ble_eq_true rfl) (Nat.le_of_ble_eq_true rfl) (N := 19) rfl ?_
  refine go0 ?_
  refine ⟨Nat, fun j => [(8, .int .i64 j), (7, .int .i64 1), (6, .sl 1 [intsM k]), (3, .int .i64 ((j * k.length : Nat) : Int))], fun j => [], 0, fun j => j ≤ 1, fun j => 1 - j, ⟨0, by omega, (vm [] [])⟩, ?_⟩
  intro j hj
  refine ⟨fun hd => ?_, fun hd => ?_⟩
  · have hj' : j = 0 := by have := of_decide_eq_true hd; omega
    subst hj'
    dsimp only
    rw [Nat.zero_mul]
    refine go0 ?_
    refine go0 ?_
    refine go0 ?_
    exact ⟨1, by show 1 ≤ 1; omega, by show 1 - 1 < 1 - 0; omega, (vm [] [])⟩
  · have hj' : j = 1 := by have := of_decide_eq_false hd; omega
    subst hj'
    dsimp only
    rw [Nat.one_mul]
    refine go0 ?_
    refine go0 ?_
    show MV.bool (decide ((k.length : Int) > 160)) = _
    congr 1
    exact decide_eq_decide.2 (by omega)
end Go.Proofs.Ytplkofafnbfkmaa
/- Bytes of entries. -/
namespace Go.Proofs.Ytplkofafnbfkmaa
open Go.RowKit
variable {G : GS}
def bytesS (l : List Ent) : Nat := (l.map fun e => e.raw.length).sum
theorem bytesS_succ (l : List Ent) {k : Nat} (hk : k < l.length) : bytesS (l.take (k + 1)) = bytesS (l.take k) + l[k].raw.length := by
  unfold bytesS
  rw [List.take_succ_eq_append_getElem hk, List.map_append, List.sum_append]; simp
theorem bytesS_le (l : List Ent) (B : Nat) (hok : ∀ e ∈ l, e.raw.length ≤ B) (k : Nat) : bytesS (l.take k) ≤ B * k := by
  induction k with
  | zero => simp [bytesS]
  | succ k ih =>
    rcases Nat.lt_or_ge k l.length with h | h
    · rw [bytesS_succ l h, Nat.mul_succ]
      have := hok _ (List.getElem_mem h)
      omega
    · rw [List.take_of_length_le (by omega)]
      rw [List.take_of_length_le h] at ih
      rw [Nat.mul_succ]; omega
set_option maxHeartbeats 2000000 in
theorem bytes_m (l : List Ent) (hl : l.length < 1000000) (hok : ∀ e ∈ l, e.raw.length ≤ 1000000) : SemC Try.prog G 20 [.sl l.length (l.map entM)] (.int .i64 (bytesS l)) := by
  refine semC_of_vc seat Try.func20 rfl rfl (Nat.le_of_ble_eq_true rfl) (Nat.le_of_ble_eq_true rfl) (N := 19) rfl ?_
  refine go0 ?_
  refine ⟨Nat, fun k => [(8, .int .i64 k), (7, .int .i64 l.length), (6, .sl l.length (l.map entM)), (3, .int .i64 (bytesS (l.take k)))], fun k => [], 0, fun k => k ≤ l.length, fun k => l.length - k, ⟨0, Nat.zero_le _, (vm [] [])⟩, ?_⟩
  intro k hk
  refine ⟨fun hd => ?_, fun hd => ?_⟩
  · have hk' : k < l.length := by have := of_decide_eq_true hd; omega
    have hke := hok _ (List.getElem_mem hk')
    have hb := bytesS_le l 1000000 hok k
    have hs := bytesS_succ l hk'
    dsimp only
    generalize hv : bytesS (l.take k) = v at *
    refine go0 ?_
    refine go0 ?_
    refine ⟨_, ents_at hk', ?_⟩
    refine go0 ?_
    refine go0 ?_
    refine go0 ?_
    exact ⟨k + 1, by show k + 1 ≤ l.length; omega, by show l.length - (k + 1) < l.length - k; omega, by rw [hs]; exact (vm [] [])⟩
  · have hk' : k = l.length := by have := of_decide_eq_false hd; omega
    subst hk'
    dsimp only
    rw [List.take_length]
    refine go0 ?_
    refine go0 ?_
    rfl
end Go.Proofs.Ytplkofafnbfkmaa
/- The same keys. -/
namespace Go.Proofs.Ytplkofafnbfkmaa
open Go.RowKit
variable {G : GS}
theorem keys_at {l : List (List UInt8)} {k : Nat} (hk : k < l.length) : idxL (l.map keyM) l.length (k : Int) = some (keyM l[k]) := index_at hk (by simp [hk])
set_option maxHeartbeats 2000000 in
theorem sameKeys_m (a b : List (List UInt8)) (ha : a.length < 1000000) (hb : b.length < 1000000) (hak : ∀ x ∈ a, x.length = 32) (hbk : ∀ x ∈ b, x.length = 32) : SemC Try.prog G 18 [.sl a.length (a.map keyM), .sl b.length (b.map keyM)] (.bool (decide (a = b))) := by
  refine semC_of_vc seat Try.func18 rfl rfl (Nat.le_of_ble_eq_true rfl) (Nat.le_of_ble_eq_true rfl) (N := 26) rfl ?_
  refine go0 ?_
  refine ⟨fun h => ?_, fun h => ?_⟩
  · have hne : a ≠ b := fun he => by subst he; simp at h
    rw [decide_eq_false hne]
    refine go0 ?_
    refine go0 ?_
    rfl
  · have hlen : b.length = a.length := by
      have : (a.length : Int) = b.length := by simpa using h
      omega
    refine go0 ?_
    refine ⟨Nat, fun k => [(13, .int .i64 k), (12, .int .i64 a.length), (1, .sl b.length (b.map keyM)), (0, .sl a.length (a.map keyM))], fun k => [], 0, fun k => k ≤ a.length ∧ a.take k = b.take k, fun k => a.length - k, ⟨0, ⟨Nat.zero_le _, rfl⟩, (vm [] [])⟩, ?_⟩
    rintro k ⟨hk, heq⟩
    refine ⟨fun hd => ?_, fun hd => ?_⟩
    · have hk' : k < a.length := by have := of_decide_eq_true hd; omega
      have hkb : k < b.length := by omega
      have h1 := hak _ (List.getElem_mem hk')
      have h2 := hbk _ (List.getElem_mem hkb)
      refine go0 ?_
      refine ⟨[(0, false), (1, false), (2, false), (3, false), (4, false), (5, false), (6, false), (7, false), (8, false)], ?_⟩
      refine go0 ?_
      refine go0 ?_
      refine ⟨_, keys_at hk', ?_⟩
      refine go0 ?_
      refine go0 ?_
      refine ⟨_, keys_at hkb, ?_⟩
      refine go0 ?_
      refine go0 ?_
      refine And.intro ⟨eqT_key, conf_key _, conf_key _⟩ ?_
      refine ⟨_, eq_key (by rw [h1, h2]), ?_⟩
      refine go0 ?_
      refine go0 ?_
      refine go0 ?_
      refine ⟨fun hx => ?_, fun hx => ?_⟩
      · have hn : a[k] ≠ b[k] := by simpa using hx
        have hne : a ≠ b := fun he => hn (by subst he; rfl)
        rw [decide_eq_false hne]
        refine go0 ?_
        refine go0 ?_
        rfl
      · have he : a[k] = b[k] := by simpa using hx
        refine go0 ?_
        refine go0 ?_
        exact ⟨k + 1, ⟨by show k + 1 ≤ a.length; omega, by
          show a.take (k + 1) = b.take (k + 1)
          rw [List.take_succ_eq_append_getElem hk', List.take_succ_eq_append_getElem hkb, heq, he]⟩, by show a.length - (k + 1) < a.length - k; omega, (vm [] [])⟩
    · have hk' : k = a.length := by have := of_decide_eq_false hd; omega
      subst hk'
      have he : a = b := by rw [List.take_length, ← hlen, List.take_length] at heq; exact heq
      rw [decide_eq_true he]
      refine go0 ?_
      refine go0 ?_
      rfl
end Go.Proofs.Ytplkofafnbfkmaa
/- The stable sort, in plain words. -/
namespace Go.Proofs.Ytplkofafnbfkmaa
/-- An entry, and where it stood. -/
abbrev TE := Ent × Nat
def ltT (x y : TE) : Prop := x.1.prio < y.1.prio ∨ (x.1.prio = y.1.prio ∧ (y.1.order < x.1.order ∨ (x.1.order = y.1.order ∧ x.2 < y.2)))
instance (x y : TE) : Decidable (ltT x y) := by unfold ltT; infer_instance
def befE (x y : Ent) : Bool := decide (x.prio < y.prio ∨ (x.prio = y.prio ∧ y.order < x.order))
theorem ltT_trans {x y z : TE} (h : ltT x y) (k : ltT y z) : ltT x z := by unfold ltT at *; omega
theorem ltT_asymm {x y : TE} (h : ltT x y) (k : ltT y x) : False := by unfold ltT at *; omega
theorem befE_t {x y : TE} (h : befE x.1 y.1 = true) : ltT x y := by unfold befE at h; have := of_decide_eq_true h; unfold ltT; omega
theorem befE_f {x y : TE} (h : befE x.1 y.1 = false) (hn : y.2 < x.2) : ltT y x := by unfold befE at h; have := of_decide_eq_false h; unfold ltT; omega
theorem befE_iff {x y : TE} (hn : y.2 < x.2) : (befE x.1 y.1 = true) ↔ ltT x y :=
  ⟨befE_t, fun h => by
    cases hb : befE x.1 y.1 with
    | true => rfl
    | false => exact (ltT_asymm h (befE_f hb hn)).elim⟩
def insT (x : TE) : List TE → List TE
  | [] => [x]
  | y :: l => if ltT x y then x :: y :: l else y :: insT x l
def srt : List TE → List TE
  | [] => []
  | x :: l => insT x (srt l)
abbrev SrtT (l : List TE) : Prop := l.Pairwise ltT
abbrev TagsNe (l : List TE) : Prop := l.Pairwise fun x y => x.2 ≠ y.2
theorem insT_perm (x : TE) : ∀ l, (insT x l).Perm (x :: l)
  | [] => .refl _
  | y :: l => by
    unfold insT
    split
    · exact .refl _
    · exact ((insT_perm x l).cons y).trans (.swap x y l)
theorem srt_perm : ∀ l, (srt l).Perm l
  | [] => .refl _
  | x :: l => (insT_perm x (srt l)).trans ((srt_perm l).cons x)
theorem insT_srt (x : TE) : ∀ l, SrtT l → (∀ y ∈ l, x.2 ≠ y.2) → SrtT (insT x l)
  | [], _, _ => by simp [insT]
  | y :: l, h, hn => by
    obtain ⟨h1, h2⟩ := List.pairwise_cons.1 h
    unfold insT
    split
    · rename_i hlt
      exact List.pairwise_cons.2 ⟨fun z hz => by
        rcases List.mem_cons.1 hz with rfl | hz
        · exact hlt
        · exact ltT_trans hlt (h1 z hz), h⟩
    · rename_i hlt
      refine List.pairwise_cons.2 ⟨fun z hz => ?_, insT_srt x l h2 fun z hz => hn z (by simp [hz])⟩
      rcases List.mem_cons.1 ((insT_perm x l).mem_iff.1 hz) with rfl | hz
      · have := hn y (by simp)
        unfold ltT at hlt ⊢
        omega
      · exact h1 z hz
theorem srt_srt : ∀ l, TagsNe l → SrtT (srt l)
  | [], _ => .nil
  | x :: l, h => by
    obtain ⟨h1, h2⟩ := List.pairwise_cons.1 h
    exact insT_srt x _ (srt_srt l h2) fun y hy => h1 y ((srt_perm l).mem_iff.1 hy)
theorem srt_uniq : ∀ {l1 l2 : List TE}, l1.Perm l2 → SrtT l1 → SrtT l2 → l1 = l2
  | [], l2, h, _, _ => h.nil_eq
  | x :: l1, [], h, _, _ => h.eq_nil
  | x :: l1, y :: l2, h, h1, h2 => by
    obtain ⟨a1, a2⟩ := List.pairwise_cons.1 h1
    obtain ⟨b1, b2⟩ := List.pairwise_cons.1 h2
    by_cases hxy : x = y
    · subst hxy
      rw [srt_uniq (List.Perm.cons_inv h) a2 b2]
    · have hx : x ∈ l2 := by
        rcases List.mem_cons.1 (h.mem_iff.1 (List.mem_cons_self ..)) with h | h
        · exact absurd h hxy
        · exact h
      have hy : y ∈ l1 := by
        rcases List.mem_cons.1 (h.mem_iff.2 (List.mem_cons_self ..)) with h | h
        · exact absurd h.symm hxy
        · exact h
      exact (ltT_asymm (a1 y hy) (b1 x hx)).elim
theorem TagsNe.perm {l1 l2 : List TE} (h : l1.Perm l2) (hn : TagsNe l1) : TagsNe l2 := h.pairwise hn fun hxy => Ne.symm hxy
theorem srt_of {s l : List TE} (hp : s.Perm l) (hs : SrtT s) (hn : TagsNe l) : s = srt l := srt_uniq (hp.trans (srt_perm l).symm) hs (srt_srt l hn)
theorem srt_congr {s l : List TE} (hp : s.Perm l) (hn : TagsNe l) : srt s = srt l := srt_of ((srt_perm s).trans hp) (srt_srt s (hn.perm hp.symm)) hn
/-- Two elements change places. -/
def swp {α : Type} (t : List α) (i j : Nat) : List α := match t[i]?, t[j]? with
  | some x, some y => (t.set i y).set j x
  | _, _ => t
theorem swp_len {α : Type} (t : List α) (i j : Nat) : (swp t i j).length = t.length := by
  unfold swp; split <;> simp
theorem swp_at {α : Type} {t : List α} {i j : Nat} (hi : i < t.length) (hj : j < t.length) : swp t i j = (t.set i t[j]).set j t[i] := by
  unfold swp; simp [hi, hj]
theorem set_mid {α : Type} (X : List α) (a b : α) (Z : List α) : (X ++ a :: Z).set X.length b = X ++ b :: Z := by
  rw [List.set_append_right _ _ (Nat.le_refl _), Nat.sub_self, List.set_cons_zero]
theorem swp_app {α : Type} (X : List α) (a : α) (Y : List α) (b : α) (Z : List α) : swp (X ++ a :: (Y ++ b :: Z)) X.length (X.length + 1 + Y.length) = X ++ b :: (Y ++ a :: Z) := by
  have h1 : (X ++ a :: (Y ++ b :: Z))[X.length]? = some a := by simp
  have h2 : (X ++ a :: (Y ++ b :: Z))[X.length + 1 + Y.length]? = some b := by
    rw [List.getElem?_append_right (by omega), show X.length + 1 + Y.length - X.length = Y.length + 1 by omega]; simp
  unfold swp
  rw [h1, h2]
  show ((X ++ a :: (Y ++ b :: Z)).set X.length b).set (X.length + 1 + Y.length) a = _
  rw [set_mid]
  have := set_mid (X ++ b :: Y) b a Z
  simp only [List.length_append, List.length_cons, List.append_assoc, List.cons_append] at this
  rw [← this]
  congr 1
  omega
theorem swp_app' {α : Type} {X Y Z : List α} {a b : α} {i j : Nat} (hi : X.length = i) (hj : i + 1 + Y.length = j) : swp (X ++ a :: (Y ++ b :: Z)) i j = X ++ b :: (Y ++ a :: Z) := by
  subst hi; subst hj; exact swp_app ..
theorem swp_comm {α : Type} (t : List α) (i j : Nat) : swp t i j = swp t j i := by
  unfold swp
  cases hi : t[i]? with
  | none => cases hj : t[j]? <;> rfl
  | some x =>
    cases hj : t[j]? with
    | none => rfl
    | some y =>
      show (t.set i y).set j x = (t.set j x).set i y
      by_cases h : i = j
      · subst h
        rw [hi] at hj
        injection hj with hj
        subst hj
        rfl
      · rw [List.set_comm _ _ h]
/-- Cut in two. -/
theorem cut2 {α : Type} (l : List α) {k : Nat} (h : k ≤ l.length) : ∃ A B, l = A ++ B ∧ A.length = k := ⟨l.take k, l.drop k, (List.take_append_drop k l).symm, by simp [h]⟩
theorem cut1 {α : Type} (l : List α) {k : Nat} (h : k < l.length) : ∃ A a B, l = A ++ a :: B ∧ A.length = k := ⟨l.take k, l[k], l.drop (k + 1), by rw [List.getElem_cons_drop, List.take_append_drop], by simp; omega⟩
theorem cutL' {α : Type} (l : List α) {k : Nat} (h : l.length = k + 1) : ∃ A a, l = A ++ [a] ∧ A.length = k := by
  obtain ⟨A, a, B, rfl, hA⟩ := cut1 l (k := k) (by omega)
  have : B = [] := List.length_eq_zero_iff.1 (by simp at h; omega)
  subst this
  exact ⟨A, a, rfl, hA⟩
theorem get_mid {α : Type} {X Z : List α} {a : α} {i : Nat} (hi : X.length = i) {h : i < (X ++ a :: Z).length} : (X ++ a :: Z)[i] = a := by
  subst hi; simp
/-- Where entries stood. -/
def tag : Nat → List Ent → List TE
  | _, [] => []
  | k, e :: l => (e, k) :: tag (k + 1) l
theorem tag_len : ∀ (k : Nat) (l : List Ent), (tag k l).length = l.length
  | _, [] => rfl
  | k, _ :: l => by simp [tag, tag_len]
theorem tag_fst : ∀ (k : Nat) (l : List Ent), (tag k l).map (·.1) = l
  | _, [] => rfl
  | k, e :: l => by simp [tag, tag_fst]
theorem tag_ge : ∀ (k : Nat) (l : List Ent), ∀ x ∈ tag k l, k ≤ x.2
  | _, [], _, h => by simp [tag] at h
  | k, e :: l, x, h => by
    rcases List.mem_cons.1 h with rfl | h
    · exact Nat.le_refl _
    · have := tag_ge (k + 1) l x h; omega
theorem tag_lt : ∀ (k : Nat) (l : List Ent), (tag k l).Pairwise fun x y => x.2 < y.2
  | _, [] => .nil
  | k, _e :: l => List.pairwise_cons.2 ⟨fun x hx => tag_ge (k + 1) l x hx, tag_lt (k + 1) l⟩
def insE (e : Ent) : List Ent → List Ent
  | [] => [e]
  | y :: l => bif befE y e then y :: insE e l else e :: y :: l
/-- In the order in which they leave: those that came last stand first. -/
def ordE : List Ent → List Ent
  | [] => []
  | e :: l => insE e (ordE l)
theorem insT_fst (e : Ent) (k : Nat) : ∀ (l : List TE), (∀ y ∈ l, k < y.2) → (insT (e, k) l).map (·.1) = insE e (l.map (·.1))
  | [], _ => rfl
  | y :: l, h => by
    have hk := h y (by simp)
    unfold insT
    rw [List.map_cons, insE]
    cases hb : befE y.1 e with
    | true =>
      have : ltT y (e, k) := befE_t (x := y) (y := (e, k)) hb
      rw [if_neg fun h => ltT_asymm h this, List.map_cons, insT_fst e k l fun z hz => h z (by simp [hz])]
      rfl
    | false =>
      have : ltT (e, k) y := befE_f (x := y) (y := (e, k)) hb hk
      rw [if_pos this]; rfl
theorem srt_tag : ∀ (k : Nat) (l : List Ent), (srt (tag k l)).map (·.1) = ordE l
  | _, [] => rfl
  | k, e :: l => by
    show (insT (e, k) (srt (tag (k + 1) l))).map (·.1) = insE e (ordE l)
    rw [insT_fst e k _ fun y hy => tag_ge (k + 1) l y ((srt_perm _).mem_iff.1 hy), srt_tag]
theorem ne_of_lt {l : List TE} (h : l.Pairwise fun x y => x.2 < y.2) : TagsNe l := h.imp fun h => Nat.ne_of_lt h
end Go.Proofs.Ytplkofafnbfkmaa
/- What the library does at once when entries are sorted. -/
namespace Go.Proofs.Ytplkofafnbfkmaa
open Go.RowKit Go.Lib
variable {G : GS}
def teM (x : TE) : MV := entM x.1
def rowB (t : List TE) : MB := ⟨50, 41, true, 0, t.map teM⟩
/-- The slice that is sorted, in its variable, and its row. -/
def sortB (n : Nat) (t : List TE) : VM := [(0, ⟨22, 1, false, 0, [.ms 1 41 0 n]⟩), (1, rowB t)]
noncomputable def hndM (t : Nat) : MV := .gp Try.prog.globals.size t
theorem rowAt (t : List TE) {k : Nat} (hk : k < t.length) : nthM (t.map teM) k = some (entM t[k].1) := by rw [nthM_eq]; simp [hk, teM]
theorem row_put (t : List TE) {k : Nat} (e : TE) : setL (t.map teM) k (entM e.1) = (t.set k e).map teM := by rw [setL_eq, List.map_set]; rfl
theorem vget_new (M : VM) (c : Nat) (b : MB) : fput (VM.get M) c b = VM.get ((c, b) :: M) := by
  funext x
  show (if x = c then some b else VM.get M x) = bif Nat.beq c x then some b else VM.get M x
  by_cases h : x = c
  · subst h
    rw [Nat.beq_refl x]; simp
  · have : Nat.beq c x = false := by
      rw [← Bool.not_eq_true]; intro h2; exact h (Nat.eq_of_beq_eq_true h2).symm
    simp [h, this]
theorem appF_row (n : Nat) (t : List TE) {k : Nat} (e : TE) : Dl.appF 2 (.upd 1 ((t.set k e).map teM)) (VM.get (sortB n t)) = VM.get (sortB n (t.set k e)) := by
  have h : Dl.appF 2 (.upd 1 ((t.set k e).map teM)) (VM.get (sortB n t)) = fput (VM.get (sortB n t)) 1 (rowB (t.set k e)) := rfl
  rw [h]
  funext x
  match x with
  | 0 => simp [fput, VM.get, sortB]
  | 1 => rfl
  | x + 2 => rfl
variable {w : World} {P : Prot} {adr : Adr}
theorem swp_load (n : Nat) (t : List TE) {k g : Nat} (hk : k < t.length) (hg : adr 1 = some g) (hI : InvM w P adr (VM.get (sortB n t))) :
    ∃ v, (loadVar 50 ⟨g, k * 41 + 0, none⟩).run Try.prog w = .ok v w ∧ RepV w P adr (entM t[k].1) v := by
  obtain ⟨r, v, hK, hrun, hrep⟩ := oLoad_ok (Pg := Try.prog) (T := tab) (K := fun x => x = (entM t[k].1, .none)) (t := 50) (p := .ptr 1 41 k 0 []) (m := VM.get (sortB n t)) seat.tab ⟨_, rowAt t hk, _, rfl, rfl⟩ (.val [_] (.ptr g hg)) hI
  injection hK with hK
  subst hK
  exact ⟨v, hrun, hrep⟩
theorem swp_store (n : Nat) (t : List TE) (e : TE) {k g : Nat} {v : Value} (hk : k < t.length) (hg : adr 1 = some g) (hI : InvM w P adr (VM.get (sortB n t))) (hv : RepV w P adr (entM e.1) v) :
    ∃ w', (storeVar 50 ⟨g, k * 41 + 0, none⟩ v).run Try.prog w = .ok () w' ∧ InvM w' P adr (VM.get (sortB n (t.set k e))) ∧ Keep w w' P P adr adr ∧ Since (fun b => ∃ c, adr c = some b) w w' := by
  obtain ⟨δ, w', hK, hrun, h1, h2, h3⟩ := oStore_ok0 (Pg := Try.prog) (T := tab) (K := fun x => x = (.undef, .upd 1 ((t.set k e).map teM))) (t := 50) (p := .ptr 1 41 k 0 []) (q := entM e.1) (m := VM.get (sortB n t)) seat.tab ⟨Nat.zero_le _, _, rowAt t hk, _, rfl, _, congrArg some (row_put t e), rfl⟩ (.val [_] (.ptr g hg)) hv hI 2
  injection hK with _ hK
  subst hK
  rw [appF_row] at h1
  exact ⟨w', hrun, h1, h2, h3⟩
theorem swap_p (n : Nat) (t : List TE) (ht : t.length = n) (i j : Nat) (hi : i < n) (hj : j < n) : SemP Try.prog G 50 [.int .i64 i, .int .i64 j, .ms 1 41 0 n, hndM 50] (sortB n t) 2 (.tup []) (sortB n (swp t i j)) 2 := by
  subst ht
  intro w P adr vals hg hI hn hL hargs
  cases hargs with | cons a1 hargs => cases hargs with | cons a2 hargs => cases hargs with | cons a3 hargs => cases hargs with | cons a4 hargs =>
  cases hargs
  have e1 := a1.int_
  have e2 := a2.int_
  have e4 := a4.gp_
  subst e1 e2 e4
  rcases a3.ms_ with ⟨_, _, h0⟩ | ⟨g, o, cap, h1, rfl, h2, h3, h4, _⟩
  · omega
  have h2 : o = 0 := by simpa using h2 (.inr rfl)
  subst h2
  obtain ⟨x, lx, rx⟩ := swp_load _ t hi h1 hI
  obtain ⟨y, ly, ry⟩ := swp_load _ t hj h1 hI
  obtain ⟨w1, s1, i1, k1, c1⟩ := swp_store _ t t[j] hi h1 hI ry
  obtain ⟨w2, s2, i2, k2, c2⟩ := swp_store _ (t.set i t[j]) t[i] (k := j) (by simpa using hj) h1 i1 (rx.keep k1)
  rw [← swp_at hi hj] at i2
  refine ⟨.tuple #[], w2, ?_, _, rfl, P, adr, i2, .tup [] rfl (fun j m u h => by simp at h), k1.trans k2, fun _ _ => rfl, hn, fun c g hc => .inr ⟨c, hc⟩, fun b o ho => .inl ho, c1.step c2 fun b h => .inl h⟩
  have hf : (callFunc 50 #[.int .i64 i, .int .i64 j, .slice (some ⟨g, 0, none⟩) t.length cap, typeHandle Try.prog 50]).run Try.prog w = _ :=
    run_callFunc_extern Try.func50 (by kernel_rfl) (by kernel_rfl) (by kernel_rfl) (e := Extern.ReflectliteSwapper.swap false) (by kernel_rfl) _ w
  refine hf.trans ?_
  have i0 : ¬ ((i : Int) < 0) := by omega
  have i1 : ¬ ((i : Int) ≥ t.length) := by omega
  have j0 : ¬ ((j : Int) < 0) := by omega
  have j1 : ¬ ((j : Int) ≥ t.length) := by omega
  have hs : ∀ w, (sizeOf 50).run Try.prog w = .ok 41 w := fun w => by kernel_rfl
  simp only [Nat.add_zero] at lx ly s1 s2
  have p1 : (⟨g, 0, none⟩ : Addr).add (i * 41) = ⟨g, i * 41, none⟩ := by simp [Addr.add_lit]
  have p2 : (⟨g, 0, none⟩ : Addr).add (j * 41) = ⟨g, j * 41, none⟩ := by simp [Addr.add_lit]
  rw [rl_swap]
  simp [i0, i1, j0, j1, Extern.Rtype.ofHandle, handleType, typeHandle, Extern.ReflectliteSwapper.exchange, hs, p1, p2, lx, ly, s1, s2, Result.andThen]
end Go.Proofs.Ytplkofafnbfkmaa
/- Ranges that change places. -/
namespace Go.Proofs.Ytplkofafnbfkmaa
open Go.RowKit
variable {G : GS}
theorem rowAt0 (t : List TE) {k : Nat} (hk : k < t.length) : nthM (t.map teM) (0 + k) = some (entM t[k].1) := by rw [Nat.zero_add]; exact rowAt t hk
set_option maxHeartbeats 1000000 in
theorem less_r (n : Nat) (t : List TE) (ht : t.length = n) (i j : Nat) (hi : i < n) (hj : j < n) : SemR Try.prog G 27 [.int .i64 i, .int .i64 j, .ptr 0 1 0 0 []] (sortB n t) 2 (.bool (befE (t[i]'(by omega)).1 (t[j]'(by omega)).1)) (sortB n t) 2 := by
  have hi' : i < t.length := by omega
  have hj' : j < t.length := by omega
  unfold befE
  refine semR_of_vc seat Try.func27 rfl rfl (Nat.le_of_ble_eq_true rfl) (Nat.le_of_ble_eq_true rfl) (N := 39) rfl rfl ?_
  refine go0 ?_
  refine ⟨[(0, false), (1, false), (2, false), (3, false), (4, false), (5, false), (6, false), (7, false), (8, false), (9, false), (10, false)], ?_⟩
  refine go0 ?_
  refine ⟨_, rowAt0 t hi', ?_⟩
  refine go0 ?_
  refine ⟨_, rowAt0 t hj', ?_⟩
  refine go0 ?_
  refine ⟨fun h => ?_, fun h => ?_⟩
  · refine go0 ?_
    refine ⟨[(0, false), (1, false), (2, false), (3, false), (4, false), (5, false), (6, false), (7, false), (8, false), (9, false), (10, false), (11, false)], ?_⟩
    refine go0 ?_
    refine ⟨_, rowAt0 t hi', ?_⟩
    refine go0 ?_
    refine ⟨_, rowAt0 t hj', ?_⟩
    refine go0 ?_
    refine ⟨[_], [], [], rfl, rfl, trivial, rfl, ⟨?_, trivial⟩, ?_⟩
    · have hp : t[i].1.prio ≠ t[j].1.prio := by simpa using h
      exact ⟨congrArg MV.bool (decide_eq_decide.2 (by omega)), rfl⟩
    · exact mm
  · refine go0 ?_
    refine ⟨[(0, false), (1, false), (2, false), (3, false), (4, false), (5, false), (6, false), (7, false), (8, false), (9, false), (10, false), (11, false)], ?_⟩
    refine go0 ?_
    refine ⟨_, rowAt0 t hi', ?_⟩
    refine go0 ?_
    refine ⟨_, rowAt0 t hj', ?_⟩
    refine go0 ?_
    refine ⟨[_], [], [], rfl, rfl, trivial, rfl, ⟨?_, trivial⟩, ?_⟩
    · have hp : t[i].1.prio = t[j].1.prio := by simpa using h
      exact ⟨congrArg MV.bool (decide_eq_decide.2 (by omega)), rfl⟩
    · exact mm
noncomputable def dataM (n : Nat) : MV := .st [.fn 27 [.ptr 0 1 0 0 []], .fn 50 [.ms 1 41 0 n, hndM 50]]
theorem swpR_step (P A Q B S : List TE) (h : B.length = A.length) (i : Nat) (hi : i < A.length) :
    swp (P ++ ((B.take i ++ A.drop i) ++ (Q ++ ((A.take i ++ B.drop i) ++ S)))) (P.length + i) (P.length + A.length + Q.length + i) = P ++ ((B.take (i + 1) ++ A.drop (i + 1)) ++ (Q ++ ((A.take (i + 1) ++ B.drop (i + 1)) ++ S))) := by
  have hb : i < B.length := by omega
  have e1 := List.drop_eq_getElem_cons hi
  have e2 := List.drop_eq_getElem_cons hb
  have := swp_app' (X := P ++ B.take i) (Y := A.drop (i + 1) ++ (Q ++ A.take i)) (Z := B.drop (i + 1) ++ S) (a := A[i]) (b := B[i]) (i := P.length + i) (j := P.length + A.length + Q.length + i) (by simp; omega) (by simp; omega)
  rw [e1, e2, List.take_succ_eq_append_getElem hi, List.take_succ_eq_append_getElem hb]
  simp only [List.append_assoc, List.cons_append, List.nil_append] at this ⊢
  exact this
set_option maxHeartbeats 1000000 in
theorem swapRange_r (n : Nat) (hN : n < 4611686018427387904) (P A Q B S : List TE) (hB : B.length = A.length) (x y k : Nat) (hx : P.length = x) (hy : x + k + Q.length = y) (hk : A.length = k) (hn : y + k + S.length = n) :
    SemR Try.prog G 56 [dataM n, .int .i64 x, .int .i64 y, .int .i64 k] (sortB n (P ++ (A ++ (Q ++ (B ++ S))))) 2 (.tup []) (sortB n (P ++ (B ++ (Q ++ (A ++ S))))) 2 := by
  unfold dataM
  refine semR_of_vc seat Try.func56 rfl rfl (Nat.le_of_ble_eq_true rfl) (Nat.le_of_ble_eq_true rfl) (N := 23) rfl rfl ?_
  refine go0 ?_
  refine ⟨Nat, fun i => [(8, .int .i64 i), (4, .ptr 2 2 0 0 []), (3, .int .i64 k), (2, .int .i64 y), (1, .int .i64 x)], fun i => sortB n (P ++ ((B.take i ++ A.drop i) ++ (Q ++ ((A.take i ++ B.drop i) ++ S)))) ++ [(2, ⟨76, 2, false, 0, [dataM n]⟩)], 3, fun i => i ≤ k, fun i => k - i, ⟨0, Nat.zero_le _, (vm [(2, _)] [])⟩, ?_⟩
  intro i hi
  refine ⟨fun hd => ?_, fun hd => ?_⟩
  · have hi' : i < k := by have := of_decide_eq_true hd; omega
    have hst := swpR_step P A Q B S hB i (by omega)
    rw [hx, hk, hy] at hst
    have hlen : (P ++ ((B.take i ++ A.drop i) ++ (Q ++ ((A.take i ++ B.drop i) ++ S)))).length = n := by simp; omega
    dsimp only
    generalize P ++ ((B.take i ++ A.drop i) ++ (Q ++ ((A.take i ++ B.drop i) ++ S))) = t at *
    refine go0 ?_
    have hsw := swap_p (G := G) n t hlen (x + i) (y + i) (by omega) (by omega)
    rw [Int.natCast_add, Int.natCast_add] at hsw
    refine .inr ⟨_, _, _, _, _, _, hsw, [(0, 0), (1, 1)], [], ⟨rfl, trivial, rfl, lm, mm⟩, rfl, rfl, ?_⟩
    refine go0 ?_
    exact ⟨i + 1, by show i + 1 ≤ k; omega, by show k - (i + 1) < k - i; omega, by dsimp only; rw [← hst]; exact (vm [(2, _)] [])⟩
  · have hi' : i = k := by have := of_decide_eq_false hd; omega
    subst hi'
    dsimp only
    rw [← hk, List.drop_length, ← hB, List.drop_length, List.take_length, hB, List.take_length, List.append_nil, List.append_nil]
    refine go0 ?_
    refine ⟨[], [], [], rfl, rfl, trivial, rfl, trivial, ?_⟩
    · exact mm
end Go.Proofs.Ytplkofafnbfkmaa
