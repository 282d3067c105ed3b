/- Parts of a proof, one behind the other: M21, M22, M23, M32, M24, M25, M26, M27, M28, M31, Opn, Seat, Make, CfgA, CfgB, CfgC, CfgD, MakeC, CfgE, Text. -/
import Derived.Test.YtllepnadffndnaaDoorRows
import Derived.Test.YtllepnadffndnaaDoorProg
import Derived.Lib.ParseIntB
import Derived.Test.YtllepnadffndnaaDoorW03
namespace Go.Proofs.YtllepnadffndnaaDoor
open Go.RowKit
def Out (D : Dl → Prop) (x : Ask (MV × Dl)) : Prop := ∀ K, x.runP K → ∃ r δ, D δ ∧ K (r, δ)
section
variable {α : Type} {D : Dl → Prop}
theorem Out.ret {r : MV} {δ : Dl} (h : D δ) : Out D (Ask.ret (r, δ)) := fun _ hk => ⟨r, δ, h, hk⟩
theorem Out.bad : Out D Ask.bad := fun _ h => h.elim
theorem Out.ask {o : Option α} {k : α → Ask (MV × Dl)} (h : ∀ a, Out D (k a)) : Out D (Ask.ask o k) := by
  rintro K ⟨a, _, h2⟩; exact h a K h2
theorem Out.prf {p : Prop} {d : Decidable p} {k : Ask (MV × Dl)} (h : Out D k) : Out D (Ask.prf p d k) := by
  rintro K ⟨_, h2⟩; exact h K h2
theorem Out.br {t : Bool} {x y : Ask (MV × Dl)} (hx : Out D x) (hy : Out D y) : Out D (Ask.br t x y) := by
  rintro K ⟨h1, h2⟩
  cases t with
  | true => exact hx K (h1 rfl)
  | false => exact hy K (h2 rfl)
theorem Out.bind {x : Ask MV} {f : MV → Ask (MV × Dl)} (hs : Sharp x) (hf : ∀ a, Out D (f a)) : Out D (x.bind f) := by
  intro K h
  obtain ⟨a, _, h2, _⟩ := hs _ h
  exact hf a K h2
theorem Out.val {a : α} {k : α → Ask (MV × Dl)} (h : ∀ a, Out D (k a)) : Out D (val a k) := Out.ask h
theorem Out.cond {b : Bool} {x y : Ask (MV × Dl)} (hx : Out D x) (hy : Out D y) : Out D (bif b then x else y) := by cases b <;> assumption
theorem Out.rd {e : Nat → Option MV} {x : Operand} {k : MV → Ask (MV × Dl)} (h : ∀ a, Out D (k a)) : Out D (rd e x k) := by
  show Out D (match evM e x with | some m => k m | none => .bad)
  split
  · exact h _
  · exact Out.bad
theorem Out.rds {e : Nat → Option MV} : ∀ {xs : List Operand} {k : List MV → Ask (MV × Dl)}, (∀ a, Out D (k a)) → Out D (rds e xs k)
  | [], _, h => h _
  | _ :: _, _, h => Out.rd fun _ => Out.rds fun _ => h _
theorem Out.rdo {e : Nat → Option MV} {x : Option Operand} {k : Option MV → Ask (MV × Dl)} (h : ∀ a, Out D (k a)) : Out D (rdo e x k) := by
  cases x with
  | none => exact h _
  | some x => exact Out.rd fun _ => h _
end
abbrev DN : Dl → Prop := fun δ => δ = .none
abbrev DA : Dl → Prop := fun δ => ∃ b, δ = .new b
abbrev DW (m : FM) : Dl → Prop := fun δ => (∃ b, δ = .new b) ∨ (∃ c l, δ = .upd c l ∧ m c ≠ none) ∨ (∃ c b, δ = .mv c b ∧ m c ≠ none)
section
variable (P : Program) (T : Tab) (E : Nat → Option MV) (M : FM) (cnt : Nat)
theorem out_pureA (m : MV) : Out DN (pureA m) := Out.ret rfl
theorem out_oNil (b : Option Bool) (op : BinOp) : Out DN (oNil b op) := by
  cases b with
  | none => exact Out.bad
  | some b => cases op <;> first | exact Out.bad | exact Out.ret rfl
theorem out_oEq (op : BinOp) (t : TypeId) (x y : MV) : Out DN (oEq P T op t x y) := by
  unfold oEq
  split
  · exact Out.cond (Out.prf (Out.ask fun _ => out_oNil _ _)) Out.bad
  · exact Out.bad
theorem out_oBin (op : BinOp) (t : TypeId) (yo : Operand) (x y : MV) : Out DN (oBin P T op t yo x y) := by
  unfold oBin
  split
  · split
    · exact Out.cond (Out.bind (sharp_iBin _ _ _ _) out_pureA) Out.bad
    · exact Out.bad
  · split
    · exact Out.bind (sharp_sBin _ _ _) out_pureA
    · exact Out.bad
  · split
    · split
      · exact Out.bind (sharp_bBin _ _ _) out_pureA
      · exact Out.bad
    · exact Out.bad
  · split
    · exact out_oNil _ _
    · exact Out.bad
  · split
    · exact out_oNil _ _
    · exact Out.bad
  · split
    · exact out_oNil _ _
    · exact Out.bad
  · exact out_oEq P T op t _ _
theorem out_oLoad (t : TypeId) (p : MV) : Out DN (oLoad T M t p) := by
  unfold oLoad
  split
  · exact Out.bad
  · split
    · split
      · exact Out.cond (Out.ask fun _ => Out.ask fun _ => Out.cond (Out.ret rfl) Out.bad) Out.bad
      · exact Out.bad
    · exact Out.ask fun _ => Out.cond (Out.ret rfl) Out.bad
    · exact Out.bad
theorem out_oFieldAddr (t : TypeId) (p : MV) (f : Nat) : Out DN (oFieldAddr T t p f) := by
  unfold oFieldAddr
  repeat' split
  all_goals first | exact Out.bad | exact Out.ret rfl
theorem out_oIndexAddr (t : TypeId) (p j : MV) : Out DN (oIndexAddr T t p j) := by
  unfold oIndexAddr
  repeat' split
  all_goals first | exact Out.bad | exact Out.ask fun _ => Out.cond (Out.ret rfl) Out.bad | exact Out.cond (Out.ask fun _ => Out.ret rfl) Out.bad | exact Out.ask fun _ => Out.ret rfl
theorem out_oIndex (t : TypeId) (p j : MV) : Out DN (oIndex T t p j) := by
  unfold oIndex
  repeat' split
  all_goals first | exact Out.bad | exact Out.ask fun _ => Out.ret rfl | exact Out.cond (Out.ask fun _ => Out.cond (Out.ret rfl) Out.bad) Out.bad
theorem out_oField (t : TypeId) (p : MV) (f : Nat) : Out DN (oField T t p f) := by
  unfold oField
  repeat' split
  all_goals first | exact Out.bad | exact Out.cond (Out.ret rfl) Out.bad
theorem out_oSlice (t : TypeId) (x : MV) (lo hi : Option MV) : Out DN (oSlice T t x lo hi) := by
  unfold oSlice
  repeat' split
  all_goals first | exact Out.bad | exact Out.ask fun _ => Out.val fun _ => Out.ret rfl | exact Out.ask fun _ => Out.prf (Out.val fun _ => Out.val fun _ => Out.ret rfl) | exact Out.cond (Out.ask fun _ => Out.val fun _ => Out.ret rfl) Out.bad | exact Out.ask fun _ => Out.ret rfl
abbrev DR (m : FM) : Dl → Prop := fun δ => δ = .none ∨ ∃ l, δ = .bump l ∧ ∀ c ∈ l, m c.1 ≠ none
theorem Out.weak {D D' : Dl → Prop} {x : Ask (MV × Dl)} (h : Out D x) (hd : ∀ δ, D δ → D' δ) : Out D' x := fun K hk => by
  obtain ⟨r, δ, h1, h2⟩ := h K hk
  exact ⟨r, δ, hd δ h1, h2⟩
theorem out_oSliceA (t : TypeId) (x : MV) (lo hi : Option MV) : Out (DR M) (oSliceA T M t x lo hi) := by
  unfold oSliceA
  split
  · split
    · rename_i b hb
      split
      · exact Out.cond (Out.ask fun _ => Out.val fun _ => Out.val fun _ => Out.ret (.inr ⟨_, rfl, fun c hc => by simp at hc; subst hc; rw [hb]; simp⟩)) Out.bad
      · exact Out.bad
    · exact Out.bad
  · exact (out_oSlice T _ _ _ _).weak fun _ h => .inl h
theorem out_oBuild (t : TypeId) (ps : List (Nat × MV)) : Out DN (oBuild T t ps) := by
  unfold oBuild
  split
  · refine Out.cond ?_ Out.bad
    split
    · exact Out.ret rfl
    · exact Out.bad
  · refine Out.cond ?_ Out.bad
    split
    · exact Out.ret rfl
    · exact Out.bad
  · exact Out.bad
theorem out_oUn (op : UnOp) (x : MV) : Out DN (oUn op x) := by
  unfold oUn
  repeat' split
  all_goals first | exact Out.bad | exact Out.ret rfl | exact Out.val fun _ => Out.ret rfl
theorem out_oConv (s d : TypeId) (x : MV) : Out DN (oConv T M s d x) := by
  unfold oConv
  repeat' split
  all_goals first | exact Out.bad | exact Out.ret rfl | exact Out.val fun _ => Out.ret rfl | exact Out.ask fun _ => Out.ret rfl | exact Out.cond (Out.prf (Out.ask fun _ => Out.ret rfl)) Out.bad | exact Out.prf (Out.val fun _ => Out.val fun _ => Out.ret rfl)
theorem out_oBuildSlice (t : TypeId) (n : Nat) (ps : List (Nat × MV)) : Out DA (oBuildSlice T cnt t n ps) := by
  unfold oBuildSlice
  split
  · split
    · split
      · exact Out.ret ⟨_, rfl⟩
      · exact Out.bad
    · split
      · refine Out.cond ?_ Out.bad
        split
        · exact Out.ret ⟨_, rfl⟩
        · exact Out.bad
      · exact Out.bad
  · exact Out.bad
theorem out_oMakeSlice (t : TypeId) (x y : MV) : Out DA (oMakeSlice P T cnt t x y) := by
  unfold oMakeSlice
  repeat' split
  all_goals first | exact Out.bad | exact Out.cond (Out.prf (Out.ask fun _ => Out.ask fun _ => Out.prf (Out.ret ⟨_, rfl⟩))) Out.bad
theorem out_oStore (t : TypeId) (p v : MV) : Out (DW M) (oStore T M t p v) := by
  unfold oStore
  split
  · exact Out.bad
  · split
    · split
      · rename_i b hb
        exact Out.cond (Out.prf (Out.ask fun _ => Out.ask fun _ => Out.val fun _ => Out.ret (.inr (.inl ⟨_, _, rfl, by rw [hb]; simp⟩)))) Out.bad
      · exact Out.bad
    · exact Out.bad
theorem out_srcM (D : Dl → Prop) (es : Nat) (y : MV) (k : Nat → List MV → Ask (MV × Dl)) (h : ∀ n l, Out D (k n l)) : Out D (srcM M es y k) := by
  unfold srcM
  split
  · exact Out.prf (h _ _)
  · exact h _ _
  · split
    · exact Out.cond (Out.prf (Out.val fun _ => h _ _)) Out.bad
    · exact Out.bad
  · exact Out.bad
theorem out_oAppend (ats : List TypeId) (x y : MV) : Out (DW M) (oAppend P T M cnt ats x y) := by
  unfold oAppend
  split
  · refine Out.cond ?_ Out.bad
    split
    · split
      · refine Out.cond (Out.ask fun _ => out_srcM M _ _ _ _ fun n l => ?_) Out.bad
        split
        · exact Out.prf (Out.ret (.inl ⟨_, rfl⟩))
        · split
          · rename_i b hb
            exact Out.cond (Out.prf (Out.val fun _ => Out.val fun _ => Out.ret (.inr (.inr ⟨_, _, rfl, by rw [hb]; simp⟩)))) Out.bad
          · exact Out.bad
        · exact Out.bad
      · exact Out.bad
    · exact Out.bad
  · exact Out.bad
def DK (m : FM) : Nat → Dl → Prop
  | 0 => DN
  | 1 => DA
  | 2 => DR m
  | _ => DW m
theorem out_eOp (o : Oper) : Out (DK M (kls o)) (eOp P T E M cnt o) := by
  obtain ⟨dst, op, ty, pos, after, guard⟩ := o
  cases op with
  | move x => exact Out.rd out_pureA
  | assign x => exact Out.rd out_pureA
  | pick c a b =>
    refine Out.rd fun c => Out.rd fun a => Out.rd fun b => ?_
    unfold oPick
    split
    · exact Out.br (Out.ret rfl) (Out.ret rfl)
    · exact Out.bad
  | alloc t =>
    show Out DA (oAlloc T cnt t)
    unfold oAlloc
    split
    · exact Out.cond (Out.ret ⟨_, rfl⟩) Out.bad
    · exact Out.bad
  | box t x =>
    refine Out.rd fun v => ?_
    unfold oBox
    split
    · exact Out.cond (Out.ret ⟨_, rfl⟩) Out.bad
    · exact Out.bad
  | build t parts => exact Out.rds fun _ => out_oBuild T _ _
  | buildSlice t n parts => exact Out.rds fun _ => out_oBuildSlice T cnt _ _ _
  | load t x => exact Out.rd fun _ => (out_oLoad T M _ _).weak fun _ h => .inl h
  | store t x y => exact Out.rd fun _ => Out.rd fun _ => out_oStore T M _ _ _
  | nilCheck x =>
    refine Out.rd fun v => ?_
    unfold oNilCheck
    split <;> first | exact Out.ret rfl | exact Out.bad
  | binOp op t x y ty' => exact Out.rd fun _ => Out.rd fun _ => out_oBin P T _ _ _ _ _
  | unOp op t x => exact Out.rd fun _ => out_oUn _ _
  | convert s d x => exact Out.rd fun _ => (out_oConv T M _ _ _).weak fun _ h => .inl h
  | makeInterface t x =>
    refine Out.rd fun v => ?_
    unfold oIface
    split <;> first | exact Out.bad | exact Out.cond (Out.ret rfl) Out.bad
  | makeFunc fn first captured =>
    refine Out.rds fun v => ?_
    unfold oMkFunc
    split <;> first | exact Out.bad | exact Out.cond (Out.ret rfl) Out.bad
  | makeSlice t l c => exact Out.rd fun _ => Out.rd fun _ => out_oMakeSlice P T cnt _ _ _
  | slice t x lo hi mx =>
    cases mx with
    | none => exact Out.rd fun _ => Out.rdo fun _ => Out.rdo fun _ => out_oSliceA T M _ _ _ _
    | some _ => exact Out.bad
  | fieldAddr t x f => exact Out.rd fun _ => out_oFieldAddr T _ _ _
  | field t x f => exact Out.rd fun _ => out_oField T _ _ _
  | indexAddr t x ix => exact Out.rd fun _ => Out.rd fun _ => out_oIndexAddr T _ _ _
  | index t x ix => exact Out.rd fun _ => Out.rd fun _ => out_oIndex T _ _ _
  | extract x i =>
    refine Out.rd fun v => ?_
    unfold oExtract
    repeat' split
    all_goals first | exact Out.bad | exact Out.ret rfl
  | call c =>
    obtain ⟨callee, args, ats⟩ := c
    cases callee with
    | builtin b =>
      refine Out.rds fun vs => ?_
      cases b <;> first
        | exact Out.bad
        | (show Out DN _
           simp only [oBuiltin]
           split
           · unfold oLen
             repeat' split
             all_goals first | exact Out.bad | exact Out.ret rfl | exact Out.val fun _ => Out.ret rfl
           · exact Out.bad)
        | (show Out (DW M) _
           simp only [oBuiltin]
           split
           · exact out_oAppend P T M cnt _ _ _
           · exact Out.bad)
        | (show Out DN _
           simp only [oBuiltin]
           split
           · exact Out.val fun _ => Out.ret rfl
           · exact Out.bad)
    | _ => exact Out.bad
  | _ => exact Out.bad
end
end Go.Proofs.YtllepnadffndnaaDoor
namespace Go.Proofs.YtllepnadffndnaaDoor
open Go.RowKit
section
variable {P : Program} {T : Tab} {e e' : Nat → Option MV} {m m' : FM} {cnt : Nat} {A : Type}
def Ag (e e' : Nat → Option MV) (l : List Operand) : Prop := ∀ x ∈ l, evM e x = evM e' x
theorem rd_ag {x : Operand} {k : MV → Ask A} (h : evM e x = evM e' x) : rd e x k = rd e' x k := by unfold rd; rw [h]
theorem rds_ag : ∀ {l : List Operand} {k : List MV → Ask A}, Ag e e' l → rds e l k = rds e' l k
  | [], _, _ => rfl
  | x :: l, k, h => by
    show rd e x _ = rd e' x _
    rw [rd_ag (h x (by simp))]
    have : (fun m => rds e l fun r => k (m :: r)) = fun m => rds e' l fun r => k (m :: r) := funext fun m => rds_ag fun y hy => h y (by simp [hy])
    rw [this]
theorem rdo_ag {x : Option Operand} {k : Option MV → Ask A} (h : Ag e e' x.toList) : rdo e x k = rdo e' x k := by
  cases x with
  | none => rfl
  | some x => exact rd_ag (h x (by simp))
theorem evM_ag {x : Operand} (h : ∀ t, x = .tmp t → e t = e' t) : evM e x = evM e' x := by
  cases x with
  | tmp t => exact h t rfl
  | _ => rfl
theorem eOp_env {o : Oper} (h : Ag e e' o.op.operands.toList) : eOp P T e m cnt o = eOp P T e' m cnt o := by
  obtain ⟨dst, op, ty, pos, after, guard⟩ := o
  replace h : Ag e e' op.operands.toList := h
  cases op with
  | move x => exact rd_ag (h x (by simp [Op.operands]))
  | assign x => exact rd_ag (h x (by simp [Op.operands]))
  | pick c a b =>
    show rd e c _ = rd e' c _
    rw [rd_ag (h c (by simp [Op.operands]))]
    congr 1; funext c
    rw [rd_ag (h a (by simp [Op.operands]))]
    congr 1; funext a
    rw [rd_ag (h b (by simp [Op.operands]))]
  | alloc t => rfl
  | box t x => exact rd_ag (h x (by simp [Op.operands]))
  | build t parts => exact rds_ag fun x hx => h x (by simpa [Op.operands] using hx)
  | buildSlice t n parts => exact rds_ag fun x hx => h x (by simpa [Op.operands] using hx)
  | load t x => exact rd_ag (h x (by simp [Op.operands]))
  | store t x y =>
    show rd e x _ = rd e' x _
    rw [rd_ag (h x (by simp [Op.operands]))]
    congr 1; funext c
    rw [rd_ag (h y (by simp [Op.operands]))]
  | nilCheck x => exact rd_ag (h x (by simp [Op.operands]))
  | binOp op t x y ty' =>
    show rd e x _ = rd e' x _
    rw [rd_ag (h x (by simp [Op.operands]))]
    congr 1; funext c
    rw [rd_ag (h y (by simp [Op.operands]))]
  | unOp op t x => exact rd_ag (h x (by simp [Op.operands]))
  | convert s d x => exact rd_ag (h x (by simp [Op.operands]))
  | makeInterface t x => exact rd_ag (h x (by simp [Op.operands]))
  | makeFunc fn first captured => exact rds_ag fun x hx => h x (by simp [Op.operands]; exact .inr (by simpa using hx))
  | makeSlice t x y =>
    show rd e x _ = rd e' x _
    rw [rd_ag (h x (by simp [Op.operands]))]
    congr 1; funext c
    rw [rd_ag (h y (by simp [Op.operands]))]
  | slice t x lo hi mx =>
    cases mx with
    | none =>
      show rd e x _ = rd e' x _
      rw [rd_ag (h x (by simp [Op.operands]))]
      congr 1; funext c
      rw [rdo_ag fun y hy => h y (by simp [Op.operands]; simp at hy; simp [hy])]
      congr 1; funext c
      rw [rdo_ag fun y hy => h y (by simp [Op.operands]; simp at hy; simp [hy])]
    | some _ => rfl
  | fieldAddr t x f => exact rd_ag (h x (by simp [Op.operands]))
  | field t x f => exact rd_ag (h x (by simp [Op.operands]))
  | indexAddr t x y =>
    show rd e x _ = rd e' x _
    rw [rd_ag (h x (by simp [Op.operands]))]
    congr 1; funext c
    rw [rd_ag (h y (by simp [Op.operands]))]
  | index t x y =>
    show rd e x _ = rd e' x _
    rw [rd_ag (h x (by simp [Op.operands]))]
    congr 1; funext c
    rw [rd_ag (h y (by simp [Op.operands]))]
  | extract x i => exact rd_ag (h x (by simp [Op.operands]))
  | call c =>
    obtain ⟨callee, args, ats⟩ := c
    cases callee with
    | builtin b => exact rds_ag fun x hx => h x (by simp [Op.operands, Call.operands]; simpa using hx)
    | _ => rfl
  | _ => rfl
theorem eOp_nomem {o : Oper} (h : Nat.ble (kls o) 1 = true) : eOp P T e m cnt o = eOp P T e m' cnt o := by
  obtain ⟨dst, op, ty, pos, after, guard⟩ := o
  cases op with
  | call c =>
    obtain ⟨callee, args, ats⟩ := c
    cases callee with
    | builtin b => cases b <;> first | rfl | (cases h; done)
    | _ => rfl
  | load t x => cases h
  | store t x y => cases h
  | convert s d x => cases h
  | slice t x lo hi mx => cases h
  | _ => rfl
theorem eOp_read {o : Oper} (h : kls o = 2) (hs : SameB m m') {K : MV × Dl → Prop} (hr : (eOp P T e m cnt o).runP K) : (eOp P T e m' cnt o).runP K := by
  have step : ∀ {x : Operand} {k k' : MV → Ask (MV × Dl)}, (∀ v, (k v).runP K → (k' v).runP K) → (rd e x k).runP K → (rd e x k').runP K := by
    intro x k k' hk h
    unfold rd at h ⊢
    split at h
    · exact hk _ h
    · exact h.elim
  obtain ⟨dst, op, ty, pos, after, guard⟩ := o
  cases op with
  | call c =>
    obtain ⟨callee, args, ats⟩ := c
    cases callee with
    | builtin b => cases b <;> cases h
    | _ => exact hr
  | load t x =>
    refine step (fun p hp => ?_) hr
    unfold oLoad at hp ⊢
    split at hp
    · exact hp.elim
    · split at hp
      · split at hp
        · rename_i b hb
          obtain ⟨b', h1, h2, h3, h4, h5⟩ := hs _ _ hb
          simp only [h1, h2, h4]
          exact hp
        · exact hp.elim
      · exact hp
      · exact hp.elim
  | slice t x lo hi mx =>
    have stepo : ∀ {x : Option Operand} {k k' : Option MV → Ask (MV × Dl)}, (∀ v, (k v).runP K → (k' v).runP K) → (rdo e x k).runP K → (rdo e x k').runP K := by
      intro x k k' hk h
      cases x with
      | none => exact hk _ h
      | some x => exact step (fun v hv => hk _ hv) h
    cases mx with
    | some _ => exact hr
    | none =>
    refine step (fun p hp => stepo (fun lo hp => stepo (fun hi hp => ?_) hp) hp) hr
    unfold oSliceA at hp ⊢
    split at hp
    · split at hp
      · rename_i b hb
        obtain ⟨b', h1, h2, h3, h4, h5⟩ := hs _ _ hb
        obtain ⟨ty', es', row', pe', l'⟩ := b'
        simp only at h2 h3 h4 h5
        subst h2
        simp only [h1]
        exact hp
      · exact hp.elim
    · exact hp
  | convert s d x =>
    refine step (fun p hp => ?_) hr
    unfold oConv at hp ⊢
    split at hp
    · exact hp
    · exact hp
    · exact hp
    · split at hp
      · rename_i b ht hb
        obtain ⟨b', h1, h2, h3, h4, h5⟩ := hs _ _ hb
        obtain ⟨ty', es', row', pe', l'⟩ := b'
        simp only at h2 h3 h4 h5
        subst h2; subst h4
        simp only [ht, h1]
        exact hp
      · exact hp.elim
    · exact hp
    · exact hp.elim
  | _ => cases h
mutual
theorem frz_same (hs : SameB m m') : ∀ {p : MV} {K : MV × List (Nat × Nat) → Prop}, (frz m p).runP K → (frz m' p).runP fun x => K x ∧ ∀ c ∈ x.2, m c.1 ≠ none
  | .ms c es off n, K, h => by
    simp only [frz] at h ⊢
    split at h
    · rename_i b hb
      obtain ⟨b', h1, h2, h3, h4, h5⟩ := hs _ _ hb
      obtain ⟨ty', es', row', pe', l'⟩ := b'
      simp only at h2 h3 h4 h5
      subst h2; subst h4; subst h3
      simp only [h1]
      split at h
      · obtain ⟨a1, l, a2, h⟩ := h
        exact ⟨a1, l, a2, h, fun c hc => by simp at hc; subst hc; rw [hb]; simp⟩
      · exact h.elim
    · exact h.elim
  | .st l, K, h => by simp only [frz] at h ⊢; exact frzs_weak (frzs_same hs (Ask.bind_runP.1 h)) fun _ h => h
  | .fn f l, K, h => by simp only [frz] at h ⊢; exact frzs_weak (frzs_same hs (Ask.bind_runP.1 h)) fun _ h => h
  | .ifc t v, K, h => by simp only [frz] at h ⊢; exact frz_weak (frz_same hs (Ask.bind_runP.1 h)) fun _ h => h
  | .ptr c es k fo path, K, h => by
    simp only [frz] at h ⊢
    split at h
    · rename_i b hb
      obtain ⟨b', h1, h2, h3, h4, h5⟩ := hs _ _ hb
      obtain ⟨ty', es', row', pe', l'⟩ := b'
      simp only at h2 h3 h4 h5
      subst h2; subst h4; subst h3
      simp only [h1]
      cases he : Nat.beq b.es es with
      | false => rw [he] at h; exact h.elim
      | true =>
        rw [he] at h
        obtain ⟨v, q1, h⟩ := h
        cases hf : v.idFree with
        | false => rw [hf] at h; exact h.elim
        | true => rw [hf] at h; exact ⟨v, q1, by simp only [hf]; exact ⟨h, fun c hc => by simp at hc; subst hc; rw [hb]; simp⟩⟩
    · exact h.elim
  | .tup _, K, h => by simp only [frz] at h; exact h.elim
  | .undef, K, h => by simp only [frz] at h; exact h.elim
  | .int .., K, h => by simp only [frz] at h ⊢; exact ⟨h, fun _ hc => nomatch hc⟩
  | .bool .., K, h => by simp only [frz] at h ⊢; exact ⟨h, fun _ hc => nomatch hc⟩
  | .str .., K, h => by simp only [frz] at h ⊢; exact ⟨h, fun _ hc => nomatch hc⟩
  | .nilp, K, h => by simp only [frz] at h ⊢; exact ⟨h, fun _ hc => nomatch hc⟩
  | .gp .., K, h => by simp only [frz] at h ⊢; exact ⟨h, fun _ hc => nomatch hc⟩
  | .ep .., K, h => by simp only [frz] at h ⊢; exact ⟨h, fun _ hc => nomatch hc⟩
  | .sl .., K, h => by simp only [frz] at h ⊢; exact ⟨h, fun _ hc => nomatch hc⟩
  | .nils, K, h => by simp only [frz] at h ⊢; exact ⟨h, fun _ hc => nomatch hc⟩
  | .nilf, K, h => by simp only [frz] at h ⊢; exact ⟨h, fun _ hc => nomatch hc⟩
  | .nili, K, h => by simp only [frz] at h ⊢; exact ⟨h, fun _ hc => nomatch hc⟩
  | .arr .., K, h => by simp only [frz] at h ⊢; exact ⟨h, fun _ hc => nomatch hc⟩
theorem frzs_same (hs : SameB m m') : ∀ {l : List MV} {K : List MV × List (Nat × Nat) → Prop}, (frzs m l).runP K → (frzs m' l).runP fun x => K x ∧ ∀ c ∈ x.2, m c.1 ≠ none
  | [], K, h => ⟨h, fun _ hc => nomatch hc⟩
  | q :: l, K, h => by
    simp only [frzs] at h ⊢
    refine frz_weak (frz_same hs (Ask.bind_runP.1 h)) fun x hx => ?_
    refine frzs_weak (frzs_same hs (Ask.bind_runP.1 hx.1)) fun y hy => ⟨hy.1, fun c hc => ?_⟩
    rcases List.mem_append.1 hc with hc | hc
    · exact hx.2 c hc
    · exact hy.2 c hc
end
end
end Go.Proofs.YtllepnadffndnaaDoor
namespace Go.Proofs.YtllepnadffndnaaDoor
open Go.RowKit
section
variable (Pg : Program) (T : Tab) (ents : List FuncId) (G : GS)
def vCallF (e : Nat → Option MV) (m : FM) (f : Operand) (args : List Operand) : Ask (FuncId × List MV × List (Nat × Nat)) :=
  rd e f fun fv => rds e args fun vs => match fv with
    | .fn f0 caps => (frzs m (vs ++ caps)).bind fun r => .ret (f0, r.1, r.2)
    | _ => .bad
def runF (o : Oper) (e : Nat → Option MV) (m : FM) (n : Nat) (r : MV) (δ : Dl) : Prop := match o.op with
  | .call c => match c.callee with
    | .value f => (vCallF e m f c.args.toList).runP fun x => ents.contains x.1 = true ∧ SemC Pg G x.1 x.2.1 r ∧ δ = .bump x.2.2 ∧ ∀ c ∈ x.2.2, m c.1 ≠ none
    | _ => (eOp Pg T e m n o).runP fun x => x = (r, δ)
  | _ => (eOp Pg T e m n o).runP fun x => x = (r, δ)
def gdF (ops : Array Oper) (o : Oper) (e : Nat → Option MV) : Option Bool := match o.guard with
  | none => some true
  | some (j, want) => match (ops[j]?).bind (·.dst) with
    | none => none
    | some s => match e s with
      | some (.bool t) => some (t == want)
      | some .undef => some false
      | _ => none
def actF (ops : Array Oper) (o : Oper) (e : Nat → Option MV) (m : FM) (n : Nat) (r : MV) (δ : Dl) : Prop :=
  ∃ b, gdF ops o e = some b ∧ (b = true → runF Pg T ents G o e m n r δ) ∧ (b = false → r = .undef ∧ δ = .none)
def putF (dst : Option Tmp) (r : MV) (e : Nat → Option MV) : Nat → Option MV := match dst with
  | none => e
  | some d => fput e d r
end
section
variable {Pg : Program} {T : Tab} {ents : List FuncId} {G : GS} {ops : Array Oper} {o : Oper} {e e' : Nat → Option MV} {m m' : FM} {n : Nat} {r : MV} {δ : Dl}
theorem vCallF_ag {f : Operand} {args : List Operand} (h1 : evM e f = evM e' f) (h2 : Ag e e' args) : vCallF e m f args = vCallF e' m f args := by
  unfold vCallF
  rw [rd_ag h1]
  congr 1; funext v
  rw [rds_ag h2]
theorem runF_env (h : Ag e e' o.op.operands.toList) : runF Pg T ents G o e m n r δ → runF Pg T ents G o e' m n r δ := by
  have hp : eOp Pg T e m n o = eOp Pg T e' m n o := eOp_env h
  unfold runF
  split
  · rename_i c hc
    rw [hc] at h
    split
    · rename_i f hf
      intro hr
      have := vCallF_ag (m := m) (args := c.args.toList) (h f (by simp [Op.operands, Call.operands, hf])) fun x hx => h x (by simp [Op.operands, Call.operands, hf]; exact .inr (by simpa using hx))
      rw [← this]; exact hr
    · rw [hp]; exact id
  · rw [hp]; exact id
theorem runF_nomem (h : Nat.ble (kls o) 1 = true) : runF Pg T ents G o e m n r δ → runF Pg T ents G o e m' n r δ := by
  have hp : eOp Pg T e m n o = eOp Pg T e m' n o := eOp_nomem h
  unfold runF
  split
  · rename_i c hc
    split
    · rename_i f hf
      simp [kls, hc, hf] at h
    · rw [hp]; exact id
  · rw [hp]; exact id
theorem runF_read (h : kls o = 2) (hs : SameB m m') : runF Pg T ents G o e m n r δ → runF Pg T ents G o e m' n r δ := by
  unfold runF
  split
  · rename_i c hc
    split
    · rename_i f hf
      intro hr
      unfold vCallF at hr ⊢
      unfold rd at hr ⊢
      split at hr
      · rename_i v hv
        generalize c.args.toList = az at hr
        have key : ∀ (az : List Operand) (k k' : List MV → Ask (FuncId × List MV × List (Nat × Nat))) (K K' : FuncId × List MV × List (Nat × Nat) → Prop), (∀ vs, (k vs).runP K → (k' vs).runP K') → (rds e az k).runP K → (rds e az k').runP K' := by
          intro az
          induction az with
          | nil => intro k k' K K' hk h; exact hk _ h
          | cons x az ih =>
            intro k k' K K' hk h
            unfold rds rd at h ⊢
            split at h
            · exact ih _ _ K K' (fun vs h => hk _ h) h
            · exact h.elim
        refine key az _ _ _ _ (fun vs hk => ?_) hr
        split at hk
        · refine frzs_weak (frzs_same hs (Ask.bind_runP.1 hk)) fun x hx => ?_
          obtain ⟨⟨h1, h2, h3, _⟩, h4⟩ := hx
          refine ⟨h1, h2, h3, fun c hc => ?_⟩
          cases hb : m c.1 with
          | none => exact absurd hb (h4 c hc)
          | some b =>
            obtain ⟨b', h5, _⟩ := hs _ _ hb
            rw [h5]; simp
        · exact hk.elim
      · exact hr.elim
    · exact fun hr => eOp_read h hs hr
  · exact fun hr => eOp_read h hs hr
def DL (m : FM) : Nat → Dl → Prop
  | 0, δ => δ = .none
  | 1, δ => δ = .none ∨ ∃ b, δ = .new b
  | 2, δ => δ = .none ∨ ∃ l, δ = .bump l ∧ ∀ c ∈ l, m c.1 ≠ none
  | _, _ => True
theorem runF_out (h : runF Pg T ents G o e m n r δ) : DL m (kls o) δ := by
  have hp : (eOp Pg T e m n o).runP (fun x => x = (r, δ)) → DL m (kls o) δ := by
    intro h
    obtain ⟨r', δ', h1, h2⟩ := out_eOp Pg T e m n o _ h
    injection h2 with h2 h3
    subst h3
    generalize kls o = k at h1
    match k, h1 with
    | 0, h1 => exact h1
    | 1, h1 => exact .inr h1
    | 2, h1 => exact h1
    | _ + 3, h1 => exact trivial
  unfold runF at h
  split at h
  · rename_i c hc
    split at h
    · rename_i f hf
      have hk : kls o = 2 := by simp [kls, hc, hf]
      rw [hk]
      unfold vCallF rd at h
      split at h
      · have key : ∀ (az : List Operand) (k : List MV → Ask (FuncId × List MV × List (Nat × Nat))) (K : FuncId × List MV × List (Nat × Nat) → Prop), (rds e az k).runP K → ∃ vs, (k vs).runP K := by
          intro az
          induction az with
          | nil => intro k K h; exact ⟨_, h⟩
          | cons x az ih =>
            intro k K h
            unfold rds rd at h
            split at h
            · obtain ⟨vs, h⟩ := ih _ K h; exact ⟨_, h⟩
            · exact h.elim
        obtain ⟨vs, h⟩ := key _ _ _ h
        split at h
        · obtain ⟨_, x, _, h⟩ := frzs_isVal (Ask.bind_runP.1 h)
          obtain ⟨h1, h2, h3, h4⟩ := h
          exact .inr ⟨_, h3, h4⟩
        · exact h.elim
      · exact h.elim
    · exact hp h
  · exact hp h
theorem actF_out (h : actF Pg T ents G ops o e m n r δ) : DL m (kls o) δ := by
  obtain ⟨b, h1, h2, h3⟩ := h
  cases b with
  | true => exact runF_out (h2 rfl)
  | false =>
    rw [(h3 rfl).2]
    generalize kls o = k
    match k with
    | 0 => exact rfl
    | 1 => exact .inl rfl
    | 2 => exact .inl rfl
    | _ + 3 => exact trivial
theorem actF_nomem (h : Nat.ble (kls o) 1 = true) : actF Pg T ents G ops o e m n r δ → actF Pg T ents G ops o e m' n r δ := by
  rintro ⟨b, h1, h2, h3⟩; exact ⟨b, h1, fun hb => runF_nomem h (h2 hb), h3⟩
theorem actF_read (h : kls o = 2) (hs : SameB m m') : actF Pg T ents G ops o e m n r δ → actF Pg T ents G ops o e m' n r δ := by
  rintro ⟨b, h1, h2, h3⟩; exact ⟨b, h1, fun hb => runF_read h hs (h2 hb), h3⟩
theorem actF_env (h : ∀ t ∈ o.looksAt ops, e t = e' t) : actF Pg T ents G ops o e m n r δ → actF Pg T ents G ops o e' m n r δ := by
  rintro ⟨b, h1, h2, h3⟩
  refine ⟨b, ?_, fun hb => runF_env (fun x hx => evM_ag fun t ht => h t ?_) (h2 hb), h3⟩
  · rw [← h1]
    unfold gdF
    split
    · rfl
    · rename_i j want hg
      split
      · rfl
      · rename_i s hs
        rw [h s (by
          unfold Oper.looksAt
          rw [hg]
          simp [hs])]
  · subst ht
    unfold Oper.looksAt
    refine List.mem_append.2 (.inl ?_)
    rw [List.mem_filterMap]
    exact ⟨_, hx, rfl⟩
end
end Go.Proofs.YtllepnadffndnaaDoor
namespace Go.Proofs.YtllepnadffndnaaDoor
open Go.RowKit
mutual
def numsV : MV → List Nat
  | .ptr c _ _ _ _ => [c]
  | .ms c _ _ _ => [c]
  | .st l => numsVs l
  | .fn _ l => numsVs l
  | .tup l => numsVs l
  | .ifc _ v => numsV v
  | _ => []
def numsVs : List MV → List Nat
  | [] => []
  | m :: l => numsV m ++ numsVs l
end
def numsO (e : Nat → Option MV) : List Operand → List Nat
  | [] => []
  | x :: l => (match evM e x with | some v => numsV v | none => []) ++ numsO e l
section
variable {P : Program} {T : Tab} {e : Nat → Option MV} {m m' : FM} {cnt : Nat} {A : Type}
theorem rd_loc {x : Operand} {k k' : MV → Ask A} (h : ∀ v, evM e x = some v → k' v = k v) : rd e x k' = rd e x k := by
  unfold rd
  cases hx : evM e x with
  | none => rfl
  | some v => exact h v hx
theorem rds_loc : ∀ {l : List Operand} {k k' : List MV → Ask A}, (∀ vs, l.map (evM e) = vs.map some → k' vs = k vs) → rds e l k' = rds e l k
  | [], _, _, h => h [] rfl
  | x :: l, k, k', h => by
    show rd e x _ = rd e x _
    exact rd_loc fun v hv => rds_loc fun vs hvs => h (v :: vs) (by simp [hv, hvs])
theorem numsO_eq : ∀ {l : List Operand} {vs : List MV}, l.map (evM e) = vs.map some → numsO e l = numsVs vs
  | [], [], _ => rfl
  | x :: l, v :: vs, h => by
    simp only [List.map_cons, List.cons.injEq] at h
    simp only [numsO, numsVs, h.1, numsO_eq h.2]
  | [], _ :: _, h => by simp at h
  | _ :: _, [], h => by simp at h
theorem numsVs_app : ∀ (l r : List MV), numsVs (l ++ r) = numsVs l ++ numsVs r
  | [], r => rfl
  | m :: l, r => by simp [numsVs, numsVs_app l r]
abbrev AgM (m' m : FM) (S : List Nat) : Prop := ∀ c ∈ S, m' c = m c
mutual
theorem frz_loc : ∀ {p : MV}, AgM m' m (numsV p) → frz m' p = frz m p
  | .ptr c es k fo path, h => by simp only [frz, h c (by simp [numsV])]
  | .ms c es off n, h => by simp only [frz, h c (by simp [numsV])]
  | .st l, h => by simp only [frz]; rw [frzs_loc (l := l) h]
  | .fn f l, h => by simp only [frz]; rw [frzs_loc (l := l) h]
  | .ifc t v, h => by simp only [frz]; rw [frz_loc (p := v) h]
  | .tup _, _ => rfl
  | .undef, _ => rfl
  | .int .., _ => rfl
  | .bool .., _ => rfl
  | .str .., _ => rfl
  | .nilp, _ => rfl
  | .gp .., _ => rfl
  | .ep .., _ => rfl
  | .sl .., _ => rfl
  | .nils, _ => rfl
  | .nilf, _ => rfl
  | .nili, _ => rfl
  | .arr .., _ => rfl
theorem frzs_loc : ∀ {l : List MV}, AgM m' m (numsVs l) → frzs m' l = frzs m l
  | [], _ => rfl
  | q :: l, h => by
    simp only [frzs]
    rw [frz_loc (p := q) fun c hc => h c (by simp [numsVs, hc]), frzs_loc (l := l) fun c hc => h c (by simp [numsVs, hc])]
end
theorem oLoad_loc {t : TypeId} {p : MV} (h : AgM m' m (numsV p)) : oLoad T m' t p = oLoad T m t p := by
  unfold oLoad
  cases p with
  | ptr c es k fo path => simp only [h c (by simp [numsV])]
  | _ => rfl
theorem oStore_loc {t : TypeId} {p v : MV} (h : AgM m' m (numsV p)) : oStore T m' t p v = oStore T m t p v := by
  unfold oStore
  cases p with
  | ptr c es k fo path => simp only [h c (by simp [numsV])]
  | _ => rfl
theorem oSliceA_loc {t : TypeId} {p : MV} {lo hi : Option MV} (h : AgM m' m (numsV p)) : oSliceA T m' t p lo hi = oSliceA T m t p lo hi := by
  unfold oSliceA
  split
  · have hh := h _ (List.mem_cons_self ..)
    simp only [hh]
  · rfl
theorem oConv_loc {s d : TypeId} {p : MV} (h : AgM m' m (numsV p)) : oConv T m' s d p = oConv T m s d p := by
  unfold oConv
  split
  · rfl
  · rfl
  · rfl
  · have hh := h _ (List.mem_cons_self ..)
    simp only [hh]
  · rfl
  · rfl
theorem srcM_loc {es : Nat} {y : MV} {k : Nat → List MV → Ask (MV × Dl)} (h : AgM m' m (numsV y)) : srcM m' es y k = srcM m es y k := by
  unfold srcM
  cases y with
  | ms c es off n => simp only [h c (by simp [numsV])]
  | _ => rfl
theorem oAppend_loc {ats : List TypeId} {x y : MV} (hx : AgM m' m (numsV x)) (hy : AgM m' m (numsV y)) : oAppend P T m' cnt ats x y = oAppend P T m cnt ats x y := by
  unfold oAppend
  have hs : ∀ es k, srcM m' es y k = srcM m es y k := fun es k => srcM_loc hy
  cases x with
  | ms c es off n => simp only [hs, hx c (by simp [numsV])]
  | _ => simp only [hs]
theorem oBuiltin_loc {b : Builtin} {ats : Array TypeId} {vs : List MV} (h : AgM m' m (numsVs vs)) : oBuiltin P T m' cnt b ats vs = oBuiltin P T m cnt b ats vs := by
  cases b with
  | append =>
    unfold oBuiltin
    match vs, h with
    | [x, y], h => exact oAppend_loc (fun c hc => h c (by simp [numsVs, hc])) fun c hc => h c (by simp [numsVs, hc])
    | [], _ => rfl
    | [_], _ => rfl
    | _ :: _ :: _ :: _, _ => rfl
  | _ => rfl
theorem eOp_loc {o : Oper} (h : AgM m' m (numsO e o.op.operands.toList)) : eOp P T e m' cnt o = eOp P T e m cnt o := by
  obtain ⟨dst, op, ty, pos, after, guard⟩ := o
  replace h : AgM m' m (numsO e op.operands.toList) := h
  cases op with
  | load t x =>
    refine rd_loc fun v hv => oLoad_loc fun c hc => h c ?_
    simp [Op.operands, numsO, hv, hc]
  | slice t x lo hi mx =>
    cases mx with
    | some _ => rfl
    | none =>
    refine rd_loc fun v hv => ?_
    have e1 : ∀ lo hi, oSliceA T m' t v lo hi = oSliceA T m t v lo hi := fun lo hi => oSliceA_loc fun c hc => h c (by simp [Op.operands, numsO, hv, hc])
    simp only [e1]
  | store t x y =>
    refine rd_loc fun v hv => rd_loc fun u _ => oStore_loc fun c hc => h c ?_
    simp [Op.operands, numsO, hv, hc]
  | convert s d x =>
    refine rd_loc fun v hv => oConv_loc fun c hc => h c ?_
    simp [Op.operands, numsO, hv, hc]
  | call c =>
    obtain ⟨callee, args, ats⟩ := c
    cases callee with
    | builtin b =>
      refine rds_loc fun vs hvs => oBuiltin_loc fun c hc => h c ?_
      have e : (Op.call ⟨.builtin b, args, ats⟩).operands.toList = args.toList := by simp [Op.operands, Call.operands]
      rw [e, numsO_eq hvs]
      exact hc
    | _ => rfl
  | _ => rfl
def FootD (S : List Nat) : Dl → Prop
  | .none => True
  | .new _ => True
  | .upd c _ => c ∈ S
  | .mv c _ => c ∈ S
  | .bump l => ∀ x ∈ l, x.1 ∈ S
theorem foot_oStore {t : TypeId} {p v : MV} : Out (FootD (numsV p)) (oStore T m t p v) := by
  unfold oStore
  split
  · exact Out.bad
  · split
    · split
      · exact Out.cond (Out.prf (Out.ask fun _ => Out.ask fun _ => Out.val fun _ => Out.ret (by simp [FootD, numsV]))) Out.bad
      · exact Out.bad
    · exact Out.bad
theorem foot_oAppend {ats : List TypeId} {x y : MV} : Out (FootD (numsV x)) (oAppend P T m cnt ats x y) := by
  have src : ∀ {es : Nat} {k : Nat → List MV → Ask (MV × Dl)}, (∀ n l, Out (FootD (numsV x)) (k n l)) → Out (FootD (numsV x)) (srcM m es y k) := by
    intro es k hk
    unfold srcM
    split
    · exact Out.prf (hk _ _)
    · exact hk _ _
    · split
      · exact Out.cond (Out.prf (Out.val fun _ => hk _ _)) Out.bad
      · exact Out.bad
    · exact Out.bad
  unfold oAppend
  split
  · refine Out.cond ?_ Out.bad
    split
    · split
      · refine Out.cond (Out.ask fun _ => src fun n l => ?_) Out.bad
        split
        · exact Out.prf (Out.ret trivial)
        · split
          · exact Out.cond (Out.prf (Out.val fun _ => Out.val fun _ => Out.ret (by simp [FootD, numsV]))) Out.bad
          · exact Out.bad
        · exact Out.bad
      · exact Out.bad
    · exact Out.bad
  · exact Out.bad
theorem FootD.sub {S S' : List Nat} {δ : Dl} (h : FootD S δ) (hs : ∀ c ∈ S, c ∈ S') : FootD S' δ := by
  cases δ with
  | none => trivial
  | new => trivial
  | upd c l => exact hs c h
  | mv c b => exact hs c h
  | bump l => exact fun x hx => hs _ (h x hx)
theorem foot_eOp {o : Oper} {r : MV} {δ : Dl} (h : (eOp P T e m cnt o).runP fun x => x = (r, δ)) : FootD (numsO e o.op.operands.toList) δ := by
  have gen : Nat.ble (kls o) 1 = true → FootD (numsO e o.op.operands.toList) δ := by
    intro hk
    obtain ⟨r', δ', h1, h2⟩ := out_eOp P T e m cnt o _ h
    injection h2 with h2 h3
    subst h3
    generalize kls o = k at h1 hk
    match k, h1, hk with
    | 0, h1, _ => rw [show δ' = .none from h1]; trivial
    | 1, h1, _ => obtain ⟨b, h1⟩ := (show ∃ b, δ' = .new b from h1); rw [h1]; trivial
    | _ + 2, _, hk => simp at hk
  have fromRd : ∀ {x : Operand} {k : MV → Ask (MV × Dl)} {S : List Nat}, (∀ v, evM e x = some v → Out (FootD S) (k v)) → (rd e x k).runP (fun x => x = (r, δ)) → FootD S δ := by
    intro x k S hk h
    unfold rd at h
    split at h
    · rename_i v hv
      obtain ⟨r', δ', h1, h2⟩ := hk v hv _ h
      injection h2 with h2 h3
      subst h3; exact h1
    · exact h.elim
  obtain ⟨dst, op, ty, pos, after, guard⟩ := o
  cases op with
  | load t x =>
    refine fromRd (S := numsO e [x]) (fun v hv => (out_oLoad T m _ _).weak fun δ hδ => ?_) h
    rw [hδ]; trivial
  | convert s d x =>
    refine fromRd (S := numsO e [x]) (fun v hv => (out_oConv T m _ _ _).weak fun δ hδ => ?_) h
    rw [hδ]; trivial
  | slice t x lo hi mx =>
    cases mx with
    | some _ => exact h.elim
    | none =>
    refine fromRd (fun v hv => Out.rdo fun lo' => Out.rdo fun hi' => ?_) h
    unfold oSliceA
    split
    · rename_i n e0 es c k0 k fo path hd
      split
      · split
        · exact Out.cond (Out.ask fun _ => Out.val fun _ => Out.val fun _ => Out.ret fun y hy => by
            simp at hy
            subst hy
            simp [Op.operands, numsO, hv, numsV]) Out.bad
        · exact Out.bad
      · exact Out.bad
    · exact (out_oSlice T _ _ _ _).weak fun δ hδ => by rw [hδ]; trivial
  | store t x y =>
    refine fromRd (S := numsO e [x, y]) (fun v hv => ?_) h
    refine Out.rd fun u => ?_
    intro K hK
    obtain ⟨r', δ', h1, h2⟩ := foot_oStore K hK
    exact ⟨r', δ', h1.sub fun c hc => by simp [numsO, hv, hc], h2⟩
  | call c =>
    obtain ⟨callee, args, ats⟩ := c
    cases callee with
    | builtin b =>
      cases b with
      | append =>
        have e1 : (Op.call ⟨.builtin .append, args, ats⟩).operands.toList = args.toList := by simp [Op.operands, Call.operands]
        show FootD (numsO e (Op.call ⟨.builtin .append, args, ats⟩).operands.toList) δ
        rw [e1]
        replace h : (rds e args.toList fun vs => oBuiltin P T m cnt .append ats vs).runP fun x => x = (r, δ) := h
        have key : ∀ (l : List Operand) (k : List MV → Ask (MV × Dl)) (K : MV × Dl → Prop), (rds e l k).runP K → ∃ vs, l.map (evM e) = vs.map some ∧ (k vs).runP K := by
          intro l
          induction l with
          | nil => intro k K h; exact ⟨[], rfl, h⟩
          | cons x l ih =>
            intro k K h
            unfold rds rd at h
            split at h
            · rename_i v hv
              obtain ⟨vs, h1, h2⟩ := ih _ K h
              exact ⟨v :: vs, by simp [hv, h1], h2⟩
            · exact h.elim
        obtain ⟨vs, h1, h2⟩ := key _ _ _ h
        rw [numsO_eq h1]
        unfold oBuiltin at h2
        simp only at h2
        split at h2
        · rename_i x y
          obtain ⟨r', δ', h3, h4⟩ := foot_oAppend _ h2
          injection h4 with h4 h5
          subst h5
          exact h3.sub fun c hc => by simp [numsVs, hc]
        · exact h2.elim
      | _ => exact gen rfl
    | _ => exact h.elim
  | _ => exact gen rfl
theorem appF_out {S : List Nat} {δ : Dl} (h : FootD S δ) {c : Nat} (hc : c ∉ S) (hn : c ≠ cnt) : δ.appF cnt m c = m c := by
  cases δ with
  | none => rfl
  | new b => exact fput_ne _ _ hn
  | upd c' l =>
    show (match m c' with | some b => fput m c' { b with l := l } | none => m) c = m c
    cases m c' with
    | none => rfl
    | some b => exact fput_ne _ _ (by rintro rfl; exact hc h)
  | mv c' b =>
    show fput (fdel m c') cnt b c = m c
    rw [fput_ne _ _ hn]
    unfold fdel
    rw [if_neg (by rintro rfl; exact hc h)]
  | bump l =>
    show bumpF m l c = m c
    rw [bumpF_get]
    have h' : ∀ x ∈ l, x.1 ∈ S := h
    clear h
    have : mxB l c = 0 := by
      induction l with
      | nil => rfl
      | cons x l ih =>
        obtain ⟨k, n⟩ := x
        have : k ≠ c := by rintro rfl; exact hc (h' (k, n) (by simp))
        simp only [mxB, this, if_false]
        exact ih fun y hy => h' y (by simp [hy])
    rw [this]
    cases m c with
    | none => rfl
    | some b => simp
theorem appF_in {S : List Nat} {δ : Dl} (h : FootD S δ) (ha : ∀ c, c ∈ S ∨ c = cnt → m' c = m c) {c : Nat} (hc : c ∈ S ∨ c = cnt) : δ.appF cnt m' c = δ.appF cnt m c := by
  cases δ with
  | none => exact ha c hc
  | new b =>
    show fput m' cnt b c = fput m cnt b c
    unfold fput
    split
    · rfl
    · exact ha c hc
  | upd c' l =>
    show (match m' c' with | some b => fput m' c' { b with l := l } | none => m') c = (match m c' with | some b => fput m c' { b with l := l } | none => m) c
    rw [ha c' (.inl h)]
    cases m c' with
    | none => exact ha c hc
    | some b =>
      show fput m' c' _ c = fput m c' _ c
      unfold fput
      split
      · rfl
      · exact ha c hc
  | mv c' b =>
    show fput (fdel m' c') cnt b c = fput (fdel m c') cnt b c
    unfold fput fdel
    split
    · rfl
    · split
      · rfl
      · exact ha c hc
  | bump l =>
    show bumpF m' l c = bumpF m l c
    rw [bumpF_get, bumpF_get, ha c hc]
mutual
theorem foot_frz : ∀ {p : MV} {K : MV × List (Nat × Nat) → Prop}, (frz m p).runP K → (frz m p).runP fun x => K x ∧ ∀ z ∈ x.2, z.1 ∈ numsV p
  | .ms c es off n, K, h => by
    simp only [frz] at h ⊢
    split at h
    · split at h
      · obtain ⟨a1, l, a2, h⟩ := h
        exact ⟨a1, l, a2, h, fun z hz => by simp at hz; subst hz; simp [numsV]⟩
      · exact h.elim
    · exact h.elim
  | .st l, K, h => by simp only [frz] at h ⊢; exact frzs_weak (foot_frzs (Ask.bind_runP.1 h)) fun _ h => h
  | .fn f l, K, h => by simp only [frz] at h ⊢; exact frzs_weak (foot_frzs (Ask.bind_runP.1 h)) fun _ h => h
  | .ifc t v, K, h => by simp only [frz] at h ⊢; exact frz_weak (foot_frz (Ask.bind_runP.1 h)) fun _ h => h
  | .ptr c es k fo path, K, h => by
    simp only [frz] at h ⊢
    split at h
    · rename_i b hb
      cases he : Nat.beq b.es es with
      | false => rw [he] at h; exact h.elim
      | true =>
        rw [he] at h
        obtain ⟨v, q1, h⟩ := h
        cases hf : v.idFree with
        | false => rw [hf] at h; exact h.elim
        | true => rw [hf] at h; exact ⟨v, q1, by simp only [hf]; exact ⟨h, fun z hz => by simp at hz; subst hz; simp [numsV]⟩⟩
    · exact h.elim
  | .tup _, K, h => by simp only [frz] at h; exact h.elim
  | .undef, K, h => by simp only [frz] at h; exact h.elim
  | .int .., K, h => by simp only [frz] at h ⊢; exact ⟨h, fun _ hc => nomatch hc⟩
  | .bool .., K, h => by simp only [frz] at h ⊢; exact ⟨h, fun _ hc => nomatch hc⟩
  | .str .., K, h => by simp only [frz] at h ⊢; exact ⟨h, fun _ hc => nomatch hc⟩
  | .nilp, K, h => by simp only [frz] at h ⊢; exact ⟨h, fun _ hc => nomatch hc⟩
  | .gp .., K, h => by simp only [frz] at h ⊢; exact ⟨h, fun _ hc => nomatch hc⟩
  | .ep .., K, h => by simp only [frz] at h ⊢; exact ⟨h, fun _ hc => nomatch hc⟩
  | .sl .., K, h => by simp only [frz] at h ⊢; exact ⟨h, fun _ hc => nomatch hc⟩
  | .nils, K, h => by simp only [frz] at h ⊢; exact ⟨h, fun _ hc => nomatch hc⟩
  | .nilf, K, h => by simp only [frz] at h ⊢; exact ⟨h, fun _ hc => nomatch hc⟩
  | .nili, K, h => by simp only [frz] at h ⊢; exact ⟨h, fun _ hc => nomatch hc⟩
  | .arr .., K, h => by simp only [frz] at h ⊢; exact ⟨h, fun _ hc => nomatch hc⟩
theorem foot_frzs : ∀ {l : List MV} {K : List MV × List (Nat × Nat) → Prop}, (frzs m l).runP K → (frzs m l).runP fun x => K x ∧ ∀ z ∈ x.2, z.1 ∈ numsVs l
  | [], K, h => ⟨h, fun _ hc => nomatch hc⟩
  | q :: l, K, h => by
    simp only [frzs] at h ⊢
    refine frz_weak (foot_frz (Ask.bind_runP.1 h)) fun x hx => ?_
    refine frzs_weak (foot_frzs (Ask.bind_runP.1 hx.1)) fun y hy => ⟨hy.1, fun c hc => ?_⟩
    rw [numsVs, List.mem_append]
    rcases List.mem_append.1 hc with hc | hc
    · exact .inl (hx.2 c hc)
    · exact .inr (hy.2 c hc)
end
theorem rds_mono {B : Type} : ∀ {l : List Operand} {k : List MV → Ask A} {k' : List MV → Ask B} {K : A → Prop} {K' : B → Prop}, (∀ vs, l.map (evM e) = vs.map some → (k vs).runP K → (k' vs).runP K') → (rds e l k).runP K → (rds e l k').runP K'
  | [], _, _, _, _, hk, h => hk [] rfl h
  | x :: l, k, k', K, K', hk, h => by
    unfold rds rd at h ⊢
    split at h
    · rename_i v hv
      exact rds_mono (k := fun r => k (v :: r)) (k' := fun r => k' (v :: r)) (fun vs hvs h => hk (v :: vs) (by simp [hv, hvs]) h) h
    · exact h.elim
theorem rds_some : ∀ {l : List Operand} {k : List MV → Ask A} {K : A → Prop}, (rds e l k).runP K → ∃ vs, l.map (evM e) = vs.map some ∧ (k vs).runP K
  | [], _, _, h => ⟨[], rfl, h⟩
  | x :: l, k, K, h => by
    unfold rds rd at h
    split at h
    · rename_i v hv
      obtain ⟨vs, h1, h2⟩ := rds_some (k := fun r => k (v :: r)) h
      exact ⟨v :: vs, by simp [hv, h1], h2⟩
    · exact h.elim
section
variable {ents : List FuncId} {G : GS} {ops : Array Oper} {o : Oper} {n : Nat} {r : MV} {δ : Dl} {m1 : FM}
theorem call_ops {c : Call} {f : Operand} (hf : c.callee = .value f) : (Op.call c).operands.toList = f :: c.args.toList := by simp [Op.operands, Call.operands, hf]
theorem foot_runF (h : runF P T ents G o e m n r δ) : FootD (numsO e o.op.operands.toList) δ := by
  unfold runF at h
  split at h
  · rename_i c hc
    split at h
    · rename_i f hf
      rw [hc, call_ops hf]
      unfold vCallF rd at h
      split at h
      · rename_i v hv
        obtain ⟨vs, h1, h2⟩ := rds_some h
        split at h2
        · obtain ⟨_, x, _, h4, h3⟩ := frzs_isVal (foot_frzs (Ask.bind_runP.1 h2))
          obtain ⟨_, _, rfl, _⟩ := h4
          intro z hz
          have := h3 z hz
          rw [numsVs_app] at this
          simp only [numsO, hv, numsV, numsO_eq h1, List.mem_append] at this ⊢
          exact this.symm
        · exact h2.elim
      · exact h.elim
    · exact foot_eOp h
  · exact foot_eOp h
theorem foot_actF (h : actF P T ents G ops o e m n r δ) : FootD (numsO e o.op.operands.toList) δ := by
  obtain ⟨b, _, h2, h3⟩ := h
  cases b with
  | false => rw [(h3 rfl).2]; trivial
  | true => exact foot_runF (h2 rfl)
theorem runF_loc (ha : AgM m1 m (numsO e o.op.operands.toList)) : runF P T ents G o e m n r δ → runF P T ents G o e m1 n r δ := by
  have hp : eOp P T e m1 n o = eOp P T e m n o := eOp_loc ha
  unfold runF
  split
  · rename_i c hc
    split
    · rename_i f hf
      rw [hc, call_ops hf] at ha
      intro hr
      unfold vCallF rd at hr ⊢
      split at hr
      · rename_i v hv
        refine rds_mono (fun vs hvs h => ?_) hr
        split at h
        · rename_i f0 caps
          have hag : AgM m1 m (numsVs (vs ++ caps)) := fun c hc => ha c (by
            rw [numsVs_app] at hc
            simp only [numsO, hv, numsV, numsO_eq hvs, List.mem_append] at hc ⊢
            exact hc.symm)
          show (frzs m1 (vs ++ caps)).runP _
          rw [frzs_loc hag]
          refine frzs_weak (foot_frzs (Ask.bind_runP.1 h)) fun x hx => ?_
          obtain ⟨⟨p1, p2, p3, p4⟩, p5⟩ := hx
          exact ⟨p1, p2, p3, fun z hz => by rw [hag z.1 (p5 z hz)]; exact p4 z hz⟩
        · exact h.elim
      · exact hr.elim
    · rw [hp]; exact id
  · rw [hp]; exact id
theorem actF_loc (ha : AgM m1 m (numsO e o.op.operands.toList)) : actF P T ents G ops o e m n r δ → actF P T ents G ops o e m1 n r δ := by
  rintro ⟨b, h1, h2, h3⟩; exact ⟨b, h1, fun hb => runF_loc ha (h2 hb), h3⟩
end
end
end Go.Proofs.YtllepnadffndnaaDoor
namespace Go.Proofs.YtllepnadffndnaaDoor
open Go.RowKit
theorem bumpF_comm (m : FM) (l l' : List (Nat × Nat)) : bumpF (bumpF m l) l' = bumpF (bumpF m l') l := by
  funext c
  rw [bumpF_get, bumpF_get, bumpF_get, bumpF_get]
  cases m c with
  | none => rfl
  | some b => simp [Nat.max_assoc, Nat.max_comm (mxB l c)]
theorem sameB_bump (m : FM) (l : List (Nat × Nat)) : SameB m (bumpF m l) := fun c b h => ⟨{ b with pe := Nat.max b.pe (mxB l c) }, by rw [bumpF_get, h]; rfl, rfl, rfl, rfl, rfl⟩
theorem sameB_back (m : FM) (l : List (Nat × Nat)) : SameB (bumpF m l) m := fun c b h => by
  rw [bumpF_get] at h
  cases hb : m c with
  | none => rw [hb] at h; cases h
  | some b' => rw [hb] at h; injection h with h; subst h; exact ⟨b', rfl, rfl, rfl, rfl, rfl⟩
theorem sameB_new {m : FM} {j : Nat} (h : m j = none) (b : MB) : SameB m (fput m j b) := fun c b' hb => by
  have : fput m j b c = some b' := by
    unfold fput
    rw [if_neg]
    · exact hb
    · rintro rfl
      rw [h] at hb
      cases hb
  exact ⟨b', this, rfl, rfl, rfl, rfl⟩
theorem bumpF_new {m : FM} {j : Nat} {b : MB} {l : List (Nat × Nat)} (h : m j = none) (hl : ∀ c ∈ l, m c.1 ≠ none) : bumpF (fput m j b) l = fput (bumpF m l) j b := by
  have h0 : ∀ {l : List (Nat × Nat)}, (∀ c ∈ l, m c.1 ≠ none) → mxB l j = 0 := by
    intro l
    induction l with
    | nil => intro _; rfl
    | cons x l ih =>
      intro hl
      obtain ⟨k, n⟩ := x
      have : k ≠ j := by rintro rfl; exact hl (k, n) (by simp) h
      simp only [mxB, this, if_false]
      exact ih fun c hc => hl c (by simp [hc])
  funext c
  rw [bumpF_get]
  unfold fput
  by_cases hc : c = j
  · subst hc; simp [h0 hl]
  · simp only [hc, if_false]; rw [bumpF_get]
theorem fput_comm {α : Type} {m : Nat → Option α} {i j : Nat} {a b : α} (h : i ≠ j) : fput (fput m i a) j b = fput (fput m j b) i a := by
  funext c
  unfold fput
  by_cases h1 : c = i
  · subst h1; simp [h]
  · simp [h1]
section
variable (Pg : Program) (T : Tab) (N : Nat) (ents : List FuncId) (G : GS)
def vArgsF (e : Nat → Option MV) (f : Operand) (args : List Operand) : Ask (FuncId × List MV) :=
  rd e f fun fv => rds e args fun vs => match fv with
    | .fn f0 caps => .ret (f0, vs ++ caps)
    | _ => .bad
def refF (o : Oper) (n : Nat) (e : Nat → Option MV) (m : FM) (fp : List Nat) (r : MV) (m' : FM) : Prop := match o.op with
  | .call c => match c.callee with
    | .value f => (vArgsF e f c.args.toList).runP fun x => ents.contains x.1 = true ∧ ∃ M, VM.get M = m ∧ vCallZ Pg G M n x.1 x.2 fp fun r' M' => r' = r ∧ VM.get M' = m'
    | _ => False
  | _ => False
def actR (ops : Array Oper) (o : Oper) (n : Nat) (e : Nat → Option MV) (m : FM) (fp : List Nat) (r : MV) (m' : FM) : Prop :=
  ∃ b, gdF ops o e = some b ∧ (b = true → refF Pg ents G o n e m fp r m') ∧ (b = false → r = .undef ∧ m' = m)
def stepF (ops : Array Oper) (rf : Bool) (o : Oper) (n : Nat) (fp : List Nat) (e : Nat → Option MV) (m : FM) (e' : Nat → Option MV) (m' : FM) : Prop :=
  ∃ r, (∀ d, o.dst = some d → d < N) ∧ e' = putF o.dst r e ∧ match rf with
    | false => ∃ δ, actF Pg T ents G ops o e m n r δ ∧ m' = δ.appF n m ∧ fp = numsO e o.op.operands.toList
    | true => actR Pg ents G ops o n e m fp r m'
end
section
variable {Pg : Program} {T : Tab} {N : Nat} {ents : List FuncId} {G : GS} {ops : Array Oper} {o x y : Oper} {e e1 e2 e' : Nat → Option MV} {m m1 m2 m' : FM} {M M2 : VM} {i j n : Nat} {fp fx fy : List Nat} {rf rx ry : Bool} {r : MV}
theorem putF_ne {d : Option Tmp} {r : MV} {e : Nat → Option MV} {l : List Tmp} (h : ∀ t, d = some t → t ∉ l) : ∀ t ∈ l, putF d r e t = e t := by
  intro t ht
  cases d with
  | none => rfl
  | some d =>
    show fput e d r t = e t
    unfold fput
    rw [if_neg]
    rintro rfl
    exact h _ rfl ht
theorem putF_comm {d d' : Option Tmp} {r r' : MV} (h : ∀ t, d = some t → d' ≠ some t) : putF d r (putF d' r' e) = putF d' r' (putF d r e) := by
  cases d with
  | none => rfl
  | some d =>
    cases d' with
    | none => rfl
    | some d' => exact fput_comm fun hh => h d rfl (by rw [hh])
theorem evM_looks {t : Operand} (h : ∀ t ∈ o.looksAt ops, e t = e' t) (ht : t ∈ o.op.operands.toList) : evM e t = evM e' t := evM_ag fun s hs => h s (by
  subst hs
  unfold Oper.looksAt
  refine List.mem_append.2 (.inl ?_)
  rw [List.mem_filterMap]
  exact ⟨_, ht, rfl⟩)
theorem numsO_ag (h : ∀ t ∈ o.looksAt ops, e t = e' t) : numsO e o.op.operands.toList = numsO e' o.op.operands.toList := by
  have key : ∀ l : List Operand, (∀ x ∈ l, evM e x = evM e' x) → numsO e l = numsO e' l := by
    intro l
    induction l with
    | nil => intro _; rfl
    | cons x l ih => intro h; simp only [numsO]; rw [h x (by simp), ih fun y hy => h y (by simp [hy])]
  exact key _ fun x hx => evM_looks h hx
theorem gdF_ag (h : ∀ t ∈ o.looksAt ops, e t = e' t) : gdF ops o e = gdF ops o e' := by
  unfold gdF
  split
  · rfl
  · rename_i j want hg
    split
    · rfl
    · rename_i s hs
      rw [h s (by
        unfold Oper.looksAt
        rw [hg]
        simp [hs])]
theorem refF_ag (h : ∀ t ∈ o.looksAt ops, e t = e' t) : refF Pg ents G o n e m fp r m' → refF Pg ents G o n e' m fp r m' := by
  have hh : ∀ x ∈ o.op.operands.toList, evM e x = evM e' x := fun x hx => evM_looks h hx
  unfold refF
  split
  · rename_i c hc
    split
    · rename_i f hf
      rw [hc, call_ops hf] at hh
      have : vArgsF e f c.args.toList = vArgsF e' f c.args.toList := by
        unfold vArgsF
        rw [rd_ag (hh f (by simp))]
        congr 1; funext v
        rw [rds_ag fun x hx => hh x (by simp [hx])]
      rw [this]; exact id
    · exact id
  · exact id
theorem actR_ag (h : ∀ t ∈ o.looksAt ops, e t = e' t) : actR Pg ents G ops o n e m fp r m' → actR Pg ents G ops o n e' m fp r m' := by
  rintro ⟨b, h1, h2, h3⟩; exact ⟨b, by rw [← gdF_ag h]; exact h1, fun hb => refF_ag h (h2 hb), h3⟩
theorem subN_out {l S : List Nat} (h : subN l S = true) : ∀ c ∈ l, c ∈ S := by
  intro c hc
  unfold subN at h
  rw [List.all_eq_true] at h
  obtain ⟨x, hx, he⟩ := List.any_eq_true.1 (h c hc)
  rw [← Nat.eq_of_beq_eq_true he]; exact hx
theorem get_delM_eq : ∀ (σ : List (Nat × Nat)) (M : VM) (x : Nat), x ∉ σ.map (·.2) → VM.get (delM M σ) x = VM.get M x
  | [], M, x, _ => rfl
  | (c, d) :: σ, M, x, h => by
    simp only [List.map_cons, List.mem_cons, not_or] at h
    show VM.get (delM (VM.del M d) σ) x = _
    rw [get_delM_eq σ _ x h.2, VM.get_del]
    unfold fdel
    rw [if_neg h.1]
theorem get_delM_in : ∀ (σ : List (Nat × Nat)) (M : VM) (x : Nat), x ∈ σ.map (·.2) → VM.get (delM M σ) x = none := by
  intro σ M x h
  cases hx : VM.get (delM M σ) x with
  | none => rfl
  | some b =>
    obtain ⟨_, h2⟩ := get_delM σ M x b hx
    obtain ⟨⟨c, d⟩, h3, rfl⟩ := List.mem_map.1 h
    exact absurd h3 (h2 c)
theorem bump_same {bs : List (Nat × Nat)} {c : Nat} (h : c ∉ bs.map (·.1)) : VM.get (VM.bump M bs) c = VM.get M c := by
  rw [VM.get_bump, bumpF_get]
  have : mxB bs c = 0 := by
    induction bs with
    | nil => rfl
    | cons x l ih =>
      obtain ⟨k, n⟩ := x
      simp only [List.map_cons, List.mem_cons, not_or] at h
      simp only [mxB]
      rw [if_neg fun hh => h.1 (Eq.symm hh)]
      exact ih h.2
  rw [this]
  cases VM.get M c with
  | none => rfl
  | some b => simp
theorem bump_loc {bs : List (Nat × Nat)} {c : Nat} (h : VM.get M2 c = VM.get M c) : VM.get (VM.bump M2 bs) c = VM.get (VM.bump M bs) c := by
  rw [VM.get_bump, VM.get_bump, bumpF_get, bumpF_get, h]
theorem LMatch.loc {args vs : List MV} {M0 : VM} {n0 : Nat} {σ bs : List (Nat × Nat)} (h : LMatch 0 args M0 n0 vs M σ bs) (ha : AgM (VM.get M2) (VM.get M) fp) (h1 : ∀ c ∈ σ.map (·.2), c ∈ fp) (h2 : ∀ c ∈ bs.map (·.1), c ∈ fp) : LMatch 0 args M0 n0 vs M2 σ bs := by
  obtain ⟨q1, q2, q3, q4, q5⟩ := h
  have hb : okB M2 bs := by
    clear q4 q5
    induction bs with
    | nil => trivial
    | cons x l ih =>
      obtain ⟨c, k⟩ := x
      refine ⟨?_, ih (fun c hc => h2 c (by simp at hc ⊢; exact .inr hc)) q2.2⟩
      rw [ha c (h2 c (by simp))]
      exact q2.1
  have hf : fzb M2 bs = fzb M bs := by
    clear q2 q4 q5 hb
    induction bs with
    | nil => rfl
    | cons x l ih =>
      obtain ⟨c, k⟩ := x
      funext d
      show (bif Nat.beq c d then (match VM.get M2 d with | some b => some (b, k) | none => none) else fzb M2 l d) = (bif Nat.beq c d then (match VM.get M d with | some b => some (b, k) | none => none) else fzb M l d)
      by_cases e : c = d
      · subst e
        rw [ha c (h2 c (by simp))]
        simp
      · simp only [beq_ne e, cond_false]
        rw [ih fun c hc => h2 c (by simp at hc ⊢; exact .inr hc)]
  refine ⟨q1, hb, q3, by rw [hf]; exact q4, ?_⟩
  rw [hf]
  clear q3 q4
  induction M0 with
  | nil => trivial
  | cons x M0 ih =>
    obtain ⟨c, b'⟩ := x
    refine ⟨?_, ih q5.2⟩
    rcases q5.1 with h | ⟨c0, b, s1, s2, s3⟩
    · exact .inl h
    · have hc0 : c0 ∈ fp := h1 c0 (List.mem_map.2 ⟨(c, c0), sig_mem (show sig σ c = some c0 from s1), rfl⟩)
      exact .inr ⟨c0, b, s1, by rw [bump_loc (ha c0 hc0)]; exact s2, s3⟩
theorem ren_key {ρ : Nat → Nat} {x : Nat} : ∀ {M1 : VM}, (∀ z ∈ M1, ρ z.1 ≠ x) → VM.get (renM ρ M1) x = none
  | [], _ => rfl
  | (c, b) :: M1, h => by
    show VM.get ((ρ c, _) :: renM ρ M1) x = none
    rw [VM.get_cons, if_neg (h (c, b) (by simp))]
    exact ren_key fun z hz => h z (by simp [hz])
theorem refF_loc (h : refF Pg ents G o n e (VM.get M) fp r m') (ha : AgM (VM.get M2) (VM.get M) fp) : (∃ M2', refF Pg ents G o n e (VM.get M2) fp r (VM.get M2') ∧ ∀ c, VM.get M2 c = VM.get M c → VM.get M2' c = m' c) ∧ ∀ c, c ∉ fp → c ≠ n → m' c = VM.get M c := by
  unfold refF at h ⊢
  split at h
  · rename_i c hc
    split at h
    · rename_i f hf
      have key : ∀ {K : FuncId × List MV → Prop}, (vArgsF e f c.args.toList).runP K → ∃ x, K x ∧ ∀ K' : FuncId × List MV → Prop, K' x → (vArgsF e f c.args.toList).runP K' := by
        intro K hK
        unfold vArgsF at hK ⊢
        obtain ⟨a, h1, h2, h3⟩ := (Sharp.rd fun fv => Sharp.rds fun vs => by cases fv <;> first | exact Sharp.ret _ | exact Sharp.bad) K hK
        exact ⟨a, h2, h3⟩
      obtain ⟨x, ⟨hx, M', hM', args, M0, n0, res, M1, n1, hsem, σ, bs, hL, hin, hk, s1, s2, rfl, rfl⟩, hback⟩ := key h
      have hsub1 := subN_out s1
      have hsub2 := subN_out s2
      have ha' : AgM (VM.get M2) (VM.get M') fp := fun c hc => by rw [hM']; exact ha c hc
      have hin2 : allIn M2 σ = true := by
        clear hL hk hsem h
        induction σ with
        | nil => rfl
        | cons z σ ih =>
          obtain ⟨p, q⟩ := z
          have hin : ((VM.get M' q).isSome && allIn M' σ) = true := hin
          show ((VM.get M2 q).isSome && allIn M2 σ) = true
          rw [Bool.and_eq_true] at hin ⊢
          rw [ha' q (hsub1 q (by simp))]
          refine ⟨hin.1, ih hin.2 ?_ fun c hc => hsub1 c (by simp at hc ⊢; exact .inr hc)⟩
          unfold subN at s1 ⊢
          simp only [List.map_cons, List.all_cons, Bool.and_eq_true] at s1
          exact s1.2
      refine ⟨⟨_, hback _ ⟨hx, M2, rfl, args, M0, n0, res, M1, n1, hsem, σ, bs, hL.loc ha' hsub1 hsub2, hin2, hk, s1, s2, rfl, rfl⟩, fun c hc => ?_⟩, fun c hc hcn => ?_⟩
      · rw [get_app, get_app]
        have : VM.get (delM (VM.bump M2 bs) σ) c = VM.get (delM (VM.bump M' bs) σ) c := by
          by_cases hs : c ∈ σ.map (·.2)
          · rw [get_delM_in _ _ _ hs, get_delM_in _ _ _ hs]
          · rw [get_delM_eq _ _ _ hs, get_delM_eq _ _ _ hs, bump_loc (by rw [hM']; exact hc)]
        rw [this]
      · rw [get_app, ren_key fun z hz => ?_]
        · show VM.get (delM (VM.bump M' bs) σ) c = _
          rw [get_delM_eq _ _ _ fun hs => hc (hsub1 c hs), bump_same fun hs => hc (hsub2 c hs), hM']
        · unfold rhoZ
          cases hd : sig σ z.1 with
          | none => exact fun h => hcn h.symm
          | some d =>
            rintro rfl
            exact hc (hsub1 _ (List.mem_map.2 ⟨(z.1, d), sig_mem hd, rfl⟩))
    · exact h.elim
  · exact h.elim
theorem step_swapV (h1 : stepF Pg T N ents G ops false x i fx e m e1 m1) (h2 : stepF Pg T N ents G ops false y j fy e1 m1 e2 m2) (ha : x.apart ops y = true) (hc : okC (kls x) (kls y) = true) (hij : i ≠ j) (_hi : m i = none) (hj : m j = none) :
    ∃ e' m', stepF Pg T N ents G ops false y j fy e m e' m' ∧ stepF Pg T N ents G ops false x i fx e' m' e2 m2 := by
  obtain ⟨rx, dx, rfl, δx, ax, rfl, nx⟩ := h1
  obtain ⟨ry, dy, rfl, δy, ay, rfl, ny⟩ := h2
  obtain ⟨p1, p2, p3⟩ := Oper.apart_spec ha
  have ay' : actF Pg T ents G ops y e (δx.appF i m) j ry δy := actF_env (putF_ne p1) ay
  have ex : ∀ {m'}, actF Pg T ents G ops x e m' i rx δx → actF Pg T ents G ops x (putF y.dst ry e) m' i rx δx := actF_env fun t ht => (putF_ne p3 t ht).symm
  have hput := putF_comm (e := e) (d := y.dst) (d' := x.dst) (r := ry) (r' := rx) fun t h h' => p2 t h' h
  suffices h : actF Pg T ents G ops y e m j ry δy ∧ actF Pg T ents G ops x e (δy.appF j m) i rx δx ∧ δy.appF j (δx.appF i m) = δx.appF i (δy.appF j m) from
    ⟨_, _, ⟨ry, dy, rfl, δy, h.1, rfl, ny.trans (numsO_ag (putF_ne p1))⟩, ⟨rx, dx, hput, δx, ex h.2.1, h.2.2, nx.trans (numsO_ag fun t ht => (putF_ne p3 t ht).symm)⟩⟩
  have ox := actF_out ax
  have oy := actF_out ay'
  match hx : kls x, hy : kls y, hc with
  | 0, _, _ =>
    rw [hx] at ox
    obtain rfl : δx = .none := ox
    exact ⟨ay', actF_nomem (by rw [hx]; rfl) ax, rfl⟩
  | _ + 1, 0, _ =>
    rw [hy] at oy
    obtain rfl : δy = .none := oy
    exact ⟨actF_nomem (by rw [hy]; rfl) ay', ax, rfl⟩
  | 1, 1, _ =>
    rw [hx] at ox
    rw [hy] at oy
    refine ⟨actF_nomem (by rw [hy]; rfl) ay', actF_nomem (by rw [hx]; rfl) ax, ?_⟩
    rcases ox with rfl | ⟨b, rfl⟩
    · rfl
    · rcases oy with rfl | ⟨b', rfl⟩
      · rfl
      · exact fput_comm hij
  | 2, 1, _ =>
    rw [hx] at ox
    rw [hy] at oy
    refine ⟨actF_nomem (by rw [hy]; rfl) ay', ?_, ?_⟩
    · rcases oy with rfl | ⟨b', rfl⟩
      · exact ax
      · exact actF_read hx (sameB_new hj _) ax
    · rcases oy with rfl | ⟨b', rfl⟩
      · rfl
      · rcases ox with rfl | ⟨l, rfl, hl⟩
        · rfl
        · exact (bumpF_new hj hl).symm
  | 2, 2, _ =>
    rw [hx] at ox
    rw [hy] at oy
    rcases ox with rfl | ⟨l, rfl, hl⟩
    · rcases oy with rfl | ⟨l', rfl, hl'⟩
      · exact ⟨ay', ax, rfl⟩
      · exact ⟨ay', actF_read hx (sameB_bump _ _) ax, rfl⟩
    · rcases oy with rfl | ⟨l', rfl, hl'⟩
      · exact ⟨actF_read hy (sameB_back _ _) ay', ax, rfl⟩
      · exact ⟨actF_read hy (sameB_back _ _) ay', actF_read hx (sameB_bump _ _) ax, bumpF_comm _ _ _⟩
  | 1, _ + 2, h => cases h
  | 2, _ + 3, h => cases h
  | _ + 3, _ + 1, h => cases h
theorem actR_loc (h : actR Pg ents G ops o n e (VM.get M) fp r m') (ha : AgM (VM.get M2) (VM.get M) fp) : (∃ M2', actR Pg ents G ops o n e (VM.get M2) fp r (VM.get M2') ∧ ∀ c, VM.get M2 c = VM.get M c → VM.get M2' c = m' c) ∧ ∀ c, c ∉ fp → c ≠ n → m' c = VM.get M c := by
  obtain ⟨b, h1, h2, h3⟩ := h
  cases b with
  | true =>
    obtain ⟨⟨M2', p1, p2⟩, p3⟩ := refF_loc (h2 rfl) ha
    exact ⟨⟨M2', ⟨true, h1, fun _ => p1, fun h => nomatch h⟩, p2⟩, p3⟩
  | false =>
    obtain ⟨rfl, rfl⟩ := h3 rfl
    exact ⟨⟨M2, ⟨false, h1, fun h => (nomatch h), fun _ => ⟨rfl, rfl⟩⟩, fun _ hc => hc⟩, fun _ _ _ => rfl⟩
theorem step_loc (h : stepF Pg T N ents G ops rf o n fp e (VM.get M) e1 m1) (he : ∀ t ∈ o.looksAt ops, e t = e' t) (ha : ∀ c, c ∈ fp ∨ c = n → VM.get M2 c = VM.get M c) :
    ∃ r, e1 = putF o.dst r e ∧ (∃ M2', stepF Pg T N ents G ops rf o n fp e' (VM.get M2) (putF o.dst r e') (VM.get M2') ∧ ∀ c, c ∈ fp ∨ c = n → VM.get M2' c = m1 c) := by
  obtain ⟨r, hd, rfl, h⟩ := h
  refine ⟨r, rfl, ?_⟩
  cases rf with
  | false =>
    obtain ⟨δ, h1, rfl, rfl⟩ := h
    have hf := foot_actF h1
    refine ⟨δ.app n M2, ⟨r, hd, rfl, δ, actF_loc (fun c hc => ha c (.inl (by rw [numsO_ag he]; exact hc))) (actF_env he h1), Dl.get_app _ _ _, (numsO_ag he)⟩, fun c hc => ?_⟩
    rw [Dl.get_app]
    exact appF_in hf ha hc
  | true =>
    obtain ⟨⟨M2', p1, p2⟩, p3⟩ := actR_loc h (M2 := M2) fun c hc => ha c (.inl hc)
    exact ⟨M2', ⟨r, hd, rfl, actR_ag he p1⟩, fun c hc => p2 c (ha c hc)⟩
theorem step_out (h : stepF Pg T N ents G ops rf o n fp e (VM.get M) e1 m1) {c : Nat} (h1 : c ∉ fp) (h2 : c ≠ n) : m1 c = VM.get M c := by
  obtain ⟨r, hd, rfl, h⟩ := h
  cases rf with
  | false =>
    obtain ⟨δ, h3, rfl, rfl⟩ := h
    exact appF_out (foot_actF h3) h1 h2
  | true => exact (actR_loc h (M2 := M) fun _ _ => rfl).2 c h1 h2
theorem step_vm (h : stepF Pg T N ents G ops rf o n fp e (VM.get M) e1 m1) : ∃ M', VM.get M' = m1 := by
  obtain ⟨r, hd, rfl, h⟩ := h
  cases rf with
  | false => obtain ⟨δ, _, rfl, _⟩ := h; exact ⟨δ.app n M, Dl.get_app _ _ _⟩
  | true =>
    obtain ⟨b, h1, h2, h3⟩ := h
    cases b with
    | false => exact ⟨M, (h3 rfl).2.symm⟩
    | true =>
      have h := h2 rfl
      unfold refF at h
      split at h
      · split at h
        · unfold vArgsF rd at h
          split at h
          · obtain ⟨vs, _, h⟩ := rds_some h
            split at h
            · obtain ⟨_, M0, _, args, M0', n0, res, M1, n1, _, σ, bs, _, _, _, _, _, _, hm⟩ := h
              exact ⟨_, hm⟩
            · exact h.elim
          · exact h.elim
        · exact h.elim
      · exact h.elim
def disN (a b : List Nat) : Bool := a.all fun x => b.all fun y => !Nat.beq x y
theorem disN_out {a b : List Nat} (h : disN a b = true) : ∀ c, c ∈ a → c ∉ b := by
  intro c ha hb
  unfold disN at h
  rw [List.all_eq_true] at h
  have := h c ha
  rw [List.all_eq_true] at this
  simpa using this c hb
theorem step_swapD (h1 : stepF Pg T N ents G ops rx x i fx e (VM.get M) e1 m1) (h2 : stepF Pg T N ents G ops ry y j fy e1 m1 e2 m2) (ha : x.apart ops y = true) (hd : disN (i :: fx) (j :: fy) = true) :
    ∃ e' m', stepF Pg T N ents G ops ry y j fy e (VM.get M) e' m' ∧ stepF Pg T N ents G ops rx x i fx e' m' e2 m2 := by
  obtain ⟨p1, p2, p3⟩ := Oper.apart_spec ha
  have hdis := disN_out hd
  have cy : ∀ {c}, (c ∈ fx ∨ c = i) → c ∉ fy ∧ c ≠ j := fun {c} hc => by
    have := hdis c (by rcases hc with h | h <;> simp [h])
    simp only [List.mem_cons, not_or] at this
    exact ⟨this.2, this.1⟩
  have cx : ∀ {c}, (c ∈ fy ∨ c = j) → c ∉ fx ∧ c ≠ i := fun {c} hc => by
    refine ⟨fun h => ?_, fun h => ?_⟩
    · obtain ⟨q1, q2⟩ := cy (.inl h)
      exact hc.elim q1 q2
    · obtain ⟨q1, q2⟩ := cy (.inr h)
      exact hc.elim q1 q2
  obtain ⟨M1, rfl⟩ := step_vm h1
  obtain ⟨rvx, hdx, he1, h1b⟩ := h1
  have h1' : stepF Pg T N ents G ops rx x i fx e (VM.get M) e1 (VM.get M1) := ⟨rvx, hdx, he1, h1b⟩
  subst he1
  obtain ⟨rvy, rfl, M', q1, q2⟩ := step_loc (e' := e) (M2 := M) h2 (putF_ne p1) fun c hc => (step_out h1' (cx hc).1 (cx hc).2).symm
  obtain ⟨rvx', hx', M'', q3, q4⟩ := step_loc (e' := putF y.dst rvy e) (M2 := M') h1' (fun t ht => (putF_ne p3 t ht).symm) fun c hc => step_out q1 (cy hc).1 (cy hc).2
  have hput := putF_comm (e := e) (d := y.dst) (d' := x.dst) (r := rvy) (r' := rvx) fun t h h' => p2 t h' h
  refine ⟨_, _, q1, ?_⟩
  have hm : VM.get M'' = m2 := by
    funext c
    by_cases c1 : c ∈ fx ∨ c = i
    · rw [q4 c c1, step_out h2 (cy c1).1 (cy c1).2]
    · have c1' : c ∉ fx ∧ c ≠ i := ⟨fun h => c1 (.inl h), fun h => c1 (.inr h)⟩
      rw [step_out q3 c1'.1 c1'.2]
      by_cases c2 : c ∈ fy ∨ c = j
      · exact q2 c c2
      · have c2' : c ∉ fy ∧ c ≠ j := ⟨fun h => c2 (.inl h), fun h => c2 (.inr h)⟩
        rw [step_out q1 c2'.1 c2'.2, step_out h2 c2'.1 c2'.2, step_out h1' c1'.1 c1'.2]
  rw [hm] at q3
  obtain ⟨r3, hd3, he3, hb3⟩ := q3
  refine ⟨r3, hd3, ?_, hb3⟩
  rw [hput]
  rw [← he3]
  cases hxd : x.dst with
  | none => rfl
  | some d =>
    rw [hxd] at hx'
    have : rvx = rvx' := by
      have := congrFun hx' d
      simpa [putF, fput] using this
    rw [this]
end
end Go.Proofs.YtllepnadffndnaaDoor
namespace Go.Proofs.YtllepnadffndnaaDoor
open Go.RowKit
structure SimS (N : Nat) (w0 : World) (ex0 : Anc) (P0 : Prot) (e : Nat → Option MV) (m : FM) (F : Nat → Prop) (a : Act) (w : World) : Prop where
  ex : ∃ P adr, InvM w P adr m ∧ EnvR w P adr e a ∧ (∀ c, F c → adr c = none) ∧ AdrOK w0 ex0 P0 w P adr ∧ (∀ b o, P b o → P0 b o ∨ w0.heap.size ≤ b ∨ ex0.ex b)
  fresh : ∀ c, F c → m c = none
  ge : ∀ c, F c → ex0.n0 ≤ c
  since : Since ex0.ex w0 w
  defers : a.defers = []
  size : a.tmps.size = N
section
variable {Pg : Program} {T : Tab} {N : Nat} {ents : List FuncId} {G : GS} {w0 w w' : World} {ex0 : Anc} {P0 P : Prot} {adr : Adr} {e e' : Nat → Option MV} {m m' : FM} {n : Nat} {F F' : Nat → Prop} {a : Act} {r : MV} {u : Value} {δ : Dl} {ops : Array Oper} {o : Oper}
theorem Sim.toS (h : Sim N w0 ex0 P0 e m n a w) : SimS N w0 ex0 P0 e m (n ≤ ·) a w := ⟨h.ex, h.fresh, fun c hc => Nat.le_trans h.ge hc, h.since, h.defers, h.size⟩
theorem SimS.toSim (h : SimS N w0 ex0 P0 e m F a w) (hn : ∀ c, n ≤ c → F c) : Sim N w0 ex0 P0 e m n a w := by
  obtain ⟨P, adr, h1, h2, h3, h4, h5⟩ := h.ex
  exact ⟨⟨P, adr, h1, h2, fun c hc => h3 c (hn c hc), h4, h5⟩, fun c hc => h.fresh c (hn c hc), h.ge n (hn n (Nat.le_refl _)), h.since, h.defers, h.size⟩
theorem runF_ok (hS : SeatM Pg T ents G w0 ex0) (h : runF Pg T ents G o e m n r δ) (hI : InvM w P adr m) (hn : adr n = none) (hf : m n = none) (hE : EnvR w P adr e a) (hs : Since ex0.ex w0 w)
    {next : Act → World → Prop} {Q : Exit → Act → World → Prop} (hK : ∀ u w', Post1 w P adr m n r δ u w' → next (a.put o.dst u) w') : o.wp Pg a w next Q := by
  have plain : (eOp Pg T e m n o).runP (fun x => x = (r, δ)) → o.wp Pg a w next Q := by
    intro h
    obtain ⟨r', δ', hk, hr⟩ := eOp_ok hS.seat.tab hI hn hf hE h
    injection hk with hk1 hk2
    subst hk1; subst hk2
    unfold Oper.wp
    rcases hr with ⟨u, w', h1, h2⟩ | ⟨w', h1, h2⟩
    · rw [h1]; exact hK u w' h2
    · rw [h1]; exact hK undef w' h2
  obtain ⟨dst, op, ty, pos, after, guard⟩ := o
  cases op with
  | call c =>
    obtain ⟨callee, args, ats⟩ := c
    cases callee with
    | builtin b => exact plain h
    | invoke r n => exact plain h
    | value f =>
      replace h : (vCallF e m f args.toList).runP fun x => ents.contains x.1 = true ∧ SemC Pg G x.1 x.2.1 r ∧ δ = .bump x.2.2 ∧ ∀ c ∈ x.2.2, m c.1 ≠ none := h
      unfold vCallF at h
      obtain ⟨pf, h, hpf⟩ := rd_out hE h
      obtain ⟨ps, h, hps⟩ := rds_out hE h
      cases pf with
      | fn f0 caps =>
        replace h := Ask.bind_runP.1 h
        generalize hu : a.eval f = uf at hpf
        cases hpf with
        | val cs hfn =>
          cases hfn with
          | fn parts hpl hpr =>
            have hall := hps.app (RepVs.of_parts hpl hpr)
            obtain ⟨l', bs, h, P', h1, h2, h3, h4⟩ := frzs_vals h hall hI
            obtain ⟨hc, hsem, rfl, _⟩ := h
            replace hc : ents.contains f0 = true := hc
            replace hsem : SemC Pg G f0 l' r := hsem
            have hrun : (execOp a.eval ⟨dst, .call ⟨.value f, args, ats⟩, ty, pos, after, guard⟩).run Pg w = .ok (.enter f0 (args.toList.map a.eval ++ List.zipWith valM caps parts).toArray) w := by
              have he := hS.seat.enters f0 (by simpa using hc) (args.toList.map a.eval ++ List.zipWith valM caps parts).toArray w
              rw [← he]
              have hmap : args.map a.eval = (args.toList.map a.eval).toArray := arr_map _ _
              simp [execOp, resolve, hu, valM, MV.isAgg, Deferred.ofValue, invoke, hmap]
            unfold Oper.wp
            rw [hrun]
            refine (hsem w P' _ (hS.good w hs) h1.prot h4).mono ?_
            rintro e w' ⟨v, rfl, h5, h6⟩
            refine hK v w' ⟨protNew w w' P', adr, ?_, by exact h1.below h6, h2.trans (Keep.below h1.prot h6), fun _ _ => rfl, fun g hg => (by rw [hn] at hg; cases hg), (Since.of_below h6).weak fun _ e => e.elim, fun b o hb => ?_⟩
            · exact h5.keep ⟨fun _ _ h => h, fun _ _ _ => rfl, fun _ _ h => (nomatch h), fun _ _ _ _ h => nomatch h⟩
            · rcases hb with hb | hb
              · rcases h3 b o hb with hb | hb
                · exact .inl hb
                · exact .inr (.inr hb)
              · exact .inr (.inl hb.1)
      | _ => exact h.elim
  | _ => exact plain h
theorem bumpF_none : ∀ {l : List (Nat × Nat)} {m : FM} {c : Nat}, m c = none → bumpF m l c = none := by
  intro l m c h
  rw [bumpF_get, h]; rfl
theorem appF_none {c : Nat} (h : m c = none) (hc : c ≠ n) : δ.appF n m c = none := by
  cases δ with
  | none => exact h
  | new b => show fput _ _ _ c = none; rw [fput_ne _ _ hc]; exact h
  | upd c' l =>
    show (match m c' with | some b => fput m c' { b with l := l } | none => m) c = none
    cases hb : m c' with
    | none => exact h
    | some b =>
      show fput _ c' _ c = none
      rw [fput_ne]
      · exact h
      · rintro rfl; rw [h] at hb; cases hb
  | mv c' b =>
    show fput _ _ _ c = none
    rw [fput_ne _ _ hc]
    unfold fdel
    split
    · rfl
    · exact h
  | bump l => exact bumpF_none h
theorem SimS.post (hs : SimS N w0 ex0 P0 e m F a w) (hI : InvM w P adr m) (hE : EnvR w P adr e a) (hn : ∀ c, F c → adr c = none) (hg : AdrOK w0 ex0 P0 w P adr) (hp : ∀ b o, P b o → P0 b o ∨ w0.heap.size ≤ b ∨ ex0.ex b)
    (hpo : Post1 w P adr m n r δ u w') {dst : Option Tmp} (hd : ∀ d, dst = some d → d < N) (hFn : F n) (hF : ∀ c, F' c → F c ∧ c ≠ n) : SimS N w0 ex0 P0 (putF dst r e) (δ.appF n m) F' (a.put dst u) w' := by
  obtain ⟨P', adr', h1, h2, h3, h4, h5, h6, h7⟩ := hpo
  have hE' : EnvR w' P' adr' e a := fun t v ht => by
    obtain ⟨u, e1, e2⟩ := hE t v ht
    exact ⟨u, e1, e2.keep h3⟩
  have hsize := hs.since.size
  have common : ∀ {e' : Nat → Option MV} {a' : Act}, EnvR w' P' adr' e' a' → a'.defers = [] → a'.tmps.size = N → SimS N w0 ex0 P0 e' (δ.appF n m) F' a' w' := by
    intro e' a' e1 e2 e3
    refine ⟨⟨P', adr', h2, e1, fun c hc => ?_, ⟨fun c g hc => ?_, fun c hc => (h4 c (by have := hs.ge n hFn; omega)).trans (hg.old c hc), hg.keep.trans h3⟩, fun b o ho => ?_⟩, fun c hc => ?_, fun c hc => hs.ge c (hF c hc).1, ?_, e2, e3⟩
    · rw [h4 c (hF c hc).2]; exact hn c (hF c hc).1
    · by_cases e : c = n
      · subst e
        rcases h5 g hc with h | ⟨c', h⟩
        · exact .inl (Nat.le_trans hsize h)
        · exact hg.in_ c' g h
      · rw [h4 c e] at hc; exact hg.in_ c g hc
    · rcases h7 b o ho with h | h | ⟨c', h⟩
      · exact hp b o h
      · exact .inr (.inl (Nat.le_trans hsize h))
      · rcases hg.in_ c' b h with h | h
        · exact .inr (.inl h)
        · exact .inr (.inr h)
    · exact appF_none (hs.fresh c (hF c hc).1) (hF c hc).2
    · exact ⟨h6.os.trans hs.since.os, h6.tape.trans hs.since.tape, h6.output.trans hs.since.output, Nat.le_trans hsize h6.size, fun b hb hne => (h6.block b (Nat.lt_of_lt_of_le hb hsize) (fun ⟨c, hc⟩ => by
        rcases hg.in_ c b hc with h | h
        · omega
        · exact hne h)).trans (hs.since.block b hb hne)⟩
  cases dst with
  | none => exact common hE' hs.defers hs.size
  | some d =>
    have hd' := hd d rfl
    refine common ?_ hs.defers (by simp [Act.put, hs.size])
    intro t v ht
    simp only [Act.put, Array.getElem?_setIfInBounds]
    replace ht : fput e d r t = some v := ht
    unfold fput at ht
    split at ht
    · rename_i e
      subst e
      injection ht with ht
      subst ht
      exact ⟨u, by simp [hs.size, hd'], h1⟩
    · rename_i hne
      rw [if_neg fun h => hne h.symm]
      exact hE' t v ht
theorem SimS.put (hd : a.defers = []) (hz : a.tmps.size = N) {w' : World} {P' : Prot} {adr' : Adr} (hI : InvM w' P' adr' m') (hE : EnvR w' P' adr' e a) (hr : RepV w' P' adr' r u) (h1 : ∀ c, F' c → adr' c = none) (h2 : AdrOK w0 ex0 P0 w' P' adr')
    (h3 : ∀ b o, P' b o → P0 b o ∨ w0.heap.size ≤ b ∨ ex0.ex b) (h4 : ∀ c, F' c → m' c = none) (h5 : ∀ c, F' c → ex0.n0 ≤ c) (h6 : Since ex0.ex w0 w') {dst : Option Tmp} (hdl : ∀ d, dst = some d → d < N) : SimS N w0 ex0 P0 (putF dst r e) m' F' (a.put dst u) w' := by
  cases dst with
  | none => exact ⟨⟨P', adr', hI, hE, h1, h2, h3⟩, h4, h5, h6, hd, hz⟩
  | some d =>
    have hd' := hdl d rfl
    refine ⟨⟨P', adr', hI, fun t v ht => ?_, h1, h2, h3⟩, h4, h5, h6, hd, by simp [Act.put, hz]⟩
    simp only [Act.put, Array.getElem?_setIfInBounds]
    replace ht : fput e d r t = some v := ht
    unfold fput at ht
    split at ht
    · rename_i e
      subst e
      injection ht with ht
      subst ht
      exact ⟨u, by simp [hz, hd'], hr⟩
    · rename_i hne
      rw [if_neg fun h => hne h.symm]
      exact hE t v ht
theorem stepF_out (hS : SeatM Pg T ents G w0 ex0) {rf : Bool} {fp : List Nat} {next : Act → World → Prop} {Q : Exit → Act → World → Prop} (hs : SimS N w0 ex0 P0 e m F a w) (hn : F n) (hF : ∀ c, F' c → F c ∧ c ≠ n)
    (h : stepF Pg T N ents G ops rf o n fp e m e' m') (hk : ∀ a w, SimS N w0 ex0 P0 e' m' F' a w → next a w) :
    if Region.wanted o (yielded ops a.tmps) then o.wp Pg a w next Q ∨ (o.asks Pg a w ∧ LetsOut Q) else next (a.put o.dst undef) w := by
  obtain ⟨r, hd, rfl, h⟩ := h
  obtain ⟨P, adr, hI, hE, ha1, ha2, ha3⟩ := hs.ex
  have wanted : ∀ {b}, gdF ops o e = some b → Region.wanted o (yielded ops a.tmps) = b := by
    intro b hb
    unfold gdF at hb
    split at hb
    · rename_i hg
      injection hb with hb
      simp [Region.wanted, hg, ← hb]
    · rename_i j want hg
      split at hb
      · cases hb
      · rename_i s hj
        split at hb
        · rename_i t ht
          injection hb with hb
          obtain ⟨v, hv1, hv2⟩ := hE s _ ht
          have hv := hv2.bool_
          subst hv
          have hy : yielded ops a.tmps j = some t := by simp [yielded, hj, hv1]
          simp only [Region.wanted, hg, hy, ← hb]
          cases t <;> cases want <;> rfl
        · rename_i ht
          injection hb with hb
          obtain ⟨v, hv1, hv2⟩ := hE s _ ht
          have hv : v = undef := hv2.undef_
          subst hv
          have hy : yielded ops a.tmps j = none := by simp [yielded, hj, hv1, undef]
          simp [Region.wanted, hg, hy, ← hb]
        · cases hb
  cases rf with
  | false =>
    obtain ⟨δ, ⟨b, hb, h1, h2⟩, rfl, _⟩ := h
    rw [wanted hb]
    cases b with
    | true =>
      rw [if_pos rfl]
      refine .inl (runF_ok hS (h1 rfl) hI (ha1 n hn) (hs.fresh n hn) hE hs.since fun u w' hp => hk _ _ ?_)
      exact hs.post hI hE ha1 ha2 ha3 hp hd hn hF
    | false =>
      rw [if_neg (by simp)]
      obtain ⟨rfl, rfl⟩ := h2 rfl
      exact hk _ _ (hs.post (δ := .none) hI hE ha1 ha2 ha3 (Post1.pure hI (ha1 n hn) .undef) hd hn hF)
  | true =>
    obtain ⟨b, hb, h1, h2⟩ := h
    rw [wanted hb]
    cases b with
    | false =>
      rw [if_neg (by simp)]
      obtain ⟨rfl, rfl⟩ := h2 rfl
      exact hk _ _ (hs.post (δ := .none) hI hE ha1 ha2 ha3 (Post1.pure hI (ha1 n hn) .undef) hd hn hF)
    | true =>
      rw [if_pos rfl]
      have h := h1 rfl
      obtain ⟨dst, op, ty, pos, after, guard⟩ := o
      unfold refF at h
      cases op with
      | call c =>
        obtain ⟨callee, args, ats⟩ := c
        cases callee with
        | value f =>
          replace h : (vArgsF e f args.toList).runP fun x => ents.contains x.1 = true ∧ ∃ M, VM.get M = m ∧ vCallZ Pg G M n x.1 x.2 fp fun r' M' => r' = r ∧ VM.get M' = m' := h
          unfold vArgsF at h
          obtain ⟨pf, h, hpf⟩ := rd_out hE h
          obtain ⟨ps, h, hps⟩ := rds_out hE h
          cases pf with
          | fn f0 caps =>
            generalize hu : a.eval f = uf at hpf
            cases hpf with
            | val cs hfn =>
              cases hfn with
              | fn parts hpl hpr =>
                have hall := hps.app (RepVs.of_parts hpl hpr)
                replace h : ents.contains f0 = true ∧ ∃ M, VM.get M = m ∧ vCallZ Pg G M n f0 (ps ++ caps) fp fun r' M' => r' = r ∧ VM.get M' = m' := h
                obtain ⟨hc, M, rfl, hz⟩ := h
                have hrun : (execOp a.eval ⟨dst, .call ⟨.value f, args, ats⟩, ty, pos, after, guard⟩).run Pg w = .ok (.enter f0 (args.toList.map a.eval ++ List.zipWith valM caps parts).toArray) w := by
                  have he := hS.seat.enters f0 (by simpa using hc) (args.toList.map a.eval ++ List.zipWith valM caps parts).toArray w
                  rw [← he]
                  have hmap : args.map a.eval = (args.toList.map a.eval).toArray := arr_map _ _
                  simp [execOp, resolve, hu, valM, MV.isAgg, Deferred.ofValue, invoke, hmap]
                refine .inl ?_
                unfold Oper.wp
                rw [hrun]
                refine (vCallZ_ok hS hz hs.since (hs.fresh n hn) (hs.ge n hn) (ha1 n hn) hI hE ha2 ha3 hall).mono ?_
                rintro e w' ⟨v, rfl, r', M', ⟨rfl, rfl⟩, P', adr1, q1, q2, q3, q8, q4, q5, q6, q7⟩
                exact hk _ _ (SimS.put hs.defers hs.size q1 q2 q3 (fun c hc => (q8 c (hF c hc).2).trans (ha1 c (hF c hc).1)) q4 q5 (fun c hc => q6 c (hF c hc).2 (hs.fresh c (hF c hc).1)) (fun c hc => hs.ge c (hF c hc).1) q7 hd)
          | _ => exact h.elim
        | _ => exact h.elim
      | _ => exact h.elim
end
end Go.Proofs.YtllepnadffndnaaDoor
namespace Go.Proofs.YtllepnadffndnaaDoor
open Go.RowKit
section
variable (Pg : Program) (T : Tab) (N : Nat) (ents : List FuncId) (G : GS)
structure Dop where
  k : Nat
  n : Nat
  rf : Bool
  fp : List Nat
def runL (ops : Array Oper) : List Dop → (Nat → Option MV) → FM → (Nat → Option MV) → FM → Prop
  | [], e, m, e', m' => e = e' ∧ m = m'
  | x :: L, e, m, e', m' => ∃ o e1 m1, ops[x.k]? = some o ∧ stepF Pg T N ents G ops x.rf o x.n x.fp e m e1 m1 ∧ runL ops L e1 m1 e' m'
end
def okC2 (x y : Dop) (a b : Oper) : Bool := (!x.rf && !y.rf && okC (kls a) (kls b)) || disN (x.n :: x.fp) (y.n :: y.fp)
def okR (ops : Array Oper) (x y : Dop) : Bool := match ops[x.k]?, ops[y.k]? with
  | some a, some b => ((a.apart ops b && okC2 x y a b) || pathO ops 8 y.k x.k) && a.after.toList.all (fun e => !Region.binds .any e || !Nat.beq e.on y.k) && !Nat.beq x.k y.k
  | _, _ => false
def okS (ops : Array Oper) (x : Nat) : Bool := match ops[x]? with
  | some a => a.after.toList.all fun e => !Region.binds .any e || (Nat.blt e.on ops.size && !Nat.beq e.on x)
  | none => false
def okLs (ops : Array Oper) : List Dop → Bool
  | [] => true
  | x :: L => okS ops x.k && L.all (fun y => okR ops x y) && okLs ops L
def okDraw (ops : Array Oper) (L : List Dop) : Bool := okLs ops L && (List.range ops.size).all (fun k => (L.map (·.k)).contains k) && Nat.ble L.length ops.size
theorem okLs_spec {ops : Array Oper} : ∀ {L : List Dop}, okLs ops L = true → L.Pairwise (fun x y => okR ops x y = true) ∧ ∀ x ∈ L, okS ops x.k = true
  | [], _ => ⟨.nil, fun _ h => nomatch h⟩
  | x :: L, h => by
    simp only [okLs, Bool.and_eq_true, List.all_eq_true] at h
    obtain ⟨h1, h2⟩ := okLs_spec h.2
    refine ⟨.cons h.1.2 h1, fun y hy => ?_⟩
    rcases List.mem_cons.1 hy with rfl | hy
    · exact h.1.1
    · exact h2 y hy
section
variable {Pg : Program} {T : Tab} {N : Nat} {ents : List FuncId} {G : GS} {ops : Array Oper} {e e' : Nat → Option MV} {m m' : FM} {listed : Array Bool}
theorem step_swap {x y : Dop} {a b : Oper} {e1 e2 : Nat → Option MV} {m1 m2 : FM} (hm : ∃ M, VM.get M = m) (h1 : stepF Pg T N ents G ops x.rf a x.n x.fp e m e1 m1) (h2 : stepF Pg T N ents G ops y.rf b y.n y.fp e1 m1 e2 m2) (ha : a.apart ops b = true) (hc : okC2 x y a b = true) (hij : x.n ≠ y.n) (hi : m x.n = none) (hj : m y.n = none) :
    ∃ e' m', stepF Pg T N ents G ops y.rf b y.n y.fp e m e' m' ∧ stepF Pg T N ents G ops x.rf a x.n x.fp e' m' e2 m2 := by
  obtain ⟨M, rfl⟩ := hm
  unfold okC2 at hc
  rw [Bool.or_eq_true] at hc
  rcases hc with hc | hc
  · simp only [Bool.and_eq_true, Bool.not_eq_true'] at hc
    obtain ⟨⟨q1, q2⟩, q3⟩ := hc
    rw [q1] at h1 ⊢
    rw [q2] at h2 ⊢
    exact step_swapV h1 h2 ha q3 hij hi hj
  · exact step_swapD h1 h2 ha hc
theorem stepF_none {o : Oper} {rf : Bool} {fp : List Nat} {n c : Nat} (hm0 : ∃ M, VM.get M = m) (h : stepF Pg T N ents G ops rf o n fp e m e' m') (hm : m c = none) (hc : c ≠ n) : m' c = none := by
  obtain ⟨r, _, _, h⟩ := h
  cases rf with
  | false => obtain ⟨δ, _, rfl, _⟩ := h; exact appF_none hm hc
  | true =>
    obtain ⟨M0, rfl⟩ := hm0
    obtain ⟨b, h1, h2, h3⟩ := h
    cases b with
    | false => rw [(h3 rfl).2]; exact hm
    | true =>
      have h := h2 rfl
      unfold refF at h
      split at h
      · split at h
        · unfold vArgsF rd at h
          split at h
          · obtain ⟨vs, _, h⟩ := rds_some h
            split at h
            · obtain ⟨_, M, hM, args, M0', n0, res, M1, n1, _, σ, bs, hL, hin, hk, _, _, _, hm'⟩ := h
              rw [← hm', get_app, ren_key fun z hz => ?_]
              · cases hx : VM.get (delM (VM.bump M bs) σ) c with
                | none => rfl
                | some b =>
                  obtain ⟨h4, _⟩ := get_delM σ _ c b hx
                  obtain ⟨b', h5⟩ := bump_get h4
                  rw [hM, hm] at h5; cases h5
              · unfold rhoZ
                cases hd : sig σ z.1 with
                | none => exact fun h => hc h.symm
                | some d =>
                rintro rfl
                obtain ⟨b', hb'⟩ := allIn_mem hin z.1 d (sig_mem hd)
                rw [hM, hm] at hb'; cases hb'
            · exact h.elim
          · exact h.elim
        · exact h.elim
      · exact h.elim
theorem runL_front : ∀ {L1 : List Dop} {L2 : List Dop} {k : Dop} {e : Nat → Option MV} {m : FM}, (∃ M, VM.get M = m) → runL Pg T N ents G ops (L1 ++ k :: L2) e m e' m' →
    (∀ x ∈ L1, ∃ a b, ops[x.k]? = some a ∧ ops[k.k]? = some b ∧ a.apart ops b = true ∧ okC2 x k a b = true) → (∀ x ∈ L1, x.n ≠ k.n ∧ m x.n = none) → m k.n = none → (L1.map (·.n)).Nodup →
    ∃ o e1 m1, ops[k.k]? = some o ∧ stepF Pg T N ents G ops k.rf o k.n k.fp e m e1 m1 ∧ runL Pg T N ents G ops (L1 ++ L2) e1 m1 e' m'
  | [], _, _, _, _, _, h, _, _, _, _ => h
  | x :: L1, L2, k, e, m, hv, h, hc, hn, hk, hd => by
    obtain ⟨o, e1, m1, h1, h2, h3⟩ := h
    obtain ⟨hx1, hx2⟩ := hn x (by simp)
    obtain ⟨hd1, hd2⟩ := List.nodup_cons.1 hd
    have hv1 : ∃ M, VM.get M = m1 := by obtain ⟨M, rfl⟩ := hv; exact step_vm h2
    obtain ⟨o', e2, m2, h4, h5, h6⟩ := runL_front hv1 h3 (fun y hy => hc y (by simp [hy])) (fun y hy => ⟨(hn y (by simp [hy])).1, stepF_none hv h2 (hn y (by simp [hy])).2 fun h => hd1 (List.mem_map.2 ⟨y, hy, h⟩)⟩) (stepF_none hv h2 hk hx1.symm) hd2
    obtain ⟨a, b, p1, p2, p3, p4⟩ := hc x (by simp)
    rw [h1] at p1; injection p1 with p1; subst p1
    rw [h4] at p2; injection p2 with p2; subst p2
    obtain ⟨e3, m3, q1, q2⟩ := step_swap hv h2 h5 p3 p4 hx1 hx2 hk
    exact ⟨o', e3, m3, h4, q1, o, e2, m2, h1, q2, h6⟩
def ClosedO (ops : Array Oper) (listed : Array Bool) : Prop := ∀ k o, ops[k]? = some o → listed.getD k false = true → ∀ e ∈ o.after.toList, Region.binds .any e = true → listed.getD e.on false = true
theorem pathO_false (hc : ClosedO ops listed) {x : Nat} (hx : listed.getD x false = false) : ∀ (f y : Nat) (o : Oper), ops[y]? = some o → (∀ e ∈ o.after.toList, Region.binds .any e = true → listed.getD e.on false = true) → pathO ops f y x = false
  | 0, _, _, _, _ => rfl
  | f + 1, y, o, h1, h2 => by
    unfold pathO
    rw [h1]
    show (o.after.toList.any _) = false
    rw [List.any_eq_false]
    intro e he
    cases hb : Region.binds .any e with
    | false => simp
    | true =>
      have hl := h2 e he hb
      have hne : Nat.beq e.on x = false := by
        cases hh : Nat.beq e.on x with
        | false => rfl
        | true => rw [Nat.eq_of_beq_eq_true hh, hx] at hl; cases hl
      cases ho : ops[e.on]? with
      | none =>
        have : pathO ops f e.on x = false := by
          cases f with
          | zero => rfl
          | succ f => unfold pathO; rw [ho]
        simp [hne, this]
      | some o' =>
        have := pathO_false hc hx f e.on o' ho (hc _ _ ho hl)
        simp [hne, this]
theorem getD_set {l : Array Bool} {i k : Nat} {d : Bool} (hi : i < l.size) : (l.setIfInBounds i true).getD k d = if i = k then true else l.getD k d := by
  by_cases h : i = k
  · subst h; simp [Array.getD, hi]
  · simp [Array.getD_eq_getD_getElem?, h]
theorem ready_out {i : Nat} (h : i ∈ Region.ready .any ops listed) : listed.getD i true = false ∧ ∃ o, ops[i]? = some o ∧ ∀ e ∈ o.after.toList, Region.binds .any e = true → listed.getD e.on false = true := by
  simp only [Region.ready, List.mem_filter, List.mem_range, Bool.and_eq_true, Bool.not_eq_true'] at h
  obtain ⟨h1, h2, h3⟩ := h
  have ho : ops[i]? = some ops[i] := by simp [h1]
  refine ⟨h2, ops[i], ho, fun e he hb => ?_⟩
  rw [ho] at h3
  simp only [Option.map_some, Option.getD_some, Array.all_eq_true'] at h3
  have := h3 e (by simpa using he)
  simpa [hb] using this
theorem ready_in {i : Nat} {o : Oper} (h1 : listed.getD i true = false) (h2 : ops[i]? = some o) (h3 : ∀ e ∈ o.after.toList, Region.binds .any e = true → listed.getD e.on false = true) : i ∈ Region.ready .any ops listed := by
  simp only [Region.ready, List.mem_filter, List.mem_range, Bool.and_eq_true, Bool.not_eq_true']
  refine ⟨(Array.getElem?_eq_some_iff.1 h2).1, h1, ?_⟩
  rw [h2]
  simp only [Option.map_some, Option.getD_some, Array.all_eq_true']
  intro e he
  cases hb : Region.binds .any e with
  | false => rfl
  | true => simp [h3 e (by simpa using he) hb]
end
end Go.Proofs.YtllepnadffndnaaDoor
namespace Go.Proofs.YtllepnadffndnaaDoor
open Go.RowKit
section
variable {Pg : Program} {T : Tab} {N : Nat} {ents : List FuncId} {G : GS} {ops : Array Oper} {e' : Nat → Option MV} {m' : FM} {w0 : World} {ex0 : Anc} {P0 : Prot} {Q : Exit → Act → World → Prop} {Z : Nat → Prop}
theorem okR_out {x y : Dop} (h : okR ops x y = true) : ∃ a b, ops[x.k]? = some a ∧ ops[y.k]? = some b ∧ ((a.apart ops b = true ∧ okC2 x y a b = true) ∨ pathO ops 8 y.k x.k = true) ∧ (∀ e ∈ a.after.toList, Region.binds .any e = true → e.on ≠ y.k) ∧ x.k ≠ y.k := by
  unfold okR at h
  split at h
  · rename_i a b ha hb
    simp only [Bool.and_eq_true, Bool.or_eq_true, List.all_eq_true, Bool.not_eq_true'] at h
    obtain ⟨⟨h1, h2⟩, h3⟩ := h
    refine ⟨a, b, ha, hb, h1, fun e he hbd hh => ?_, fun hh => ?_⟩
    · rcases h2 e he with h | h
      · rw [hbd] at h; cases h
      · rw [hh] at h; simp at h
    · rw [hh] at h3; simp at h3
  · cases h
theorem okS_out {x : Nat} (h : okS ops x = true) : ∃ a, ops[x]? = some a ∧ ∀ e ∈ a.after.toList, Region.binds .any e = true → e.on < ops.size ∧ e.on ≠ x := by
  unfold okS at h
  split at h
  · rename_i a ha
    simp only [List.all_eq_true, Bool.or_eq_true, Bool.and_eq_true, Bool.not_eq_true'] at h
    refine ⟨a, ha, fun e he hb => ?_⟩
    rcases h e he with h | ⟨h1, h2⟩
    · rw [hb] at h; cases h
    · refine ⟨by simpa [Nat.blt_eq] using h1, fun hh => ?_⟩
      subst hh; simp at h2
  · cases h
theorem getD_any {l : Array Bool} {k : Nat} {d d' : Bool} (h : k < l.size) : l.getD k d = l.getD k d' := by simp [Array.getD, h]
theorem any_ok (hS : SeatM Pg T ents G w0 ex0) (hQ : ∀ a w, SimS N w0 ex0 P0 e' m' Z a w → Q .normal a w) : ∀ (fuel : Nat) (L : List Dop) {listed : Array Bool} {e : Nat → Option MV} {m : FM} {a : Act} {w : World},
    (∃ M, VM.get M = m) → runL Pg T N ents G ops L e m e' m' → L.Pairwise (fun x y => okR ops x y = true) → (∀ x ∈ L, okS ops x.k = true) → (L.map (·.n)).Nodup → (∀ x ∈ L, ¬ Z x.n) →
    SimS N w0 ex0 P0 e m (fun c => c ∈ L.map (·.n) ∨ Z c) a w → (∀ k, k < ops.size → (listed.getD k true = false ↔ k ∈ L.map (·.k))) → listed.size = ops.size → ClosedO ops listed → L.length ≤ fuel → wpAny Pg .any ops Q fuel listed a w := by
  intro fuel
  induction fuel with
  | zero =>
    intro L listed e m a w hv hr hP hA hD hZ hs hl hsz hc hlen
    obtain rfl : L = [] := List.length_eq_zero_iff.1 (by omega)
    obtain ⟨rfl, rfl⟩ := hr
    refine wpAny_done (List.eq_nil_iff_forall_not_mem.2 fun i hi => ?_) (hQ a w (by simpa using hs)) 0
    obtain ⟨h1, o, h2, _⟩ := ready_out hi
    exact absurd ((hl i (Array.getElem?_eq_some_iff.1 h2).1).1 h1) (by simp)
  | succ fuel ih =>
    intro L listed e m a w hv hr hP hA hD hZ hs hl hsz hc hlen
    have hunl : ∀ x ∈ L, listed.getD x.k true = false ∧ listed.getD x.k false = false := by
      intro x hx
      obtain ⟨o, ho, _⟩ := okS_out (hA x hx)
      have hlt := (Array.getElem?_eq_some_iff.1 ho).1
      have h1 := (hl x.k hlt).2 (List.mem_map_of_mem hx)
      exact ⟨h1, by rw [getD_any (d' := true) (by omega)]; exact h1⟩
    refine ⟨fun h0 => ?_, fun i hi => ?_⟩
    · cases L with
      | nil =>
        obtain ⟨rfl, rfl⟩ := hr
        exact hQ a w (by simpa using hs)
      | cons x L =>
        exfalso
        obtain ⟨o, ho, h2⟩ := okS_out (hA x (by simp))
        have : x.k ∈ Region.ready .any ops listed := ready_in (hunl x (by simp)).1 ho fun ed he hb => by
          obtain ⟨h3, h4⟩ := h2 ed he hb
          rw [getD_any (d' := true) (by omega)]
          cases hh : listed.getD ed.on true with
          | true => rfl
          | false =>
            exfalso
            have := (hl ed.on h3).1 hh
            simp only [List.map_cons, List.mem_cons] at this
            rcases this with h5 | h5
            · exact h4 h5
            · obtain ⟨y, hy, hyk⟩ := List.mem_map.1 h5
              obtain ⟨a', b', p1, p2, p3, p4, p5⟩ := okR_out ((List.pairwise_cons.1 hP).1 y hy)
              rw [ho] at p1
              injection p1 with p1
              subst p1
              exact p4 ed he hb hyk.symm
        rw [h0] at this
        cases this
    · obtain ⟨h1, o, ho, hready⟩ := ready_out hi
      have hlt := (Array.getElem?_eq_some_iff.1 ho).1
      have hmem := (hl i hlt).1 h1
      obtain ⟨k, hk, rfl⟩ := List.mem_map.1 hmem
      obtain ⟨L1, L2, rfl⟩ := List.append_of_mem hk
      simp only [List.map_append, List.map_cons] at hD
      have hP1 := List.pairwise_append.1 hP
      have hD1 := List.nodup_append.1 hD
      have hD2 := List.nodup_cons.1 hD1.2.1
      have hP2 := List.pairwise_cons.1 hP1.2.1
      have hne1 : ∀ x ∈ L1, x.n ≠ k.n := fun x hx => hD1.2.2 _ (List.mem_map_of_mem hx) _ (by simp)
      have hne2 : ∀ x ∈ L2, x.n ≠ k.n := fun x hx hh => hD2.1 (hh ▸ List.mem_map_of_mem (f := (·.n)) hx)
      obtain ⟨o', e1, m1, p1, p2, p3⟩ := runL_front hv hr (fun x hx => by
          obtain ⟨a', b', q1, q2, q3, _⟩ := okR_out (hP1.2.2 x hx k (by simp))
          refine ⟨a', b', q1, q2, ?_⟩
          rcases q3 with q3 | q3
          · exact q3
          · rw [pathO_false hc (hunl x (by simp [hx])).2 8 k.k o ho hready] at q3; cases q3)
        (fun x hx => ⟨hne1 x hx, hs.fresh _ (.inl (List.mem_map_of_mem (by simp [hx])))⟩) (hs.fresh _ (.inl (List.mem_map_of_mem (by simp)))) hD1.1
      rw [ho] at p1
      injection p1 with p1
      subst p1
      have hv1 : ∃ M, VM.get M = m1 := by obtain ⟨M, rfl⟩ := hv; exact step_vm p2
      unfold wpOp
      rw [ho]
      refine stepF_out (F' := fun c => c ∈ (L1 ++ L2).map (·.n) ∨ Z c) hS hs (.inl (List.mem_map_of_mem (by simp))) (fun c hc' => ?_) p2 fun a' w' hs' => ?_
      · rcases hc' with hc' | hc'
        · obtain ⟨x, hx, rfl⟩ := List.mem_map.1 hc'
          rcases List.mem_append.1 hx with hx | hx
          · exact ⟨.inl (List.mem_map_of_mem (by simp [hx])), hne1 x hx⟩
          · exact ⟨.inl (List.mem_map_of_mem (by simp [hx])), hne2 x hx⟩
        · exact ⟨.inr hc', fun hh => hZ k hk (hh ▸ hc')⟩
      · have hnk : ∀ j, j ∈ (L1 ++ L2).map (·.k) → k.k ≠ j := by
          intro j hj
          obtain ⟨y, hy, rfl⟩ := List.mem_map.1 hj
          rcases List.mem_append.1 hy with hy | hy
          · obtain ⟨_, _, _, _, _, _, q⟩ := okR_out (hP1.2.2 y hy k (by simp)); exact fun h => q h.symm
          · obtain ⟨_, _, _, _, _, _, q⟩ := okR_out (hP2.1 y hy); exact q
        refine ih (L1 ++ L2) hv1 p3 ?_ (fun x hx => hA x ?_) ?_ (fun x hx => hZ x ?_) hs' (fun j hj => ?_) (by simpa using hsz) ?_ ?_
        · exact List.pairwise_append.2 ⟨hP1.1, hP2.2, fun x hx y hy => hP1.2.2 x hx y (by simp only [List.mem_cons]; exact .inr hy)⟩
        · rcases List.mem_append.1 hx with hx | hx <;> simp [hx]
        · rw [List.map_append]
          exact List.nodup_append.2 ⟨hD1.1, hD2.2, fun x hx y hy => hD1.2.2 x hx y (by simp only [List.mem_cons]; exact .inr hy)⟩
        · rcases List.mem_append.1 hx with hx | hx <;> simp [hx]
        · rw [getD_set (by omega)]
          by_cases hkj : k.k = j
          · rw [if_pos hkj]
            exact ⟨fun h => (by cases h), fun h => absurd hkj (hnk j h)⟩
          · rw [if_neg hkj, hl j hj]
            simp only [List.map_append, List.map_cons, List.mem_append, List.mem_cons]
            constructor
            · rintro (h | h | h)
              · exact .inl h
              · exact absurd h.symm hkj
              · exact .inr h
            · rintro (h | h)
              · exact .inl h
              · exact .inr (.inr h)
        · intro j oj hj hjl ed he hb
          rw [getD_set (by omega)] at hjl ⊢
          split
          · rfl
          · split at hjl
            · rename_i hkj
              subst hkj
              rw [ho] at hj
              injection hj with hj
              subst hj
              exact hready ed he hb
            · exact hc j oj hj hjl ed he hb
        · simp only [List.length_append, List.length_cons] at hlen ⊢
          omega
end
end Go.Proofs.YtllepnadffndnaaDoor
namespace Go.Proofs.YtllepnadffndnaaDoor
open Go.RowKit
section
variable {Pg : Program} {T : Tab} {N : Nat} {ents : List FuncId} {G : GS} {ops : Array Oper} {E : VE} {M : VM} {n : Nat} {o : Oper}
theorem vCallF_dom {e : Nat → Option MV} {m : FM} {f : Operand} {args : List Operand} {K : FuncId × List MV × List (Nat × Nat) → Prop} (h : (vCallF e m f args).runP K) : (vCallF e m f args).runP fun x => K x ∧ ∀ c ∈ x.2.2, m c.1 ≠ none := by
  unfold vCallF at h ⊢
  unfold rd at h ⊢
  split at h
  · have key : ∀ (az : List Operand) (k : List MV → Ask (FuncId × List MV × List (Nat × Nat))) (K K' : FuncId × List MV × List (Nat × Nat) → Prop), (∀ vs, (k vs).runP K → (k vs).runP K') → (rds e az k).runP K → (rds e az k).runP K' := by
      intro az
      induction az with
      | nil => intro k K K' hk h; exact hk _ h
      | cons x az ih =>
        intro k K K' hk h
        unfold rds rd at h ⊢
        split at h
        · exact ih _ K K' (fun vs h => hk _ h) h
        · exact h.elim
    refine key _ _ _ _ (fun vs hk => ?_) h
    split at hk
    · exact frzs_weak (frzs_same (SameB.refl m) (Ask.bind_runP.1 hk)) fun x hx => ⟨hx.1, hx.2⟩
    · exact hk.elim
  · exact h.elim
theorem vRun_toF {E2 : VE} {K : MV → VM → Prop} (h : vRun Pg T ents G o E2 M n K) : ∃ r δ, runF Pg T ents G o (VE.get E2) (VM.get M) n r δ ∧ K r (δ.app n M) := by
  have plain : (eOp Pg T (VE.get E2) (VM.get M) n o).runP (fun x => K x.1 (x.2.app n M)) → ∃ r δ, (eOp Pg T (VE.get E2) (VM.get M) n o).runP (fun x => x = (r, δ)) ∧ K r (δ.app n M) := by
    intro h
    obtain ⟨⟨r, δ⟩, h1, h2, _⟩ := sharp_eOp Pg T (VE.get E2) (VM.get M) n o _ h
    exact ⟨r, δ, h1, h2⟩
  obtain ⟨dst, op, ty, pos, after, guard⟩ := o
  cases op with
  | call c =>
    obtain ⟨callee, args, ats⟩ := c
    cases callee with
    | value f =>
      replace h : (vCallF (VE.get E2) (VM.get M) f args.toList).runP fun x => match ents.contains x.1 with | true => ∃ res, SemC Pg G x.1 x.2.1 res ∧ K res (VM.bump M x.2.2) | false => False := h
      obtain ⟨x, h1, ⟨h2, h3⟩, h4⟩ := sharp_vCall E2 M f args.toList _ (vCallF_dom h)
      split at h2
      · rename_i hc
        obtain ⟨res, hsem, hk⟩ := h2
        exact ⟨res, .bump x.2.2, h4 _ ⟨hc, hsem, rfl, h3⟩, hk⟩
      · exact h2.elim
    | _ => exact plain h
  | _ => exact plain h
theorem vPut_toF {dst : Option Tmp} {r : MV} {K : VE → Prop} (h : vPut N dst r E K) : ∃ E1, K E1 ∧ (∀ d, dst = some d → d < N) ∧ VE.get E1 = putF dst r (VE.get E) := by
  unfold vPut at h
  split at h
  · exact ⟨E, h, fun d hd => (nomatch hd), rfl⟩
  · rename_i d
    split at h
    · rename_i hd
      refine ⟨_, h, fun d' hd' => ?_, ?_⟩
      · injection hd' with hd'; subst hd'; simpa [Nat.blt_eq] using hd
      · funext t
        rw [VE.get_cons]
        show _ = fput _ d r t
        unfold fput
        by_cases ht : d = t
        · subst ht; simp
        · rw [if_neg ht, if_neg fun h => ht h.symm]
    · exact h.elim
theorem get_know {s : Nat} {v : MV} (h : VE.get E s = some v) : VE.get ((s, v) :: E) = VE.get E := by
  funext t
  rw [VE.get_cons]
  split
  · rename_i hh; subst hh; exact h.symm
  · rfl
section
variable (Pg : Program) (T : Tab) (N : Nat) (ents : List FuncId) (G : GS)
def vRunD (rf : Bool) (o : Oper) (E : VE) (M : VM) (n : Nat) (K : MV → VM → List Nat → Prop) : Prop := match rf with
  | false => vRun Pg T ents G o E M n fun r M' => K r M' (numsO (VE.get E) o.op.operands.toList)
  | true => match o.op with
    | .call c => match c.callee with
      | .value f => (vArgs E f c.args.toList).runP fun x => match ents.contains x.1 with
        | true => ∃ fp, vCallZ Pg G M n x.1 x.2 fp fun r M' => K r M' fp
        | false => False
      | _ => False
    | _ => False
def vOpD (ops : Array Oper) (rf : Bool) (o : Oper) (K : List Nat → VE → VM → Prop) (E : VE) (M : VM) (n : Nat) : Prop := match o.guard with
  | none => vRunD Pg T ents G rf o E M n fun r M fp => vPut N o.dst r E fun E => K fp E M
  | some (j, want) => match (ops[j]?).bind (·.dst) with
    | none => False
    | some s => match VE.get E s with
      | some (.bool t) =>
        (t = want → vRunD Pg T ents G rf o ((s, .bool want) :: E) M n fun r M fp => vPut N o.dst r ((s, .bool want) :: E) fun E => K fp E M) ∧
        (t = !want → vPut N o.dst .undef ((s, .bool (!want)) :: E) fun E' => K (bif rf then [] else numsO (VE.get E) o.op.operands.toList) E' M)
      | some .undef => vPut N o.dst .undef E fun E' => K (bif rf then [] else numsO (VE.get E) o.op.operands.toList) E' M
      | _ => False
def vOpsD (ops : Array Oper) : List (Nat × Bool) → List Dop → VK → VE → VM → Nat → Prop
  | [], A, K => fun E M n => okDraw ops A.reverse = true ∧ K E M n
  | x :: L, A, K => fun E M n => match ops[x.1]? with
    | some o => vOpD Pg T N ents G ops x.2 o (fun fp E M => vOpsD ops L (⟨x.1, n, x.2, fp⟩ :: A) K E M (n + 1)) E M n
    | none => False
end
theorem vRunD_toF {rf : Bool} {E2 : VE} {K : MV → VM → List Nat → Prop} {D : VE} (h : vRunD Pg T ents G rf o E2 M n K) (hg : gdF ops o (VE.get E2) = some true) (hd : ∀ d, o.dst = some d → d < N) : ∃ r M' fp, K r M' fp ∧ stepF Pg T N ents G ops rf o n fp (VE.get E2) (VM.get M) (putF o.dst r (VE.get E2)) (VM.get M') := by
  cases rf with
  | false =>
    obtain ⟨r, δ, h1, h2⟩ := vRun_toF (K := fun r M' => K r M' (numsO (VE.get E2) o.op.operands.toList)) h
    exact ⟨r, δ.app n M, _, h2, r, hd, rfl, δ, ⟨true, hg, fun _ => h1, fun h => nomatch h⟩, Dl.get_app _ _ _, rfl⟩
  | true =>
    have hd' := hd
    obtain ⟨dst, op, ty, pos, after, guard⟩ := o
    unfold vRunD at h
    cases op with
    | call c =>
      obtain ⟨callee, args, ats⟩ := c
      cases callee with
      | value f =>
        replace h : (vArgsF (VE.get E2) f args.toList).runP fun x => match ents.contains x.1 with | true => ∃ fp, vCallZ Pg G M n x.1 x.2 fp fun r M' => K r M' fp | false => False := h
        unfold vArgsF at h
        obtain ⟨x, h1, h2, h3⟩ := (Sharp.rd fun fv => Sharp.rds fun vs => by cases fv <;> first | exact Sharp.ret _ | exact Sharp.bad) _ h
        split at h2
        · rename_i hc
          obtain ⟨fp, args', M0, n0, res, M1, n1, a1, σ, bs, a2, a3, a4, a5, a6, a7⟩ := h2
          refine ⟨_, _, fp, a7, _, hd', rfl, true, hg, fun _ => ?_, fun h => nomatch h⟩
          show (vArgsF (VE.get E2) f args.toList).runP _
          unfold vArgsF
          exact h3 _ ⟨hc, M, rfl, args', M0, n0, res, M1, n1, a1, σ, bs, a2, a3, a4, a5, a6, rfl, rfl⟩
        · exact h2.elim
      | _ => exact h.elim
    | _ => exact h.elim
theorem vPut_dst {dst : Option Tmp} {r : MV} {K : VE → Prop} (h : vPut N dst r E K) : ∀ d, dst = some d → d < N := by
  intro d hd
  subst hd
  unfold vPut at h
  split at h
  · rename_i hh; cases hh
  · rename_i d' hh
    injection hh with hh
    subst hh
    split at h
    · rename_i hb; simpa [Nat.blt_eq] using hb
    · exact h.elim
theorem vRunD_some {rf : Bool} {K : MV → VM → List Nat → Prop} (h : vRunD Pg T ents G rf o E M n K) : ∃ r M' fp, K r M' fp := by
  cases rf with
  | false => obtain ⟨r, δ, h1, h2⟩ := vRun_toF (K := fun r M' => K r M' (numsO (VE.get E) o.op.operands.toList)) h; exact ⟨_, _, _, h2⟩
  | true =>
    obtain ⟨dst, op, ty, pos, after, guard⟩ := o
    unfold vRunD at h
    cases op with
    | call c =>
      obtain ⟨callee, args, ats⟩ := c
      cases callee with
      | value f =>
        replace h : (vArgsF (VE.get E) f args.toList).runP fun x => match ents.contains x.1 with | true => ∃ fp, vCallZ Pg G M n x.1 x.2 fp fun r M' => K r M' fp | false => False := h
        unfold vArgsF at h
        obtain ⟨x, h1, h2, h3⟩ := (Sharp.rd fun fv => Sharp.rds fun vs => by cases fv <;> first | exact Sharp.ret _ | exact Sharp.bad) _ h
        split at h2
        · obtain ⟨fp, args', M0, n0, res, M1, n1, a1, σ, bs, a2, a3, a4, a5, a6, a7⟩ := h2
          exact ⟨_, _, _, a7⟩
        · exact h2.elim
      | _ => exact h.elim
    | _ => exact h.elim
theorem vOpD_toF {rf : Bool} {K : List Nat → VE → VM → Prop} (h : vOpD Pg T N ents G ops rf o K E M n) : ∃ fp E1 M1, K fp E1 M1 ∧ stepF Pg T N ents G ops rf o n fp (VE.get E) (VM.get M) (VE.get E1) (VM.get M1) := by
  have run : ∀ {E2 : VE}, VE.get E2 = VE.get E → gdF ops o (VE.get E) = some true → (vRunD Pg T ents G rf o E2 M n fun r M fp => vPut N o.dst r E2 fun E => K fp E M) → ∃ fp E1 M1, K fp E1 M1 ∧ stepF Pg T N ents G ops rf o n fp (VE.get E) (VM.get M) (VE.get E1) (VM.get M1) := by
    intro E2 he hg h
    have hd : ∀ d, o.dst = some d → d < N := by obtain ⟨r, M', fp, h1⟩ := vRunD_some h; exact vPut_dst h1
    obtain ⟨r, M', fp, h1, h2⟩ := vRunD_toF (D := E2) h (by rw [he]; exact hg) hd
    obtain ⟨E1, h3, h4, h5⟩ := vPut_toF h1
    rw [he] at h2 h5
    rw [← h5] at h2
    exact ⟨fp, E1, M', h3, h2⟩
  have skip : ∀ {E2 : VE}, VE.get E2 = VE.get E → gdF ops o (VE.get E) = some false → (vPut N o.dst .undef E2 fun E' => K (bif rf then [] else numsO (VE.get E) o.op.operands.toList) E' M) → ∃ fp E1 M1, K fp E1 M1 ∧ stepF Pg T N ents G ops rf o n fp (VE.get E) (VM.get M) (VE.get E1) (VM.get M1) := by
    intro E2 he hg h
    obtain ⟨E1, h3, h4, h5⟩ := vPut_toF h
    rw [he] at h5
    cases rf with
    | false => exact ⟨_, E1, M, h3, .undef, h4, h5, .none, ⟨false, hg, fun h => (nomatch h), fun _ => ⟨rfl, rfl⟩⟩, rfl, rfl⟩
    | true => exact ⟨_, E1, M, h3, .undef, h4, h5, false, hg, fun h => (nomatch h), fun _ => ⟨rfl, rfl⟩⟩
  unfold vOpD at h
  split at h
  · rename_i hg
    exact run rfl (by simp [gdF, hg]) h
  · rename_i j want hg
    split at h
    · exact h.elim
    · rename_i s hj
      split at h
      · rename_i t ht
        by_cases hw : t = want
        · exact run (get_know (by rw [ht, hw])) (by simp [gdF, hg, hj, ht, hw]) (h.1 hw)
        · have hw' : t = !want := by cases t <;> cases want <;> simp_all
          exact skip (get_know (by rw [ht, hw'])) (by simp [gdF, hg, hj, ht, hw]) (h.2 hw')
      · rename_i ht
        exact skip rfl (by simp [gdF, hg, hj, ht]) h
      · exact h.elim
def NumB (n n' : Nat) (L : List Dop) : Prop := (L.map (·.n)).Nodup ∧ ∀ x ∈ L, n ≤ x.n ∧ x.n < n'
theorem vOpsD_toF : ∀ {L : List (Nat × Bool)} {A : List Dop} {K : VK} {E : VE} {M : VM} {n : Nat}, vOpsD Pg T N ents G ops L A K E M n →
    ∃ D E1 M1, okDraw ops (A.reverse ++ D) = true ∧ D.length = L.length ∧ NumB n (n + L.length) D ∧ K E1 M1 (n + L.length) ∧ runL Pg T N ents G ops D (VE.get E) (VM.get M) (VE.get E1) (VM.get M1)
  | [], A, K, E, M, n, h => ⟨[], E, M, by simpa using h.1, rfl, ⟨List.nodup_nil, fun _ h => nomatch h⟩, h.2, rfl, rfl⟩
  | x :: L, A, K, E, M, n, h => by
    unfold vOpsD at h
    split at h
    · rename_i o ho
      obtain ⟨fp, E1, M1, h1, h2⟩ := vOpD_toF h
      obtain ⟨D, E2, M2, h3, h4, h5, h6, h7⟩ := vOpsD_toF h1
      refine ⟨⟨x.1, n, x.2, fp⟩ :: D, E2, M2, by simpa using h3, by simp [h4], ⟨List.nodup_cons.2 ⟨fun hm => ?_, h5.1⟩, fun y hy => ?_⟩, by rw [List.length_cons, show n + (L.length + 1) = n + 1 + L.length by omega]; exact h6, o, _, _, ho, h2, h7⟩
      · obtain ⟨y, hy, he⟩ := List.mem_map.1 hm
        have := (h5.2 y hy).1
        simp only at he
        omega
      · rcases List.mem_cons.1 hy with rfl | hy
        · simp
        · have := h5.2 y hy
          simp only [List.length_cons]
          omega
    · exact h.elim
end
end Go.Proofs.YtllepnadffndnaaDoor
namespace Go.Proofs.YtllepnadffndnaaDoor
open Go.RowKit
section
variable (Pg : Program) (T : Tab) (N : Nat) (ents : List FuncId) (G : GS) (n0 : Nat)
def vC : Code → (Exit → VK) → VK
  | .skip, Q, E, M, n => Q .normal E M n
  | .region _ ops draw, Q, E, M, n => match draw with
    | false => vOpsN Pg T N ents G ops ops.toList (Q .normal) E M n
    | true => ∃ L : List (Nat × Bool), vOpsD Pg T N ents G ops L [] (Q .normal) E M n
  | .seq x y, Q, E, M, n => vC x (fun e E M n => match e with | .normal => vC y Q E M n | e => Q e E M n) E M n
  | .cond c x y, Q, E, M, n => match evM (VE.get E) c with
    | some (.bool t) => (t = true → vC x Q E M n) ∧ (t = false → vC y Q E M n)
    | _ => False
  | .block id c, Q, E, M, n => vC c (fun e E M n => match e with | .exit i => (bif Nat.beq i id then Q .normal E M n else Q (.exit i) E M n) | e => Q e E M n) E M n
  | .loop c, Q, E, M, _ => ∃ (X : Type) (E' : X → VE) (M' : X → VM) (n' : Nat) (I : X → Prop) (μ : X → Nat),
      (∃ x, I x ∧ VMatch n0 (E' x) (M' x) n' E M) ∧
      ∀ x, I x → vC c (fun e E1 M1 n1 => match e with | .normal => ∃ x', I x' ∧ μ x' < μ x ∧ VMatch n0 (E' x') (M' x') n' E1 M1 | e => Q e E1 M1 n1) (E' x) (M' x) n'
  | .exit id, Q, E, M, n => Q (.exit id) E M n
  | .ret, Q, E, M, n => Q .ret E M n
  | .label _, Q, E, M, n => Q .normal E M n
  | _, _, _, _, _ => False
def tupM : List MV → MV
  | [v] => v
  | vs => .tup vs
def vRets (M : VM) (E : VE) : List ResultVar → (List MV → Prop) → Prop
  | [], K => K []
  | .tmp t :: l, K => match VE.get E t with
    | some v => vRets M E l fun r => K (v :: r)
    | none => False
  | .cell p ty :: l, K => match VE.get E p with
    | some p => (oLoad T (VM.get M) ty p).runP fun x => vRets M E l fun r => K (x.1 :: r)
    | none => False
def vRetQ (rs : List ResultVar) (R : MV → Prop) : Exit → VK := fun e E M _ => match e with
  | .ret | .normal => vRets T M E rs fun vs => (frzs (VM.get M) vs).runP fun x => R (tupM x.1)
  | _ => False
def vRetR (rs : List ResultVar) (res : MV) (M1 : VM) (n1 : Nat) : Exit → VK := fun e E M _ => match e with
  | .ret | .normal => vRets T M E rs fun vs => ∃ (rv : List MV) (σ bs : List (Nat × Nat)), tupM rv = res ∧ LMatch n0 rv M1 n1 vs M σ bs
  | _ => False
end
section
variable {ops : Array Oper} {e : Nat → Option MV} {F F' : Nat → Prop} {Pg : Program} {T : Tab} {N : Nat} {ents : List FuncId} {G : GS} {w0 w w' : World} {ex0 : Anc} {P0 P : Prot} {adr : Adr} {E : VE} {M : VM} {m : FM} {n : Nat} {a : Act} {r : MV} {u : Value} {δ : Dl}
def PostM (N : Nat) (w0 : World) (ex0 : Anc) (P0 : Prot) (Q : Exit → VK) : Exit → Act → World → Prop := fun e a w => ∃ E M n, Q e E M n ∧ Sim N w0 ex0 P0 (VE.get E) (VM.get M) n a w
theorem SimS.drew (hs : SimS N w0 ex0 P0 e m F a w) : SimS N w0 ex0 P0 e m F a { w with drawn := w.drawn + 1 } := by
  obtain ⟨P, adr, hI, hE, ha1, ha2, ha3⟩ := hs.ex
  have hb : Below w.heap.size w { w with drawn := w.drawn + 1 } := ⟨rfl, rfl, rfl, Nat.le_refl _, fun _ _ => rfl⟩
  refine ⟨⟨protNew w { w with drawn := w.drawn + 1 } P, adr, hI.below hb, fun t v ht => ?_, ha1, ⟨ha2.in_, ha2.old, ha2.keep.trans (Keep.below hI.prot hb)⟩, fun b o ho => ?_⟩, hs.fresh, hs.ge, ⟨hs.since.os, hs.since.tape, hs.since.output, hs.since.size, hs.since.block⟩, hs.defers, hs.size⟩
  · obtain ⟨u, h1, h2⟩ := hE t v ht
    exact ⟨u, h1, h2.keep (Keep.below hI.prot hb)⟩
  · rcases ho with h | h
    · exact ha3 b o h
    · exact .inr (.inl (Nat.le_trans hs.since.size h.1))
theorem SimS.mono (hs : SimS N w0 ex0 P0 e m F a w) (hF : ∀ c, F' c → F c) : SimS N w0 ex0 P0 e m F' a w := by
  obtain ⟨P, adr, hI, hE, ha1, ha2, ha3⟩ := hs.ex
  exact ⟨⟨P, adr, hI, hE, fun c hc => ha1 c (hF c hc), ha2, ha3⟩, fun c hc => hs.fresh c (hF c hc), fun c hc => hs.ge c (hF c hc), hs.since, hs.defers, hs.size⟩
theorem vPut_sim {M' : VM} {n' : Nat} {w' : World} {P' : Prot} {adr' : Adr} (hd : a.defers = []) (hz : a.tmps.size = N) (hI : InvM w' P' adr' (VM.get M')) (hE : EnvR w' P' adr' (VE.get E) a) (hr : RepV w' P' adr' r u) (h1 : ∀ c, n' ≤ c → adr' c = none) (h2 : AdrOK w0 ex0 P0 w' P' adr')
    (h3 : ∀ b o, P' b o → P0 b o ∨ w0.heap.size ≤ b ∨ ex0.ex b) (h4 : ∀ c, n' ≤ c → VM.get M' c = none) (h5 : ex0.n0 ≤ n') (h6 : Since ex0.ex w0 w') {dst : Option Tmp} {K : VE → Prop} (hK : vPut N dst r E K) : ∃ E', K E' ∧ Sim N w0 ex0 P0 (VE.get E') (VM.get M') n' (a.put dst u) w' := by
  unfold vPut at hK
  split at hK
  · exact ⟨E, hK, ⟨P', adr', hI, hE, h1, h2, h3⟩, h4, h5, h6, hd, hz⟩
  · rename_i d
    split at hK
    · rename_i hlt
      have hlt : d < N := by simpa [Nat.blt_eq] using hlt
      exact ⟨_, hK, ⟨P', adr', hI, hE.put hz hlt hr, h1, h2, h3⟩, h4, h5, h6, hd, by simp [Act.put, hz]⟩
    · exact hK.elim
theorem vOpN_out (hS : SeatM Pg T ents G w0 ex0) {o : Oper} {K : VK} {next : Act → World → Prop} {Q : Exit → Act → World → Prop}
    (h : vOpN Pg T N ents G ops o K E M n) (hs : Sim N w0 ex0 P0 (VE.get E) (VM.get M) n a w) (hn : ∀ E M n a w, K E M n → Sim N w0 ex0 P0 (VE.get E) (VM.get M) n a w → next a w) :
    if Region.wanted o (yielded ops a.tmps) then o.wp Pg a w next Q ∨ (o.asks Pg a w ∧ LetsOut Q) else next (a.put o.dst undef) w := by
  obtain ⟨P, adr, hI, hE, ha1, ha2, ha3⟩ := hs.ex
  have run : ∀ {E2 : VE}, EnvR w P adr (VE.get E2) a → (vRunN Pg T ents G o E2 M n fun r M n => vPut N o.dst r E2 fun E => K E M n) → o.wp Pg a w next Q := by
    intro E2 hE2 h
    unfold vRunN at h
    split at h
    · rename_i k neg hq
      unfold nilQ at hq
      split at hq
      · rename_i op t x ty' hop
        split at hq
        · rename_i k' l hx
          split at hq
          · rename_i e es hd
            have hp := evM_rep hE2 hx
            obtain ⟨A, cap, es', parts, e1, _, _, _, h4, _⟩ := hp.sl_
            have hc : nilCmp T t (.const (.slice none 0 0)) (.val (a.eval x)) (.val (.slice none 0 0)) = some A.isNone := by
              rw [e1]
              cases A with
              | none => obtain ⟨q1, q2⟩ := h4 rfl; subst q1; subst q2; simp [nilCmp, hd]
              | some _ => simp [nilCmp, hd]
            obtain ⟨r1, r2⟩ := nilCmp_out (xo := x) (P := Pg) hS.seat.tab hc w
            have hA : A.isNone = true → k' = 0 := fun hA => (h4 (by simpa using hA)).1
            obtain ⟨dst, op', ty, pos, after, guard⟩ := o
            have hop : op' = .binOp op t x (.const (.slice none 0 0)) ty' := hop
            subst hop
            have fin : ∀ (bb : Bool), (do eqGuard op t x (.const (.slice none 0 0)) (a.eval x) (.slice none 0 0); binOp op t (a.eval x) (.slice none 0 0) : Sem Value).run Pg w = .ok (.bool bb) w → (vPut N dst (.bool bb) E2 fun E => K E M (n + 1)) → (⟨dst, .binOp op t x (.const (.slice none 0 0)) ty', ty, pos, after, guard⟩ : Oper).wp Pg a w next Q := by
              intro bb hr hk
              have hres := Res.val (a := a) (o := ⟨dst, .binOp op t x (.const (.slice none 0 0)) ty', ty, pos, after, guard⟩) (Q := fun u w' => u = .bool bb ∧ w' = w) _ rfl hr ⟨rfl, rfl⟩
              obtain ⟨E', q1, q2⟩ := vPut_sim (n' := n + 1) hs.defers hs.size hI hE2 (.val [_] .bool) (fun c hc => ha1 c (by omega)) ha2 ha3 (fun c hc => hs.fresh c (by omega)) (by have := hs.ge; omega) hs.since hk
              unfold Oper.wp
              rcases hres with ⟨u, w', p1, rfl, rfl⟩ | ⟨w', p1, p2, _⟩
              · rw [p1]; exact hn _ _ _ _ _ q1 q2
              · cases p2
            split at hq
            · injection hq with hq; injection hq with hq1 hq2; subst hq1; subst hq2
              exact fin _ r1 (h A.isNone hA)
            · injection hq with hq; injection hq with hq1 hq2; subst hq1; subst hq2
              exact fin _ r2 (h A.isNone hA)
            · cases hq
          · cases hq
        · cases hq
      · cases hq
    have old : (vRun Pg T ents G o E2 M n fun r M => vPut N o.dst r E2 fun E => K E M (n + 1)) → o.wp Pg a w next Q := by
      intro h
      refine vRun_ok hS h hI ha1 hs.fresh hE2 hs.since fun r δ u w' hk hp => ?_
      obtain ⟨E', h1, h2⟩ := hs.post hI hE2 ha1 ha2 ha3 hp hk
      exact hn _ _ _ _ _ h1 h2
    obtain ⟨dst, op, ty, pos, after, guard⟩ := o
    cases op with
    | call c =>
      obtain ⟨callee, args, ats⟩ := c
      cases callee with
      | builtin b => exact old h
      | invoke r n => exact old h
      | value f =>
        rcases h with h | h
        · exact old h
        · unfold vArgs at h
          obtain ⟨pf, h, hpf⟩ := rd_out hE2 h
          obtain ⟨ps, h, hps⟩ := rds_out hE2 h
          cases pf with
          | fn f0 caps =>
            generalize hu : a.eval f = uf at hpf
            cases hpf with
            | val cs hfn =>
              cases hfn with
              | fn parts hpl hpr =>
                have hall := hps.app (RepVs.of_parts hpl hpr)
                have hex : ∀ w1, (execOp a.eval ⟨dst, .call ⟨.value f, args, ats⟩, ty, pos, after, guard⟩).run Pg w1 = (callFunc f0 (args.toList.map a.eval ++ List.zipWith valM caps parts).toArray).run Pg w1 := fun w1 => by
                  have hmap : args.map a.eval = (args.toList.map a.eval).toArray := arr_map _ _
                  simp [execOp, resolve, hu, valM, MV.isAgg, Deferred.ofValue, invoke, hmap]
                replace h : (match ents.contains f0 with | true => vCallR Pg G SemR M n f0 (ps ++ caps) (fun r M n => vPut N dst r E2 fun E => K E M n) | false => vCallR Pg G SemP M n f0 (ps ++ caps) (fun r M n => vPut N dst r E2 fun E => K E M n)) := h
                split at h
                · rename_i hc
                  have hrun := (hex w).trans (hS.seat.enters f0 (by simpa using hc) (args.toList.map a.eval ++ List.zipWith valM caps parts).toArray w)
                  unfold Oper.wp
                  rw [hrun]
                  refine (vCallR_ok (C := fun P f a w Q => Calls P f a w Q) (fun h k => h.mono k) hS h hs.since hs.fresh hs.ge hI hE2 ha1 ha2 ha3 hall).mono ?_
                  rintro e w' ⟨v, rfl, r, M', n', hk, P', adr', q1, q2, q3, q4, q5, q6, q7, q8, q9⟩
                  obtain ⟨E', h1, h2⟩ := vPut_sim hs.defers hs.size q1 q2 q3 q4 q5 q6 q7 q8 q9 hk
                  exact hn _ _ _ _ _ h1 h2
                · obtain ⟨v0, w', hr, v, he, r, M', n', hk, P', adr', q1, q2, q3, q4, q5, q6, q7, q8, q9⟩ := vCallR_ok (C := Prims) (fun h k => h.mono k) hS h hs.since hs.fresh hs.ge hI hE2 ha1 ha2 ha3 hall
                  injection he with he
                  subst he
                  have hrun := (hex w).trans hr
                  unfold Oper.wp
                  rw [hrun]
                  obtain ⟨E', h1, h2⟩ := vPut_sim hs.defers hs.size q1 q2 q3 q4 q5 q6 q7 q8 q9 hk
                  exact hn _ _ _ _ _ h1 h2
          | _ => exact h.elim
    | _ => exact old h
  have skip : ∀ {E2 : VE}, EnvR w P adr (VE.get E2) a → (vPut N o.dst .undef E2 fun E => K E M (n + 1)) → next (a.put o.dst undef) w := by
    intro E2 hE2 h
    obtain ⟨E', h1, h2⟩ := hs.post (δ := .none) hI hE2 ha1 ha2 ha3 (Post1.pure hI (ha1 n (Nat.le_refl _)) .undef) h
    exact hn _ _ _ _ _ h1 h2
  unfold vOpN at h
  split at h
  · rename_i hg
    rw [if_pos (by simp [Region.wanted, hg])]
    exact .inl (run hE h)
  · rename_i j want hg
    split at h
    · exact h.elim
    · rename_i s hj
      split at h
      · rename_i t ht
        have hv := hs.know ht
        have hy : yielded ops a.tmps j = some t := by simp [yielded, hj, hv]
        by_cases hw : t = want
        · rw [if_pos (by simp [Region.wanted, hg, hy, hw])]
          exact .inl (run (hE.know (by rw [ht, hw])) (h.1 hw))
        · have hw' : t = !want := by cases t <;> cases want <;> simp_all
          rw [if_neg (by simp [Region.wanted, hg, hy, hw])]
          exact skip (hE.know (by rw [ht, hw'])) (h.2 hw')
      · rename_i ht
        obtain ⟨v, hv1, hv2⟩ := hE s _ ht
        have hv : v = undef := hv2.undef_
        subst hv
        have hy : yielded ops a.tmps j = none := by simp [yielded, hj, hv1, undef]
        rw [if_neg (by simp [Region.wanted, hg, hy])]
        exact skip hE h
      · exact h.elim
theorem vOpsN_ok (hS : SeatM Pg T ents G w0 ex0) (ops : Array Oper) : ∀ (l : List Oper) {K : VK} {E : VE} {M : VM} {n : Nat} {a : Act} {w : World} {Q : Exit → Act → World → Prop},
    vOpsN Pg T N ents G ops l K E M n → Sim N w0 ex0 P0 (VE.get E) (VM.get M) n a w → (∀ E M n a w, K E M n → Sim N w0 ex0 P0 (VE.get E) (VM.get M) n a w → Q .normal a w) → wpList Pg ops Q l a w
  | [], _, E, M, n, a, w, _, h, hs, hQ => hQ E M n a w h hs
  | _ :: rest, _, _, _, _, _, _, Q, h, hs, hQ =>
    vOpN_out hS (next := wpList Pg ops Q rest) (Q := Q) h hs fun _ _ _ _ _ h hs => vOpsN_ok hS ops rest h hs hQ
theorem draw_ok (hS : SeatM Pg T ents G w0 ex0) {id : Nat} {L : List (Nat × Bool)} {Q : Exit → VK} (h : vOpsD Pg T N ents G ops L [] (Q .normal) E M n) (hs : Sim N w0 ex0 P0 (VE.get E) (VM.get M) n a w) : (Code.region id ops true).wp Pg (PostM N w0 ex0 P0 Q) a w := by
  obtain ⟨D, E1, M1, hok, hlen0, ⟨hnd, hnb⟩, hq, hr⟩ := vOpsD_toF h
  rw [List.reverse_nil, List.nil_append] at hok
  simp only [okDraw, Bool.and_eq_true, List.all_eq_true] at hok
  obtain ⟨⟨hls, hall⟩, hlen⟩ := hok
  obtain ⟨hP, hA⟩ := okLs_spec hls
  refine wp_region_any hS.seat.mixed ?_
  refine any_ok (Z := fun c => n + L.length ≤ c) hS (fun a w hs' => ⟨E1, M1, _, hq, hs'.toSim fun c hc => hc⟩) ops.size D ⟨M, rfl⟩ hr hP hA hnd (fun x hx hz => ?_) ?_ (fun k hk => ?_) (by simp) (fun k o ho hl => ?_) ?_
  · have := (hnb x hx).2
    omega
  · refine (hs.toS.drew).mono fun c hc => ?_
    rcases hc with hc | hc
    · obtain ⟨x, hx, rfl⟩ := List.mem_map.1 hc
      exact (hnb x hx).1
    · show n ≤ c
      replace hc : n + L.length ≤ c := hc
      omega
  · have h1 : (Array.replicate ops.size false).getD k true = false := by simp [Array.getD, hk]
    have h2 : k ∈ D.map (·.k) := by simpa using hall k (by simpa using hk)
    exact ⟨fun _ => h2, fun _ => h1⟩
  · exfalso
    by_cases hk : k < ops.size
    · simp [Array.getD, hk] at hl
    · simp [Array.getD, hk] at hl
  · simpa using hlen
theorem vC_ok (hS : SeatM Pg T ents G w0 ex0) : ∀ (c : Code) {Q : Exit → VK} {E : VE} {M : VM} {n : Nat} {a : Act} {w : World},
    vC Pg T N ents G ex0.n0 c Q E M n → Sim N w0 ex0 P0 (VE.get E) (VM.get M) n a w → c.wp Pg (PostM N w0 ex0 P0 Q) a w := by
  intro c
  induction c with
  | skip => intro Q E M n a w h hs; exact wp_skip ⟨E, M, n, h, hs⟩
  | region id ops draw =>
    intro Q E M n a w h hs
    cases draw with
    | false => exact wp_region_list (vOpsN_ok hS ops _ h hs fun E M n a w hk hs => ⟨E, M, n, hk, hs⟩)
    | true =>
      obtain ⟨L, h⟩ := h
      exact draw_ok hS h hs
  | seq x y ihx ihy =>
    intro Q E M n a w h hs
    refine wp_seq (Code.wp_mono (fun e a w hq => ?_) (ihx h hs))
    obtain ⟨E', M', n', hq, hs'⟩ := hq
    cases e with
    | normal => exact ihy hq hs'
    | _ => exact ⟨E', M', n', hq, hs'⟩
  | cond c x y ihx ihy =>
    intro Q E M n a w h hs
    simp only [vC] at h
    split at h
    · rename_i t ht
      obtain ⟨P, adr, hI, hE, _⟩ := hs.ex
      have hv := (evM_rep hE ht).bool_
      exact wp_cond_split hv (fun ht => ihx (h.1 ht) hs) (fun ht => ihy (h.2 ht) hs)
    · exact h.elim
  | block id c ih =>
    intro Q E M n a w h hs
    refine wp_block (Code.wp_mono (fun e a w hq => ?_) (ih h hs))
    obtain ⟨E', M', n', hq, hs'⟩ := hq
    cases e with
    | exit i =>
      by_cases hi : i = id
      · subst hi
        simp at hq
        simp only [Exit.inBlock, if_true]
        exact ⟨E', M', n', hq, hs'⟩
      · simp only [beq_ne hi, cond_false] at hq
        simp only [Exit.inBlock, hi, if_false]
        exact ⟨E', M', n', hq, hs'⟩
    | _ => exact ⟨E', M', n', hq, hs'⟩
  | loop c ih =>
    intro Q E M n a w h hs
    obtain ⟨X, E', M', n', I, μ, ⟨x0, hI0, hm0⟩, h1⟩ := h
    have hs0 := hs.matched hm0
    intro b k cs
    have key : ∀ j x a w, μ x = j → I x → Sim N w0 ex0 P0 (VE.get (E' x)) (VM.get (M' x)) n' a w →
        ∃ e a' w', PostM N w0 ex0 P0 Q e a' w' ∧ Arrives Pg (lone (b.at a (.code c :: .inLoop c :: k)) cs w) b k cs e a' w' := by
      intro j
      induction j using Nat.strongRecOn with
      | _ j ihn =>
        intro x a w hn hI hs
        obtain ⟨e, a₁, w₁, hq, harr⟩ := ih (h1 x hI) hs b (.inLoop c :: k) cs
        obtain ⟨E1, M1, n1, hq, hs1⟩ := hq
        cases e with
        | normal =>
          obtain ⟨x', hI', hlt, hm⟩ := hq
          obtain ⟨e₂, a₂, w₂, hq₂, harr₂⟩ := ihn (μ x') (hn ▸ hlt) x' a₁ w₁ rfl hI' (hs1.matched hm)
          exact ⟨e₂, a₂, w₂, hq₂, .of_steps (Steps.trans harr (.one step_inLoop)) harr₂⟩
        | exit id => exact ⟨_, a₁, w₁, ⟨E1, M1, n1, hq, hs1⟩, .pass (x := .inLoop c) rfl (fun _ _ => .inl (by simp)) harr⟩
        | goto l => exact ⟨_, a₁, w₁, ⟨E1, M1, n1, hq, hs1⟩, .pass (x := .inLoop c) rfl (fun _ _ => .inl (by simp)) harr⟩
        | ret => exact ⟨_, a₁, w₁, ⟨E1, M1, n1, hq, hs1⟩, .pass (x := .inLoop c) rfl (fun _ _ => .inl (by simp)) harr⟩
        | panic ch => exact ⟨_, a₁, w₁, ⟨E1, M1, n1, hq, hs1⟩, .pass (x := .inLoop c) rfl (fun _ _ => .inl (by simp)) harr⟩
        | outgrown => exact ⟨_, a₁, w₁, ⟨E1, M1, n1, hq, hs1⟩, .pass (x := .inLoop c) rfl (fun _ _ => .inl (by simp)) harr⟩
    obtain ⟨e, a', w', hq, harr⟩ := key _ x0 a w rfl hI0 hs0
    exact ⟨e, a', w', hq, .of_steps (.one step_loop) harr⟩
  | exit id => intro Q E M n a w h hs; exact wp_exit ⟨E, M, n, h, hs⟩
  | ret => intro Q E M n a w h hs; exact wp_ret ⟨E, M, n, h, hs⟩
  | label l => intro Q E M n a w h hs; exact wp_label ⟨E, M, n, h, hs⟩
  | rangeFunc => intro Q E M n a w h; exact h.elim
  | scope => intro Q E M n a w h; exact h.elim
  | goto => intro Q E M n a w h; exact h.elim
  | refuse => intro Q E M n a w h; exact h.elim
theorem vRets_out (hT : TabOK Pg T) (hI : InvM w P adr (VM.get M)) (hE : EnvR w P adr (VE.get E) a) : ∀ {rs : List ResultVar} {K : List MV → Prop}, vRets T M E rs K →
    ∃ (ps : List MV) (vs : List Value), vs.length = rs.length ∧ (∀ (i : Nat) (r : ResultVar), rs[i]? = some r → ∃ v, vs[i]? = some v ∧ (resOne a.tmps r).run Pg w = .ok v w) ∧ RepVs w P adr ps vs ∧ K ps
  | [], K, h => ⟨[], [], rfl, fun i r hi => by simp at hi, .nil, h⟩
  | .tmp t :: l, K, h => by
    unfold vRets at h
    split at h
    · rename_i p hp
      obtain ⟨v, h1, h2⟩ := hE t p hp
      obtain ⟨ps, vs, hl, hi, hr, hK⟩ := vRets_out hT hI hE h
      refine ⟨p :: ps, v :: vs, by simp [hl], fun i r hr => ?_, .cons h2 hr, hK⟩
      cases i with
      | zero => simp at hr; subst hr; exact ⟨v, rfl, by simp [resOne, h1]⟩
      | succ i => exact hi i r (by simpa using hr)
    · exact h.elim
  | .cell p ty :: l, K, h => by
    unfold vRets at h
    split at h
    · rename_i q hq
      obtain ⟨uv, h1, h2⟩ := hE p q hq
      obtain ⟨r0, v, h3, h4, h5⟩ := oLoad_ok hT h h2 hI
      obtain ⟨ps, vs, hl, hi, hr, hK⟩ := vRets_out hT hI hE h3
      refine ⟨r0 :: ps, v :: vs, by simp [hl], fun i r hr => ?_, .cons h5 hr, hK⟩
      cases i with
      | zero =>
        simp at hr
        subst hr
        refine ⟨v, rfl, ?_⟩
        have hg' : a.tmps.getD p undef = uv := by simp [h1]
        simp only [resOne, hg']
        exact loadAt_asAddr h4
      | succ i => exact hi i r (by simpa using hr)
    · exact h.elim
theorem tup_rep {ps : List MV} {vs : List Value} (h : RepVs w P adr ps vs) (hv : ∀ p ∈ ps, p.isVal = true) : RepV w P adr (tupM ps) (tup vs) := by
  obtain ⟨parts, h1, h2, rfl⟩ := h.caps hv
  match ps, parts, h1, h2 with
  | [], [], _, _ => exact .tup [] rfl (fun j m u h => by simp at h)
  | [p], [q], _, h2 => exact .val q (h2 0 p q rfl rfl)
  | p :: p' :: ps, q :: q' :: parts, h1, h2 =>
    refine .tup (List.zipWith valM (p :: p' :: ps) (q :: q' :: parts)) (by rw [List.length_zipWith]; simp at h1 ⊢; omega) fun j m u hj hu => ?_
    rw [List.getElem?_zipWith] at hu
    rw [hj] at hu
    cases hq : (q :: q' :: parts)[j]? with
    | none => rw [hq] at hu; cases hu
    | some c =>
      rw [hq] at hu
      injection hu with hu
      exact ⟨c, h2 j m c hj hq, hu.symm⟩
theorem envM_get : ∀ {l : List MV} {i t : Nat} {v : MV}, VE.get (envM i l) t = some v → i ≤ t ∧ l[t - i]? = some v
  | [], i, t, v, h => by simp [envM, VE.get] at h
  | x :: l, i, t, v, h => by
    rw [envM, VE.get_cons] at h
    split at h
    · rename_i e; subst e; injection h with h; subst h; simp
    · rename_i e
      obtain ⟨h1, h2⟩ := envM_get h
      refine ⟨by omega, ?_⟩
      rw [show t - i = (t - (i + 1)) + 1 by omega]
      simpa using h2
theorem RepVs.get : ∀ {ps : List MV} {vs : List Value}, RepVs w P adr ps vs → ∀ {i : Nat} {p : MV}, ps[i]? = some p → ∃ v, vs[i]? = some v ∧ RepV w P adr p v
  | _, _, .nil, i, p, h => by simp at h
  | _, _, .cons (p := q) (v := v) h t, i, p, hi => by
    cases i with
    | zero => simp at hi; subst hi; exact ⟨v, rfl, h⟩
    | succ i => simpa using t.get (i := i) (by simpa using hi)
theorem RepVs.length : ∀ {ps : List MV} {vs : List Value}, RepVs w P adr ps vs → ps.length = vs.length
  | _, _, .nil => rfl
  | _, _, .cons _ t => by simp [t.length]
theorem frzs_conj {K : List MV × List (Nat × Nat) → Prop} {m : FM} : ∀ {l : List MV}, (frzs m l).runP K → (frzs m l).runP fun x => K x ∧ ∀ p ∈ x.1, p.isVal = true := by
  have one : ∀ {p : MV} {K : MV × List (Nat × Nat) → Prop}, (frz m p).runP K → (frz m p).runP fun x => K x ∧ x.1.isVal = true := by
    intro p K h
    cases p <;> simp only [frz] at h ⊢
    case ms c es off n =>
      split at h
      · split at h
        · obtain ⟨a1, l, a2, h⟩ := h; exact ⟨a1, l, a2, h, rfl⟩
        · exact h.elim
      · exact h.elim
    case ptr c es k fo path =>
      split at h
      · rename_i b hb
        cases he : Nat.beq b.es es with
        | false => rw [he] at h; exact h.elim
        | true =>
          rw [he] at h
          obtain ⟨v, q1, h⟩ := h
          cases hf : v.idFree with
          | false => rw [hf] at h; exact h.elim
          | true => rw [hf] at h; exact ⟨v, q1, by simp only [hf]; exact ⟨h, rfl⟩⟩
      · exact h.elim
    case st l => exact frzs_weak (Ask.bind_runP.1 h) fun _ h => ⟨h, rfl⟩
    case fn f l => exact frzs_weak (Ask.bind_runP.1 h) fun _ h => ⟨h, rfl⟩
    case ifc t v => exact frz_weak (Ask.bind_runP.1 h) fun _ h => ⟨h, rfl⟩
    all_goals first | exact h.elim | exact ⟨h, rfl⟩
  intro l
  induction l generalizing K with
  | nil => intro h; exact ⟨h, fun p hp => nomatch hp⟩
  | cons q l ih =>
    intro h
    simp only [frzs] at h ⊢
    refine frz_weak (one (Ask.bind_runP.1 h)) fun x hx => ?_
    refine frzs_weak (ih (Ask.bind_runP.1 hx.1)) fun y hy => ⟨hy.1, fun p hp => ?_⟩
    rcases List.mem_cons.1 hp with rfl | hp
    · exact hx.2
    · exact hy.2 p hp
theorem semC_of_vc (hS : Seat Pg T ents) {f : FuncId} {fn : Func} {c : Code} {rs : List ResultVar} (hf : Pg.funcs[f]? = some fn) (hb : fn.body = some c) (hrs : fn.results = rs.toArray) (h5 : rs.length ≤ 5) {args : List MV} (hn : args.length ≤ fn.ntmps) (hN : fn.ntmps = N) {res : MV}
    (h : vC Pg T N ents G 0 c (vRetQ T rs fun r => r = res) (envM 0 args) [] 0) : SemC Pg G f args res := by
  intro w P vals hg hP hargs
  have hSM : SeatM Pg T ents G w noAnc := ⟨hS, fun w' h => G.stab w w' _ hg (fun _ h => h.elim) h, fun _ h => h.elim, fun g h => G.lt w g hg h⟩
  have hlen := hargs.length
  have h0 : Sim N w noAnc P (VE.get (envM 0 args)) (VM.get []) 0 { tmps := vals.toArray ++ Array.replicate (fn.ntmps - vals.toArray.size) undef, defers := [] } w := by
    refine ⟨⟨P, noAdr, ⟨fun c b hc => by simp [VM.get] at hc, fun c d b b' g hc => by simp [VM.get] at hc, hP⟩, fun t v ht => ?_, fun _ _ => rfl, ⟨fun c g hc => (nomatch hc), fun c hc => absurd hc (Nat.not_lt_zero c), Keep.refl _ _ _⟩, fun b o h => .inl h⟩, fun c _ => rfl, Nat.zero_le _, Since.refl _ _, rfl, by simp; omega⟩
    obtain ⟨_, h2⟩ := envM_get ht
    rw [Nat.sub_zero] at h2
    obtain ⟨u, h3, h4⟩ := hargs.get h2
    have hlt := (List.getElem?_eq_some_iff.1 h3).1
    refine ⟨u, ?_, h4⟩
    show (vals.toArray ++ Array.replicate (fn.ntmps - vals.toArray.size) undef)[t]? = some u
    rw [Array.getElem?_append_left (by simpa using hlt)]
    simpa using h3
  refine calls_of_wp hf hb (Code.wp_mono (fun e a w' hq => ?_) (vC_ok (ex0 := noAnc) hSM c h h0))
  obtain ⟨E', M', n', hq, hs⟩ := hq
  have fin : vRets T M' E' rs (fun vs => (frzs (VM.get M') vs).runP fun x => tupM x.1 = res) →
      a.defers = [] ∧ ∃ v, (results fn a.tmps).run Pg w' = .ok v w' ∧ ∃ v', Ending.returned v = .returned v' ∧ RepV w' (protNew w w' P) noAdr res v' ∧ Below w.heap.size w w' := by
    intro hq
    obtain ⟨P', adr', hI, hE, ha1, ha2, ha3⟩ := hs.ex
    obtain ⟨ps, vs, hl, hi, hr, hK⟩ := vRets_out hS.tab hI hE hq
    obtain ⟨l', bs, ⟨hxr, hfree⟩, P2, h1, h2, h3, h4⟩ := frzs_vals (frzs_conj hK) hr hI
    refine ⟨hs.defers, tup vs, results_out hrs h5 hl hi, tup vs, rfl, ?_, hs.since.below⟩
    rw [← hxr]
    refine (tup_rep h4 hfree).keep ⟨fun b o hp => ?_, fun _ _ _ => rfl, fun _ _ h => (nomatch h), fun _ _ _ _ h => nomatch h⟩
    rcases h3 b o hp with hp' | ⟨c', hc'⟩
    · rcases ha3 b o hp' with h | h | h
      · exact .inl h
      · exact .inr ⟨h, hI.prot b o hp'⟩
      · exact h.elim
    · rcases ha2.in_ c' b hc' with h | h
      · exact .inr ⟨h, h1.prot b o hp⟩
      · exact h.elim
  cases e with
  | normal => exact fin hq
  | ret => exact fin hq
  | _ => exact hq.elim
theorem semR_of_vc (hS : Seat Pg T ents) {f : FuncId} {fn : Func} {c : Code} {rs : List ResultVar} (hf : Pg.funcs[f]? = some fn) (hb : fn.body = some c) (hrs : fn.results = rs.toArray) (h5 : rs.length ≤ 5) {args : List MV} (hn : args.length ≤ fn.ntmps) (hN : fn.ntmps = N) {M0 : VM} {n0 : Nat} (hM0 : M0.all (fun x => Nat.blt x.1 n0) = true) {res : MV} {M1 : VM} {n1 : Nat}
    (h : vC Pg T N ents G n0 c (vRetR T n0 rs res M1 n1) (envM 0 args) M0 n0) : SemR Pg G f args M0 n0 res M1 n1 := by
  intro w P adr vals hg hI0 hn0 hL hargs
  have hSM : SeatM Pg T ents G w ⟨fun g => ∃ c, adr c = some g, adr, n0, fun c g hc => by
      rcases Nat.lt_or_ge c n0 with h | h
      · exact h
      · rw [hn0 c h] at hc; cases hc⟩ := ⟨hS, fun w' h => G.stab w w' _ hg (fun g ⟨c, hc⟩ => hL c g hc) h, fun g ⟨c, hc⟩ => hL c g hc, fun g h => G.lt w g hg h⟩
  have hlen := hargs.length
  have h0 : Sim N w ⟨fun g => ∃ c, adr c = some g, adr, n0, fun c g hc => by
      rcases Nat.lt_or_ge c n0 with h | h
      · exact h
      · rw [hn0 c h] at hc; cases hc⟩ P (VE.get (envM 0 args)) (VM.get M0) n0 { tmps := vals.toArray ++ Array.replicate (fn.ntmps - vals.toArray.size) undef, defers := [] } w := by
    refine ⟨⟨P, adr, hI0, fun t v ht => ?_, hn0, ⟨fun c g hc => .inr ⟨c, hc⟩, fun c _ => rfl, Keep.refl _ _ _⟩, fun b o h => .inl h⟩, fun c hc => all_lt hM0 hc, Nat.le_refl _, Since.refl _ _, rfl, by simp; omega⟩
    obtain ⟨_, h2⟩ := envM_get ht
    rw [Nat.sub_zero] at h2
    obtain ⟨u, h3, h4⟩ := hargs.get h2
    have hlt := (List.getElem?_eq_some_iff.1 h3).1
    refine ⟨u, ?_, h4⟩
    show (vals.toArray ++ Array.replicate (fn.ntmps - vals.toArray.size) undef)[t]? = some u
    rw [Array.getElem?_append_left (by simpa using hlt)]
    simpa using h3
  refine calls_of_wp hf hb (Code.wp_mono (fun e a w' hq => ?_) (vC_ok hSM c h h0))
  obtain ⟨E', M', n', hq, hs⟩ := hq
  have fin : vRets T M' E' rs (fun vs => ∃ (rv : List MV) (σ bs : List (Nat × Nat)), tupM rv = res ∧ LMatch n0 rv M1 n1 vs M' σ bs) →
      a.defers = [] ∧ ∃ v, (results fn a.tmps).run Pg w' = .ok v w' ∧ ∃ v', Ending.returned v = .returned v' ∧ ∃ P' adr', InvM w' P' adr' (VM.get M1) ∧ RepV w' P' adr' res v' ∧ Keep w w' P P' adr adr' ∧ (∀ c, c < n0 → adr' c = adr c) ∧ (∀ c, n1 ≤ c → adr' c = none) ∧
      (∀ c g, adr' c = some g → w.heap.size ≤ g ∨ ∃ c0, adr c0 = some g) ∧ (∀ b o, P' b o → P b o ∨ w.heap.size ≤ b ∨ ∃ c0, adr c0 = some b) ∧ Since (fun g => ∃ c0, adr c0 = some g) w w' := by
    intro hq
    obtain ⟨P1, adr1, hI, hE, ha1, ha2, ha3⟩ := hs.ex
    obtain ⟨ps, vs, hl, hi, hr, rv, σ, bs, hres, hok, hokb, hall, hrel, hmm⟩ := vRets_out hS.tab hI hE hq
    have hσ := okSg_out hok
    obtain ⟨P2, i1, i2, i3, i4⟩ := hI.frozen hokb
    obtain ⟨r1, r2⟩ := relVs_repVs i4 hrel (hr.kp i2)
    have hA := (ha2.frozen i2).matched hσ
    refine ⟨hs.defers, tup vs, results_out hrs h5 hl hi, tup vs, rfl, P2, adrS (sigA n0 σ) adr1, i1.matched hσ i4 hmm, ?_, hA.keep, fun c hc => hA.old c hc, fun c hc => adrS_none hσ hc, fun c g hc => hA.in_ c g hc, fun b o ho => ?_, hs.since⟩
    · rw [← hres]; exact tup_rep r1 r2
    · rcases i3 b o ho with h | ⟨c, h⟩
      · exact ha3 b o h
      · rcases ha2.in_ c b h with h | h
        · exact .inr (.inl h)
        · exact .inr (.inr h)
  cases e with
  | normal => exact fin hq
  | ret => exact fin hq
  | _ => exact hq.elim
theorem semR_of_semC {f : FuncId} {args : List MV} {res : MV} (h : SemC Pg G f args res) : SemR Pg G f args [] 0 res [] 0 := by
  intro w P adr vals hg hI hn hL hargs
  have e : adr = noAdr := by funext c; exact hn c (Nat.zero_le _)
  subst e
  refine (h w P vals hg hI.prot hargs).mono ?_
  rintro e w' ⟨v, rfl, h1, h2⟩
  have hb := Keep.below (adr := noAdr) hI.prot h2
  refine ⟨v, rfl, protNew w w' P, noAdr, hI.below h2, h1, hb, fun _ _ => rfl, fun _ _ => rfl, fun c g hc => (nomatch hc), fun b o ho => ?_, (Since.of_below h2).weak fun _ e => e.elim⟩
  rcases ho with h | h
  · exact .inl h
  · exact .inr (.inl h.1)
theorem semC_of_semR {f : FuncId} {args : List MV} {res : MV} (h : SemR Pg G f args [] 0 res [] 0) : SemC Pg G f args res := by
  intro w P vals hg hP hargs
  refine (h w P noAdr vals hg ⟨fun c b hc => by simp [VM.get] at hc, fun c d b b' g hc => by simp [VM.get] at hc, hP⟩ (fun _ _ => rfl) (fun c g hc => nomatch hc) hargs).mono ?_
  rintro e w' ⟨v, rfl, P', adr', h1, h2, h3, h4, h5, h6, h7, h8⟩
  have e : adr' = noAdr := by funext c; exact h5 c (Nat.zero_le _)
  subst e
  refine ⟨v, rfl, h2.keep ⟨fun b o hp => ?_, fun _ _ _ => rfl, fun _ _ h => (nomatch h), fun _ _ _ _ h => nomatch h⟩, Since.below (h8.weak fun _ ⟨c, hc⟩ => nomatch hc)⟩
  rcases h7 b o hp with h | h | ⟨c, h⟩
  · exact .inl h
  · exact .inr ⟨h, h1.prot b o hp⟩
  · cases h
end
end Go.Proofs.YtllepnadffndnaaDoor
namespace Go.Proofs.YtllepnadffndnaaDoor
open Go.RowKit Go.ChangeShapes Go.Deep
def allP (W : World) : Prot := fun b _ => b < W.heap.size
mutual
def MV.bulk : MV → Nat
  | .str s => s.length + 1
  | .sl _ l => MV.bulks l + 1
  | .st l => MV.bulks l + 1
  | _ => 1
def MV.bulks : List MV → Nat
  | [] => 0
  | m :: l => MV.bulk m + MV.bulks l
end
theorem bulk_one {H : Type} (d : DataW H) : 1 ≤ Rows.uptoBulk d := by
  cases d with
  | lit l => cases l <;> simp [Rows.uptoBulk]
  | nil => simp [Rows.uptoBulk]
  | ptr d => simp [Rows.uptoBulk]
  | slice elems spare => simp [Rows.uptoBulk]
  | agg parts => simp [Rows.uptoBulk]
  | iface t d => simp [Rows.uptoBulk]
  | map entries => simp [Rows.uptoBulk]
  | held h => simp [Rows.uptoBulk]
theorem bulks_map {H : Type} (f : Nat → MV) (D : Nat → DataW H) : ∀ (l : List Nat), (∀ i ∈ l, (f i).bulk ≤ Rows.uptoBulk (D i)) → MV.bulks (l.map f) ≤ Rows.uptoBulkAll (l.map D)
  | [], _ => Nat.le_refl _
  | i :: l, h => by
    have h1 := h i (by simp)
    have h2 := bulks_map f D l fun j hj => h j (by simp [hj])
    simp only [List.map_cons, MV.bulks, Rows.uptoBulkAll]
    omega
theorem bulks_append : ∀ (a b : List MV), MV.bulks (a ++ b) = MV.bulks a + MV.bulks b
  | [], b => by simp [MV.bulks]
  | x :: a, b => by simp only [List.cons_append, MV.bulks, bulks_append a b]; omega
theorem bulks_len : ∀ (l : List MV), l.length ≤ MV.bulks l
  | [] => Nat.le_refl _
  | x :: l => by
    have := bulks_len l
    have h1 : 1 ≤ MV.bulk x := by cases x <;> simp [MV.bulk]
    simp only [List.length_cons, MV.bulks]; omega
def Opn (P : Program) (t : TypeId) (n : Nat) (Q : MV → Prop) : Prop :=
  P.cellsOf t = n ∧ ∀ {H : Type} (enc : TypeId × Value → H) (W : World) (spare : Nat → Bool) (held : Bool) (fuel : Nat) (cs : List Value) (d : DataW H) (p : List MemPlace),
    DataW.trod enc P W 0 spare held fuel t cs = some (d, p) → (d.weights P t).all (· ≤ reachBytes) = true → cs.length = n ∧ ∃ m, Q m ∧ Rep W (allP W) noAdr m cs ∧ m.bulk ≤ Rows.uptoBulk d
section
variable {P : Program} {t e : TypeId}
theorem Opn.int {k : IntKind} (hu : P.underlying t = some (.int k)) (hc : P.cellsOf t = 1) : Opn P t 1 fun m => ∃ n, m = .int k n ∧ (Lit.int k n).wf = true :=
  ⟨hc, fun enc W spare held fuel cs d p h _ => by
    obtain ⟨n, rfl, _, hw⟩ := DataW.trod_int hu h
    exact ⟨rfl, _, ⟨n, rfl, hw⟩, .int, bulk_one d⟩⟩
theorem Opn.bool (hu : P.underlying t = some .bool) (hc : P.cellsOf t = 1) : Opn P t 1 fun m => ∃ b, m = .bool b :=
  ⟨hc, fun enc W spare held fuel cs d p h _ => by
    obtain ⟨b, rfl, _⟩ := DataW.trod_bool hu h
    exact ⟨rfl, _, ⟨b, rfl⟩, .bool, bulk_one d⟩⟩
theorem Opn.str (hu : P.underlying t = some .string) (hc : P.cellsOf t = 1) : Opn P t 1 fun m => ∃ s, m = .str s ∧ s.length ≤ 140737488355328 :=
  ⟨hc, fun enc W spare held fuel cs d p h hw => by
    obtain ⟨s, rfl, hx, _⟩ := DataW.trod_string hu h
    simp only [Prod.mk.injEq] at hx
    obtain ⟨rfl, rfl⟩ := hx
    have h2 : s.data.size ≤ reachBytes := by simpa [DataW.weights] using hw
    exact ⟨rfl, _, ⟨s.data.toList, rfl, by simpa using Nat.le_trans h2 reach_le⟩, .str, by simp [MV.bulk, Rows.uptoBulk]⟩⟩
theorem Opn.arr {k : IntKind} {n : Nat} (hu : P.underlying t = some (.array n e)) (he : P.underlying e = some (.int k)) (hc : P.cellsOf t = n) (hce : P.cellsOf e = 1) :
    Opn P t n fun m => ∃ l : List Int, m = .arr n 1 (l.map (.int k)) ∧ l.length = n ∧ ∀ y ∈ l, (Lit.int k y).wf = true := by
  have ho := Opens.arr hu he hc hce
  refine ⟨hc, fun enc W spare held fuel cs d p h hw => ?_⟩
  obtain ⟨x, rfl, hl, hwf⟩ := ho.2 enc W spare held fuel cs d p h hw
  refine ⟨by simpa using hl, _, ⟨x, rfl, hl, hwf⟩, ?_, bulk_one d⟩
  have e0 : x.map (Value.int k) = (x.map fun y => [Value.int k y]).flatten := by
    clear hl hwf h
    induction x with
    | nil => rfl
    | cons a x ih => rw [List.map_cons, List.map_cons, List.flatten_cons, ← ih]; rfl
  rw [e0]
  refine .arr _ (by simpa using hl) (by simpa using hl) (fun p hp => by obtain ⟨y, _, rfl⟩ := List.mem_map.1 hp; rfl) fun j m p hm hp => ?_
  rw [List.getElem?_map] at hm hp
  cases hj : x[j]? with
  | none => rw [hj] at hm; cases hm
  | some y => rw [hj] at hm hp; injection hm with hm; injection hp with hp; subst hm; subst hp; exact .int
theorem Opn.slice {n : Nat} {Q : MV → Prop} (hu : P.underlying t = some (.slice e)) (hc : P.cellsOf t = 1) (hb : 0 < P.bytesOf e) (hpos : 0 < n) (hr : Opn P e n Q) : Opn P t 1 fun m => ∃ l, m = .sl l.length l ∧ (∀ x ∈ l, Q x) ∧ l.length ≤ 140737488355328 := by
  refine ⟨hc, fun {H} enc W spare held fuel cs d p h hw => ?_⟩
  rcases open_slice hu h with ⟨rfl, _⟩ | ⟨a, len, cap, m, nn, D, Pl, rfl, _, hle, _, hm, hx, hi⟩
  · exact ⟨rfl, _, ⟨[], rfl, by simp, by simp⟩, .sl none 0 0 [] rfl rfl (fun p hp => nomatch hp) (fun _ => ⟨rfl, rfl⟩) (Nat.le_refl _) (fun h => absurd rfl h) (fun j m p h => by simp at h), bulk_one _⟩
  · simp only [Prod.mk.injEq] at hx
    obtain ⟨rfl, rfl⟩ := hx
    simp only [DataW.weights, hu, List.all_cons, List.all_append, Bool.and_eq_true, List.length_map, List.length_range] at hw
    have hmle : len ≤ m := by rw [hm]; split <;> omega
    have hlen : len ≤ 140737488355328 := by
      have h1 := of_decide_eq_true hw.1
      have h3 := reach_le
      have h2 : len * 1 ≤ (len + (m - len)) * P.bytesOf e := Nat.mul_le_mul (by omega) hb
      omega
    have key : ∀ i, i < len → ∃ x : MV × List Value, Q x.1 ∧ Rep W (allP W) noAdr x.1 x.2 ∧ x.2.length = n ∧ (∀ j v, x.2[j]? = some v → W.cell? (a.add (i * n + j)) = some v) ∧ x.1.bulk ≤ Rows.uptoBulk (D i) := by
      intro i hil
      obtain ⟨cs', hc', ht⟩ := hi i (by omega)
      rw [hr.1] at hc'
      obtain ⟨_, hl, hat⟩ := World.cells?_some hc'
      have hmem : D i ∈ List.map D (List.range len) := List.mem_map.2 ⟨i, List.mem_range.2 hil, rfl⟩
      obtain ⟨hl2, x, hx1, hx2, hx3⟩ := hr.2 enc W spare held nn cs' (D i) (Pl i) ht (weightsAll_mem hw.2.1 hmem)
      refine ⟨(x, cs'), hx1, hx2, hl2, fun j v hv => ?_, hx3⟩
      have hj : j < cs'.length := (List.getElem?_eq_some_iff.1 hv).1
      have := hat j (by omega)
      rw [Go.Deep.add_add] at this
      rw [this, hv]
    have ex : ∃ f : Nat → MV × List Value, ∀ i, i < len → Q (f i).1 ∧ Rep W (allP W) noAdr (f i).1 (f i).2 ∧ (f i).2.length = n ∧ (∀ j v, (f i).2[j]? = some v → W.cell? (a.add (i * n + j)) = some v) ∧ (f i).1.bulk ≤ Rows.uptoBulk (D i) :=
      ⟨fun i => Classical.epsilon fun x => Q x.1 ∧ Rep W (allP W) noAdr x.1 x.2 ∧ x.2.length = n ∧ (∀ j v, x.2[j]? = some v → W.cell? (a.add (i * n + j)) = some v) ∧ x.1.bulk ≤ Rows.uptoBulk (D i), fun i hil => Classical.epsilon_spec (key i hil)⟩
    obtain ⟨f, hf⟩ := ex
    refine ⟨rfl, .sl len ((List.range len).map fun i => (f i).1), ⟨(List.range len).map fun i => (f i).1, by simp, fun x hx => ?_, by simpa using hlen⟩, ?_, ?_⟩
    · obtain ⟨i, hi, rfl⟩ := List.mem_map.1 hx
      exact (hf i (List.mem_range.1 hi)).1
    case refine_3 =>
      have hb := bulks_map (fun i => (f i).1) D (List.range len) fun i hi => (hf i (List.mem_range.1 hi)).2.2.2.2
      simp only [MV.bulk, Rows.uptoBulk]
      omega
    · obtain ⟨b, o, spot⟩ := a
      have hparts : ∀ p ∈ (List.range len).map fun i => (f i).2, p.length = n := fun p hp => by
        obtain ⟨i, hi, rfl⟩ := List.mem_map.1 hp
        exact (hf i (List.mem_range.1 hi)).2.2.1
      refine .sl _ cap n ((List.range len).map fun i => (f i).2) (by simp) (by simp) hparts (fun h => nomatch h) hle (fun h0 => ?_) fun j m p hm hp => ?_
      · have hspot : spot = none := by
          obtain ⟨_, _, hl, hc', _⟩ := hf 0 (by omega)
          have hv : (f 0).2[0]? = some ((f 0).2[0]'(by omega)) := List.getElem?_eq_getElem (by omega)
          have hcell := hc' 0 _ hv
          have e0 : (⟨b, o, spot⟩ : Addr).add (0 * n + 0) = ⟨b, o, spot⟩ := by simp [Addr.add]
          rw [e0] at hcell
          simpa using World.cell?_spot hcell
        subst hspot
        refine ⟨b, o, rfl, fun j u hj => ?_⟩
        have hjl := (List.getElem?_eq_some_iff.1 hj).1
        rw [flatten_const hparts] at hjl
        simp at hjl
        obtain ⟨i, k, hk, hji⟩ : ∃ i k, k < n ∧ j = i * n + k := ⟨j / n, j % n, Nat.mod_lt _ hpos, by rw [Nat.mul_comm]; exact (Nat.div_add_mod j n).symm⟩
        have hil : i < len := by
          rcases Nat.lt_or_ge i len with h | h
          · exact h
          · have := Nat.mul_le_mul_right n h; omega
        have hget : (f i).2[k]? = some u := by
          have hl := (hf i hil).2.2.1
          have hp : ((List.range len).map fun i => (f i).2)[i]? = some (f i).2 := by simp [hil]
          have h2 : ((List.range len).map fun i => (f i).2).flatten[i * n + k]? = (f i).2[k]? := by
            have hsp := flatten_split hp
            have hpre : (((List.range len).map fun i => (f i).2).take i).flatten.length = i * n := by
              rw [flatten_const fun p hp => hparts p (List.mem_of_mem_take hp)]
              rw [List.length_take, List.length_map, List.length_range, Nat.min_eq_left (Nat.le_of_lt hil)]
            rw [hsp, List.append_assoc, List.getElem?_append_right (by omega), hpre, show i * n + k - i * n = k by omega, List.getElem?_append_left (by omega)]
          rw [← h2, ← hji]; exact hj
        have := (hf i hil).2.2.2.1 k u hget
        rw [Addr.add_mid] at this
        have hc2 : W.cell? ⟨b, o + j, none⟩ = some u := by rw [hji]; exact this
        exact ⟨hc2, World.block_lt_of_cell? W _ hc2⟩
      · rw [List.getElem?_map] at hm hp
        cases hj : (List.range len)[j]? with
        | none => rw [hj] at hm; cases hm
        | some i =>
          rw [hj] at hm hp
          injection hm with hm
          injection hp with hp
          subst hm; subst hp
          have hi : i < len := by
            have := List.mem_range.1 (List.mem_of_getElem? hj)
            exact this
          exact (hf i hi).2.1
theorem lift_list {α : Type} {f : α → MV} {R : α → Prop} : ∀ (l : List MV), (∀ x ∈ l, ∃ a, x = f a ∧ R a) → ∃ us : List α, l = us.map f ∧ ∀ a ∈ us, R a
  | [], _ => ⟨[], rfl, by simp⟩
  | x :: l, h => by
    obtain ⟨a, e, hr⟩ := h x (by simp)
    obtain ⟨us, e2, has⟩ := lift_list l fun y hy => h y (by simp [hy])
    refine ⟨a :: us, by rw [e, e2]; rfl, fun b hb => ?_⟩
    rcases List.mem_cons.1 hb with rfl | hb
    · exact hr
    · exact has b hb
def OpnL (P : Program) : Nat → List Field → List (Nat × (MV → Prop)) → Prop
  | _, [], [] => True
  | o, f :: fs, q :: qs => f.offset = o ∧ Opn P f.type q.1 q.2 ∧ OpnL P (o + q.1) fs qs
  | _, _, _ => False
def sumN : List (Nat × (MV → Prop)) → Nat
  | [] => 0
  | q :: qs => q.1 + sumN qs
def AllQ : List (Nat × (MV → Prop)) → List MV → Prop
  | [], [] => True
  | q :: qs, m :: l => q.2 m ∧ AllQ qs l
  | _, _ => False
theorem OpnL.out {H : Type} (enc : TypeId × Value → H) (W : World) (spare : Nat → Bool) (held : Bool) (fuel : Nat) (cs : List Value) : ∀ (fs : List Field) (qs : List (Nat × (MV → Prop))) (xs : List (DataW H × List MemPlace)) (o : Nat), OpnL P o fs qs → xs.length = fs.length → o + sumN qs = cs.length →
    (∀ (i : Nat) (f : Field), fs[i]? = some f → DataW.trod enc P W 0 spare held fuel f.type ((cs.drop f.offset).take (P.cellsOf f.type)) = xs[i]?) → (∀ (i : Nat) (f : Field) (x : DataW H × List MemPlace), fs[i]? = some f → xs[i]? = some x → (x.1.weights P f.type).all (· ≤ reachBytes) = true) →
    ∃ (l : List MV) (parts : List (List Value)), AllQ qs l ∧ parts.length = l.length ∧ cs.drop o = parts.flatten ∧ MV.bulks l ≤ Rows.uptoBulkAll (xs.map (·.1)) ∧ ∀ (j : Nat) m p, l[j]? = some m → parts[j]? = some p → Rep W (allP W) noAdr m p
  | [], [], _, o, _, _, hs, _, _ => ⟨[], [], trivial, rfl, by simp only [sumN] at hs; rw [List.drop_eq_nil_of_le (by omega)]; rfl, Nat.zero_le _, fun j m p h => by simp at h⟩
  | f :: fs, q :: qs, x :: xs, o, ho, hl, hs, hx, hw => by
    obtain ⟨h1, h2, h3⟩ := ho
    have ht := hx 0 f rfl
    rw [h1, h2.1] at ht
    obtain ⟨d, p⟩ := x
    obtain ⟨hlen, m, hq, hr, hb⟩ := h2.2 enc W spare held fuel _ d p ht (hw 0 f (d, p) rfl rfl)
    obtain ⟨l, parts, a1, a2, a3, a5, a4⟩ := OpnL.out enc W spare held fuel cs fs qs xs (o + q.1) h3 (by simpa using hl) (by simp only [sumN] at hs; omega) (fun i f hf => hx (i + 1) f hf) fun i f x hf hx => hw (i + 1) f x hf hx
    refine ⟨m :: l, (cs.drop o).take q.1 :: parts, ⟨hq, a1⟩, by simp [a2], ?_, by simp only [List.map_cons, MV.bulks, Rows.uptoBulkAll]; omega, fun j m' p' hm hp => ?_⟩
    · rw [List.flatten_cons, ← a3, ← List.drop_drop, List.take_append_drop]
    · cases j with
      | zero => simp at hm hp; subst hm; subst hp; exact hr
      | succ j => exact a4 j m' p' (by simpa using hm) (by simpa using hp)
  | [], _ :: _, _, _, h, _, _, _, _ => h.elim
  | _ :: _, [], _, _, h, _, _, _, _ => h.elim
  | _ :: _, _ :: _, [], _, _, h, _, _, _ => by simp at h
theorem Opn.struct {fs : List Field} {qs : List (Nat × (MV → Prop))} (hu : P.underlying t = some (.struct fs.toArray)) (hc : P.cellsOf t = sumN qs) (h : OpnL P 0 fs qs) : Opn P t (sumN qs) fun m => ∃ l, m = .st l ∧ AllQ qs l := by
  refine ⟨hc, fun {H} enc W spare held fuel cs d p h' hw => ?_⟩
  obtain ⟨xs, n, _, hx, hl, hlen, hf⟩ := DataW.trod_struct hu h'
  simp only [Prod.mk.injEq] at hx
  obtain ⟨rfl, rfl⟩ := hx
  simp only [DataW.weights, hu] at hw
  have hw2 : ∀ (fs : List Field) (xs : List (DataW H × List MemPlace)), (DataW.weightsEach P (fs.map (·.type)) (xs.map (·.1))).all (· ≤ reachBytes) = true → ∀ (i : Nat) (f : Field) (x : DataW H × List MemPlace), fs[i]? = some f → xs[i]? = some x → (x.1.weights P f.type).all (· ≤ reachBytes) = true := by
    intro fs
    induction fs with
    | nil => intro xs _ i f x hf; simp at hf
    | cons g fs ih =>
      intro xs hw i f x hf hx
      cases xs with
      | nil => simp at hx
      | cons y xs =>
        simp only [List.map_cons, DataW.weightsEach, List.all_append, Bool.and_eq_true] at hw
        cases i with
        | zero => simp at hf hx; subst hf; subst hx; exact hw.1
        | succ i => exact ih xs hw.2 i f x (by simpa using hf) (by simpa using hx)
  obtain ⟨l, parts, a1, a2, a3, a5, a4⟩ := OpnL.out enc W spare held n cs fs qs xs 0 h (by simpa using hlen) (by rw [hl, hc]; omega) (fun i f hi => hf i f (by simpa using hi)) (hw2 fs xs (by simpa using hw))
  rw [List.drop_zero] at a3
  exact ⟨hl.trans hc, .st l, ⟨l, rfl, a1⟩, by rw [a3]; exact .st parts a2 a4, by simp only [MV.bulk, Rows.uptoBulk]; omega⟩
end
end Go.Proofs.YtllepnadffndnaaDoor
namespace Go.Proofs.YtllepnadffndnaaDoor
def tab : Tab := [(1, .fn), (2, .int .i64), (3, .int .i64), (4, .bool), (5, .int .u8), (6, .int .u8), (7, .struct [(0, 2), (1, 3), (2, 4), (3, 6)] 4), (8, .struct [(0, 2), (1, 3), (2, 4), (3, 6)] 4), (9, .str), (10, .str), (11, .str), (12, .int .u64), (13, .struct [(0, 9), (1, 12)] 2), (14, .struct [(0, 9), (1, 12)] 2), (15, .ptr), (16, .ptr), (17, .ptr), (18, .struct [(0, 17)] 1), (19, .struct [(0, 17)] 1), (20, .iface), (21, .int .i32), (22, .int .u64), (23, .struct [(0, 3), (1, 3), (2, 3), (3, 3), (4, 3), (5, 3), (6, 4), (7, 3), (8, 3), (9, 22), (10, 3), (11, 3)] 12), (24, .struct [(0, 3), (1, 3), (2, 3), (3, 3), (4, 3), (5, 3), (6, 4), (7, 3), (8, 3), (9, 22), (10, 3), (11, 3)] 12), (25, .slice 3 1), (26, .fn), (27, .fn), (28, .fn), (29, .int .i64), (30, .fn), (31, .fn), (32, .fn), (33, .slice 24 12), (35, .fn), (37, .fn), (38, .slice 5 1), (39, .slice 9 1), (40, .fn), (41, .fn), (42, .fn), (43, .ptr), (44, .fn), (45, .fn), (46, .fn), (47, .fn), (48, .fn), (49, .fn), (50, .int .u64), (51, .slice 22 1), (52, .fn), (53, .fn), (54, .fn), (55, .slice 25 1), (56, .struct [(0, 22), (1, 4)] 2), (57, .struct [(0, 22), (1, 4)] 2), (58, .struct [(0, 9), (1, 57), (3, 57), (5, 57)] 7), (59, .struct [(0, 9), (1, 57), (3, 57), (5, 57)] 7), (60, .arr 12 59 7), (61, .fn), (63, .fn), (64, .fn), (65, .fn), (66, .fn), (67, .fn), (68, .fn), (69, .ptr), (70, .ptr), (71, .struct [(0, 70), (1, 38)] 2), (72, .struct [(0, 70), (1, 38)] 2), (73, .fn), (74, .iface), (75, .iface), (77, .fn), (78, .fn), (79, .arr 12 4 1), (80, .fn), (81, .fn), (82, .ptr), (83, .struct [(0, 25), (1, 3)] 2), (84, .struct [(0, 25), (1, 3)] 2), (85, .fn), (86, .ptr), (87, .arr 12 86 1), (88, .fn), (89, .fn), (90, .ptr), (91, .fn), (92, .arr 256 5 1), (93, .struct [(0, 5), (1, 5)] 2), (94, .struct [(0, 5), (1, 5)] 2), (95, .arr 16 94 2), (96, .fn), (97, .fn), (98, .fn), (100, .fn), (102, .fn), (103, .fn), (105, .fn), (106, .arr 24 5 1), (107, .fn), (108, .fn), (110, .fn), (111, .ptr), (112, .fn), (113, .fn), (114, .fn), (116, .fn), (117, .fn), (119, .fn), (120, .fn), (121, .fn), (122, .arr 20 22 1), (123, .int .u32), (124, .arr 65 5 1), (125, .fn), (127, .fn), (128, .fn), (129, .fn), (130, .fn), (131, .fn), (132, .fn), (133, .int .i64), (134, .fn), (135, .ptr), (136, .fn), (137, .fn), (138, .arr 32 5 1), (139, .arr 64 5 1), (141, .fn), (142, .fn), (143, .struct [(0, 9), (1, 9), (2, 75)] 3), (144, .struct [(0, 9), (1, 9), (2, 75)] 3), (145, .fn), (146, .ptr), (147, .struct [(0, 9)] 1), (148, .struct [(0, 9)] 1), (149, .fn), (150, .struct [(0, 17), (1, 17), (2, 17), (3, 9)] 4), (151, .struct [(0, 17), (1, 17), (2, 17), (3, 9)] 4), (155, .fn), (156, .int .u8), (157, .int .u8), (158, .fn), (159, .int .i32), (160, .int .i32), (161, .struct [(0, 12), (1, 12), (2, 123), (3, 156), (4, 5), (5, 5), (6, 157), (7, 158), (8, 90), (9, 159), (10, 160)] 11), (162, .struct [(0, 12), (1, 12), (2, 123), (3, 156), (4, 5), (5, 5), (6, 157), (7, 158), (8, 90), (9, 159), (10, 160)] 11)]
def ents : List FuncId := [2, 3, 4, 5, 6, 7, 8, 9, 10, 11, 12, 13, 14, 15, 16, 17, 18, 19, 20, 21, 22, 23, 24, 25, 26, 27, 28, 29, 30, 31, 32, 33, 34, 35, 36, 37, 38, 39, 40, 41, 42, 43, 44, 45, 46, 47, 48, 49, 50, 51, 52, 53, 54, 55, 56, 57, 58, 59, 60, 61, 62, 64, 65, 66, 67, 68, 69, 70, 71, 72, 73, 74, 75, 76, 77, 78, 79, 81, 82, 83, 84, 85, 86, 87, 88, 89, 90, 92, 93, 94, 95, 96, 97, 98, 99, 101, 102, 103, 104, 105, 106, 136]
def entB (P : Program) (f : FuncId) : Bool := match P.funcs[f]? with | some fn => fn.body.isSome && !(fn.name == "runtime.NumGoroutine") | none => false
theorem enters_of_entB {P : Program} {f : FuncId} (h : entB P f = true) (args : Array Value) (w : World) : (callFunc f args).run P w = .ok (.enter f args) w := by
  unfold entB at h
  split at h
  · rename_i fn hf
    simp only [Bool.and_eq_true, Bool.not_eq_true'] at h
    obtain ⟨h1, h2⟩ := h
    obtain ⟨c, hc⟩ := Option.isSome_iff_exists.1 h1
    exact enters_of hf h2 hc args w
  · cases h
theorem seat : Seat Tryd.prog tab ents := ⟨⟨by kernel_rfl⟩, fun f hf => enters_of_entB (List.all_eq_true.1 (show ents.all (entB Tryd.prog) = true by kernel_rfl) f hf), by kernel_rfl⟩
end Go.Proofs.YtllepnadffndnaaDoor
namespace Go.Proofs.YtllepnadffndnaaDoor
open Go.RowKit
theorem emodO_of (x n : Int) (hn : 0 < n) : (if x.tmod n < 0 then x.tmod n + n else x.tmod n) = x % n := by
  rw [Int.tmod_eq_emod]
  have h1 := Int.emod_nonneg x (show n ≠ 0 by omega)
  have h2 := Int.emod_lt_of_pos x hn
  have e : (n.natAbs : Int) = n := by omega
  split <;> split at * <;> omega
theorem place_c (x n : Int) (w : World) (hn : 0 < n) (hn2 : n < 9223372036854775808) :
    Calls Tryd.prog 23 #[.int .i64 x, .int .i64 n] w fun e w' => e = .returned (.int .i64 (x % n)) ∧ Below w.heap.size w w' := by
  have he := emodO_of x n hn
  have hlt := Int.tmod_lt_of_pos x hn
  refine calls_of_vc seat Tryd.func23 rfl rfl (Nat.le_of_ble_eq_true rfl) (N := 14) (args := [.val (.int .i64 x), .val (.int .i64 n)]) (Nat.le_of_ble_eq_true rfl) rfl (A.start w) ?_
  refine ⟨by omega, _, rfl, ?_⟩
  refine ⟨fun h => ?_, fun h => ?_⟩
  · refine ⟨_, rfl, ?_⟩
    intro w' hA
    refine ⟨?_, hA.bel (by simp)⟩
    have h0 : x.tmod n < 0 := by simpa using h
    rw [if_pos h0] at he
    show Ending.returned (.int .i64 _) = _
    have := Int.emod_nonneg x (show n ≠ 0 by omega)
    have := Int.emod_lt_of_pos x hn
    rw [he, wrap_in _ (by omega) (by omega)]
  · intro w' hA
    refine ⟨?_, hA.bel (by simp)⟩
    have h0 : ¬ x.tmod n < 0 := by simpa using h
    rw [if_neg h0] at he
    show Ending.returned (.int .i64 _) = _
    rw [he]
def nextO (L : List Int) (N : Nat) (n : Int) : Int := (L[N]?.getD 0) % n
def numbV (a : Option Addr) (L : List Int) (c N : Nat) : List SV := [.val (.slice a L.length c), .val (.int .i64 N)]
theorem next_c (g : Nat) (a : Option Addr) (c : Nat) (L : List Int) (N : Nat) (n : Int) (w : World) {S : Fp} (hS : ∀ b, S b → b ≠ g) (hn : 0 < n) (hn2 : n < 9223372036854775808) (hN : N < 4611686018427387904)
    (hb : Blk w g 84 ((numbV a L c N).map SV.den).toArray) (hL : Sl (Rp.int .i64) w S a L) :
    Calls Tryd.prog 44 #[.pointer (some ⟨g, 0, none⟩), .int .i64 n] w fun e w' => e = .returned (.int .i64 (nextO L N n)) ∧ Blk w' g 84 ((numbV a L c (N + 1)).map SV.den).toArray ∧ Since (fun b => b = g) w w' := by
  have l0 := hL.1
  have hNN : IntKind.i64.wrap ((N : Int) + 1) = ((N + 1 : Nat) : Int) := by rw [wrap_in _ (by omega) (by omega)]; rfl
  refine calls_of_vc seat Tryd.func44 rfl rfl (Nat.le_of_ble_eq_true rfl) (N := 36) (args := [.ptr 0 g 0, .val (.int .i64 n)]) (Nat.le_of_ble_eq_true rfl) rfl (A.start1 hb) ?_
  refine ⟨[(0, .ptr 0 g 0), (1, .val (.int .i64 n)), (5, .val (.int .i64 0))], [(0, ⟨g, 84, numbV a L c N⟩)], [], [], .inl ⟨⟨_, rfl, rfl⟩, ⟨_, rfl, rfl⟩, ⟨_, rfl, rfl⟩, trivial⟩, .inl ⟨rfl, trivial⟩, nofun, (.take 0 (.take 1 (.take 2 (.take 3 (.take 4 (.take 5 (.take 6 (.take 7 (.take 8 (.take 9 .done)))))))))), by kernel_rfl, ?_⟩
  refine ⟨_, rfl, rfl, _, rfl, rfl, ?_⟩
  refine ⟨fun h => ?_, fun h => ?_⟩
  · have hlt : N < L.length := by have : (N : Int) < L.length := by simpa using h
                                  omega
    obtain ⟨b, o, cs, rfl, hSb, hr, hat, _, _⟩ := hL.get 1 rfl hlt
    have hc : cs = [.int .i64 L[N]] := hr.1
    subst hc
    refine ⟨[(0, .ptr 0 g 0), (1, .val (.int .i64 n)), (5, .val (.int .i64 0))], [(0, ⟨g, 84, numbV (some ⟨b, o, none⟩) L c N⟩)], [(w, fun b => b = g)], [], .inl ⟨⟨_, rfl, rfl⟩, ⟨_, rfl, rfl⟩, ⟨_, rfl, rfl⟩, trivial⟩, .inl ⟨rfl, trivial⟩, fun _ h => h, (.take 0 (.take 1 (.take 2 (.take 3 (.take 4 (.take 5 (.take 6 (.take 7 (.take 8 (.take 9 (.take 10 .done))))))))))), by kernel_rfl, ?_⟩
    refine ⟨_, rfl, rfl, _, rfl, rfl, b, o, N, rfl, rfl, hlt, ?_⟩
    refine ⟨.int .i64 L[N], fun w' hA => ?_, ?_⟩
    · exact ldS seat.tab rfl rfl hat (j := 0) rfl (by omega) (hA.since (w, _) (List.Mem.head _)) (hS b hSb)
    refine ⟨_, rfl, rfl, _, hNN, _, rfl, rfl, rfl, ?_⟩
    intro w1 hA
    refine (place_c L[N] n w1 hn hn2).mono ?_
    rintro e w2 ⟨rfl, hb⟩
    refine ⟨.val _, _, _, rfl, hA.below' hb, ?_⟩
    intro w' hA
    refine ⟨?_, hA.blk 0 _ rfl, hA.since (w, _) (List.Mem.head _)⟩
    simp [nextO, hlt, tup, SV.den]
  · have hge : L[N]? = none := by
      have : ¬ (N : Int) < L.length := by simpa using h
      exact List.getElem?_eq_none (by omega)
    refine ⟨_, rfl, rfl, _, hNN, _, rfl, rfl, rfl, ?_⟩
    intro w1 hA
    refine (place_c 0 n w1 hn hn2).mono ?_
    rintro e w2 ⟨rfl, hb⟩
    refine ⟨.val _, _, _, rfl, hA.below' hb, ?_⟩
    intro w' hA
    refine ⟨?_, hA.blk 0 _ rfl, hA.since (w, _) (List.Mem.head _)⟩
    simp [nextO, hge, tup, SV.den]
theorem from_c (a : Option Addr) (c : Nat) (L : List Int) (w : World) :
    Calls Tryd.prog 22 #[.slice a L.length c] w fun e w' => ∃ g, e = .returned (.pointer (some ⟨g, 0, none⟩)) ∧ w.heap.size ≤ g ∧ Blk w' g 84 ((numbV a L c 0).map SV.den).toArray ∧ Below w.heap.size w w' := by
  refine calls_of_vc seat Tryd.func22 rfl rfl (Nat.le_of_ble_eq_true rfl) (N := 6) (args := [.val (.slice a L.length c)]) (Nat.le_of_ble_eq_true rfl) rfl (A.start w) ?_
  refine ⟨⟨rfl, trivial⟩, ?_⟩
  intro g _
  intro w' hA
  exact ⟨g, rfl, hA.at_start (p := (w, fun _ => False)) (by simp) 0 rfl (fun h => h), hA.blk 0 _ rfl, hA.bel (by simp)⟩
theorem nextO_range (L : List Int) (N : Nat) (n : Int) (hn : 0 < n) : 0 ≤ nextO L N n ∧ nextO L N n < n := ⟨Int.emod_nonneg _ (by omega), Int.emod_lt_of_pos _ hn⟩
theorem next_e (g : Nat) (a : Option Addr) (c : Nat) (L : List Int) (N : Nat) (n : Int) (w : World) {S : Fp} (hS : ∀ b, S b → b ≠ g) (hn : 0 < n) (hn2 : n < 9223372036854775808) (hN : N < 4611686018427387904)
    (hb : Blk w g 84 ((numbV a L c N).map SV.den).toArray) (hL : Sl (Rp.int .i64) w S a L) :
    Calls Tryd.prog 44 #[.pointer (some ⟨g, 0, none⟩), .int .i64 n] w fun e w' => ∃ x : Int, (0 ≤ x ∧ x < n) ∧ e = .returned (.int .i64 x) ∧ Blk w' g 84 ((numbV a L c (N + 1)).map SV.den).toArray ∧ Since (fun b => b = g) w w' :=
  (next_c g a c L N n w hS hn hn2 hN hb hL).mono fun _ _ h => ⟨_, nextO_range L N n hn, h⟩
def lensTo (ls : List (List Int)) : Nat → Int
  | 0 => 0
  | k + 1 => wrap64 (lensTo ls k + ((ls[k]?.map List.length).getD 0 : Nat))
end Go.Proofs.YtllepnadffndnaaDoor
namespace Go.Proofs.YtllepnadffndnaaDoor
open Go.RowKit
structure Wide where
  n : Int
  minus : Bool
  deriving DecidableEq
def wideV : Wide → List Value
  | ⟨n, m⟩ => [.int .u64 n, .bool m]
def numW (n : Int) : Wide := ⟨IntKind.u64.wrap n, false⟩
def lessW (a b : Wide) : Bool := if a.minus || b.minus then a.minus && !b.minus else decide (a.n < b.n)
theorem number_c (n : Int) (w : World) : Calls Tryd.prog 45 #[.int .i64 n] w fun e w' => e = .returned (.agg ⟨wideV (numW n)⟩) ∧ Below w.heap.size w w' := by
  refine calls_of_vc seat Tryd.func45 rfl rfl (Nat.le_of_ble_eq_true rfl) (N := 6) (args := [.val (.int .i64 n)]) (Nat.le_of_ble_eq_true rfl) rfl (A.start w) ?_
  intro g _
  refine ⟨_, rfl, ?_⟩
  refine ⟨⟨rfl, trivial⟩, ?_⟩
  refine ⟨rfl, rfl, rfl, rfl, ?_⟩
  refine ⟨rfl, rfl, ?_⟩
  (intro w' hA; exact ⟨rfl, hA.bel (by simp)⟩)
theorem less_c (a b : Wide) (w : World) : Calls Tryd.prog 47 #[.agg ⟨wideV a⟩, .agg ⟨wideV b⟩] w fun e w' => e = .returned (.bool (lessW a b)) ∧ Below w.heap.size w w' := by
  obtain ⟨n, m⟩ := a
  obtain ⟨n', m'⟩ := b
  cases m <;> cases m' <;>
  · refine calls_of_vc seat Tryd.func47 rfl rfl (Nat.le_of_ble_eq_true rfl) (N := 23) (args := [.val (.agg ⟨wideV ⟨n, _⟩⟩), .val (.agg ⟨wideV ⟨n', _⟩⟩)]) (Nat.le_of_ble_eq_true rfl) rfl (A.start w) ?_
    intro g0 _
    intro g1 _
    (repeat (first | refine ⟨fun _ => ?_, fun h => Bool.noConfusion h⟩ | refine ⟨fun h => Bool.noConfusion h, fun _ => ?_⟩ | refine ⟨_, wrap_in _ (by omega) (by omega), ?_⟩ | refine ⟨_, wrapu_in _ (by omega) (by omega), ?_⟩ | refine ⟨_, wrap8_in _ (by omega) (by omega), ?_⟩ | refine ⟨_, rfl, ?_⟩ | refine ⟨rfl, ?_⟩))
    (intro w' hA; exact ⟨rfl, hA.bel (by simp)⟩)
def nameL : Nat → List UInt8
  | 0 => [109, 97, 120, 45, 116, 120, 115]
  | 1 => [109, 97, 120, 45, 98, 121, 116, 101, 115]
  | 2 => [109, 97, 120, 45, 116, 120, 45, 98, 121, 116, 101, 115]
  | 3 => [99, 97, 99, 104, 101, 45, 115, 105, 122, 101]
  | 4 => [116, 116, 108, 45, 98, 108, 111, 99, 107, 115]
  | 5 => [116, 116, 108, 45, 116, 105, 109, 101]
  | 6 => [107, 101, 101, 112, 45, 105, 110, 118, 97, 108, 105, 100]
  | 7 => [98, 108, 111, 99, 107, 45, 98, 121, 116, 101, 115]
  | 8 => [98, 108, 111, 99, 107, 45, 103, 97, 115]
  | 9 => [112, 114, 105, 99, 101]
  | 10 => [115, 101, 108, 102]
  | _ => [110, 111, 100, 101, 115]
def leastW : Nat → Wide
  | 0 | 1 | 2 | 7 | 11 => ⟨1, false⟩
  | 8 => ⟨0, true⟩
  | _ => ⟨0, false⟩
def mostW : Nat → Wide
  | 0 => ⟨512, false⟩
  | 1 | 7 => ⟨1048576, false⟩
  | 2 => ⟨4096, false⟩
  | 3 => ⟨1024, false⟩
  | 4 | 5 => ⟨1073741824, false⟩
  | 6 => ⟨1, false⟩
  | 8 => ⟨1125899906842624, false⟩
  | 9 => ⟨18446744073709551615, false⟩
  | 10 => ⟨7, false⟩
  | _ => ⟨8, false⟩
def defW : Nat → Wide
  | 0 => ⟨100, false⟩
  | 1 => ⟨65536, false⟩
  | 2 => ⟨1024, false⟩
  | 3 => ⟨200, false⟩
  | 7 => ⟨32768, false⟩
  | 8 => ⟨0, true⟩
  | 9 | 11 => ⟨1, false⟩
  | _ => ⟨0, false⟩
def rowV (k : Nat) : List Value := .string ⟨(nameL k).toArray⟩ :: (wideV (leastW k) ++ wideV (mostW k) ++ wideV (defW k))
def rowsV : List Value := rowV 0 ++ (rowV 1 ++ (rowV 2 ++ (rowV 3 ++ (rowV 4 ++ (rowV 5 ++ (rowV 6 ++ (rowV 7 ++ (rowV 8 ++ (rowV 9 ++ (rowV 10 ++ (rowV 11 ++ [])))))))))))
theorem rowsV_at (k : Nat) (hk : k < 12) : (rowsV.drop (k * 7)).take 7 = rowV k := by
  have h : k = 0 ∨ k = 1 ∨ k = 2 ∨ k = 3 ∨ k = 4 ∨ k = 5 ∨ k = 6 ∨ k = 7 ∨ k = 8 ∨ k = 9 ∨ k = 10 ∨ k = 11 := by omega
  rcases h with rfl | rfl | rfl | rfl | rfl | rfl | rfl | rfl | rfl | rfl | rfl | rfl <;> rfl
set_option maxRecDepth 100000 in
theorem rows_c (w : World) : Calls Tryd.prog 27 #[] w fun e w' => e = .returned (.agg ⟨rowsV⟩) ∧ Below w.heap.size w w' := by
  refine calls_of_vc seat Tryd.func27 rfl rfl (Nat.le_of_ble_eq_true rfl) (N := 54) (args := []) (Nat.le_of_ble_eq_true rfl) rfl (A.start w) ?_
  intro g0 _
  refine ⟨⟨rfl, trivial⟩, ?_⟩
  intro g1 _
  refine ⟨rfl, rfl, rfl, rfl, ?_⟩
  refine ⟨⟨rfl, trivial⟩, ?_⟩
  intro g2 _
  refine ⟨rfl, rfl, rfl, rfl, ?_⟩
  refine ⟨_, [(2, ⟨g2, 57, [.val (.int .u64 0), .val (.bool true)]⟩), (1, ⟨g1, 57, [.val (.int .u64 18446744073709551615), .val (.bool false)]⟩)], [], [], .inr rfl, .inl ⟨rfl, rfl, trivial⟩, nofun, (.take 32 (.take 34 (.take 37 (.alt 0 (.alt 1 (.alt 2 (.take 3 (.alt 4 (.alt 5 (.alt 6 (.take 7 (.alt 8 (.alt 9 (.alt 10 (.take 11 (.alt 12 (.alt 13 (.alt 14 (.take 15 (.alt 16 (.alt 17 (.alt 18 (.take 19 (.alt 20 (.alt 21 (.alt 22 (.take 23 (.alt 24 (.alt 25 (.alt 26 (.take 27 (.alt 28 (.alt 29 (.alt 30 (.take 31 (.alt 33 (.take 35 (.alt 36 (.alt 38 (.take 39 (.alt 40 (.alt 41 (.alt 42 (.take 43 (.alt 44 (.alt 45 (.alt 46 (.take 47 (.take 48 (.alt 49 .done .stop))) .stop) .stop) .stop)) .stop) .stop) .stop)) .stop) .stop)) .stop)) .stop) .stop) .stop)) .stop) .stop) .stop)) .stop) .stop) .stop)) .stop) .stop) .stop)) .stop) .stop) .stop)) .stop) .stop) .stop)) .stop) .stop) .stop)) .stop) .stop) .stop)))), by kernel_rfl, ?_⟩
  refine ⟨rfl, rfl, rfl, rfl, rfl, rfl, ?_⟩
  iterate 8
    (intro w1 hA; refine (number_c _ w1).mono ?_; rintro e w2 ⟨rfl, hb⟩; refine ⟨.val _, _, _, rfl, hA.below' hb, ?_⟩)
    refine ⟨rfl, rfl, ?_⟩
    (intro w1 hA; refine (number_c _ w1).mono ?_; rintro e w2 ⟨rfl, hb⟩; refine ⟨.val _, _, _, rfl, hA.below' hb, ?_⟩)
    refine ⟨rfl, rfl, ?_⟩
    (intro w1 hA; refine (number_c _ w1).mono ?_; rintro e w2 ⟨rfl, hb⟩; refine ⟨.val _, _, _, rfl, hA.below' hb, ?_⟩)
    refine ⟨rfl, rfl, ?_⟩
    refine ⟨⟨rfl, rfl, rfl, rfl, trivial⟩, ?_⟩
  (intro w1 hA; refine (number_c _ w1).mono ?_; rintro e w2 ⟨rfl, hb⟩; refine ⟨.val _, _, _, rfl, hA.below' hb, ?_⟩)
  refine ⟨rfl, rfl, ?_⟩
  refine ⟨⟨rfl, rfl, rfl, rfl, trivial⟩, ?_⟩
  iterate 2
    (intro w1 hA; refine (number_c _ w1).mono ?_; rintro e w2 ⟨rfl, hb⟩; refine ⟨.val _, _, _, rfl, hA.below' hb, ?_⟩)
    refine ⟨rfl, rfl, ?_⟩
  refine ⟨⟨rfl, rfl, rfl, rfl, trivial⟩, ?_⟩
  iterate 2
    (intro w1 hA; refine (number_c _ w1).mono ?_; rintro e w2 ⟨rfl, hb⟩; refine ⟨.val _, _, _, rfl, hA.below' hb, ?_⟩)
    refine ⟨rfl, rfl, ?_⟩
    (intro w1 hA; refine (number_c _ w1).mono ?_; rintro e w2 ⟨rfl, hb⟩; refine ⟨.val _, _, _, rfl, hA.below' hb, ?_⟩)
    refine ⟨rfl, rfl, ?_⟩
    (intro w1 hA; refine (number_c _ w1).mono ?_; rintro e w2 ⟨rfl, hb⟩; refine ⟨.val _, _, _, rfl, hA.below' hb, ?_⟩)
    refine ⟨rfl, rfl, ?_⟩
    refine ⟨⟨rfl, rfl, rfl, rfl, trivial⟩, ?_⟩
  refine ⟨⟨rfl, rfl, rfl, rfl, rfl, rfl, rfl, rfl, rfl, rfl, rfl, rfl, trivial⟩, ?_⟩
  refine ⟨rfl, rfl, rfl, rfl, ?_⟩
  refine ⟨rfl, rfl, ?_⟩
  refine ⟨rfl, rfl, ?_⟩
  (intro w' hA; exact ⟨rfl, hA.bel (by simp)⟩)
end Go.Proofs.YtllepnadffndnaaDoor
namespace Go.Proofs.YtllepnadffndnaaDoor
open Go.RowKit
def cfgV : MConfig → List Value
  | ⟨a, b, c, d, e, f, g, h, i, j, k, l⟩ => [.int .i64 a, .int .i64 b, .int .i64 c, .int .i64 d, .int .i64 e, .int .i64 f, .bool g, .int .i64 h, .int .i64 i, .int .u64 j, .int .i64 k, .int .i64 l]
def cfgS : MConfig → List SV
  | ⟨a, b, c, d, e, f, g, h, i, j, k, l⟩ => [.val (.int .i64 a), .val (.int .i64 b), .val (.int .i64 c), .val (.int .i64 d), .val (.int .i64 e), .val (.int .i64 f), .val (.bool g), .val (.int .i64 h), .val (.int .i64 i), .val (.int .u64 j), .val (.int .i64 k), .val (.int .i64 l)]
def ptrsV (g : Nat) : List Value := [.pointer (some ⟨g, 0, none⟩), .pointer (some ⟨g, 1, none⟩), .pointer (some ⟨g, 2, none⟩), .pointer (some ⟨g, 3, none⟩), .pointer (some ⟨g, 4, none⟩), .pointer (some ⟨g, 5, none⟩), .pointer none, .pointer (some ⟨g, 7, none⟩), .pointer (some ⟨g, 8, none⟩), .pointer none, .pointer (some ⟨g, 10, none⟩), .pointer (some ⟨g, 11, none⟩)]
set_option maxRecDepth 100000 in
theorem ints_c (g : Nat) (w : World) : Calls Tryd.prog 46 #[.pointer (some ⟨g, 0, none⟩)] w fun e w' => e = .returned (.agg ⟨ptrsV g⟩) ∧ Below w.heap.size w w' := by
  refine calls_of_vc seat Tryd.func46 rfl rfl (Nat.le_of_ble_eq_true rfl) (N := 34) (args := [.val (.pointer (some ⟨g, 0, none⟩))]) (Nat.le_of_ble_eq_true rfl) rfl (A.start w) ?_
  intro g0 _
  refine ⟨_, [], [], [], .inr rfl, .inl trivial, nofun, (.take 0 (.take 1 (.take 2 (.take 3 (.take 4 (.take 5 (.take 6 (.take 7 (.take 8 (.take 9 (.take 10 (.take 11 (.take 12 (.take 13 (.take 14 (.take 15 (.take 16 (.take 17 (.take 18 (.take 19 (.take 20 (.take 21 (.take 22 (.take 23 (.take 24 (.take 25 (.take 26 (.take 27 (.take 28 (.take 29 (.take 30 (.alt 31 .done .stop)))))))))))))))))))))))))))))))), by kernel_rfl, ?_⟩
  refine ⟨⟨rfl, rfl, rfl, rfl, rfl, rfl, rfl, rfl, rfl, rfl, rfl, rfl, trivial⟩, ?_⟩
  refine ⟨rfl, rfl, rfl, rfl, ?_⟩
  refine ⟨rfl, rfl, ?_⟩
  (intro w' hA; exact ⟨rfl, hA.bel (by simp)⟩)
def intF (c : MConfig) : Nat → Int
  | 0 => c.maxTxs
  | 1 => c.maxBytes
  | 2 => c.maxTxBytes
  | 3 => c.cacheSize
  | 4 => c.ttlBlocks
  | 5 => c.ttlTime
  | 7 => c.blockBytes
  | 8 => c.blockGas
  | 10 => c.self
  | _ => c.nodes
def valInt (p : Int) : Wide × Bool := if p < -1 then (⟨0, false⟩, false) else if p = -1 then (⟨0, true⟩, true) else (numW p, true)
def valueF (c : MConfig) : Nat → Wide × Bool
  | 6 => (if c.keepInvalid then ⟨1, false⟩ else ⟨0, false⟩, true)
  | 9 => (⟨c.price, false⟩, true)
  | i => valInt (intF c i)
theorem twelve {p : Nat → Prop} {k : Nat} (hk : k < 12) (h0 : p 0) (h1 : p 1) (h2 : p 2) (h3 : p 3) (h4 : p 4) (h5 : p 5) (h6 : p 6) (h7 : p 7) (h8 : p 8) (h9 : p 9) (h10 : p 10) (h11 : p 11) : p k := by
  have h : k = 0 ∨ k = 1 ∨ k = 2 ∨ k = 3 ∨ k = 4 ∨ k = 5 ∨ k = 6 ∨ k = 7 ∨ k = 8 ∨ k = 9 ∨ k = 10 ∨ k = 11 := by omega
  rcases h with rfl | rfl | rfl | rfl | rfl | rfl | rfl | rfl | rfl | rfl | rfl | rfl <;> assumption
set_option maxHeartbeats 2000000 in
theorem value_c (c : MConfig) (i : Nat) (hi : i < 12) (w : World) : Calls Tryd.prog 28 #[.agg ⟨cfgV c⟩, .int .i64 i] w fun e w' => e = .returned (.tuple #[.agg ⟨wideV (valueF c i).1⟩, .bool (valueF c i).2]) ∧ Below w.heap.size w w' := by
  obtain ⟨c0, c1, c2, c3, c4, c5, c6, c7, c8, c9, c10, c11⟩ := c
  have h : i = 0 ∨ i = 1 ∨ i = 2 ∨ i = 3 ∨ i = 4 ∨ i = 5 ∨ i = 7 ∨ i = 8 ∨ i = 10 ∨ i = 11 ∨ i = 6 ∨ i = 9 := by omega
  rcases h with rfl | rfl | rfl | rfl | rfl | rfl | rfl | rfl | rfl | rfl | rfl | rfl
  case inr.inr.inr.inr.inr.inr.inr.inr.inr.inr.inl =>
    cases c6 <;>
    · refine calls_of_vc seat Tryd.func28 rfl rfl (Nat.le_of_ble_eq_true rfl) (N := 48) (args := [.val (.agg ⟨cfgV ⟨c0, c1, c2, c3, c4, c5, _, c7, c8, c9, c10, c11⟩⟩), .val (.int .i64 (6 : Nat))]) (Nat.le_of_ble_eq_true rfl) rfl (A.start w) ?_
      intro g0 _
      intro g1 _
      (intro w1 hA; refine (ints_c g0 w1).mono ?_; rintro e w2 ⟨rfl, hb⟩; refine ⟨.val _, _, _, rfl, hA.below' hb, ?_⟩)
      refine ⟨6, rfl, by decide, _, rfl, ?_⟩
      (repeat (first | refine ⟨fun _ => ?_, fun h => Bool.noConfusion h⟩ | refine ⟨fun h => Bool.noConfusion h, fun _ => ?_⟩ | refine ⟨_, wrap_in _ (by omega) (by omega), ?_⟩ | refine ⟨_, wrapu_in _ (by omega) (by omega), ?_⟩ | refine ⟨_, wrap8_in _ (by omega) (by omega), ?_⟩ | refine ⟨_, rfl, ?_⟩ | refine ⟨rfl, ?_⟩))
      (intro w1 hA; refine (number_c _ w1).mono ?_; rintro e w2 ⟨rfl, hb⟩; refine ⟨.val _, _, _, rfl, hA.below' hb, ?_⟩)
      (repeat (first | refine ⟨fun _ => ?_, fun h => Bool.noConfusion h⟩ | refine ⟨fun h => Bool.noConfusion h, fun _ => ?_⟩ | refine ⟨_, wrap_in _ (by omega) (by omega), ?_⟩ | refine ⟨_, wrapu_in _ (by omega) (by omega), ?_⟩ | refine ⟨_, wrap8_in _ (by omega) (by omega), ?_⟩ | refine ⟨_, rfl, ?_⟩ | refine ⟨rfl, ?_⟩))
      (intro w' hA; exact ⟨rfl, hA.bel (by simp)⟩)
  case inr.inr.inr.inr.inr.inr.inr.inr.inr.inr.inr =>
    refine calls_of_vc seat Tryd.func28 rfl rfl (Nat.le_of_ble_eq_true rfl) (N := 48) (args := [.val (.agg ⟨cfgV ⟨c0, c1, c2, c3, c4, c5, c6, c7, c8, c9, c10, c11⟩⟩), .val (.int .i64 (9 : Nat))]) (Nat.le_of_ble_eq_true rfl) rfl (A.start w) ?_
    intro g0 _
    intro g1 _
    (intro w1 hA; refine (ints_c g0 w1).mono ?_; rintro e w2 ⟨rfl, hb⟩; refine ⟨.val _, _, _, rfl, hA.below' hb, ?_⟩)
    refine ⟨9, rfl, by decide, _, rfl, ?_⟩
    (repeat (first | refine ⟨fun _ => ?_, fun h => Bool.noConfusion h⟩ | refine ⟨fun h => Bool.noConfusion h, fun _ => ?_⟩ | refine ⟨_, wrap_in _ (by omega) (by omega), ?_⟩ | refine ⟨_, wrapu_in _ (by omega) (by omega), ?_⟩ | refine ⟨_, wrap8_in _ (by omega) (by omega), ?_⟩ | refine ⟨_, rfl, ?_⟩ | refine ⟨rfl, ?_⟩))
    refine ⟨⟨rfl, trivial⟩, ?_⟩
    (repeat (first | refine ⟨fun _ => ?_, fun h => Bool.noConfusion h⟩ | refine ⟨fun h => Bool.noConfusion h, fun _ => ?_⟩ | refine ⟨_, wrap_in _ (by omega) (by omega), ?_⟩ | refine ⟨_, wrapu_in _ (by omega) (by omega), ?_⟩ | refine ⟨_, wrap8_in _ (by omega) (by omega), ?_⟩ | refine ⟨_, rfl, ?_⟩ | refine ⟨rfl, ?_⟩))
    (intro w' hA; exact ⟨rfl, hA.bel (by simp)⟩)
  all_goals
    refine calls_of_vc seat Tryd.func28 rfl rfl (Nat.le_of_ble_eq_true rfl) (N := 48) (args := [.val (.agg ⟨cfgV ⟨c0, c1, c2, c3, c4, c5, c6, c7, c8, c9, c10, c11⟩⟩), .val (.int .i64 (_ : Nat))]) (Nat.le_of_ble_eq_true rfl) rfl (A.start w) ?_
    intro g0 _
    intro g1 _
    (intro w1 hA; refine (ints_c g0 w1).mono ?_; rintro e w2 ⟨rfl, hb⟩; refine ⟨.val _, _, _, rfl, hA.below' hb, ?_⟩)
    refine ⟨_, rfl, by decide, _, rfl, ?_⟩
    refine ⟨_, fun w' hA => ldk seat.tab rfl rfl (i := 0) rfl rfl rfl hA, ?_⟩
    refine ⟨fun h0 => ?_, fun h0 => ?_⟩
    · refine ⟨trivial, ?_⟩
      (repeat (first | refine ⟨fun _ => ?_, fun h => Bool.noConfusion h⟩ | refine ⟨fun h => Bool.noConfusion h, fun _ => ?_⟩ | refine ⟨_, wrap_in _ (by omega) (by omega), ?_⟩ | refine ⟨_, wrapu_in _ (by omega) (by omega), ?_⟩ | refine ⟨_, wrap8_in _ (by omega) (by omega), ?_⟩ | refine ⟨_, rfl, ?_⟩ | refine ⟨rfl, ?_⟩))
      intro w' hA
      have h0 := of_decide_eq_true h0
      refine ⟨?_, hA.bel (by simp)⟩
      simp [tup, valueF, valInt, intF, h0, wideV, SV.den]
    · have h0 := of_decide_eq_false h0
      refine ⟨_, fun w' hA => ldk seat.tab rfl rfl (i := 0) rfl rfl rfl hA, ?_⟩
      refine ⟨fun h1 => ?_, fun h1 => ?_⟩
      · refine ⟨⟨rfl, trivial⟩, ?_⟩
        (repeat (first | refine ⟨fun _ => ?_, fun h => Bool.noConfusion h⟩ | refine ⟨fun h => Bool.noConfusion h, fun _ => ?_⟩ | refine ⟨_, wrap_in _ (by omega) (by omega), ?_⟩ | refine ⟨_, wrapu_in _ (by omega) (by omega), ?_⟩ | refine ⟨_, wrap8_in _ (by omega) (by omega), ?_⟩ | refine ⟨_, rfl, ?_⟩ | refine ⟨rfl, ?_⟩))
        intro w' hA
        have h1 := eq_of_beq h1
        refine ⟨?_, hA.bel (by simp)⟩
        simp [tup, valueF, valInt, intF, h1, wideV, SV.den]
      · refine ⟨_, fun w' hA => ldk seat.tab rfl rfl (i := 0) rfl rfl rfl hA, ?_⟩
        (intro w1 hA; refine (number_c _ w1).mono ?_; rintro e w2 ⟨rfl, hb⟩; refine ⟨.val _, _, _, rfl, hA.below' hb, ?_⟩)
        (repeat (first | refine ⟨fun _ => ?_, fun h => Bool.noConfusion h⟩ | refine ⟨fun h => Bool.noConfusion h, fun _ => ?_⟩ | refine ⟨_, wrap_in _ (by omega) (by omega), ?_⟩ | refine ⟨_, wrapu_in _ (by omega) (by omega), ?_⟩ | refine ⟨_, wrap8_in _ (by omega) (by omega), ?_⟩ | refine ⟨_, rfl, ?_⟩ | refine ⟨rfl, ?_⟩))
        intro w' hA
        have h1 := ne_of_beq_false h1
        refine ⟨?_, hA.bel (by simp)⟩
        simp [tup, valueF, valInt, intF, h0, h1, wideV, SV.den, numW]
end Go.Proofs.YtllepnadffndnaaDoor
namespace Go.Proofs.YtllepnadffndnaaDoor
open Go.RowKit
def wInt (v : Wide) : Int := if v.minus then -1 else IntKind.i64.wrap v.n
def setF (c : MConfig) (i : Nat) (v : Wide) : MConfig := match c, i with
  | ⟨_, c1, c2, c3, c4, c5, c6, c7, c8, c9, c10, c11⟩, 0 => ⟨wInt v, c1, c2, c3, c4, c5, c6, c7, c8, c9, c10, c11⟩
  | ⟨c0, _, c2, c3, c4, c5, c6, c7, c8, c9, c10, c11⟩, 1 => ⟨c0, wInt v, c2, c3, c4, c5, c6, c7, c8, c9, c10, c11⟩
  | ⟨c0, c1, _, c3, c4, c5, c6, c7, c8, c9, c10, c11⟩, 2 => ⟨c0, c1, wInt v, c3, c4, c5, c6, c7, c8, c9, c10, c11⟩
  | ⟨c0, c1, c2, _, c4, c5, c6, c7, c8, c9, c10, c11⟩, 3 => ⟨c0, c1, c2, wInt v, c4, c5, c6, c7, c8, c9, c10, c11⟩
  | ⟨c0, c1, c2, c3, _, c5, c6, c7, c8, c9, c10, c11⟩, 4 => ⟨c0, c1, c2, c3, wInt v, c5, c6, c7, c8, c9, c10, c11⟩
  | ⟨c0, c1, c2, c3, c4, _, c6, c7, c8, c9, c10, c11⟩, 5 => ⟨c0, c1, c2, c3, c4, wInt v, c6, c7, c8, c9, c10, c11⟩
  | ⟨c0, c1, c2, c3, c4, c5, _, c7, c8, c9, c10, c11⟩, 6 => ⟨c0, c1, c2, c3, c4, c5, v.n == 1, c7, c8, c9, c10, c11⟩
  | ⟨c0, c1, c2, c3, c4, c5, c6, _, c8, c9, c10, c11⟩, 7 => ⟨c0, c1, c2, c3, c4, c5, c6, wInt v, c8, c9, c10, c11⟩
  | ⟨c0, c1, c2, c3, c4, c5, c6, c7, _, c9, c10, c11⟩, 8 => ⟨c0, c1, c2, c3, c4, c5, c6, c7, wInt v, c9, c10, c11⟩
  | ⟨c0, c1, c2, c3, c4, c5, c6, c7, c8, _, c10, c11⟩, 9 => ⟨c0, c1, c2, c3, c4, c5, c6, c7, c8, v.n, c10, c11⟩
  | ⟨c0, c1, c2, c3, c4, c5, c6, c7, c8, c9, _, c11⟩, 10 => ⟨c0, c1, c2, c3, c4, c5, c6, c7, c8, c9, wInt v, c11⟩
  | ⟨c0, c1, c2, c3, c4, c5, c6, c7, c8, c9, c10, _⟩, _ => ⟨c0, c1, c2, c3, c4, c5, c6, c7, c8, c9, c10, wInt v⟩
set_option maxHeartbeats 2000000 in
theorem set_c (g : Nat) (c : MConfig) (i : Nat) (hi : i < 12) (v : Wide) (w : World) (hb : Blk w g 24 ((cfgS c).map SV.den).toArray) :
    Calls Tryd.prog 34 #[.pointer (some ⟨g, 0, none⟩), .int .i64 i, .agg ⟨wideV v⟩] w fun e w' => e = .returned (.tuple #[]) ∧ Blk w' g 24 ((cfgS (setF c i v)).map SV.den).toArray ∧ Since (fun b => b = g) w w' := by
  obtain ⟨c0, c1, c2, c3, c4, c5, c6, c7, c8, c9, c10, c11⟩ := c
  obtain ⟨n, m⟩ := v
  have h : i = 6 ∨ i = 9 ∨ i = 0 ∨ i = 1 ∨ i = 2 ∨ i = 3 ∨ i = 4 ∨ i = 5 ∨ i = 7 ∨ i = 8 ∨ i = 10 ∨ i = 11 := by omega
  cases m <;> rcases h with rfl | rfl | rfl | rfl | rfl | rfl | rfl | rfl | rfl | rfl | rfl | rfl
  all_goals
    refine calls_of_vc seat Tryd.func34 rfl rfl (Nat.le_of_ble_eq_true rfl) (N := 42) (args := [.ptr 0 g 0, .val (.int .i64 (_ : Nat)), .val (.agg ⟨wideV ⟨n, _⟩⟩)]) (Nat.le_of_ble_eq_true rfl) rfl (A.start1 hb) ?_
    intro g1 _
    (intro w1 hA; refine (ints_c g w1).mono ?_; rintro e w2 ⟨rfl, hb⟩; refine ⟨.val _, _, _, rfl, hA.below' hb, ?_⟩)
    refine ⟨_, rfl, by decide, _, rfl, ?_⟩
    repeat (first | refine ⟨0, _, rfl, rfl, _, rfl, rfl, ?_⟩ | refine ⟨fun _ => ?_, fun h => Bool.noConfusion h⟩ | refine ⟨fun h => Bool.noConfusion h, fun _ => ?_⟩ | refine ⟨_, rfl, rfl, rfl, ?_⟩ | refine ⟨_, rfl, rfl, ?_⟩ | refine ⟨_, rfl, ?_⟩)
    intro w' hA
    exact ⟨rfl, hA.blk 0 _ rfl, hA.since (w, _) (List.Mem.head _)⟩
def zeroC : MConfig := ⟨0, 0, 0, 0, 0, 0, false, 0, 0, 0, 0, 0⟩
def defTo : Nat → MConfig
  | 0 => zeroC
  | k + 1 => setF (defTo k) k (defW k)
def defC : MConfig := ⟨100, 65536, 1024, 200, 0, 0, false, 32768, -1, 1, 0, 1⟩
theorem defTo_12 : defTo 12 = defC := by
  simp only [defTo, zeroC, setF, defW, wInt, defC]
  simp [wrap_in]
set_option maxRecDepth 100000 in
theorem default_c (w : World) : Calls Tryd.prog 15 #[] w fun e w' => e = .returned (.agg ⟨cfgV defC⟩) ∧ Below w.heap.size w w' := by
  refine calls_of_vc seat Tryd.func15 rfl rfl (Nat.le_of_ble_eq_true rfl) (N := 15) (args := []) (Nat.le_of_ble_eq_true rfl) rfl (A.start w) ?_
  intro g0 _
  intro g1 _
  (intro w1 hA; refine (rows_c w1).mono ?_; rintro e w2 ⟨rfl, hb⟩; refine ⟨.val _, _, _, rfl, hA.below' hb, ?_⟩)
  refine ⟨Nat, fun k => [(5, .val (.int .i64 k)), (4, .val (.agg ⟨rowsV⟩)), (1, .ptr 1 g1 0), (0, .ptr 0 g0 0)], fun k => [(1, ⟨g1, 24, cfgS (defTo k)⟩), (0, ⟨g0, 24, cfgS zeroC⟩)], fun _ => [(w, fun _ => False)], fun k => k ≤ 12, fun k => 12 - k, ?_, ?_⟩
  · intro w1 hA
    exact ⟨0, by omega, ⟨⟨_, rfl, rfl⟩, ⟨_, rfl, rfl⟩, ⟨_, rfl, rfl⟩, ⟨_, rfl, rfl⟩, trivial⟩, hA.sub ⟨rfl, rfl, trivial⟩⟩
  intro k hk
  refine ⟨fun h => ?_, fun h => ?_⟩
  · have hk12 : k < 12 := by have : (k : Int) < 12 := of_decide_eq_true h
                             omega
    refine ⟨k, rfl, hk12, _, rowsV_at k hk12, ?_⟩
    intro g2 _
    refine ⟨rfl, rfl, rfl, rfl, ?_⟩
    refine ⟨rfl, rfl, ?_⟩
    intro w1 hA
    refine (set_c g1 (defTo k) k hk12 (defW k) w1 (hA.blk 1 _ rfl)).mono ?_
    rintro e w2 ⟨rfl, hb2, hs2⟩
    refine ⟨.val _, _, _, rfl, hA.wrote (i := 1) rfl hs2 hb2, ?_⟩
    refine ⟨_, wrap_in _ (by omega) (by omega), ?_⟩
    intro w' hA
    exact ⟨k + 1, by omega, by show 12 - (k + 1) < 12 - k; omega, ⟨⟨_, rfl, rfl⟩, ⟨_, rfl, rfl⟩, ⟨_, rfl, rfl⟩, ⟨_, rfl, rfl⟩, trivial⟩, hA.sub ⟨rfl, rfl, trivial⟩⟩
  · have e : k = 12 := by have : ¬ (k : Int) < 12 := of_decide_eq_false h
                          have : k ≤ 12 := hk
                          omega
    subst e
    refine ⟨rfl, rfl, ?_⟩
    refine ⟨rfl, rfl, rfl, rfl, ?_⟩
    refine ⟨rfl, rfl, ?_⟩
    intro w' hA
    refine ⟨?_, hA.bel (by simp)⟩
    rw [← defTo_12]
    rfl
def withinW (a b v : Wide) : Bool := !lessW v a && !lessW b v
theorem within_c (s : ByteArray) (a b d v : Wide) (w : World) : Calls Tryd.prog 29 #[.agg ⟨.string s :: (wideV a ++ wideV b ++ wideV d)⟩, .agg ⟨wideV v⟩] w fun e w' => e = .returned (.bool (withinW a b v)) ∧ Below w.heap.size w w' := by
  obtain ⟨a1, a2⟩ := a
  obtain ⟨b1, b2⟩ := b
  obtain ⟨d1, d2⟩ := d
  obtain ⟨v1, v2⟩ := v
  unfold withinW
  refine calls_of_vc seat Tryd.func29 rfl rfl (Nat.le_of_ble_eq_true rfl) (N := 17) (args := [.val (.agg ⟨.string s :: (wideV ⟨a1, a2⟩ ++ wideV ⟨b1, b2⟩ ++ wideV ⟨d1, d2⟩)⟩), .val (.agg ⟨wideV ⟨v1, v2⟩⟩)]) (Nat.le_of_ble_eq_true rfl) rfl (A.start w) ?_
  intro g0 _
  intro g1 _
  refine ⟨rfl, rfl, rfl, rfl, ?_⟩
  have h1 := less_c ⟨v1, v2⟩ ⟨a1, a2⟩
  have h2 := less_c ⟨b1, b2⟩ ⟨v1, v2⟩
  generalize lessW ⟨v1, v2⟩ ⟨a1, a2⟩ = t1 at *
  generalize lessW ⟨b1, b2⟩ ⟨v1, v2⟩ = t2 at *
  intro w1 hA
  refine (h1 w1).mono ?_
  rintro e w2 ⟨rfl, hb⟩
  refine ⟨.lit t1, _, _, rfl, hA.below' hb, ?_⟩
  cases t1
  · refine ⟨rfl, rfl, rfl, rfl, ?_⟩
    (intro w1 hA; refine (h2 w1).mono ?_; rintro e w2 ⟨rfl, hb⟩; refine ⟨.val _, _, _, rfl, hA.below' hb, ?_⟩)
    (intro w' hA; exact ⟨rfl, hA.bel (by simp)⟩)
  · (intro w' hA; exact ⟨rfl, hA.bel (by simp)⟩)
def okK (c : MConfig) (k : Nat) : Bool := (valueF c k).2 && withinW (leastW k) (mostW k) (valueF c k).1
def okTo (c : MConfig) : Nat → Bool
  | 0 => true
  | k + 1 => okTo c k && okK c k
def validC (c : MConfig) : Int := if okTo c 12 = true ∧ ¬ c.self ≥ c.nodes then 0 else 1
theorem okTo_false {c : MConfig} {k : Nat} (h : okK c k = false) : ∀ {n : Nat}, k < n → okTo c n = false
  | 0, hn => by omega
  | n + 1, hn => by
    by_cases e : k = n
    · subst e; simp [okTo, h]
    · simp [okTo, okTo_false h (show k < n by omega)]
set_option maxRecDepth 100000 in
theorem validate_c (c : MConfig) (w : World) : Calls Tryd.prog 13 #[.agg ⟨cfgV c⟩] w fun e w' => e = .returned (.int .i64 (validC c)) ∧ Below w.heap.size w w' := by
  have hval := value_c c
  have hbad : ∀ k, k < 12 → okK c k = false → validC c = 1 := by
    intro k hk h
    simp [validC, okTo_false h hk]
  have hgood : okTo c 12 = true → validC c = if c.self ≥ c.nodes then 1 else 0 := by
    intro h
    unfold validC
    by_cases h2 : c.self ≥ c.nodes <;> simp [h, h2]
  have hok : ∀ k, okK c k = ((valueF c k).2 && withinW (leastW k) (mostW k) (valueF c k).1) := fun _ => rfl
  have hstep : ∀ k, okTo c (k + 1) = (okTo c k && okK c k) := fun _ => rfl
  obtain ⟨c0, c1, c2, c3, c4, c5, c6, c7, c8, c9, c10, c11⟩ := c
  generalize hc : (⟨c0, c1, c2, c3, c4, c5, c6, c7, c8, c9, c10, c11⟩ : MConfig) = c at hval hbad hgood hok hstep ⊢
  rw [← hc]
  refine calls_of_vc seat Tryd.func13 rfl rfl (Nat.le_of_ble_eq_true rfl) (N := 32) (args := [.val (.agg ⟨cfgV ⟨c0, c1, c2, c3, c4, c5, c6, c7, c8, c9, c10, c11⟩⟩)]) (Nat.le_of_ble_eq_true rfl) rfl (A.start w) ?_
  intro g0 _
  (intro w1 hA; refine (rows_c w1).mono ?_; rintro e w2 ⟨rfl, hb⟩; refine ⟨.val _, _, _, rfl, hA.below' hb, ?_⟩)
  refine ⟨Nat, fun k => [(8, .val (.int .i64 k)), (7, .val (.agg ⟨rowsV⟩)), (1, .ptr 0 g0 0)], fun k => [(0, ⟨g0, 24, cfgS ⟨c0, c1, c2, c3, c4, c5, c6, c7, c8, c9, c10, c11⟩⟩)], fun _ => [(w, fun _ => False)], fun k => k ≤ 12 ∧ okTo c k = true, fun k => 12 - k, ?_, ?_⟩
  · intro w1 hA
    exact ⟨0, ⟨by omega, rfl⟩, ⟨⟨_, rfl, rfl⟩, ⟨_, rfl, rfl⟩, ⟨_, rfl, rfl⟩, trivial⟩, hA.sub ⟨rfl, trivial⟩⟩
  rintro k ⟨hk, hto⟩
  refine ⟨fun h => ?_, fun h => ?_⟩
  · have hk12 : k < 12 := by have : (k : Int) < 12 := of_decide_eq_true h
                             omega
    refine ⟨k, rfl, hk12, _, rowsV_at k hk12, ?_⟩
    intro g2 _
    refine ⟨rfl, rfl, rfl, rfl, ?_⟩
    refine ⟨rfl, rfl, ?_⟩
    have hv := hval k hk12
    have hoz := hok k
    rw [← hc] at hv
    rw [← hc] at hoz
    generalize valueF ⟨c0, c1, c2, c3, c4, c5, c6, c7, c8, c9, c10, c11⟩ k = r at hv hoz
    obtain ⟨x, ok⟩ := r
    (intro w1 hA; refine (hv w1).mono ?_; rintro e w2 ⟨rfl, hb⟩; refine ⟨.val _, _, _, rfl, hA.below' hb, ?_⟩)
    refine ⟨_, rfl, _, rfl, ?_⟩
    intro g3 _
    refine ⟨rfl, rfl, rfl, rfl, ?_⟩
    cases ok
    · (repeat (first | refine ⟨fun _ => ?_, fun h => Bool.noConfusion h⟩ | refine ⟨fun h => Bool.noConfusion h, fun _ => ?_⟩ | refine ⟨_, wrap_in _ (by omega) (by omega), ?_⟩ | refine ⟨_, wrapu_in _ (by omega) (by omega), ?_⟩ | refine ⟨_, wrap8_in _ (by omega) (by omega), ?_⟩ | refine ⟨_, rfl, ?_⟩ | refine ⟨rfl, ?_⟩))
      intro w' hA
      refine ⟨ret_int ?_, hA.bel (by simp)⟩
      rw [hc]
      rw [hbad k hk12 (by rw [← hc, hoz]; rfl)]
    · refine ⟨fun _ => ?_, fun h => Bool.noConfusion h⟩
      refine ⟨rfl, rfl, rfl, rfl, ?_⟩
      have hw := within_c ⟨(nameL k).toArray⟩ (leastW k) (mostW k) (defW k) x
      have hoz : okK c k = withinW (leastW k) (mostW k) x := by rw [← hc, hoz]; simp
      generalize withinW (leastW k) (mostW k) x = t at hw hoz
      intro w1 hA
      refine (hw w1).mono ?_
      rintro e w2 ⟨rfl, hb⟩
      refine ⟨.lit t, _, _, rfl, hA.below' hb, ?_⟩
      cases t
      · intro w' hA
        refine ⟨ret_int ?_, hA.bel (by simp)⟩
        rw [hc, hbad k hk12 hoz]
      · refine ⟨_, wrap_in _ (by omega) (by omega), ?_⟩
        intro w' hA
        exact ⟨k + 1, ⟨by omega, by rw [hstep, hto, hoz]; rfl⟩, by show 12 - (k + 1) < 12 - k; omega, ⟨⟨_, rfl, rfl⟩, ⟨_, rfl, rfl⟩, ⟨_, rfl, rfl⟩, trivial⟩, hA.sub ⟨rfl, trivial⟩⟩
  · have e : k = 12 := by have : ¬ (k : Int) < 12 := of_decide_eq_false h
                          have : k ≤ 12 := hk
                          omega
    subst e
    have hg := hgood hto
    refine ⟨_, rfl, rfl, _, rfl, rfl, ?_⟩
    refine ⟨fun h => ?_, fun h => ?_⟩
    · have h := of_decide_eq_true h
      intro w' hA
      refine ⟨ret_int ?_, hA.bel (by simp)⟩
      rw [hc, hg, ← hc, if_pos h]
    · have h := of_decide_eq_false h
      intro w' hA
      refine ⟨ret_int ?_, hA.bel (by simp)⟩
      rw [hc, hg, ← hc, if_neg h]
end Go.Proofs.YtllepnadffndnaaDoor
namespace Go.Proofs.YtllepnadffndnaaDoor
open Go.RowKit
theorem rdefault_c (w : World) : Calls Tryd.prog 16 #[] w fun e w' => e = .returned (.agg ⟨cfgV defC⟩) ∧ Below w.heap.size w w' := by
  refine calls_of_vc seat Tryd.func16 rfl rfl (Nat.le_of_ble_eq_true rfl) (N := 2) (args := []) (Nat.le_of_ble_eq_true rfl) rfl (A.start w) ?_
  intro g0 _
  refine ⟨⟨rfl, rfl, rfl, rfl, rfl, rfl, rfl, rfl, trivial⟩, ?_⟩
  refine ⟨rfl, rfl, rfl, rfl, ?_⟩
  refine ⟨rfl, rfl, ?_⟩
  (intro w' hA; exact ⟨rfl, hA.bel (by simp)⟩)
def keysV : List Value := [.string ⟨(nameL 0).toArray⟩, .string ⟨(nameL 1).toArray⟩, .string ⟨(nameL 2).toArray⟩, .string ⟨(nameL 3).toArray⟩, .string ⟨(nameL 4).toArray⟩, .string ⟨(nameL 5).toArray⟩, .string ⟨(nameL 6).toArray⟩, .string ⟨(nameL 7).toArray⟩, .string ⟨(nameL 8).toArray⟩, .string ⟨(nameL 9).toArray⟩, .string ⟨(nameL 10).toArray⟩, .string ⟨(nameL 11).toArray⟩]
theorem keys_c (w : World) : Calls Tryd.prog 30 #[] w fun e w' => ∃ g, e = .returned (.slice (some ⟨g, 0, none⟩) 12 12) ∧ Below w.heap.size w w' ∧ w.heap.size ≤ g ∧ Blk w' g 9 ((keysV.map SV.val).map SV.den).toArray := by
  refine calls_of_vc seat Tryd.func30 rfl rfl (Nat.le_of_ble_eq_true rfl) (N := 2) (args := []) (Nat.le_of_ble_eq_true rfl) rfl (A.start w) ?_
  refine ⟨⟨rfl, rfl, rfl, rfl, rfl, rfl, rfl, rfl, rfl, rfl, rfl, rfl, trivial⟩, ?_⟩
  intro g0 _
  intro w' hA
  exact ⟨g0, rfl, hA.bel (by simp), hA.from_start (by simp) 0 rfl, hA.blk 0 _ rfl⟩
def leastI : Nat → Int
  | 0 | 1 | 2 | 7 | 11 => 1
  | 8 => -1
  | _ => 0
def greatI : Nat → Int
  | 0 => 512
  | 1 | 7 => 1048576
  | 2 => 4096
  | 3 => 1024
  | 4 | 5 => 1073741824
  | 6 => 1
  | 8 => 1125899906842624
  | 9 => 0
  | 10 => 7
  | _ => 8
def value16 (c : MConfig) : Nat → Int
  | 6 => if c.keepInvalid then 1 else 0
  | 9 => 0
  | i => intF c i
theorem least_c (k : Nat) (hk : k < 12) (w : World) : Calls Tryd.prog 32 #[.int .i64 k] w fun e w' => e = .returned (.int .i64 (leastI k)) ∧ Below w.heap.size w w' := by
  refine calls_of_vc seat Tryd.func32 rfl rfl (Nat.le_of_ble_eq_true rfl) (N := 7) (args := [.val (.int .i64 k)]) (Nat.le_of_ble_eq_true rfl) rfl (A.start w) ?_
  refine ⟨⟨rfl, rfl, rfl, rfl, rfl, rfl, rfl, rfl, rfl, rfl, rfl, rfl, trivial⟩, ?_⟩
  intro g0 _
  refine ⟨_, _, k, rfl, rfl, hk, ?_⟩
  refine ⟨.int .i64 (leastI k), fun w' hA => ldk seat.tab rfl rfl (i := 0) rfl rfl (nth_val (n := 0 + k * 1) ?_) hA, ?_⟩
  · rw [Nat.zero_add, Nat.mul_one]
    (have h12 : k = 0 ∨ k = 1 ∨ k = 2 ∨ k = 3 ∨ k = 4 ∨ k = 5 ∨ k = 6 ∨ k = 7 ∨ k = 8 ∨ k = 9 ∨ k = 10 ∨ k = 11 := (by omega); rcases h12 with rfl | rfl | rfl | rfl | rfl | rfl | rfl | rfl | rfl | rfl | rfl | rfl <;> rfl)
  (intro w' hA; exact ⟨rfl, hA.bel (by simp)⟩)
theorem greatest_c (k : Nat) (hk : k < 12) (w : World) : Calls Tryd.prog 33 #[.int .i64 k] w fun e w' => e = .returned (.int .i64 (greatI k)) ∧ Below w.heap.size w w' := by
  refine calls_of_vc seat Tryd.func33 rfl rfl (Nat.le_of_ble_eq_true rfl) (N := 7) (args := [.val (.int .i64 k)]) (Nat.le_of_ble_eq_true rfl) rfl (A.start w) ?_
  refine ⟨⟨rfl, rfl, rfl, rfl, rfl, rfl, rfl, rfl, rfl, rfl, rfl, rfl, trivial⟩, ?_⟩
  intro g0 _
  refine ⟨_, _, k, rfl, rfl, hk, ?_⟩
  refine ⟨.int .i64 (greatI k), fun w' hA => ldk seat.tab rfl rfl (i := 0) rfl rfl (nth_val (n := 0 + k * 1) ?_) hA, ?_⟩
  · rw [Nat.zero_add, Nat.mul_one]
    (have h12 : k = 0 ∨ k = 1 ∨ k = 2 ∨ k = 3 ∨ k = 4 ∨ k = 5 ∨ k = 6 ∨ k = 7 ∨ k = 8 ∨ k = 9 ∨ k = 10 ∨ k = 11 := (by omega); rcases h12 with rfl | rfl | rfl | rfl | rfl | rfl | rfl | rfl | rfl | rfl | rfl | rfl <;> rfl)
  (intro w' hA; exact ⟨rfl, hA.bel (by simp)⟩)
theorem rvalue_c (c : MConfig) (k : Nat) (hk : k < 12) (w : World) : Calls Tryd.prog 31 #[.agg ⟨cfgV c⟩, .int .i64 k] w fun e w' => e = .returned (.int .i64 (value16 c k)) ∧ Below w.heap.size w w' := by
  obtain ⟨c0, c1, c2, c3, c4, c5, c6, c7, c8, c9, c10, c11⟩ := c
  generalize hx : value16 ⟨c0, c1, c2, c3, c4, c5, c6, c7, c8, c9, c10, c11⟩ k = x
  cases c6
  all_goals
    refine calls_of_vc seat Tryd.func31 rfl rfl (Nat.le_of_ble_eq_true rfl) (N := 33) (args := [.val (.agg ⟨cfgV ⟨c0, c1, c2, c3, c4, c5, _, c7, c8, c9, c10, c11⟩⟩), .val (.int .i64 k)]) (Nat.le_of_ble_eq_true rfl) rfl (A.start w) ?_
    intro g0 _
    (repeat (first | refine ⟨fun _ => ?_, fun h => Bool.noConfusion h⟩ | refine ⟨fun h => Bool.noConfusion h, fun _ => ?_⟩ | refine ⟨_, wrap_in _ (by omega) (by omega), ?_⟩ | refine ⟨_, wrapu_in _ (by omega) (by omega), ?_⟩ | refine ⟨_, wrap8_in _ (by omega) (by omega), ?_⟩ | refine ⟨_, rfl, ?_⟩ | refine ⟨rfl, ?_⟩))
    refine ⟨⟨rfl, rfl, rfl, rfl, rfl, rfl, rfl, rfl, rfl, rfl, rfl, rfl, trivial⟩, ?_⟩
    intro g1 _
    refine ⟨_, _, k, rfl, rfl, hk, ?_⟩
    refine ⟨.int .i64 x, fun w' hA => ldk seat.tab rfl rfl (i := 1) rfl rfl (nth_val (n := 0 + k * 1) ?_) hA, ?_⟩
    · rw [Nat.zero_add, Nat.mul_one, ← hx]
      (have h12 : k = 0 ∨ k = 1 ∨ k = 2 ∨ k = 3 ∨ k = 4 ∨ k = 5 ∨ k = 6 ∨ k = 7 ∨ k = 8 ∨ k = 9 ∨ k = 10 ∨ k = 11 := (by omega); rcases h12 with rfl | rfl | rfl | rfl | rfl | rfl | rfl | rfl | rfl | rfl | rfl | rfl <;> rfl)
    (intro w' hA; exact ⟨rfl, hA.bel (by simp)⟩)
def setI (c : MConfig) (i : Nat) (v : Int) : MConfig := match c, i with
  | ⟨_, c1, c2, c3, c4, c5, c6, c7, c8, c9, c10, c11⟩, 0 => ⟨v, c1, c2, c3, c4, c5, c6, c7, c8, c9, c10, c11⟩
  | ⟨c0, _, c2, c3, c4, c5, c6, c7, c8, c9, c10, c11⟩, 1 => ⟨c0, v, c2, c3, c4, c5, c6, c7, c8, c9, c10, c11⟩
  | ⟨c0, c1, _, c3, c4, c5, c6, c7, c8, c9, c10, c11⟩, 2 => ⟨c0, c1, v, c3, c4, c5, c6, c7, c8, c9, c10, c11⟩
  | ⟨c0, c1, c2, _, c4, c5, c6, c7, c8, c9, c10, c11⟩, 3 => ⟨c0, c1, c2, v, c4, c5, c6, c7, c8, c9, c10, c11⟩
  | ⟨c0, c1, c2, c3, _, c5, c6, c7, c8, c9, c10, c11⟩, 4 => ⟨c0, c1, c2, c3, v, c5, c6, c7, c8, c9, c10, c11⟩
  | ⟨c0, c1, c2, c3, c4, _, c6, c7, c8, c9, c10, c11⟩, 5 => ⟨c0, c1, c2, c3, c4, v, c6, c7, c8, c9, c10, c11⟩
  | ⟨c0, c1, c2, c3, c4, c5, _, c7, c8, c9, c10, c11⟩, 6 => ⟨c0, c1, c2, c3, c4, c5, v == 1, c7, c8, c9, c10, c11⟩
  | ⟨c0, c1, c2, c3, c4, c5, c6, _, c8, c9, c10, c11⟩, 7 => ⟨c0, c1, c2, c3, c4, c5, c6, v, c8, c9, c10, c11⟩
  | ⟨c0, c1, c2, c3, c4, c5, c6, c7, _, c9, c10, c11⟩, 8 => ⟨c0, c1, c2, c3, c4, c5, c6, c7, v, c9, c10, c11⟩
  | c, 9 => c
  | ⟨c0, c1, c2, c3, c4, c5, c6, c7, c8, c9, _, c11⟩, 10 => ⟨c0, c1, c2, c3, c4, c5, c6, c7, c8, c9, v, c11⟩
  | ⟨c0, c1, c2, c3, c4, c5, c6, c7, c8, c9, c10, _⟩, _ => ⟨c0, c1, c2, c3, c4, c5, c6, c7, c8, c9, c10, v⟩
set_option maxHeartbeats 1000000 in
theorem with_c (c : MConfig) (k : Nat) (hk : k < 12) (n : Int) (w : World) : Calls Tryd.prog 72 #[.agg ⟨cfgV c⟩, .int .i64 k, .int .i64 n] w fun e w' => e = .returned (.agg ⟨cfgV (setI c k n)⟩) ∧ Below w.heap.size w w' := by
  obtain ⟨c0, c1, c2, c3, c4, c5, c6, c7, c8, c9, c10, c11⟩ := c
  have h : k = 0 ∨ k = 1 ∨ k = 2 ∨ k = 3 ∨ k = 4 ∨ k = 5 ∨ k = 7 ∨ k = 8 ∨ k = 10 ∨ k = 11 ∨ k = 6 ∨ k = 9 := by omega
  rcases h with rfl | rfl | rfl | rfl | rfl | rfl | rfl | rfl | rfl | rfl | rfl | rfl
  all_goals
    refine calls_of_vc seat Tryd.func72 rfl rfl (Nat.le_of_ble_eq_true rfl) (N := 54) (args := [.val (.agg ⟨cfgV ⟨c0, c1, c2, c3, c4, c5, c6, c7, c8, c9, c10, c11⟩⟩), .val (.int .i64 (_ : Nat)), .val (.int .i64 n)]) (Nat.le_of_ble_eq_true rfl) rfl (A.start w) ?_
    intro g0 _
    intro g1 _
    (repeat (first | refine ⟨fun _ => ?_, fun h => Bool.noConfusion h⟩ | refine ⟨fun h => Bool.noConfusion h, fun _ => ?_⟩ | refine ⟨_, wrap_in _ (by omega) (by omega), ?_⟩ | refine ⟨_, wrapu_in _ (by omega) (by omega), ?_⟩ | refine ⟨_, wrap8_in _ (by omega) (by omega), ?_⟩ | refine ⟨_, rfl, ?_⟩ | refine ⟨rfl, ?_⟩))
    (intro w' hA; exact ⟨rfl, hA.bel (by simp)⟩)
structure CfgOK (c : MConfig) : Prop where
  int : ∀ k, -9223372036854775808 ≤ intF c k ∧ intF c k < 9223372036854775808
  price : 0 ≤ c.price ∧ c.price < 18446744073709551616
def ok16 (c : MConfig) (k : Nat) : Bool := k == 9 || (!decide (value16 c k < leastI k) && !decide (greatI k < value16 c k))
theorem ok16_eq {c : MConfig} (hc : CfgOK c) {k : Nat} (hk : k < 12) : okK c k = ok16 c k := by
  have int : ∀ (p a : Int) (am : Bool) (b : Int), -9223372036854775808 ≤ p → p < 9223372036854775808 → 0 ≤ a → 0 ≤ b → (am = true → a = 0) →
      ((valInt p).2 && withinW ⟨a, am⟩ ⟨b, false⟩ (valInt p).1) = (!decide (p < if am then -1 else a) && !decide (b < p)) := by
    intro p a am b h1 h2 h3 h4 h5
    unfold valInt
    by_cases hp : p < -1
    · rw [if_pos hp]
      cases am <;> simp <;> omega
    · rw [if_neg hp]
      by_cases hp2 : p = -1
      · rw [if_pos hp2]
        subst hp2
        cases am <;> simp [withinW, lessW] <;> omega
      · rw [if_neg hp2]
        have hw : IntKind.u64.wrap p = p := wrapu_in _ (by omega) (by omega)
        cases am
        · simp [withinW, lessW, numW, hw]
        · simp [withinW, lessW, numW, hw]
          omega
  have h : k = 6 ∨ k = 9 ∨ k = 0 ∨ k = 1 ∨ k = 2 ∨ k = 3 ∨ k = 4 ∨ k = 5 ∨ k = 7 ∨ k = 8 ∨ k = 10 ∨ k = 11 := by omega
  rcases h with rfl | rfl | h
  · unfold okK ok16 valueF value16
    cases c.keepInvalid <;> rfl
  · unfold okK ok16 valueF
    have := hc.price
    simp [withinW, lessW, leastW, mostW]
    omega
  · have i := hc.int k
    rcases h with rfl | rfl | rfl | rfl | rfl | rfl | rfl | rfl | rfl | rfl
    all_goals
      unfold okK ok16
      refine (int _ _ _ _ i.1 i.2 (by decide) (by decide) (by decide)).trans ?_
      rfl
set_option maxRecDepth 100000 in
theorem rvalidate_c (c : MConfig) (hcok : CfgOK c) (w : World) : Calls Tryd.prog 14 #[.agg ⟨cfgV c⟩] w fun e w' => e = .returned (.int .i64 (validC c)) ∧ Below w.heap.size w w' := by
  have hval := rvalue_c c
  have hbad : ∀ k, k < 12 → ok16 c k = false → validC c = 1 := by
    intro k hk h
    rw [← ok16_eq hcok hk] at h
    simp [validC, okTo_false h hk]
  have hgood : okTo c 12 = true → validC c = if c.self ≥ c.nodes then 1 else 0 := by
    intro h
    unfold validC
    by_cases h2 : c.self ≥ c.nodes <;> simp [h, h2]
  have hok : ∀ k, ok16 c k = (k == 9 || (!decide (value16 c k < leastI k) && !decide (greatI k < value16 c k))) := fun _ => rfl
  have hstep : ∀ k, k < 12 → okTo c (k + 1) = (okTo c k && ok16 c k) := fun k hk => by rw [← ok16_eq hcok hk]; rfl
  obtain ⟨c0, c1, c2, c3, c4, c5, c6, c7, c8, c9, c10, c11⟩ := c
  generalize hc : (⟨c0, c1, c2, c3, c4, c5, c6, c7, c8, c9, c10, c11⟩ : MConfig) = c at hval hbad hgood hok hstep ⊢
  rw [← hc]
  refine calls_of_vc seat Tryd.func14 rfl rfl (Nat.le_of_ble_eq_true rfl) (N := 33) (args := [.val (.agg ⟨cfgV ⟨c0, c1, c2, c3, c4, c5, c6, c7, c8, c9, c10, c11⟩⟩)]) (Nat.le_of_ble_eq_true rfl) rfl (A.start w) ?_
  intro g0 _
  intro w1 hA
  refine (keys_c w1).mono ?_
  rintro e w2 ⟨gk, rfl, hb, hgk, hbk⟩
  refine ⟨.val _, _, _, rfl, hA.adopt hb hgk hbk, ?_⟩
  refine ⟨Nat, fun k => [(6, .val (.int .i64 k)), (5, .val (.int .i64 (12 : Nat))), (1, .ptr 0 g0 0)], fun k => [(0, ⟨g0, 24, cfgS ⟨c0, c1, c2, c3, c4, c5, c6, c7, c8, c9, c10, c11⟩⟩)], fun _ => [(w, fun _ => False)], fun k => k ≤ 12 ∧ okTo c k = true, fun k => 12 - k, ?_, ?_⟩
  · intro w1 hA
    exact ⟨0, ⟨by omega, rfl⟩, ⟨⟨_, rfl, rfl⟩, ⟨_, rfl, rfl⟩, ⟨_, rfl, rfl⟩, trivial⟩, hA.sub ⟨rfl, trivial⟩⟩
  rintro k ⟨hk, hto⟩
  refine ⟨fun h => ?_, fun h => ?_⟩
  · have hk12 : k < 12 := by have : (k : Int) < (12 : Nat) := of_decide_eq_true h
                             omega
    have hv := hval k hk12
    rw [← hc] at hv
    have hvv : value16 ⟨c0, c1, c2, c3, c4, c5, c6, c7, c8, c9, c10, c11⟩ k = value16 c k := by rw [hc]
    rw [hvv] at hv
    have go : ok16 c k = true → okTo c (k + 1) = true := fun h => by rw [hstep k hk12, hto, h]; rfl
    have hoz := hok k
    generalize value16 c k = x at hv hoz
    refine ⟨fun h9 => ?_, fun h9 => ?_⟩
    · have h9 : ((k : Int) == 9) = false := by simpa using h9
      have h9 : (k == 9) = false := by simp at h9 ⊢; omega
      rw [h9] at hoz
      refine ⟨rfl, rfl, ?_⟩
      (intro w1 hA; refine (hv w1).mono ?_; rintro e w2 ⟨rfl, hb⟩; refine ⟨.val _, _, _, rfl, hA.below' hb, ?_⟩)
      (intro w1 hA; refine (least_c k hk12 w1).mono ?_; rintro e w2 ⟨rfl, hb⟩; refine ⟨.val _, _, _, rfl, hA.below' hb, ?_⟩)
      refine ⟨fun h1 => ?_, fun h1 => ?_⟩
      · have h1 : ¬ x < leastI k := of_decide_eq_false h1
        refine ⟨rfl, rfl, ?_⟩
        (intro w1 hA; refine (hv w1).mono ?_; rintro e w2 ⟨rfl, hb⟩; refine ⟨.val _, _, _, rfl, hA.below' hb, ?_⟩)
        (intro w1 hA; refine (greatest_c k hk12 w1).mono ?_; rintro e w2 ⟨rfl, hb⟩; refine ⟨.val _, _, _, rfl, hA.below' hb, ?_⟩)
        refine ⟨fun h2 => ?_, fun h2 => ?_⟩
        · have h2 : greatI k < x := of_decide_eq_true h2
          intro w' hA
          refine ⟨ret_int ?_, hA.bel (by simp)⟩
          rw [hc, hbad k hk12 (by rw [hoz]; simp [h2])]
        · have h2 : ¬ greatI k < x := of_decide_eq_false h2
          refine ⟨_, wrap_in _ (by omega) (by omega), ?_⟩
          intro w' hA
          exact ⟨k + 1, ⟨by omega, go (by rw [hoz]; simp [h1, h2])⟩, by show 12 - (k + 1) < 12 - k; omega, ⟨⟨_, rfl, rfl⟩, ⟨_, rfl, rfl⟩, ⟨_, rfl, rfl⟩, trivial⟩, hA.sub ⟨rfl, trivial⟩⟩
      · have h1 : x < leastI k := of_decide_eq_true h1
        (repeat (first | refine ⟨fun _ => ?_, fun h => Bool.noConfusion h⟩ | refine ⟨fun h => Bool.noConfusion h, fun _ => ?_⟩ | refine ⟨_, wrap_in _ (by omega) (by omega), ?_⟩ | refine ⟨_, wrapu_in _ (by omega) (by omega), ?_⟩ | refine ⟨_, wrap8_in _ (by omega) (by omega), ?_⟩ | refine ⟨_, rfl, ?_⟩ | refine ⟨rfl, ?_⟩))
        intro w' hA
        refine ⟨ret_int ?_, hA.bel (by simp)⟩
        rw [hc, hbad k hk12 (by rw [hoz]; simp [h1])]
    · have h9 : ((k : Int) == 9) = true := by simpa using h9
      have h9 : (k == 9) = true := by simp at h9 ⊢; omega
      rw [h9] at hoz
      (repeat (first | refine ⟨fun _ => ?_, fun h => Bool.noConfusion h⟩ | refine ⟨fun h => Bool.noConfusion h, fun _ => ?_⟩ | refine ⟨_, wrap_in _ (by omega) (by omega), ?_⟩ | refine ⟨_, wrapu_in _ (by omega) (by omega), ?_⟩ | refine ⟨_, wrap8_in _ (by omega) (by omega), ?_⟩ | refine ⟨_, rfl, ?_⟩ | refine ⟨rfl, ?_⟩))
      intro w' hA
      exact ⟨k + 1, ⟨by omega, go (by rw [hoz]; rfl)⟩, by show 12 - (k + 1) < 12 - k; omega, ⟨⟨_, rfl, rfl⟩, ⟨_, rfl, rfl⟩, ⟨_, rfl, rfl⟩, trivial⟩, hA.sub ⟨rfl, trivial⟩⟩
  · have e : k = 12 := by have : ¬ (k : Int) < (12 : Nat) := of_decide_eq_false h
                          have : k ≤ 12 := hk
                          omega
    subst e
    have hg := hgood hto
    refine ⟨_, rfl, rfl, _, rfl, rfl, ?_⟩
    refine ⟨fun h => ?_, fun h => ?_⟩
    · have h := of_decide_eq_true h
      intro w' hA
      refine ⟨ret_int ?_, hA.bel (by simp)⟩
      rw [hc, hg, ← hc, if_pos h]
    · have h := of_decide_eq_false h
      intro w' hA
      refine ⟨ret_int ?_, hA.bel (by simp)⟩
      rw [hc, hg, ← hc, if_neg h]
end Go.Proofs.YtllepnadffndnaaDoor
namespace Go.Proofs.YtllepnadffndnaaDoor
open Go.RowKit
structure GoodC (c : MConfig) : Prop where
  maxTxs : 1 ≤ c.maxTxs ∧ c.maxTxs < 8
  maxBytes : 250 ≤ c.maxBytes ∧ c.maxBytes < 650
  maxTxBytes : 40 ≤ c.maxTxBytes ∧ c.maxTxBytes < 200
  cacheSize : 0 ≤ c.cacheSize ∧ c.cacheSize < 12
  ttlBlocks : 0 ≤ c.ttlBlocks ∧ c.ttlBlocks < 4
  ttlTime : 0 ≤ c.ttlTime ∧ c.ttlTime < 60
  blockBytes : 100 ≤ c.blockBytes ∧ c.blockBytes < 500
  blockGas : c.blockGas = -1 ∨ 200 ≤ c.blockGas ∧ c.blockGas < 1100
  price : 0 ≤ c.price ∧ c.price < 3
  self : c.self = 0
  nodes : c.nodes = 1
theorem goodC_mk {a b c d e f h i j k l : Int} {g : Bool} (h0 : 1 ≤ a ∧ a < 8) (h1 : 250 ≤ b ∧ b < 650) (h2 : 40 ≤ c ∧ c < 200) (h3 : 0 ≤ d ∧ d < 12) (h4 : 0 ≤ e ∧ e < 4) (h5 : 0 ≤ f ∧ f < 60) (h6 : 100 ≤ h ∧ h < 500) (h7 : i = -1 ∨ 200 ≤ i ∧ i < 1100) (h8 : 0 ≤ j ∧ j < 3) (h9 : k = 0) (h10 : l = 1) :
    GoodC ⟨a, b, c, d, e, f, g, h, i, j, k, l⟩ := ⟨h0, h1, h2, h3, h4, h5, h6, h7, h8, h9, h10⟩
theorem GoodC.ok {c : MConfig} (h : GoodC c) : CfgOK c := by
  obtain ⟨h0, h1, h2, h3, h4, h5, h6, h7, h8, h9, h10⟩ := h
  refine ⟨fun k => ?_, by omega⟩
  match k with
  | 0 | 1 | 2 | 3 | 4 | 5 | 7 | 8 | 10 | 11 | 6 | 9 => simp only [intF]; omega
  | k + 12 => simp only [intF]; omega
theorem GoodC.valid {c : MConfig} (h : GoodC c) : validC c = 0 := by
  have hok := h.ok
  obtain ⟨h0, h1, h2, h3, h4, h5, h6, h7, h8, h9, h10⟩ := h
  have hk : ∀ k, k < 12 → okK c k = true := by
    intro k hk
    rw [ok16_eq hok hk]
    have h : k = 0 ∨ k = 1 ∨ k = 2 ∨ k = 3 ∨ k = 4 ∨ k = 5 ∨ k = 7 ∨ k = 8 ∨ k = 10 ∨ k = 11 ∨ k = 6 ∨ k = 9 := by omega
    rcases h with rfl | rfl | rfl | rfl | rfl | rfl | rfl | rfl | rfl | rfl | rfl | rfl
    case inr.inr.inr.inr.inr.inr.inr.inr.inr.inr.inl => cases hkk : c.keepInvalid <;> simp [ok16, value16, leastI, greatI, hkk]
    all_goals simp [ok16, value16, leastI, greatI, intF]
    all_goals omega
  have hto : ∀ n, n ≤ 12 → okTo c n = true := by
    intro n
    induction n with
    | zero => intro _; rfl
    | succ n ih => intro hn; simp [okTo, ih (by omega), hk n (by omega)]
  unfold validC
  rw [if_pos ⟨hto 12 (by omega), by omega⟩]
set_option maxHeartbeats 1000000 in
theorem mconfig_c (g : Nat) (a : Option Addr) (c : Nat) (L : List Int) (N : Nat) (w : World) {S : Fp} (hS : ∀ b, S b → b ≠ g) (hN : N < 2305843009213693952)
    (hb : Blk w g 84 ((numbV a L c N).map SV.den).toArray) (hL : Sl (Rp.int .i64) w S a L) :
    Calls Tryd.prog 21 #[.pointer (some ⟨g, 0, none⟩)] w fun e w' => ∃ (x : MConfig) (N' : Nat), GoodC x ∧ N' ≤ N + 14 ∧ e = .returned (.agg ⟨cfgV x⟩) ∧ Blk w' g 84 ((numbV a L c N').map SV.den).toArray ∧ Since (fun b => b = g) w w' := by
  refine calls_of_vc seat Tryd.func21 rfl rfl (Nat.le_of_ble_eq_true rfl) (N := 47) (args := [.ptr 0 g 0]) (Nat.le_of_ble_eq_true rfl) rfl (A.start1 hb) ?_
  intro g1 _
  (intro w1 hA; refine (next_e g a c L (N) 7 w1 hS (by decide) (by decide) (by omega) (hA.blk 0 _ rfl) (hL.since (hA.since (w, _) (List.Mem.head _)) hS)).mono ?_; rintro e w2 ⟨x0, hrx0, rfl, hb2, hs2⟩; refine ⟨.val (.int .i64 x0), [(1, ⟨g1, 24, cfgS zeroC⟩), (0, ⟨g, 84, numbV a L c (N + 1)⟩)], _, rfl, (hA.wrote (i := 0) rfl hs2 hb2).sub ⟨rfl, rfl, trivial⟩, ?_⟩; clear hA hb2 hs2)
  refine ⟨_, wrap_in _ (by omega) (by omega), ?_⟩
  (intro w1 hA; refine (next_e g a c L (N + 1) 400 w1 hS (by decide) (by decide) (by omega) (hA.blk 0 _ rfl) (hL.since (hA.since (w, _) (List.Mem.head _)) hS)).mono ?_; rintro e w2 ⟨x1, hrx1, rfl, hb2, hs2⟩; refine ⟨.val (.int .i64 x1), [(1, ⟨g1, 24, cfgS zeroC⟩), (0, ⟨g, 84, numbV a L c (N + 2)⟩)], _, rfl, (hA.wrote (i := 0) rfl hs2 hb2).sub ⟨rfl, rfl, trivial⟩, ?_⟩; clear hA hb2 hs2)
  refine ⟨_, wrap_in _ (by omega) (by omega), ?_⟩
  (intro w1 hA; refine (next_e g a c L (N + 2) 140 w1 hS (by decide) (by decide) (by omega) (hA.blk 0 _ rfl) (hL.since (hA.since (w, _) (List.Mem.head _)) hS)).mono ?_; rintro e w2 ⟨x2, hrx2, rfl, hb2, hs2⟩; refine ⟨.val (.int .i64 x2), [(1, ⟨g1, 24, cfgS zeroC⟩), (0, ⟨g, 84, numbV a L c (N + 3)⟩)], _, rfl, (hA.wrote (i := 0) rfl hs2 hb2).sub ⟨rfl, rfl, trivial⟩, ?_⟩; clear hA hb2 hs2)
  refine ⟨_, wrap_in _ (by omega) (by omega), ?_⟩
  (intro w1 hA; refine (next_e g a c L (N + 3) 12 w1 hS (by decide) (by decide) (by omega) (hA.blk 0 _ rfl) (hL.since (hA.since (w, _) (List.Mem.head _)) hS)).mono ?_; rintro e w2 ⟨x3, hrx3, rfl, hb2, hs2⟩; refine ⟨.val (.int .i64 x3), [(1, ⟨g1, 24, cfgS zeroC⟩), (0, ⟨g, 84, numbV a L c (N + 4)⟩)], _, rfl, (hA.wrote (i := 0) rfl hs2 hb2).sub ⟨rfl, rfl, trivial⟩, ?_⟩; clear hA hb2 hs2)
  (intro w1 hA; refine (next_e g a c L (N + 4) 4 w1 hS (by decide) (by decide) (by omega) (hA.blk 0 _ rfl) (hL.since (hA.since (w, _) (List.Mem.head _)) hS)).mono ?_; rintro e w2 ⟨x4, hrx4, rfl, hb2, hs2⟩; refine ⟨.val (.int .i64 x4), [(1, ⟨g1, 24, cfgS zeroC⟩), (0, ⟨g, 84, numbV a L c (N + 5)⟩)], _, rfl, (hA.wrote (i := 0) rfl hs2 hb2).sub ⟨rfl, rfl, trivial⟩, ?_⟩; clear hA hb2 hs2)
  (intro w1 hA; refine (next_e g a c L (N + 5) 3 w1 hS (by decide) (by decide) (by omega) (hA.blk 0 _ rfl) (hL.since (hA.since (w, _) (List.Mem.head _)) hS)).mono ?_; rintro e w2 ⟨x5, hrx5, rfl, hb2, hs2⟩; refine ⟨.val (.int .i64 x5), [(1, ⟨g1, 24, cfgS zeroC⟩), (0, ⟨g, 84, numbV a L c (N + 6)⟩)], _, rfl, (hA.wrote (i := 0) rfl hs2 hb2).sub ⟨rfl, rfl, trivial⟩, ?_⟩; clear hA hb2 hs2)
  (intro w1 hA; refine (next_e g a c L (N + 6) 20 w1 hS (by decide) (by decide) (by omega) (hA.blk 0 _ rfl) (hL.since (hA.since (w, _) (List.Mem.head _)) hS)).mono ?_; rintro e w2 ⟨x6, hrx6, rfl, hb2, hs2⟩; refine ⟨.val (.int .i64 x6), [(1, ⟨g1, 24, cfgS zeroC⟩), (0, ⟨g, 84, numbV a L c (N + 7)⟩)], _, rfl, (hA.wrote (i := 0) rfl hs2 hb2).sub ⟨rfl, rfl, trivial⟩, ?_⟩; clear hA hb2 hs2)
  have hm : 0 ≤ x5 * x6 ∧ x5 * x6 < 60 := by
    have e : x5 = 0 ∨ x5 = 1 ∨ x5 = 2 := by omega
    rcases e with rfl | rfl | rfl <;> omega
  refine ⟨_, wrap_in _ (by omega) (by omega), ?_⟩
  (intro w1 hA; refine (next_e g a c L (N + 7) 3 w1 hS (by decide) (by decide) (by omega) (hA.blk 0 _ rfl) (hL.since (hA.since (w, _) (List.Mem.head _)) hS)).mono ?_; rintro e w2 ⟨x7, hrx7, rfl, hb2, hs2⟩; refine ⟨.val (.int .i64 x7), [(1, ⟨g1, 24, cfgS zeroC⟩), (0, ⟨g, 84, numbV a L c (N + 8)⟩)], _, rfl, (hA.wrote (i := 0) rfl hs2 hb2).sub ⟨rfl, rfl, trivial⟩, ?_⟩; clear hA hb2 hs2)
  (intro w1 hA; refine (next_e g a c L (N + 8) 400 w1 hS (by decide) (by decide) (by omega) (hA.blk 0 _ rfl) (hL.since (hA.since (w, _) (List.Mem.head _)) hS)).mono ?_; rintro e w2 ⟨x8, hrx8, rfl, hb2, hs2⟩; refine ⟨.val (.int .i64 x8), [(1, ⟨g1, 24, cfgS zeroC⟩), (0, ⟨g, 84, numbV a L c (N + 9)⟩)], _, rfl, (hA.wrote (i := 0) rfl hs2 hb2).sub ⟨rfl, rfl, trivial⟩, ?_⟩; clear hA hb2 hs2)
  refine ⟨_, wrap_in _ (by omega) (by omega), ?_⟩
  (intro w1 hA; refine (next_e g a c L (N + 9) 3 w1 hS (by decide) (by decide) (by omega) (hA.blk 0 _ rfl) (hL.since (hA.since (w, _) (List.Mem.head _)) hS)).mono ?_; rintro e w2 ⟨x9, hrx9, rfl, hb2, hs2⟩; refine ⟨.val (.int .i64 x9), [(1, ⟨g1, 24, cfgS zeroC⟩), (0, ⟨g, 84, numbV a L c (N + 10)⟩)], _, rfl, (hA.wrote (i := 0) rfl hs2 hb2).sub ⟨rfl, rfl, trivial⟩, ?_⟩; clear hA hb2 hs2)
  refine ⟨_, wrapu_in _ (by omega) (by omega), ?_⟩
  generalize x5 * x6 = x56 at hm ⊢
  refine ⟨⟨rfl, rfl, rfl, rfl, rfl, rfl, rfl, rfl, rfl, rfl, rfl, trivial⟩, ?_⟩
  intro g2 _
  refine ⟨rfl, rfl, rfl, rfl, ?_⟩
  (intro w1 hA; refine (next_e g a c L (N + 10) 3 w1 hS (by decide) (by decide) (by omega) (hA.blk 0 _ rfl) (hL.since (hA.since (w, _) (List.Mem.head _)) hS)).mono ?_; rintro e w2 ⟨x10, hrx10, rfl, hb2, hs2⟩; refine ⟨.val (.int .i64 x10), [(2, ⟨g2, 24, cfgS ⟨1 + x0, 250 + x1, 60 + x2, x3, x4, x56, x7 == 0, 100 + x8, -1, x9, 0, 1⟩⟩), (1, ⟨g1, 24, cfgS zeroC⟩), (0, ⟨g, 84, numbV a L c (N + 11)⟩)], _, rfl, (hA.wrote (i := 0) rfl hs2 hb2).sub ⟨rfl, rfl, rfl, trivial⟩, ?_⟩; clear hA hb2 hs2)
  refine ⟨fun _ => ?_, fun _ => ?_⟩
  · (intro w1 hA; refine (next_e g a c L (N + 11) 900 w1 hS (by decide) (by decide) (by omega) (hA.blk 0 _ rfl) (hL.since (hA.since (w, _) (List.Mem.head _)) hS)).mono ?_; rintro e w2 ⟨x11, hrx11, rfl, hb2, hs2⟩; refine ⟨.val (.int .i64 x11), [(2, ⟨g2, 24, cfgS ⟨1 + x0, 250 + x1, 60 + x2, x3, x4, x56, x7 == 0, 100 + x8, -1, x9, 0, 1⟩⟩), (1, ⟨g1, 24, cfgS zeroC⟩), (0, ⟨g, 84, numbV a L c (N + 12)⟩)], _, rfl, (hA.wrote (i := 0) rfl hs2 hb2).sub ⟨rfl, rfl, rfl, trivial⟩, ?_⟩; clear hA hb2 hs2)
    refine ⟨_, wrap_in _ (by omega) (by omega), ?_⟩
    refine ⟨_, rfl, rfl, rfl, ?_⟩
    (intro w1 hA; refine (next_e g a c L (N + 12) 6 w1 hS (by decide) (by decide) (by omega) (hA.blk 0 _ rfl) (hL.since (hA.since (w, _) (List.Mem.head _)) hS)).mono ?_; rintro e w2 ⟨x12, hrx12, rfl, hb2, hs2⟩; refine ⟨.val (.int .i64 x12), [(2, ⟨g2, 24, cfgS ⟨1 + x0, 250 + x1, 60 + x2, x3, x4, x56, x7 == 0, 100 + x8, 200 + x11, x9, 0, 1⟩⟩), (1, ⟨g1, 24, cfgS zeroC⟩), (0, ⟨g, 84, numbV a L c (N + 13)⟩)], _, rfl, (hA.wrote (i := 0) rfl hs2 hb2).sub ⟨rfl, rfl, rfl, trivial⟩, ?_⟩; clear hA hb2 hs2)
    refine ⟨fun _ => ?_, fun _ => ?_⟩
    · (intro w1 hA; refine (next_e g a c L (N + 13) 40 w1 hS (by decide) (by decide) (by omega) (hA.blk 0 _ rfl) (hL.since (hA.since (w, _) (List.Mem.head _)) hS)).mono ?_; rintro e w2 ⟨x13, hrx13, rfl, hb2, hs2⟩; refine ⟨.val (.int .i64 x13), [(2, ⟨g2, 24, cfgS ⟨1 + x0, 250 + x1, 60 + x2, x3, x4, x56, x7 == 0, 100 + x8, 200 + x11, x9, 0, 1⟩⟩), (1, ⟨g1, 24, cfgS zeroC⟩), (0, ⟨g, 84, numbV a L c (N + 14)⟩)], _, rfl, (hA.wrote (i := 0) rfl hs2 hb2).sub ⟨rfl, rfl, rfl, trivial⟩, ?_⟩; clear hA hb2 hs2)
      refine ⟨_, wrap_in _ (by omega) (by omega), ?_⟩
      refine ⟨_, rfl, rfl, rfl, ?_⟩
      refine ⟨rfl, rfl, ?_⟩
      refine ⟨rfl, rfl, rfl, rfl, ?_⟩
      refine ⟨rfl, rfl, ?_⟩
      intro w' hA
      exact ⟨⟨1 + x0, 250 + x1, 40 + x13, x3, x4, x56, x7 == 0, 100 + x8, 200 + x11, x9, 0, 1⟩, N + 14, goodC_mk (by omega) (by omega) (by omega) (by omega) (by omega) (by omega) (by omega) (by omega) (by omega) rfl rfl, by omega, rfl, hA.blk 0 _ rfl, hA.since (w, _) (List.Mem.head _)⟩
    · refine ⟨rfl, rfl, ?_⟩
      refine ⟨rfl, rfl, rfl, rfl, ?_⟩
      refine ⟨rfl, rfl, ?_⟩
      intro w' hA
      exact ⟨⟨1 + x0, 250 + x1, 60 + x2, x3, x4, x56, x7 == 0, 100 + x8, 200 + x11, x9, 0, 1⟩, N + 13, goodC_mk (by omega) (by omega) (by omega) (by omega) (by omega) (by omega) (by omega) (by omega) (by omega) rfl rfl, by omega, rfl, hA.blk 0 _ rfl, hA.since (w, _) (List.Mem.head _)⟩
  · (intro w1 hA; refine (next_e g a c L (N + 11) 6 w1 hS (by decide) (by decide) (by omega) (hA.blk 0 _ rfl) (hL.since (hA.since (w, _) (List.Mem.head _)) hS)).mono ?_; rintro e w2 ⟨x12, hrx12, rfl, hb2, hs2⟩; refine ⟨.val (.int .i64 x12), [(2, ⟨g2, 24, cfgS ⟨1 + x0, 250 + x1, 60 + x2, x3, x4, x56, x7 == 0, 100 + x8, -1, x9, 0, 1⟩⟩), (1, ⟨g1, 24, cfgS zeroC⟩), (0, ⟨g, 84, numbV a L c (N + 12)⟩)], _, rfl, (hA.wrote (i := 0) rfl hs2 hb2).sub ⟨rfl, rfl, rfl, trivial⟩, ?_⟩; clear hA hb2 hs2)
    refine ⟨fun _ => ?_, fun _ => ?_⟩
    · (intro w1 hA; refine (next_e g a c L (N + 12) 40 w1 hS (by decide) (by decide) (by omega) (hA.blk 0 _ rfl) (hL.since (hA.since (w, _) (List.Mem.head _)) hS)).mono ?_; rintro e w2 ⟨x13, hrx13, rfl, hb2, hs2⟩; refine ⟨.val (.int .i64 x13), [(2, ⟨g2, 24, cfgS ⟨1 + x0, 250 + x1, 60 + x2, x3, x4, x56, x7 == 0, 100 + x8, -1, x9, 0, 1⟩⟩), (1, ⟨g1, 24, cfgS zeroC⟩), (0, ⟨g, 84, numbV a L c (N + 13)⟩)], _, rfl, (hA.wrote (i := 0) rfl hs2 hb2).sub ⟨rfl, rfl, rfl, trivial⟩, ?_⟩; clear hA hb2 hs2)
      refine ⟨_, wrap_in _ (by omega) (by omega), ?_⟩
      refine ⟨_, rfl, rfl, rfl, ?_⟩
      refine ⟨rfl, rfl, ?_⟩
      refine ⟨rfl, rfl, rfl, rfl, ?_⟩
      refine ⟨rfl, rfl, ?_⟩
      intro w' hA
      exact ⟨⟨1 + x0, 250 + x1, 40 + x13, x3, x4, x56, x7 == 0, 100 + x8, -1, x9, 0, 1⟩, N + 13, goodC_mk (by omega) (by omega) (by omega) (by omega) (by omega) (by omega) (by omega) (.inl rfl) (by omega) rfl rfl, by omega, rfl, hA.blk 0 _ rfl, hA.since (w, _) (List.Mem.head _)⟩
    · refine ⟨rfl, rfl, ?_⟩
      refine ⟨rfl, rfl, rfl, rfl, ?_⟩
      refine ⟨rfl, rfl, ?_⟩
      intro w' hA
      exact ⟨⟨1 + x0, 250 + x1, 60 + x2, x3, x4, x56, x7 == 0, 100 + x8, -1, x9, 0, 1⟩, N + 12, goodC_mk (by omega) (by omega) (by omega) (by omega) (by omega) (by omega) (by omega) (.inl rfl) (by omega) rfl rfl, by omega, rfl, hA.blk 0 _ rfl, hA.since (w, _) (List.Mem.head _)⟩
end Go.Proofs.YtllepnadffndnaaDoor
namespace Go.Proofs.YtllepnadffndnaaDoor
open Go.RowKit
def In64 (n : Int) : Prop := -9223372036854775808 ≤ n ∧ n < 9223372036854775808
def InU64 (n : Int) : Prop := 0 ≤ n ∧ n < 18446744073709551616
theorem cfgOK_mk {a b c d e f h i j k l : Int} {g : Bool} (h0 : In64 a) (h1 : In64 b) (h2 : In64 c) (h3 : In64 d) (h4 : In64 e) (h5 : In64 f) (h6 : In64 h) (h7 : In64 i) (h8 : InU64 j) (h9 : In64 k) (h10 : In64 l) : CfgOK ⟨a, b, c, d, e, f, g, h, i, j, k, l⟩ := by
  refine ⟨fun n => ?_, h8⟩
  match n with
  | 0 => exact h0
  | 1 => exact h1
  | 2 => exact h2
  | 3 => exact h3
  | 4 => exact h4
  | 5 => exact h5
  | 6 => exact h10
  | 7 => exact h6
  | 8 => exact h7
  | 9 => exact h10
  | 10 => exact h9
  | n + 11 => exact h10
theorem wrapu_range (n : Int) : InU64 (IntKind.u64.wrap n) := by
  simp only [IntKind.wrap, IntKind.bits, IntKind.signed, InU64]
  simp
  omega
theorem wrap_range (n : Int) : In64 (IntKind.i64.wrap n) := by
  rw [IntKind.wrap_i64]; unfold In64; omega
theorem wrap8_range (n : Int) : 0 ≤ IntKind.u8.wrap n ∧ IntKind.u8.wrap n < 256 := by
  simp only [IntKind.wrap, IntKind.bits, IntKind.signed]
  simp
  omega
set_option maxHeartbeats 1000000 in
theorem changed_c (a : Option Addr) (c : Nat) (L : List Int) (fd n : Int) (hn : In64 n) (w : World) (hL : Sl (Rp.int .i64) w (Lt w.heap.size) a L) :
    Calls Tryd.prog 12 #[.slice a L.length c, .int .i64 fd, .int .i64 n] w fun e w' => ∃ x : MConfig, CfgOK x ∧ e = .returned (.agg ⟨cfgV x⟩) ∧ Below w.heap.size w w' := by
  refine calls_of_vc seat Tryd.func12 rfl rfl (Nat.le_of_ble_eq_true rfl) (N := 57) (args := [.val (.slice a L.length c), .val (.int .i64 fd), .val (.int .i64 n)]) (Nat.le_of_ble_eq_true rfl) rfl (A.start w) ?_
  intro g0 _
  intro w1 hA
  refine (from_c a c L w1).mono ?_
  rintro e w2 ⟨g1, rfl, hg1, hk1, hb⟩
  have hS : ∀ b, Lt w.heap.size b → b ≠ g1 := by
    have := (hA.bel (w := w) (by simp)).size
    intro b hb e
    subst e
    have : b < w.heap.size := hb
    omega
  refine ⟨.val (.pointer (some ⟨g1, 0, none⟩)), [(1, ⟨g1, 84, numbV a L c 0⟩), (0, ⟨g0, 24, cfgS zeroC⟩)], [(w, fun _ => False)], rfl, (hA.adopt hb hg1 hk1).sub ⟨rfl, rfl, trivial⟩, ?_⟩
  clear hA hb hk1
  intro w1 hA
  refine (mconfig_c g1 a c L 0 w1 hS (by decide) (hA.blk 1 _ rfl) (hL.below (hA.bel (by simp)))).mono ?_
  rintro e w2 ⟨⟨c0, c1, c2, c3, c4, c5, c6, c7, c8, c9, c10, c11⟩, N', hx, _, rfl, hb2, hs2⟩
  refine ⟨.val (.agg ⟨cfgV ⟨c0, c1, c2, c3, c4, c5, c6, c7, c8, c9, c10, c11⟩⟩), [(1, ⟨g1, 84, numbV a L c N'⟩), (0, ⟨g0, 24, cfgS zeroC⟩)], [(w, fun _ => False)], rfl, (hA.wrote (i := 1) rfl hs2 hb2).sub ⟨rfl, rfl, trivial⟩, ?_⟩
  clear hA hb2 hs2
  have hok := hx.ok
  have i0 : In64 c0 := hok.int 0
  have i1 : In64 c1 := hok.int 1
  have i2 : In64 c2 := hok.int 2
  have i3 : In64 c3 := hok.int 3
  have i4 : In64 c4 := hok.int 4
  have i5 : In64 c5 := hok.int 5
  have i7 : In64 c7 := hok.int 7
  have i8 : In64 c8 := hok.int 8
  have i9 : InU64 c9 := hok.price
  have i10 : In64 c10 := hok.int 10
  have i11 : In64 c11 := hok.int 11
  have iu := wrapu_range n
  intro g2 _
  refine ⟨rfl, rfl, rfl, rfl, ?_⟩
  intro w1 hA
  refine (place_c fd 11 w1 (by decide) (by decide)).mono ?_
  rintro e w2 ⟨rfl, hb⟩
  refine ⟨.val _, _, _, rfl, hA.below' hb, ?_⟩
  clear hA hb
  iterate 10
    refine ⟨fun _ => ?_, fun _ => ?_⟩
    · refine ⟨_, rfl, rfl, rfl, ?_⟩
      refine ⟨rfl, rfl, ?_⟩
      refine ⟨rfl, rfl, rfl, rfl, ?_⟩
      refine ⟨rfl, rfl, ?_⟩
      intro w' hA
      exact ⟨⟨_, _, _, _, _, _, _, _, _, _, _, _⟩, cfgOK_mk (by assumption) (by assumption) (by assumption) (by assumption) (by assumption) (by assumption) (by assumption) (by assumption) (by assumption) (by assumption) (by assumption), rfl, hA.bel (by simp)⟩
  refine ⟨_, rfl, ?_⟩
  refine ⟨_, rfl, rfl, rfl, ?_⟩
  refine ⟨rfl, rfl, ?_⟩
  refine ⟨rfl, rfl, rfl, rfl, ?_⟩
  refine ⟨rfl, rfl, ?_⟩
  intro w' hA
  exact ⟨⟨_, _, _, _, _, _, _, _, _, _, _, _⟩, cfgOK_mk (by assumption) (by assumption) (by assumption) (by assumption) (by assumption) (by assumption) (by assumption) (by assumption) (by assumption) (by assumption) (by assumption), rfl, hA.bel (by simp)⟩
end Go.Proofs.YtllepnadffndnaaDoor
namespace Go.Proofs.YtllepnadffndnaaDoor
abbrev Bs := List UInt8
def byteAt (l : Bs) (i : Nat) : UInt8 := l[i]?.getD 0
def followB (l : Bs) (i : Nat) : Bool := decide (i < l.length) && decide (128 ≤ ((byteAt l i).toNat : Int)) && decide (((byteAt l i).toNat : Int) < 192)
def runeI (c d : Int) (f1 f2 f3 : Bool) : Int :=
  if decide (c < 128) then 1 else
  if decide (194 ≤ c) && decide (c < 224) && f1 then 2 else
  if decide (224 ≤ c) && decide (c < 240) && f1 && f2 then (if (c == 224) && decide (d < 160) || (c == 237) && decide (160 ≤ d) then 0 else 3) else
  if decide (240 ≤ c) && decide (c < 245) && f1 && f2 && f3 then (if (c == 240) && decide (d < 144) || (c == 244) && decide (144 ≤ d) then 0 else 4) else 0
def runeAt (l : Bs) (i : Nat) : Int := runeI (byteAt l i).toNat (byteAt l (i + 1)).toNat (followB l (i + 1)) (followB l (i + 2)) (followB l (i + 3))
theorem byteAt_some {l : Bs} {i : Nat} (h : i < l.length) : l[i]? = some (byteAt l i) := by
  unfold byteAt
  rw [List.getElem?_eq_getElem h]; rfl
theorem followB_lt {l : Bs} {i : Nat} (h : followB l i = true) : i < l.length := by
  unfold followB at h
  simp only [Bool.and_eq_true] at h
  exact of_decide_eq_true h.1.1
theorem byteAt_drop (l : Bs) (i j : Nat) : byteAt (l.drop i) j = byteAt l (i + j) := by
  unfold byteAt
  rw [List.getElem?_drop]
theorem followB_drop (l : Bs) (i j : Nat) : followB (l.drop i) j = followB l (i + j) := by
  unfold followB
  rw [byteAt_drop, List.length_drop]
  congr 2
  simp only [decide_eq_decide]
  omega
theorem runeAt_drop (l : Bs) (i j : Nat) : runeAt (l.drop i) j = runeAt l (i + j) := by
  unfold runeAt
  simp only [byteAt_drop, followB_drop, Nat.add_assoc]
def runeLen (l : Bs) : Nat := (runeAt l 0).toNat
theorem runeI_le (c d : Int) (f1 f2 f3 : Bool) : 0 ≤ runeI c d f1 f2 f3 ∧ runeI c d f1 f2 f3 ≤ 4 ∧ (2 ≤ runeI c d f1 f2 f3 → f1 = true) ∧ (3 ≤ runeI c d f1 f2 f3 → f2 = true) ∧ (4 ≤ runeI c d f1 f2 f3 → f3 = true) := by
  unfold runeI
  repeat' split
  all_goals simp_all
theorem runeAt_nat (l : Bs) (i : Nat) : runeAt l i = ((runeLen (l.drop i) : Nat) : Int) := by
  have h := runeAt_drop l i 0
  unfold runeLen
  rw [h]
  have := (runeI_le (byteAt l i).toNat (byteAt l (i + 1)).toNat (followB l (i + 1)) (followB l (i + 2)) (followB l (i + 3))).1
  unfold runeAt
  simp only [Nat.add_zero]
  omega
theorem runeLen_le {l : Bs} (h : l ≠ []) : runeLen l ≤ l.length := by
  obtain ⟨h0, h1, h2, h3, h4⟩ := runeI_le (byteAt l 0).toNat (byteAt l (0 + 1)).toNat (followB l (0 + 1)) (followB l (0 + 2)) (followB l (0 + 3))
  have e : ((runeLen l : Nat) : Int) = runeI (byteAt l 0).toNat (byteAt l (0 + 1)).toNat (followB l (0 + 1)) (followB l (0 + 2)) (followB l (0 + 3)) := by
    have := runeAt_nat l 0
    simp only [List.drop_zero] at this
    exact this.symm
  have hpos : 0 < l.length := List.length_pos_iff.2 h
  rcases Nat.lt_or_ge (runeLen l) 2 with h5 | h5
  · omega
  have a1 := followB_lt (h2 (by omega))
  rcases Nat.lt_or_ge (runeLen l) 3 with h6 | h6
  · omega
  have a2 := followB_lt (h3 (by omega))
  rcases Nat.lt_or_ge (runeLen l) 4 with h7 | h7
  · omega
  have a3 := followB_lt (h4 (by omega))
  omega
def validS (l : Bs) : Bool := if _h : l = [] then true else if _h2 : runeLen l = 0 then false else validS (l.drop (runeLen l))
termination_by l.length
decreasing_by
  have := runeLen_le _h
  rw [List.length_drop]
  have : 0 < l.length := List.length_pos_iff.2 _h
  omega
theorem validS_nil : validS [] = true := by unfold validS; simp
theorem validS_bad {l : Bs} (h : l ≠ []) (h2 : runeLen l = 0) : validS l = false := by unfold validS; simp [h, h2]
theorem validS_step {l : Bs} (h : l ≠ []) (h2 : runeLen l ≠ 0) : validS l = validS (l.drop (runeLen l)) := by rw [validS]; simp [h, h2]
def runesOf (l : Bs) : List Bs := if _h : l = [] then [] else if _h2 : runeLen l = 0 then [] else l.take (runeLen l) :: runesOf (l.drop (runeLen l))
termination_by l.length
decreasing_by
  have := runeLen_le _h
  rw [List.length_drop]
  have : 0 < l.length := List.length_pos_iff.2 _h
  omega
theorem runesOf_nil : runesOf [] = [] := by unfold runesOf; simp
theorem runesOf_step {l : Bs} (h : l ≠ []) (h2 : runeLen l ≠ 0) : runesOf l = l.take (runeLen l) :: runesOf (l.drop (runeLen l)) := by rw [runesOf]; simp [h, h2]
def spaceB (r : Bs) : Bool := r == [9] || r == [32] || r == [194, 160] || r == [226, 128, 131] || r == [227, 128, 128]
def wordsGo : List Bs → Bs → List Bs → List Bs
  | [], w, acc => if w = [] then acc else acc ++ [w]
  | r :: rs, w, acc =>
    if r = [35] then (if w = [] then acc else acc ++ [w])
    else if spaceB r then (if w = [] then wordsGo rs [] acc else wordsGo rs [] (acc ++ [w]))
    else wordsGo rs (w ++ r) acc
def wordsOf (l : Bs) : List Bs := wordsGo (runesOf l) [] []
def linesOf : Bs → List Bs
  | [] => [[]]
  | c :: r => if c = 10 then [] :: linesOf r else match linesOf r with
    | h :: t => (c :: h) :: t
    | [] => [[c]]
theorem linesOf_ne : ∀ (l : Bs), linesOf l ≠ []
  | [] => by simp [linesOf]
  | c :: r => by
    unfold linesOf
    split
    · simp
    · split <;> simp
def digitB (c : UInt8) : Bool := !(decide ((c.toNat : Int) < 48) || decide (57 < (c.toNat : Int)))
def decVal (l : Bs) : Nat := l.foldl (fun a c => a * 10 + (c.toNat - 48)) 0
def digitsB (l : Bs) : Bool := l.all digitB && (!l.isEmpty && (l.length == 1 || !(byteAt l 0 == 48)))
def numberB (l : Bs) : Option Nat := if digitsB l && decide (decVal l < 18446744073709551616) then some (decVal l) else none
end Go.Proofs.YtllepnadffndnaaDoor
