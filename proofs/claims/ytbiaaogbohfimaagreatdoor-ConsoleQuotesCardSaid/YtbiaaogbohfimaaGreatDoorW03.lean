/- Parts of a proof, one behind the other: M21, M22, M23, M32, M24, M25, M26, M27, M28, M31, Opn, M33, M34, M35, KL, Seat, S0, U32. -/
import Derived.Test.YtbiaaogbohfimaaGreatDoorW02
set_option maxRecDepth 20000
set_option maxHeartbeats 16000000
set_option linter.unusedVariables false
set_option linter.unusedSimpArgs false
namespace Go.Proofs.YtbiaaogbohfimaaGreatDoor
open Go.RowKit
section
def Out (D : Dl → Prop) (x : Ask (MV × Dl)) : Prop := ∀ K, x.runP K → ∃ r δ, D δ ∧ K (r, δ)
section
variable {α : Type} {D : Dl → Prop}
theorem Out.ret {r : MV} {δ : Dl} (h : D δ) : Out D (Ask.ret (r, δ)) := fun _ hk => ⟨r, δ, h, hk⟩
theorem Out.bad : Out D Ask.bad := fun _ h => h.elim
theorem Out.ask {o : Option α} {k : α → Ask (MV × Dl)} (h : ∀ a, Out D (k a)) : Out D (Ask.ask o k) := by
 rintro K ⟨a, _, h2⟩; exact h a K h2
theorem Out.prf {p : Prop} {d : Decidable p} {k : Ask (MV × Dl)} (h : Out D k) : Out D (Ask.prf p d k) := by
 rintro K ⟨_, h2⟩; exact h K h2
theorem Out.br {t : Bool} {x y : Ask (MV × Dl)} (hx : Out D x) (hy : Out D y) : Out D (Ask.br t x y) := by
 rintro K ⟨h1, h2⟩
 cases t with
 | true => exact hx K (h1 rfl)
 | false => exact hy K (h2 rfl)
theorem Out.bind {x : Ask MV} {f : MV → Ask (MV × Dl)} (hs : Sharp x) (hf : ∀ a, Out D (f a)) : Out D (x.bind f) := by
 intro K h
 obtain ⟨a, _, h2, _⟩ := hs _ h
 exact hf a K h2
theorem Out.val {a : α} {k : α → Ask (MV × Dl)} (h : ∀ a, Out D (k a)) : Out D (val a k) := Out.ask h
theorem Out.cond {b : Bool} {x y : Ask (MV × Dl)} (hx : Out D x) (hy : Out D y) : Out D (bif b then x else y) := by cases b <;> assumption
theorem Out.rd {e : Nat → Option MV} {x : Operand} {k : MV → Ask (MV × Dl)} (h : ∀ a, Out D (k a)) : Out D (rd e x k) := by
 show Out D (match evM e x with | some m => k m | none => .bad)
 split
 ·exact h _
 ·exact Out.bad
theorem Out.rds {e : Nat → Option MV} : ∀ {xs : List Operand} {k : List MV → Ask (MV × Dl)}, (∀ a, Out D (k a)) → Out D (rds e xs k)
 | [], _, h => h _
 | _ :: _, _, h => Out.rd fun _ => Out.rds fun _ => h _
theorem Out.rdo {e : Nat → Option MV} {x : Option Operand} {k : Option MV → Ask (MV × Dl)} (h : ∀ a, Out D (k a)) : Out D (rdo e x k) := by
 cases x with
 | none => exact h _
 | some x => exact Out.rd fun _ => h _
end
abbrev DN : Dl → Prop := fun δ => δ = .none
abbrev DA : Dl → Prop := fun δ => ∃ b, δ = .new b
abbrev DW (m : FM) : Dl → Prop := fun δ => (∃ b, δ = .new b) ∨ (∃ c l, δ = .upd c l ∧ m c ≠ none) ∨ (∃ c b, δ = .mv c b ∧ m c ≠ none)
section
variable (P : Program) (T : Tab) (E : Nat → Option MV) (M : FM) (cnt : Nat)
theorem out_pureA (m : MV) : Out DN (pureA m) := Out.ret rfl
theorem out_oNil (b : Option Bool) (op : BinOp) : Out DN (oNil b op) := by
 cases b with
 | none => exact Out.bad
 | some b => cases op <;> first | exact Out.bad | exact Out.ret rfl
theorem out_oEq (op : BinOp) (t : TypeId) (x y : MV) : Out DN (oEq P T op t x y) := by
 unfold oEq
 split
 ·exact Out.cond (Out.prf (Out.ask fun _ => out_oNil _ _)) Out.bad
 ·exact Out.bad
theorem out_oBin (op : BinOp) (t : TypeId) (yo : Operand) (x y : MV) : Out DN (oBin P T op t yo x y) := by
 unfold oBin
 split
 ·split
  ·exact Out.cond (Out.bind (sharp_iBin _ _ _ _) out_pureA) Out.bad
  ·exact Out.bad
 ·split
  ·exact Out.bind (sharp_sBin _ _ _) out_pureA
  ·exact Out.bad
 ·split
  ·split
   ·exact Out.bind (sharp_bBin _ _ _) out_pureA
   ·exact Out.bad
  ·exact Out.bad
 ·split
  ·exact out_oNil _ _
  ·exact Out.bad
 ·split
  ·exact out_oNil _ _
  ·exact Out.bad
 ·split
  ·exact out_oNil _ _
  ·exact Out.bad
 ·exact out_oEq P T op t _ _
theorem out_oLoad (t : TypeId) (p : MV) : Out DN (oLoad T M t p) := by
 unfold oLoad
 split
 ·exact Out.bad
 ·split
  ·split
   ·exact Out.cond (Out.ask fun _ => Out.ask fun _ => Out.cond (Out.ret rfl) Out.bad) Out.bad
   ·exact Out.bad
  ·exact Out.ask fun _ => Out.cond (Out.ret rfl) Out.bad
  ·exact Out.bad
theorem out_oFieldAddr (t : TypeId) (p : MV) (f : Nat) : Out DN (oFieldAddr T t p f) := by
 unfold oFieldAddr
 repeat' split
 all_goals first | exact Out.bad | exact Out.ret rfl
theorem out_oIndexAddr (t : TypeId) (p j : MV) : Out DN (oIndexAddr T t p j) := by
 unfold oIndexAddr
 repeat' split
 all_goals first | exact Out.bad | exact Out.ask fun _ => Out.cond (Out.ret rfl) Out.bad | exact Out.cond (Out.ask fun _ => Out.ret rfl) Out.bad | exact Out.ask fun _ => Out.ret rfl
theorem out_oIndex (t : TypeId) (p j : MV) : Out DN (oIndex T t p j) := by
 unfold oIndex
 repeat' split
 all_goals first | exact Out.bad | exact Out.ask fun _ => Out.ret rfl | exact Out.cond (Out.ask fun _ => Out.cond (Out.ret rfl) Out.bad) Out.bad
theorem out_oField (t : TypeId) (p : MV) (f : Nat) : Out DN (oField T t p f) := by
 unfold oField
 repeat' split
 all_goals first | exact Out.bad | exact Out.cond (Out.ret rfl) Out.bad
theorem out_oSlice (t : TypeId) (x : MV) (lo hi : Option MV) : Out DN (oSlice T t x lo hi) := by
 unfold oSlice
 repeat' split
 all_goals first | exact Out.bad | exact Out.ask fun _ => Out.val fun _ => Out.ret rfl | exact Out.ask fun _ => Out.prf (Out.val fun _ => Out.val fun _ => Out.ret rfl) | exact Out.cond (Out.ask fun _ => Out.val fun _ => Out.ret rfl) Out.bad | exact Out.ask fun _ => Out.ret rfl
abbrev DR (m : FM) : Dl → Prop := fun δ => δ = .none ∨ ∃ l, δ = .bump l ∧ ∀ c ∈ l, m c.1 ≠ none
theorem Out.weak {D D' : Dl → Prop} {x : Ask (MV × Dl)} (h : Out D x) (hd : ∀ δ, D δ → D' δ) : Out D' x := fun K hk => by
 obtain ⟨r, δ, h1, h2⟩ := h K hk
 exact ⟨r, δ, hd δ h1, h2⟩
theorem out_oSliceA (t : TypeId) (x : MV) (lo hi : Option MV) : Out (DR M) (oSliceA T M t x lo hi) := by
 unfold oSliceA
 split
 ·split
  ·rename_i b hb
   split
   ·exact Out.cond (Out.ask fun _ => Out.val fun _ => Out.val fun _ => Out.ret (.inr ⟨_, rfl, fun c hc => by simp at hc; subst hc; rw [hb]; simp⟩)) Out.bad
   ·exact Out.bad
  ·exact Out.bad
 ·exact (out_oSlice T _ _ _ _).weak fun _ h => .inl h
theorem out_oBuild (t : TypeId) (ps : List (Nat × MV)) : Out DN (oBuild T t ps) := by
 unfold oBuild
 split
 ·refine Out.cond ?_ Out.bad
  split
  ·exact Out.ret rfl
  ·exact Out.bad
 ·refine Out.cond ?_ Out.bad
  split
  ·exact Out.ret rfl
  ·exact Out.bad
 ·exact Out.bad
theorem out_oUn (op : UnOp) (x : MV) : Out DN (oUn op x) := by
 unfold oUn
 repeat' split
 all_goals first | exact Out.bad | exact Out.ret rfl | exact Out.val fun _ => Out.ret rfl
theorem out_oConv (s d : TypeId) (x : MV) : Out DN (oConv T M s d x) := by
 unfold oConv
 repeat' split
 all_goals first | exact Out.bad | exact Out.ret rfl | exact Out.val fun _ => Out.ret rfl | exact Out.ask fun _ => Out.ret rfl | exact Out.ask fun _ => Out.val fun _ => Out.ret rfl | exact Out.cond (Out.prf (Out.ask fun _ => Out.ret rfl)) Out.bad | exact Out.prf (Out.val fun _ => Out.val fun _ => Out.ret rfl)
theorem out_oBuildSlice (t : TypeId) (n : Nat) (ps : List (Nat × MV)) : Out DA (oBuildSlice T cnt t n ps) := by
 unfold oBuildSlice
 split
 ·split
  ·split
   ·exact Out.ret ⟨_, rfl⟩
   ·exact Out.bad
  ·split
   ·refine Out.cond ?_ Out.bad
    split
    ·exact Out.ret ⟨_, rfl⟩
    ·exact Out.bad
   ·exact Out.bad
 ·exact Out.bad
theorem out_oBuildRow (t : TypeId) (c es off k : Nat) : Out (DW M) (oBuildRow T M cnt t c es off k) := by
 unfold oBuildRow
 split
 ·split
  ·split
   ·rename_i b hb
    exact Out.cond (Out.prf (Out.val fun _ => Out.ret (.inr (.inr ⟨_, _, rfl, by rw [hb]; simp⟩)))) Out.bad
   ·exact Out.bad
  ·exact Out.bad
 ·exact Out.bad
theorem out_oMakeSlice (t : TypeId) (x y : MV) : Out DA (oMakeSlice P T cnt t x y) := by
 unfold oMakeSlice
 repeat' split
 all_goals first | exact Out.bad | exact Out.cond (Out.prf (Out.ask fun _ => Out.ask fun _ => Out.prf (Out.ret ⟨_, rfl⟩))) Out.bad
theorem out_oStore (t : TypeId) (p v : MV) : Out (DW M) (oStore T M t p v) := by
 unfold oStore
 split
 ·exact Out.bad
 ·split
  ·split
   ·rename_i b hb
    exact Out.cond (Out.prf (Out.ask fun _ => Out.ask fun _ => Out.val fun _ => Out.ret (.inr (.inl ⟨_, _, rfl, by rw [hb]; simp⟩)))) Out.bad
   ·exact Out.bad
  ·exact Out.bad
theorem out_oMapUpd (t : TypeId) (m k x : MV) : Out (DW M) (oMapUpd P T M t m k x) := by
 unfold oMapUpd
 split
 ·split
  ·rename_i b hb
   split
   ·refine Out.cond (Out.prf (Out.ask fun _ => Out.ask fun r => ?_)) Out.bad
    cases r <;> exact Out.val fun _ => Out.ret (.inr (.inl ⟨_, _, rfl, by rw [hb]; simp⟩))
   ·exact Out.bad
  ·exact Out.bad
 ·exact Out.bad
theorem out_oLookup (t : TypeId) (m k : MV) (ok : Bool) : Out DN (oLookup P T M t m k ok) := by
 unfold oLookup
 split
 ·split
  ·split
   ·refine Out.cond (Out.prf (Out.ask fun _ => Out.ask fun r => ?_)) Out.bad
    cases r
    ·exact Out.ask fun _ => Out.ret rfl
    ·exact Out.ask fun _ => Out.cond (Out.ret rfl) Out.bad
   ·exact Out.bad
  ·exact Out.bad
 ·exact Out.bad
theorem out_oRange (t : TypeId) (v : MV) : Out DA (oRange T cnt t v) := by
 unfold oRange
 split
 ·exact Out.ret ⟨_, rfl⟩
 ·exact Out.bad
theorem out_oNext (v : MV) (b : Bool) : Out (DW M) (oNext M v b) := by
 unfold oNext
 split
 ·split
  ·rename_i bb hb
   split
   ·refine Out.ask fun _ => Out.val fun r => ?_
    rcases r with _ | ⟨_, _⟩
    ·exact Out.ret (.inr (.inl ⟨_, _, rfl, by rw [hb]; simp⟩))
    ·exact Out.ret (.inr (.inl ⟨_, _, rfl, by rw [hb]; simp⟩))
   ·exact Out.bad
  ·exact Out.bad
 ·exact Out.bad
theorem out_oAssert (t : TypeId) (ok : Bool) (v : MV) : Out DN (oAssert P T t ok v) := by
 unfold oAssert
 split
 ·exact Out.bad
 ·exact Out.bad
 ·split
  ·exact Out.cond (Out.ret rfl) Out.bad
  ·exact Out.cond (Out.ask fun _ => Out.ret rfl) Out.bad
 ·exact Out.bad
 ·exact Out.bad
 ·exact Out.cond (Out.ask fun _ => Out.ret rfl) Out.bad
 ·exact Out.bad
theorem out_srcM (D : Dl → Prop) (es : Nat) (y : MV) (k : Bool → Nat → List MV → Ask (MV × Dl)) (h : ∀ fl n l, Out D (k fl n l)) : Out D (srcM M es y k) := by
 unfold srcM
 split
 ·exact Out.prf (h _ _ _)
 ·exact h _ _ _
 ·exact Out.cond (Out.val fun _ => Out.val fun _ => h _ _ _) Out.bad
 ·split
  ·exact Out.cond (Out.prf (Out.val fun _ => h _ _ _)) Out.bad
  ·exact Out.bad
 ·exact Out.bad
theorem out_oAppend (ats : List TypeId) (x y : MV) : Out (DW M) (oAppend P T M cnt ats x y) := by
 unfold oAppend
 split
 ·refine Out.cond ?_ Out.bad
  split
  ·split
   ·refine Out.cond (Out.ask fun _ => out_srcM M _ _ _ _ fun fl n l => ?_) Out.bad
    split
    ·exact Out.prf (Out.cond (Out.ret (.inl ⟨_, rfl⟩)) Out.bad)
    ·split
     ·rename_i b hb
      exact Out.cond (Out.prf (Out.val fun _ => Out.val fun _ => Out.ret (.inr (.inr ⟨_, _, rfl, by rw [hb]; simp⟩)))) Out.bad
     ·exact Out.bad
    ·exact Out.bad
   ·exact Out.bad
  ·exact Out.bad
 ·exact Out.bad
def DK (m : FM) : Nat → Dl → Prop
 | 0 => DN
 | 1 => DA
 | 2 => DR m
 | _ => DW m
theorem out_oClear (t : Option TypeId) (x : MV) : Out (DW M) (oClear T M t x) := by
 unfold oClear
 split
 ·split
  ·rename_i b z hb hz
   exact Out.cond (Out.prf (Out.val fun _ => Out.ret (.inr (.inl ⟨_, _, rfl, by rw [hb]; simp⟩)))) Out.bad
  ·exact Out.bad
 ·exact Out.bad
theorem out_eOp (o : Oper) : Out (DK M (kls o)) (eOp P T E M cnt o) := by
  obtain ⟨dst, op, ty, pos, after, guard⟩ := o
  cases op with
  | move x => exact Out.rd out_pureA
  | assign x => exact Out.rd out_pureA
  | pick c a b =>
    refine Out.rd fun c => Out.rd fun a => Out.rd fun b => ?_
    unfold oPick
    split
    · exact Out.br (Out.ret rfl) (Out.ret rfl)
    · exact Out.bad
  | alloc t =>
    show Out DA (oAlloc T cnt t)
    unfold oAlloc
    split
    · exact Out.cond (Out.ret ⟨_, rfl⟩) Out.bad
    · exact Out.bad
  | box t x =>
    refine Out.rd fun v => ?_
    unfold oBox
    split
    · exact Out.cond (Out.ret ⟨_, rfl⟩) Out.bad
    · exact Out.bad
  | build t parts => exact Out.rds fun _ => out_oBuild T _ _
  | buildSlice t n parts =>
    match n with
    | 0 => exact Out.rds fun _ => out_oBuildSlice T cnt _ _ _
    | 1 =>
      refine Out.rds fun _ => ?_
      split
      · exact out_oBuildRow T M cnt _ _ _ _ _
      · exact (out_oBuildSlice T cnt _ _ _).weak fun δ hδ => .inl hδ
    | _ + 2 => exact Out.rds fun _ => out_oBuildSlice T cnt _ _ _
  | load t x => exact Out.rd fun _ => (out_oLoad T M _ _).weak fun _ h => .inl h
  | store t x y => exact Out.rd fun _ => Out.rd fun _ => out_oStore T M _ _ _
  | nilCheck x =>
    refine Out.rd fun v => ?_
    unfold oNilCheck
    split <;> first | exact Out.ret rfl | exact Out.bad
  | binOp op t x y ty' => exact Out.rd fun _ => Out.rd fun _ => out_oBin P T _ _ _ _ _
  | unOp op t x => exact Out.rd fun _ => out_oUn _ _
  | convert s d x => exact Out.rd fun _ => (out_oConv T M _ _ _).weak fun _ h => .inl h
  | makeInterface t x =>
    refine Out.rd fun v => ?_
    unfold oIface
    split <;> first | exact Out.bad | exact Out.cond (Out.ret rfl) Out.bad
  | makeFunc fn first captured =>
    refine Out.rds fun v => ?_
    unfold oMkFunc
    split <;> first | exact Out.bad | exact Out.cond (Out.ret rfl) Out.bad
  | makeSlice t l c => exact Out.rd fun _ => Out.rd fun _ => out_oMakeSlice P T cnt _ _ _
  | slice t x lo hi mx =>
    cases mx with
    | none => exact Out.rd fun _ => Out.rdo fun _ => Out.rdo fun _ => out_oSliceA T M _ _ _ _
    | some _ => exact Out.bad
  | fieldAddr t x f => exact Out.rd fun _ => out_oFieldAddr T _ _ _
  | field t x f => exact Out.rd fun _ => out_oField T _ _ _
  | indexAddr t x ix => exact Out.rd fun _ => Out.rd fun _ => out_oIndexAddr T _ _ _
  | index t x ix => exact Out.rd fun _ => Out.rd fun _ => out_oIndex T _ _ _
  | extract x i =>
    refine Out.rd fun v => ?_
    unfold oExtract
    repeat' split
    all_goals first | exact Out.bad | exact Out.ret rfl
  | makeMap t r =>
    cases r with
    | none => exact Out.ret ⟨_, rfl⟩
    | some _ => exact Out.bad
  | mapUpdate t p k x => exact Out.rd fun _ => Out.rd fun _ => Out.rd fun _ => out_oMapUpd P T M _ _ _ _
  | insert t p k x => exact Out.rd fun _ => Out.rd fun _ => Out.rd fun _ => out_oMapUpd P T M _ _ _ _
  | lookup t p k ok => exact Out.rd fun _ => Out.rd fun _ => (out_oLookup P T M _ _ _ _).weak fun _ h => .inl h
  | typeAssert x xT t ok => exact Out.rd fun _ => out_oAssert P T _ _ _
  | range t x => exact Out.rd fun _ => out_oRange T cnt _ _
  | next x b => exact Out.rd fun _ => out_oNext M _ _
  | call c =>
    obtain ⟨callee, args, ats⟩ := c
    cases callee with
    | builtin b =>
      refine Out.rds fun vs => ?_
      cases b <;> first
        | exact Out.bad
        | (show Out DN _
           simp only [oBuiltin]
           split
           · unfold oLen
             repeat' split
             all_goals first | exact Out.bad | exact Out.ret rfl | exact Out.val fun _ => Out.ret rfl
           · exact Out.bad)
        | (show Out (DW M) _
           simp only [oBuiltin]
           split
           · exact out_oAppend P T M cnt _ _ _
           · exact Out.bad)
        | (show Out (DW M) _
           simp only [oBuiltin]
           split
           · exact out_oClear T M _ _
           · exact Out.bad)
        | (show Out DN _
           simp only [oBuiltin]
           split
           · exact Out.val fun _ => Out.ret rfl
           · exact Out.bad)
    | _ => exact Out.bad
  | _ => exact Out.bad
end
end
section
section
variable {P : Program} {T : Tab} {e e' : Nat → Option MV} {m m' : FM} {cnt : Nat} {A : Type}
def Ag (e e' : Nat → Option MV) (l : List Operand) : Prop := ∀ x ∈ l, evM e x = evM e' x
theorem rd_ag {x : Operand} {k : MV → Ask A} (h : evM e x = evM e' x) : rd e x k = rd e' x k := by unfold rd; rw [h]
theorem rds_ag : ∀ {l : List Operand} {k : List MV → Ask A}, Ag e e' l → rds e l k = rds e' l k
 | [], _, _ => rfl
 | x :: l, k, h => by
  show rd e x _ = rd e' x _
  rw [rd_ag (h x (by simp))]
  have : (fun m => rds e l fun r => k (m :: r)) = fun m => rds e' l fun r => k (m :: r) := funext fun m => rds_ag fun y hy => h y (by simp [hy])
  rw [this]
theorem rdo_ag {x : Option Operand} {k : Option MV → Ask A} (h : Ag e e' x.toList) : rdo e x k = rdo e' x k := by
 cases x with
 | none => rfl
 | some x => exact rd_ag (h x (by simp))
theorem evM_ag {x : Operand} (h : ∀ t, x = .tmp t → e t = e' t) : evM e x = evM e' x := by
 cases x with
 | tmp t => exact h t rfl
 | _ => rfl
theorem eOp_env {o : Oper} (h : Ag e e' o.op.operands.toList) : eOp P T e m cnt o = eOp P T e' m cnt o := by
 obtain ⟨dst, op, ty, pos, after, guard⟩ := o
 replace h : Ag e e' op.operands.toList := h
 cases op with
 | move x => exact rd_ag (h x (by simp [Op.operands]))
 | assign x => exact rd_ag (h x (by simp [Op.operands]))
 | pick c a b =>
  show rd e c _ = rd e' c _
  rw [rd_ag (h c (by simp [Op.operands]))]
  congr 1; funext c
  rw [rd_ag (h a (by simp [Op.operands]))]
  congr 1; funext a
  rw [rd_ag (h b (by simp [Op.operands]))]
 | alloc t => rfl
 | box t x => exact rd_ag (h x (by simp [Op.operands]))
 | build t parts => exact rds_ag fun x hx => h x (by simpa [Op.operands] using hx)
 | buildSlice t n parts => exact rds_ag fun x hx => h x (by simpa [Op.operands] using hx)
 | load t x => exact rd_ag (h x (by simp [Op.operands]))
 | store t x y =>
  show rd e x _ = rd e' x _
  rw [rd_ag (h x (by simp [Op.operands]))]
  congr 1; funext c
  rw [rd_ag (h y (by simp [Op.operands]))]
 | nilCheck x => exact rd_ag (h x (by simp [Op.operands]))
 | binOp op t x y ty' =>
  show rd e x _ = rd e' x _
  rw [rd_ag (h x (by simp [Op.operands]))]
  congr 1; funext c
  rw [rd_ag (h y (by simp [Op.operands]))]
 | unOp op t x => exact rd_ag (h x (by simp [Op.operands]))
 | convert s d x => exact rd_ag (h x (by simp [Op.operands]))
 | makeInterface t x => exact rd_ag (h x (by simp [Op.operands]))
 | makeFunc fn first captured => exact rds_ag fun x hx => h x (by simp [Op.operands]; exact .inr (by simpa using hx))
 | makeSlice t x y =>
  show rd e x _ = rd e' x _
  rw [rd_ag (h x (by simp [Op.operands]))]
  congr 1; funext c
  rw [rd_ag (h y (by simp [Op.operands]))]
 | slice t x lo hi mx =>
  cases mx with
  | none =>
   show rd e x _ = rd e' x _
   rw [rd_ag (h x (by simp [Op.operands]))]
   congr 1; funext c
   rw [rdo_ag fun y hy => h y (by simp [Op.operands]; simp at hy; simp [hy])]
   congr 1; funext c
   rw [rdo_ag fun y hy => h y (by simp [Op.operands]; simp at hy; simp [hy])]
  | some _ => rfl
 | fieldAddr t x f => exact rd_ag (h x (by simp [Op.operands]))
 | field t x f => exact rd_ag (h x (by simp [Op.operands]))
 | indexAddr t x y =>
  show rd e x _ = rd e' x _
  rw [rd_ag (h x (by simp [Op.operands]))]
  congr 1; funext c
  rw [rd_ag (h y (by simp [Op.operands]))]
 | index t x y =>
  show rd e x _ = rd e' x _
  rw [rd_ag (h x (by simp [Op.operands]))]
  congr 1; funext c
  rw [rd_ag (h y (by simp [Op.operands]))]
 | extract x i => exact rd_ag (h x (by simp [Op.operands]))
 | makeMap t r => rfl
 | mapUpdate t p k x =>
  show rd e p _ = rd e' p _
  rw [rd_ag (h p (by simp [Op.operands]))]
  congr 1; funext c
  rw [rd_ag (h k (by simp [Op.operands]))]
  congr 1; funext c
  rw [rd_ag (h x (by simp [Op.operands]))]
 | insert t p k x =>
  show rd e p _ = rd e' p _
  rw [rd_ag (h p (by simp [Op.operands]))]
  congr 1; funext c
  rw [rd_ag (h k (by simp [Op.operands]))]
  congr 1; funext c
  rw [rd_ag (h x (by simp [Op.operands]))]
 | lookup t p k ok =>
  show rd e p _ = rd e' p _
  rw [rd_ag (h p (by simp [Op.operands]))]
  congr 1; funext c
  rw [rd_ag (h k (by simp [Op.operands]))]
 | typeAssert x xT t ok => exact rd_ag (h x (by simp [Op.operands]))
 | range t x => exact rd_ag (h x (by simp [Op.operands]))
 | next x b => exact rd_ag (h x (by simp [Op.operands]))
 | call c =>
  obtain ⟨callee, args, ats⟩ := c
  cases callee with
  | builtin b => exact rds_ag fun x hx => h x (by simp [Op.operands, Call.operands]; simpa using hx)
  | _ => rfl
 | _ => rfl
theorem eOp_nomem {o : Oper} (h : Nat.ble (kls o) 1 = true) : eOp P T e m cnt o = eOp P T e m' cnt o := by
 obtain ⟨dst, op, ty, pos, after, guard⟩ := o
 cases op with
 | call c =>
  obtain ⟨callee, args, ats⟩ := c
  cases callee with
  | builtin b => cases b <;> first | rfl | (cases h; done)
  | _ => rfl
 | load t x => cases h
 | store t x y => cases h
 | convert s d x => cases h
 | slice t x lo hi mx => cases h
 | mapUpdate t p k x => cases h
 | insert t p k x => cases h
 | next x b => cases h
 | lookup t p k ok => cases h
 | buildSlice t n parts =>
  match n, h with
  | 0, _ => rfl
  | 1, h => cases h
  | _ + 2, _ => rfl
 | _ => rfl
theorem eOp_read {o : Oper} (h : kls o = 2) (hs : SameB m m') {K : MV × Dl → Prop} (hr : (eOp P T e m cnt o).runP K) : (eOp P T e m' cnt o).runP K := by
 have step : ∀ {x : Operand} {k k' : MV → Ask (MV × Dl)}, (∀ v, (k v).runP K → (k' v).runP K) → (rd e x k).runP K → (rd e x k').runP K := by
  intro x k k' hk h
  unfold rd at h ⊢
  split at h
  ·exact hk _ h
  ·exact h.elim
 obtain ⟨dst, op, ty, pos, after, guard⟩ := o
 cases op with
 | call c =>
  obtain ⟨callee, args, ats⟩ := c
  cases callee with
  | builtin b => cases b <;> cases h
  | _ => exact hr
 | load t x =>
  refine step (fun p hp => ?_) hr
  unfold oLoad at hp ⊢
  split at hp
  ·exact hp.elim
  ·split at hp
   ·split at hp
    ·rename_i b hb
     obtain ⟨b', h1, h2, h3, h4, h5⟩ := hs _ _ hb
     simp only [h1, h2, h4]
     exact hp
    ·exact hp.elim
   ·exact hp
   ·exact hp.elim
 | slice t x lo hi mx =>
  have stepo : ∀ {x : Option Operand} {k k' : Option MV → Ask (MV × Dl)}, (∀ v, (k v).runP K → (k' v).runP K) → (rdo e x k).runP K → (rdo e x k').runP K := by
   intro x k k' hk h
   cases x with
   | none => exact hk _ h
   | some x => exact step (fun v hv => hk _ hv) h
  cases mx with
  | some _ => exact hr
  | none =>
  refine step (fun p hp => stepo (fun lo hp => stepo (fun hi hp => ?_) hp) hp) hr
  unfold oSliceA at hp ⊢
  split at hp
  ·split at hp
   ·rename_i b hb
    obtain ⟨b', h1, h2, h3, h4, h5⟩ := hs _ _ hb
    obtain ⟨ty', es', row', pe', l'⟩ := b'
    simp only at h2 h3 h4 h5
    subst h2
    simp only [h1]
    exact hp
   ·exact hp.elim
  ·exact hp
 | lookup t p k ok =>
  refine step (fun p hp => step (fun q hp => ?_) hp) hr
  unfold oLookup at hp ⊢
  split at hp
  ·split at hp
   ·rename_i b hb
    obtain ⟨b', h1, h2, h3, h4, h5⟩ := hs _ _ hb
    simp only [h1, h2]
    exact hp
   ·exact hp.elim
  ·exact hp.elim
 | convert s d x =>
  refine step (fun p hp => ?_) hr
  unfold oConv at hp ⊢
  split at hp
  ·exact hp
  ·exact hp
  ·exact hp
  ·exact hp
  ·split at hp
   ·rename_i b ht hb
    obtain ⟨b', h1, h2, h3, h4, h5⟩ := hs _ _ hb
    obtain ⟨ty', es', row', pe', l'⟩ := b'
    simp only at h2 h3 h4 h5
    subst h2; subst h4
    simp only [ht, h1]
    exact hp
   ·exact hp.elim
  ·exact hp
  ·exact hp.elim
 | buildSlice t n parts =>
  match n, h with
  | 0, h => cases h
  | 1, h => cases h
  | _ + 2, h => cases h
 | _ => cases h
mutual
theorem frz_same (hs : SameB m m') : ∀ {p : MV} {K : MV × List (Nat × Nat) → Prop}, (frz m p).runP K → (frz m' p).runP fun x => K x ∧ ∀ c ∈ x.2, m c.1 ≠ none
 | .ms c es off n, K, h => by
  simp only [frz] at h ⊢
  split at h
  ·rename_i b hb
   obtain ⟨b', h1, h2, h3, h4, h5⟩ := hs _ _ hb
   obtain ⟨ty', es', row', pe', l'⟩ := b'
   simp only at h2 h3 h4 h5
   subst h2; subst h4; subst h3
   simp only [h1]
   split at h
   ·obtain ⟨a1, l, a2, h⟩ := h
    exact ⟨a1, l, a2, h, fun c hc => by simp at hc; subst hc; rw [hb]; simp⟩
   ·exact h.elim
  ·exact h.elim
 | .st l, K, h => by simp only [frz] at h ⊢; exact frzs_weak (frzs_same hs (Ask.bind_runP.1 h)) fun _ h => h
 | .fn f l, K, h => by simp only [frz] at h ⊢; exact frzs_weak (frzs_same hs (Ask.bind_runP.1 h)) fun _ h => h
 | .ifc t v, K, h => by simp only [frz] at h ⊢; exact frz_weak (frz_same hs (Ask.bind_runP.1 h)) fun _ h => h
 | .ptr c es k fo path, K, h => by
  simp only [frz] at h ⊢
  split at h
  ·rename_i b hb
   obtain ⟨b', h1, h2, h3, h4, h5⟩ := hs _ _ hb
   obtain ⟨ty', es', row', pe', l'⟩ := b'
   simp only at h2 h3 h4 h5
   subst h2; subst h4; subst h3
   simp only [h1]
   cases he : Nat.beq b.es es with
   | false => rw [he] at h; exact h.elim
   | true =>
    rw [he] at h
    obtain ⟨v, q1, h⟩ := h
    dsimp only at h
    cases hf : v.idFree with
    | false => rw [hf] at h; exact h.elim
    | true => rw [hf] at h; exact ⟨v, q1, by simp only [hf]; exact ⟨h, fun c hc => by simp at hc; subst hc; rw [hb]; simp⟩⟩
  ·exact h.elim
 | .tup _, K, h => by simp only [frz] at h; exact h.elim
 | .undef, K, h => by simp only [frz] at h; exact h.elim
 | .mp _, K, h => by simp only [frz] at h; exact h.elim
 | .mpv .., K, h => by simp only [frz] at h; exact h.elim
 | .int .., K, h => by simp only [frz] at h ⊢; exact ⟨h, fun _ hc => nomatch hc⟩
 | .bool .., K, h => by simp only [frz] at h ⊢; exact ⟨h, fun _ hc => nomatch hc⟩
 | .str .., K, h => by simp only [frz] at h ⊢; exact ⟨h, fun _ hc => nomatch hc⟩
 | .nilp, K, h => by simp only [frz] at h ⊢; exact ⟨h, fun _ hc => nomatch hc⟩
 | .gp .., K, h => by simp only [frz] at h ⊢; exact ⟨h, fun _ hc => nomatch hc⟩
 | .ep .., K, h => by simp only [frz] at h ⊢; exact ⟨h, fun _ hc => nomatch hc⟩
 | .sl .., K, h => by simp only [frz] at h ⊢; exact ⟨h, fun _ hc => nomatch hc⟩
 | .nils, K, h => by simp only [frz] at h ⊢; exact ⟨h, fun _ hc => nomatch hc⟩
 | .nilf, K, h => by simp only [frz] at h ⊢; exact ⟨h, fun _ hc => nomatch hc⟩
 | .nili, K, h => by simp only [frz] at h ⊢; exact ⟨h, fun _ hc => nomatch hc⟩
 | .arr .., K, h => by simp only [frz] at h ⊢; exact ⟨h, fun _ hc => nomatch hc⟩
theorem frzs_same (hs : SameB m m') : ∀ {l : List MV} {K : List MV × List (Nat × Nat) → Prop}, (frzs m l).runP K → (frzs m' l).runP fun x => K x ∧ ∀ c ∈ x.2, m c.1 ≠ none
 | [], K, h => ⟨h, fun _ hc => nomatch hc⟩
 | q :: l, K, h => by
  simp only [frzs] at h ⊢
  refine frz_weak (frz_same hs (Ask.bind_runP.1 h)) fun x hx => ?_
  refine frzs_weak (frzs_same hs (Ask.bind_runP.1 hx.1)) fun y hy => ⟨hy.1, fun c hc => ?_⟩
  rcases List.mem_append.1 hc with hc | hc
  ·exact hx.2 c hc
  ·exact hy.2 c hc
end
end
end
section
section
variable (Pg : Program) (T : Tab) (ents : List FuncId) (G : GS)
def vCallF (e : Nat → Option MV) (m : FM) (f : Operand) (args : List Operand) : Ask (FuncId × List MV × List (Nat × Nat)) :=
 rd e f fun fv => rds e args fun vs => match fv with
  | .fn f0 caps => (frzs m (vs ++ caps)).bind fun r => .ret (f0, r.1, r.2)
  | _ => .bad
def runF (o : Oper) (e : Nat → Option MV) (m : FM) (n : Nat) (r : MV) (δ : Dl) : Prop := match o.op with
 | .call c => match c.callee with
  | .value f => (vCallF e m f c.args.toList).runP fun x => ents.contains x.1 = true ∧ SemC Pg G x.1 x.2.1 r ∧ δ = .bump x.2.2 ∧ ∀ c ∈ x.2.2, m c.1 ≠ none
  | _ => (eOp Pg T e m n o).runP fun x => x = (r, δ)
 | _ => (eOp Pg T e m n o).runP fun x => x = (r, δ)
def gdF (ops : Array Oper) (o : Oper) (e : Nat → Option MV) : Option Bool := match o.guard with
 | none => some true
 | some (j, want) => match (ops[j]?).bind (·.dst) with
  | none => none
  | some s => match e s with
   | some (.bool t) => some (t == want)
   | some .undef => some false
   | _ => none
def actF (ops : Array Oper) (o : Oper) (e : Nat → Option MV) (m : FM) (n : Nat) (r : MV) (δ : Dl) : Prop :=
 ∃ b, gdF ops o e = some b ∧ (b = true → runF Pg T ents G o e m n r δ) ∧ (b = false → r = .undef ∧ δ = .none)
def putF (dst : Option Tmp) (r : MV) (e : Nat → Option MV) : Nat → Option MV := match dst with
 | none => e
 | some d => fput e d r
end
section
variable {Pg : Program} {T : Tab} {ents : List FuncId} {G : GS} {ops : Array Oper} {o : Oper} {e e' : Nat → Option MV} {m m' : FM} {n : Nat} {r : MV} {δ : Dl}
theorem vCallF_ag {f : Operand} {args : List Operand} (h1 : evM e f = evM e' f) (h2 : Ag e e' args) : vCallF e m f args = vCallF e' m f args := by
 unfold vCallF
 rw [rd_ag h1]
 congr 1; funext v
 rw [rds_ag h2]
theorem runF_env (h : Ag e e' o.op.operands.toList) : runF Pg T ents G o e m n r δ → runF Pg T ents G o e' m n r δ := by
 have hp : eOp Pg T e m n o = eOp Pg T e' m n o := eOp_env h
 unfold runF
 split
 ·rename_i c hc
  rw [hc] at h
  split
  ·rename_i f hf
   intro hr
   have := vCallF_ag (m := m) (args := c.args.toList) (h f (by simp [Op.operands, Call.operands, hf])) fun x hx => h x (by simp [Op.operands, Call.operands, hf]; exact .inr (by simpa using hx))
   rw [← this]; exact hr
  ·rw [hp]; exact id
 ·rw [hp]; exact id
theorem runF_nomem (h : Nat.ble (kls o) 1 = true) : runF Pg T ents G o e m n r δ → runF Pg T ents G o e m' n r δ := by
 have hp : eOp Pg T e m n o = eOp Pg T e m' n o := eOp_nomem h
 unfold runF
 split
 ·rename_i c hc
  split
  ·rename_i f hf
   simp [kls, hc, hf] at h
  ·rw [hp]; exact id
 ·rw [hp]; exact id
theorem runF_read (h : kls o = 2) (hs : SameB m m') : runF Pg T ents G o e m n r δ → runF Pg T ents G o e m' n r δ := by
 unfold runF
 split
 ·rename_i c hc
  split
  ·rename_i f hf
   intro hr
   unfold vCallF at hr ⊢
   unfold rd at hr ⊢
   split at hr
   ·rename_i v hv
    generalize c.args.toList = az at hr
    have key : ∀ (az : List Operand) (k k' : List MV → Ask (FuncId × List MV × List (Nat × Nat))) (K K' : FuncId × List MV × List (Nat × Nat) → Prop), (∀ vs, (k vs).runP K → (k' vs).runP K') → (rds e az k).runP K → (rds e az k').runP K' := by
     intro az
     induction az with
     | nil => intro k k' K K' hk h; exact hk _ h
     | cons x az ih =>
      intro k k' K K' hk h
      unfold rds rd at h ⊢
      split at h
      ·exact ih _ _ K K' (fun vs h => hk _ h) h
      ·exact h.elim
    refine key az _ _ _ _ (fun vs hk => ?_) hr
    split at hk
    ·refine frzs_weak (frzs_same hs (Ask.bind_runP.1 hk)) fun x hx => ?_
     obtain ⟨⟨h1, h2, h3, _⟩, h4⟩ := hx
     refine ⟨h1, h2, h3, fun c hc => ?_⟩
     cases hb : m c.1 with
     | none => exact absurd hb (h4 c hc)
     | some b =>
      obtain ⟨b', h5, _⟩ := hs _ _ hb
      rw [h5]; simp
    ·exact hk.elim
   ·exact hr.elim
  ·exact fun hr => eOp_read h hs hr
 ·exact fun hr => eOp_read h hs hr
def DL (m : FM) : Nat → Dl → Prop
 | 0, δ => δ = .none
 | 1, δ => δ = .none ∨ ∃ b, δ = .new b
 | 2, δ => δ = .none ∨ ∃ l, δ = .bump l ∧ ∀ c ∈ l, m c.1 ≠ none
 | _, _ => True
theorem runF_out (h : runF Pg T ents G o e m n r δ) : DL m (kls o) δ := by
 have hp : (eOp Pg T e m n o).runP (fun x => x = (r, δ)) → DL m (kls o) δ := by
  intro h
  obtain ⟨r', δ', h1, h2⟩ := out_eOp Pg T e m n o _ h
  injection h2 with h2 h3
  subst h3
  generalize kls o = k at h1
  match k, h1 with
  | 0, h1 => exact h1
  | 1, h1 => exact .inr h1
  | 2, h1 => exact h1
  | _ + 3, h1 => exact trivial
 unfold runF at h
 split at h
 ·rename_i c hc
  split at h
  ·rename_i f hf
   have hk : kls o = 2 := by simp [kls, hc, hf]
   rw [hk]
   unfold vCallF rd at h
   split at h
   ·have key : ∀ (az : List Operand) (k : List MV → Ask (FuncId × List MV × List (Nat × Nat))) (K : FuncId × List MV × List (Nat × Nat) → Prop), (rds e az k).runP K → ∃ vs, (k vs).runP K := by
     intro az
     induction az with
     | nil => intro k K h; exact ⟨_, h⟩
     | cons x az ih =>
      intro k K h
      unfold rds rd at h
      split at h
      ·obtain ⟨vs, h⟩ := ih _ K h; exact ⟨_, h⟩
      ·exact h.elim
    obtain ⟨vs, h⟩ := key _ _ _ h
    split at h
    ·obtain ⟨_, x, _, h⟩ := frzs_isVal (Ask.bind_runP.1 h)
     obtain ⟨h1, h2, h3, h4⟩ := h
     exact .inr ⟨_, h3, h4⟩
    ·exact h.elim
   ·exact h.elim
  ·exact hp h
 ·exact hp h
theorem actF_out (h : actF Pg T ents G ops o e m n r δ) : DL m (kls o) δ := by
 obtain ⟨b, h1, h2, h3⟩ := h
 cases b with
 | true => exact runF_out (h2 rfl)
 | false =>
  rw [(h3 rfl).2]
  generalize kls o = k
  match k with
  | 0 => exact rfl
  | 1 => exact .inl rfl
  | 2 => exact .inl rfl
  | _ + 3 => exact trivial
theorem actF_nomem (h : Nat.ble (kls o) 1 = true) : actF Pg T ents G ops o e m n r δ → actF Pg T ents G ops o e m' n r δ := by
 rintro ⟨b, h1, h2, h3⟩; exact ⟨b, h1, fun hb => runF_nomem h (h2 hb), h3⟩
theorem actF_read (h : kls o = 2) (hs : SameB m m') : actF Pg T ents G ops o e m n r δ → actF Pg T ents G ops o e m' n r δ := by
 rintro ⟨b, h1, h2, h3⟩; exact ⟨b, h1, fun hb => runF_read h hs (h2 hb), h3⟩
theorem actF_env (h : ∀ t ∈ o.looksAt ops, e t = e' t) : actF Pg T ents G ops o e m n r δ → actF Pg T ents G ops o e' m n r δ := by
 rintro ⟨b, h1, h2, h3⟩
 refine ⟨b, ?_, fun hb => runF_env (fun x hx => evM_ag fun t ht => h t ?_) (h2 hb), h3⟩
 ·rw [← h1]
  unfold gdF
  split
  ·rfl
  ·rename_i j want hg
   split
   ·rfl
   ·rename_i s hs
    rw [h s (by
     unfold Oper.looksAt
     rw [hg]
     simp [hs])]
 ·subst ht
  unfold Oper.looksAt
  refine List.mem_append.2 (.inl ?_)
  rw [List.mem_filterMap]
  exact ⟨_, hx, rfl⟩
end
end
section
mutual
def numsV : MV → List Nat
 | .ptr c _ _ _ _ => [c]
 | .ms c _ _ _ => [c]
 | .mp c => [c]
 | .st l => numsVs l
 | .fn _ l => numsVs l
 | .tup l => numsVs l
 | .ifc _ v => numsV v
 | _ => []
def numsVs : List MV → List Nat
 | [] => []
 | m :: l => numsV m ++ numsVs l
end
def numsO (e : Nat → Option MV) : List Operand → List Nat
 | [] => []
 | x :: l => (match evM e x with | some v => numsV v | none => []) ++ numsO e l
section
variable {P : Program} {T : Tab} {e : Nat → Option MV} {m m' : FM} {cnt : Nat} {A : Type}
theorem rd_loc {x : Operand} {k k' : MV → Ask A} (h : ∀ v, evM e x = some v → k' v = k v) : rd e x k' = rd e x k := by
 unfold rd
 cases hx : evM e x with
 | none => rfl
 | some v => exact h v hx
theorem rds_loc : ∀ {l : List Operand} {k k' : List MV → Ask A}, (∀ vs, l.map (evM e) = vs.map some → k' vs = k vs) → rds e l k' = rds e l k
 | [], _, _, h => h [] rfl
 | x :: l, k, k', h => by
  show rd e x _ = rd e x _
  exact rd_loc fun v hv => rds_loc fun vs hvs => h (v :: vs) (by simp [hv, hvs])
theorem numsO_eq : ∀ {l : List Operand} {vs : List MV}, l.map (evM e) = vs.map some → numsO e l = numsVs vs
 | [], [], _ => rfl
 | x :: l, v :: vs, h => by
  simp only [List.map_cons, List.cons.injEq] at h
  simp only [numsO, numsVs, h.1, numsO_eq h.2]
 | [], _ :: _, h => by simp at h
 | _ :: _, [], h => by simp at h
theorem numsVs_app : ∀ (l r : List MV), numsVs (l ++ r) = numsVs l ++ numsVs r
 | [], r => rfl
 | m :: l, r => by simp [numsVs, numsVs_app l r]
abbrev AgM (m' m : FM) (S : List Nat) : Prop := ∀ c ∈ S, m' c = m c
mutual
theorem frz_loc : ∀ {p : MV}, AgM m' m (numsV p) → frz m' p = frz m p
 | .ptr c es k fo path, h => by simp only [frz, h c (by simp [numsV])]
 | .ms c es off n, h => by simp only [frz, h c (by simp [numsV])]
 | .st l, h => by simp only [frz]; rw [frzs_loc (l := l) h]
 | .fn f l, h => by simp only [frz]; rw [frzs_loc (l := l) h]
 | .ifc t v, h => by simp only [frz]; rw [frz_loc (p := v) h]
 | .tup _, _ => rfl
 | .undef, _ => rfl
 | .mp _, _ => rfl
 | .mpv .., _ => rfl
 | .int .., _ => rfl
 | .bool .., _ => rfl
 | .str .., _ => rfl
 | .nilp, _ => rfl
 | .gp .., _ => rfl
 | .ep .., _ => rfl
 | .sl .., _ => rfl
 | .nils, _ => rfl
 | .nilf, _ => rfl
 | .nili, _ => rfl
 | .arr .., _ => rfl
theorem frzs_loc : ∀ {l : List MV}, AgM m' m (numsVs l) → frzs m' l = frzs m l
 | [], _ => rfl
 | q :: l, h => by
  simp only [frzs]
  rw [frz_loc (p := q) fun c hc => h c (by simp [numsVs, hc]), frzs_loc (l := l) fun c hc => h c (by simp [numsVs, hc])]
end
theorem oLoad_loc {t : TypeId} {p : MV} (h : AgM m' m (numsV p)) : oLoad T m' t p = oLoad T m t p := by
 unfold oLoad
 cases p with
 | ptr c es k fo path => simp only [h c (by simp [numsV])]
 | _ => rfl
theorem oStore_loc {t : TypeId} {p v : MV} (h : AgM m' m (numsV p)) : oStore T m' t p v = oStore T m t p v := by
 unfold oStore
 cases p with
 | ptr c es k fo path => simp only [h c (by simp [numsV])]
 | _ => rfl
theorem oSliceA_loc {t : TypeId} {p : MV} {lo hi : Option MV} (h : AgM m' m (numsV p)) : oSliceA T m' t p lo hi = oSliceA T m t p lo hi := by
 unfold oSliceA
 split
 ·have hh := h _ (List.mem_cons_self ..)
  simp only [hh]
 ·rfl
theorem oConv_loc {s d : TypeId} {p : MV} (h : AgM m' m (numsV p)) : oConv T m' s d p = oConv T m s d p := by
 unfold oConv
 split
 ·rfl
 ·rfl
 ·rfl
 ·rfl
 ·have hh := h _ (List.mem_cons_self ..)
  simp only [hh]
 ·rfl
 ·rfl
theorem srcM_loc {es : Nat} {y : MV} {k : Bool → Nat → List MV → Ask (MV × Dl)} (h : AgM m' m (numsV y)) : srcM m' es y k = srcM m es y k := by
 unfold srcM
 cases y with
 | ms c es off n => simp only [h c (by simp [numsV])]
 | _ => rfl
theorem oAppend_loc {ats : List TypeId} {x y : MV} (hx : AgM m' m (numsV x)) (hy : AgM m' m (numsV y)) : oAppend P T m' cnt ats x y = oAppend P T m cnt ats x y := by
 unfold oAppend
 have hs : ∀ es k, srcM m' es y k = srcM m es y k := fun es k => srcM_loc hy
 cases x with
 | ms c es off n => simp only [hs, hx c (by simp [numsV])]
 | _ => simp only [hs]
theorem oMapUpd_loc {t : TypeId} {p k x : MV} (h : AgM m' m (numsV p)) : oMapUpd P T m' t p k x = oMapUpd P T m t p k x := by
 unfold oMapUpd
 split
 ·have hh := h _ (List.mem_cons_self ..)
  simp only [hh]
 ·rfl
theorem oNext_loc {p : MV} {b : Bool} (h : AgM m' m (numsV p)) : oNext m' p b = oNext m p b := by
 unfold oNext
 split
 ·have hh := h _ (List.mem_cons_self ..)
  simp only [hh]
 ·rfl
theorem oLookup_loc {t : TypeId} {p k : MV} {ok : Bool} (h : AgM m' m (numsV p)) : oLookup P T m' t p k ok = oLookup P T m t p k ok := by
 unfold oLookup
 split
 ·have hh := h _ (List.mem_cons_self ..)
  simp only [hh]
 ·rfl
theorem oClear_loc {t : Option TypeId} {x : MV} (h : AgM m' m (numsV x)) : oClear T m' t x = oClear T m t x := by
 unfold oClear
 generalize t.bind (Tab.find T) = q
 cases q with
 | none => rfl
 | some d =>
  cases d with
  | slice e es =>
   cases x with
   | ms c es off n => simp only [h c (by simp [numsV])]
   | _ => rfl
  | _ => rfl
theorem oBuiltin_loc {b : Builtin} {ats : Array TypeId} {vs : List MV} (h : AgM m' m (numsVs vs)) : oBuiltin P T m' cnt b ats vs = oBuiltin P T m cnt b ats vs := by
 cases b with
 | append =>
  unfold oBuiltin
  match vs, h with
  | [x, y], h => exact oAppend_loc (fun c hc => h c (by simp [numsVs, hc])) fun c hc => h c (by simp [numsVs, hc])
  | [], _ => rfl
  | [_], _ => rfl
  | _ :: _ :: _ :: _, _ => rfl
 | clear =>
  unfold oBuiltin
  match vs, h with
  | [x], h => exact oClear_loc fun c hc => h c (by simp [numsVs, hc])
  | [], _ => rfl
  | _ :: _ :: _, _ => rfl
 | _ => rfl
theorem zip_nums {is : List Nat} {vs : List MV} {c es off k : Nat} (h : is.zip vs = [(0, .ms c es off k)]) : c ∈ numsVs vs := by
 cases is with
 | nil => simp at h
 | cons i is =>
  cases vs with
  | nil => simp at h
  | cons v vs =>
   rw [List.zip_cons_cons] at h
   injection h with h1 h2
   injection h1 with h1 h3
   subst h3
   simp [numsVs, numsV]
theorem eOp_loc {o : Oper} (h : AgM m' m (numsO e o.op.operands.toList)) : eOp P T e m' cnt o = eOp P T e m cnt o := by
 obtain ⟨dst, op, ty, pos, after, guard⟩ := o
 replace h : AgM m' m (numsO e op.operands.toList) := h
 cases op with
 | load t x =>
  refine rd_loc fun v hv => oLoad_loc fun c hc => h c ?_
  simp [Op.operands, numsO, hv, hc]
 | slice t x lo hi mx =>
  cases mx with
  | some _ => rfl
  | none =>
  refine rd_loc fun v hv => ?_
  have e1 : ∀ lo hi, oSliceA T m' t v lo hi = oSliceA T m t v lo hi := fun lo hi => oSliceA_loc fun c hc => h c (by simp [Op.operands, numsO, hv, hc])
  simp only [e1]
 | store t x y =>
  refine rd_loc fun v hv => rd_loc fun u _ => oStore_loc fun c hc => h c ?_
  simp [Op.operands, numsO, hv, hc]
 | mapUpdate t p k x =>
  refine rd_loc fun v hv => rd_loc fun u _ => rd_loc fun u2 _ => oMapUpd_loc fun c hc => h c ?_
  simp [Op.operands, numsO, hv, hc]
 | insert t p k x =>
  refine rd_loc fun v hv => rd_loc fun u _ => rd_loc fun u2 _ => oMapUpd_loc fun c hc => h c ?_
  simp [Op.operands, numsO, hv, hc]
 | next x b =>
  refine rd_loc fun v hv => oNext_loc fun c hc => h c ?_
  simp [Op.operands, numsO, hv, hc]
 | lookup t p k ok =>
  refine rd_loc fun v hv => rd_loc fun u _ => oLookup_loc fun c hc => h c ?_
  simp [Op.operands, numsO, hv, hc]
 | convert s d x =>
  refine rd_loc fun v hv => oConv_loc fun c hc => h c ?_
  simp [Op.operands, numsO, hv, hc]
 | buildSlice t n parts =>
  refine rds_loc fun vs hvs => ?_
  generalize hz : (parts.toList.map (·.1)).zip vs = zs
  have e : (Op.buildSlice t n parts).operands.toList = parts.toList.map (·.2) := by simp [Op.operands]
  rw [e, numsO_eq hvs] at h
  show (match rowPart n zs with | some x => _ | none => _) = (match rowPart n zs with | some x => _ | none => _)
  split
  ·rename_i x hx
   obtain ⟨rfl, rfl⟩ := rowPart_out hx
   have hc : x.1 ∈ numsVs vs := zip_nums hz
   unfold oBuildRow
   simp only [h _ hc]
  ·rfl
 | call c =>
  obtain ⟨callee, args, ats⟩ := c
  cases callee with
  | builtin b =>
   refine rds_loc fun vs hvs => oBuiltin_loc fun c hc => h c ?_
   have e : (Op.call ⟨.builtin b, args, ats⟩).operands.toList = args.toList := by simp [Op.operands, Call.operands]
   rw [e, numsO_eq hvs]
   exact hc
  | _ => rfl
 | _ => rfl
def FootD (S : List Nat) : Dl → Prop
 | .none => True
 | .new _ => True
 | .upd c _ => c ∈ S
 | .mv c _ => c ∈ S
 | .bump l => ∀ x ∈ l, x.1 ∈ S
theorem foot_oStore {t : TypeId} {p v : MV} : Out (FootD (numsV p)) (oStore T m t p v) := by
 unfold oStore
 split
 ·exact Out.bad
 ·split
  ·split
   ·exact Out.cond (Out.prf (Out.ask fun _ => Out.ask fun _ => Out.val fun _ => Out.ret (by simp [FootD, numsV]))) Out.bad
   ·exact Out.bad
  ·exact Out.bad
theorem foot_oMapUpd {t : TypeId} {p k x : MV} : Out (FootD (numsV p)) (oMapUpd P T m t p k x) := by
 unfold oMapUpd
 split
 ·split
  ·split
   ·refine Out.cond (Out.prf (Out.ask fun _ => Out.ask fun r => ?_)) Out.bad
    cases r <;> exact Out.val fun _ => Out.ret (by simp [FootD, numsV])
   ·exact Out.bad
  ·exact Out.bad
 ·exact Out.bad
theorem foot_oNext {p : MV} {b : Bool} : Out (FootD (numsV p)) (oNext m p b) := by
 unfold oNext
 split
 ·split
  ·split
   ·refine Out.ask fun _ => Out.val fun r => ?_
    rcases r with _ | ⟨_, _⟩
    ·exact Out.ret (by simp [FootD, numsV])
    ·exact Out.ret (by simp [FootD, numsV])
   ·exact Out.bad
  ·exact Out.bad
 ·exact Out.bad
theorem foot_oAppend {ats : List TypeId} {x y : MV} : Out (FootD (numsV x)) (oAppend P T m cnt ats x y) := by
 have src : ∀ {es : Nat} {k : Bool → Nat → List MV → Ask (MV × Dl)}, (∀ fl n l, Out (FootD (numsV x)) (k fl n l)) → Out (FootD (numsV x)) (srcM m es y k) := by
  intro es k hk
  unfold srcM
  split
  ·exact Out.prf (hk _ _ _)
  ·exact hk _ _ _
  ·exact Out.cond (Out.val fun _ => Out.val fun _ => hk _ _ _) Out.bad
  ·split
   ·exact Out.cond (Out.prf (Out.val fun _ => hk _ _ _)) Out.bad
   ·exact Out.bad
  ·exact Out.bad
 unfold oAppend
 split
 ·refine Out.cond ?_ Out.bad
  split
  ·split
   ·refine Out.cond (Out.ask fun _ => src fun fl n l => ?_) Out.bad
    split
    ·exact Out.prf (Out.cond (Out.ret trivial) Out.bad)
    ·split
     ·exact Out.cond (Out.prf (Out.val fun _ => Out.val fun _ => Out.ret (by simp [FootD, numsV]))) Out.bad
     ·exact Out.bad
    ·exact Out.bad
   ·exact Out.bad
  ·exact Out.bad
 ·exact Out.bad
theorem foot_oClear {t : Option TypeId} {x : MV} : Out (FootD (numsV x)) (oClear T m t x) := by
 unfold oClear
 split
 ·split
  ·exact Out.cond (Out.prf (Out.val fun _ => Out.ret (by simp [FootD, numsV]))) Out.bad
  ·exact Out.bad
 ·exact Out.bad
theorem FootD.sub {S S' : List Nat} {δ : Dl} (h : FootD S δ) (hs : ∀ c ∈ S, c ∈ S') : FootD S' δ := by
 cases δ with
 | none => trivial
 | new => trivial
 | upd c l => exact hs c h
 | mv c b => exact hs c h
 | bump l => exact fun x hx => hs _ (h x hx)
theorem rds_some : ∀ {l : List Operand} {k : List MV → Ask A} {K : A → Prop}, (rds e l k).runP K → ∃ vs, l.map (evM e) = vs.map some ∧ (k vs).runP K
 | [], _, _, h => ⟨[], rfl, h⟩
 | x :: l, k, K, h => by
  unfold rds rd at h
  split at h
  ·rename_i v hv
   obtain ⟨vs, h1, h2⟩ := rds_some (k := fun r => k (v :: r)) h
   exact ⟨v :: vs, by simp [hv, h1], h2⟩
  ·exact h.elim
theorem foot_eOp {o : Oper} {r : MV} {δ : Dl} (h : (eOp P T e m cnt o).runP fun x => x = (r, δ)) : FootD (numsO e o.op.operands.toList) δ := by
 have gen : Nat.ble (kls o) 1 = true → FootD (numsO e o.op.operands.toList) δ := by
  intro hk
  obtain ⟨r', δ', h1, h2⟩ := out_eOp P T e m cnt o _ h
  injection h2 with h2 h3
  subst h3
  generalize kls o = k at h1 hk
  match k, h1, hk with
  | 0, h1, _ => rw [show δ' = .none from h1]; trivial
  | 1, h1, _ => obtain ⟨b, h1⟩ := (show ∃ b, δ' = .new b from h1); rw [h1]; trivial
  | _ + 2, _, hk => simp at hk
 have fromRd : ∀ {x : Operand} {k : MV → Ask (MV × Dl)} {S : List Nat}, (∀ v, evM e x = some v → Out (FootD S) (k v)) → (rd e x k).runP (fun x => x = (r, δ)) → FootD S δ := by
  intro x k S hk h
  unfold rd at h
  split at h
  ·rename_i v hv
   obtain ⟨r', δ', h1, h2⟩ := hk v hv _ h
   injection h2 with h2 h3
   subst h3; exact h1
  ·exact h.elim
 obtain ⟨dst, op, ty, pos, after, guard⟩ := o
 cases op with
 | load t x =>
  refine fromRd (S := numsO e [x]) (fun v hv => (out_oLoad T m _ _).weak fun δ hδ => ?_) h
  rw [hδ]; trivial
 | convert s d x =>
  refine fromRd (S := numsO e [x]) (fun v hv => (out_oConv T m _ _ _).weak fun δ hδ => ?_) h
  rw [hδ]; trivial
 | lookup t p k ok =>
  refine fromRd (S := numsO e [p, k]) (fun v hv => Out.rd fun _ => (out_oLookup P T m _ _ _ _).weak fun δ hδ => ?_) h
  rw [hδ]; trivial
 | next x b =>
  refine fromRd (S := numsO e [x]) (fun v hv => ?_) h
  intro K hK
  obtain ⟨r', δ', h1, h2⟩ := foot_oNext K hK
  exact ⟨r', δ', h1.sub fun c hc => by simp [numsO, hv, hc], h2⟩
 | mapUpdate t p k x =>
  refine fromRd (S := numsO e [p, k, x]) (fun v hv => ?_) h
  refine Out.rd fun u => Out.rd fun u2 => ?_
  intro K hK
  obtain ⟨r', δ', h1, h2⟩ := foot_oMapUpd K hK
  exact ⟨r', δ', h1.sub fun c hc => by simp [numsO, hv, hc], h2⟩
 | insert t p k x =>
  refine fromRd (S := numsO e [p, k, x]) (fun v hv => ?_) h
  refine Out.rd fun u => Out.rd fun u2 => ?_
  intro K hK
  obtain ⟨r', δ', h1, h2⟩ := foot_oMapUpd K hK
  exact ⟨r', δ', h1.sub fun c hc => by simp [numsO, hv, hc], h2⟩
 | slice t x lo hi mx =>
  cases mx with
  | some _ => exact h.elim
  | none =>
  refine fromRd (fun v hv => Out.rdo fun lo' => Out.rdo fun hi' => ?_) h
  unfold oSliceA
  split
  ·rename_i n e0 es c k0 k fo path hd
   split
   ·split
    ·exact Out.cond (Out.ask fun _ => Out.val fun _ => Out.val fun _ => Out.ret fun y hy => by
      simp at hy
      subst hy
      simp [Op.operands, numsO, hv, numsV]) Out.bad
    ·exact Out.bad
   ·exact Out.bad
  ·exact (out_oSlice T _ _ _ _).weak fun δ hδ => by rw [hδ]; trivial
 | buildSlice t n parts =>
  match n, gen, h with
  | 0, gen, _ => exact gen rfl
  | _ + 2, gen, _ => exact gen rfl
  | 1, _, h =>
   obtain ⟨vs, h1, h2⟩ := rds_some h
   generalize hz : (parts.toList.map (·.1)).zip vs = zs at h2
   have e1 : (Op.buildSlice t 1 parts).operands.toList = parts.toList.map (·.2) := by simp [Op.operands]
   show FootD (numsO e (Op.buildSlice t 1 parts).operands.toList) δ
   rw [e1, numsO_eq h1]
   split at h2
   ·rename_i x hx
    obtain ⟨_, rfl⟩ := rowPart_out hx
    have hc : x.1 ∈ numsVs vs := zip_nums hz
    have ho : Out (FootD (numsVs vs)) (oBuildRow T m cnt t x.1 x.2.1 x.2.2.1 x.2.2.2) := by
     unfold oBuildRow
     repeat' split
     all_goals first | exact Out.bad | exact Out.cond (Out.prf (Out.val fun _ => Out.ret hc)) Out.bad
    obtain ⟨r', δ', h3, h4⟩ := ho _ h2
    injection h4 with h4 h5
    subst h5
    exact h3
   ·obtain ⟨r', δ', ⟨b, h3⟩, h4⟩ := out_oBuildSlice T cnt _ _ _ _ h2
    injection h4 with h4 h5
    subst h5
    rw [h3]; trivial
 | store t x y =>
  refine fromRd (S := numsO e [x, y]) (fun v hv => ?_) h
  refine Out.rd fun u => ?_
  intro K hK
  obtain ⟨r', δ', h1, h2⟩ := foot_oStore K hK
  exact ⟨r', δ', h1.sub fun c hc => by simp [numsO, hv, hc], h2⟩
 | call c =>
  obtain ⟨callee, args, ats⟩ := c
  cases callee with
  | builtin b =>
   cases b with
   | append =>
    have e1 : (Op.call ⟨.builtin .append, args, ats⟩).operands.toList = args.toList := by simp [Op.operands, Call.operands]
    show FootD (numsO e (Op.call ⟨.builtin .append, args, ats⟩).operands.toList) δ
    rw [e1]
    replace h : (rds e args.toList fun vs => oBuiltin P T m cnt .append ats vs).runP fun x => x = (r, δ) := h
    have key : ∀ (l : List Operand) (k : List MV → Ask (MV × Dl)) (K : MV × Dl → Prop), (rds e l k).runP K → ∃ vs, l.map (evM e) = vs.map some ∧ (k vs).runP K := by
     intro l
     induction l with
     | nil => intro k K h; exact ⟨[], rfl, h⟩
     | cons x l ih =>
      intro k K h
      unfold rds rd at h
      split at h
      ·rename_i v hv
       obtain ⟨vs, h1, h2⟩ := ih _ K h
       exact ⟨v :: vs, by simp [hv, h1], h2⟩
      ·exact h.elim
    obtain ⟨vs, h1, h2⟩ := key _ _ _ h
    rw [numsO_eq h1]
    unfold oBuiltin at h2
    simp only at h2
    split at h2
    ·rename_i x y
     obtain ⟨r', δ', h3, h4⟩ := foot_oAppend _ h2
     injection h4 with h4 h5
     subst h5
     exact h3.sub fun c hc => by simp [numsVs, hc]
    ·exact h2.elim
   | clear =>
    have e1 : (Op.call ⟨.builtin .clear, args, ats⟩).operands.toList = args.toList := by simp [Op.operands, Call.operands]
    show FootD (numsO e (Op.call ⟨.builtin .clear, args, ats⟩).operands.toList) δ
    rw [e1]
    replace h : (rds e args.toList fun vs => oBuiltin P T m cnt .clear ats vs).runP fun x => x = (r, δ) := h
    have key : ∀ (l : List Operand) (k : List MV → Ask (MV × Dl)) (K : MV × Dl → Prop), (rds e l k).runP K → ∃ vs, l.map (evM e) = vs.map some ∧ (k vs).runP K := by
     intro l
     induction l with
     | nil => intro k K h; exact ⟨[], rfl, h⟩
     | cons x l ih =>
      intro k K h
      unfold rds rd at h
      split at h
      ·rename_i v hv
       obtain ⟨vs, h1, h2⟩ := ih _ K h
       exact ⟨v :: vs, by simp [hv, h1], h2⟩
      ·exact h.elim
    obtain ⟨vs, h1, h2⟩ := key _ _ _ h
    rw [numsO_eq h1]
    unfold oBuiltin at h2
    simp only at h2
    split at h2
    ·rename_i x
     obtain ⟨r', δ', h3, h4⟩ := foot_oClear _ h2
     injection h4 with h4 h5
     subst h5
     exact h3.sub fun c hc => by simp [numsVs, hc]
    ·exact h2.elim
   | _ => exact gen rfl
  | _ => exact h.elim
 | _ => exact gen rfl
theorem appF_out {S : List Nat} {δ : Dl} (h : FootD S δ) {c : Nat} (hc : c ∉ S) (hn : c ≠ cnt) : δ.appF cnt m c = m c := by
 cases δ with
 | none => rfl
 | new b => exact fput_ne _ _ hn
 | upd c' l =>
  show (match m c' with | some b => fput m c' { b with l := l } | none => m) c = m c
  cases m c' with
  | none => rfl
  | some b => exact fput_ne _ _ (by rintro rfl; exact hc h)
 | mv c' b =>
  show fput (fdel m c') cnt b c = m c
  rw [fput_ne _ _ hn]
  unfold fdel
  rw [if_neg (by rintro rfl; exact hc h)]
 | bump l =>
  show bumpF m l c = m c
  rw [bumpF_get]
  have h' : ∀ x ∈ l, x.1 ∈ S := h
  clear h
  have : mxB l c = 0 := by
   induction l with
   | nil => rfl
   | cons x l ih =>
    obtain ⟨k, n⟩ := x
    have : k ≠ c := by rintro rfl; exact hc (h' (k, n) (by simp))
    simp only [mxB, this, if_false]
    exact ih fun y hy => h' y (by simp [hy])
  rw [this]
  cases m c with
  | none => rfl
  | some b => simp
theorem appF_in {S : List Nat} {δ : Dl} (h : FootD S δ) (ha : ∀ c, c ∈ S ∨ c = cnt → m' c = m c) {c : Nat} (hc : c ∈ S ∨ c = cnt) : δ.appF cnt m' c = δ.appF cnt m c := by
 cases δ with
 | none => exact ha c hc
 | new b =>
  show fput m' cnt b c = fput m cnt b c
  unfold fput
  split
  ·rfl
  ·exact ha c hc
 | upd c' l =>
  show (match m' c' with | some b => fput m' c' { b with l := l } | none => m') c = (match m c' with | some b => fput m c' { b with l := l } | none => m) c
  rw [ha c' (.inl h)]
  cases m c' with
  | none => exact ha c hc
  | some b =>
   show fput m' c' _ c = fput m c' _ c
   unfold fput
   split
   ·rfl
   ·exact ha c hc
 | mv c' b =>
  show fput (fdel m' c') cnt b c = fput (fdel m c') cnt b c
  unfold fput fdel
  split
  ·rfl
  ·split
   ·rfl
   ·exact ha c hc
 | bump l =>
  show bumpF m' l c = bumpF m l c
  rw [bumpF_get, bumpF_get, ha c hc]
mutual
theorem foot_frz : ∀ {p : MV} {K : MV × List (Nat × Nat) → Prop}, (frz m p).runP K → (frz m p).runP fun x => K x ∧ ∀ z ∈ x.2, z.1 ∈ numsV p
 | .ms c es off n, K, h => by
  simp only [frz] at h ⊢
  split at h
  ·split at h
   ·obtain ⟨a1, l, a2, h⟩ := h
    exact ⟨a1, l, a2, h, fun z hz => by simp at hz; subst hz; simp [numsV]⟩
   ·exact h.elim
  ·exact h.elim
 | .st l, K, h => by simp only [frz] at h ⊢; exact frzs_weak (foot_frzs (Ask.bind_runP.1 h)) fun _ h => h
 | .fn f l, K, h => by simp only [frz] at h ⊢; exact frzs_weak (foot_frzs (Ask.bind_runP.1 h)) fun _ h => h
 | .ifc t v, K, h => by simp only [frz] at h ⊢; exact frz_weak (foot_frz (Ask.bind_runP.1 h)) fun _ h => h
 | .ptr c es k fo path, K, h => by
  simp only [frz] at h ⊢
  split at h
  ·rename_i b hb
   cases he : Nat.beq b.es es with
   | false => rw [he] at h; exact h.elim
   | true =>
    rw [he] at h
    obtain ⟨v, q1, h⟩ := h
    dsimp only at h
    cases hf : v.idFree with
    | false => rw [hf] at h; exact h.elim
    | true => rw [hf] at h; exact ⟨v, q1, by simp only [hf]; exact ⟨h, fun z hz => by simp at hz; subst hz; simp [numsV]⟩⟩
  ·exact h.elim
 | .tup _, K, h => by simp only [frz] at h; exact h.elim
 | .undef, K, h => by simp only [frz] at h; exact h.elim
 | .mp _, K, h => by simp only [frz] at h; exact h.elim
 | .mpv .., K, h => by simp only [frz] at h; exact h.elim
 | .int .., K, h => by simp only [frz] at h ⊢; exact ⟨h, fun _ hc => nomatch hc⟩
 | .bool .., K, h => by simp only [frz] at h ⊢; exact ⟨h, fun _ hc => nomatch hc⟩
 | .str .., K, h => by simp only [frz] at h ⊢; exact ⟨h, fun _ hc => nomatch hc⟩
 | .nilp, K, h => by simp only [frz] at h ⊢; exact ⟨h, fun _ hc => nomatch hc⟩
 | .gp .., K, h => by simp only [frz] at h ⊢; exact ⟨h, fun _ hc => nomatch hc⟩
 | .ep .., K, h => by simp only [frz] at h ⊢; exact ⟨h, fun _ hc => nomatch hc⟩
 | .sl .., K, h => by simp only [frz] at h ⊢; exact ⟨h, fun _ hc => nomatch hc⟩
 | .nils, K, h => by simp only [frz] at h ⊢; exact ⟨h, fun _ hc => nomatch hc⟩
 | .nilf, K, h => by simp only [frz] at h ⊢; exact ⟨h, fun _ hc => nomatch hc⟩
 | .nili, K, h => by simp only [frz] at h ⊢; exact ⟨h, fun _ hc => nomatch hc⟩
 | .arr .., K, h => by simp only [frz] at h ⊢; exact ⟨h, fun _ hc => nomatch hc⟩
theorem foot_frzs : ∀ {l : List MV} {K : List MV × List (Nat × Nat) → Prop}, (frzs m l).runP K → (frzs m l).runP fun x => K x ∧ ∀ z ∈ x.2, z.1 ∈ numsVs l
 | [], K, h => ⟨h, fun _ hc => nomatch hc⟩
 | q :: l, K, h => by
  simp only [frzs] at h ⊢
  refine frz_weak (foot_frz (Ask.bind_runP.1 h)) fun x hx => ?_
  refine frzs_weak (foot_frzs (Ask.bind_runP.1 hx.1)) fun y hy => ⟨hy.1, fun c hc => ?_⟩
  rw [numsVs, List.mem_append]
  rcases List.mem_append.1 hc with hc | hc
  ·exact .inl (hx.2 c hc)
  ·exact .inr (hy.2 c hc)
end
theorem rds_mono {B : Type} : ∀ {l : List Operand} {k : List MV → Ask A} {k' : List MV → Ask B} {K : A → Prop} {K' : B → Prop}, (∀ vs, l.map (evM e) = vs.map some → (k vs).runP K → (k' vs).runP K') → (rds e l k).runP K → (rds e l k').runP K'
 | [], _, _, _, _, hk, h => hk [] rfl h
 | x :: l, k, k', K, K', hk, h => by
  unfold rds rd at h ⊢
  split at h
  ·rename_i v hv
   exact rds_mono (k := fun r => k (v :: r)) (k' := fun r => k' (v :: r)) (fun vs hvs h => hk (v :: vs) (by simp [hv, hvs]) h) h
  ·exact h.elim
section
variable {ents : List FuncId} {G : GS} {ops : Array Oper} {o : Oper} {n : Nat} {r : MV} {δ : Dl} {m1 : FM}
theorem call_ops {c : Call} {f : Operand} (hf : c.callee = .value f) : (Op.call c).operands.toList = f :: c.args.toList := by simp [Op.operands, Call.operands, hf]
theorem foot_runF (h : runF P T ents G o e m n r δ) : FootD (numsO e o.op.operands.toList) δ := by
 unfold runF at h
 split at h
 ·rename_i c hc
  split at h
  ·rename_i f hf
   rw [hc, call_ops hf]
   unfold vCallF rd at h
   split at h
   ·rename_i v hv
    obtain ⟨vs, h1, h2⟩ := rds_some h
    split at h2
    ·obtain ⟨_, x, _, h4, h3⟩ := frzs_isVal (foot_frzs (Ask.bind_runP.1 h2))
     obtain ⟨_, _, rfl, _⟩ := h4
     intro z hz
     have := h3 z hz
     rw [numsVs_app] at this
     simp only [numsO, hv, numsV, numsO_eq h1, List.mem_append] at this ⊢
     exact this.symm
    ·exact h2.elim
   ·exact h.elim
  ·exact foot_eOp h
 ·exact foot_eOp h
theorem foot_actF (h : actF P T ents G ops o e m n r δ) : FootD (numsO e o.op.operands.toList) δ := by
 obtain ⟨b, _, h2, h3⟩ := h
 cases b with
 | false => rw [(h3 rfl).2]; trivial
 | true => exact foot_runF (h2 rfl)
theorem runF_loc (ha : AgM m1 m (numsO e o.op.operands.toList)) : runF P T ents G o e m n r δ → runF P T ents G o e m1 n r δ := by
 have hp : eOp P T e m1 n o = eOp P T e m n o := eOp_loc ha
 unfold runF
 split
 ·rename_i c hc
  split
  ·rename_i f hf
   rw [hc, call_ops hf] at ha
   intro hr
   unfold vCallF rd at hr ⊢
   split at hr
   ·rename_i v hv
    refine rds_mono (fun vs hvs h => ?_) hr
    split at h
    ·rename_i f0 caps
     have hag : AgM m1 m (numsVs (vs ++ caps)) := fun c hc => ha c (by
      rw [numsVs_app] at hc
      simp only [numsO, hv, numsV, numsO_eq hvs, List.mem_append] at hc ⊢
      exact hc.symm)
     show (frzs m1 (vs ++ caps)).runP _
     rw [frzs_loc hag]
     refine frzs_weak (foot_frzs (Ask.bind_runP.1 h)) fun x hx => ?_
     obtain ⟨⟨p1, p2, p3, p4⟩, p5⟩ := hx
     exact ⟨p1, p2, p3, fun z hz => by rw [hag z.1 (p5 z hz)]; exact p4 z hz⟩
    ·exact h.elim
   ·exact hr.elim
  ·rw [hp]; exact id
 ·rw [hp]; exact id
theorem actF_loc (ha : AgM m1 m (numsO e o.op.operands.toList)) : actF P T ents G ops o e m n r δ → actF P T ents G ops o e m1 n r δ := by
 rintro ⟨b, h1, h2, h3⟩; exact ⟨b, h1, fun hb => runF_loc ha (h2 hb), h3⟩
end
end
end
section
theorem bumpF_comm (m : FM) (l l' : List (Nat × Nat)) : bumpF (bumpF m l) l' = bumpF (bumpF m l') l := by
 funext c
 rw [bumpF_get, bumpF_get, bumpF_get, bumpF_get]
 cases m c with
 | none => rfl
 | some b => simp [Nat.max_assoc, Nat.max_comm (mxB l c)]
theorem sameB_bump (m : FM) (l : List (Nat × Nat)) : SameB m (bumpF m l) := fun c b h => ⟨{ b with pe := Nat.max b.pe (mxB l c) }, by rw [bumpF_get, h]; rfl, rfl, rfl, rfl, rfl⟩
theorem sameB_back (m : FM) (l : List (Nat × Nat)) : SameB (bumpF m l) m := fun c b h => by
 rw [bumpF_get] at h
 cases hb : m c with
 | none => rw [hb] at h; cases h
 | some b' => rw [hb] at h; injection h with h; subst h; exact ⟨b', rfl, rfl, rfl, rfl, rfl⟩
theorem sameB_new {m : FM} {j : Nat} (h : m j = none) (b : MB) : SameB m (fput m j b) := fun c b' hb => by
 have : fput m j b c = some b' := by
  unfold fput
  rw [if_neg]
  ·exact hb
  ·rintro rfl
   rw [h] at hb
   cases hb
 exact ⟨b', this, rfl, rfl, rfl, rfl⟩
theorem bumpF_new {m : FM} {j : Nat} {b : MB} {l : List (Nat × Nat)} (h : m j = none) (hl : ∀ c ∈ l, m c.1 ≠ none) : bumpF (fput m j b) l = fput (bumpF m l) j b := by
 have h0 : ∀ {l : List (Nat × Nat)}, (∀ c ∈ l, m c.1 ≠ none) → mxB l j = 0 := by
  intro l
  induction l with
  | nil => intro _; rfl
  | cons x l ih =>
   intro hl
   obtain ⟨k, n⟩ := x
   have : k ≠ j := by rintro rfl; exact hl (k, n) (by simp) h
   simp only [mxB, this, if_false]
   exact ih fun c hc => hl c (by simp [hc])
 funext c
 rw [bumpF_get]
 unfold fput
 by_cases hc : c = j
 ·subst hc; simp [h0 hl]
 ·simp only [hc, if_false]; rw [bumpF_get]
theorem fput_comm {α : Type} {m : Nat → Option α} {i j : Nat} {a b : α} (h : i ≠ j) : fput (fput m i a) j b = fput (fput m j b) i a := by
 funext c
 unfold fput
 by_cases h1 : c = i
 ·subst h1; simp [h]
 ·simp [h1]
section
variable (Pg : Program) (T : Tab) (N : Nat) (ents : List FuncId) (G : GS)
def vArgsF (e : Nat → Option MV) (f : Operand) (args : List Operand) : Ask (FuncId × List MV) :=
 rd e f fun fv => rds e args fun vs => match fv with
  | .fn f0 caps => .ret (f0, vs ++ caps)
  | _ => .bad
def refF (o : Oper) (n : Nat) (e : Nat → Option MV) (m : FM) (fp : List Nat) (r : MV) (m' : FM) : Prop := match o.op with
 | .call c => match c.callee with
  | .value f => (vArgsF e f c.args.toList).runP fun x => ents.contains x.1 = true ∧ ∃ M, VM.get M = m ∧ vCallZ Pg G M n x.1 x.2 fp fun r' M' => r' = r ∧ VM.get M' = m'
  | _ => False
 | _ => False
def actR (ops : Array Oper) (o : Oper) (n : Nat) (e : Nat → Option MV) (m : FM) (fp : List Nat) (r : MV) (m' : FM) : Prop :=
 ∃ b, gdF ops o e = some b ∧ (b = true → refF Pg ents G o n e m fp r m') ∧ (b = false → r = .undef ∧ m' = m)
def stepF (ops : Array Oper) (rf : Bool) (o : Oper) (n : Nat) (fp : List Nat) (e : Nat → Option MV) (m : FM) (e' : Nat → Option MV) (m' : FM) : Prop :=
 ∃ r, (∀ d, o.dst = some d → d < N) ∧ e' = putF o.dst r e ∧ match rf with
  | false => ∃ δ, actF Pg T ents G ops o e m n r δ ∧ m' = δ.appF n m ∧ fp = numsO e o.op.operands.toList
  | true => actR Pg ents G ops o n e m fp r m'
end
section
variable {Pg : Program} {T : Tab} {N : Nat} {ents : List FuncId} {G : GS} {ops : Array Oper} {o x y : Oper} {e e1 e2 e' : Nat → Option MV} {m m1 m2 m' : FM} {M M2 : VM} {i j n : Nat} {fp fx fy : List Nat} {rf rx ry : Bool} {r : MV}
theorem putF_ne {d : Option Tmp} {r : MV} {e : Nat → Option MV} {l : List Tmp} (h : ∀ t, d = some t → t ∉ l) : ∀ t ∈ l, putF d r e t = e t := by
 intro t ht
 cases d with
 | none => rfl
 | some d =>
  show fput e d r t = e t
  unfold fput
  rw [if_neg]
  rintro rfl
  exact h _ rfl ht
theorem putF_comm {d d' : Option Tmp} {r r' : MV} (h : ∀ t, d = some t → d' ≠ some t) : putF d r (putF d' r' e) = putF d' r' (putF d r e) := by
 cases d with
 | none => rfl
 | some d =>
  cases d' with
  | none => rfl
  | some d' => exact fput_comm fun hh => h d rfl (by rw [hh])
theorem evM_looks {t : Operand} (h : ∀ t ∈ o.looksAt ops, e t = e' t) (ht : t ∈ o.op.operands.toList) : evM e t = evM e' t := evM_ag fun s hs => h s (by
 subst hs
 unfold Oper.looksAt
 refine List.mem_append.2 (.inl ?_)
 rw [List.mem_filterMap]
 exact ⟨_, ht, rfl⟩)
theorem numsO_ag (h : ∀ t ∈ o.looksAt ops, e t = e' t) : numsO e o.op.operands.toList = numsO e' o.op.operands.toList := by
 have key : ∀ l : List Operand, (∀ x ∈ l, evM e x = evM e' x) → numsO e l = numsO e' l := by
  intro l
  induction l with
  | nil => intro _; rfl
  | cons x l ih => intro h; simp only [numsO]; rw [h x (by simp), ih fun y hy => h y (by simp [hy])]
 exact key _ fun x hx => evM_looks h hx
theorem gdF_ag (h : ∀ t ∈ o.looksAt ops, e t = e' t) : gdF ops o e = gdF ops o e' := by
 unfold gdF
 split
 ·rfl
 ·rename_i j want hg
  split
  ·rfl
  ·rename_i s hs
   rw [h s (by
    unfold Oper.looksAt
    rw [hg]
    simp [hs])]
theorem refF_ag (h : ∀ t ∈ o.looksAt ops, e t = e' t) : refF Pg ents G o n e m fp r m' → refF Pg ents G o n e' m fp r m' := by
 have hh : ∀ x ∈ o.op.operands.toList, evM e x = evM e' x := fun x hx => evM_looks h hx
 unfold refF
 split
 ·rename_i c hc
  split
  ·rename_i f hf
   rw [hc, call_ops hf] at hh
   have : vArgsF e f c.args.toList = vArgsF e' f c.args.toList := by
    unfold vArgsF
    rw [rd_ag (hh f (by simp))]
    congr 1; funext v
    rw [rds_ag fun x hx => hh x (by simp [hx])]
   rw [this]; exact id
  ·exact id
 ·exact id
theorem actR_ag (h : ∀ t ∈ o.looksAt ops, e t = e' t) : actR Pg ents G ops o n e m fp r m' → actR Pg ents G ops o n e' m fp r m' := by
 rintro ⟨b, h1, h2, h3⟩; exact ⟨b, by rw [← gdF_ag h]; exact h1, fun hb => refF_ag h (h2 hb), h3⟩
theorem subN_out {l S : List Nat} (h : subN l S = true) : ∀ c ∈ l, c ∈ S := by
 intro c hc
 unfold subN at h
 rw [List.all_eq_true] at h
 obtain ⟨x, hx, he⟩ := List.any_eq_true.1 (h c hc)
 rw [← Nat.eq_of_beq_eq_true he]; exact hx
theorem get_delM_eq : ∀ (σ : List (Nat × Nat)) (M : VM) (x : Nat), x ∉ σ.map (·.2) → VM.get (delM M σ) x = VM.get M x
 | [], M, x, _ => rfl
 | (c, d) :: σ, M, x, h => by
  simp only [List.map_cons, List.mem_cons, not_or] at h
  show VM.get (delM (VM.del M d) σ) x = _
  rw [get_delM_eq σ _ x h.2, VM.get_del]
  unfold fdel
  rw [if_neg h.1]
theorem get_delM_in : ∀ (σ : List (Nat × Nat)) (M : VM) (x : Nat), x ∈ σ.map (·.2) → VM.get (delM M σ) x = none := by
 intro σ M x h
 cases hx : VM.get (delM M σ) x with
 | none => rfl
 | some b =>
  obtain ⟨_, h2⟩ := get_delM σ M x b hx
  obtain ⟨⟨c, d⟩, h3, rfl⟩ := List.mem_map.1 h
  exact absurd h3 (h2 c)
theorem bump_same {bs : List (Nat × Nat)} {c : Nat} (h : c ∉ bs.map (·.1)) : VM.get (VM.bump M bs) c = VM.get M c := by
 rw [VM.get_bump, bumpF_get]
 have : mxB bs c = 0 := by
  induction bs with
  | nil => rfl
  | cons x l ih =>
   obtain ⟨k, n⟩ := x
   simp only [List.map_cons, List.mem_cons, not_or] at h
   simp only [mxB]
   rw [if_neg fun hh => h.1 (Eq.symm hh)]
   exact ih h.2
 rw [this]
 cases VM.get M c with
 | none => rfl
 | some b => simp
theorem bump_loc {bs : List (Nat × Nat)} {c : Nat} (h : VM.get M2 c = VM.get M c) : VM.get (VM.bump M2 bs) c = VM.get (VM.bump M bs) c := by
 rw [VM.get_bump, VM.get_bump, bumpF_get, bumpF_get, h]
theorem LMatch.loc {args vs : List MV} {M0 : VM} {n0 : Nat} {σ bs : List (Nat × Nat)} (h : LMatch 0 args M0 n0 vs M σ bs) (ha : AgM (VM.get M2) (VM.get M) fp) (h1 : ∀ c ∈ σ.map (·.2), c ∈ fp) (h2 : ∀ c ∈ bs.map (·.1), c ∈ fp) : LMatch 0 args M0 n0 vs M2 σ bs := by
 obtain ⟨q1, q2, q3, q4, q5⟩ := h
 have hb : okB M2 bs := by
  clear q4 q5
  induction bs with
  | nil => trivial
  | cons x l ih =>
   obtain ⟨c, k⟩ := x
   refine ⟨?_, ih (fun c hc => h2 c (by simp at hc ⊢; exact .inr hc)) q2.2⟩
   rw [ha c (h2 c (by simp))]
   exact q2.1
 have hf : fzb M2 bs = fzb M bs := by
  clear q2 q4 q5 hb
  induction bs with
  | nil => rfl
  | cons x l ih =>
   obtain ⟨c, k⟩ := x
   funext d
   show (bif Nat.beq c d then (match VM.get M2 d with | some b => some (b, k) | none => none) else fzb M2 l d) = (bif Nat.beq c d then (match VM.get M d with | some b => some (b, k) | none => none) else fzb M l d)
   by_cases e : c = d
   ·subst e
    rw [ha c (h2 c (by simp))]
    simp
   ·simp only [beq_ne e, cond_false]
    rw [ih fun c hc => h2 c (by simp at hc ⊢; exact .inr hc)]
 refine ⟨q1, hb, q3, by rw [hf]; exact q4, ?_⟩
 rw [hf]
 clear q3 q4
 induction M0 with
 | nil => trivial
 | cons x M0 ih =>
  obtain ⟨c, b'⟩ := x
  refine ⟨?_, ih q5.2⟩
  rcases q5.1 with h | ⟨c0, b, s1, s2, s3⟩
  ·exact .inl h
  ·have hc0 : c0 ∈ fp := h1 c0 (List.mem_map.2 ⟨(c, c0), sig_mem (show sig σ c = some c0 from s1), rfl⟩)
   exact .inr ⟨c0, b, s1, by rw [bump_loc (ha c0 hc0)]; exact s2, s3⟩
theorem ren_key {ρ : Nat → Nat} {x : Nat} : ∀ {M1 : VM}, (∀ z ∈ M1, ρ z.1 ≠ x) → VM.get (renM ρ M1) x = none
 | [], _ => rfl
 | (c, b) :: M1, h => by
  show VM.get ((ρ c, _) :: renM ρ M1) x = none
  rw [VM.get_cons, if_neg (h (c, b) (by simp))]
  exact ren_key fun z hz => h z (by simp [hz])
theorem newZ {σ : List (Nat × Nat)} {n0 n1 : Nat} {M1 : VM} {z : Nat × MB} (hk : okNew σ n0 n1 M1 = true) (htw : okTw n n0 n1 fp = true) (hz : z ∈ M1) (hd : sig σ z.1 = none) (ho : ¬ ownN n fp (rhoZ n0 n σ z.1)) : False := by
 unfold okNew at hk
 rw [Bool.and_eq_true, List.all_eq_true] at hk
 have := hk.2 z hz
 simp only [hd, Option.isSome_none, Bool.false_or, Bool.and_eq_true, Bool.or_eq_true] at this
 obtain ⟨h1, h2⟩ := this
 have h2 : z.1 < n1 := by simpa [Nat.blt_eq] using h2
 rcases h1 with h1 | h1
 ·have h3 := Nat.eq_of_beq_eq_true h1
  rw [h3] at hd ho
  rw [rhoZ_0 hd] at ho
  exact ho (.inl rfl)
 ·have h3 := Nat.eq_of_beq_eq_true h1
  rw [h3] at hd ho h2
  rw [rhoZ_1 hd] at ho
  refine ho (.inr ⟨rfl, ?_⟩)
  unfold okTw at htw
  rw [Bool.or_eq_true] at htw
  rcases htw with h4 | h4
  ·have := Nat.le_of_ble_eq_true h4; omega
  ·obtain ⟨x, hx, he⟩ := List.any_eq_true.1 h4
   rw [Nat.eq_of_beq_eq_true he]; exact hx
theorem refF_loc (h : refF Pg ents G o n e (VM.get M) fp r m') (ha : AgM (VM.get M2) (VM.get M) fp) : (∃ M2', refF Pg ents G o n e (VM.get M2) fp r (VM.get M2') ∧ ∀ c, VM.get M2 c = VM.get M c → VM.get M2' c = m' c) ∧ ∀ c, c ∉ fp → c ≠ n → m' c = VM.get M c := by
 unfold refF at h ⊢
 split at h
 ·rename_i c hc
  split at h
  ·rename_i f hf
   have key : ∀ {K : FuncId × List MV → Prop}, (vArgsF e f c.args.toList).runP K → ∃ x, K x ∧ ∀ K' : FuncId × List MV → Prop, K' x → (vArgsF e f c.args.toList).runP K' := by
    intro K hK
    unfold vArgsF at hK ⊢
    obtain ⟨a, h1, h2, h3⟩ := (Sharp.rd fun fv => Sharp.rds fun vs => by cases fv <;> first | exact Sharp.ret _ | exact Sharp.bad) K hK
    exact ⟨a, h2, h3⟩
   obtain ⟨x, ⟨hx, M', hM', args, M0, n0, res, M1, n1, hsem, σ, bs, hL, hin, hk, htw, s1, s2, rfl, rfl⟩, hback⟩ := key h
   have hsub1 := subN_out s1
   have hsub2 := subN_out s2
   have ha' : AgM (VM.get M2) (VM.get M') fp := fun c hc => by rw [hM']; exact ha c hc
   have hin2 : allIn M2 σ = true := by
    clear hL hk hsem h
    induction σ with
    | nil => rfl
    | cons z σ ih =>
     obtain ⟨p, q⟩ := z
     have hin : ((VM.get M' q).isSome && allIn M' σ) = true := hin
     show ((VM.get M2 q).isSome && allIn M2 σ) = true
     rw [Bool.and_eq_true] at hin ⊢
     rw [ha' q (hsub1 q (by simp))]
     refine ⟨hin.1, ih hin.2 ?_ fun c hc => hsub1 c (by simp at hc ⊢; exact .inr hc)⟩
     unfold subN at s1 ⊢
     simp only [List.map_cons, List.all_cons, Bool.and_eq_true] at s1
     exact s1.2
   refine ⟨⟨_, hback _ ⟨hx, M2, rfl, args, M0, n0, res, M1, n1, hsem, σ, bs, hL.loc ha' hsub1 hsub2, hin2, hk, htw, s1, s2, rfl, rfl⟩, fun c hc => ?_⟩, fun c hc hcn => ?_⟩
   ·rw [get_app, get_app]
    have : VM.get (delM (VM.bump M2 bs) σ) c = VM.get (delM (VM.bump M' bs) σ) c := by
     by_cases hs : c ∈ σ.map (·.2)
     ·rw [get_delM_in _ _ _ hs, get_delM_in _ _ _ hs]
     ·rw [get_delM_eq _ _ _ hs, get_delM_eq _ _ _ hs, bump_loc (by rw [hM']; exact hc)]
    rw [this]
   ·rw [get_app, ren_key fun z hz => ?_]
    ·show VM.get (delM (VM.bump M' bs) σ) c = _
     rw [get_delM_eq _ _ _ fun hs => hc (hsub1 c hs), bump_same fun hs => hc (hsub2 c hs), hM']
    ·cases hd : sig σ z.1 with
     | none => exact fun h => newZ hk htw hz hd (h ▸ fun ho => ho.elim (fun h => hcn h) fun h => hc h.2)
     | some d =>
      unfold rhoZ
      rw [hd]
      rintro rfl
      exact hc (hsub1 _ (List.mem_map.2 ⟨(z.1, d), sig_mem hd, rfl⟩))
  ·exact h.elim
 ·exact h.elim
theorem step_swapV (h1 : stepF Pg T N ents G ops false x i fx e m e1 m1) (h2 : stepF Pg T N ents G ops false y j fy e1 m1 e2 m2) (ha : x.apart ops y = true) (hc : okC (kls x) (kls y) = true) (hij : i ≠ j) (_hi : m i = none) (hj : m j = none) :
  ∃ e' m', stepF Pg T N ents G ops false y j fy e m e' m' ∧ stepF Pg T N ents G ops false x i fx e' m' e2 m2 := by
 obtain ⟨rx, dx, rfl, δx, ax, rfl, nx⟩ := h1
 obtain ⟨ry, dy, rfl, δy, ay, rfl, ny⟩ := h2
 obtain ⟨p1, p2, p3⟩ := Oper.apart_spec ha
 have ay' : actF Pg T ents G ops y e (δx.appF i m) j ry δy := actF_env (putF_ne p1) ay
 have ex : ∀ {m'}, actF Pg T ents G ops x e m' i rx δx → actF Pg T ents G ops x (putF y.dst ry e) m' i rx δx := actF_env fun t ht => (putF_ne p3 t ht).symm
 have hput := putF_comm (e := e) (d := y.dst) (d' := x.dst) (r := ry) (r' := rx) fun t h h' => p2 t h' h
 suffices h : actF Pg T ents G ops y e m j ry δy ∧ actF Pg T ents G ops x e (δy.appF j m) i rx δx ∧ δy.appF j (δx.appF i m) = δx.appF i (δy.appF j m) from
  ⟨_, _, ⟨ry, dy, rfl, δy, h.1, rfl, ny.trans (numsO_ag (putF_ne p1))⟩, ⟨rx, dx, hput, δx, ex h.2.1, h.2.2, nx.trans (numsO_ag fun t ht => (putF_ne p3 t ht).symm)⟩⟩
 have ox := actF_out ax
 have oy := actF_out ay'
 match hx : kls x, hy : kls y, hc with
 | 0, _, _ =>
  rw [hx] at ox
  obtain rfl : δx = .none := ox
  exact ⟨ay', actF_nomem (by rw [hx]; rfl) ax, rfl⟩
 | _ + 1, 0, _ =>
  rw [hy] at oy
  obtain rfl : δy = .none := oy
  exact ⟨actF_nomem (by rw [hy]; rfl) ay', ax, rfl⟩
 | 1, 1, _ =>
  rw [hx] at ox
  rw [hy] at oy
  refine ⟨actF_nomem (by rw [hy]; rfl) ay', actF_nomem (by rw [hx]; rfl) ax, ?_⟩
  rcases ox with rfl | ⟨b, rfl⟩
  ·rfl
  ·rcases oy with rfl | ⟨b', rfl⟩
   ·rfl
   ·exact fput_comm hij
 | 2, 1, _ =>
  rw [hx] at ox
  rw [hy] at oy
  refine ⟨actF_nomem (by rw [hy]; rfl) ay', ?_, ?_⟩
  ·rcases oy with rfl | ⟨b', rfl⟩
   ·exact ax
   ·exact actF_read hx (sameB_new hj _) ax
  ·rcases oy with rfl | ⟨b', rfl⟩
   ·rfl
   ·rcases ox with rfl | ⟨l, rfl, hl⟩
    ·rfl
    ·exact (bumpF_new hj hl).symm
 | 2, 2, _ =>
  rw [hx] at ox
  rw [hy] at oy
  rcases ox with rfl | ⟨l, rfl, hl⟩
  ·rcases oy with rfl | ⟨l', rfl, hl'⟩
   ·exact ⟨ay', ax, rfl⟩
   ·exact ⟨ay', actF_read hx (sameB_bump _ _) ax, rfl⟩
  ·rcases oy with rfl | ⟨l', rfl, hl'⟩
   ·exact ⟨actF_read hy (sameB_back _ _) ay', ax, rfl⟩
   ·exact ⟨actF_read hy (sameB_back _ _) ay', actF_read hx (sameB_bump _ _) ax, bumpF_comm _ _ _⟩
 | 1, _ + 2, h => cases h
 | 2, _ + 3, h => cases h
 | _ + 3, _ + 1, h => cases h
theorem actR_loc (h : actR Pg ents G ops o n e (VM.get M) fp r m') (ha : AgM (VM.get M2) (VM.get M) fp) : (∃ M2', actR Pg ents G ops o n e (VM.get M2) fp r (VM.get M2') ∧ ∀ c, VM.get M2 c = VM.get M c → VM.get M2' c = m' c) ∧ ∀ c, c ∉ fp → c ≠ n → m' c = VM.get M c := by
 obtain ⟨b, h1, h2, h3⟩ := h
 cases b with
 | true =>
  obtain ⟨⟨M2', p1, p2⟩, p3⟩ := refF_loc (h2 rfl) ha
  exact ⟨⟨M2', ⟨true, h1, fun _ => p1, fun h => nomatch h⟩, p2⟩, p3⟩
 | false =>
  obtain ⟨rfl, rfl⟩ := h3 rfl
  exact ⟨⟨M2, ⟨false, h1, fun h => (nomatch h), fun _ => ⟨rfl, rfl⟩⟩, fun _ hc => hc⟩, fun _ _ _ => rfl⟩
theorem step_loc (h : stepF Pg T N ents G ops rf o n fp e (VM.get M) e1 m1) (he : ∀ t ∈ o.looksAt ops, e t = e' t) (ha : ∀ c, c ∈ fp ∨ c = n → VM.get M2 c = VM.get M c) :
  ∃ r, e1 = putF o.dst r e ∧ (∃ M2', stepF Pg T N ents G ops rf o n fp e' (VM.get M2) (putF o.dst r e') (VM.get M2') ∧ ∀ c, c ∈ fp ∨ c = n → VM.get M2' c = m1 c) := by
 obtain ⟨r, hd, rfl, h⟩ := h
 refine ⟨r, rfl, ?_⟩
 cases rf with
 | false =>
  obtain ⟨δ, h1, rfl, rfl⟩ := h
  have hf := foot_actF h1
  refine ⟨δ.app n M2, ⟨r, hd, rfl, δ, actF_loc (fun c hc => ha c (.inl (by rw [numsO_ag he]; exact hc))) (actF_env he h1), Dl.get_app _ _ _, (numsO_ag he)⟩, fun c hc => ?_⟩
  rw [Dl.get_app]
  exact appF_in hf ha hc
 | true =>
  obtain ⟨⟨M2', p1, p2⟩, p3⟩ := actR_loc h (M2 := M2) fun c hc => ha c (.inl hc)
  exact ⟨M2', ⟨r, hd, rfl, actR_ag he p1⟩, fun c hc => p2 c (ha c hc)⟩
theorem step_out (h : stepF Pg T N ents G ops rf o n fp e (VM.get M) e1 m1) {c : Nat} (h1 : c ∉ fp) (h2 : c ≠ n) : m1 c = VM.get M c := by
 obtain ⟨r, hd, rfl, h⟩ := h
 cases rf with
 | false =>
  obtain ⟨δ, h3, rfl, rfl⟩ := h
  exact appF_out (foot_actF h3) h1 h2
 | true => exact (actR_loc h (M2 := M) fun _ _ => rfl).2 c h1 h2
theorem step_vm (h : stepF Pg T N ents G ops rf o n fp e (VM.get M) e1 m1) : ∃ M', VM.get M' = m1 := by
 obtain ⟨r, hd, rfl, h⟩ := h
 cases rf with
 | false => obtain ⟨δ, _, rfl, _⟩ := h; exact ⟨δ.app n M, Dl.get_app _ _ _⟩
 | true =>
  obtain ⟨b, h1, h2, h3⟩ := h
  cases b with
  | false => exact ⟨M, (h3 rfl).2.symm⟩
  | true =>
   have h := h2 rfl
   unfold refF at h
   split at h
   ·split at h
    ·unfold vArgsF rd at h
     split at h
     ·obtain ⟨vs, _, h⟩ := rds_some h
      split at h
      ·obtain ⟨_, M0, _, args, M0', n0, res, M1, n1, _, σ, bs, _, _, _, _, _, _, _, hm⟩ := h
       exact ⟨_, hm⟩
      ·exact h.elim
     ·exact h.elim
    ·exact h.elim
   ·exact h.elim
def isLd (o : Oper) : Bool := match o.op with
 | .load .. => true
 | _ => false
theorem ld_none {δ : Dl} (hk : isLd o = true) (h : actF Pg T ents G ops o e m n r δ) : δ = .none := by
 obtain ⟨b, _, h2, h3⟩ := h
 cases b with
 | false => exact (h3 rfl).2
 | true =>
  have h := h2 rfl
  obtain ⟨dst, op, ty, pos, after, guard⟩ := o
  cases op with
  | load t x =>
   obtain ⟨r', δ', h1, h2⟩ := (Out.rd fun a => out_oLoad T m t a : Out DN (eOp Pg T e m n ⟨dst, .load t x, ty, pos, after, guard⟩)) _ h
   injection h2 with _ h2
   subst h2; exact h1
  | _ => cases hk
theorem ld_keep (hk : isLd o = true) (h : stepF Pg T N ents G ops false o n fp e m e1 m1) : m1 = m := by
 obtain ⟨r, _, _, δ, h3, rfl, _⟩ := h
 rw [ld_none hk h3]; rfl
theorem step_swapO (h1 : stepF Pg T N ents G ops rx x i fx e (VM.get M) e1 m1) (h2 : stepF Pg T N ents G ops ry y j fy e1 m1 e2 m2) (ha : x.apart ops y = true) (hd : ∀ c, (c ∈ fx ∨ c = i) → (c ∈ fy ∨ c = j) → m1 c = VM.get M c ∧ m2 c = m1 c) :
  ∃ e' m', stepF Pg T N ents G ops ry y j fy e (VM.get M) e' m' ∧ stepF Pg T N ents G ops rx x i fx e' m' e2 m2 ∧ (∀ c, m2 c = m1 c → m' c = VM.get M c) ∧ ∀ c, m1 c = VM.get M c → m2 c = m' c := by
 obtain ⟨p1, p2, p3⟩ := Oper.apart_spec ha
 have nor : ∀ {f : List Nat} {k c : Nat}, ¬ (c ∈ f ∨ c = k) → c ∉ f ∧ c ≠ k := fun h => ⟨fun h1 => h (.inl h1), fun h1 => h (.inr h1)⟩
 obtain ⟨M1, rfl⟩ := step_vm h1
 obtain ⟨rvx, hdx, he1, h1b⟩ := h1
 have h1' : stepF Pg T N ents G ops rx x i fx e (VM.get M) e1 (VM.get M1) := ⟨rvx, hdx, he1, h1b⟩
 subst he1
 have o1 : ∀ {c}, ¬ (c ∈ fx ∨ c = i) → VM.get M1 c = VM.get M c := fun h => step_out h1' (nor h).1 (nor h).2
 have o2 : ∀ {c}, ¬ (c ∈ fy ∨ c = j) → m2 c = VM.get M1 c := fun h => step_out h2 (nor h).1 (nor h).2
 obtain ⟨rvy, rfl, M', q1, q2⟩ := step_loc (e' := e) (M2 := M) h2 (putF_ne p1) fun c hc => by
  by_cases hx : c ∈ fx ∨ c = i
  ·exact (hd c hx hc).1.symm
  ·exact (o1 hx).symm
 have o3 : ∀ {c}, ¬ (c ∈ fy ∨ c = j) → VM.get M' c = VM.get M c := fun h => step_out q1 (nor h).1 (nor h).2
 obtain ⟨rvx', hx', M'', q3, q4⟩ := step_loc (e' := putF y.dst rvy e) (M2 := M') h1' (fun t ht => (putF_ne p3 t ht).symm) fun c hc => by
  by_cases hy : c ∈ fy ∨ c = j
  ·rw [q2 c hy, (hd c hc hy).2, (hd c hc hy).1]
  ·exact o3 hy
 have hput := putF_comm (e := e) (d := y.dst) (d' := x.dst) (r := rvy) (r' := rvx) fun t h h' => p2 t h' h
 refine ⟨_, _, q1, ?_⟩
 have hm : VM.get M'' = m2 := by
  funext c
  by_cases c1 : c ∈ fx ∨ c = i
  ·rw [q4 c c1]
   by_cases c2 : c ∈ fy ∨ c = j
   ·exact (hd c c1 c2).2.symm
   ·exact (o2 c2).symm
  ·rw [step_out q3 (nor c1).1 (nor c1).2]
   by_cases c2 : c ∈ fy ∨ c = j
   ·exact q2 c c2
   ·rw [o3 c2, o2 c2, o1 c1]
 rw [hm] at q3
 obtain ⟨r3, hd3, he3, hb3⟩ := q3
 have hq3 : stepF Pg T N ents G ops rx x i fx (putF y.dst rvy e) (VM.get M') (putF x.dst rvx' (putF y.dst rvy e)) m2 := ⟨r3, hd3, he3, hb3⟩
 refine ⟨⟨r3, hd3, ?_, hb3⟩, fun c hc => ?_, fun c hc => ?_⟩
 ·rw [hput]
  rw [← he3]
  cases hxd : x.dst with
  | none => rfl
  | some d =>
   rw [hxd] at hx'
   have : rvx = rvx' := by
    have := congrFun hx' d
    simpa [putF, fput] using this
   rw [this]
 ·by_cases c2 : c ∈ fy ∨ c = j
  ·rw [q2 c c2, hc]
   by_cases c1 : c ∈ fx ∨ c = i
   ·exact (hd c c1 c2).1
   ·exact o1 c1
  ·exact o3 c2
 ·by_cases c1 : c ∈ fx ∨ c = i
  ·by_cases c2 : c ∈ fy ∨ c = j
   ·exact (q2 c c2).symm
   ·rw [o2 c2, hc, o3 c2]
  ·exact step_out hq3 (nor c1).1 (nor c1).2
theorem pure_step (hk : kls y = 0) (h : stepF Pg T N ents G ops false y j fy e m e2 m2) : m2 = m ∧ ∀ m', stepF Pg T N ents G ops false y j fy e m' e2 m' := by
 obtain ⟨r, hd, rfl, δ, h3, rfl, hfp⟩ := h
 have ho := actF_out h3
 rw [hk] at ho
 obtain rfl : δ = .none := ho
 exact ⟨rfl, fun m' => ⟨r, hd, rfl, .none, actF_nomem (by rw [hk]; rfl) h3, rfl, hfp⟩⟩
theorem step_swapP (h1 : stepF Pg T N ents G ops rx x i fx e (VM.get M) e1 m1) (h2 : stepF Pg T N ents G ops false y j fy e1 m1 e2 m2) (ha : x.apart ops y = true) (hk : kls y = 0) :
  ∃ e' m', stepF Pg T N ents G ops false y j fy e (VM.get M) e' m' ∧ stepF Pg T N ents G ops rx x i fx e' m' e2 m2 := by
 obtain ⟨p1, p2, p3⟩ := Oper.apart_spec ha
 obtain ⟨rfl, hp⟩ := pure_step hk h2
 obtain ⟨rvx, hdx, he1, h1b⟩ := h1
 have h1' : stepF Pg T N ents G ops rx x i fx e (VM.get M) e1 m2 := ⟨rvx, hdx, he1, h1b⟩
 subst he1
 obtain ⟨rvy, rfl, M', q1, _⟩ := step_loc (e' := e) (M2 := M) (hp (VM.get M)) (putF_ne p1) fun _ _ => rfl
 obtain ⟨hM', _⟩ := pure_step hk q1
 obtain ⟨rvx', hx', M'', q3, q4⟩ := step_loc (e' := putF y.dst rvy e) (M2 := M) h1' (fun t ht => (putF_ne p3 t ht).symm) fun _ _ => rfl
 have hput := putF_comm (e := e) (d := y.dst) (d' := x.dst) (r := rvy) (r' := rvx) fun t h h' => p2 t h' h
 have hm : VM.get M'' = m2 := by
  funext c
  by_cases c1 : c ∈ fx ∨ c = i
  ·exact q4 c c1
  ·have c1' : c ∉ fx ∧ c ≠ i := ⟨fun h => c1 (.inl h), fun h => c1 (.inr h)⟩
   rw [step_out q3 c1'.1 c1'.2, step_out h1' c1'.1 c1'.2]
 rw [hM'] at q1
 refine ⟨_, _, q1, ?_⟩
 rw [hm] at q3
 obtain ⟨r3, hd3, he3, hb3⟩ := q3
 refine ⟨r3, hd3, ?_, hb3⟩
 rw [hput, ← he3]
 cases hxd : x.dst with
 | none => rfl
 | some d =>
  rw [hxd] at hx'
  have : rvx = rvx' := by
   have := congrFun hx' d
   simpa [putF, fput] using this
  rw [this]
theorem step_swapQ (h1 : stepF Pg T N ents G ops false x i fx e (VM.get M) e1 m1) (h2 : stepF Pg T N ents G ops ry y j fy e1 m1 e2 m2) (ha : x.apart ops y = true) (hk : kls x = 0) :
  ∃ e' m', stepF Pg T N ents G ops ry y j fy e (VM.get M) e' m' ∧ stepF Pg T N ents G ops false x i fx e' m' e2 m2 := by
 obtain ⟨p1, p2, p3⟩ := Oper.apart_spec ha
 obtain ⟨rfl, hp⟩ := pure_step hk h1
 obtain ⟨rvx, hdx, he1, h1b⟩ := h1
 have h1' : stepF Pg T N ents G ops false x i fx e (VM.get M) e1 (VM.get M) := ⟨rvx, hdx, he1, h1b⟩
 subst he1
 obtain ⟨rvy, rfl, M', q1, q2⟩ := step_loc (e' := e) (M2 := M) h2 (putF_ne p1) fun _ _ => rfl
 obtain ⟨rvx', hx', M'', q3, _⟩ := step_loc (e' := putF y.dst rvy e) (M2 := M) h1' (fun t ht => (putF_ne p3 t ht).symm) fun _ _ => rfl
 obtain ⟨hM'', q5⟩ := pure_step hk q3
 have hput := putF_comm (e := e) (d := y.dst) (d' := x.dst) (r := rvy) (r' := rvx) fun t h h' => p2 t h' h
 have hm : VM.get M' = m2 := by
  funext c
  by_cases c1 : c ∈ fy ∨ c = j
  ·exact q2 c c1
  ·have c1' : c ∉ fy ∧ c ≠ j := ⟨fun h => c1 (.inl h), fun h => c1 (.inr h)⟩
   rw [step_out q1 c1'.1 c1'.2, step_out h2 c1'.1 c1'.2]
 rw [hm] at q1
 refine ⟨_, _, q1, ?_⟩
 obtain ⟨r3, hd3, he3, hb3⟩ := q5 m2
 refine ⟨r3, hd3, ?_, hb3⟩
 rw [hput, ← he3]
 cases hxd : x.dst with
 | none => rfl
 | some d =>
  rw [hxd] at hx'
  have : rvx = rvx' := by
   have := congrFun hx' d
   simpa [putF, fput] using this
  rw [this]
end
end
section
structure SimS (N : Nat) (w0 : World) (ex0 : Anc) (P0 : Prot) (e : Nat → Option MV) (m : FM) (F : Nat → Prop) (a : Act) (w : World) : Prop where
 ex : ∃ P adr, InvM w P adr m ∧ EnvR w P adr e a ∧ (∀ c, F c → adr c = none) ∧ AdrOK w0 ex0 P0 w P adr ∧ (∀ b o, P b o → P0 b o ∨ w0.heap.size ≤ b ∨ ex0.ex b)
 fresh : ∀ c, F c → m c = none
 ge : ∀ c, F c → ex0.n0 ≤ c
 since : Since ex0.ex w0 w
 defers : a.defers = []
 size : a.tmps.size = N
section
variable {Pg : Program} {T : Tab} {N : Nat} {ents : List FuncId} {G : GS} {w0 w w' : World} {ex0 : Anc} {P0 P : Prot} {adr : Adr} {e e' : Nat → Option MV} {m m' : FM} {n : Nat} {F F' : Nat → Prop} {a : Act} {r : MV} {u : Value} {δ : Dl} {ops : Array Oper} {o : Oper}
theorem Sim.toS (h : Sim N w0 ex0 P0 e m n a w) : SimS N w0 ex0 P0 e m (n ≤ ·) a w := ⟨h.ex, h.fresh, fun _ hc => Nat.le_trans h.ge hc, h.since, h.defers, h.size⟩
theorem SimS.toSim (h : SimS N w0 ex0 P0 e m F a w) (hn : ∀ c, n ≤ c → F c) : Sim N w0 ex0 P0 e m n a w := by
 obtain ⟨P, adr, h1, h2, h3, h4, h5⟩ := h.ex
 exact ⟨⟨P, adr, h1, h2, fun c hc => h3 c (hn c hc), h4, h5⟩, fun c hc => h.fresh c (hn c hc), h.ge n (hn n (Nat.le_refl _)), h.since, h.defers, h.size⟩
theorem runF_ok (hS : SeatM Pg T ents G w0 ex0) (h : runF Pg T ents G o e m n r δ) (hI : InvM w P adr m) (hn : adr n = none) (hf : m n = none) (hE : EnvR w P adr e a) (hs : Since ex0.ex w0 w)
  {next : Act → World → Prop} {Q : Exit → Act → World → Prop} (hK : ∀ u w', Post1 w P adr m n r δ u w' → next (a.put o.dst u) w') : o.wp Pg a w next Q := by
 have plain : (eOp Pg T e m n o).runP (fun x => x = (r, δ)) → o.wp Pg a w next Q := by
  intro h
  obtain ⟨r', δ', hk, hr⟩ := eOp_ok hS.seat.tab hI hn hf hE h
  injection hk with hk1 hk2
  subst hk1; subst hk2
  unfold Oper.wp
  rcases hr with ⟨u, w', h1, h2⟩ | ⟨w', h1, h2⟩
  ·rw [h1]; exact hK u w' h2
  ·rw [h1]; exact hK undef w' h2
 obtain ⟨dst, op, ty, pos, after, guard⟩ := o
 cases op with
 | call c =>
  obtain ⟨callee, args, ats⟩ := c
  cases callee with
  | builtin b => exact plain h
  | invoke r n => exact plain h
  | value f =>
   replace h : (vCallF e m f args.toList).runP fun x => ents.contains x.1 = true ∧ SemC Pg G x.1 x.2.1 r ∧ δ = .bump x.2.2 ∧ ∀ c ∈ x.2.2, m c.1 ≠ none := h
   unfold vCallF at h
   obtain ⟨pf, h, hpf⟩ := rd_out hE h
   obtain ⟨ps, h, hps⟩ := rds_out hE h
   cases pf with
   | fn f0 caps =>
    replace h := Ask.bind_runP.1 h
    generalize hu : a.eval f = uf at hpf
    cases hpf with
    | val cs hfn =>
     cases hfn with
     | fn parts hpl hpr =>
      have hall := hps.app (RepVs.of_parts hpl hpr)
      obtain ⟨l', bs, h, P', h1, h2, h3, h4⟩ := frzs_vals h hall hI
      obtain ⟨hc, hsem, rfl, _⟩ := h
      replace hc : ents.contains f0 = true := hc
      replace hsem : SemC Pg G f0 l' r := hsem
      have hrun : (execOp a.eval ⟨dst, .call ⟨.value f, args, ats⟩, ty, pos, after, guard⟩).run Pg w = .ok (.enter f0 (args.toList.map a.eval ++ List.zipWith valM caps parts).toArray) w := by
       have he := hS.seat.enters f0 (by simpa using hc) (args.toList.map a.eval ++ List.zipWith valM caps parts).toArray w
       rw [← he]
       have hmap : args.map a.eval = (args.toList.map a.eval).toArray := arr_map _ _
       simp [execOp, resolve, hu, valM, MV.isAgg, Deferred.ofValue, invoke, hmap]
      unfold Oper.wp
      rw [hrun]
      refine (hsem w P' _ (hS.good w hs) h1.prot h4).mono ?_
      rintro e w' ⟨v, rfl, h5, h6⟩
      refine hK v w' ⟨protNew w w' P', adr, ?_, by exact h1.below h6, h2.trans (Keep.below h1.prot h6), fun _ _ => rfl, fun g hg => (by rw [hn] at hg; cases hg), (Since.of_below h6).weak fun _ e => e.elim, fun b o hb => ?_⟩
      ·exact h5.keep ⟨fun _ _ h => h, fun _ _ _ => rfl, fun _ _ h => (nomatch h), fun _ _ _ _ _ h => nomatch h⟩
      ·rcases hb with hb | hb
       ·rcases h3 b o hb with hb | hb
        ·exact .inl hb
        ·exact .inr (.inr hb)
       ·exact .inr (.inl hb.1)
   | _ => exact h.elim
 | _ => exact plain h
theorem bumpF_none : ∀ {l : List (Nat × Nat)} {m : FM} {c : Nat}, m c = none → bumpF m l c = none := by
 intro l m c h
 rw [bumpF_get, h]; rfl
theorem appF_none {c : Nat} (h : m c = none) (hc : c ≠ n) : δ.appF n m c = none := by
 cases δ with
 | none => exact h
 | new b => show fput _ _ _ c = none; rw [fput_ne _ _ hc]; exact h
 | upd c' l =>
  show (match m c' with | some b => fput m c' { b with l := l } | none => m) c = none
  cases hb : m c' with
  | none => exact h
  | some b =>
   show fput _ c' _ c = none
   rw [fput_ne]
   ·exact h
   ·rintro rfl; rw [h] at hb; cases hb
 | mv c' b =>
  show fput _ _ _ c = none
  rw [fput_ne _ _ hc]
  unfold fdel
  split
  ·rfl
  ·exact h
 | bump l => exact bumpF_none h
theorem SimS.post (hs : SimS N w0 ex0 P0 e m F a w) (_hI : InvM w P adr m) (hE : EnvR w P adr e a) (hn : ∀ c, F c → adr c = none) (hg : AdrOK w0 ex0 P0 w P adr) (hp : ∀ b o, P b o → P0 b o ∨ w0.heap.size ≤ b ∨ ex0.ex b)
  (hpo : Post1 w P adr m n r δ u w') {dst : Option Tmp} (hd : ∀ d, dst = some d → d < N) (hFn : F n) (hF : ∀ c, F' c → F c ∧ c ≠ n) : SimS N w0 ex0 P0 (putF dst r e) (δ.appF n m) F' (a.put dst u) w' := by
 obtain ⟨P', adr', h1, h2, h3, h4, h5, h6, h7⟩ := hpo
 have hE' : EnvR w' P' adr' e a := fun t v ht => by
  obtain ⟨u, e1, e2⟩ := hE t v ht
  exact ⟨u, e1, e2.keep h3⟩
 have hsize := hs.since.size
 have common : ∀ {e' : Nat → Option MV} {a' : Act}, EnvR w' P' adr' e' a' → a'.defers = [] → a'.tmps.size = N → SimS N w0 ex0 P0 e' (δ.appF n m) F' a' w' := by
  intro e' a' e1 e2 e3
  refine ⟨⟨P', adr', h2, e1, fun c hc => ?_, ⟨fun c g hc => ?_, fun c hc => (h4 c (by have := hs.ge n hFn; omega)).trans (hg.old c hc), hg.keep.trans h3⟩, fun b o ho => ?_⟩, fun c hc => ?_, fun c hc => hs.ge c (hF c hc).1, ?_, e2, e3⟩
  ·rw [h4 c (hF c hc).2]; exact hn c (hF c hc).1
  ·by_cases e : c = n
   ·subst e
    rcases h5 g hc with h | ⟨c', h⟩
    ·exact .inl (Nat.le_trans hsize h)
    ·exact hg.in_ c' g h
   ·rw [h4 c e] at hc; exact hg.in_ c g hc
  ·rcases h7 b o ho with h | h | ⟨c', h⟩
   ·exact hp b o h
   ·exact .inr (.inl (Nat.le_trans hsize h))
   ·rcases hg.in_ c' b h with h | h
    ·exact .inr (.inl h)
    ·exact .inr (.inr h)
  ·exact appF_none (hs.fresh c (hF c hc).1) (hF c hc).2
  ·exact ⟨h6.os.trans hs.since.os, h6.tape.trans hs.since.tape, h6.output.trans hs.since.output, Nat.le_trans hsize h6.size, fun b hb hne => (h6.block b (Nat.lt_of_lt_of_le hb hsize) (fun ⟨c, hc⟩ => by
    rcases hg.in_ c b hc with h | h
    ·omega
    ·exact hne h)).trans (hs.since.block b hb hne)⟩
 cases dst with
 | none => exact common hE' hs.defers hs.size
 | some d =>
  have hd' := hd d rfl
  refine common ?_ hs.defers (by simp [Act.put, hs.size])
  intro t v ht
  simp only [Act.put, Array.getElem?_setIfInBounds]
  replace ht : fput e d r t = some v := ht
  unfold fput at ht
  split at ht
  ·rename_i e
   subst e
   injection ht with ht
   subst ht
   exact ⟨u, by simp [hs.size, hd'], h1⟩
  ·rename_i hne
   rw [if_neg fun h => hne h.symm]
   exact hE' t v ht
theorem SimS.put (hd : a.defers = []) (hz : a.tmps.size = N) {w' : World} {P' : Prot} {adr' : Adr} (hI : InvM w' P' adr' m') (hE : EnvR w' P' adr' e a) (hr : RepV w' P' adr' r u) (h1 : ∀ c, F' c → adr' c = none) (h2 : AdrOK w0 ex0 P0 w' P' adr')
  (h3 : ∀ b o, P' b o → P0 b o ∨ w0.heap.size ≤ b ∨ ex0.ex b) (h4 : ∀ c, F' c → m' c = none) (h5 : ∀ c, F' c → ex0.n0 ≤ c) (h6 : Since ex0.ex w0 w') {dst : Option Tmp} (hdl : ∀ d, dst = some d → d < N) : SimS N w0 ex0 P0 (putF dst r e) m' F' (a.put dst u) w' := by
 cases dst with
 | none => exact ⟨⟨P', adr', hI, hE, h1, h2, h3⟩, h4, h5, h6, hd, hz⟩
 | some d =>
  have hd' := hdl d rfl
  refine ⟨⟨P', adr', hI, fun t v ht => ?_, h1, h2, h3⟩, h4, h5, h6, hd, by simp [Act.put, hz]⟩
  simp only [Act.put, Array.getElem?_setIfInBounds]
  replace ht : fput e d r t = some v := ht
  unfold fput at ht
  split at ht
  ·rename_i e
   subst e
   injection ht with ht
   subst ht
   exact ⟨u, by simp [hz, hd'], hr⟩
  ·rename_i hne
   rw [if_neg fun h => hne h.symm]
   exact hE t v ht
theorem stepF_out (hS : SeatM Pg T ents G w0 ex0) {rf : Bool} {fp : List Nat} {next : Act → World → Prop} {Q : Exit → Act → World → Prop} (hs : SimS N w0 ex0 P0 e m F a w) (hn : F n) (hn2 : n + 1 ∈ fp → F (n + 1)) (hF0 : ∀ c, F' c → F c ∧ ¬ ownN n fp c)
  (h : stepF Pg T N ents G ops rf o n fp e m e' m') (hk : ∀ a w, SimS N w0 ex0 P0 e' m' F' a w → next a w) :
  if Region.wanted o (yielded ops a.tmps) then o.wp Pg a w next Q ∨ (o.asks Pg a w ∧ LetsOut Q) else next (a.put o.dst undef) w := by
 obtain ⟨r, hd, rfl, h⟩ := h
 have hF : ∀ c, F' c → F c ∧ c ≠ n := fun c hc => ⟨(hF0 c hc).1, fun e => (hF0 c hc).2 (.inl e)⟩
 obtain ⟨P, adr, hI, hE, ha1, ha2, ha3⟩ := hs.ex
 have wanted : ∀ {b}, gdF ops o e = some b → Region.wanted o (yielded ops a.tmps) = b := by
  intro b hb
  unfold gdF at hb
  split at hb
  ·rename_i hg
   injection hb with hb
   simp [Region.wanted, hg, ← hb]
  ·rename_i j want hg
   split at hb
   ·cases hb
   ·rename_i s hj
    split at hb
    ·rename_i t ht
     injection hb with hb
     obtain ⟨v, hv1, hv2⟩ := hE s _ ht
     have hv := hv2.bool_
     subst hv
     have hy : yielded ops a.tmps j = some t := by simp [yielded, hj, hv1]
     simp only [Region.wanted, hg, hy, ← hb]
     cases t <;> cases want <;> rfl
    ·rename_i ht
     injection hb with hb
     obtain ⟨v, hv1, hv2⟩ := hE s _ ht
     have hv : v = undef := hv2.undef_
     subst hv
     have hy : yielded ops a.tmps j = none := by simp [yielded, hj, hv1, undef]
     simp [Region.wanted, hg, hy, ← hb]
    ·cases hb
 cases rf with
 | false =>
  obtain ⟨δ, ⟨b, hb, h1, h2⟩, rfl, _⟩ := h
  rw [wanted hb]
  cases b with
  | true =>
   rw [if_pos rfl]
   refine .inl (runF_ok hS (h1 rfl) hI (ha1 n hn) (hs.fresh n hn) hE hs.since fun u w' hp => hk _ _ ?_)
   exact hs.post hI hE ha1 ha2 ha3 hp hd hn hF
  | false =>
   rw [if_neg (by simp)]
   obtain ⟨rfl, rfl⟩ := h2 rfl
   exact hk _ _ (hs.post (δ := .none) hI hE ha1 ha2 ha3 (Post1.pure hI (ha1 n hn) .undef) hd hn hF)
 | true =>
  obtain ⟨b, hb, h1, h2⟩ := h
  rw [wanted hb]
  cases b with
  | false =>
   rw [if_neg (by simp)]
   obtain ⟨rfl, rfl⟩ := h2 rfl
   exact hk _ _ (hs.post (δ := .none) hI hE ha1 ha2 ha3 (Post1.pure hI (ha1 n hn) .undef) hd hn hF)
  | true =>
   rw [if_pos rfl]
   have h := h1 rfl
   obtain ⟨dst, op, ty, pos, after, guard⟩ := o
   unfold refF at h
   cases op with
   | call c =>
    obtain ⟨callee, args, ats⟩ := c
    cases callee with
    | value f =>
     replace h : (vArgsF e f args.toList).runP fun x => ents.contains x.1 = true ∧ ∃ M, VM.get M = m ∧ vCallZ Pg G M n x.1 x.2 fp fun r' M' => r' = r ∧ VM.get M' = m' := h
     unfold vArgsF at h
     obtain ⟨pf, h, hpf⟩ := rd_out hE h
     obtain ⟨ps, h, hps⟩ := rds_out hE h
     cases pf with
     | fn f0 caps =>
      generalize hu : a.eval f = uf at hpf
      cases hpf with
      | val cs hfn =>
       cases hfn with
       | fn parts hpl hpr =>
        have hall := hps.app (RepVs.of_parts hpl hpr)
        replace h : ents.contains f0 = true ∧ ∃ M, VM.get M = m ∧ vCallZ Pg G M n f0 (ps ++ caps) fp fun r' M' => r' = r ∧ VM.get M' = m' := h
        obtain ⟨hc, M, rfl, hz⟩ := h
        have hrun : (execOp a.eval ⟨dst, .call ⟨.value f, args, ats⟩, ty, pos, after, guard⟩).run Pg w = .ok (.enter f0 (args.toList.map a.eval ++ List.zipWith valM caps parts).toArray) w := by
         have he := hS.seat.enters f0 (by simpa using hc) (args.toList.map a.eval ++ List.zipWith valM caps parts).toArray w
         rw [← he]
         have hmap : args.map a.eval = (args.toList.map a.eval).toArray := arr_map _ _
         simp [execOp, resolve, hu, valM, MV.isAgg, Deferred.ofValue, invoke, hmap]
        refine .inl ?_
        unfold Oper.wp
        rw [hrun]
        refine (vCallZ_ok hS hz hs.since (hs.fresh n hn) (hs.ge n hn) (ha1 n hn) (fun h => hs.fresh _ (hn2 h)) (fun h => ha1 _ (hn2 h)) hI hE ha2 ha3 hall).mono ?_
        rintro e w' ⟨v, rfl, r', M', ⟨rfl, rfl⟩, P', adr1, q1, q2, q3, q8, q4, q5, q6, q7⟩
        exact hk _ _ (SimS.put hs.defers hs.size q1 q2 q3 (fun c hc => (q8 c (hF0 c hc).2).trans (ha1 c (hF c hc).1)) q4 q5 (fun c hc => q6 c (hF0 c hc).2 (hs.fresh c (hF c hc).1)) (fun c hc => hs.ge c (hF c hc).1) q7 hd)
     | _ => exact h.elim
    | _ => exact h.elim
   | _ => exact h.elim
end
end
section
section
variable (Pg : Program) (T : Tab) (N : Nat) (ents : List FuncId) (G : GS)
structure Dop where
 k : Nat
 n : Nat
 rf : Bool
 fp : List Nat
 ro : List Nat
def runL (ops : Array Oper) : List Dop → (Nat → Option MV) → FM → (Nat → Option MV) → FM → Prop
 | [], e, m, e', m' => e = e' ∧ m = m'
 | x :: L, e, m, e', m' => ∃ o e1 m1, ops[x.k]? = some o ∧ (stepF Pg T N ents G ops x.rf o x.n x.fp e m e1 m1 ∧ (x.rf = true → ∀ c ∈ x.ro, m1 c = m c)) ∧ runL ops L e1 m1 e' m'
end
def keeps1 (x : Dop) (a : Oper) (c : Nat) : Bool := match x.rf with
 | true => x.ro.any (Nat.beq c)
 | false => isLd a
def rov (x y : Dop) (a b : Oper) : Bool := (x.n :: x.fp).all fun c => !(y.n :: y.fp).any (Nat.beq c) || (keeps1 x a c && keeps1 y b c)
def okC2 (x y : Dop) (a b : Oper) : Bool := (!x.rf && !y.rf && okC (kls a) (kls b)) || (rov x y a b || (!y.rf && Nat.beq (kls b) 0 || !x.rf && Nat.beq (kls a) 0))
def okR (ops : Array Oper) (x y : Dop) : Bool := match ops[x.k]?, ops[y.k]? with
 | some a, some b => ((a.apart ops b && okC2 x y a b) || pathO ops 8 y.k x.k) && a.after.toList.all (fun e => !Region.binds .any e || !Nat.beq e.on y.k) && !Nat.beq x.k y.k
 | _, _ => false
def okS (ops : Array Oper) (x : Nat) : Bool := match ops[x]? with
 | some a => a.after.toList.all fun e => !Region.binds .any e || (Nat.blt e.on ops.size && !Nat.beq e.on x)
 | none => false
def okLs (ops : Array Oper) : List Dop → Bool
 | [] => true
 | x :: L => okS ops x.k && L.all (fun y => okR ops x y) && okLs ops L
def okTwo (L : List Dop) (n : Nat) : Bool := L.all fun x => !x.fp.any (Nat.beq (x.n + 1)) || (Nat.blt (x.n + 1) n && L.all fun y => !Nat.beq y.n (x.n + 1))
def okDraw (ops : Array Oper) (L : List Dop) (n : Nat) : Bool := okLs ops L && (List.range ops.size).all (fun k => (L.map (·.k)).contains k) && Nat.ble L.length ops.size && okTwo L n
def Dop.own (x : Dop) (c : Nat) : Prop := ownN x.n x.fp c
def Dj (x y : Dop) : Prop := ∀ c, x.own c → ¬ y.own c
theorem okTwo_out {L : List Dop} {n : Nat} (h : okTwo L n = true) {x : Dop} (hx : x ∈ L) (h2 : x.n + 1 ∈ x.fp) : x.n + 1 < n ∧ ∀ y ∈ L, y.n ≠ x.n + 1 := by
 unfold okTwo at h
 rw [List.all_eq_true] at h
 have := h x hx
 rw [Bool.or_eq_true] at this
 rcases this with h3 | h3
 ·have : x.fp.any (Nat.beq (x.n + 1)) = true := List.any_eq_true.2 ⟨_, h2, by simp⟩
  rw [this] at h3; cases h3
 ·rw [Bool.and_eq_true, List.all_eq_true] at h3
  refine ⟨by simpa [Nat.blt_eq] using h3.1, fun y hy e => ?_⟩
  have := h3.2 y hy
  rw [e] at this
  simp at this
theorem dj_of {L : List Dop} {n : Nat} (h : okTwo L n = true) (hd : (L.map (·.n)).Nodup) : L.Pairwise Dj := by
 have key : ∀ {x y : Dop}, x ∈ L → y ∈ L → x.n ≠ y.n → Dj x y := by
  intro x y hx hy hne c h1 h2
  rcases h1 with h1 | ⟨h1, h4⟩ <;> rcases h2 with h2 | ⟨h2, h3⟩
  ·exact hne (by omega)
  ·exact (okTwo_out h hy (h2 ▸ h3)).2 x hx (by omega)
  ·exact (okTwo_out h hx (h1 ▸ h4)).2 y hy (by omega)
  ·exact hne (by omega)
 have hp : L.Pairwise fun x y => x.n ≠ y.n := List.pairwise_map.1 hd
 exact List.Pairwise.imp_of_mem (fun hx hy hne => key hx hy hne) hp
theorem okLs_spec {ops : Array Oper} : ∀ {L : List Dop}, okLs ops L = true → L.Pairwise (fun x y => okR ops x y = true) ∧ ∀ x ∈ L, okS ops x.k = true
 | [], _ => ⟨.nil, fun _ h => nomatch h⟩
 | x :: L, h => by
  simp only [okLs, Bool.and_eq_true, List.all_eq_true] at h
  obtain ⟨h1, h2⟩ := okLs_spec h.2
  refine ⟨.cons h.1.2 h1, fun y hy => ?_⟩
  rcases List.mem_cons.1 hy with rfl | hy
  ·exact h.1.1
  ·exact h2 y hy
section
variable {Pg : Program} {T : Tab} {N : Nat} {ents : List FuncId} {G : GS} {ops : Array Oper} {e e' : Nat → Option MV} {m m' : FM} {listed : Array Bool}
theorem keeps1_ok {x : Dop} {a : Oper} {c : Nat} {m1 : FM} {e1 : Nat → Option MV} (h : keeps1 x a c = true) (h1 : stepF Pg T N ents G ops x.rf a x.n x.fp e m e1 m1) (h2 : x.rf = true → ∀ c ∈ x.ro, m1 c = m c) : m1 c = m c := by
 unfold keeps1 at h
 split at h
 ·rename_i hr
  obtain ⟨d, hd, hc⟩ := List.any_eq_true.1 h
  rw [Nat.eq_of_beq_eq_true hc]; exact h2 hr d hd
 ·rename_i hr
  rw [hr] at h1
  rw [ld_keep h h1]
theorem step_swap {x y : Dop} {a b : Oper} {e1 e2 : Nat → Option MV} {m1 m2 : FM} (hm : ∃ M, VM.get M = m) (h1 : stepF Pg T N ents G ops x.rf a x.n x.fp e m e1 m1) (k1 : x.rf = true → ∀ c ∈ x.ro, m1 c = m c) (h2 : stepF Pg T N ents G ops y.rf b y.n y.fp e1 m1 e2 m2) (k2 : y.rf = true → ∀ c ∈ y.ro, m2 c = m1 c) (ha : a.apart ops b = true) (hc : okC2 x y a b = true) (hij : x.n ≠ y.n) (hi : m x.n = none) (hj : m y.n = none) :
  ∃ e' m', stepF Pg T N ents G ops y.rf b y.n y.fp e m e' m' ∧ (y.rf = true → ∀ c ∈ y.ro, m' c = m c) ∧ stepF Pg T N ents G ops x.rf a x.n x.fp e' m' e2 m2 ∧ (x.rf = true → ∀ c ∈ x.ro, m2 c = m' c) := by
 obtain ⟨M, rfl⟩ := hm
 unfold okC2 at hc
 rw [Bool.or_eq_true] at hc
 rcases hc with hc | hc
 ·simp only [Bool.and_eq_true, Bool.not_eq_true'] at hc
  obtain ⟨⟨q1, q2⟩, q3⟩ := hc
  rw [q1] at h1 ⊢
  rw [q2] at h2 ⊢
  obtain ⟨e', m', s1, s2⟩ := step_swapV h1 h2 ha q3 hij hi hj
  exact ⟨e', m', s1, fun h => (nomatch h), s2, fun h => nomatch h⟩
 ·rw [Bool.or_eq_true] at hc
  rcases hc with hc | hc
  ·obtain ⟨e', m', s1, s2, s3, s4⟩ := step_swapO h1 h2 ha fun c hx hy => by
    unfold rov at hc
    rw [List.all_eq_true] at hc
    have := hc c (by rcases hx with h | h <;> simp [h])
    rw [Bool.or_eq_true, Bool.and_eq_true, Bool.not_eq_true'] at this
    rcases this with h | ⟨h3, h4⟩
    ·exfalso
     have : (y.n :: y.fp).any (Nat.beq c) = true := List.any_eq_true.2 ⟨c, by rcases hy with h | h <;> simp [h], by simp⟩
     rw [this] at h; cases h
    ·exact ⟨keeps1_ok h3 h1 k1, keeps1_ok h4 h2 k2⟩
   exact ⟨e', m', s1, fun h c hc => s3 c (k2 h c hc), s2, fun h c hc => s4 c (k1 h c hc)⟩
  ·rw [Bool.or_eq_true] at hc
   rcases hc with hc | hc
   ·simp only [Bool.and_eq_true, Bool.not_eq_true'] at hc
    obtain ⟨q1, q2⟩ := hc
    rw [q1] at h2 ⊢
    have hm2 := (pure_step (Nat.eq_of_beq_eq_true q2) h2).1
    obtain ⟨e', m', s1, s2⟩ := step_swapP h1 h2 ha (Nat.eq_of_beq_eq_true q2)
    have hm' := (pure_step (Nat.eq_of_beq_eq_true q2) s1).1
    exact ⟨e', m', s1, fun h => (nomatch h), s2, fun h c hc => by rw [hm2, hm']; exact k1 h c hc⟩
   ·simp only [Bool.and_eq_true, Bool.not_eq_true'] at hc
    obtain ⟨q1, q2⟩ := hc
    rw [q1] at h1 ⊢
    have hm1 := (pure_step (Nat.eq_of_beq_eq_true q2) h1).1
    obtain ⟨e', m', s1, s2⟩ := step_swapQ h1 h2 ha (Nat.eq_of_beq_eq_true q2)
    have hm' := (pure_step (Nat.eq_of_beq_eq_true q2) s2).1
    exact ⟨e', m', s1, fun h c hc => by rw [← hm', k2 h c hc, hm1], s2, fun h => nomatch h⟩
theorem stepF_none {o : Oper} {rf : Bool} {fp : List Nat} {n c : Nat} (hm0 : ∃ M, VM.get M = m) (h : stepF Pg T N ents G ops rf o n fp e m e' m') (hm : m c = none) (hc0 : ¬ ownN n fp c) : m' c = none := by
 have hc : c ≠ n := fun e => hc0 (.inl e)
 obtain ⟨r, _, _, h⟩ := h
 cases rf with
 | false => obtain ⟨δ, _, rfl, _⟩ := h; exact appF_none hm hc
 | true =>
  obtain ⟨M0, rfl⟩ := hm0
  obtain ⟨b, h1, h2, h3⟩ := h
  cases b with
  | false => rw [(h3 rfl).2]; exact hm
  | true =>
   have h := h2 rfl
   unfold refF at h
   split at h
   ·split at h
    ·unfold vArgsF rd at h
     split at h
     ·obtain ⟨vs, _, h⟩ := rds_some h
      split at h
      ·obtain ⟨_, M, hM, args, M0', n0, res, M1, n1, _, σ, bs, hL, hin, hk, htw, _, _, _, hm'⟩ := h
       rw [← hm', get_app, ren_key fun z hz => ?_]
       ·cases hx : VM.get (delM (VM.bump M bs) σ) c with
        | none => rfl
        | some b =>
         obtain ⟨h4, _⟩ := get_delM σ _ c b hx
         obtain ⟨b', h5⟩ := bump_get h4
         rw [hM, hm] at h5; cases h5
       ·cases hd : sig σ z.1 with
        | none => exact fun h => newZ hk htw hz hd (h ▸ hc0)
        | some d =>
        unfold rhoZ
        rw [hd]
        rintro rfl
        obtain ⟨b', hb'⟩ := allIn_mem hin z.1 d (sig_mem hd)
        rw [hM, hm] at hb'; cases hb'
      ·exact h.elim
     ·exact h.elim
    ·exact h.elim
   ·exact h.elim
theorem runL_front : ∀ {L1 : List Dop} {L2 : List Dop} {k : Dop} {e : Nat → Option MV} {m : FM}, (∃ M, VM.get M = m) → runL Pg T N ents G ops (L1 ++ k :: L2) e m e' m' →
  (∀ x ∈ L1, ∃ a b, ops[x.k]? = some a ∧ ops[k.k]? = some b ∧ a.apart ops b = true ∧ okC2 x k a b = true) → (∀ x ∈ L1, Dj x k ∧ m x.n = none) → m k.n = none → L1.Pairwise Dj →
  ∃ o e1 m1, ops[k.k]? = some o ∧ (stepF Pg T N ents G ops k.rf o k.n k.fp e m e1 m1 ∧ (k.rf = true → ∀ c ∈ k.ro, m1 c = m c)) ∧ runL Pg T N ents G ops (L1 ++ L2) e1 m1 e' m'
 | [], _, _, _, _, _, h, _, _, _, _ => h
 | x :: L1, L2, k, e, m, hv, h, hc, hn, hk, hd => by
  obtain ⟨o, e1, m1, h1, ⟨h2, kx⟩, h3⟩ := h
  obtain ⟨hx1, hx2⟩ := hn x (by simp)
  obtain ⟨hd1, hd2⟩ := List.pairwise_cons.1 hd
  have no : ∀ {y : Dop}, Dj x y → ¬ ownN x.n x.fp y.n := fun {y} hy h => hy y.n h (.inl rfl)
  have hv1 : ∃ M, VM.get M = m1 := by obtain ⟨M, rfl⟩ := hv; exact step_vm h2
  obtain ⟨o', e2, m2, h4, ⟨h5, ky⟩, h6⟩ := runL_front hv1 h3 (fun y hy => hc y (by simp [hy])) (fun y hy => ⟨(hn y (by simp [hy])).1, stepF_none hv h2 (hn y (by simp [hy])).2 (no (hd1 y hy))⟩) (stepF_none hv h2 hk (no hx1)) hd2
  obtain ⟨a, b, p1, p2, p3, p4⟩ := hc x (by simp)
  rw [h1] at p1; injection p1 with p1; subst p1
  rw [h4] at p2; injection p2 with p2; subst p2
  obtain ⟨e3, m3, q1, r1, q2, r2⟩ := step_swap hv h2 kx h5 ky p3 p4 (fun e => hx1 x.n (.inl rfl) (.inl e)) hx2 hk
  exact ⟨o', e3, m3, h4, ⟨q1, r1⟩, o, e2, m2, h1, ⟨q2, r2⟩, h6⟩
def ClosedO (ops : Array Oper) (listed : Array Bool) : Prop := ∀ k o, ops[k]? = some o → listed.getD k false = true → ∀ e ∈ o.after.toList, Region.binds .any e = true → listed.getD e.on false = true
theorem pathO_false (hc : ClosedO ops listed) {x : Nat} (hx : listed.getD x false = false) : ∀ (f y : Nat) (o : Oper), ops[y]? = some o → (∀ e ∈ o.after.toList, Region.binds .any e = true → listed.getD e.on false = true) → pathO ops f y x = false
 | 0, _, _, _, _ => rfl
 | f + 1, y, o, h1, h2 => by
  unfold pathO
  rw [h1]
  show (o.after.toList.any _) = false
  rw [List.any_eq_false]
  intro e he
  cases hb : Region.binds .any e with
  | false => simp
  | true =>
   have hl := h2 e he hb
   have hne : Nat.beq e.on x = false := by
    cases hh : Nat.beq e.on x with
    | false => rfl
    | true => rw [Nat.eq_of_beq_eq_true hh, hx] at hl; cases hl
   cases ho : ops[e.on]? with
   | none =>
    have : pathO ops f e.on x = false := by
     cases f with
     | zero => rfl
     | succ f => unfold pathO; rw [ho]
    simp [hne, this]
   | some o' =>
    have := pathO_false hc hx f e.on o' ho (hc _ _ ho hl)
    simp [hne, this]
theorem getD_set {l : Array Bool} {i k : Nat} {d : Bool} (hi : i < l.size) : (l.setIfInBounds i true).getD k d = if i = k then true else l.getD k d := by
 by_cases h : i = k
 ·subst h; simp [Array.getD, hi]
 ·simp [Array.getD_eq_getD_getElem?, h]
theorem ready_out {i : Nat} (h : i ∈ Region.ready .any ops listed) : listed.getD i true = false ∧ ∃ o, ops[i]? = some o ∧ ∀ e ∈ o.after.toList, Region.binds .any e = true → listed.getD e.on false = true := by
 simp only [Region.ready, List.mem_filter, List.mem_range, Bool.and_eq_true, Bool.not_eq_true'] at h
 obtain ⟨h1, h2, h3⟩ := h
 have ho : ops[i]? = some ops[i] := by simp [h1]
 refine ⟨h2, ops[i], ho, fun e he hb => ?_⟩
 rw [ho] at h3
 simp only [Option.map_some, Option.getD_some, Array.all_eq_true'] at h3
 have := h3 e (by simpa using he)
 simpa [hb] using this
theorem ready_in {i : Nat} {o : Oper} (h1 : listed.getD i true = false) (h2 : ops[i]? = some o) (h3 : ∀ e ∈ o.after.toList, Region.binds .any e = true → listed.getD e.on false = true) : i ∈ Region.ready .any ops listed := by
 simp only [Region.ready, List.mem_filter, List.mem_range, Bool.and_eq_true, Bool.not_eq_true']
 refine ⟨(Array.getElem?_eq_some_iff.1 h2).1, h1, ?_⟩
 rw [h2]
 simp only [Option.map_some, Option.getD_some, Array.all_eq_true']
 intro e he
 cases hb : Region.binds .any e with
 | false => rfl
 | true => simp [h3 e (by simpa using he) hb]
end
end
section
section
variable {Pg : Program} {T : Tab} {N : Nat} {ents : List FuncId} {G : GS} {ops : Array Oper} {e' : Nat → Option MV} {m' : FM} {w0 : World} {ex0 : Anc} {P0 : Prot} {Q : Exit → Act → World → Prop} {Z : Nat → Prop}
theorem okR_out {x y : Dop} (h : okR ops x y = true) : ∃ a b, ops[x.k]? = some a ∧ ops[y.k]? = some b ∧ ((a.apart ops b = true ∧ okC2 x y a b = true) ∨ pathO ops 8 y.k x.k = true) ∧ (∀ e ∈ a.after.toList, Region.binds .any e = true → e.on ≠ y.k) ∧ x.k ≠ y.k := by
 unfold okR at h
 split at h
 ·rename_i a b ha hb
  simp only [Bool.and_eq_true, Bool.or_eq_true, List.all_eq_true, Bool.not_eq_true'] at h
  obtain ⟨⟨h1, h2⟩, h3⟩ := h
  refine ⟨a, b, ha, hb, h1, fun e he hbd hh => ?_, fun hh => ?_⟩
  ·rcases h2 e he with h | h
   ·rw [hbd] at h; cases h
   ·rw [hh] at h; simp at h
  ·rw [hh] at h3; simp at h3
 ·cases h
theorem okS_out {x : Nat} (h : okS ops x = true) : ∃ a, ops[x]? = some a ∧ ∀ e ∈ a.after.toList, Region.binds .any e = true → e.on < ops.size ∧ e.on ≠ x := by
 unfold okS at h
 split at h
 ·rename_i a ha
  simp only [List.all_eq_true, Bool.or_eq_true, Bool.and_eq_true, Bool.not_eq_true'] at h
  refine ⟨a, ha, fun e he hb => ?_⟩
  rcases h e he with h | ⟨h1, h2⟩
  ·rw [hb] at h; cases h
  ·refine ⟨by simpa [Nat.blt_eq] using h1, fun hh => ?_⟩
   subst hh; simp at h2
 ·cases h
theorem getD_any {l : Array Bool} {k : Nat} {d d' : Bool} (h : k < l.size) : l.getD k d = l.getD k d' := by simp [Array.getD, h]
theorem any_ok (hS : SeatM Pg T ents G w0 ex0) (hQ : ∀ a w, SimS N w0 ex0 P0 e' m' Z a w → Q .normal a w) : ∀ (fuel : Nat) (L : List Dop) {listed : Array Bool} {e : Nat → Option MV} {m : FM} {a : Act} {w : World},
  (∃ M, VM.get M = m) → runL Pg T N ents G ops L e m e' m' → L.Pairwise (fun x y => okR ops x y = true) → (∀ x ∈ L, okS ops x.k = true) → L.Pairwise Dj → (∀ x ∈ L, ∀ c, x.own c → ¬ Z c) →
  SimS N w0 ex0 P0 e m (fun c => (∃ x ∈ L, x.own c) ∨ Z c) a w → (∀ k, k < ops.size → (listed.getD k true = false ↔ k ∈ L.map (·.k))) → listed.size = ops.size → ClosedO ops listed → L.length ≤ fuel → wpAny Pg .any ops Q fuel listed a w := by
 intro fuel
 induction fuel with
 | zero =>
  intro L listed e m a w hv hr hP hA hD hZ hs hl hsz hc hlen
  obtain rfl : L = [] := List.length_eq_zero_iff.1 (by omega)
  obtain ⟨rfl, rfl⟩ := hr
  refine wpAny_done (List.eq_nil_iff_forall_not_mem.2 fun i hi => ?_) (hQ a w (by simpa using hs)) 0
  obtain ⟨h1, o, h2, _⟩ := ready_out hi
  exact absurd ((hl i (Array.getElem?_eq_some_iff.1 h2).1).1 h1) (by simp)
 | succ fuel ih =>
  intro L listed e m a w hv hr hP hA hD hZ hs hl hsz hc hlen
  have hunl : ∀ x ∈ L, listed.getD x.k true = false ∧ listed.getD x.k false = false := by
   intro x hx
   obtain ⟨o, ho, _⟩ := okS_out (hA x hx)
   have hlt := (Array.getElem?_eq_some_iff.1 ho).1
   have h1 := (hl x.k hlt).2 (List.mem_map_of_mem hx)
   exact ⟨h1, by rw [getD_any (d' := true) (by omega)]; exact h1⟩
  refine ⟨fun h0 => ?_, fun i hi => ?_⟩
  ·cases L with
   | nil =>
    obtain ⟨rfl, rfl⟩ := hr
    exact hQ a w (by simpa using hs)
   | cons x L =>
    exfalso
    obtain ⟨o, ho, h2⟩ := okS_out (hA x (by simp))
    have : x.k ∈ Region.ready .any ops listed := ready_in (hunl x (by simp)).1 ho fun ed he hb => by
     obtain ⟨h3, h4⟩ := h2 ed he hb
     rw [getD_any (d' := true) (by omega)]
     cases hh : listed.getD ed.on true with
     | true => rfl
     | false =>
      exfalso
      have := (hl ed.on h3).1 hh
      simp only [List.map_cons, List.mem_cons] at this
      rcases this with h5 | h5
      ·exact h4 h5
      ·obtain ⟨y, hy, hyk⟩ := List.mem_map.1 h5
       obtain ⟨a', b', p1, p2, p3, p4, p5⟩ := okR_out ((List.pairwise_cons.1 hP).1 y hy)
       rw [ho] at p1
       injection p1 with p1
       subst p1
       exact p4 ed he hb hyk.symm
    rw [h0] at this
    cases this
  ·obtain ⟨h1, o, ho, hready⟩ := ready_out hi
   have hlt := (Array.getElem?_eq_some_iff.1 ho).1
   have hmem := (hl i hlt).1 h1
   obtain ⟨k, hk, rfl⟩ := List.mem_map.1 hmem
   obtain ⟨L1, L2, rfl⟩ := List.append_of_mem hk
   have hP1 := List.pairwise_append.1 hP
   have hD1 := List.pairwise_append.1 hD
   have hD2 := List.pairwise_cons.1 hD1.2.1
   have hP2 := List.pairwise_cons.1 hP1.2.1
   have hne1 : ∀ x ∈ L1, Dj x k := fun x hx => hD1.2.2 x hx k (by simp)
   have hne2 : ∀ x ∈ L2, Dj k x := fun x hx => hD2.1 x hx
   obtain ⟨o', e1, m1, p1, ⟨p2, _⟩, p3⟩ := runL_front hv hr (fun x hx => by
     obtain ⟨a', b', q1, q2, q3, _⟩ := okR_out (hP1.2.2 x hx k (by simp))
     refine ⟨a', b', q1, q2, ?_⟩
     rcases q3 with q3 | q3
     ·exact q3
     ·rw [pathO_false hc (hunl x (by simp [hx])).2 8 k.k o ho hready] at q3; cases q3)
    (fun x hx => ⟨hne1 x hx, hs.fresh _ (.inl ⟨x, by simp [hx], .inl rfl⟩)⟩) (hs.fresh _ (.inl ⟨k, by simp, .inl rfl⟩)) hD1.1
   rw [ho] at p1
   injection p1 with p1
   subst p1
   have hv1 : ∃ M, VM.get M = m1 := by obtain ⟨M, rfl⟩ := hv; exact step_vm p2
   unfold wpOp
   rw [ho]
   refine stepF_out (F' := fun c => (∃ x ∈ L1 ++ L2, x.own c) ∨ Z c) hS hs (.inl ⟨k, by simp, .inl rfl⟩) (fun h => .inl ⟨k, by simp, .inr ⟨rfl, h⟩⟩) (fun c hc' => ?_) p2 fun a' w' hs' => ?_
   ·rcases hc' with ⟨x, hx, ho'⟩ | hc'
    ·rcases List.mem_append.1 hx with hx | hx
     ·exact ⟨.inl ⟨x, by simp [hx], ho'⟩, hne1 x hx c ho'⟩
     ·exact ⟨.inl ⟨x, by simp [hx], ho'⟩, fun h => hne2 x hx c h ho'⟩
    ·exact ⟨.inr hc', fun hh => hZ k hk c hh hc'⟩
   ·have hnk : ∀ j, j ∈ (L1 ++ L2).map (·.k) → k.k ≠ j := by
     intro j hj
     obtain ⟨y, hy, rfl⟩ := List.mem_map.1 hj
     rcases List.mem_append.1 hy with hy | hy
     ·obtain ⟨_, _, _, _, _, _, q⟩ := okR_out (hP1.2.2 y hy k (by simp)); exact fun h => q h.symm
     ·obtain ⟨_, _, _, _, _, _, q⟩ := okR_out (hP2.1 y hy); exact q
    refine ih (L1 ++ L2) hv1 p3 ?_ (fun x hx => hA x ?_) ?_ (fun x hx => hZ x ?_) hs' (fun j hj => ?_) (by simpa using hsz) ?_ ?_
    ·exact List.pairwise_append.2 ⟨hP1.1, hP2.2, fun x hx y hy => hP1.2.2 x hx y (by simp only [List.mem_cons]; exact .inr hy)⟩
    ·rcases List.mem_append.1 hx with hx | hx <;> simp [hx]
    ·exact List.pairwise_append.2 ⟨hD1.1, hD2.2, fun x hx y hy => hD1.2.2 x hx y (by simp only [List.mem_cons]; exact .inr hy)⟩
    ·rcases List.mem_append.1 hx with hx | hx <;> simp [hx]
    ·rw [getD_set (by omega)]
     by_cases hkj : k.k = j
     ·rw [if_pos hkj]
      exact ⟨fun h => (by cases h), fun h => absurd hkj (hnk j h)⟩
     ·rw [if_neg hkj, hl j hj]
      simp only [List.map_append, List.map_cons, List.mem_append, List.mem_cons]
      constructor
      ·rintro (h | h | h)
       ·exact .inl h
       ·exact absurd h.symm hkj
       ·exact .inr h
      ·rintro (h | h)
       ·exact .inl h
       ·exact .inr (.inr h)
    ·intro j oj hj hjl ed he hb
     rw [getD_set (by omega)] at hjl ⊢
     split
     ·rfl
     ·split at hjl
      ·rename_i hkj
       subst hkj
       rw [ho] at hj
       injection hj with hj
       subst hj
       exact hready ed he hb
      ·exact hc j oj hj hjl ed he hb
    ·simp only [List.length_append, List.length_cons] at hlen ⊢
     omega
end
end
section
section
variable {Pg : Program} {T : Tab} {N : Nat} {ents : List FuncId} {G : GS} {ops : Array Oper} {E : VE} {M : VM} {n : Nat} {o : Oper}
theorem vCallF_dom {e : Nat → Option MV} {m : FM} {f : Operand} {args : List Operand} {K : FuncId × List MV × List (Nat × Nat) → Prop} (h : (vCallF e m f args).runP K) : (vCallF e m f args).runP fun x => K x ∧ ∀ c ∈ x.2.2, m c.1 ≠ none := by
 unfold vCallF at h ⊢
 unfold rd at h ⊢
 split at h
 ·have key : ∀ (az : List Operand) (k : List MV → Ask (FuncId × List MV × List (Nat × Nat))) (K K' : FuncId × List MV × List (Nat × Nat) → Prop), (∀ vs, (k vs).runP K → (k vs).runP K') → (rds e az k).runP K → (rds e az k).runP K' := by
   intro az
   induction az with
   | nil => intro k K K' hk h; exact hk _ h
   | cons x az ih =>
    intro k K K' hk h
    unfold rds rd at h ⊢
    split at h
    ·exact ih _ K K' (fun vs h => hk _ h) h
    ·exact h.elim
  refine key _ _ _ _ (fun vs hk => ?_) h
  split at hk
  ·exact frzs_weak (frzs_same (SameB.refl m) (Ask.bind_runP.1 hk)) fun x hx => ⟨hx.1, hx.2⟩
  ·exact hk.elim
 ·exact h.elim
theorem vRun_toF {E2 : VE} {K : MV → VM → Prop} (h : vRun Pg T ents G o E2 M n K) : ∃ r δ, runF Pg T ents G o (VE.get E2) (VM.get M) n r δ ∧ K r (δ.app n M) := by
 have plain : (eOp Pg T (VE.get E2) (VM.get M) n o).runP (fun x => K x.1 (x.2.app n M)) → ∃ r δ, (eOp Pg T (VE.get E2) (VM.get M) n o).runP (fun x => x = (r, δ)) ∧ K r (δ.app n M) := by
  intro h
  obtain ⟨⟨r, δ⟩, h1, h2, _⟩ := sharp_eOp Pg T (VE.get E2) (VM.get M) n o _ h
  exact ⟨r, δ, h1, h2⟩
 obtain ⟨dst, op, ty, pos, after, guard⟩ := o
 cases op with
 | call c =>
  obtain ⟨callee, args, ats⟩ := c
  cases callee with
  | value f =>
   replace h : (vCallF (VE.get E2) (VM.get M) f args.toList).runP fun x => match ents.contains x.1 with | true => ∃ res, SemC Pg G x.1 x.2.1 res ∧ K res (VM.bump M x.2.2) | false => False := h
   obtain ⟨x, h1, ⟨h2, h3⟩, h4⟩ := sharp_vCall E2 M f args.toList _ (vCallF_dom h)
   split at h2
   ·rename_i hc
    obtain ⟨res, hsem, hk⟩ := h2
    exact ⟨res, .bump x.2.2, h4 _ ⟨hc, hsem, rfl, h3⟩, hk⟩
   ·exact h2.elim
  | _ => exact plain h
 | _ => exact plain h
theorem vPut_toF {dst : Option Tmp} {r : MV} {K : VE → Prop} (h : vPut N dst r E K) : ∃ E1, K E1 ∧ (∀ d, dst = some d → d < N) ∧ VE.get E1 = putF dst r (VE.get E) := by
 unfold vPut at h
 split at h
 ·exact ⟨E, h, fun d hd => (nomatch hd), rfl⟩
 ·rename_i d
  split at h
  ·rename_i hd
   refine ⟨_, h, fun d' hd' => ?_, ?_⟩
   ·injection hd' with hd'; subst hd'; simpa [Nat.blt_eq] using hd
   ·funext t
    rw [VE.get_cons]
    show _ = fput _ d r t
    unfold fput
    by_cases ht : d = t
    ·subst ht; simp
    ·rw [if_neg ht, if_neg fun h => ht h.symm]
  ·exact h.elim
theorem get_know {s : Nat} {v : MV} (h : VE.get E s = some v) : VE.get ((s, v) :: E) = VE.get E := by
 funext t
 rw [VE.get_cons]
 split
 ·rename_i hh; subst hh; exact h.symm
 ·rfl
section
variable (Pg : Program) (T : Tab) (N : Nat) (ents : List FuncId) (G : GS)
def vRunD (rf : Bool) (o : Oper) (E : VE) (M : VM) (n : Nat) (K : MV → VM → List Nat → Prop) : Prop := match rf with
 | false => vRun Pg T ents G o E M n fun r M' => K r M' (numsO (VE.get E) o.op.operands.toList)
 | true => match o.op with
  | .call c => match c.callee with
   | .value f => (vArgs E f c.args.toList).runP fun x => match ents.contains x.1 with
    | true => ∃ fp, vCallZ Pg G M n x.1 x.2 fp fun r M' => K r M' fp
    | false => False
   | _ => False
  | _ => False
def vOpD (ops : Array Oper) (rf : Bool) (o : Oper) (K : List Nat → VE → VM → Prop) (E : VE) (M : VM) (n : Nat) : Prop := match o.guard with
 | none => vRunD Pg T ents G rf o E M n fun r M fp => vPut N o.dst r E fun E => K fp E M
 | some (j, want) => match (ops[j]?).bind (·.dst) with
  | none => False
  | some s => match VE.get E s with
   | some (.bool t) =>
    (t = want → vRunD Pg T ents G rf o ((s, .bool want) :: E) M n fun r M fp => vPut N o.dst r ((s, .bool want) :: E) fun E => K fp E M) ∧
    (t = !want → vPut N o.dst .undef ((s, .bool (!want)) :: E) fun E' => K (bif rf then [] else numsO (VE.get E) o.op.operands.toList) E' M)
   | some .undef => vPut N o.dst .undef E fun E' => K (bif rf then [] else numsO (VE.get E) o.op.operands.toList) E' M
   | _ => False
def vOpsD (ops : Array Oper) : List (Nat × Bool) → List Dop → VK → VE → VM → Nat → Prop
 | [], A, K => fun E M n => okDraw ops A.reverse n = true ∧ K E M n
 | x :: L, A, K => fun E M n => match ops[x.1]? with
  | some o => vOpD Pg T N ents G ops x.2 o (fun fp E M => vOpsD ops L (⟨x.1, n, x.2, fp, []⟩ :: A) K E M (n + 1)) E M n
  | none => vOpsD ops L A K E M (n + 1)
end
theorem vRunD_toF {rf : Bool} {E2 : VE} {K : MV → VM → List Nat → Prop} {_D : VE} (h : vRunD Pg T ents G rf o E2 M n K) (hg : gdF ops o (VE.get E2) = some true) (hd : ∀ d, o.dst = some d → d < N) : ∃ r M' fp, K r M' fp ∧ stepF Pg T N ents G ops rf o n fp (VE.get E2) (VM.get M) (putF o.dst r (VE.get E2)) (VM.get M') := by
 cases rf with
 | false =>
  obtain ⟨r, δ, h1, h2⟩ := vRun_toF (K := fun r M' => K r M' (numsO (VE.get E2) o.op.operands.toList)) h
  exact ⟨r, δ.app n M, _, h2, r, hd, rfl, δ, ⟨true, hg, fun _ => h1, fun h => nomatch h⟩, Dl.get_app _ _ _, rfl⟩
 | true =>
  have hd' := hd
  obtain ⟨dst, op, ty, pos, after, guard⟩ := o
  unfold vRunD at h
  cases op with
  | call c =>
   obtain ⟨callee, args, ats⟩ := c
   cases callee with
   | value f =>
    replace h : (vArgsF (VE.get E2) f args.toList).runP fun x => match ents.contains x.1 with | true => ∃ fp, vCallZ Pg G M n x.1 x.2 fp fun r M' => K r M' fp | false => False := h
    unfold vArgsF at h
    obtain ⟨x, h1, h2, h3⟩ := (Sharp.rd fun fv => Sharp.rds fun vs => by cases fv <;> first | exact Sharp.ret _ | exact Sharp.bad) _ h
    split at h2
    ·rename_i hc
     obtain ⟨fp, args', M0, n0, res, M1, n1, a1, σ, bs, a2, a3, a4, a8, a5, a6, a7⟩ := h2
     refine ⟨_, _, fp, a7, _, hd', rfl, true, hg, fun _ => ?_, fun h => nomatch h⟩
     show (vArgsF (VE.get E2) f args.toList).runP _
     unfold vArgsF
     exact h3 _ ⟨hc, M, rfl, args', M0, n0, res, M1, n1, a1, σ, bs, a2, a3, a4, a8, a5, a6, rfl, rfl⟩
    ·exact h2.elim
   | _ => exact h.elim
  | _ => exact h.elim
theorem vPut_dst {dst : Option Tmp} {r : MV} {K : VE → Prop} (h : vPut N dst r E K) : ∀ d, dst = some d → d < N := by
 intro d hd
 subst hd
 unfold vPut at h
 split at h
 ·rename_i hh; cases hh
 ·rename_i d' hh
  injection hh with hh
  subst hh
  split at h
  ·rename_i hb; simpa [Nat.blt_eq] using hb
  ·exact h.elim
theorem vRunD_some {rf : Bool} {K : MV → VM → List Nat → Prop} (h : vRunD Pg T ents G rf o E M n K) : ∃ r M' fp, K r M' fp := by
 cases rf with
 | false => obtain ⟨r, δ, h1, h2⟩ := vRun_toF (K := fun r M' => K r M' (numsO (VE.get E) o.op.operands.toList)) h; exact ⟨_, _, _, h2⟩
 | true =>
  obtain ⟨dst, op, ty, pos, after, guard⟩ := o
  unfold vRunD at h
  cases op with
  | call c =>
   obtain ⟨callee, args, ats⟩ := c
   cases callee with
   | value f =>
    replace h : (vArgsF (VE.get E) f args.toList).runP fun x => match ents.contains x.1 with | true => ∃ fp, vCallZ Pg G M n x.1 x.2 fp fun r M' => K r M' fp | false => False := h
    unfold vArgsF at h
    obtain ⟨x, h1, h2, h3⟩ := (Sharp.rd fun fv => Sharp.rds fun vs => by cases fv <;> first | exact Sharp.ret _ | exact Sharp.bad) _ h
    split at h2
    ·obtain ⟨fp, args', M0, n0, res, M1, n1, a1, σ, bs, a2, a3, a4, a8, a5, a6, a7⟩ := h2
     exact ⟨_, _, _, a7⟩
    ·exact h2.elim
   | _ => exact h.elim
  | _ => exact h.elim
theorem vOpD_toF {rf : Bool} {K : List Nat → VE → VM → Prop} (h : vOpD Pg T N ents G ops rf o K E M n) : ∃ fp E1 M1, K fp E1 M1 ∧ stepF Pg T N ents G ops rf o n fp (VE.get E) (VM.get M) (VE.get E1) (VM.get M1) := by
 have run : ∀ {E2 : VE}, VE.get E2 = VE.get E → gdF ops o (VE.get E) = some true → (vRunD Pg T ents G rf o E2 M n fun r M fp => vPut N o.dst r E2 fun E => K fp E M) → ∃ fp E1 M1, K fp E1 M1 ∧ stepF Pg T N ents G ops rf o n fp (VE.get E) (VM.get M) (VE.get E1) (VM.get M1) := by
  intro E2 he hg h
  have hd : ∀ d, o.dst = some d → d < N := by obtain ⟨r, M', fp, h1⟩ := vRunD_some h; exact vPut_dst h1
  obtain ⟨r, M', fp, h1, h2⟩ := vRunD_toF (_D := E2) h (by rw [he]; exact hg) hd
  obtain ⟨E1, h3, h4, h5⟩ := vPut_toF h1
  rw [he] at h2 h5
  rw [← h5] at h2
  exact ⟨fp, E1, M', h3, h2⟩
 have skip : ∀ {E2 : VE}, VE.get E2 = VE.get E → gdF ops o (VE.get E) = some false → (vPut N o.dst .undef E2 fun E' => K (bif rf then [] else numsO (VE.get E) o.op.operands.toList) E' M) → ∃ fp E1 M1, K fp E1 M1 ∧ stepF Pg T N ents G ops rf o n fp (VE.get E) (VM.get M) (VE.get E1) (VM.get M1) := by
  intro E2 he hg h
  obtain ⟨E1, h3, h4, h5⟩ := vPut_toF h
  rw [he] at h5
  cases rf with
  | false => exact ⟨_, E1, M, h3, .undef, h4, h5, .none, ⟨false, hg, fun h => (nomatch h), fun _ => ⟨rfl, rfl⟩⟩, rfl, rfl⟩
  | true => exact ⟨_, E1, M, h3, .undef, h4, h5, false, hg, fun h => (nomatch h), fun _ => ⟨rfl, rfl⟩⟩
 unfold vOpD at h
 split at h
 ·rename_i hg
  exact run rfl (by simp [gdF, hg]) h
 ·rename_i j want hg
  split at h
  ·exact h.elim
  ·rename_i s hj
   split at h
   ·rename_i t ht
    by_cases hw : t = want
    ·exact run (get_know (by rw [ht, hw])) (by simp [gdF, hg, hj, ht, hw]) (h.1 hw)
    ·have hw' : t = !want := by cases t <;> cases want <;> simp_all
     exact skip (get_know (by rw [ht, hw'])) (by simp [gdF, hg, hj, ht, hw]) (h.2 hw')
   ·rename_i ht
    exact skip rfl (by simp [gdF, hg, hj, ht]) h
   ·exact h.elim
def NumB (n n' : Nat) (L : List Dop) : Prop := (L.map (·.n)).Nodup ∧ ∀ x ∈ L, n ≤ x.n ∧ x.n < n'
theorem vOpsD_toF : ∀ {L : List (Nat × Bool)} {A : List Dop} {K : VK} {E : VE} {M : VM} {n : Nat}, vOpsD Pg T N ents G ops L A K E M n →
  ∃ D E1 M1, okDraw ops (A.reverse ++ D) (n + L.length) = true ∧ NumB n (n + L.length) D ∧ K E1 M1 (n + L.length) ∧ runL Pg T N ents G ops D (VE.get E) (VM.get M) (VE.get E1) (VM.get M1)
 | [], A, K, E, M, n, h => ⟨[], E, M, by simpa using h.1, ⟨List.nodup_nil, fun _ h => nomatch h⟩, h.2, rfl, rfl⟩
 | x :: L, A, K, E, M, n, h => by
  unfold vOpsD at h
  split at h
  ·rename_i o ho
   obtain ⟨fp, E1, M1, h1, h2⟩ := vOpD_toF h
   obtain ⟨D, E2, M2, h3, h5, h6, h7⟩ := vOpsD_toF h1
   refine ⟨⟨x.1, n, x.2, fp, []⟩ :: D, E2, M2, by rw [List.length_cons, show n + (L.length + 1) = n + 1 + L.length by omega]; simpa using h3, ⟨List.nodup_cons.2 ⟨fun hm => ?_, h5.1⟩, fun y hy => ?_⟩, by rw [List.length_cons, show n + (L.length + 1) = n + 1 + L.length by omega]; exact h6, o, _, _, ho, ⟨h2, fun _ _ h => nomatch h⟩, h7⟩
   ·obtain ⟨y, hy, he⟩ := List.mem_map.1 hm
    have := (h5.2 y hy).1
    simp only at he
    omega
   ·rcases List.mem_cons.1 hy with rfl | hy
    ·simp
    ·have := h5.2 y hy
     simp only [List.length_cons]
     omega
  ·obtain ⟨D, E2, M2, h3, h5, h6, h7⟩ := vOpsD_toF h
   have e : n + (x :: L).length = n + 1 + L.length := by rw [List.length_cons]; omega
   rw [e]
   exact ⟨D, E2, M2, h3, ⟨h5.1, fun y hy => by have := h5.2 y hy; omega⟩, h6, h7⟩
end
end
section
inductive Rs (n0 : Nat) (K : VK) : VE → VM → Nat → Prop
 | go {E : VE} {M : VM} {n : Nat} (h : K E M n) : Rs n0 K E M n
 | re {E : VE} {M : VM} {n : Nat} (E' : VE) (M' : VM) (n' : Nat) (h : VMatch n0 E' M' n' E M) (k : K E' M' n') : Rs n0 K E M n
section
variable (Pg : Program) (T : Tab) (N : Nat) (ents : List FuncId) (G : GS) (n0 : Nat)
def vC : Code → (Exit → VK) → VK
 | .skip, Q, E, M, n => Q .normal E M n
 | .region _ ops draw, Q, E, M, n => match draw with
  | false => vOpsN Pg T N ents G ops ops.toList (Q .normal) E M n
  | true => ∃ L : List (Nat × Bool), vOpsD Pg T N ents G ops L [] (Q .normal) E M n
 | .seq x y, Q, E, M, n => vC x (fun e E M n => match e with | .normal => Rs n0 (vC y Q) E M n | e => Q e E M n) E M n
 | .cond c x y, Q, E, M, n => match evM (VE.get E) c with
  | some (.bool t) => (t = true → vC x Q E M n) ∧ (t = false → vC y Q E M n)
  | _ => False
 | .block id c, Q, E, M, n => vC c (fun e E M n => match e with | .exit i => (bif Nat.beq i id then Q .normal E M n else Q (.exit i) E M n) | e => Q e E M n) E M n
 | .loop c, Q, E, M, _ => ∃ (X : Type) (E' : X → VE) (M' : X → VM) (n' : Nat) (I : X → Prop) (μ : X → Nat),
   (∃ x, I x ∧ VMatch n0 (E' x) (M' x) n' E M) ∧
   ∀ x, I x → vC c (fun e E1 M1 n1 => match e with | .normal => ∃ x', I x' ∧ μ x' < μ x ∧ VMatch n0 (E' x') (M' x') n' E1 M1 | e => Q e E1 M1 n1) (E' x) (M' x) n'
 | .exit id, Q, E, M, n => Q (.exit id) E M n
 | .ret, Q, E, M, n => Q .ret E M n
 | .label _, Q, E, M, n => Q .normal E M n
 | _, _, _, _, _ => False
def tupM : List MV → MV
 | [v] => v
 | vs => .tup vs
def vRets (M : VM) (E : VE) : List ResultVar → (List MV → Prop) → Prop
 | [], K => K []
 | .tmp t :: l, K => match VE.get E t with
  | some v => vRets M E l fun r => K (v :: r)
  | none => False
 | .cell p ty :: l, K => match VE.get E p with
  | some p => (oLoad T (VM.get M) ty p).runP fun x => vRets M E l fun r => K (x.1 :: r)
  | none => False
def vRetQ (rs : List ResultVar) (R : MV → Prop) : Exit → VK := fun e E M _ => match e with
 | .ret | .normal => vRets T M E rs fun vs => (frzs (VM.get M) vs).runP fun x => R (tupM x.1)
 | _ => False
def vRetR (rs : List ResultVar) (res : MV) (M1 : VM) (n1 : Nat) : Exit → VK := fun e E M _ => match e with
 | .ret | .normal => vRets T M E rs fun vs => ∃ (rv : List MV) (σ bs : List (Nat × Nat)), tupM rv = res ∧ LMatch n0 rv M1 n1 vs M σ bs
 | _ => False
def vRetE (rs : List ResultVar) (Φ : MV → VM → Nat → Prop) : Exit → VK := fun e E M _ => match e with
 | .ret | .normal => vRets T M E rs fun vs => ∃ (res : MV) (M1 : VM) (n1 : Nat), Φ res M1 n1 ∧ ∃ (rv : List MV) (σ bs : List (Nat × Nat)), tupM rv = res ∧ LMatch n0 rv M1 n1 vs M σ bs
 | _ => False
end
section
variable {ops : Array Oper} {e : Nat → Option MV} {F F' : Nat → Prop} {Pg : Program} {T : Tab} {N : Nat} {ents : List FuncId} {G : GS} {w0 w w' : World} {ex0 : Anc} {P0 P : Prot} {adr : Adr} {E : VE} {M : VM} {m : FM} {n : Nat} {a : Act} {r : MV} {u : Value} {δ : Dl}
def PostM (N : Nat) (w0 : World) (ex0 : Anc) (P0 : Prot) (Q : Exit → VK) : Exit → Act → World → Prop := fun e a w => ∃ E M n, Q e E M n ∧ Sim N w0 ex0 P0 (VE.get E) (VM.get M) n a w
theorem SimS.drew (hs : SimS N w0 ex0 P0 e m F a w) : SimS N w0 ex0 P0 e m F a { w with drawn := w.drawn + 1 } := by
 obtain ⟨P, adr, hI, hE, ha1, ha2, ha3⟩ := hs.ex
 have hb : Below w.heap.size w { w with drawn := w.drawn + 1 } := ⟨rfl, rfl, rfl, Nat.le_refl _, fun _ _ => rfl⟩
 refine ⟨⟨protNew w { w with drawn := w.drawn + 1 } P, adr, hI.below hb, fun t v ht => ?_, ha1, ⟨ha2.in_, ha2.old, ha2.keep.trans (Keep.below hI.prot hb)⟩, fun b o ho => ?_⟩, hs.fresh, hs.ge, ⟨hs.since.os, hs.since.tape, hs.since.output, hs.since.size, hs.since.block⟩, hs.defers, hs.size⟩
 ·obtain ⟨u, h1, h2⟩ := hE t v ht
  exact ⟨u, h1, h2.keep (Keep.below hI.prot hb)⟩
 ·rcases ho with h | h
  ·exact ha3 b o h
  ·exact .inr (.inl (Nat.le_trans hs.since.size h.1))
theorem SimS.mono (hs : SimS N w0 ex0 P0 e m F a w) (hF : ∀ c, F' c → F c) : SimS N w0 ex0 P0 e m F' a w := by
 obtain ⟨P, adr, hI, hE, ha1, ha2, ha3⟩ := hs.ex
 exact ⟨⟨P, adr, hI, hE, fun c hc => ha1 c (hF c hc), ha2, ha3⟩, fun c hc => hs.fresh c (hF c hc), fun c hc => hs.ge c (hF c hc), hs.since, hs.defers, hs.size⟩
theorem vPut_sim {M' : VM} {n' : Nat} {w' : World} {P' : Prot} {adr' : Adr} (hd : a.defers = []) (hz : a.tmps.size = N) (hI : InvM w' P' adr' (VM.get M')) (hE : EnvR w' P' adr' (VE.get E) a) (hr : RepV w' P' adr' r u) (h1 : ∀ c, n' ≤ c → adr' c = none) (h2 : AdrOK w0 ex0 P0 w' P' adr')
  (h3 : ∀ b o, P' b o → P0 b o ∨ w0.heap.size ≤ b ∨ ex0.ex b) (h4 : ∀ c, n' ≤ c → VM.get M' c = none) (h5 : ex0.n0 ≤ n') (h6 : Since ex0.ex w0 w') {dst : Option Tmp} {K : VE → Prop} (hK : vPut N dst r E K) : ∃ E', K E' ∧ Sim N w0 ex0 P0 (VE.get E') (VM.get M') n' (a.put dst u) w' := by
 unfold vPut at hK
 split at hK
 ·exact ⟨E, hK, ⟨P', adr', hI, hE, h1, h2, h3⟩, h4, h5, h6, hd, hz⟩
 ·rename_i d
  split at hK
  ·rename_i hlt
   have hlt : d < N := by simpa [Nat.blt_eq] using hlt
   exact ⟨_, hK, ⟨P', adr', hI, hE.put hz hlt hr, h1, h2, h3⟩, h4, h5, h6, hd, by simp [Act.put, hz]⟩
  ·exact hK.elim
theorem mapLen_out {o : Oper} {k : Nat} (hk : mapLen Pg E M o = some k) (hI : InvM w P adr (VM.get M)) (hE : EnvR w P adr (VE.get E) a) : (execOp a.eval o).run Pg w = .ok (.value (.int .i64 k)) w := by
 obtain ⟨dst, op, ty, pos, after, guard⟩ := o
 unfold mapLen at hk
 split at hk
 ·rename_i c hop
  obtain ⟨callee, args, ats⟩ := c
  have hop : op = .call ⟨callee, args, ats⟩ := hop
  subst hop
  split at hk
  ·rename_i hcl
   have hcl : callee = .builtin .len := hcl
   subst hcl
   split at hk
   ·rename_i x t hx ht
    have hx : args.toList = [x] := hx
    have ht : ats.toList = [t] := ht
    have hargs : args = #[x] := by rw [← Array.toList_inj]; exact hx
    have hats : ats = #[t] := by rw [← Array.toList_inj]; exact ht
    subst hargs; subst hats
    split at hk
    ·rename_i c hc
     split at hk
     ·rename_i b hb
      split at hk
      ·rename_i ks vs hl
       split at hk
       ·rename_i kt et hu
        split at hk
        rotate_left
        ·cases hk
        rename_i hkv
        injection hk with hk
        subst hk
        obtain ⟨g, hg, hv⟩ := (evM_rep hE hc).mp_
        obtain ⟨clk, es, hw, hEn⟩ := map_blk hI hb hl hg hkv
        have hlen := hEn.len.1
        have hr : (Builtin.len_ #[t] ty #[.map (some g)]).run Pg w = .ok (goInt es.size) w := by
         simp [Builtin.len_, run_underlying hu, MapKept.run_getObj_map hw]
        have e : execOp a.eval ⟨dst, .call ⟨.builtin .len, #[x], #[t]⟩, ty, pos, after, guard⟩ = builtin .len #[t] ty ((#[x] : Array Operand).map fun | .const _ => true | _ => false) ((#[x] : Array Operand).map a.eval) := by
         simp [execOp, resolve, invoke]
         rfl
        have h2 : (builtin .len #[t] ty ((#[x] : Array Operand).map fun | .const _ => true | _ => false) #[.map (some g)]).run Pg w = .ok (.value (goInt es.size)) w := by
         show (do pure (.value (← Builtin.len_ #[t] ty #[.map (some g)])) : Sem Next).run Pg w = _
         rw [Sem.run_bind, hr]; rfl
        rw [e]
        have h3 : ((#[x] : Array Operand).map a.eval) = #[.map (some g)] := by simp [hv]
        rw [h3, h2, ← hlen]
        rfl
       ·cases hk
      ·cases hk
     ·cases hk
    ·cases hk
   ·cases hk
  ·cases hk
 ·cases hk
theorem vOpN_out (hS : SeatM Pg T ents G w0 ex0) {o : Oper} {K : VK} {next : Act → World → Prop} {Q : Exit → Act → World → Prop}
  (h : vOpN Pg T N ents G ops o K E M n) (hs : Sim N w0 ex0 P0 (VE.get E) (VM.get M) n a w) (hn : ∀ E M n a w, K E M n → Sim N w0 ex0 P0 (VE.get E) (VM.get M) n a w → next a w) :
  if Region.wanted o (yielded ops a.tmps) then o.wp Pg a w next Q ∨ (o.asks Pg a w ∧ LetsOut Q) else next (a.put o.dst undef) w := by
 obtain ⟨P, adr, hI, hE, ha1, ha2, ha3⟩ := hs.ex
 have run : ∀ {E2 : VE}, EnvR w P adr (VE.get E2) a → (vRunN Pg T ents G o E2 M n fun r M n => vPut N o.dst r E2 fun E => K E M n) → o.wp Pg a w next Q := by
  intro E2 hE2 h
  unfold vRunN at h
  split at h
  ·rename_i k neg hq
   unfold nilQ at hq
   split at hq
   ·rename_i op t x ty' hop
    split at hq
    ·rename_i k' l hx
     split at hq
     ·rename_i e es hd
      have hp := evM_rep hE2 hx
      obtain ⟨A, cap, es', parts, e1, _, _, _, h4, _⟩ := hp.sl_
      have hc : nilCmp T t (.const (.slice none 0 0)) (.val (a.eval x)) (.val (.slice none 0 0)) = some A.isNone := by
       rw [e1]
       cases A with
       | none => obtain ⟨q1, q2⟩ := h4 rfl; subst q1; subst q2; simp [nilCmp, hd]
       | some _ => simp [nilCmp, hd]
      obtain ⟨r1, r2⟩ := nilCmp_out (xo := x) (P := Pg) hS.seat.tab hc w
      have hA : A.isNone = true → k' = 0 := fun hA => (h4 (by simpa using hA)).1
      obtain ⟨dst, op', ty, pos, after, guard⟩ := o
      have hop : op' = .binOp op t x (.const (.slice none 0 0)) ty' := hop
      subst hop
      have fin : ∀ (bb : Bool), (do eqGuard op t x (.const (.slice none 0 0)) (a.eval x) (.slice none 0 0); binOp op t (a.eval x) (.slice none 0 0) : Sem Value).run Pg w = .ok (.bool bb) w → (vPut N dst (.bool bb) E2 fun E => K E M (n + 1)) → (⟨dst, .binOp op t x (.const (.slice none 0 0)) ty', ty, pos, after, guard⟩ : Oper).wp Pg a w next Q := by
       intro bb hr hk
       have hres := Res.val (a := a) (o := ⟨dst, .binOp op t x (.const (.slice none 0 0)) ty', ty, pos, after, guard⟩) (Q := fun u w' => u = .bool bb ∧ w' = w) _ rfl hr ⟨rfl, rfl⟩
       obtain ⟨E', q1, q2⟩ := vPut_sim (n' := n + 1) hs.defers hs.size hI hE2 (.val [_] .bool) (fun c hc => ha1 c (by omega)) ha2 ha3 (fun c hc => hs.fresh c (by omega)) (by have := hs.ge; omega) hs.since hk
       unfold Oper.wp
       rcases hres with ⟨u, w', p1, rfl, rfl⟩ | ⟨w', p1, p2, _⟩
       ·rw [p1]; exact hn _ _ _ _ _ q1 q2
       ·cases p2
      split at hq
      ·injection hq with hq; injection hq with hq1 hq2; subst hq1; subst hq2
       exact fin _ r1 (h A.isNone hA)
      ·injection hq with hq; injection hq with hq1 hq2; subst hq1; subst hq2
       exact fin _ r2 (h A.isNone hA)
      ·cases hq
     ·cases hq
    ·cases hq
   ·cases hq
  have old : (vRun Pg T ents G o E2 M n fun r M => vPut N o.dst r E2 fun E => K E M (n + 1)) → o.wp Pg a w next Q := by
   intro h
   refine vRun_ok hS h hI ha1 hs.fresh hE2 hs.since fun r δ u w' hk hp => ?_
   obtain ⟨E', h1, h2⟩ := hs.post hI hE2 ha1 ha2 ha3 hp hk
   exact hn _ _ _ _ _ h1 h2
  obtain ⟨dst, op, ty, pos, after, guard⟩ := o
  cases op with
  | call c =>
   obtain ⟨callee, args, ats⟩ := c
   cases callee with
   | builtin b =>
    rcases h with h | ⟨k, hk, h⟩
    ·exact old h
    ·have hrun := mapLen_out hk hI hE2
     obtain ⟨E', q1, q2⟩ := vPut_sim (n' := n + 1) hs.defers hs.size hI hE2 (.val [_] .int) (fun c hc => ha1 c (by omega)) ha2 ha3 (fun c hc => hs.fresh c (by omega)) (by have := hs.ge; omega) hs.since h
     unfold Oper.wp
     rw [hrun]
     exact hn _ _ _ _ _ q1 q2
   | invoke x name =>
    replace h : (rcvM E2 x args.toList).runP fun x => match x.1 with | .ifc t v => (match methM Pg t name with | some f => v.isVal = true ∧ ents.contains f = true ∧ vCallR Pg G SemE M n f (v :: x.2) (fun r M n => vPut N dst r E2 fun E => K E M n) | none => False) | _ => False := h
    unfold rcvM at h
    obtain ⟨pf, h, hpf⟩ := rd_out hE2 h
    obtain ⟨ps, h, hps⟩ := rds_out hE2 h
    cases pf with
    | ifc t v =>
     replace h : match methM Pg t name with | some f => v.isVal = true ∧ ents.contains f = true ∧ vCallR Pg G SemE M n f (v :: ps) (fun r M n => vPut N dst r E2 fun E => K E M n) | none => False := h
     split at h
     ·rename_i f0 hm
      obtain ⟨hv, hin, h⟩ := h
      generalize hu : a.eval x = ux at hpf
      cases hpf with
      | val cs hfn =>
       cases hfn with
       | ifc cs hcs =>
        have hall : RepVs w P adr (v :: ps) (valM v cs :: args.toList.map a.eval) := .cons (.val cs hcs) hps
        generalize valM v cs = uv at hu hall
        have hex : ∀ w1, (execOp a.eval ⟨dst, .call ⟨.invoke x name, args, ats⟩, ty, pos, after, guard⟩).run Pg w1 = (callFunc f0 (uv :: args.toList.map a.eval).toArray).run Pg w1 := fun w1 => by
         have hmap : args.map a.eval = (args.toList.map a.eval).toArray := arr_map _ _
         obtain ⟨j, hj⟩ : ∃ j, Pg.types.size + Made.depth = j + 1 := ⟨Pg.types.size + (Made.depth - 1), by unfold Made.depth; omega⟩
         have hm := meth_run (w := w1) hm j uv
         rw [← hj] at hm
         have ht : List.take args.size (List.map a.eval args.toList) = List.map a.eval args.toList := List.take_of_length_le (by simp)
         simp [execOp, resolve, hu, valM, MV.isAgg, invoke, hmap, callMethod, hm, ht]
        have hrun := (hex w).trans (hS.seat.enters f0 (by simpa using hin) (uv :: args.toList.map a.eval).toArray w)
        unfold Oper.wp
        rw [hrun]
        refine (vCallR_ok (C := fun P f a w Q => Calls P f a w Q) (fun h k => h.mono k) hS h hs.since hs.fresh hs.ge hI hE2 ha1 ha2 ha3 hall).mono ?_
        rintro e w' ⟨v, rfl, r, M', n', hk, P', adr', q1, q2, q3, q4, q5, q6, q7, q8, q9⟩
        obtain ⟨E', h1, h2⟩ := vPut_sim hs.defers hs.size q1 q2 q3 q4 q5 q6 q7 q8 q9 hk
        exact hn _ _ _ _ _ h1 h2
     ·exact h.elim
    | _ => exact h.elim
   | value f =>
    rcases h with h | h
    ·exact old h
    ·unfold vArgs at h
     obtain ⟨pf, h, hpf⟩ := rd_out hE2 h
     obtain ⟨ps, h, hps⟩ := rds_out hE2 h
     cases pf with
     | fn f0 caps =>
      generalize hu : a.eval f = uf at hpf
      cases hpf with
      | val cs hfn =>
       cases hfn with
       | fn parts hpl hpr =>
        have hall := hps.app (RepVs.of_parts hpl hpr)
        have hex : ∀ w1, (execOp a.eval ⟨dst, .call ⟨.value f, args, ats⟩, ty, pos, after, guard⟩).run Pg w1 = (callFunc f0 (args.toList.map a.eval ++ List.zipWith valM caps parts).toArray).run Pg w1 := fun w1 => by
         have hmap : args.map a.eval = (args.toList.map a.eval).toArray := arr_map _ _
         simp [execOp, resolve, hu, valM, MV.isAgg, Deferred.ofValue, invoke, hmap]
        replace h : (match ents.contains f0 with | true => vCallR Pg G SemE M n f0 (ps ++ caps) (fun r M n => vPut N dst r E2 fun E => K E M n) | false => vCallR Pg G SemPE M n f0 (ps ++ caps) (fun r M n => vPut N dst r E2 fun E => K E M n)) := h
        split at h
        ·rename_i hc
         have hrun := (hex w).trans (hS.seat.enters f0 (by simpa using hc) (args.toList.map a.eval ++ List.zipWith valM caps parts).toArray w)
         unfold Oper.wp
         rw [hrun]
         refine (vCallR_ok (C := fun P f a w Q => Calls P f a w Q) (fun h k => h.mono k) hS h hs.since hs.fresh hs.ge hI hE2 ha1 ha2 ha3 hall).mono ?_
         rintro e w' ⟨v, rfl, r, M', n', hk, P', adr', q1, q2, q3, q4, q5, q6, q7, q8, q9⟩
         obtain ⟨E', h1, h2⟩ := vPut_sim hs.defers hs.size q1 q2 q3 q4 q5 q6 q7 q8 q9 hk
         exact hn _ _ _ _ _ h1 h2
        ·obtain ⟨v0, w', hr, v, he, r, M', n', hk, P', adr', q1, q2, q3, q4, q5, q6, q7, q8, q9⟩ := vCallR_ok (C := Prims) (fun h k => h.mono k) hS h hs.since hs.fresh hs.ge hI hE2 ha1 ha2 ha3 hall
         injection he with he
         subst he
         have hrun := (hex w).trans hr
         unfold Oper.wp
         rw [hrun]
         obtain ⟨E', h1, h2⟩ := vPut_sim hs.defers hs.size q1 q2 q3 q4 q5 q6 q7 q8 q9 hk
         exact hn _ _ _ _ _ h1 h2
     | _ => exact h.elim
  | _ => exact old h
 have skip : ∀ {E2 : VE}, EnvR w P adr (VE.get E2) a → (vPut N o.dst .undef E2 fun E => K E M (n + 1)) → next (a.put o.dst undef) w := by
  intro E2 hE2 h
  obtain ⟨E', h1, h2⟩ := hs.post (δ := .none) hI hE2 ha1 ha2 ha3 (Post1.pure hI (ha1 n (Nat.le_refl _)) .undef) h
  exact hn _ _ _ _ _ h1 h2
 unfold vOpN at h
 split at h
 ·rename_i hg
  rw [if_pos (by simp [Region.wanted, hg])]
  exact .inl (run hE h)
 ·rename_i j want hg
  split at h
  ·exact h.elim
  ·rename_i s hj
   split at h
   ·rename_i t ht
    have hv := hs.know ht
    have hy : yielded ops a.tmps j = some t := by simp [yielded, hj, hv]
    by_cases hw : t = want
    ·rw [if_pos (by simp [Region.wanted, hg, hy, hw])]
     exact .inl (run (hE.know (by rw [ht, hw])) (h.1 hw))
    ·have hw' : t = !want := by cases t <;> cases want <;> simp_all
     rw [if_neg (by simp [Region.wanted, hg, hy, hw])]
     exact skip (hE.know (by rw [ht, hw'])) (h.2 hw')
   ·rename_i ht
    obtain ⟨v, hv1, hv2⟩ := hE s _ ht
    have hv : v = undef := hv2.undef_
    subst hv
    have hy : yielded ops a.tmps j = none := by simp [yielded, hj, hv1, undef]
    rw [if_neg (by simp [Region.wanted, hg, hy])]
    exact skip hE h
   ·exact h.elim
theorem vOpsN_ok (hS : SeatM Pg T ents G w0 ex0) (ops : Array Oper) : ∀ (l : List Oper) {K : VK} {E : VE} {M : VM} {n : Nat} {a : Act} {w : World} {Q : Exit → Act → World → Prop},
  vOpsN Pg T N ents G ops l K E M n → Sim N w0 ex0 P0 (VE.get E) (VM.get M) n a w → (∀ E M n a w, K E M n → Sim N w0 ex0 P0 (VE.get E) (VM.get M) n a w → Q .normal a w) → wpList Pg ops Q l a w
 | [], _, E, M, n, a, w, _, h, hs, hQ => hQ E M n a w h hs
 | o :: rest, K, E, M, n, a, w, Q, h, hs, hQ => by
  replace h : Rt n (fun E M => vOpN Pg T N ents G ops o (vOpsN Pg T N ents G ops rest K) E M n) E M := h
  have key : ∀ {E : VE} {M : VM}, Rt n (fun E M => vOpN Pg T N ents G ops o (vOpsN Pg T N ents G ops rest K) E M n) E M → Sim N w0 ex0 P0 (VE.get E) (VM.get M) n a w → ∃ E' M', vOpN Pg T N ents G ops o (vOpsN Pg T N ents G ops rest K) E' M' n ∧ Sim N w0 ex0 P0 (VE.get E') (VM.get M') n a w := by
   intro E M h
   induction h with
   | go h => intro hs; exact ⟨_, _, h, hs⟩
   | re E' M' h1 _ ih => intro hs; exact ih (hs.frz h1)
  obtain ⟨E', M', h', hs'⟩ := key h hs
  exact vOpN_out hS (next := wpList Pg ops Q rest) (Q := Q) h' hs' fun _ _ _ _ _ h hs => vOpsN_ok hS ops rest h hs hQ
theorem draw_ok (hS : SeatM Pg T ents G w0 ex0) {id : Nat} {L : List (Nat × Bool)} {Q : Exit → VK} (h : vOpsD Pg T N ents G ops L [] (Q .normal) E M n) (hs : Sim N w0 ex0 P0 (VE.get E) (VM.get M) n a w) : (Code.region id ops true).wp Pg (PostM N w0 ex0 P0 Q) a w := by
 obtain ⟨D, E1, M1, hok, ⟨hnd, hnb⟩, hq, hr⟩ := vOpsD_toF h
 rw [List.reverse_nil, List.nil_append] at hok
 simp only [okDraw, Bool.and_eq_true, List.all_eq_true] at hok
 obtain ⟨⟨⟨hls, hall⟩, hlen⟩, htwo⟩ := hok
 obtain ⟨hP, hA⟩ := okLs_spec hls
 refine wp_region_any hS.seat.mixed ?_
 refine any_ok (Z := fun c => n + L.length ≤ c) hS (fun a w hs' => ⟨E1, M1, _, hq, hs'.toSim fun c hc => hc⟩) ops.size D ⟨M, rfl⟩ hr hP hA (dj_of htwo hnd) (fun x hx c ho hz => ?_) ?_ (fun k hk => ?_) (by simp) (fun k o ho hl => ?_) ?_
 ·have h1 := (hnb x hx).2
  replace hz : n + L.length ≤ c := hz
  rcases ho with rfl | ⟨rfl, ho⟩
  ·omega
  ·have := (okTwo_out htwo hx ho).1
   omega
 ·refine (hs.toS.drew).mono fun c hc => ?_
  rcases hc with ⟨x, hx, ho⟩ | hc
  ·show n ≤ c
   have := (hnb x hx).1
   rcases ho with rfl | ⟨rfl, _⟩ <;> omega
  ·show n ≤ c
   replace hc : n + L.length ≤ c := hc
   omega
 ·have h1 : (Array.replicate ops.size false).getD k true = false := by simp [Array.getD, hk]
  have h2 : k ∈ D.map (·.k) := by simpa using hall k (by simpa using hk)
  exact ⟨fun _ => h2, fun _ => h1⟩
 ·exfalso
  by_cases hk : k < ops.size
  ·simp [Array.getD, hk] at hl
  ·simp [Array.getD, hk] at hl
 ·simpa using hlen
theorem vC_ok (hS : SeatM Pg T ents G w0 ex0) : ∀ (c : Code) {Q : Exit → VK} {E : VE} {M : VM} {n : Nat} {a : Act} {w : World},
  vC Pg T N ents G ex0.n0 c Q E M n → Sim N w0 ex0 P0 (VE.get E) (VM.get M) n a w → c.wp Pg (PostM N w0 ex0 P0 Q) a w := by
 intro c
 induction c with
 | skip => intro Q E M n a w h hs; exact wp_skip ⟨E, M, n, h, hs⟩
 | region id ops draw =>
  intro Q E M n a w h hs
  cases draw with
  | false => exact wp_region_list (vOpsN_ok hS ops _ h hs fun E M n a w hk hs => ⟨E, M, n, hk, hs⟩)
  | true =>
   obtain ⟨L, h⟩ := h
   exact draw_ok hS h hs
 | seq x y ihx ihy =>
  intro Q E M n a w h hs
  refine wp_seq (Code.wp_mono (fun e a w hq => ?_) (ihx h hs))
  obtain ⟨E', M', n', hq, hs'⟩ := hq
  cases e with
  | normal =>
   cases hq with
   | go h => exact ihy h hs'
   | re E2 M2 n2 h k => exact ihy k (hs'.matched h)
  | _ => exact ⟨E', M', n', hq, hs'⟩
 | cond c x y ihx ihy =>
  intro Q E M n a w h hs
  simp only [vC] at h
  split at h
  ·rename_i t ht
   obtain ⟨P, adr, hI, hE, _⟩ := hs.ex
   have hv := (evM_rep hE ht).bool_
   exact wp_cond_split hv (fun ht => ihx (h.1 ht) hs) (fun ht => ihy (h.2 ht) hs)
  ·exact h.elim
 | block id c ih =>
  intro Q E M n a w h hs
  refine wp_block (Code.wp_mono (fun e a w hq => ?_) (ih h hs))
  obtain ⟨E', M', n', hq, hs'⟩ := hq
  cases e with
  | exit i =>
   by_cases hi : i = id
   ·subst hi
    simp at hq
    simp only [Exit.inBlock, if_true]
    exact ⟨E', M', n', hq, hs'⟩
   ·simp only [beq_ne hi, cond_false] at hq
    simp only [Exit.inBlock, hi, if_false]
    exact ⟨E', M', n', hq, hs'⟩
  | _ => exact ⟨E', M', n', hq, hs'⟩
 | loop c ih =>
  intro Q E M n a w h hs
  obtain ⟨X, E', M', n', I, μ, ⟨x0, hI0, hm0⟩, h1⟩ := h
  have hs0 := hs.matched hm0
  intro b k cs
  have key : ∀ j x a w, μ x = j → I x → Sim N w0 ex0 P0 (VE.get (E' x)) (VM.get (M' x)) n' a w →
    ∃ e a' w', PostM N w0 ex0 P0 Q e a' w' ∧ Arrives Pg (lone (b.at a (.code c :: .inLoop c :: k)) cs w) b k cs e a' w' := by
   intro j
   induction j using Nat.strongRecOn with
   | _ j ihn =>
    intro x a w hn hI hs
    obtain ⟨e, a₁, w₁, hq, harr⟩ := ih (h1 x hI) hs b (.inLoop c :: k) cs
    obtain ⟨E1, M1, n1, hq, hs1⟩ := hq
    cases e with
    | normal =>
     obtain ⟨x', hI', hlt, hm⟩ := hq
     obtain ⟨e₂, a₂, w₂, hq₂, harr₂⟩ := ihn (μ x') (hn ▸ hlt) x' a₁ w₁ rfl hI' (hs1.matched hm)
     exact ⟨e₂, a₂, w₂, hq₂, .of_steps (Steps.trans harr (.one step_inLoop)) harr₂⟩
    | exit id => exact ⟨_, a₁, w₁, ⟨E1, M1, n1, hq, hs1⟩, .pass (x := .inLoop c) rfl (fun _ _ => .inl (by simp)) harr⟩
    | goto l => exact ⟨_, a₁, w₁, ⟨E1, M1, n1, hq, hs1⟩, .pass (x := .inLoop c) rfl (fun _ _ => .inl (by simp)) harr⟩
    | ret => exact ⟨_, a₁, w₁, ⟨E1, M1, n1, hq, hs1⟩, .pass (x := .inLoop c) rfl (fun _ _ => .inl (by simp)) harr⟩
    | panic ch => exact ⟨_, a₁, w₁, ⟨E1, M1, n1, hq, hs1⟩, .pass (x := .inLoop c) rfl (fun _ _ => .inl (by simp)) harr⟩
    | outgrown => exact ⟨_, a₁, w₁, ⟨E1, M1, n1, hq, hs1⟩, .pass (x := .inLoop c) rfl (fun _ _ => .inl (by simp)) harr⟩
  obtain ⟨e, a', w', hq, harr⟩ := key _ x0 a w rfl hI0 hs0
  exact ⟨e, a', w', hq, .of_steps (.one step_loop) harr⟩
 | exit id => intro Q E M n a w h hs; exact wp_exit ⟨E, M, n, h, hs⟩
 | ret => intro Q E M n a w h hs; exact wp_ret ⟨E, M, n, h, hs⟩
 | label l => intro Q E M n a w h hs; exact wp_label ⟨E, M, n, h, hs⟩
 | rangeFunc => intro Q E M n a w h; exact h.elim
 | scope => intro Q E M n a w h; exact h.elim
 | goto => intro Q E M n a w h; exact h.elim
 | refuse => intro Q E M n a w h; exact h.elim
theorem vRets_out (hT : TabOK Pg T) (hI : InvM w P adr (VM.get M)) (hE : EnvR w P adr (VE.get E) a) : ∀ {rs : List ResultVar} {K : List MV → Prop}, vRets T M E rs K →
  ∃ (ps : List MV) (vs : List Value), vs.length = rs.length ∧ (∀ (i : Nat) (r : ResultVar), rs[i]? = some r → ∃ v, vs[i]? = some v ∧ (resOne a.tmps r).run Pg w = .ok v w) ∧ RepVs w P adr ps vs ∧ K ps
 | [], K, h => ⟨[], [], rfl, fun i r hi => by simp at hi, .nil, h⟩
 | .tmp t :: l, K, h => by
  unfold vRets at h
  split at h
  ·rename_i p hp
   obtain ⟨v, h1, h2⟩ := hE t p hp
   obtain ⟨ps, vs, hl, hi, hr, hK⟩ := vRets_out hT hI hE h
   refine ⟨p :: ps, v :: vs, by simp [hl], fun i r hr => ?_, .cons h2 hr, hK⟩
   cases i with
   | zero => simp at hr; subst hr; exact ⟨v, rfl, by simp [resOne, h1]⟩
   | succ i => exact hi i r (by simpa using hr)
  ·exact h.elim
 | .cell p ty :: l, K, h => by
  unfold vRets at h
  split at h
  ·rename_i q hq
   obtain ⟨uv, h1, h2⟩ := hE p q hq
   obtain ⟨r0, v, h3, h4, h5⟩ := oLoad_ok hT h h2 hI
   obtain ⟨ps, vs, hl, hi, hr, hK⟩ := vRets_out hT hI hE h3
   refine ⟨r0 :: ps, v :: vs, by simp [hl], fun i r hr => ?_, .cons h5 hr, hK⟩
   cases i with
   | zero =>
    simp at hr
    subst hr
    refine ⟨v, rfl, ?_⟩
    have hg' : a.tmps.getD p undef = uv := by simp [h1]
    simp only [resOne, hg']
    exact loadAt_asAddr h4
   | succ i => exact hi i r (by simpa using hr)
  ·exact h.elim
theorem tup_rep {ps : List MV} {vs : List Value} (h : RepVs w P adr ps vs) (hv : ∀ p ∈ ps, p.isVal = true) : RepV w P adr (tupM ps) (tup vs) := by
 obtain ⟨parts, h1, h2, rfl⟩ := h.caps hv
 match ps, parts, h1, h2 with
 | [], [], _, _ => exact .tup [] rfl (fun j m u h => by simp at h)
 | [p], [q], _, h2 => exact .val q (h2 0 p q rfl rfl)
 | p :: p' :: ps, q :: q' :: parts, h1, h2 =>
  refine .tup (List.zipWith valM (p :: p' :: ps) (q :: q' :: parts)) (by rw [List.length_zipWith]; simp at h1 ⊢; omega) fun j m u hj hu => ?_
  rw [List.getElem?_zipWith] at hu
  rw [hj] at hu
  cases hq : (q :: q' :: parts)[j]? with
  | none => rw [hq] at hu; cases hu
  | some c =>
   rw [hq] at hu
   injection hu with hu
   exact ⟨c, h2 j m c hj hq, hu.symm⟩
theorem envM_get : ∀ {l : List MV} {i t : Nat} {v : MV}, VE.get (envM i l) t = some v → i ≤ t ∧ l[t - i]? = some v
 | [], i, t, v, h => by simp [envM, VE.get] at h
 | x :: l, i, t, v, h => by
  rw [envM, VE.get_cons] at h
  split at h
  ·rename_i e; subst e; injection h with h; subst h; simp
  ·rename_i e
   obtain ⟨h1, h2⟩ := envM_get h
   refine ⟨by omega, ?_⟩
   rw [show t - i = (t - (i + 1)) + 1 by omega]
   simpa using h2
theorem RepVs.get : ∀ {ps : List MV} {vs : List Value}, RepVs w P adr ps vs → ∀ {i : Nat} {p : MV}, ps[i]? = some p → ∃ v, vs[i]? = some v ∧ RepV w P adr p v
 | _, _, .nil, i, p, h => by simp at h
 | _, _, .cons (p := q) (v := v) h t, i, p, hi => by
  cases i with
  | zero => simp at hi; subst hi; exact ⟨v, rfl, h⟩
  | succ i => simpa using t.get (i := i) (by simpa using hi)
theorem RepVs.length : ∀ {ps : List MV} {vs : List Value}, RepVs w P adr ps vs → ps.length = vs.length
 | _, _, .nil => rfl
 | _, _, .cons _ t => by simp [t.length]
theorem frzs_conj {K : List MV × List (Nat × Nat) → Prop} {m : FM} : ∀ {l : List MV}, (frzs m l).runP K → (frzs m l).runP fun x => K x ∧ ∀ p ∈ x.1, p.isVal = true := by
 have one : ∀ {p : MV} {K : MV × List (Nat × Nat) → Prop}, (frz m p).runP K → (frz m p).runP fun x => K x ∧ x.1.isVal = true := by
  intro p K h
  cases p <;> simp only [frz] at h ⊢
  case ms c es off n =>
   split at h
   ·split at h
    ·obtain ⟨a1, l, a2, h⟩ := h; exact ⟨a1, l, a2, h, rfl⟩
    ·exact h.elim
   ·exact h.elim
  case ptr c es k fo path =>
   split at h
   ·rename_i b hb
    cases he : Nat.beq b.es es with
    | false => rw [he] at h; exact h.elim
    | true =>
     rw [he] at h
     obtain ⟨v, q1, h⟩ := h
     dsimp only at h
     cases hf : v.idFree with
     | false => rw [hf] at h; exact h.elim
     | true => rw [hf] at h; exact ⟨v, q1, by simp only [hf]; exact ⟨h, rfl⟩⟩
   ·exact h.elim
  case st l => exact frzs_weak (Ask.bind_runP.1 h) fun _ h => ⟨h, rfl⟩
  case fn f l => exact frzs_weak (Ask.bind_runP.1 h) fun _ h => ⟨h, rfl⟩
  case ifc t v => exact frz_weak (Ask.bind_runP.1 h) fun _ h => ⟨h, rfl⟩
  all_goals first | exact h.elim | exact ⟨h, rfl⟩
 intro l
 induction l generalizing K with
 | nil => intro h; exact ⟨h, fun p hp => nomatch hp⟩
 | cons q l ih =>
  intro h
  simp only [frzs] at h ⊢
  refine frz_weak (one (Ask.bind_runP.1 h)) fun x hx => ?_
  refine frzs_weak (ih (Ask.bind_runP.1 hx.1)) fun y hy => ⟨hy.1, fun p hp => ?_⟩
  rcases List.mem_cons.1 hp with rfl | hp
  ·exact hx.2
  ·exact hy.2 p hp
theorem semC_of_vc (hS : Seat Pg T ents) {f : FuncId} {fn : Func} {c : Code} {rs : List ResultVar} (hf : Pg.funcs[f]? = some fn) (hb : fn.body = some c) (hrs : fn.results = rs.toArray) (h5 : rs.length ≤ 6) {args : List MV} (hn : args.length ≤ fn.ntmps) (hN : fn.ntmps = N) {res : MV}
  (h : vC Pg T N ents G 0 c (vRetQ T rs fun r => r = res) (envM 0 args) [] 0) : SemC Pg G f args res := by
 intro w P vals hg hP hargs
 have hSM : SeatM Pg T ents G w noAnc := ⟨hS, fun w' h => G.stab w w' _ hg (fun _ h => h.elim) h, fun _ h => h.elim, fun g h => G.lt w g hg h⟩
 have hlen := hargs.length
 have h0 : Sim N w noAnc P (VE.get (envM 0 args)) (VM.get []) 0 { tmps := vals.toArray ++ Array.replicate (fn.ntmps - vals.toArray.size) undef, defers := [] } w := by
  refine ⟨⟨P, noAdr, ⟨fun c b hc => by simp [VM.get] at hc, fun c d b b' g hc => by simp [VM.get] at hc, hP⟩, fun t v ht => ?_, fun _ _ => rfl, ⟨fun c g hc => (nomatch hc), fun c hc => absurd hc (Nat.not_lt_zero c), Keep.refl _ _ _⟩, fun b o h => .inl h⟩, fun c _ => rfl, Nat.zero_le _, Since.refl _ _, rfl, by simp; omega⟩
  obtain ⟨_, h2⟩ := envM_get ht
  rw [Nat.sub_zero] at h2
  obtain ⟨u, h3, h4⟩ := hargs.get h2
  have hlt := (List.getElem?_eq_some_iff.1 h3).1
  refine ⟨u, ?_, h4⟩
  show (vals.toArray ++ Array.replicate (fn.ntmps - vals.toArray.size) undef)[t]? = some u
  rw [Array.getElem?_append_left (by simpa using hlt)]
  simpa using h3
 refine calls_of_wp hf hb (Code.wp_mono (fun e a w' hq => ?_) (vC_ok (ex0 := noAnc) hSM c h h0))
 obtain ⟨E', M', n', hq, hs⟩ := hq
 have fin : vRets T M' E' rs (fun vs => (frzs (VM.get M') vs).runP fun x => tupM x.1 = res) →
   a.defers = [] ∧ ∃ v, (results fn a.tmps).run Pg w' = .ok v w' ∧ ∃ v', Ending.returned v = .returned v' ∧ RepV w' (protNew w w' P) noAdr res v' ∧ Below w.heap.size w w' := by
  intro hq
  obtain ⟨P', adr', hI, hE, ha1, ha2, ha3⟩ := hs.ex
  obtain ⟨ps, vs, hl, hi, hr, hK⟩ := vRets_out hS.tab hI hE hq
  obtain ⟨l', bs, ⟨hxr, hfree⟩, P2, h1, h2, h3, h4⟩ := frzs_vals (frzs_conj hK) hr hI
  refine ⟨hs.defers, tup vs, results_out hrs h5 hl hi, tup vs, rfl, ?_, hs.since.below⟩
  rw [← hxr]
  refine (tup_rep h4 hfree).keep ⟨fun b o hp => ?_, fun _ _ _ => rfl, fun _ _ h => (nomatch h), fun _ _ _ _ _ h => nomatch h⟩
  rcases h3 b o hp with hp' | ⟨c', hc'⟩
  ·rcases ha3 b o hp' with h | h | h
   ·exact .inl h
   ·exact .inr ⟨h, hI.prot b o hp'⟩
   ·exact h.elim
  ·rcases ha2.in_ c' b hc' with h | h
   ·exact .inr ⟨h, h1.prot b o hp⟩
   ·exact h.elim
 cases e with
 | normal => exact fin hq
 | ret => exact fin hq
 | _ => exact hq.elim
theorem scq (hS : Seat Pg T ents) {f : FuncId} {fn : Func} (hf : Pg.funcs[f]? = some fn) (N : Nat) {c : Code} {rs : List ResultVar} {args : List MV} {res : MV} (h : vC Pg T N ents G 0 c (vRetQ T rs fun r => r = res) (envM 0 args) [] 0) (hb : fn.body = some c := by rfl) (hrs : fn.results = rs.toArray := by rfl) (h5 : rs.length ≤ 6 := by exact Nat.le_of_ble_eq_true rfl) (hn : args.length ≤ fn.ntmps := by exact Nat.le_of_ble_eq_true rfl) (hN : fn.ntmps = N := by rfl) : SemC Pg G f args res := semC_of_vc hS hf hb hrs h5 hn hN h
theorem semR_of_vc (hS : Seat Pg T ents) {f : FuncId} {fn : Func} {c : Code} {rs : List ResultVar} (hf : Pg.funcs[f]? = some fn) (hb : fn.body = some c) (hrs : fn.results = rs.toArray) (h5 : rs.length ≤ 6) {args : List MV} (hn : args.length ≤ fn.ntmps) (hN : fn.ntmps = N) {M0 : VM} {n0 : Nat} (hM0 : M0.all (fun x => Nat.blt x.1 n0) = true) {res : MV} {M1 : VM} {n1 : Nat}
  (h : vC Pg T N ents G n0 c (vRetR T n0 rs res M1 n1) (envM 0 args) M0 n0) : SemR Pg G f args M0 n0 res M1 n1 := by
 intro w P adr vals hg hI0 hn0 hL hargs
 have hSM : SeatM Pg T ents G w ⟨fun g => ∃ c, adr c = some g, adr, n0, fun c g hc => by
   rcases Nat.lt_or_ge c n0 with h | h
   ·exact h
   ·rw [hn0 c h] at hc; cases hc⟩ := ⟨hS, fun w' h => G.stab w w' _ hg (fun g ⟨c, hc⟩ => hL c g hc) h, fun g ⟨c, hc⟩ => hL c g hc, fun g h => G.lt w g hg h⟩
 have hlen := hargs.length
 have h0 : Sim N w ⟨fun g => ∃ c, adr c = some g, adr, n0, fun c g hc => by
   rcases Nat.lt_or_ge c n0 with h | h
   ·exact h
   ·rw [hn0 c h] at hc; cases hc⟩ P (VE.get (envM 0 args)) (VM.get M0) n0 { tmps := vals.toArray ++ Array.replicate (fn.ntmps - vals.toArray.size) undef, defers := [] } w := by
  refine ⟨⟨P, adr, hI0, fun t v ht => ?_, hn0, ⟨fun c g hc => .inr ⟨c, hc⟩, fun c _ => rfl, Keep.refl _ _ _⟩, fun b o h => .inl h⟩, fun c hc => all_lt hM0 hc, Nat.le_refl _, Since.refl _ _, rfl, by simp; omega⟩
  obtain ⟨_, h2⟩ := envM_get ht
  rw [Nat.sub_zero] at h2
  obtain ⟨u, h3, h4⟩ := hargs.get h2
  have hlt := (List.getElem?_eq_some_iff.1 h3).1
  refine ⟨u, ?_, h4⟩
  show (vals.toArray ++ Array.replicate (fn.ntmps - vals.toArray.size) undef)[t]? = some u
  rw [Array.getElem?_append_left (by simpa using hlt)]
  simpa using h3
 refine calls_of_wp hf hb (Code.wp_mono (fun e a w' hq => ?_) (vC_ok hSM c h h0))
 obtain ⟨E', M', n', hq, hs⟩ := hq
 have fin : vRets T M' E' rs (fun vs => ∃ (rv : List MV) (σ bs : List (Nat × Nat)), tupM rv = res ∧ LMatch n0 rv M1 n1 vs M' σ bs) →
   a.defers = [] ∧ ∃ v, (results fn a.tmps).run Pg w' = .ok v w' ∧ ∃ v', Ending.returned v = .returned v' ∧ ∃ P' adr', InvM w' P' adr' (VM.get M1) ∧ RepV w' P' adr' res v' ∧ Keep w w' P P' adr adr' ∧ (∀ c, c < n0 → adr' c = adr c) ∧ (∀ c, n1 ≤ c → adr' c = none) ∧
   (∀ c g, adr' c = some g → w.heap.size ≤ g ∨ ∃ c0, adr c0 = some g) ∧ (∀ b o, P' b o → P b o ∨ w.heap.size ≤ b ∨ ∃ c0, adr c0 = some b) ∧ Since (fun g => ∃ c0, adr c0 = some g) w w' := by
  intro hq
  obtain ⟨P1, adr1, hI, hE, ha1, ha2, ha3⟩ := hs.ex
  obtain ⟨ps, vs, hl, hi, hr, rv, σ, bs, hres, hok, hokb, hall, hrel, hmm⟩ := vRets_out hS.tab hI hE hq
  have hσ := okSg_out hok
  obtain ⟨P2, i1, i2, i3, i4⟩ := hI.frozen hokb
  obtain ⟨r1, r2⟩ := relVs_repVs i4 hrel (hr.kp i2)
  have hA := (ha2.frozen i2).matched hσ
  refine ⟨hs.defers, tup vs, results_out hrs h5 hl hi, tup vs, rfl, P2, adrS (sigA n0 σ) adr1, i1.matched hσ i4 hmm, ?_, hA.keep, fun c hc => hA.old c hc, fun c hc => adrS_none hσ hc, fun c g hc => hA.in_ c g hc, fun b o ho => ?_, hs.since⟩
  ·rw [← hres]; exact tup_rep r1 r2
  ·rcases i3 b o ho with h | ⟨c, h⟩
   ·exact ha3 b o h
   ·rcases ha2.in_ c b h with h | h
    ·exact .inr (.inl h)
    ·exact .inr (.inr h)
 cases e with
 | normal => exact fin hq
 | ret => exact fin hq
 | _ => exact hq.elim
theorem srq (hS : Seat Pg T ents) {f : FuncId} {fn : Func} (hf : Pg.funcs[f]? = some fn) (N : Nat) {c : Code} {rs : List ResultVar} {args : List MV} {M0 : VM} {n0 : Nat} {res : MV} {M1 : VM} {n1 : Nat} (h : vC Pg T N ents G n0 c (vRetR T n0 rs res M1 n1) (envM 0 args) M0 n0) (hb : fn.body = some c := by rfl) (hrs : fn.results = rs.toArray := by rfl) (h5 : rs.length ≤ 6 := by exact Nat.le_of_ble_eq_true rfl) (hn : args.length ≤ fn.ntmps := by exact Nat.le_of_ble_eq_true rfl) (hN : fn.ntmps = N := by rfl) (hM0 : M0.all (fun x => Nat.blt x.1 n0) = true := by rfl) : SemR Pg G f args M0 n0 res M1 n1 := semR_of_vc hS hf hb hrs h5 hn hN hM0 h
theorem semE_of_vc (hS : Seat Pg T ents) {f : FuncId} {fn : Func} {c : Code} {rs : List ResultVar} (hf : Pg.funcs[f]? = some fn) (hb : fn.body = some c) (hrs : fn.results = rs.toArray) (h5 : rs.length ≤ 6) {args : List MV} (hn : args.length ≤ fn.ntmps) (hN : fn.ntmps = N) {M0 : VM} {n0 : Nat} (hM0 : M0.all (fun x => Nat.blt x.1 n0) = true) {Φ : MV → VM → Nat → Prop}
  (h : vC Pg T N ents G n0 c (vRetE T n0 rs Φ) (envM 0 args) M0 n0) : SemE Pg G f args M0 n0 Φ := by
 intro w P adr vals hg hI0 hn0 hL hargs
 have hSM : SeatM Pg T ents G w ⟨fun g => ∃ c, adr c = some g, adr, n0, fun c g hc => by
   rcases Nat.lt_or_ge c n0 with h | h
   ·exact h
   ·rw [hn0 c h] at hc; cases hc⟩ := ⟨hS, fun w' h => G.stab w w' _ hg (fun g ⟨c, hc⟩ => hL c g hc) h, fun g ⟨c, hc⟩ => hL c g hc, fun g h => G.lt w g hg h⟩
 have hlen := hargs.length
 have h0 : Sim N w ⟨fun g => ∃ c, adr c = some g, adr, n0, fun c g hc => by
   rcases Nat.lt_or_ge c n0 with h | h
   ·exact h
   ·rw [hn0 c h] at hc; cases hc⟩ P (VE.get (envM 0 args)) (VM.get M0) n0 { tmps := vals.toArray ++ Array.replicate (fn.ntmps - vals.toArray.size) undef, defers := [] } w := by
  refine ⟨⟨P, adr, hI0, fun t v ht => ?_, hn0, ⟨fun c g hc => .inr ⟨c, hc⟩, fun c _ => rfl, Keep.refl _ _ _⟩, fun b o h => .inl h⟩, fun c hc => all_lt hM0 hc, Nat.le_refl _, Since.refl _ _, rfl, by simp; omega⟩
  obtain ⟨_, h2⟩ := envM_get ht
  rw [Nat.sub_zero] at h2
  obtain ⟨u, h3, h4⟩ := hargs.get h2
  have hlt := (List.getElem?_eq_some_iff.1 h3).1
  refine ⟨u, ?_, h4⟩
  show (vals.toArray ++ Array.replicate (fn.ntmps - vals.toArray.size) undef)[t]? = some u
  rw [Array.getElem?_append_left (by simpa using hlt)]
  simpa using h3
 refine calls_of_wp hf hb (Code.wp_mono (fun e a w' hq => ?_) (vC_ok hSM c h h0))
 obtain ⟨E', M', n', hq, hs⟩ := hq
 have fin : vRets T M' E' rs (fun vs => ∃ (res : MV) (M1 : VM) (n1 : Nat), Φ res M1 n1 ∧ ∃ (rv : List MV) (σ bs : List (Nat × Nat)), tupM rv = res ∧ LMatch n0 rv M1 n1 vs M' σ bs) →
   a.defers = [] ∧ ∃ v, (results fn a.tmps).run Pg w' = .ok v w' ∧ ∃ v', Ending.returned v = .returned v' ∧ ∃ (res : MV) (M1 : VM) (n1 : Nat), Φ res M1 n1 ∧ ∃ P' adr', InvM w' P' adr' (VM.get M1) ∧ RepV w' P' adr' res v' ∧ Keep w w' P P' adr adr' ∧ (∀ c, c < n0 → adr' c = adr c) ∧ (∀ c, n1 ≤ c → adr' c = none) ∧
   (∀ c g, adr' c = some g → w.heap.size ≤ g ∨ ∃ c0, adr c0 = some g) ∧ (∀ b o, P' b o → P b o ∨ w.heap.size ≤ b ∨ ∃ c0, adr c0 = some b) ∧ Since (fun g => ∃ c0, adr c0 = some g) w w' := by
  intro hq
  obtain ⟨P1, adr1, hI, hE, ha1, ha2, ha3⟩ := hs.ex
  obtain ⟨ps, vs, hl, hi, hr, res, M1, n1, hΦ, rv, σ, bs, hres, hok, hokb, hall, hrel, hmm⟩ := vRets_out hS.tab hI hE hq
  have hσ := okSg_out hok
  obtain ⟨P2, i1, i2, i3, i4⟩ := hI.frozen hokb
  obtain ⟨r1, r2⟩ := relVs_repVs i4 hrel (hr.kp i2)
  have hA := (ha2.frozen i2).matched hσ
  refine ⟨hs.defers, tup vs, results_out hrs h5 hl hi, tup vs, rfl, res, M1, n1, hΦ, P2, adrS (sigA n0 σ) adr1, i1.matched hσ i4 hmm, ?_, hA.keep, fun c hc => hA.old c hc, fun c hc => adrS_none hσ hc, fun c g hc => hA.in_ c g hc, fun b o ho => ?_, hs.since⟩
  ·rw [← hres]; exact tup_rep r1 r2
  ·rcases i3 b o ho with h | ⟨c, h⟩
   ·exact ha3 b o h
   ·rcases ha2.in_ c b h with h | h
    ·exact .inr (.inl h)
    ·exact .inr (.inr h)
 cases e with
 | normal => exact fin hq
 | ret => exact fin hq
 | _ => exact hq.elim
theorem semR_of_semC {f : FuncId} {args : List MV} {res : MV} (h : SemC Pg G f args res) : SemR Pg G f args [] 0 res [] 0 := by
 intro w P adr vals hg hI hn hL hargs
 have e : adr = noAdr := by funext c; exact hn c (Nat.zero_le _)
 subst e
 refine (h w P vals hg hI.prot hargs).mono ?_
 rintro e w' ⟨v, rfl, h1, h2⟩
 have hb := Keep.below (adr := noAdr) hI.prot h2
 refine ⟨v, rfl, protNew w w' P, noAdr, hI.below h2, h1, hb, fun _ _ => rfl, fun _ _ => rfl, fun c g hc => (nomatch hc), fun b o ho => ?_, (Since.of_below h2).weak fun _ e => e.elim⟩
 rcases ho with h | h
 ·exact .inl h
 ·exact .inr (.inl h.1)
theorem semC_of_semR {f : FuncId} {args : List MV} {res : MV} (h : SemR Pg G f args [] 0 res [] 0) : SemC Pg G f args res := by
 intro w P vals hg hP hargs
 refine (h w P noAdr vals hg ⟨fun c b hc => by simp [VM.get] at hc, fun c d b b' g hc => by simp [VM.get] at hc, hP⟩ (fun _ _ => rfl) (fun c g hc => nomatch hc) hargs).mono ?_
 rintro e w' ⟨v, rfl, P', adr', h1, h2, h3, h4, h5, h6, h7, h8⟩
 have e : adr' = noAdr := by funext c; exact h5 c (Nat.zero_le _)
 subst e
 refine ⟨v, rfl, h2.keep ⟨fun b o hp => ?_, fun _ _ _ => rfl, fun _ _ h => (nomatch h), fun _ _ _ _ _ h => nomatch h⟩, Since.below (h8.weak fun _ ⟨c, hc⟩ => nomatch hc)⟩
 rcases h7 b o hp with h | h | ⟨c, h⟩
 ·exact .inl h
 ·exact .inr ⟨h, h1.prot b o hp⟩
 ·cases h
end
end
section
open Go.RowKit Go.ChangeShapes Go.Deep
def allP (W : World) : Prot := fun b _ => b < W.heap.size
mutual
def MV.bulk : MV → Nat
 | .str s => s.length + 1
 | .sl _ l => MV.bulks l + 1
 | .st l => MV.bulks l + 1
 | _ => 1
def MV.bulks : List MV → Nat
 | [] => 0
 | m :: l => MV.bulk m + MV.bulks l
end
theorem bulk_one {H : Type} (d : DataW H) : 1 ≤ Rows.uptoBulk d := by
 cases d with
 | lit l => cases l <;> simp [Rows.uptoBulk]
 | nil => simp [Rows.uptoBulk]
 | ptr d => simp [Rows.uptoBulk]
 | slice elems spare => simp [Rows.uptoBulk]
 | agg parts => simp [Rows.uptoBulk]
 | iface t d => simp [Rows.uptoBulk]
 | map entries => simp [Rows.uptoBulk]
 | held h => simp [Rows.uptoBulk]
theorem bulks_map {H : Type} (f : Nat → MV) (D : Nat → DataW H) : ∀ (l : List Nat), (∀ i ∈ l, (f i).bulk ≤ Rows.uptoBulk (D i)) → MV.bulks (l.map f) ≤ Rows.uptoBulkAll (l.map D)
 | [], _ => Nat.le_refl _
 | i :: l, h => by
  have h1 := h i (by simp)
  have h2 := bulks_map f D l fun j hj => h j (by simp [hj])
  simp only [List.map_cons, MV.bulks, Rows.uptoBulkAll]
  omega
def Opn (P : Program) (t : TypeId) (n : Nat) (Q : MV → Prop) : Prop :=
 P.cellsOf t = n ∧ ∀ {H : Type} (enc : TypeId × Value → H) (W : World) (spare : Nat → Bool) (held : Bool) (fuel : Nat) (cs : List Value) (d : DataW H) (p : List MemPlace),
  DataW.trod enc P W 0 spare held fuel t cs = some (d, p) → (d.weights P t).all (· ≤ reachBytes) = true → cs.length = n ∧ ∃ m, Q m ∧ Rep W (allP W) noAdr m cs ∧ m.bulk ≤ Rows.uptoBulk d
section
variable {P : Program} {t e : TypeId}
theorem Opn.int {k : IntKind} (hu : P.underlying t = some (.int k)) (hc : P.cellsOf t = 1) : Opn P t 1 fun m => ∃ n, m = .int k n ∧ (Lit.int k n).wf = true :=
 ⟨hc, fun enc W spare held fuel cs d p h _ => by
  obtain ⟨n, rfl, _, hw⟩ := DataW.trod_int hu h
  exact ⟨rfl, _, ⟨n, rfl, hw⟩, .int, bulk_one d⟩⟩
theorem Opn.str (hu : P.underlying t = some .string) (hc : P.cellsOf t = 1) : Opn P t 1 fun m => ∃ s, m = .str s ∧ s.length ≤ 140737488355328 :=
 ⟨hc, fun enc W spare held fuel cs d p h hw => by
  obtain ⟨s, rfl, hx, _⟩ := DataW.trod_string hu h
  simp only [Prod.mk.injEq] at hx
  obtain ⟨rfl, rfl⟩ := hx
  have h2 : s.data.size ≤ reachBytes := by simpa [DataW.weights] using hw
  exact ⟨rfl, _, ⟨s.data.toList, rfl, by simpa using Nat.le_trans h2 reach_le⟩, .str, by simp [MV.bulk, Rows.uptoBulk]⟩⟩
theorem Opn.slice {n : Nat} {Q : MV → Prop} (hu : P.underlying t = some (.slice e)) (hc : P.cellsOf t = 1) (hb : 0 < P.bytesOf e) (hpos : 0 < n) (hr : Opn P e n Q) : Opn P t 1 fun m => ∃ l, m = .sl l.length l ∧ (∀ x ∈ l, Q x) ∧ l.length ≤ 140737488355328 := by
 refine ⟨hc, fun {H} enc W spare held fuel cs d p h hw => ?_⟩
 rcases open_slice hu h with ⟨rfl, _⟩ | ⟨a, len, cap, m, nn, D, Pl, rfl, _, hle, _, hm, hx, hi⟩
 ·exact ⟨rfl, _, ⟨[], rfl, by simp, by simp⟩, .sl none 0 0 [] rfl rfl (fun p hp => nomatch hp) (fun _ => ⟨rfl, rfl⟩) (Nat.le_refl _) (fun h => absurd rfl h) (fun j m p h => by simp at h), bulk_one _⟩
 ·simp only [Prod.mk.injEq] at hx
  obtain ⟨rfl, rfl⟩ := hx
  simp only [DataW.weights, hu, List.all_cons, List.all_append, Bool.and_eq_true, List.length_map, List.length_range] at hw
  have hmle : len ≤ m := by rw [hm]; split <;> omega
  have hlen : len ≤ 140737488355328 := by
   have h1 := of_decide_eq_true hw.1
   have h3 := reach_le
   have h2 : len * 1 ≤ (len + (m - len)) * P.bytesOf e := Nat.mul_le_mul (by omega) hb
   omega
  have key : ∀ i, i < len → ∃ x : MV × List Value, Q x.1 ∧ Rep W (allP W) noAdr x.1 x.2 ∧ x.2.length = n ∧ (∀ j v, x.2[j]? = some v → W.cell? (a.add (i * n + j)) = some v) ∧ x.1.bulk ≤ Rows.uptoBulk (D i) := by
   intro i hil
   obtain ⟨cs', hc', ht⟩ := hi i (by omega)
   rw [hr.1] at hc'
   obtain ⟨_, hl, hat⟩ := World.cells?_some hc'
   have hmem : D i ∈ List.map D (List.range len) := List.mem_map.2 ⟨i, List.mem_range.2 hil, rfl⟩
   obtain ⟨hl2, x, hx1, hx2, hx3⟩ := hr.2 enc W spare held nn cs' (D i) (Pl i) ht (weightsAll_mem hw.2.1 hmem)
   refine ⟨(x, cs'), hx1, hx2, hl2, fun j v hv => ?_, hx3⟩
   have hj : j < cs'.length := (List.getElem?_eq_some_iff.1 hv).1
   have := hat j (by omega)
   rw [Go.Deep.add_add] at this
   rw [this, hv]
  have ex : ∃ f : Nat → MV × List Value, ∀ i, i < len → Q (f i).1 ∧ Rep W (allP W) noAdr (f i).1 (f i).2 ∧ (f i).2.length = n ∧ (∀ j v, (f i).2[j]? = some v → W.cell? (a.add (i * n + j)) = some v) ∧ (f i).1.bulk ≤ Rows.uptoBulk (D i) :=
   ⟨fun i => Classical.epsilon fun x => Q x.1 ∧ Rep W (allP W) noAdr x.1 x.2 ∧ x.2.length = n ∧ (∀ j v, x.2[j]? = some v → W.cell? (a.add (i * n + j)) = some v) ∧ x.1.bulk ≤ Rows.uptoBulk (D i), fun i hil => Classical.epsilon_spec (key i hil)⟩
  obtain ⟨f, hf⟩ := ex
  refine ⟨rfl, .sl len ((List.range len).map fun i => (f i).1), ⟨(List.range len).map fun i => (f i).1, by simp, fun x hx => ?_, by simpa using hlen⟩, ?_, ?_⟩
  ·obtain ⟨i, hi, rfl⟩ := List.mem_map.1 hx
   exact (hf i (List.mem_range.1 hi)).1
  case refine_3 =>
   have hb := bulks_map (fun i => (f i).1) D (List.range len) fun i hi => (hf i (List.mem_range.1 hi)).2.2.2.2
   simp only [MV.bulk, Rows.uptoBulk]
   omega
  ·obtain ⟨b, o, spot⟩ := a
   have hparts : ∀ p ∈ (List.range len).map fun i => (f i).2, p.length = n := fun p hp => by
    obtain ⟨i, hi, rfl⟩ := List.mem_map.1 hp
    exact (hf i (List.mem_range.1 hi)).2.2.1
   refine .sl _ cap n ((List.range len).map fun i => (f i).2) (by simp) (by simp) hparts (fun h => nomatch h) hle (fun h0 => ?_) fun j m p hm hp => ?_
   ·have hspot : spot = none := by
     obtain ⟨_, _, hl, hc', _⟩ := hf 0 (by omega)
     have hv : (f 0).2[0]? = some ((f 0).2[0]'(by omega)) := List.getElem?_eq_getElem (by omega)
     have hcell := hc' 0 _ hv
     have e0 : (⟨b, o, spot⟩ : Addr).add (0 * n + 0) = ⟨b, o, spot⟩ := by simp [Addr.add]
     rw [e0] at hcell
     simpa using World.cell?_spot hcell
    subst hspot
    refine ⟨b, o, rfl, fun j u hj => ?_⟩
    have hjl := (List.getElem?_eq_some_iff.1 hj).1
    rw [flatten_const hparts] at hjl
    simp at hjl
    obtain ⟨i, k, hk, hji⟩ : ∃ i k, k < n ∧ j = i * n + k := ⟨j / n, j % n, Nat.mod_lt _ hpos, by rw [Nat.mul_comm]; exact (Nat.div_add_mod j n).symm⟩
    have hil : i < len := by
     rcases Nat.lt_or_ge i len with h | h
     ·exact h
     ·have := Nat.mul_le_mul_right n h; omega
    have hget : (f i).2[k]? = some u := by
     have hl := (hf i hil).2.2.1
     have hp : ((List.range len).map fun i => (f i).2)[i]? = some (f i).2 := by simp [hil]
     have h2 : ((List.range len).map fun i => (f i).2).flatten[i * n + k]? = (f i).2[k]? := by
      have hsp := flatten_split hp
      have hpre : (((List.range len).map fun i => (f i).2).take i).flatten.length = i * n := by
       rw [flatten_const fun p hp => hparts p (List.mem_of_mem_take hp)]
       rw [List.length_take, List.length_map, List.length_range, Nat.min_eq_left (Nat.le_of_lt hil)]
      rw [hsp, List.append_assoc, List.getElem?_append_right (by omega), hpre, show i * n + k - i * n = k by omega, List.getElem?_append_left (by omega)]
     rw [← h2, ← hji]; exact hj
    have := (hf i hil).2.2.2.1 k u hget
    rw [Addr.add_mid] at this
    have hc2 : W.cell? ⟨b, o + j, none⟩ = some u := by rw [hji]; exact this
    exact ⟨hc2, World.block_lt_of_cell? W _ hc2⟩
   ·rw [List.getElem?_map] at hm hp
    cases hj : (List.range len)[j]? with
    | none => rw [hj] at hm; cases hm
    | some i =>
     rw [hj] at hm hp
     injection hm with hm
     injection hp with hp
     subst hm; subst hp
     have hi : i < len := by
      have := List.mem_range.1 (List.mem_of_getElem? hj)
      exact this
     exact (hf i hi).2.1
theorem lift_list {α : Type} {f : α → MV} {R : α → Prop} : ∀ (l : List MV), (∀ x ∈ l, ∃ a, x = f a ∧ R a) → ∃ us : List α, l = us.map f ∧ ∀ a ∈ us, R a
 | [], _ => ⟨[], rfl, by simp⟩
 | x :: l, h => by
  obtain ⟨a, e, hr⟩ := h x (by simp)
  obtain ⟨us, e2, has⟩ := lift_list l fun y hy => h y (by simp [hy])
  refine ⟨a :: us, by rw [e, e2]; rfl, fun b hb => ?_⟩
  rcases List.mem_cons.1 hb with rfl | hb
  ·exact hr
  ·exact has b hb
end
end
section
section
variable {Pg : Program} {T : Tab} {N : Nat} {ents : List FuncId} {G : GS} {n0 : Nat}
def SeqQ (Pg : Program) (T : Tab) (N : Nat) (ents : List FuncId) (G : GS) (n0 : Nat) (y : Code) (Q : Exit → VK) : Exit → VK := fun e E M n => match e with | .normal => Rs n0 (vC Pg T N ents G n0 y Q) E M n | e => Q e E M n
def BlockQ (id : Nat) (Q : Exit → VK) : Exit → VK := fun e E M n => match e with | .exit i => (bif Nat.beq i id then Q .normal E M n else Q (.exit i) E M n) | e => Q e E M n
def LoopQ (n0 : Nat) {X : Type} (E' : X → VE) (M' : X → VM) (n' : Nat) (I : X → Prop) (μ : X → Nat) (x : X) (Q : Exit → VK) : Exit → VK := fun e E1 M1 n1 => match e with | .normal => ∃ x', I x' ∧ μ x' < μ x ∧ VMatch n0 (E' x') (M' x') n' E1 M1 | e => Q e E1 M1 n1
variable {Q : Exit → VK} {E : VE} {M : VM} {n : Nat} {x y c : Code} {id i : Nat}
theorem c_seq (h : vC Pg T N ents G n0 x (SeqQ Pg T N ents G n0 y Q) E M n) : vC Pg T N ents G n0 (.seq x y) Q E M n := h
theorem c_skip (h : Q .normal E M n) : vC Pg T N ents G n0 .skip Q E M n := h
theorem c_label {l : Nat} (h : Q .normal E M n) : vC Pg T N ents G n0 (.label l) Q E M n := h
theorem c_exit (h : Q (.exit id) E M n) : vC Pg T N ents G n0 (.exit id) Q E M n := h
theorem c_ret (h : Q .ret E M n) : vC Pg T N ents G n0 .ret Q E M n := h
theorem c_block (h : vC Pg T N ents G n0 c (BlockQ id Q) E M n) : vC Pg T N ents G n0 (.block id c) Q E M n := h
theorem c_region {l : List Oper} (h : vOpsN Pg T N ents G (List.toArray l) l (Q .normal) E M n) : vC Pg T N ents G n0 (.region id (List.toArray l) false) Q E M n := h
theorem c_draw {ops : Array Oper} (L : List (Nat × Bool)) (h : vOpsD Pg T N ents G ops L [] (Q .normal) E M n) : vC Pg T N ents G n0 (.region id ops true) Q E M n := ⟨L, h⟩
theorem c_cond {o : Operand} {t : Bool} (he : evM (VE.get E) o = some (.bool t)) (h1 : t = true → vC Pg T N ents G n0 x Q E M n) (h2 : t = false → vC Pg T N ents G n0 y Q E M n) : vC Pg T N ents G n0 (.cond o x y) Q E M n := by
 unfold vC; rw [he]; exact ⟨h1, h2⟩
theorem c_condT {o : Operand} (he : evM (VE.get E) o = some (.bool true)) (h : vC Pg T N ents G n0 x Q E M n) : vC Pg T N ents G n0 (.cond o x y) Q E M n := c_cond he (fun _ => h) (fun h => Bool.noConfusion h)
theorem c_condF {o : Operand} (he : evM (VE.get E) o = some (.bool false)) (h : vC Pg T N ents G n0 y Q E M n) : vC Pg T N ents G n0 (.cond o x y) Q E M n := c_cond he (fun h => Bool.noConfusion h) (fun _ => h)
theorem c_loop (X : Type) (E' : X → VE) (M' : X → VM) (n' : Nat) (I : X → Prop) (μ : X → Nat) (x0 : X) (hI : I x0) (hm : VMatch n0 (E' x0) (M' x0) n' E M) (h : ∀ x, I x → vC Pg T N ents G n0 c (LoopQ n0 E' M' n' I μ x Q) (E' x) (M' x) n') : vC Pg T N ents G n0 (.loop c) Q E M n := ⟨X, E', M', n', I, μ, ⟨x0, hI, hm⟩, h⟩
theorem seqQ_n (h : vC Pg T N ents G n0 y Q E M n) : SeqQ Pg T N ents G n0 y Q .normal E M n := Rs.go h
structure JoinF (n0 : Nat) {X : Type} (E' : X → VE) (M' : X → VM) (n' : X → Nat) (I : X → Prop) (Q JQ : Exit → VK) : Prop where
 nrm : ∀ (p : X) {E : VE} {M : VM} {n : Nat}, I p → VMatch n0 (E' p) (M' p) (n' p) E M → JQ .normal E M n
 ret : ∀ {E : VE} {M : VM} {n : Nat}, Q .ret E M n → JQ .ret E M n
 ext : ∀ {i : Nat} {E : VE} {M : VM} {n : Nat}, Q (.exit i) E M n → JQ (.exit i) E M n
theorem joinF_r {X : Type} {E' : X → VE} {M' : X → VM} {n' : X → Nat} {I : X → Prop} {JQ : Exit → VK} (hj : JoinF n0 E' M' n' I Q JQ) (h : Q .ret E M n) : JQ .ret E M n := hj.ret h
theorem joinF_x {X : Type} {E' : X → VE} {M' : X → VM} {n' : X → Nat} {I : X → Prop} {JQ : Exit → VK} (hj : JoinF n0 E' M' n' I Q JQ) (h : Q (.exit i) E M n) : JQ (.exit i) E M n := hj.ext h
theorem seqQ_x (h : Q (.exit i) E M n) : SeqQ Pg T N ents G n0 y Q (.exit i) E M n := h
theorem seqQ_r (h : Q .ret E M n) : SeqQ Pg T N ents G n0 y Q .ret E M n := h
theorem blockQ_n (h : Q .normal E M n) : BlockQ id Q .normal E M n := h
theorem blockQ_r (h : Q .ret E M n) : BlockQ id Q .ret E M n := h
theorem blockQ_x (hb : Nat.beq i id = true) (h : Q .normal E M n) : BlockQ id Q (.exit i) E M n := by
 show (bif Nat.beq i id then _ else _); rw [hb]; exact h
theorem blockQ_y (hb : Nat.beq i id = false) (h : Q (.exit i) E M n) : BlockQ id Q (.exit i) E M n := by
 show (bif Nat.beq i id then _ else _); rw [hb]; exact h
theorem loopQ_x {X : Type} {E' : X → VE} {M' : X → VM} {n' : Nat} {I : X → Prop} {μ : X → Nat} {x : X} (h : Q (.exit i) E M n) : LoopQ n0 E' M' n' I μ x Q (.exit i) E M n := h
theorem loopQ_r {X : Type} {E' : X → VE} {M' : X → VM} {n' : Nat} {I : X → Prop} {μ : X → Nat} {x : X} (h : Q .ret E M n) : LoopQ n0 E' M' n' I μ x Q .ret E M n := h
def vOpsG (Pg : Program) (T : Tab) (N : Nat) (ents : List FuncId) (G : GS) (ops : Array Oper) (o : Oper) (rest : List Oper) (K : VK) (E : VE) (M : VM) (n : Nat) : Prop :=
 vRunN Pg T ents G o E M n fun r M n => vPut N o.dst r E fun E => vOpsN Pg T N ents G ops rest K E M n
def plainO : Op → Bool
 | .call c => match c.callee with
  | .value _ => false
  | _ => true
 | _ => true
variable {ops : Array Oper} {dst : Option Tmp} {d : Tmp} {op : Op} {ty : TypeId} {pos : String} {after : Array Edge} {g : Option (Nat × Bool)} {rest : List Oper} {K : VK} {r : MV} {δ : Dl} {o : Oper} {j s : Nat} {want t : Bool}
theorem n_nil (h : K E M n) : vOpsN Pg T N ents G ops [] K E M n := h
theorem n_go (h : vOpsG Pg T N ents G ops ⟨dst, op, ty, pos, after, none⟩ rest K E M n) : vOpsN Pg T N ents G ops (⟨dst, op, ty, pos, after, none⟩ :: rest) K E M n := Rt.go h
theorem n_guard (hs : (ops[j]?).bind (·.dst) = some s) (hv : VE.get E s = some (.bool t)) (h1 : t = want → vOpsG Pg T N ents G ops ⟨some d, op, ty, pos, after, some (j, want)⟩ rest K ((s, .bool want) :: E) M n) (hd : Nat.blt d N = true)
  (h2 : t = !want → vOpsN Pg T N ents G ops rest K ((d, .undef) :: (s, .bool (!want)) :: E) M (n + 1)) : vOpsN Pg T N ents G ops (⟨some d, op, ty, pos, after, some (j, want)⟩ :: rest) K E M n := by
 unfold vOpsN
 refine Rt.go ?_
 unfold vOpN
 simp only [hs, hv]
 refine ⟨h1, fun ht => ?_⟩
 unfold vPut
 simp only [hd]
 exact h2 ht
theorem n_grd (hf : (ops[j]?).bind (·.dst) = some s ∧ VE.get E s = some (.bool t) ∧ Nat.blt d N = true) (h1 : t = want → vOpsG Pg T N ents G ops ⟨some d, op, ty, pos, after, some (j, want)⟩ rest K ((s, .bool want) :: E) M n) (h2 : t = !want → vOpsN Pg T N ents G ops rest K ((d, .undef) :: (s, .bool (!want)) :: E) M (n + 1)) : vOpsN Pg T N ents G ops (⟨some d, op, ty, pos, after, some (j, want)⟩ :: rest) K E M n := n_guard hf.1 hf.2.1 h1 hf.2.2 h2
theorem n_guardY (hs : (ops[j]?).bind (·.dst) = some s) (hv : VE.get E s = some (.bool want)) (h : vOpsG Pg T N ents G ops ⟨dst, op, ty, pos, after, some (j, want)⟩ rest K ((s, .bool want) :: E) M n) : vOpsN Pg T N ents G ops (⟨dst, op, ty, pos, after, some (j, want)⟩ :: rest) K E M n := by
 unfold vOpsN
 refine Rt.go ?_
 unfold vOpN
 simp only [hs, hv]
 exact ⟨fun _ => h, fun ht => by cases want <;> cases ht⟩
theorem n_guardN (hs : (ops[j]?).bind (·.dst) = some s) (hv : VE.get E s = some (.bool (!want))) (hd : Nat.blt d N = true) (h : vOpsN Pg T N ents G ops rest K ((d, .undef) :: (s, .bool (!want)) :: E) M (n + 1)) : vOpsN Pg T N ents G ops (⟨some d, op, ty, pos, after, some (j, want)⟩ :: rest) K E M n :=
 n_guard hs hv (fun ht => by cases want <;> cases ht) hd (fun _ => h)
theorem n_guardU (hs : (ops[j]?).bind (·.dst) = some s) (hv : VE.get E s = some .undef) (hd : Nat.blt d N = true) (h : vOpsN Pg T N ents G ops rest K ((d, .undef) :: E) M (n + 1)) : vOpsN Pg T N ents G ops (⟨some d, op, ty, pos, after, some (j, want)⟩ :: rest) K E M n := by
 unfold vOpsN
 refine Rt.go ?_
 unfold vOpN
 simp only [hs, hv]
 unfold vPut
 simp only [hd]
 exact h
theorem n_app {l1 l2 : List Oper} (h : vOpsN Pg T N ents G ops (o :: List.append l1 l2) K E M n) : vOpsN Pg T N ents G ops (List.append (o :: l1) l2) K E M n := h
theorem n_app0 {l2 : List Oper} (h : vOpsN Pg T N ents G ops l2 K E M n) : vOpsN Pg T N ents G ops (List.append [] l2) K E M n := h
theorem g_run (hq : nilQ T E ⟨dst, op, ty, pos, after, g⟩ = none) (hv : plainO op = true) (he : ∀ R : MV × Dl → Prop, R (r, δ) → (eOp Pg T (VE.get E) (VM.get M) n ⟨dst, op, ty, pos, after, g⟩).runP R)
  (h : vPut N dst r E fun E => vOpsN Pg T N ents G ops rest K E (δ.app n M) (n + 1)) : vOpsG Pg T N ents G ops ⟨dst, op, ty, pos, after, g⟩ rest K E M n := by
 unfold vOpsG vRunN
 rw [hq]
 show vRunP Pg T ents G _ E M n _
 cases op with
 | call c =>
  obtain ⟨callee, args, ats⟩ := c
  cases callee with
  | value f => cases hv
  | builtin b => exact .inl (he _ h)
  | invoke r n => exact (he (fun _ => False) (by exact False.elim (he (fun _ => True) trivial))).elim
 | _ => exact he _ h
theorem or_len {p : Prop} {E : VE} {M : VM} {o : Oper} {K : Nat → Prop} (h : p) : p ∨ vLenM Pg E M o K := .inl h
theorem g_val (hq : nilQ T E ⟨some d, op, ty, pos, after, g⟩ = none) (hv : plainO op = true) (he : ∀ R : MV × Dl → Prop, R (r, .none) → (eOp Pg T (VE.get E) (VM.get M) n ⟨some d, op, ty, pos, after, g⟩).runP R) (hd : Nat.blt d N = true)
  (h : vOpsN Pg T N ents G ops rest K ((d, r) :: E) M (n + 1)) : vOpsG Pg T N ents G ops ⟨some d, op, ty, pos, after, g⟩ rest K E M n := by
 refine g_run hq hv he ?_
 unfold vPut
 simp only [hd]
 exact h
theorem g_mem (hq : nilQ T E ⟨some d, op, ty, pos, after, g⟩ = none) (hv : plainO op = true) (he : ∀ R : MV × Dl → Prop, R (r, δ) → (eOp Pg T (VE.get E) (VM.get M) n ⟨some d, op, ty, pos, after, g⟩).runP R) (hd : Nat.blt d N = true)
  (h : vOpsN Pg T N ents G ops rest K ((d, r) :: E) (δ.app n M) (n + 1)) : vOpsG Pg T N ents G ops ⟨some d, op, ty, pos, after, g⟩ rest K E M n := by
 refine g_run hq hv he ?_
 unfold vPut
 simp only [hd]
 exact h
theorem g_none (hq : nilQ T E ⟨none, op, ty, pos, after, g⟩ = none) (hv : plainO op = true) (he : ∀ R : MV × Dl → Prop, R (r, δ) → (eOp Pg T (VE.get E) (VM.get M) n ⟨none, op, ty, pos, after, g⟩).runP R)
  (h : vOpsN Pg T N ents G ops rest K E (δ.app n M) (n + 1)) : vOpsG Pg T N ents G ops ⟨none, op, ty, pos, after, g⟩ rest K E M n := g_run hq hv he h
section
variable {f : Operand} {args : Array Operand} {ats : Array TypeId} {f0 : FuncId} {vs : List MV} {bs : List (Nat × Nat)} {res : MV}
theorem g_callV (hd : ∀ d, dst = some d → Nat.blt d N = true) (h1 : ∀ R : FuncId × List MV × List (Nat × Nat) → Prop, R (f0, vs, bs) → (vCall E M f args.toList).runP R) (h2 : ents.contains f0 = true) (hc : SemC Pg G f0 vs res)
  (h : vOpsN Pg T N ents G ops rest K (match dst with | some d => (d, res) :: E | none => E) (VM.bump M bs) (n + 1)) : vOpsG Pg T N ents G ops ⟨dst, .call ⟨.value f, args, ats⟩, ty, pos, after, g⟩ rest K E M n := by
 show (vRun Pg T ents G _ E M n _) ∨ _
 refine .inl ?_
 show (vCall E M f args.toList).runP _
 refine h1 _ ?_
 show (match ents.contains f0 with | true => ∃ res, SemC Pg G f0 vs res ∧ _ | false => False)
 rw [h2]
 refine ⟨res, hc, ?_⟩
 unfold vPut
 cases dst with
 | none => exact h
 | some d =>
  simp only [hd d rfl]
  exact h
theorem g_callR (hd : ∀ d, dst = some d → Nat.blt d N = true) (h1 : ∀ R : FuncId × List MV → Prop, R (f0, vs) → (vArgs E f args.toList).runP R) (h2 : ents.contains f0 = true) {args' : List MV} {M0 : VM} {n0 : Nat} {M1 : VM} {n1 : Nat} (hc : SemR Pg G f0 args' M0 n0 res M1 n1) (σ bs : List (Nat × Nat))
  (hm : LMatch 0 args' M0 n0 vs M σ bs) (h3 : allIn M σ = true) (h4 : M1.all (fun x => Nat.blt x.1 n1) = true) (h : vOpsN Pg T N ents G ops rest K (match dst with | some d => (d, renV (rho n σ) res) :: E | none => E) (renM (rho n σ) M1 ++ delM (VM.bump M bs) σ) (n + n1)) :
  vOpsG Pg T N ents G ops ⟨dst, .call ⟨.value f, args, ats⟩, ty, pos, after, g⟩ rest K E M n := by
 show (vRun Pg T ents G _ E M n _) ∨ (vArgs E f args.toList).runP _
 refine .inr (h1 _ ?_)
 show (match ents.contains f0 with | true => vCallR Pg G SemE M n f0 vs _ | false => vCallR Pg G SemPE M n f0 vs _)
 rw [h2]
 refine ⟨args', M0, n0, fun r M' n' => r = res ∧ M' = M1 ∧ n' = n1, semWE_of (fun h k => h.mono k) hc ⟨rfl, rfl, rfl⟩, σ, bs, hm, h3, ?_⟩
 rintro _ _ _ ⟨rfl, rfl, rfl⟩
 refine ⟨h4, ?_⟩
 unfold vPut
 cases dst with
 | none => exact h
 | some d =>
  simp only [hd d rfl]
  exact h
end
def okO (T : Tab) (N : Nat) (E : VE) (o : Oper) : Bool := (match nilQ T E o with | none => true | some _ => false) && (plainO o.op && (match o.dst with | some d => Nat.blt d N | none => true))
theorem okO_out (h : okO T N E o = true) : nilQ T E o = none ∧ plainO o.op = true ∧ ∀ d, o.dst = some d → Nat.blt d N = true := by
 unfold okO at h
 simp only [Bool.and_eq_true] at h
 obtain ⟨h1, h2, h3⟩ := h
 refine ⟨?_, h2, fun d hd => ?_⟩
 ·split at h1
  ·assumption
  ·cases h1
 ·rw [hd] at h3; exact h3
theorem n_val (hb : okO T N E ⟨some d, op, ty, pos, after, none⟩ = true) (he : ∀ R : MV × Dl → Prop, R (r, .none) → (eOp Pg T (VE.get E) (VM.get M) n ⟨some d, op, ty, pos, after, none⟩).runP R) (h : vOpsN Pg T N ents G ops rest K ((d, r) :: E) M (n + 1)) : vOpsN Pg T N ents G ops (⟨some d, op, ty, pos, after, none⟩ :: rest) K E M n :=
 n_go (g_val (okO_out hb).1 (okO_out hb).2.1 he ((okO_out hb).2.2 d rfl) h)
theorem n_mem (hb : okO T N E ⟨some d, op, ty, pos, after, none⟩ = true) (he : ∀ R : MV × Dl → Prop, R (r, δ) → (eOp Pg T (VE.get E) (VM.get M) n ⟨some d, op, ty, pos, after, none⟩).runP R) (h : vOpsN Pg T N ents G ops rest K ((d, r) :: E) (δ.app n M) (n + 1)) : vOpsN Pg T N ents G ops (⟨some d, op, ty, pos, after, none⟩ :: rest) K E M n :=
 n_go (g_mem (okO_out hb).1 (okO_out hb).2.1 he ((okO_out hb).2.2 d rfl) h)
theorem n_none (hb : okO T N E ⟨none, op, ty, pos, after, none⟩ = true) (he : ∀ R : MV × Dl → Prop, R (r, δ) → (eOp Pg T (VE.get E) (VM.get M) n ⟨none, op, ty, pos, after, none⟩).runP R) (h : vOpsN Pg T N ents G ops rest K E (δ.app n M) (n + 1)) : vOpsN Pg T N ents G ops (⟨none, op, ty, pos, after, none⟩ :: rest) K E M n :=
 n_go (g_none (okO_out hb).1 (okO_out hb).2.1 he h)
theorem n_valY (hs : (ops[j]?).bind (·.dst) = some s) (hv : VE.get E s = some (.bool want)) (hb : okO T N ((s, .bool want) :: E) ⟨some d, op, ty, pos, after, some (j, want)⟩ = true) (he : ∀ R : MV × Dl → Prop, R (r, .none) → (eOp Pg T (VE.get ((s, .bool want) :: E)) (VM.get M) n ⟨some d, op, ty, pos, after, some (j, want)⟩).runP R)
  (h : vOpsN Pg T N ents G ops rest K ((d, r) :: (s, .bool want) :: E) M (n + 1)) : vOpsN Pg T N ents G ops (⟨some d, op, ty, pos, after, some (j, want)⟩ :: rest) K E M n :=
 n_guardY hs hv (g_val (okO_out hb).1 (okO_out hb).2.1 he ((okO_out hb).2.2 d rfl) h)
theorem c_seqR {l : List Oper} (h : vOpsN Pg T N ents G (List.toArray l) l (SeqQ Pg T N ents G n0 y Q .normal) E M n) : vC Pg T N ents G n0 (.seq (.region id (List.toArray l) false) y) Q E M n := h
theorem n_nilS (h : vC Pg T N ents G n0 y Q E M n) : vOpsN Pg T N ents G ops [] (SeqQ Pg T N ents G n0 y Q .normal) E M n := Rs.go h
section
variable {f : Operand} {args : Array Operand} {ats : Array TypeId} {f0 : FuncId} {vs : List MV} {bs : List (Nat × Nat)} {res : MV}
theorem g_callR1 (hd : Nat.blt d N = true) (h1 : ∀ R : FuncId × List MV → Prop, R (f0, vs) → (vArgs E f args.toList).runP R) (h2 : ents.contains f0 = true) {args' : List MV} {M0 : VM} {n0 : Nat} {M1 : VM} {n1 : Nat} (hc : SemR Pg G f0 args' M0 n0 res M1 n1) (σ bs : List (Nat × Nat))
  (hm : LMatch 0 args' M0 n0 vs M σ bs) (h3 : allIn M σ = true) (h4 : M1.all (fun x => Nat.blt x.1 n1) = true) (h : vOpsN Pg T N ents G ops rest K ((d, renV (rho n σ) res) :: E) (renM (rho n σ) M1 ++ delM (VM.bump M bs) σ) (n + n1)) :
  vOpsG Pg T N ents G ops ⟨some d, .call ⟨.value f, args, ats⟩, ty, pos, after, g⟩ rest K E M n := g_callR (fun d' e => by injection e with e; subst e; exact hd) h1 h2 hc σ bs hm h3 h4 h
theorem g_callE1 (hd : Nat.blt d N = true) (h1 : ∀ R : FuncId × List MV → Prop, R (f0, vs) → (vArgs E f args.toList).runP R) (h2 : ents.contains f0 = true) {args' : List MV} {M0 : VM} {n0 : Nat} {Φ : MV → VM → Nat → Prop} (hc : SemE Pg G f0 args' M0 n0 Φ) (σ bs : List (Nat × Nat))
  (hm : LMatch 0 args' M0 n0 vs M σ bs) (h3 : allIn M σ = true) (h : ∀ (res : MV) (M1 : VM) (n1 : Nat), Φ res M1 n1 → M1.all (fun x => Nat.blt x.1 n1) = true ∧ vOpsN Pg T N ents G ops rest K ((d, renV (rho n σ) res) :: E) (renM (rho n σ) M1 ++ delM (VM.bump M bs) σ) (n + n1)) :
  vOpsG Pg T N ents G ops ⟨some d, .call ⟨.value f, args, ats⟩, ty, pos, after, g⟩ rest K E M n := by
 show (vRun Pg T ents G _ E M n _) ∨ (vArgs E f args.toList).runP _
 refine .inr (h1 _ ?_)
 show (match ents.contains f0 with | true => vCallR Pg G SemE M n f0 vs _ | false => vCallR Pg G SemPE M n f0 vs _)
 rw [h2]
 refine ⟨args', M0, n0, Φ, hc, σ, bs, hm, h3, fun r M' n' hΦ => ⟨(h r M' n' hΦ).1, ?_⟩⟩
 unfold vPut
 simp only [hd]
 exact (h r M' n' hΦ).2
end
end
end
section
section
variable {Pg : Program} {T : Tab} {N : Nat} {ents : List FuncId} {G : GS} {ops : Array Oper} {dst : Option Tmp} {d : Tmp} {op : Op} {ty : TypeId} {pos : String} {after : Array Edge} {g : Option (Nat × Bool)} {K : VK} {r : MV} {δ : Dl} {o : Oper} {j s k : Nat} {want t rf : Bool}
 {E : VE} {M : VM} {n : Nat} {J : List Nat → VE → VM → Prop} {L : List (Nat × Bool)} {A : List Dop} {fp : List Nat}
def NextD (Pg : Program) (T : Tab) (N : Nat) (ents : List FuncId) (G : GS) (ops : Array Oper) (L : List (Nat × Bool)) (A : List Dop) (K : VK) (k n : Nat) (rf : Bool) : List Nat → VE → VM → Prop := fun fp E M => vOpsD Pg T N ents G ops L (⟨k, n, rf, fp, []⟩ :: A) K E M (n + 1)
theorem d_end (ho : okDraw ops A.reverse n = true) (h : K E M n) : vOpsD Pg T N ents G ops [] A K E M n := ⟨ho, h⟩
def nthO : List Oper → Nat → Option Oper
 | [], _ => none
 | o :: _, 0 => some o
 | _ :: l, k + 1 => nthO l k
theorem nthO_eq : ∀ (l : List Oper) (k : Nat), l[k]? = nthO l k
 | [], _ => by simp [nthO]
 | o :: _, 0 => rfl
 | o :: l, k + 1 => by simp [nthO, nthO_eq l k]
theorem d_step {l : List Oper} (ho : nthO l k = some o) (h : vOpD Pg T N ents G (List.toArray l) rf o (NextD Pg T N ents G (List.toArray l) L A K k n rf) E M n) : vOpsD Pg T N ents G (List.toArray l) ((k, rf) :: L) A K E M n := by
 unfold vOpsD
 have e : (List.toArray l)[k]? = some o := by rw [← ho, ← nthO_eq]; simp
 simp only [e]
 exact h
theorem d_skip {l : List Oper} (ho : nthO l k = none) (h : vOpsD Pg T N ents G (List.toArray l) L A K E M (n + 1)) : vOpsD Pg T N ents G (List.toArray l) ((k, rf) :: L) A K E M n := by
 unfold vOpsD
 have e : (List.toArray l)[k]? = none := by rw [← ho, ← nthO_eq]; simp
 simp only [e]
 exact h
theorem d_next (h : vOpsD Pg T N ents G ops L (⟨k, n, rf, fp, []⟩ :: A) K E M (n + 1)) : NextD Pg T N ents G ops L A K k n rf fp E M := h
def vOpGD (Pg : Program) (T : Tab) (N : Nat) (ents : List FuncId) (G : GS) (rf : Bool) (o : Oper) (J : List Nat → VE → VM → Prop) (E : VE) (M : VM) (n : Nat) : Prop := vRunD Pg T ents G rf o E M n fun r M fp => vPut N o.dst r E fun E => J fp E M
theorem d_go (h : vOpGD Pg T N ents G rf ⟨dst, op, ty, pos, after, none⟩ J E M n) : vOpD Pg T N ents G ops rf ⟨dst, op, ty, pos, after, none⟩ J E M n := h
theorem d_guard (hs : (ops[j]?).bind (·.dst) = some s) (hv : VE.get E s = some (.bool t)) (h1 : t = want → vOpGD Pg T N ents G rf ⟨some d, op, ty, pos, after, some (j, want)⟩ J ((s, .bool want) :: E) M n) (hd : Nat.blt d N = true)
  (h2 : t = !want → J (bif rf then [] else numsO (VE.get E) op.operands.toList) ((d, .undef) :: (s, .bool (!want)) :: E) M) : vOpD Pg T N ents G ops rf ⟨some d, op, ty, pos, after, some (j, want)⟩ J E M n := by
 unfold vOpD
 simp only [hs, hv]
 refine ⟨h1, fun ht => ?_⟩
 unfold vPut
 simp only [hd]
 exact h2 ht
theorem d_guardY (hs : (ops[j]?).bind (·.dst) = some s) (hv : VE.get E s = some (.bool want)) (h : vOpGD Pg T N ents G rf ⟨dst, op, ty, pos, after, some (j, want)⟩ J ((s, .bool want) :: E) M n) : vOpD Pg T N ents G ops rf ⟨dst, op, ty, pos, after, some (j, want)⟩ J E M n := by
 unfold vOpD
 simp only [hs, hv]
 exact ⟨fun _ => h, fun ht => by cases want <;> cases ht⟩
theorem d_guardN (hs : (ops[j]?).bind (·.dst) = some s) (hv : VE.get E s = some (.bool (!want))) (hd : Nat.blt d N = true) (h : J (bif rf then [] else numsO (VE.get E) op.operands.toList) ((d, .undef) :: (s, .bool (!want)) :: E) M) : vOpD Pg T N ents G ops rf ⟨some d, op, ty, pos, after, some (j, want)⟩ J E M n :=
 d_guard hs hv (fun ht => by cases want <;> cases ht) hd (fun _ => h)
theorem d_guardU (hs : (ops[j]?).bind (·.dst) = some s) (hv : VE.get E s = some .undef) (hd : Nat.blt d N = true) (h : J (bif rf then [] else numsO (VE.get E) op.operands.toList) ((d, .undef) :: E) M) : vOpD Pg T N ents G ops rf ⟨some d, op, ty, pos, after, some (j, want)⟩ J E M n := by
 unfold vOpD
 simp only [hs, hv]
 unfold vPut
 simp only [hd]
 exact h
theorem gd_run (hv : plainO op = true) (he : ∀ R : MV × Dl → Prop, R (r, δ) → (eOp Pg T (VE.get E) (VM.get M) n ⟨dst, op, ty, pos, after, g⟩).runP R)
  (h : vPut N dst r E fun E2 => J (numsO (VE.get E) op.operands.toList) E2 (δ.app n M)) : vOpGD Pg T N ents G false ⟨dst, op, ty, pos, after, g⟩ J E M n := by
 unfold vOpGD vRunD vRun
 dsimp only
 cases op with
 | call c =>
  obtain ⟨callee, args, ats⟩ := c
  cases callee with
  | value f => cases hv
  | builtin b => exact he _ h
  | invoke r n => exact he _ h
 | _ => exact he _ h
theorem gd_val (hv : plainO op = true) (he : ∀ R : MV × Dl → Prop, R (r, .none) → (eOp Pg T (VE.get E) (VM.get M) n ⟨some d, op, ty, pos, after, g⟩).runP R) (hd : Nat.blt d N = true)
  (h : J (numsO (VE.get E) op.operands.toList) ((d, r) :: E) M) : vOpGD Pg T N ents G false ⟨some d, op, ty, pos, after, g⟩ J E M n := by
 refine gd_run hv he ?_
 unfold vPut
 simp only [hd]
 exact h
theorem gd_mem (hv : plainO op = true) (he : ∀ R : MV × Dl → Prop, R (r, δ) → (eOp Pg T (VE.get E) (VM.get M) n ⟨some d, op, ty, pos, after, g⟩).runP R) (hd : Nat.blt d N = true)
  (h : J (numsO (VE.get E) op.operands.toList) ((d, r) :: E) (δ.app n M)) : vOpGD Pg T N ents G false ⟨some d, op, ty, pos, after, g⟩ J E M n := by
 refine gd_run hv he ?_
 unfold vPut
 simp only [hd]
 exact h
theorem gd_none (hv : plainO op = true) (he : ∀ R : MV × Dl → Prop, R (r, δ) → (eOp Pg T (VE.get E) (VM.get M) n ⟨none, op, ty, pos, after, g⟩).runP R)
  (h : J (numsO (VE.get E) op.operands.toList) E (δ.app n M)) : vOpGD Pg T N ents G false ⟨none, op, ty, pos, after, g⟩ J E M n := gd_run hv he h
theorem e_val {l : List Oper} (ho : nthO l k = some ⟨some d, op, ty, pos, after, none⟩) (hb : (plainO op && Nat.blt d N) = true) (he : ∀ R : MV × Dl → Prop, R (r, .none) → (eOp Pg T (VE.get E) (VM.get M) n ⟨some d, op, ty, pos, after, none⟩).runP R)
  (h : vOpsD Pg T N ents G (List.toArray l) L (⟨k, n, false, numsO (VE.get E) op.operands.toList, []⟩ :: A) K ((d, r) :: E) M (n + 1)) : vOpsD Pg T N ents G (List.toArray l) ((k, false) :: L) A K E M n := by
 rw [Bool.and_eq_true] at hb
 exact d_step ho (d_go (gd_val hb.1 he hb.2 h))
theorem e_mem {l : List Oper} (ho : nthO l k = some ⟨some d, op, ty, pos, after, none⟩) (hb : (plainO op && Nat.blt d N) = true) (he : ∀ R : MV × Dl → Prop, R (r, δ) → (eOp Pg T (VE.get E) (VM.get M) n ⟨some d, op, ty, pos, after, none⟩).runP R)
  (h : vOpsD Pg T N ents G (List.toArray l) L (⟨k, n, false, numsO (VE.get E) op.operands.toList, []⟩ :: A) K ((d, r) :: E) (δ.app n M) (n + 1)) : vOpsD Pg T N ents G (List.toArray l) ((k, false) :: L) A K E M n := by
 rw [Bool.and_eq_true] at hb
 exact d_step ho (d_go (gd_mem hb.1 he hb.2 h))
theorem e_none {l : List Oper} (ho : nthO l k = some ⟨none, op, ty, pos, after, none⟩) (hb : plainO op = true) (he : ∀ R : MV × Dl → Prop, R (r, δ) → (eOp Pg T (VE.get E) (VM.get M) n ⟨none, op, ty, pos, after, none⟩).runP R)
  (h : vOpsD Pg T N ents G (List.toArray l) L (⟨k, n, false, numsO (VE.get E) op.operands.toList, []⟩ :: A) K E (δ.app n M) (n + 1)) : vOpsD Pg T N ents G (List.toArray l) ((k, false) :: L) A K E M n :=
 d_step ho (d_go (gd_none hb he h))
theorem e_valY {l : List Oper} (ho : nthO l k = some ⟨some d, op, ty, pos, after, some (j, want)⟩) (hs : ((List.toArray l)[j]?).bind (·.dst) = some s) (hv : VE.get E s = some (.bool want)) (hb : (plainO op && Nat.blt d N) = true) (he : ∀ R : MV × Dl → Prop, R (r, .none) → (eOp Pg T (VE.get ((s, .bool want) :: E)) (VM.get M) n ⟨some d, op, ty, pos, after, some (j, want)⟩).runP R)
  (h : vOpsD Pg T N ents G (List.toArray l) L (⟨k, n, false, numsO (VE.get ((s, .bool want) :: E)) op.operands.toList, []⟩ :: A) K ((d, r) :: (s, .bool want) :: E) M (n + 1)) : vOpsD Pg T N ents G (List.toArray l) ((k, false) :: L) A K E M n := by
 rw [Bool.and_eq_true] at hb
 exact d_step ho (d_guardY hs hv (gd_val hb.1 he hb.2 h))
section
variable {f : Operand} {args : Array Operand} {ats : Array TypeId} {f0 : FuncId} {vs : List MV} {bs : List (Nat × Nat)} {res : MV}
theorem gd_callV (hd : ∀ d, dst = some d → Nat.blt d N = true) (h1 : ∀ R : FuncId × List MV × List (Nat × Nat) → Prop, R (f0, vs, bs) → (vCall E M f args.toList).runP R) (h2 : ents.contains f0 = true) (hc : SemC Pg G f0 vs res)
  (h : J (numsO (VE.get E) (Op.call ⟨.value f, args, ats⟩).operands.toList) (match dst with | some d => (d, res) :: E | none => E) (VM.bump M bs)) : vOpGD Pg T N ents G false ⟨dst, .call ⟨.value f, args, ats⟩, ty, pos, after, g⟩ J E M n := by
 show (vCall E M f args.toList).runP _
 refine h1 _ ?_
 show (match ents.contains f0 with | true => ∃ res, SemC Pg G f0 vs res ∧ _ | false => False)
 rw [h2]
 refine ⟨res, hc, ?_⟩
 unfold vPut
 cases dst with
 | none => exact h
 | some d =>
  simp only [hd d rfl]
  exact h
theorem gd_callR (hd : ∀ d, dst = some d → Nat.blt d N = true) (h1 : ∀ R : FuncId × List MV → Prop, R (f0, vs) → (vArgs E f args.toList).runP R) (h2 : ents.contains f0 = true) (fp : List Nat) {args' : List MV} {M0 : VM} {n0 : Nat} {M1 : VM} {n1 : Nat} (hc : SemR Pg G f0 args' M0 n0 res M1 n1) (σ bs : List (Nat × Nat))
  (hm : LMatch 0 args' M0 n0 vs M σ bs) (h3 : allIn M σ = true) (h4 : okNew σ n0 n1 M1 = true) (h7 : okTw n n0 n1 fp = true) (h5 : subN (σ.map (·.2)) fp = true) (h6 : subN (bs.map (·.1)) fp = true)
  (h : J fp (match dst with | some d => (d, renV (rhoZ n0 n σ) res) :: E | none => E) (renM (rhoZ n0 n σ) M1 ++ delM (VM.bump M bs) σ)) : vOpGD Pg T N ents G true ⟨dst, .call ⟨.value f, args, ats⟩, ty, pos, after, g⟩ J E M n := by
 show (vArgs E f args.toList).runP _
 refine h1 _ ?_
 show (match ents.contains f0 with | true => ∃ fp, vCallZ Pg G M n f0 vs fp _ | false => False)
 rw [h2]
 refine ⟨fp, args', M0, n0, res, M1, n1, hc, σ, bs, hm, h3, h4, h7, h5, h6, ?_⟩
 unfold vPut
 cases dst with
 | none => exact h
 | some d =>
  simp only [hd d rfl]
  exact h
theorem gd_callR1 (hd : Nat.blt d N = true) (h1 : ∀ R : FuncId × List MV → Prop, R (f0, vs) → (vArgs E f args.toList).runP R) (h2 : ents.contains f0 = true) (fp : List Nat) {args' : List MV} {M0 : VM} {n0 : Nat} {M1 : VM} {n1 : Nat} (hc : SemR Pg G f0 args' M0 n0 res M1 n1) (σ bs : List (Nat × Nat))
  (hm : LMatch 0 args' M0 n0 vs M σ bs) (h3 : allIn M σ = true) (h4 : okNew σ n0 n1 M1 = true) (h7 : okTw n n0 n1 fp = true) (h5 : subN (σ.map (·.2)) fp = true) (h6 : subN (bs.map (·.1)) fp = true)
  (h : J fp ((d, renV (rhoZ n0 n σ) res) :: E) (renM (rhoZ n0 n σ) M1 ++ delM (VM.bump M bs) σ)) : vOpGD Pg T N ents G true ⟨some d, .call ⟨.value f, args, ats⟩, ty, pos, after, g⟩ J E M n := gd_callR (fun d' e => by injection e with e; subst e; exact hd) h1 h2 fp hc σ bs hm h3 h4 h7 h5 h6 h
end
end
end
section
mutual
def nfree : MV → Bool
 | .tup l => nfrees l
 | .undef => true
 | m => m.idFree
def nfrees : List MV → Bool
 | [] => true
 | m :: l => nfree m && nfrees l
end
theorem renV_free {ρ : Nat → Nat} : ∀ m : MV, m.idFree = true → renV ρ m = m
 | .st l, h => by
  have h : MV.idFrees l = true := h
  simp only [renV, h, cond_true]
 | .fn f l, h => by
  have h : MV.idFrees l = true := h
  simp only [renV, h, cond_true]
 | .ifc t v, h => by
  have h : MV.idFree v = true := h
  simp only [renV, h, cond_true]
 | .ptr .., h => by cases h
 | .ms .., h => by cases h
 | .tup .., h => by cases h
 | .undef, h => by cases h
 | .mp _, h => by cases h
 | .mpv .., h => by cases h
 | .int .., _ => by simp only [renV]
 | .bool .., _ => by simp only [renV]
 | .str .., _ => by simp only [renV]
 | .nilp, _ => by simp only [renV]
 | .gp .., _ => by simp only [renV]
 | .ep .., _ => by simp only [renV]
 | .sl .., _ => by simp only [renV]
 | .nils, _ => by simp only [renV]
 | .nilf, _ => by simp only [renV]
 | .nili, _ => by simp only [renV]
 | .arr .., _ => by simp only [renV]
mutual
theorem renV_nfree {ρ : Nat → Nat} : ∀ m : MV, nfree m = true → renV ρ m = m
 | .tup l, h => by
  simp only [nfree] at h
  simp only [renV, renVs_nfree l h]
 | .undef, _ => by simp only [renV]
 | .st l, h => renV_free _ (by simpa only [nfree] using h)
 | .fn f l, h => renV_free _ (by simpa only [nfree] using h)
 | .ifc t v, h => renV_free _ (by simpa only [nfree] using h)
 | .ptr .., h => by simp only [nfree] at h; cases h
 | .ms .., h => by simp only [nfree] at h; cases h
 | .mp _, h => by simp only [nfree] at h; cases h
 | .mpv .., h => by simp only [nfree] at h; cases h
 | .int .., _ => by simp only [renV]
 | .bool .., _ => by simp only [renV]
 | .str .., _ => by simp only [renV]
 | .nilp, _ => by simp only [renV]
 | .gp .., _ => by simp only [renV]
 | .ep .., _ => by simp only [renV]
 | .sl .., _ => by simp only [renV]
 | .nils, _ => by simp only [renV]
 | .nilf, _ => by simp only [renV]
 | .nili, _ => by simp only [renV]
 | .arr .., _ => by simp only [renV]
theorem renVs_nfree {ρ : Nat → Nat} : ∀ l : List MV, nfrees l = true → renVs ρ l = l
 | [], _ => by simp only [renVs]
 | m :: l, h => by
  simp only [nfrees, Bool.and_eq_true] at h
  simp only [renVs, renV_nfree m h.1, renVs_nfree l h.2]
end
section
variable {Pg : Program} {T : Tab} {N : Nat} {ents : List FuncId} {G : GS} {ops : Array Oper} {d : Tmp} {ty : TypeId} {pos : String} {after : Array Edge} {g : Option (Nat × Bool)} {rest : List Oper} {K : VK} {E : VE} {M : VM} {n : Nat}
 {f : Operand} {args : Array Operand} {ats : Array TypeId} {f0 : FuncId} {vs : List MV} {res : MV} {J : List Nat → VE → VM → Prop}
theorem g_call1 (hd : Nat.blt d N = true) (h1 : ∀ R : FuncId × List MV → Prop, R (f0, vs) → (vArgs E f args.toList).runP R) (h2 : ents.contains f0 = true) {args' : List MV} (hc : SemR Pg G f0 args' [] 0 res [] 0) (hf : nfree res = true) (bs : List (Nat × Nat)) (hb : okB M bs)
  (hm : relV.relVs (sigA 0 []) (fzb M bs) args' vs) (h : vOpsN Pg T N ents G ops rest K ((d, res) :: E) (VM.bump M bs) n) : vOpsG Pg T N ents G ops ⟨some d, .call ⟨.value f, args, ats⟩, ty, pos, after, g⟩ rest K E M n := by
 refine g_callR1 hd h1 h2 hc [] bs ⟨rfl, hb, rfl, hm, trivial⟩ rfl rfl ?_
 rw [renV_nfree res hf]
 exact h
theorem g_call2 (hd : Nat.blt d N = true) (h1 : ∀ R : FuncId × List MV → Prop, R (f0, vs) → (vArgs E f args.toList).runP R) (h2 : ents.contains f0 = true) {args' : List MV} (hc : SemR Pg G f0 args' [] 0 res [] 0) (hf : nfree res = true)
  (hm : relV.relVs (sigA 0 []) (fzb M []) args' vs) (h : vOpsN Pg T N ents G ops rest K ((d, res) :: E) M n) : vOpsG Pg T N ents G ops ⟨some d, .call ⟨.value f, args, ats⟩, ty, pos, after, g⟩ rest K E M n :=
 g_call1 hd h1 h2 hc hf [] trivial hm h
theorem gd_call1 (hd : Nat.blt d N = true) (h1 : ∀ R : FuncId × List MV → Prop, R (f0, vs) → (vArgs E f args.toList).runP R) (h2 : ents.contains f0 = true) (fp : List Nat) {args' : List MV} (hc : SemR Pg G f0 args' [] 0 res [] 0) (hf : nfree res = true) (bs : List (Nat × Nat)) (hb : okB M bs)
  (hm : relV.relVs (sigA 0 []) (fzb M bs) args' vs) (h6 : subN (bs.map (·.1)) fp = true) (h : J fp ((d, res) :: E) (VM.bump M bs)) : vOpGD Pg T N ents G true ⟨some d, .call ⟨.value f, args, ats⟩, ty, pos, after, g⟩ J E M n := by
 refine gd_callR1 hd h1 h2 fp hc [] bs ⟨rfl, hb, rfl, hm, trivial⟩ rfl rfl rfl rfl h6 ?_
 rw [renV_nfree res hf]
 exact h
end
end
section
section
variable {Pg : Program} {T : Tab} {E : VE} {M : VM} {n : Nat} {dst : Option Tmp} {t ty : TypeId} {pos : String} {after : Array Edge} {g : Option (Nat × Bool)} {R : MV × Dl → Prop} {x y : Operand} {c es k fo : Nat} {path : List Nat} {b : MB} {m m' r v : MV} {d : TD}
def okLd (T : Tab) (t : TypeId) (es' es : Nat) (r : MV) : Bool := match Tab.find T t with | some d => Nat.beq es' es && fits d r | none => false
def okSt (T : Tab) (t : TypeId) (es' es : Nat) (row : Bool) (v : MV) : Bool := match Tab.find T t with | some d => Nat.beq es' es && fits d v && (!row || v.idFree) | none => false
def getP : MV → List Nat → Option MV
 | m, [] => some m
 | .st l, i :: p => match nthM l i with
  | some m => getP m p
  | none => none
 | .arr _ _ l, i :: p => match nthM l i with
  | some m => getP m p
  | none => none
 | _, _ :: _ => none
def okP : MV → List Nat → Nat → Bool
 | _, [], fo => Nat.beq fo 0
 | .st l, i :: p, fo => match nthM l i with
  | some m => Nat.ble (sizesTo l i) fo && okP m p (fo - sizesTo l i)
  | none => false
 | .arr _ es l, i :: p, fo => match nthM l i with
  | some m => Nat.ble (i * es) fo && okP m p (fo - i * es)
  | none => false
 | _, _ :: _, _ => false
theorem getPO_of : ∀ {p : List Nat} {m : MV} {fo : Nat}, okP m p fo = true → getPO m p fo = getP m p
 | [], m, fo, h => by
  have h' : Nat.beq fo 0 = true := by unfold okP at h; exact h
  unfold getPO getP
  rw [h']
  rfl
 | i :: p, m, fo, h => by
  unfold okP at h
  unfold getPO getP
  split at h
  ·exact nomatch ‹i :: p = []›
  ·rename_i heq
   injection heq with h1 h2
   subst h1 h2
   dsimp only
   split at h
   ·rename_i hn
    rw [Bool.and_eq_true] at h
    rw [hn]
    dsimp only
    rw [h.1]
    exact getPO_of h.2
   ·exact Bool.noConfusion h
  ·rename_i heq
   injection heq with h1 h2
   subst h1 h2
   dsimp only
   split at h
   ·rename_i hn
    rw [Bool.and_eq_true] at h
    rw [hn]
    dsimp only
    rw [h.1]
    exact getPO_of h.2
   ·exact Bool.noConfusion h
  ·exact Bool.noConfusion h
def setP : MV → List Nat → MV → Option MV
 | _, [], v => some v
 | .st l, i :: p, v => match nthM l i with
  | some m => (match setP m p v with | some m' => some (.st (setL l i m')) | none => none)
  | none => none
 | .arr n es l, i :: p, v => match nthM l i with
  | some m => (match setP m p v with | some m' => some (.arr n es (setL l i m')) | none => none)
  | none => none
 | _, _ :: _, _ => none
def okSto : MV → List Nat → Nat → MV → Bool
 | m, [], fo, v => (Nat.beq fo 0 && Nat.beq v.size m.size) && bEq v.isAgg m.isAgg
 | .st l, i :: p, fo, v => match nthM l i with
  | some m => Nat.ble (sizesTo l i) fo && okSto m p (fo - sizesTo l i) v
  | none => false
 | .arr _ es l, i :: p, fo, v => match nthM l i with
  | some m => (Nat.ble (i * es) fo && v.idFree) && okSto m p (fo - i * es) v
  | none => false
 | _, _ :: _, _, _ => false
theorem setPO_of : ∀ {p : List Nat} {m : MV} {fo : Nat} {v : MV}, okSto m p fo v = true → setPO m p fo v = setP m p v
 | [], m, fo, v, h => by
  have h' : ((Nat.beq fo 0 && Nat.beq v.size m.size) && bEq v.isAgg m.isAgg) = true := by unfold okSto at h; exact h
  rw [Bool.and_eq_true] at h'
  unfold setPO setP
  rw [h'.1]
  have h2 := h'.2
  generalize v.isAgg = a at *
  generalize m.isAgg = b at *
  cases a <;> cases b <;> first | rfl | exact Bool.noConfusion h2
 | i :: p, m, fo, v, h => by
  unfold okSto at h
  unfold setPO setP
  split at h
  ·exact nomatch ‹i :: p = []›
  ·rename_i heq
   injection heq with h1 h2
   subst h1 h2
   dsimp only
   split at h
   ·rename_i hn
    rw [Bool.and_eq_true] at h
    rw [hn]
    dsimp only
    rw [h.1, setPO_of h.2]
    rfl
   ·exact Bool.noConfusion h
  ·rename_i heq
   injection heq with h1 h2
   subst h1 h2
   dsimp only
   split at h
   ·rename_i hn
    rw [Bool.and_eq_true] at h
    rw [hn]
    dsimp only
    rw [h.1, setPO_of h.2]
    rfl
   ·exact Bool.noConfusion h
  ·exact Bool.noConfusion h
theorem he_load (hp : evM (VE.get E) x = some (.ptr c es k fo path)) (hc : VM.get M c = some b) (hm : nthM b.l k = some m) (hr : getPO m path fo = some r) (hk : okLd T t b.es es r = true) (hR : R (r, .none)) : (eOp Pg T (VE.get E) (VM.get M) n ⟨dst, .load t x, ty, pos, after, g⟩).runP R := by
 show (rd (VE.get E) x fun p => oLoad T (VM.get M) t p).runP R
 unfold rd
 rw [hp]
 unfold okLd at hk
 show (oLoad T (VM.get M) t (.ptr c es k fo path)).runP R
 unfold oLoad
 cases ht : Tab.find T t with
 | none => rw [ht] at hk; exact Bool.noConfusion hk
 | some d =>
  rw [ht] at hk
  simp only [Bool.and_eq_true] at hk
  simp only [hc, hk.1, cond_true]
  refine ⟨m, hm, r, hr, ?_⟩
  simp only [hk.2, cond_true]
  exact hR
theorem he_store (hp : evM (VE.get E) x = some (.ptr c es k fo path)) (hy : evM (VE.get E) y = some v) (hc : VM.get M c = some b) (hpe : b.pe ≤ k) (hm : nthM b.l k = some m) (hs : setPO m path fo v = some m') (hk : okSt T t b.es es b.row v = true) (hR : R (.undef, .upd c (setL b.l k m'))) : (eOp Pg T (VE.get E) (VM.get M) n ⟨dst, .store t x y, ty, pos, after, g⟩).runP R := by
 show (rd (VE.get E) x fun p => rd (VE.get E) y fun v => oStore T (VM.get M) t p v).runP R
 unfold rd
 rw [hp]
 dsimp only
 rw [hy]
 unfold okSt at hk
 show (oStore T (VM.get M) t (.ptr c es k fo path) v).runP R
 unfold oStore
 cases ht : Tab.find T t with
 | none => rw [ht] at hk; exact Bool.noConfusion hk
 | some d =>
  rw [ht] at hk
  simp only [hc]
  have hk' : (Nat.beq b.es es && fits d v && (!b.row || v.idFree)) = true := hk
  rw [hk']
  exact ⟨hpe, m, hm, m', hs, _, rfl, hR⟩
theorem he_box (hx : evM (VE.get E) x = some v) (ht : Tab.find T t = some d) (hk : fits d v = true) (hR : R (.ptr n d.size 0 0 [], .new ⟨t, d.size, false, 0, [v]⟩)) : (eOp Pg T (VE.get E) (VM.get M) n ⟨dst, .box t x, ty, pos, after, g⟩).runP R := by
 show (rd (VE.get E) x fun v => oBox T n t v).runP R
 unfold rd
 rw [hx]
 show (oBox T n t v).runP R
 unfold oBox
 rw [ht]
 simp only [hk, cond_true]
 exact hR
theorem he_alloc (ht : Tab.find T t = some d) (hz : zeroM T 9 t = some v) (hk : fits d v = true) (hR : R (.ptr n d.size 0 0 [], .new ⟨t, d.size, false, 0, [v]⟩)) : (eOp Pg T (VE.get E) (VM.get M) n ⟨dst, .alloc t, ty, pos, after, g⟩).runP R := by
 show (oAlloc T n t).runP R
 unfold oAlloc
 rw [ht, hz]
 simp only [hk, cond_true]
 exact hR
theorem he_loadP (hp : evM (VE.get E) x = some (.ptr c es k fo path)) (hc : VM.get M c = some b) (hm : nthM b.l k = some m) (hr : getP m path = some r) (hk : (okLd T t b.es es r && okP m path fo) = true) (hR : R (r, .none)) : (eOp Pg T (VE.get E) (VM.get M) n ⟨dst, .load t x, ty, pos, after, g⟩).runP R := by
 rw [Bool.and_eq_true] at hk
 exact he_load hp hc hm ((getPO_of hk.2).trans hr) hk.1 hR
theorem he_storeP (hp : evM (VE.get E) x = some (.ptr c es k fo path)) (hy : evM (VE.get E) y = some v) (hc : VM.get M c = some b) (hpe : b.pe ≤ k) (hm : nthM b.l k = some m) (hs : setP m path v = some m') (hk : (okSt T t b.es es b.row v && okSto m path fo v) = true) (hR : R (.undef, .upd c (setL b.l k m'))) : (eOp Pg T (VE.get E) (VM.get M) n ⟨dst, .store t x y, ty, pos, after, g⟩).runP R := by
 rw [Bool.and_eq_true] at hk
 exact he_store hp hy hc hpe hm ((setPO_of hk.2).trans hs) hk.1 hR
variable {N : Nat} {ents : List FuncId} {G : GS} {ops : Array Oper} {rest : List Oper} {K : VK} {dd : Tmp}
theorem n_load (hp : evM (VE.get E) x = some (.ptr c es k fo path)) (hc : VM.get M c = some b) (hm : nthM b.l k = some m) (hr : getP m path = some r) (hk : ((okO T N E ⟨some dd, .load t x, ty, pos, after, none⟩ && okLd T t b.es es r) && okP m path fo) = true) (h : vOpsN Pg T N ents G ops rest K ((dd, r) :: E) M (n + 1)) : vOpsN Pg T N ents G ops (⟨some dd, .load t x, ty, pos, after, none⟩ :: rest) K E M n := by
 rw [Bool.and_eq_true, Bool.and_eq_true] at hk
 exact n_val hk.1.1 (fun R hR => he_load hp hc hm ((getPO_of hk.2).trans hr) hk.1.2 hR) h
theorem n_store (hp : evM (VE.get E) x = some (.ptr c es k fo path)) (hy : evM (VE.get E) y = some v) (hc : VM.get M c = some b) (hpe : b.pe ≤ k) (hm : nthM b.l k = some m) (hs : setP m path v = some m') (hk : ((okO T N E ⟨none, .store t x y, ty, pos, after, none⟩ && okSt T t b.es es b.row v) && okSto m path fo v) = true) (h : vOpsN Pg T N ents G ops rest K E (Dl.app n (.upd c (setL b.l k m')) M) (n + 1)) : vOpsN Pg T N ents G ops (⟨none, .store t x y, ty, pos, after, none⟩ :: rest) K E M n := by
 rw [Bool.and_eq_true, Bool.and_eq_true] at hk
 exact n_none hk.1.1 (fun R hR => he_store hp hy hc hpe hm ((setPO_of hk.2).trans hs) hk.1.2 hR) h
theorem e_load {l : List Oper} {q : Nat} {L : List (Nat × Bool)} {A : List Dop} (ho : nthO l q = some ⟨some dd, .load t x, ty, pos, after, none⟩) (hp : evM (VE.get E) x = some (.ptr c es k fo path)) (hc : VM.get M c = some b) (hm : nthM b.l k = some m) (hr : getP m path = some r) (hk : ((Nat.blt dd N && okLd T t b.es es r) && okP m path fo) = true) (h : vOpsD Pg T N ents G (List.toArray l) L (⟨q, n, false, numsO (VE.get E) (Op.load t x).operands.toList, []⟩ :: A) K ((dd, r) :: E) M (n + 1)) : vOpsD Pg T N ents G (List.toArray l) ((q, false) :: L) A K E M n := by
 rw [Bool.and_eq_true, Bool.and_eq_true] at hk
 exact e_val ho (by rw [show plainO (Op.load t x) = true from rfl, Bool.true_and]; exact hk.1.1) (fun R hR => he_load hp hc hm ((getPO_of hk.2).trans hr) hk.1.2 hR) h
theorem e_store {l : List Oper} {q : Nat} {L : List (Nat × Bool)} {A : List Dop} (ho : nthO l q = some ⟨none, .store t x y, ty, pos, after, none⟩) (hp : evM (VE.get E) x = some (.ptr c es k fo path)) (hy : evM (VE.get E) y = some v) (hc : VM.get M c = some b) (hpe : b.pe ≤ k) (hm : nthM b.l k = some m) (hs : setP m path v = some m') (hk : (okSt T t b.es es b.row v && okSto m path fo v) = true) (h : vOpsD Pg T N ents G (List.toArray l) L (⟨q, n, false, numsO (VE.get E) (Op.store t x y).operands.toList, []⟩ :: A) K E (Dl.app n (.upd c (setL b.l k m')) M) (n + 1)) : vOpsD Pg T N ents G (List.toArray l) ((q, false) :: L) A K E M n := by
 rw [Bool.and_eq_true] at hk
 exact e_none ho rfl (fun R hR => he_store hp hy hc hpe hm ((setPO_of hk.2).trans hs) hk.1 hR) h
theorem n_box (hx : evM (VE.get E) x = some v) (ht : Tab.find T t = some d) (hk : (okO T N E ⟨some dd, .box t x, ty, pos, after, none⟩ && fits d v) = true) (h : vOpsN Pg T N ents G ops rest K ((dd, .ptr n d.size 0 0 []) :: E) (Dl.app n (.new ⟨t, d.size, false, 0, [v]⟩) M) (n + 1)) : vOpsN Pg T N ents G ops (⟨some dd, .box t x, ty, pos, after, none⟩ :: rest) K E M n := by
 rw [Bool.and_eq_true] at hk
 exact n_mem hk.1 (fun R hR => he_box hx ht hk.2 hR) h
theorem n_alloc (ht : Tab.find T t = some d) (hz : zeroM T 9 t = some v) (hk : (okO T N E ⟨some dd, .alloc t, ty, pos, after, none⟩ && fits d v) = true) (h : vOpsN Pg T N ents G ops rest K ((dd, .ptr n d.size 0 0 []) :: E) (Dl.app n (.new ⟨t, d.size, false, 0, [v]⟩) M) (n + 1)) : vOpsN Pg T N ents G ops (⟨some dd, .alloc t, ty, pos, after, none⟩ :: rest) K E M n := by
 rw [Bool.and_eq_true] at hk
 exact n_mem hk.1 (fun R hR => he_alloc ht hz hk.2 hR) h
end
end
section
def tab : Tab := [(1, .fn), (2, .int .i64), (3, .int .i64), (4, .bool), (5, .int .u8), (6, .int .u8), (7, .struct [(0, 2), (1, 3), (2, 4), (3, 6)] 4), (8, .struct [(0, 2), (1, 3), (2, 4), (3, 6)] 4), (9, .str), (10, .str), (11, .str), (12, .int .u64), (13, .struct [(0, 9), (1, 12)] 2), (14, .struct [(0, 9), (1, 12)] 2), (15, .ptr), (16, .ptr), (17, .ptr), (18, .struct [(0, 17)] 1), (19, .struct [(0, 17)] 1), (20, .iface), (21, .int .i32), (22, .slice 5 1), (23, .fn), (24, .slice 9 1), (25, .fn), (27, .fn), (28, .fn), (29, .slice 21 1), (31, .fn), (32, .fn), (33, .int .u64), (34, .struct [(0, 3), (1, 3), (2, 3), (3, 3), (4, 3), (5, 3), (6, 4), (7, 3), (8, 3), (9, 33), (10, 3), (11, 3)] 12), (35, .struct [(0, 3), (1, 3), (2, 3), (3, 3), (4, 3), (5, 3), (6, 4), (7, 3), (8, 3), (9, 33), (10, 3), (11, 3)] 12), (36, .slice 45 3), (37, .fn), (38, .fn), (39, .fn), (40, .fn), (41, .int .i64), (43, .fn), (44, .struct [(0, 9), (1, 33), (2, 33)] 3), (45, .struct [(0, 9), (1, 33), (2, 33)] 3), (46, .fn), (47, .ptr), (48, .struct [(0, 47), (1, 22)] 2), (49, .struct [(0, 47), (1, 22)] 2), (51, .fn), (53, .fn), (54, .iface), (55, .iface), (57, .fn), (58, .fn), (60, .fn), (61, .fn), (62, .fn), (63, .fn), (64, .ptr), (66, .fn), (67, .ptr), (68, .slice 119 5), (69, .slice 161 73), (70, .struct [(0, 35), (12, 36), (13, 64), (14, 68), (15, 69), (16, 49)] 18), (71, .struct [(0, 35), (12, 36), (13, 64), (14, 68), (15, 69), (16, 49)] 18), (73, .fn), (74, .fn), (75, .fn), (76, .fn), (77, .fn), (78, .fn), (79, .fn), (81, .fn), (82, .fn), (83, .ptr), (84, .struct [(0, 36), (1, 33)] 2), (85, .struct [(0, 36), (1, 33)] 2), (86, .struct [(0, 85), (2, 85), (4, 85), (6, 4), (7, 33)] 8), (87, .struct [(0, 85), (2, 85), (4, 85), (6, 4), (7, 33)] 8), (88, .slice 171 41), (89, .slice 93 32), (90, .struct [(0, 35), (12, 87), (20, 3), (21, 3), (22, 3), (23, 88), (24, 89)] 25), (91, .struct [(0, 35), (12, 87), (20, 3), (21, 3), (22, 3), (23, 88), (24, 89)] 25), (92, .arr 32 5 1), (93, .arr 32 5 1), (94, .struct [(0, 3), (1, 3), (2, 93), (34, 93), (66, 93)] 98), (95, .struct [(0, 3), (1, 3), (2, 93), (34, 93), (66, 93)] 98), (96, .slice 102 132), (97, .slice 89 1), (98, .struct [(0, 3), (1, 3), (2, 3), (3, 93), (35, 93), (67, 93), (99, 93)] 131), (99, .struct [(0, 3), (1, 3), (2, 3), (3, 93), (35, 93), (67, 93), (99, 93)] 131), (100, .slice 22 1), (101, .struct [(0, 99), (131, 100)] 132), (102, .struct [(0, 99), (131, 100)] 132), (103, .struct [(0, 91), (25, 95), (123, 96), (124, 97), (125, 4), (126, 102), (258, 22)] 259), (104, .struct [(0, 91), (25, 95), (123, 96), (124, 97), (125, 4), (126, 102), (258, 22)] 259), (106, .fn), (107, .struct [(0, 35), (12, 36), (13, 104), (272, 68), (273, 69)] 274), (108, .struct [(0, 35), (12, 36), (13, 104), (272, 68), (273, 69)] 274), (109, .fn), (111, .fn), (113, .fn), (114, .fn), (115, .arr 16 89 1), (116, .struct [(0, 91), (25, 95), (123, 96), (124, 115), (140, 96), (141, 22)] 142), (117, .struct [(0, 91), (25, 95), (123, 96), (124, 115), (140, 96), (141, 22)] 142), (118, .struct [(0, 3), (1, 3), (2, 3), (3, 3), (4, 22)] 5), (119, .struct [(0, 3), (1, 3), (2, 3), (3, 3), (4, 22)] 5), (120, .fn), (121, .slice 190 2), (122, .struct [(0, 9), (1, 33), (2, 33), (3, 33), (4, 9), (5, 121)] 6), (123, .struct [(0, 9), (1, 33), (2, 33), (3, 33), (4, 9), (5, 121)] 6), (125, .fn), (126, .fn), (127, .fn), (128, .str), (130, .fn), (132, .fn), (133, .arr 256 5 1), (134, .int .u64), (135, .struct [(0, 5), (1, 5)] 2), (136, .struct [(0, 5), (1, 5)] 2), (137, .arr 16 136 2), (138, .fn), (139, .ptr), (140, .fn), (141, .int .u32), (142, .arr 24 5 1), (143, .fn), (144, .fn), (146, .fn), (148, .fn), (149, .fn), (150, .fn), (151, .fn), (152, .fn), (153, .fn), (155, .fn), (156, .fn), (157, .fn), (158, .fn), (159, .fn), (160, .struct [(0, 41), (1, 93), (33, 33), (34, 89), (35, 89), (36, 89), (37, 89), (38, 89), (39, 100), (40, 3), (41, 93)] 73), (161, .struct [(0, 41), (1, 93), (33, 33), (34, 89), (35, 89), (36, 89), (37, 89), (38, 89), (39, 100), (40, 3), (41, 93)] 73), (162, .fn), (163, .fn), (164, .fn), (165, .fn), (166, .fn), (167, .fn), (168, .fn), (169, .slice 3 1), (170, .struct [(0, 93), (32, 22), (33, 9), (34, 33), (35, 33), (36, 33), (37, 3), (38, 3), (39, 3), (40, 169)] 41), (171, .struct [(0, 93), (32, 22), (33, 9), (34, 33), (35, 33), (36, 33), (37, 3), (38, 3), (39, 3), (40, 169)] 41), (172, .fn), (173, .fn), (174, .fn), (175, .fn), (176, .struct [(0, 3), (1, 3), (2, 3), (3, 3), (4, 3), (5, 3), (6, 3), (7, 3), (8, 3)] 9), (177, .struct [(0, 3), (1, 3), (2, 3), (3, 3), (4, 3), (5, 3), (6, 3), (7, 3), (8, 3)] 9), (178, .fn), (179, .fn), (180, .fn), (181, .other), (183, .fn), (184, .arr 2 9 1), (185, .arr 4 33 1), (186, .arr 4 9 1), (188, .fn), (189, .struct [(0, 9), (1, 33)] 2), (190, .struct [(0, 9), (1, 33)] 2), (191, .int .i64), (192, .fn), (193, .fn), (194, .ptr), (195, .fn), (196, .fn), (197, .fn), (198, .fn), (199, .arr 20 33 1), (200, .arr 65 5 1), (201, .fn), (202, .fn), (204, .fn), (205, .fn), (207, .fn), (208, .struct [(0, 33), (1, 4)] 2), (209, .struct [(0, 33), (1, 4)] 2), (210, .struct [(0, 9), (1, 209), (3, 209), (5, 209)] 7), (211, .struct [(0, 9), (1, 209), (3, 209), (5, 209)] 7), (212, .arr 12 211 7), (213, .fn), (215, .fn), (216, .fn), (218, .fn), (219, .fn), (220, .fn), (221, .struct [(0, 3), (1, 3), (2, 33), (3, 22)] 4), (222, .struct [(0, 3), (1, 3), (2, 33), (3, 22)] 4), (223, .fn), (224, .ptr), (225, .fn), (226, .fn), (227, .fn), (228, .slice 230 5), (229, .struct [(0, 41), (1, 9), (2, 33), (3, 33), (4, 33)] 5), (230, .struct [(0, 41), (1, 9), (2, 33), (3, 33), (4, 33)] 5), (231, .fn), (232, .fn), (233, .iface), (234, .iface), (236, .fn), (237, .fn), (238, .fn), (239, .struct [(0, 22)] 1), (240, .struct [(0, 22)] 1), (241, .fn), (242, .fn), (243, .fn), (244, .fn), (245, .fn), (246, .fn), (247, .fn), (248, .arr 9 9 1), (249, .arr 9 3 1), (250, .struct [(0, 9), (1, 9), (2, 55)] 3), (251, .struct [(0, 9), (1, 9), (2, 55)] 3), (252, .fn), (253, .fn), (254, .fn), (255, .fn), (256, .fn), (257, .slice 222 4), (258, .arr 8 141 1), (259, .fn), (261, .fn), (262, .fn), (263, .fn), (264, .fn), (266, .fn), (267, .fn), (268, .fn), (269, .fn), (270, .fn), (271, .fn), (272, .fn), (273, .fn), (274, .fn), (275, .fn), (276, .fn), (277, .ptr), (278, .arr 12 277 1), (279, .fn), (280, .ptr), (281, .fn), (282, .other), (283, .struct [] 0), (285, .fn), (286, .fn), (287, .fn), (288, .fn), (289, .fn), (290, .arr 8 141 1), (291, .fn), (292, .struct [(0, 290), (8, 22), (9, 3)] 10), (293, .struct [(0, 290), (8, 22), (9, 3)] 10), (294, .fn), (295, .fn), (296, .fn), (297, .fn), (299, .fn), (300, .struct [(0, 22), (1, 3)] 2), (301, .struct [(0, 22), (1, 3)] 2), (302, .struct [(0, 3)] 1), (303, .struct [(0, 3)] 1), (304, .struct [(0, 3), (1, 3)] 2), (305, .struct [(0, 3), (1, 3)] 2), (306, .struct [] 0), (307, .struct [(0, 22)] 1), (308, .struct [(0, 22)] 1), (309, .struct [(0, 22)] 1), (310, .struct [] 0), (311, .struct [(0, 3)] 1), (312, .struct [(0, 3)] 1), (313, .fn), (314, .ptr), (315, .fn), (316, .fn), (317, .fn), (318, .fn), (319, .fn), (320, .arr 3 3 1), (321, .fn), (322, .arr 4 93 32), (323, .ptr), (324, .struct [(0, 9)] 1), (325, .struct [(0, 9)] 1), (326, .arr 64 5 1), (327, .fn), (328, .fn), (329, .arr 64 141 1), (330, .fn), (331, .fn), (332, .fn), (333, .fn), (334, .fn), (335, .fn), (336, .fn), (337, .fn), (338, .fn), (340, .fn), (342, .fn), (343, .fn), (345, .fn), (346, .fn), (347, .fn), (348, .fn), (349, .fn), (351, .fn), (352, .fn), (353, .fn), (354, .fn), (355, .fn), (356, .fn), (357, .fn), (358, .fn), (359, .fn), (360, .fn), (361, .slice 33 1), (362, .fn), (363, .fn), (364, .fn), (365, .ptr), (366, .fn), (367, .fn), (368, .fn), (369, .fn), (370, .fn), (371, .fn), (373, .fn), (374, .fn), (375, .fn), (376, .fn), (377, .fn), (378, .struct [(0, 3), (1, 33), (2, 4)] 3), (379, .struct [(0, 3), (1, 33), (2, 4)] 3), (381, .fn), (382, .fn), (383, .fn), (385, .fn), (387, .fn), (388, .fn), (389, .fn), (391, .fn), (393, .fn), (395, .fn), (397, .fn), (398, .fn), (399, .int .i64), (401, .fn), (402, .fn), (403, .fn), (404, .fn), (405, .fn), (406, .fn), (407, .fn), (408, .fn), (409, .fn), (410, .fn), (411, .fn), (412, .fn), (413, .fn), (415, .fn), (417, .fn), (418, .fn), (419, .int .u64), (420, .fn), (421, .fn), (422, .fn), (423, .fn), (425, .fn), (426, .fn), (427, .fn), (429, .fn), (431, .fn), (432, .ptr), (433, .fn), (434, .fn), (435, .fn), (436, .struct [(0, 17), (1, 17), (2, 17), (3, 9)] 4), (437, .struct [(0, 17), (1, 17), (2, 17), (3, 9)] 4), (441, .fn), (442, .int .u8), (443, .int .u8), (444, .fn), (445, .int .i32), (446, .int .i32), (447, .struct [(0, 12), (1, 12), (2, 141), (3, 442), (4, 5), (5, 5), (6, 443), (7, 444), (8, 83), (9, 445), (10, 446)] 11), (448, .struct [(0, 12), (1, 12), (2, 141), (3, 442), (4, 5), (5, 5), (6, 443), (7, 444), (8, 83), (9, 445), (10, 446)] 11), (449, .fn), (450, .fn), (451, .fn), (452, .fn), (453, .fn), (454, .fn), (455, .fn), (456, .fn), (457, .fn), (458, .fn), (459, .fn), (460, .fn), (461, .fn), (462, .fn), (463, .fn), (464, .fn), (465, .fn), (466, .int .u64), (467, .struct [(0, 17), (1, 139), (2, 466)] 3), (468, .struct [(0, 17), (1, 139), (2, 466)] 3), (469, .fn), (470, .fn), (471, .fn), (472, .fn), (473, .struct [(0, 464), (1, 470)] 2), (474, .struct [(0, 464), (1, 470)] 2), (475, .fn), (476, .fn), (477, .fn), (478, .fn), (479, .struct [(0, 17)] 1), (480, .struct [(0, 17)] 1), (481, .ptr), (482, .fn), (483, .fn), (484, .fn), (485, .fn), (486, .fn), (487, .fn), (488, .fn), (489, .fn), (490, .fn), (491, .fn), (492, .fn), (493, .fn), (494, .fn), (495, .fn), (496, .fn), (497, .fn), (498, .fn), (499, .fn), (500, .fn), (501, .other), (502, .fn), (503, .fn), (504, .fn), (505, .arr 3 277 1), (506, .fn), (507, .ptr), (508, .arr 4 507 1), (510, .fn), (511, .fn), (512, .fn), (513, .struct [(0, 9), (1, 443)] 2), (514, .struct [(0, 9), (1, 443)] 2)]
def ents : List FuncId := [2, 3, 4, 5, 6, 7, 8, 9, 10, 11, 12, 13, 14, 15, 16, 17, 18, 19, 20, 21, 22, 23, 24, 25, 26, 27, 28, 29, 30, 31, 32, 33, 34, 35, 36, 37, 38, 39, 40, 41, 42, 43, 44, 45, 46, 47, 48, 49, 50, 51, 52, 53, 54, 55, 56, 57, 59, 60, 61, 62, 63, 64, 65, 66, 67, 68, 69, 70, 71, 72, 73, 74, 75, 76, 77, 78, 79, 80, 81, 82, 83, 84, 85, 86, 87, 88, 89, 90, 91, 92, 93, 94, 95, 96, 97, 98, 99, 100, 101, 103, 104, 105, 106, 107, 108, 109, 110, 111, 112, 113, 114, 115, 116, 117, 118, 119, 120, 121, 122, 123, 124, 125, 126, 127, 128, 129, 130, 131, 132, 133, 134, 135, 136, 137, 138, 139, 140, 141, 142, 143, 144, 145, 147, 148, 149, 150, 151, 152, 153, 154, 155, 156, 157, 158, 159, 160, 161, 162, 163, 164, 165, 166, 167, 168, 169, 170, 171, 172, 173, 174, 175, 176, 177, 178, 179, 180, 181, 182, 183, 184, 185, 186, 187, 188, 189, 190, 191, 192, 193, 194, 195, 196, 197, 198, 199, 200, 201, 202, 203, 204, 205, 206, 207, 208, 209, 210, 211, 212, 213, 214, 215, 216, 217, 218, 219, 220, 221, 222, 223, 224, 225, 226, 227, 228, 229, 230, 231, 232, 233, 234, 235, 236, 237, 238, 239, 240, 241, 242, 243, 244, 245, 246, 247, 248, 249, 250, 251, 252, 253, 254, 255, 256, 257, 258, 259, 260, 261, 262, 263, 264, 265, 266, 267, 268, 269, 270, 271, 272, 273, 274, 275, 276, 277, 278, 279, 280, 281, 282, 283, 284, 285, 286, 287, 288, 289, 290, 291, 292, 293, 294, 295, 296, 297, 298, 299, 300, 301, 302, 303, 304, 305, 306, 307, 309, 310, 311, 312, 313, 314, 315, 316, 317, 318, 320, 321, 322, 323, 324, 325, 326, 327, 328, 329, 330, 331, 332, 333, 334, 335, 336, 356, 357, 358, 359, 360, 361, 362, 363, 364, 365, 366, 367, 368, 369, 370, 371, 372, 373, 374, 375, 376, 377, 378, 379, 380, 381, 382, 383, 384, 385, 386, 387, 388, 389, 390, 391, 392, 395, 397, 398, 399, 400, 401, 402, 403, 404, 405, 406, 416, 417, 418, 419, 420, 421, 422, 423, 424, 425, 427, 428, 429, 430, 431, 432, 433, 434, 435, 436, 437, 438, 439, 440, 441, 442, 443, 444, 445, 446, 447, 448, 449, 450, 451, 452, 453, 454, 455, 456, 457, 458, 459, 460, 461, 462, 463, 464, 465, 466, 467, 468, 469, 470, 471, 472, 473, 474, 475, 476, 477, 478, 479, 480, 481, 482, 483, 484, 485, 486, 487, 488, 503]
def entB (P : Program) (f : FuncId) : Bool := match P.funcs[f]? with | some fn => fn.body.isSome && !(fn.name == "runtime.NumGoroutine") | none => false
theorem enters_of_entB {P : Program} {f : FuncId} (h : entB P f = true) (args : Array Value) (w : World) : (callFunc f args).run P w = .ok (.enter f args) w := by
 unfold entB at h
 split at h
 ·rename_i fn hf
  simp only [Bool.and_eq_true, Bool.not_eq_true'] at h
  obtain ⟨h1, h2⟩ := h
  obtain ⟨c, hc⟩ := Option.isSome_iff_exists.1 h1
  exact enters_of hf h2 hc args w
 ·cases h
theorem seat : Seat Tryz.prog tab ents := ⟨⟨by kernel_rfl⟩, fun f hf => enters_of_entB (List.all_eq_true.1 (show ents.all (entB Tryz.prog) = true by kernel_rfl) f hf), by kernel_rfl⟩
end
section
theorem sv {α : Type} {a b : α} (h : a = b) : some a = some b := congrArg some h
theorem VMatch.of {n0 : Nat} {E' : VE} {M' : VM} {n' : Nat} {E : VE} {M : VM} (σ bs : List (Nat × Nat)) (h1 : mE (sigA n0 σ) (fzb M bs) E' E) (h2 : mM (sigA n0 σ) (fzb M bs) M' (VM.bump M bs)) (h3 : okSg n0 n' σ = true) (h4 : okB M bs) (h5 : M'.all (fun x => Nat.blt x.1 n') = true) : VMatch n0 E' M' n' E M := ⟨σ, bs, h3, h4, h5, h1, h2⟩
theorem index_at {l : List MV} {n k : Nat} {x : MV} (hk : k < n) (hx : l[k]? = some x) : idxL l n (k : Int) = some x := by
 unfold idxL
 rw [if_pos (by omega)]
 simpa using hx
theorem idx_at {n k : Nat} (hk : k < n) : idx n (k : Int) = some k := by
 unfold idx
 rw [if_pos (by omega)]
 simp
theorem cut_all {α : Type} (f : α → MV) (l : List α) : cutL (l.map f) 0 (0 + l.length) = l.map f := by simp [cutL, List.take_of_length_le]
theorem app_ok {n m k : Nat} (hb : Nat.ble k 4096 = true) (h : n + m ≤ 2000000000) : (n + m) * k ≤ 140737488355328 ∧ n + m ≤ maxLen := by
 have hb := Nat.le_of_ble_eq_true hb
 have := Nat.mul_le_mul h hb
 have e : maxLen = 9223372036854775807 := rfl
 omega
theorem app_ok1 {m k : Nat} (hb : Nat.ble k 4096 = true) (h : m ≤ 2000000000) : m * k ≤ 140737488355328 ∧ m ≤ maxLen := by
 have := app_ok (n := 0) (m := m) hb (by omega)
 rw [Nat.zero_add] at this
 exact this
end
section
theorem w32 (n : Int) : IntKind.u32.wrap n = n % 4294967296 := by
 simp only [IntKind.wrap, IntKind.bits, IntKind.signed]; simp
theorem w8 (n : Int) : IntKind.u8.wrap n = n % 256 := by
 simp only [IntKind.wrap, IntKind.bits, IntKind.signed]; simp
theorem wu64 (n : Int) : IntKind.u64.wrap n = n % 18446744073709551616 := by
 simp only [IntKind.wrap, IntKind.bits, IntKind.signed]; simp
abbrev u32M (x : UInt32) : MV := .int .u32 x.toNat
abbrev u8M (x : UInt8) : MV := .int .u8 x.toNat
theorem bv_of (n m : Nat) (h : m < 2 ^ n) : (BitVec.ofInt n (m : Int)).toNat = m := by
 rw [BitVec.toNat_ofInt]
 have e : ((2 ^ n : Nat) : Int) = (2 : Int) ^ n := by simp
 have : ((m : Int) % ((2 ^ n : Nat) : Int)).toNat = m := by
  rw [← Int.natCast_emod, Int.toNat_natCast, Nat.mod_eq_of_lt h]
 exact this
theorem t32 (x : UInt32) : x.toNat < 4294967296 := x.toNat_lt
theorem t8 (x : UInt8) : x.toNat < 256 := x.toNat_lt
theorem add32 (x y : UInt32) : IntKind.u32.wrap ((x.toNat : Int) + (y.toNat : Int)) = ((x + y).toNat : Int) := by
 rw [w32, UInt32.toNat_add]; omega
theorem and32 (x y : UInt32) : IntKind.u32.wrap ((BitVec.ofInt IntKind.u32.bits (x.toNat : Int) &&& BitVec.ofInt IntKind.u32.bits (y.toNat : Int)).toNat : Int) = ((x &&& y).toNat : Int) := by
 have h := t32 (x &&& y)
 rw [BitVec.toNat_and, bv_of _ _ (t32 x), bv_of _ _ (t32 y), ← UInt32.toNat_and, w32]; omega
theorem or32 (x y : UInt32) : IntKind.u32.wrap ((BitVec.ofInt IntKind.u32.bits (x.toNat : Int) ||| BitVec.ofInt IntKind.u32.bits (y.toNat : Int)).toNat : Int) = ((x ||| y).toNat : Int) := by
 have h := t32 (x ||| y)
 rw [BitVec.toNat_or, bv_of _ _ (t32 x), bv_of _ _ (t32 y), ← UInt32.toNat_or, w32]; omega
theorem xor32 (x y : UInt32) : IntKind.u32.wrap ((BitVec.ofInt IntKind.u32.bits (x.toNat : Int) ^^^ BitVec.ofInt IntKind.u32.bits (y.toNat : Int)).toNat : Int) = ((x ^^^ y).toNat : Int) := by
 have h := t32 (x ^^^ y)
 rw [BitVec.toNat_xor, bv_of _ _ (t32 x), bv_of _ _ (t32 y), ← UInt32.toNat_xor, w32]; omega
theorem not32 (y : UInt32) : IntKind.u32.wrap ((BitVec.ofInt IntKind.u32.bits (if IntKind.u32.signed then -1 else IntKind.u32.max) ^^^ BitVec.ofInt IntKind.u32.bits (y.toNat : Int)).toNat : Int) = ((~~~y).toNat : Int) := by
 have e : (if IntKind.u32.signed then (-1 : Int) else IntKind.u32.max) = (((-1 : UInt32)).toNat : Int) := by rfl
 rw [e, xor32]
 have h : (-1 : UInt32) ^^^ y = ~~~y := by
  apply UInt32.toBitVec_inj.1
  rw [UInt32.toBitVec_xor, UInt32.toBitVec_not]
  exact BitVec.allOnes_xor
 rw [h]
theorem shl32 (x : UInt32) (k : Nat) (hk : k < 32) : IntKind.u32.wrap ((x.toNat : Int) * 2 ^ (min (k : Int).toNat IntKind.u32.bits)) = ((x <<< UInt32.ofNat k).toNat : Int) := by
 have e : min (k : Int).toNat IntKind.u32.bits = k := by simp [IntKind.bits]; omega
 rw [e, w32, UInt32.toNat_shiftLeft, UInt32.toNat_ofNat', Nat.mod_eq_of_lt (show k < 2 ^ 32 by omega), Nat.mod_eq_of_lt hk, Nat.shiftLeft_eq]
 rw [show (x.toNat : Int) * 2 ^ k = ((x.toNat * 2 ^ k : Nat) : Int) by rw [Int.natCast_mul, Int.natCast_pow]; rfl]
 exact (Int.natCast_emod (x.toNat * 2 ^ k) 4294967296).symm
theorem shr32 (x : UInt32) (k : Nat) (hk : k < 32) : ((x.toNat : Int).fdiv (2 ^ (min (k : Int).toNat IntKind.u32.bits))) = ((x >>> UInt32.ofNat k).toNat : Int) := by
 have e : min (k : Int).toNat IntKind.u32.bits = k := by simp [IntKind.bits]; omega
 rw [e, UInt32.toNat_shiftRight, UInt32.toNat_ofNat', Nat.mod_eq_of_lt (show k < 2 ^ 32 by omega), Nat.mod_eq_of_lt hk, Nat.shiftRight_eq_div_pow, Int.fdiv_eq_ediv_of_nonneg _ (Int.le_of_lt (Int.pow_pos (by omega)))]
 rw [Int.natCast_ediv, Int.natCast_pow]; rfl
theorem shlI (x : UInt32) (j : Int) (h0 : 0 ≤ j) (h1 : j < 32) : IntKind.u32.wrap ((x.toNat : Int) * 2 ^ (min j.toNat IntKind.u32.bits)) = ((x <<< UInt32.ofNat j.toNat).toNat : Int) := by
 have := shl32 x j.toNat (by omega)
 rwa [Int.toNat_of_nonneg h0] at this
theorem shrI (x : UInt32) (j : Int) (h0 : 0 ≤ j) (h1 : j < 32) : ((x.toNat : Int).fdiv (2 ^ (min j.toNat IntKind.u32.bits))) = ((x >>> UInt32.ofNat j.toNat).toNat : Int) := by
 have := shr32 x j.toNat (by omega)
 rwa [Int.toNat_of_nonneg h0] at this
theorem conv832 (x : UInt8) : IntKind.u32.wrap (x.toNat : Int) = ((x.toUInt32).toNat : Int) := by
 have := t8 x
 rw [w32, UInt8.toNat_toUInt32]; omega
theorem conv328 (x : UInt32) : IntKind.u8.wrap (x.toNat : Int) = ((x.toUInt8).toNat : Int) := by
 rw [w8, UInt32.toNat_toUInt8]; omega
end
end Go.Proofs.YtbiaaogbohfimaaGreatDoor
