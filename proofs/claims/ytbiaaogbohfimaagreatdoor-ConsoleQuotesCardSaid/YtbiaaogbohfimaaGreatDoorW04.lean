/- Parts of a proof, one behind the other: K, B1, B3, H1, H2, B7, C1, C2, C3, C4, D3, N0, D4, Shelf, W6, LA, LB, M38. -/
import Derived.Test.YtbiaaogbohfimaaGreatDoorW03
set_option maxRecDepth 20000
set_option maxHeartbeats 16000000
set_option linter.unusedVariables false
set_option linter.unusedSimpArgs false
namespace Go.Proofs.YtbiaaogbohfimaaGreatDoor
open Go.RowKit
section
structure Box (q : Prop) : Prop where
 out : q
structure EqF {α : Type} (a b : α) : Prop where
 out : a = b
structure SomF {α : Type} (a : Option α) (b : α) : Prop where
 out' : a = some b
theorem SomF.out {α : Type} {a : Option α} {b : α} (h : SomF a b) : a = some b := h.out'
structure SideF (p : Prop) : Prop where
 out : p
theorem pf {p : Prop} (h : p := by first | rfl | omega | (simp [u8s, cutL, setL, repM, List.replicate_succ', List.range_succ]; done) | (simp [u8s, cutL, setL, repM]; omega)) : p := h
theorem rv0 {p : Prop} (h : p := by (first | exact ⟨rfl, rfl⟩ | exact .inr ⟨rfl, rfl⟩ | exact .inr ⟨rfl, rfl, rfl, Nat.le_refl _, rfl⟩ | exact .inl rfl | exact .inl ⟨rfl, rfl⟩ | exact ⟨_, rfl, rfl⟩ | exact .inr ⟨_, rfl, rfl⟩ | exact .inl ⟨rfl, rfl, rfl⟩ | exact ⟨congrArg (MV.int _) (by omega), rfl⟩ | exact .inr ⟨rfl, rfl, rfl, Nat.le_of_eq (Nat.zero_add _), cut_all _ _⟩ | fail)) : p := h
theorem lm0 {p : Prop} (h : p := by (repeat (first | exact trivial | refine And.intro rv0 ?_)); first | done | fail) : p := h
theorem rv1 {p : Prop} (h : p := by (first | exact rv0 | (refine .inr ⟨_, rfl, ?_⟩; exact rv0) | (refine .inr ⟨_, rfl, ?_⟩; exact lm0) | fail)) : p := h
theorem lm1 {p : Prop} (h : p := by (repeat (first | exact trivial | refine And.intro rv1 ?_)); first | done | fail) : p := h
theorem rv2 {p : Prop} (h : p := by (first | exact rv1 | (refine .inr ⟨_, rfl, ?_⟩; exact rv1) | (refine .inr ⟨_, rfl, ?_⟩; exact lm1) | fail)) : p := h
theorem lm2 {p : Prop} (h : p := by (repeat (first | exact trivial | refine And.intro rv2 ?_)); first | done | fail) : p := h
theorem rv {p : Prop} (h : p := by (first | exact rv2 | (refine .inr ⟨_, rfl, ?_⟩; exact rv2) | (refine .inr ⟨_, rfl, ?_⟩; exact lm2) | fail)) : p := h
theorem lm {p : Prop} (h : p := by (repeat (first | exact trivial | refine And.intro rv ?_))) : p := h
theorem mm {p : Prop} (h : p := by (repeat (first | exact trivial | refine ⟨Nat.le_refl _, ?_⟩ | refine ⟨⟨_, rfl, rv⟩, ?_⟩ | refine ⟨.inl ⟨rfl, rfl, rfl, rfl⟩, ?_⟩ | refine ⟨.inr ⟨_, _, rfl, rfl, rfl, rfl, .inl rfl, .inl rfl, .inl ⟨rfl, rfl⟩⟩, ?_⟩ | refine ⟨.inr ⟨_, _, rfl, rfl, rfl, rfl, .inl rfl, .inl rfl, .inl ⟨(by simp [u8s]), rfl⟩⟩, ?_⟩ | refine ⟨.inr ⟨_, _, rfl, rfl, rfl, rfl, .inl rfl, .inr ⟨(by first | exact Nat.max_le.2 ⟨Nat.zero_le _, Nat.le_refl _⟩ | exact Nat.max_le.2 ⟨Nat.le_refl _, Nat.le_refl _⟩), (by simp [u8s])⟩, .inl ⟨rfl, rfl⟩⟩, ?_⟩ | refine ⟨.inr ⟨_, _, rfl, rfl, rfl, rfl, .inl rfl, .inl rfl, .inr ⟨rv, trivial⟩⟩, ?_⟩ | refine ⟨(show _ ≤ _ by simp [u8s]), ?_⟩ | refine ⟨.inr ⟨_, _, rfl, rfl, rfl, rfl, .inr (.inl ⟨rfl, rfl, rfl, SideF.out (by assumption)⟩), .inl rfl, .inl ⟨rfl, rfl⟩⟩, ?_⟩))) : p := h
theorem xhv {p : Prop} (h : p := by intro R hR; first | ((with_reducible apply he_loadP); exact rfl; exact rfl; exact rfl; exact rfl; kernel_rfl; exact hR) | ((with_reducible apply he_storeP); exact rfl; exact rfl; exact rfl; exact Nat.zero_le _; exact rfl; exact rfl; kernel_rfl; exact hR) | ((with_reducible apply he_box); exact rfl; exact rfl; kernel_rfl; exact hR) | ((with_reducible apply he_alloc); exact rfl; exact rfl; kernel_rfl; exact hR) | (repeat (first | exact hR | ((try conv => whnf); first | exact hR | (with_reducible refine ⟨_, sv (EqF.out (by assumption)), ?_⟩) | (with_reducible refine And.intro (SideF.out (by assumption)) ?_) | (with_reducible refine And.intro (Nat.zero_le _) ?_) | (with_reducible refine And.intro rfl ?_) | (with_reducible refine ⟨_, idx_at (by omega), ?_⟩) | (with_reducible refine ⟨fun _ => ?_, fun h => Bool.noConfusion h⟩) | (with_reducible refine ⟨fun h => Bool.noConfusion h, fun _ => ?_⟩) | (with_reducible refine ⟨_, sv (wrap_in _ (by omega) (by omega)), ?_⟩) | (with_reducible refine ⟨_, sv (wrapu_in _ (by omega) (by omega)), ?_⟩) | (with_reducible refine ⟨_, sv (wrap8_in _ (by omega) (by omega)), ?_⟩) | (refine ⟨_, rfl, ?_⟩) | (refine ⟨_, SomF.out (by assumption), ?_⟩) | (refine And.intro (by omega) ?_)))); first | done | fail) : p := h
theorem xhw {p : Prop} (h : p := by intro R hR; first | ((with_reducible apply he_loadP); exact rfl; exact rfl; exact rfl; exact rfl; kernel_rfl; exact hR) | ((with_reducible apply he_storeP); exact rfl; exact rfl; exact rfl; exact Nat.zero_le _; exact rfl; exact rfl; kernel_rfl; exact hR) | ((with_reducible apply he_box); exact rfl; exact rfl; kernel_rfl; exact hR) | ((with_reducible apply he_alloc); exact rfl; exact rfl; kernel_rfl; exact hR) | (repeat (first | exact hR | ((try conv => whnf); first | exact hR | (with_reducible refine ⟨_, sv (EqF.out (by assumption)), ?_⟩) | (with_reducible refine And.intro (SideF.out (by assumption)) ?_) | (with_reducible refine And.intro (Nat.zero_le _) ?_) | (with_reducible refine And.intro rfl ?_) | (with_reducible refine ⟨_, sv (add32 _ _), ?_⟩) | (with_reducible refine ⟨_, sv (xor32 _ _), ?_⟩) | (with_reducible refine ⟨_, sv (and32 _ _), ?_⟩) | (with_reducible refine ⟨_, sv (or32 _ _), ?_⟩) | (with_reducible refine ⟨_, sv (not32 _), ?_⟩) | (with_reducible refine ⟨_, sv (shlI _ _ (by omega) (by omega)), ?_⟩) | (with_reducible refine ⟨_, sv (shrI _ _ (by omega) (by omega)), ?_⟩) | (with_reducible refine ⟨_, sv (conv832 _), ?_⟩) | (with_reducible refine ⟨_, sv (conv328 _), ?_⟩) | (with_reducible refine ⟨fun _ => ?_, fun h => Bool.noConfusion h⟩) | (with_reducible refine ⟨fun h => Bool.noConfusion h, fun _ => ?_⟩) | (with_reducible refine ⟨_, sv (wrap_in _ (by omega) (by omega)), ?_⟩) | (with_reducible refine ⟨_, sv (wrapu_in _ (by omega) (by omega)), ?_⟩) | (with_reducible refine ⟨_, sv (wrap8_in _ (by omega) (by omega)), ?_⟩) | (refine ⟨_, rfl, ?_⟩) | (refine ⟨_, SomF.out (by assumption), ?_⟩) | (refine And.intro (by omega) ?_)))); first | done | fail) : p := h
theorem go0 {p q : Prop} (h : q) (s : Box q → p := by intro hq; (repeat ((try conv => whnf); first | (with_reducible refine Rt.go ?_) | (with_reducible refine Rs.go ?_) | (with_reducible refine or_len ?_) | (with_reducible refine And.intro (Nat.zero_le _) ?_) | (with_reducible refine And.intro rfl ?_) | (with_reducible refine ⟨_, idx_at (by omega), ?_⟩) | (with_reducible refine ⟨fun _ => ?_, fun h => Bool.noConfusion h⟩) | (with_reducible refine ⟨fun h => Bool.noConfusion h, fun _ => ?_⟩) | (with_reducible refine ⟨_, sv (wrap_in _ (by omega) (by omega)), ?_⟩) | (with_reducible refine ⟨_, sv (wrapu_in _ (by omega) (by omega)), ?_⟩) | (with_reducible refine ⟨_, sv (wrap8_in _ (by omega) (by omega)), ?_⟩) | refine ⟨_, rfl, ?_⟩ | refine And.intro (show okDraw _ _ _ = true by kernel_rfl) ?_ | refine And.intro (by omega) ?_)); exact hq.out) : p := s ⟨h⟩
theorem gow0 {p q : Prop} (h : q) (s : Box q → p := by intro hq; (repeat ((try conv => whnf); first | (with_reducible refine Rt.go ?_) | (with_reducible refine Rs.go ?_) | (with_reducible refine or_len ?_) | (with_reducible refine And.intro (Nat.zero_le _) ?_) | (with_reducible refine And.intro rfl ?_) | (with_reducible refine ⟨fun _ => ?_, fun h => Bool.noConfusion h⟩) | (with_reducible refine ⟨fun h => Bool.noConfusion h, fun _ => ?_⟩) | (with_reducible refine ⟨_, sv (add32 _ _), ?_⟩) | (with_reducible refine ⟨_, sv (xor32 _ _), ?_⟩) | (with_reducible refine ⟨_, sv (and32 _ _), ?_⟩) | (with_reducible refine ⟨_, sv (or32 _ _), ?_⟩) | (with_reducible refine ⟨_, sv (not32 _), ?_⟩) | (with_reducible refine ⟨_, sv (shlI _ _ (by omega) (by omega)), ?_⟩) | (with_reducible refine ⟨_, sv (shrI _ _ (by omega) (by omega)), ?_⟩) | (with_reducible refine ⟨_, sv (conv832 _), ?_⟩) | (with_reducible refine ⟨_, sv (conv328 _), ?_⟩) | (with_reducible refine ⟨_, sv (wrap_in _ (by omega) (by omega)), ?_⟩) | (with_reducible refine ⟨_, sv (wrapu_in _ (by omega) (by omega)), ?_⟩) | (with_reducible refine ⟨_, sv (wrap8_in _ (by omega) (by omega)), ?_⟩) | refine ⟨_, rfl, ?_⟩ | refine And.intro (show okDraw _ _ _ = true by kernel_rfl) ?_ | refine And.intro (by omega) ?_)); exact hq.out) : p := s ⟨h⟩
theorem go1 {p q : Prop} (h : q) (s : Box q → p := by intro hq; (repeat (first | ((with_reducible apply n_load); exact rfl; exact rfl; exact rfl; exact rfl; kernel_rfl) | ((with_reducible apply n_store); exact rfl; exact rfl; exact rfl; exact Nat.zero_le _; exact rfl; exact rfl; kernel_rfl) | ((with_reducible apply n_box); exact rfl; exact rfl; kernel_rfl) | ((with_reducible apply n_alloc); exact rfl; exact rfl; kernel_rfl) | ((with_reducible apply n_val); exact rfl; exact xhv) | ((with_reducible apply n_nilS)) | ((with_reducible apply c_seqR)) | ((with_reducible apply n_app)) | ((with_reducible apply n_app0)) | ((with_reducible apply e_load); exact rfl; exact rfl; exact rfl; exact rfl; exact rfl; kernel_rfl) | ((with_reducible apply e_store); exact rfl; exact rfl; exact rfl; exact rfl; exact Nat.zero_le _; exact rfl; exact rfl; kernel_rfl) | ((with_reducible apply e_val); exact rfl; exact rfl; exact xhv) | ((with_reducible apply d_end); (exact (show okDraw _ _ _ = true by kernel_rfl))) | ((with_reducible apply n_none); exact rfl; exact xhv) | ((with_reducible apply n_mem); exact rfl; exact xhv) | ((with_reducible apply n_valY); exact rfl; exact rfl; exact rfl; exact xhv) | ((with_reducible apply n_guardN); exact rfl; exact rfl; exact rfl) | ((with_reducible apply n_guardU); exact rfl; exact rfl; exact rfl) | ((with_reducible apply g_val); exact rfl; exact rfl; exact xhv; exact rfl) | ((with_reducible apply g_none); exact rfl; exact rfl; exact xhv) | ((with_reducible apply g_mem); exact rfl; exact rfl; exact xhv; exact rfl) | ((with_reducible apply n_nil)) | ((with_reducible apply c_seq)) | ((with_reducible apply seqQ_n)) | ((with_reducible apply c_region)) | ((with_reducible apply c_condT); exact rfl) | ((with_reducible apply c_condF); exact rfl) | ((with_reducible apply c_block)) | ((with_reducible apply c_skip)) | ((with_reducible apply c_exit)) | ((with_reducible apply c_ret)) | ((with_reducible apply seqQ_x)) | ((with_reducible apply seqQ_r)) | ((with_reducible apply blockQ_n)) | ((with_reducible apply blockQ_r)) | ((with_reducible apply blockQ_x); exact rfl) | ((with_reducible apply blockQ_y); exact rfl) | ((with_reducible apply loopQ_x)) | ((with_reducible apply loopQ_r)) | ((with_reducible apply c_label)) | (with_reducible refine joinF_r (by assumption) ?_) | (with_reducible refine joinF_x (by assumption) ?_) | ((with_reducible apply e_none); exact rfl; exact rfl; exact xhv) | ((with_reducible apply e_valY); exact rfl; exact rfl; exact rfl; exact rfl; exact xhv) | ((with_reducible apply e_mem); exact rfl; exact rfl; exact xhv) | ((with_reducible apply d_next)) | ((with_reducible apply d_step); exact rfl) | ((with_reducible apply d_skip); exact rfl) | ((with_reducible apply d_guardN); exact rfl; exact rfl; exact rfl) | ((with_reducible apply d_guardU); exact rfl; exact rfl; exact rfl) | ((with_reducible apply d_guardY); exact rfl; exact rfl) | ((with_reducible apply d_go)) | ((with_reducible apply gd_val); exact rfl; exact xhv; exact rfl) | ((with_reducible apply gd_none); exact rfl; exact xhv) | ((with_reducible apply gd_mem); exact rfl; exact xhv; exact rfl) | ((with_reducible apply n_guardY); exact rfl; exact rfl) | ((with_reducible apply n_go)))); exact hq.out) : p := s ⟨h⟩
theorem gow1 {p q : Prop} (h : q) (s : Box q → p := by intro hq; (repeat (first | ((with_reducible apply n_load); exact rfl; exact rfl; exact rfl; exact rfl; kernel_rfl) | ((with_reducible apply n_store); exact rfl; exact rfl; exact rfl; exact Nat.zero_le _; exact rfl; exact rfl; kernel_rfl) | ((with_reducible apply n_box); exact rfl; exact rfl; kernel_rfl) | ((with_reducible apply n_alloc); exact rfl; exact rfl; kernel_rfl) | ((with_reducible apply n_val); exact rfl; exact xhw) | ((with_reducible apply n_nilS)) | ((with_reducible apply c_seqR)) | ((with_reducible apply n_app)) | ((with_reducible apply n_app0)) | ((with_reducible apply e_load); exact rfl; exact rfl; exact rfl; exact rfl; exact rfl; kernel_rfl) | ((with_reducible apply e_store); exact rfl; exact rfl; exact rfl; exact rfl; exact Nat.zero_le _; exact rfl; exact rfl; kernel_rfl) | ((with_reducible apply e_val); exact rfl; exact rfl; exact xhw) | ((with_reducible apply d_end); (exact (show okDraw _ _ _ = true by kernel_rfl))) | ((with_reducible apply n_none); exact rfl; exact xhw) | ((with_reducible apply n_mem); exact rfl; exact xhw) | ((with_reducible apply n_valY); exact rfl; exact rfl; exact rfl; exact xhw) | ((with_reducible apply n_guardN); exact rfl; exact rfl; exact rfl) | ((with_reducible apply n_guardU); exact rfl; exact rfl; exact rfl) | ((with_reducible apply g_val); exact rfl; exact rfl; exact xhw; exact rfl) | ((with_reducible apply g_none); exact rfl; exact rfl; exact xhw) | ((with_reducible apply g_mem); exact rfl; exact rfl; exact xhw; exact rfl) | ((with_reducible apply n_nil)) | ((with_reducible apply c_seq)) | ((with_reducible apply seqQ_n)) | ((with_reducible apply c_region)) | ((with_reducible apply c_condT); exact rfl) | ((with_reducible apply c_condF); exact rfl) | ((with_reducible apply c_block)) | ((with_reducible apply c_skip)) | ((with_reducible apply c_exit)) | ((with_reducible apply c_ret)) | ((with_reducible apply seqQ_x)) | ((with_reducible apply seqQ_r)) | ((with_reducible apply blockQ_n)) | ((with_reducible apply blockQ_r)) | ((with_reducible apply blockQ_x); exact rfl) | ((with_reducible apply blockQ_y); exact rfl) | ((with_reducible apply loopQ_x)) | ((with_reducible apply loopQ_r)) | ((with_reducible apply c_label)) | (with_reducible refine joinF_r (by assumption) ?_) | (with_reducible refine joinF_x (by assumption) ?_) | ((with_reducible apply e_none); exact rfl; exact rfl; exact xhw) | ((with_reducible apply e_valY); exact rfl; exact rfl; exact rfl; exact rfl; exact xhw) | ((with_reducible apply e_mem); exact rfl; exact rfl; exact xhw) | ((with_reducible apply d_next)) | ((with_reducible apply d_step); exact rfl) | ((with_reducible apply d_skip); exact rfl) | ((with_reducible apply d_guardN); exact rfl; exact rfl; exact rfl) | ((with_reducible apply d_guardU); exact rfl; exact rfl; exact rfl) | ((with_reducible apply d_guardY); exact rfl; exact rfl) | ((with_reducible apply d_go)) | ((with_reducible apply gd_val); exact rfl; exact xhw; exact rfl) | ((with_reducible apply gd_none); exact rfl; exact xhw) | ((with_reducible apply gd_mem); exact rfl; exact xhw; exact rfl) | ((with_reducible apply n_guardY); exact rfl; exact rfl) | ((with_reducible apply n_go)))); exact hq.out) : p := s ⟨h⟩
theorem vm {n0 : Nat} {E' : VE} {M' : VM} {n' : Nat} {E : VE} {M : VM} (σ bs : List (Nat × Nat)) (h1 : mE (sigA n0 σ) (fzb M bs) E' E := by exact mm) (h2 : mM (sigA n0 σ) (fzb M bs) M' (VM.bump M bs) := by exact mm) (h3 : okSg n0 n' σ = true := by exact rfl) (h4 : okB M bs := by exact mm) (h5 : M'.all (fun x => Nat.blt x.1 n') = true := by exact rfl) : VMatch n0 E' M' n' E M := VMatch.of σ bs h1 h2 h3 h4 h5
theorem sms {R : MV × Dl → Prop} {p q : Prop} {x : MV × Dl} (_hR : R x) (h : q) (s : Box q → p := by intro hq; first | ((with_reducible apply he_loadP); exact rfl; exact rfl; exact rfl; exact rfl; kernel_rfl; exact hR) | ((with_reducible apply he_storeP); exact rfl; exact rfl; exact rfl; exact Nat.zero_le _; exact rfl; exact rfl; kernel_rfl; exact hR) | ((with_reducible apply he_box); exact rfl; exact rfl; kernel_rfl; exact hR) | ((with_reducible apply he_alloc); exact rfl; exact rfl; kernel_rfl; exact hR) | (repeat (first | exact hR | ((try conv => whnf); first | exact hR | (with_reducible refine And.intro (Nat.zero_le _) ?_) | (with_reducible refine And.intro rfl ?_) | (with_reducible refine ⟨_, idx_at (by omega), ?_⟩) | (with_reducible refine ⟨fun _ => ?_, fun h => Bool.noConfusion h⟩) | (with_reducible refine ⟨fun h => Bool.noConfusion h, fun _ => ?_⟩) | (with_reducible refine ⟨_, sv (wrap_in _ (by omega) (by omega)), ?_⟩) | (with_reducible refine ⟨_, sv (wrapu_in _ (by omega) (by omega)), ?_⟩) | (with_reducible refine ⟨_, sv (wrap8_in _ (by omega) (by omega)), ?_⟩) | (refine ⟨_, rfl, ?_⟩) | (refine And.intro (by omega) ?_)))); exact hq.out) : p := s ⟨h⟩
theorem pl : (∀ (p : Prop) [Decidable p], (decide p = true) = p) ∧ (∀ (p : Prop) [Decidable p], (decide p = false) = ¬p) ∧ (∀ {α : Type} [BEq α] [LawfulBEq α] {a b : α}, ((a == b) = true) = (a = b)) ∧ (∀ {α : Type} [BEq α] [LawfulBEq α] {a b : α}, ((a != b) = true) = (a ≠ b)) ∧ (∀ {α : Type} (a b : α), (a ≠ b) = ¬(a = b)) ∧ (!true) = false ∧ (!false) = true ∧
  (∀ {α : Type} [BEq α] [LawfulBEq α] {a b : α}, ((a == b) = false) = (a ≠ b)) ∧ (∀ {α : Type} [BEq α] [LawfulBEq α] {a b : α}, ((a != b) = false) = (a = b)) ∧ (∀ b : Bool, (¬b = true) = (b = false)) ∧ (∀ b : Bool, (¬b = false) = (b = true)) ∧ (∀ {a b : Bool}, ((!a) = b) = (a = !b)) :=
 ⟨fun p _ => decide_eq_true_eq, fun _ _ => propext decide_eq_false_iff_not, propext beq_iff_eq, propext bne_iff_ne, ne_eq, rfl, rfl, propext beq_eq_false_iff_ne, propext bne_eq_false_iff_eq, Bool.not_eq_true, Bool.not_eq_false, propext Bool.not_eq_eq_eq_not⟩
theorem en {n0 n1 : Nat} {res : MV} {M1 M : VM} {vs : List MV} (rv : List MV) (h1 : tupM rv = res := by exact rfl) (h2 : relV.relVs (sigA n0 []) (fzb M []) rv vs := by exact lm) (h3 : mM (sigA n0 []) (fzb M []) M1 (VM.bump M []) := by exact mm) (h4 : okSg n0 n1 [] = true := by exact rfl) (h5 : M1.all (fun x => Nat.blt x.1 n1) = true := by exact rfl) : ∃ (rv : List MV) (σ bs : List (Nat × Nat)), tupM rv = res ∧ LMatch n0 rv M1 n1 vs M σ bs := ⟨rv, [], [], h1, h4, trivial, h5, h2, h3⟩
theorem eb {n0 n1 : Nat} {res : MV} {M1 M : VM} {vs : List MV} (rv : List MV) (σ bs : List (Nat × Nat)) (h1 : tupM rv = res := by exact rfl) (h2 : relV.relVs (sigA n0 σ) (fzb M bs) rv vs := by exact lm) (h3 : mM (sigA n0 σ) (fzb M bs) M1 (VM.bump M bs) := by exact mm) (h4 : okSg n0 n1 σ = true := by exact rfl) (h5 : M1.all (fun x => Nat.blt x.1 n1) = true := by exact rfl) (h6 : okB M bs := by exact mm) : ∃ (rv : List MV) (σ bs : List (Nat × Nat)), tupM rv = res ∧ LMatch n0 rv M1 n1 vs M σ bs := ⟨rv, σ, bs, h1, h4, h6, h5, h2, h3⟩
section
variable {Pg : Program} {T : Tab} {N : Nat} {ents : List FuncId} {G : GS} {n0 : Nat} {ops : Array Oper} {d : Tmp} {ty : TypeId} {pos : String} {after : Array Edge} {g : Option (Nat × Bool)} {rest : List Oper} {K : VK} {J : List Nat → VE → VM → Prop} {E : VE} {M : VM} {n : Nat} {f : Operand} {args : Array Operand} {ats : Array TypeId} {f0 : FuncId} {vs args' : List MV} {res : MV}
theorem yv (hc : SemC Pg G f0 args' res) (h : vOpsN Pg T N ents G ops rest K ((d, res) :: E) M n) (h1 : ∀ R : FuncId × List MV → Prop, R (f0, vs) → (vArgs E f args.toList).runP R := by exact fun _ h => h) (hd : Nat.blt d N = true := by exact rfl) (h2 : ents.contains f0 = true := by exact rfl) (hf : nfree res = true := by exact rfl) (hm : relV.relVs (sigA 0 []) (fzb M []) args' vs := by exact lm) : vOpsG Pg T N ents G ops ⟨some d, .call ⟨.value f, args, ats⟩, ty, pos, after, g⟩ rest K E M n := g_call2 hd h1 h2 (semR_of_semC hc) hf hm h
theorem ydv (hc : SemC Pg G f0 args' res) (h : J [] ((d, res) :: E) M) (h1 : ∀ R : FuncId × List MV → Prop, R (f0, vs) → (vArgs E f args.toList).runP R := by exact fun _ h => h) (hd : Nat.blt d N = true := by exact rfl) (h2 : ents.contains f0 = true := by exact rfl) (hf : nfree res = true := by exact rfl) (hm : relV.relVs (sigA 0 []) (fzb M []) args' vs := by exact lm) : vOpGD Pg T N ents G true ⟨some d, .call ⟨.value f, args, ats⟩, ty, pos, after, g⟩ J E M n := gd_call1 hd h1 h2 [] (semR_of_semC hc) hf [] trivial hm rfl h
theorem yc {M0 : VM} {M1 : VM} {n1 : Nat} (hc : SemR Pg G f0 args' M0 n0 res M1 n1) (σ : List (Nat × Nat)) (h : vOpsN Pg T N ents G ops rest K ((d, renV (rho n σ) res) :: E) (renM (rho n σ) M1 ++ delM M σ) (n + n1)) (h1 : ∀ R : FuncId × List MV → Prop, R (f0, vs) → (vArgs E f args.toList).runP R := by exact fun _ h => h) (hd : Nat.blt d N = true := by exact rfl) (h2 : ents.contains f0 = true := by exact rfl) (h5 : okSg 0 n0 σ = true := by exact rfl) (h6 : M0.all (fun x => Nat.blt x.1 n0) = true := by exact rfl) (hm : relV.relVs (sigA 0 σ) (fzb M []) args' vs := by exact lm) (h7 : mM (sigA 0 σ) (fzb M []) M0 (VM.bump M []) := by exact mm) (h3 : allIn M σ = true := by exact rfl) (h4 : M1.all (fun x => Nat.blt x.1 n1) = true := by exact rfl) : vOpsG Pg T N ents G ops ⟨some d, .call ⟨.value f, args, ats⟩, ty, pos, after, g⟩ rest K E M n := g_callR1 hd h1 h2 hc σ [] ⟨h5, trivial, h6, hm, h7⟩ h3 h4 h
end
end
section
variable {G : GS}
theorem head_b : ∀ (b : List UInt8), headSize (u8s b) 1 = true
 | [] => rfl
 | _ :: _ => rfl
end
section
variable {G : GS}
attribute [local irreducible] vOpsN vOpsG vOpsD vOpGD NextD vC SeqQ BlockQ
theorem cut_u8 (b : List UInt8) (x y : Nat) : cutL (u8s b) x y = u8s ((b.drop x).take (y - x)) := by simp [cutL, u8s]
theorem bndLo {n k : Nat} {κ : IntKind} (h : k ≤ n) : bounds n (some (.int κ (k : Int))) none = some (k, n) := by
 unfold bounds
 dsimp only
 rw [if_pos ⟨by omega, by omega⟩]
 simp
theorem bndHi {n k : Nat} {κ : IntKind} (h : k ≤ n) : bounds n none (some (.int κ (k : Int))) = some (0, k) := by
 unfold bounds
 dsimp only
 rw [if_pos ⟨by omega, by omega⟩]
 simp
theorem bnd_at {n lo hi : Nat} {a c : Int} {κ κ' : IntKind} (ha : a = lo) (hc : c = hi) (h1 : lo ≤ hi) (h2 : hi ≤ n) : bounds n (some (.int κ a)) (some (.int κ' c)) = some (lo, hi) := by
 subst ha hc
 unfold bounds
 dsimp only
 rw [if_pos ⟨by omega, by omega⟩]
 dsimp only
 rw [if_pos ⟨by omega, by simp; omega⟩]
 simp
end
section
variable {G : GS}
structure W8 where
 a : UInt32
 b : UInt32
 c : UInt32
 d : UInt32
 e : UInt32
 f : UInt32
 g : UInt32
 h : UInt32
def W8.toM (s : W8) : MV := .arr 8 1 [u32M s.a, u32M s.b, u32M s.c, u32M s.d, u32M s.e, u32M s.f, u32M s.g, u32M s.h]
def turnU (x : UInt32) (n : Nat) : UInt32 := (x >>> UInt32.ofNat n) ||| (x <<< UInt32.ofNat (32 - n))
def kL : List UInt32 := [1116352408, 1899447441, 3049323471, 3921009573, 961987163, 1508970993, 2453635748, 2870763221, 3624381080, 310598401, 607225278, 1426881987, 1925078388, 2162078206, 2614888103, 3248222580, 3835390401, 4022224774, 264347078, 604807628, 770255983, 1249150122, 1555081692, 1996064986, 2554220882, 2821834349, 2952996808, 3210313671, 3336571891, 3584528711, 113926993, 338241895, 666307205, 773529912, 1294757372, 1396182291, 1695183700, 1986661051, 2177026350, 2456956037, 2730485921, 2820302411, 3259730800, 3345764771, 3516065817, 3600352804, 4094571909, 275423344, 430227734, 506948616, 659060556, 883997877, 958139571, 1322822218, 1537002063, 1747873779, 1955562222, 2024104815, 2227730452, 2361852424, 2428436474, 2756734187, 3204031479, 3329325298]
def wsM (l : List UInt32) : MV := .arr 64 1 (l.map u32M)
def beU (b : List UInt8) (k : Nat) : UInt32 := (b.getD (4 * k) 0).toUInt32 <<< UInt32.ofNat 24 ||| (b.getD (4 * k + 1) 0).toUInt32 <<< UInt32.ofNat 16 ||| (b.getD (4 * k + 2) 0).toUInt32 <<< UInt32.ofNat 8 ||| (b.getD (4 * k + 3) 0).toUInt32
def fillW (b : List UInt8) : Nat → List UInt32
 | 0 => List.replicate 64 0
 | t + 1 => (fillW b t).set t (beU b t)
def stepW (l : List UInt32) (t : Nat) : UInt32 :=
 (turnU (l.getD (t - 2) 0) 17 ^^^ turnU (l.getD (t - 2) 0) 19 ^^^ l.getD (t - 2) 0 >>> UInt32.ofNat 10) + l.getD (t - 7) 0 + (turnU (l.getD (t - 15) 0) 7 ^^^ turnU (l.getD (t - 15) 0) 18 ^^^ l.getD (t - 15) 0 >>> UInt32.ofNat 3) + l.getD (t - 16) 0
def moreW (b : List UInt8) : Nat → List UInt32
 | 0 => fillW b 16
 | t + 1 => (moreW b t).set (16 + t) (stepW (moreW b t) (16 + t))
theorem fillW_len (b : List UInt8) : ∀ t, (fillW b t).length = 64
 | 0 => by simp [fillW]
 | t + 1 => by simp [fillW, fillW_len b t]
theorem moreW_len (b : List UInt8) : ∀ t, (moreW b t).length = 64
 | 0 => fillW_len b 16
 | t + 1 => by simp [moreW, moreW_len b t]
def tmp1 (k w : UInt32) (s : W8) : UInt32 := s.h + (turnU s.e 6 ^^^ turnU s.e 11 ^^^ turnU s.e 25) + (s.e &&& s.f ^^^ ~~~s.e &&& s.g) + k + w
def tmp2 (s : W8) : UInt32 := (turnU s.a 2 ^^^ turnU s.a 13 ^^^ turnU s.a 22) + (s.a &&& s.b ^^^ s.a &&& s.c ^^^ s.b &&& s.c)
def roundS (k w : UInt32) (s : W8) : W8 := ⟨tmp1 k w s + tmp2 s, s.a, s.b, s.c, s.d + tmp1 k w s, s.e, s.f, s.g⟩
def rounds (k w : List UInt32) (s : W8) : Nat → W8
 | 0 => s
 | t + 1 => roundS (k.getD t 0) (w.getD t 0) (rounds k w s t)
def addW (h s : W8) : Nat → W8
 | 0 => h
 | 1 => ⟨h.a + s.a, h.b, h.c, h.d, h.e, h.f, h.g, h.h⟩
 | 2 => ⟨h.a + s.a, h.b + s.b, h.c, h.d, h.e, h.f, h.g, h.h⟩
 | 3 => ⟨h.a + s.a, h.b + s.b, h.c + s.c, h.d, h.e, h.f, h.g, h.h⟩
 | 4 => ⟨h.a + s.a, h.b + s.b, h.c + s.c, h.d + s.d, h.e, h.f, h.g, h.h⟩
 | 5 => ⟨h.a + s.a, h.b + s.b, h.c + s.c, h.d + s.d, h.e + s.e, h.f, h.g, h.h⟩
 | 6 => ⟨h.a + s.a, h.b + s.b, h.c + s.c, h.d + s.d, h.e + s.e, h.f + s.f, h.g, h.h⟩
 | 7 => ⟨h.a + s.a, h.b + s.b, h.c + s.c, h.d + s.d, h.e + s.e, h.f + s.f, h.g + s.g, h.h⟩
 | _ => ⟨h.a + s.a, h.b + s.b, h.c + s.c, h.d + s.d, h.e + s.e, h.f + s.f, h.g + s.g, h.h + s.h⟩
def blockS (h : W8) (b : List UInt8) : W8 := addW h (rounds kL (moreW b 48) h 64) 8
theorem index_of {l : List MV} {n : Nat} {j : Int} {x : MV} (k : Nat) (hj : j = k) (hk : k < n) (hx : l[k]? = some x) : idxL l n j = some x := by
 subst hj; exact index_at hk hx
theorem idx_of {n : Nat} {j : Int} (k : Nat) (hj : j = k) (hk : k < n) : idx n j = some k := by
 subst hj; exact idx_at hk
theorem u8_at {b : List UInt8} {k : Nat} (h : k < b.length) : (u8s b)[k]? = some (u8M (b.getD k 0)) := by simp [u8s, h]
theorem ws_get {l : List UInt32} {k : Nat} (h : k < l.length) : getPO (wsM l) ([] ++ [k]) (0 + k * 1) = some (u32M (l.getD k 0)) := by
 show (match nthM (l.map u32M) k with | some m => bif Nat.ble (k * 1) (0 + k * 1) then getPO m [] (0 + k * 1 - k * 1) else none | none => none) = _
 have e : nthM (l.map u32M) k = some (u32M (l.getD k 0)) := by rw [nthM_eq]; simp [h]
 rw [e]
 have e2 : Nat.ble (k * 1) (0 + k * 1) = true := by simp
 simp only [e2, cond_true]
 simp [getPO]
theorem ws_set {l : List UInt32} {k : Nat} (h : k < l.length) (x : UInt32) : setPO (wsM l) ([] ++ [k]) (0 + k * 1) (u32M x) = some (wsM (l.set k x)) := by
 show (match nthM (l.map u32M) k with | some m => bif Nat.ble (k * 1) (0 + k * 1) && (u32M x).idFree then (match setPO m [] (0 + k * 1 - k * 1) (u32M x) with | some m' => some (MV.arr 64 1 (setL (l.map u32M) k m')) | none => none) else none | none => none) = _
 have e : nthM (l.map u32M) k = some (u32M (l.getD k 0)) := by rw [nthM_eq]; simp [h]
 rw [e]
 have e2 : Nat.ble (k * 1) (0 + k * 1) = true := by simp
 simp only [e2]
 simp [setPO, setL_eq, MV.idFree, MV.size, MV.isAgg, wsM, List.map_set]
def W8.nth (s : W8) : Nat → UInt32
 | 0 => s.a
 | 1 => s.b
 | 2 => s.c
 | 3 => s.d
 | 4 => s.e
 | 5 => s.f
 | 6 => s.g
 | _ => s.h
theorem get8 (s : W8) {i : Nat} (hi : i < 8) : getPO s.toM ([] ++ [i]) (0 + i * 1) = some (u32M (s.nth i)) := by
 have h8 : i = 0 ∨ i = 1 ∨ i = 2 ∨ i = 3 ∨ i = 4 ∨ i = 5 ∨ i = 6 ∨ i = 7 := by omega
 rcases h8 with rfl | rfl | rfl | rfl | rfl | rfl | rfl | rfl <;> rfl
theorem set8 (h s : W8) {i : Nat} (hi : i < 8) : setPO (addW h s i).toM ([] ++ [i]) (0 + i * 1) (u32M ((addW h s i).nth i + s.nth i)) = some (addW h s (i + 1)).toM := by
 have h8 : i = 0 ∨ i = 1 ∨ i = 2 ∨ i = 3 ∨ i = 4 ∨ i = 5 ∨ i = 6 ∨ i = 7 := by omega
 rcases h8 with rfl | rfl | rfl | rfl | rfl | rfl | rfl | rfl <;> rfl
end
section
variable {G : GS}
def padN (n : Nat) : Nat := (119 - n % 64) % 64
def byteAt (n k : Nat) : UInt8 := UInt8.ofNat (n / 2 ^ (8 * (7 - k)))
def be64 (n : Nat) : List UInt8 := (List.range 8).map (byteAt n)
def padS (b : List UInt8) : List UInt8 := b ++ [128] ++ List.replicate (padN b.length) 0 ++ be64 (8 * b.length)
def initW : W8 := ⟨1779033703, 3144134277, 1013904242, 2773480762, 1359893119, 2600822924, 528734635, 1541459225⟩
def absorb (s : W8) (m : List UInt8) : Nat → W8
 | 0 => s
 | k + 1 => blockS (absorb s m k) ((m.drop (64 * k)).take 64)
def outAt (s : W8) (i : Nat) : UInt8 := (s.nth (i / 4) >>> UInt32.ofNat (24 - i % 4 * 8)).toUInt8
def outK (s : W8) : Nat → List UInt8
 | 0 => List.replicate 32 0
 | i + 1 => (outK s i).set i (outAt s i)
theorem outK_len (s : W8) : ∀ i, (outK s i).length = 32
 | 0 => by simp [outK]
 | i + 1 => by simp [outK, outK_len s i]
def shaS (b : List UInt8) : List UInt8 := outK (absorb initW (padS b) ((padS b).length / 64)) 32
def keyM (k : List UInt8) : MV := .arr 32 1 (u8s k)
theorem padS_len (b : List UInt8) : (padS b).length = b.length + 9 + padN b.length := by simp [padS, be64]; omega
theorem padS_div (b : List UInt8) : (padS b).length = 64 * ((padS b).length / 64) := by rw [padS_len]; unfold padN; omega
theorem key_get {k : List UInt8} {i : Nat} (h : i < k.length) : getPO (keyM k) ([] ++ [i]) (0 + i * 1) = some (u8M (k.getD i 0)) := by
 show (match nthM (u8s k) i with | some m => bif Nat.ble (i * 1) (0 + i * 1) then getPO m [] (0 + i * 1 - i * 1) else none | none => none) = _
 have e : nthM (u8s k) i = some (u8M (k.getD i 0)) := by rw [nthM_eq]; exact u8_at h
 rw [e]
 have e2 : Nat.ble (i * 1) (0 + i * 1) = true := by simp
 simp only [e2, cond_true]
 simp [getPO]
theorem key_set {k : List UInt8} {i : Nat} (h : i < k.length) (x : UInt8) : setPO (keyM k) ([] ++ [i]) (0 + i * 1) (u8M x) = some (keyM (k.set i x)) := by
 show (match nthM (u8s k) i with | some m => bif Nat.ble (i * 1) (0 + i * 1) && (u8M x).idFree then (match setPO m [] (0 + i * 1 - i * 1) (u8M x) with | some m' => some (MV.arr 32 1 (setL (u8s k) i m')) | none => none) else none | none => none) = _
 have e : nthM (u8s k) i = some (u8M (k.getD i 0)) := by rw [nthM_eq]; exact u8_at h
 rw [e]
 have e2 : Nat.ble (i * 1) (0 + i * 1) = true := by simp
 simp only [e2]
 simp [setPO, setL_eq, MV.idFree, MV.size, MV.isAgg, keyM, u8s, List.map_set]
end
section
variable {G : GS}
attribute [local irreducible] vOpsN vOpsG vOpsD vOpGD NextD vC SeqQ BlockQ
theorem cut_key {a : List UInt8} (ha : a.length = 32) : cutL (u8s a) 0 32 = u8s a := by rw [cut_u8, List.drop_zero, List.take_of_length_le (by omega)]
end
section
variable {G : GS}
attribute [local irreducible] vOpsN vOpsG vOpsD vOpGD NextD vC SeqQ BlockQ
theorem neg_u64 {n : Nat} (h0 : 0 < n) (h1 : n < 32) : IntKind.u64.wrap (0 - (n : Int)) = ((18446744073709551616 - n : Nat) : Int) := by rw [wu64]; omega
theorem and31 {n : Nat} (h0 : 0 < n) (h1 : n < 32) : IntKind.u64.wrap ((BitVec.ofInt IntKind.u64.bits ((18446744073709551616 - n : Nat) : Int) &&& BitVec.ofInt IntKind.u64.bits (31 : Int)).toNat : Int) = ((32 - n : Nat) : Int) := by
 have e : (18446744073709551616 - n) &&& 31 = 32 - n := by
  have := Nat.and_two_pow_sub_one_eq_mod (18446744073709551616 - n) 5
  rw [show (2 ^ 5 - 1 : Nat) = 31 by rfl] at this
  rw [this]; omega
 rw [BitVec.toNat_and, bv_of _ _ (show 18446744073709551616 - n < 2 ^ IntKind.u64.bits by show _ < 18446744073709551616; omega), show (BitVec.ofInt IntKind.u64.bits (31 : Int)).toNat = 31 by rfl, e, wu64]
 omega
theorem sub32 {n : Nat} (h0 : 0 < n) (h1 : n < 32) : IntKind.u64.wrap (32 - ((32 - n : Nat) : Int)) = (n : Int) := by rw [wu64]; omega
theorem rot_m (x : UInt32) (n : Nat) (h0 : 0 < n) (h1 : n < 32) : SemC Tryz.prog G 307 [u32M x, .int .i64 (0 - (n : Int))] (u32M (turnU x n)) := by
 have e : turnU x n = (x <<< UInt32.ofNat (32 - n)) ||| (x >>> UInt32.ofNat n) := by unfold turnU; rw [UInt32.or_comm]
 refine scq seat Tryz.func307 17 ?_
 (have fct := EqF.mk (neg_u64 h0 h1); have fct := EqF.mk (and31 h0 h1); have fct := EqF.mk (sub32 h0 h1); have fct := EqF.mk (shl32 x (32 - n) (by omega)); have fct := EqF.mk (shr32 x n h1); refine gow1 ?_)
 refine go0 ?_
 exact congrArg u32M e.symm
theorem right_m' (x : UInt32) (n : Nat) (h0 : 0 < n) (h1 : n < 32) : SemC Tryz.prog G 268 [u32M x, .int .i64 n] (u32M (turnU x n)) := by
 have c1 := rot_m (G := G) x n h0 h1
 refine scq seat Tryz.func268 9 ?_
 refine go1 ?_
 refine yv (c1) ?_
 refine go1 ?_
 refine go0 ?_
 rfl
end
section
variable {G : GS}
theorem schedule_m (b : List UInt8) (hb : b.length = 64) : SemC Tryz.prog G 266 [.sl 64 (u8s b)] (wsM (moreW b 48)) := by
 refine scq seat Tryz.func266 93 ?_
 refine gow0 ?_
 refine ⟨Nat, fun t => [(10, .int .i64 t), (3, .ptr 1 64 0 0 []), (2, .ptr 0 64 0 0 []), (0, .sl 64 (u8s b))], fun t => [(0, ⟨329, 64, false, 0, [wsM (List.replicate 64 0)]⟩), (1, ⟨329, 64, false, 0, [wsM (fillW b t)]⟩)], 2, fun t => t ≤ 16, fun t => 16 - t, ⟨0, by omega, (vm [(0, _), (1, _)] [])⟩, ?_⟩
 intro t ht
 refine gow0 ?_
 refine ⟨fun hc => ?_, fun hc => ?_⟩
 ·have ht' : t < 16 := by have := of_decide_eq_true hc; omega
  have hl := fillW_len b t
  refine gow0 ?_
  refine ⟨[(0, false), (1, false), (2, false), (3, false), (4, false), (5, false), (6, false), (7, false), (8, false), (9, false), (10, false), (11, false), (12, false), (13, false), (14, false), (15, false), (16, false), (17, false), (18, false), (19, false), (20, false), (21, false), (22, false), (23, false), (24, false), (25, false), (26, false), (27, false), (28, false), (29, false), (30, false), (31, false), (32, false), (33, false), (34, false), (35, false)], ?_⟩
  refine gow0 ?_
  refine ⟨_, index_of (4 * t) (by omega) (by omega) (u8_at (by omega)), ?_⟩
  refine gow0 ?_
  refine ⟨_, index_of (4 * t + 1) (by omega) (by omega) (u8_at (by omega)), ?_⟩
  refine gow0 ?_
  refine ⟨_, index_of (4 * t + 2) (by omega) (by omega) (u8_at (by omega)), ?_⟩
  refine gow0 ?_
  refine ⟨_, index_of (4 * t + 3) (by omega) (by omega) (u8_at (by omega)), ?_⟩
  refine gow0 ?_
  refine ⟨_, idx_at (by omega), ?_⟩
  refine gow0 ?_
  refine ⟨_, ws_set (by omega) _, ?_⟩
  refine gow0 ?_
  exact ⟨t + 1, by omega, by show 16 - (t + 1) < 16 - t; omega, (vm [(0, _), (1, _)] [])⟩
 ·have ht' : t = 16 := by have := of_decide_eq_false hc; omega
  subst ht'
  refine gow0 ?_
  refine ⟨Nat, fun t => [(5, .int .i64 ((16 + t : Nat) : Int)), (3, .ptr 1 64 0 0 []), (2, .ptr 0 64 0 0 [])], fun t => [(0, ⟨329, 64, false, 0, [wsM (List.replicate 64 0)]⟩), (1, ⟨329, 64, false, 0, [wsM (moreW b t)]⟩)], 2, fun t => t ≤ 48, fun t => 48 - t, ⟨0, by omega, (vm [(0, _), (1, _)] [])⟩, ?_⟩
  intro t ht
  refine gow0 ?_
  refine ⟨fun hc => ?_, fun hc => ?_⟩
  ·have ht' : t < 48 := by have := of_decide_eq_true hc; omega
   have hl := moreW_len b t
   refine gow0 ?_
   refine ⟨[(0, false), (1, false), (2, false), (3, false), (4, false), (5, false), (6, false), (7, false), (8, false), (9, false)], ?_⟩
   refine gow0 ?_
   refine ⟨_, idx_of (16 + t - 15) (by omega) (by omega), ?_⟩
   refine gow0 ?_
   refine ⟨_, ws_get (by omega), ?_⟩
   refine gow0 ?_
   refine ⟨_, idx_of (16 + t - 2) (by omega) (by omega), ?_⟩
   refine gow0 ?_
   refine ⟨_, ws_get (by omega), ?_⟩
   refine gow0 ?_
   refine .inl ⟨_, right_m' _ 7 (by omega) (by omega), ?_⟩
   refine gow0 ?_
   refine .inl ⟨_, right_m' _ 18 (by omega) (by omega), ?_⟩
   refine gow0 ?_
   refine .inl ⟨_, right_m' _ 17 (by omega) (by omega), ?_⟩
   refine gow0 ?_
   refine .inl ⟨_, right_m' _ 19 (by omega) (by omega), ?_⟩
   refine gow0 ?_
   refine ⟨[(0, false), (1, false), (2, false), (3, false), (4, false), (5, false), (6, false), (7, false), (8, false), (9, false), (10, false), (11, false), (12, false), (13, false), (14, false), (15, false)], ?_⟩
   refine gow0 ?_
   refine ⟨_, idx_of (16 + t - 7) (by omega) (by omega), ?_⟩
   refine gow0 ?_
   refine ⟨_, ws_get (by omega), ?_⟩
   refine gow0 ?_
   refine ⟨_, idx_of (16 + t - 16) (by omega) (by omega), ?_⟩
   refine gow0 ?_
   refine ⟨_, ws_get (by omega), ?_⟩
   refine gow0 ?_
   refine ⟨_, idx_of (16 + t) (by omega) (by omega), ?_⟩
   refine gow0 ?_
   refine ⟨_, ws_set (by omega) _, ?_⟩
   refine gow0 ?_
   exact ⟨t + 1, by show t + 1 ≤ 48; omega, by show 48 - (t + 1) < 48 - t; omega, (vm [(0, _), (1, _)] [])⟩
  ·have ht' : t = 48 := by have := of_decide_eq_false hc; omega
   subst ht'
   refine gow0 ?_
   rfl
set_option maxRecDepth 40000 in
theorem rounds_r : SemR Tryz.prog G 267 [] [] 0 (.ptr 0 64 0 0 []) [(0, ⟨329, 64, false, 0, [wsM kL]⟩)] 1 := by
 refine srq seat Tryz.func267 3 ?_
 refine go1 ?_
 exact eb [_] [(0, 2)] []
set_option maxRecDepth 40000 in
theorem begin_m : SemC Tryz.prog G 206 [] initW.toM := by
 refine scq seat Tryz.func206 2 ?_
 refine go1 ?_
 refine go0 ?_
 rfl
def roundP (k w : UInt32) (s : W8) : W8 := ⟨tmp1 k w s + (turnU s.a 2 ^^^ turnU s.a 13 ^^^ turnU s.a 22) + (s.a &&& s.b ^^^ s.a &&& s.c ^^^ s.b &&& s.c), s.a, s.b, s.c, s.d + tmp1 k w s, s.e, s.f, s.g⟩
theorem roundP_eq (k w : UInt32) (s : W8) : roundS k w s = roundP k w s := by
 unfold roundS roundP tmp2
 rw [UInt32.add_assoc]
theorem wblock_m (h : W8) (b : List UInt8) (hb : b.length = 64) : SemC Tryz.prog G 207 [h.toM, .sl 64 (u8s b)] (blockS h b).toM := by
 have c1 := schedule_m (G := G) b hb
 have hl := moreW_len b 48
 have hk : kL.length = 64 := rfl
 have c2 := rounds_r (G := G)
 unfold blockS
 generalize moreW b 48 = ws at *
 generalize kL = kl at *
 refine scq seat Tryz.func207 119 ?_
 refine gow1 ?_
 refine yv (c1) ?_
 refine gow1 ?_
 refine yc (c2) [] ?_
 refine gow1 ?_
 refine ⟨Nat, fun t => [(21, .int .i64 t), (7, .ptr 4 8 0 0 []), (6, .ptr 3 64 0 0 []), (5, .ptr 2 64 0 0 []), (4, .ptr 1 8 0 0 []), (2, .ptr 0 8 0 0 [])], fun t => [(0, ⟨290, 8, false, 0, [h.toM]⟩), (1, ⟨290, 8, false, 0, [W8.toM ⟨0, 0, 0, 0, 0, 0, 0, 0⟩]⟩), (2, ⟨329, 64, false, 0, [wsM ws]⟩), (3, ⟨329, 64, false, 0, [wsM kl]⟩), (4, ⟨290, 8, false, 0, [(rounds kl ws h t).toM]⟩)], 5, fun t => t ≤ 64, fun t => 64 - t, ⟨0, by omega, (vm [(0, 0), (1, 1), (2, 4), (3, 3), (4, 8)] [])⟩, ?_⟩
 intro t ht
 refine gow0 ?_
 refine ⟨fun hc => ?_, fun hc => ?_⟩
 ·have ht' : t < 64 := by have := of_decide_eq_true hc; omega
  have hr : rounds kl ws h (t + 1) = roundP (kl.getD t 0) (ws.getD t 0) (rounds kl ws h t) := roundP_eq _ _ _
  dsimp only
  generalize rounds kl ws h t = s at *
  refine gow0 ?_
  refine ⟨[(0, false), (1, false), (2, false), (3, false), (4, false), (5, false)], ?_⟩
  refine gow0 ?_
  refine .inl ⟨_, right_m' _ 6 (by omega) (by omega), ?_⟩
  refine gow0 ?_
  refine .inl ⟨_, right_m' _ 11 (by omega) (by omega), ?_⟩
  refine gow0 ?_
  refine .inl ⟨_, right_m' _ 25 (by omega) (by omega), ?_⟩
  refine gow0 ?_
  refine ⟨[(0, false), (1, false), (2, false), (3, false), (4, false), (5, false), (6, false), (7, false), (8, false), (9, false), (10, false), (11, false), (12, false), (13, false), (14, false), (15, false), (16, false)], ?_⟩
  refine gow0 ?_
  refine ⟨_, idx_at (by omega), ?_⟩
  refine gow0 ?_
  refine ⟨_, ws_get (by omega), ?_⟩
  refine gow0 ?_
  refine ⟨_, idx_at (by omega), ?_⟩
  refine gow0 ?_
  refine ⟨_, ws_get (by omega), ?_⟩
  refine gow0 ?_
  refine .inl ⟨_, right_m' _ 2 (by omega) (by omega), ?_⟩
  refine gow0 ?_
  refine .inl ⟨_, right_m' _ 13 (by omega) (by omega), ?_⟩
  refine gow0 ?_
  refine .inl ⟨_, right_m' _ 22 (by omega) (by omega), ?_⟩
  refine gow0 ?_
  exact ⟨t + 1, by show t + 1 ≤ 64; omega, by show 64 - (t + 1) < 64 - t; omega, (by dsimp only; rw [hr]; exact (vm [(0, _), (1, _), (2, _), (3, _), (4, _)] []))⟩
 ·have ht' : t = 64 := by have := of_decide_eq_false hc; omega
  subst ht'
  dsimp only
  generalize rounds kl ws h 64 = s at *
  refine gow0 ?_
  refine ⟨Nat, fun i => [(106, .int .i64 i), (7, .ptr 2 8 0 0 []), (4, .ptr 1 8 0 0 []), (2, .ptr 0 8 0 0 [])], fun i => [(0, ⟨290, 8, false, 0, [(addW h s i).toM]⟩), (1, ⟨290, 8, false, 0, [W8.toM ⟨0, 0, 0, 0, 0, 0, 0, 0⟩]⟩), (2, ⟨290, 8, false, 0, [s.toM]⟩)], 3, fun i => i ≤ 8, fun i => 8 - i, ⟨0, by omega, (vm [(0, 0), (1, 1), (2, 4)] [])⟩, ?_⟩
  intro i hi
  refine gow0 ?_
  refine ⟨fun hc => ?_, fun hc => ?_⟩
  ·have hi' : i < 8 := by have := of_decide_eq_true hc; omega
   refine gow0 ?_
   refine ⟨[(0, false), (1, false), (2, false), (3, false), (4, false), (5, false), (6, false), (7, false), (8, false)], ?_⟩
   refine gow0 ?_
   refine ⟨_, idx_at (by omega), ?_⟩
   refine gow0 ?_
   refine ⟨_, get8 _ hi', ?_⟩
   refine gow0 ?_
   refine ⟨_, idx_at (by omega), ?_⟩
   refine gow0 ?_
   refine ⟨_, get8 _ hi', ?_⟩
   refine gow0 ?_
   refine ⟨_, idx_at (by omega), ?_⟩
   refine gow0 ?_
   refine ⟨_, set8 h s hi', ?_⟩
   refine gow0 ?_
   exact ⟨i + 1, by show i + 1 ≤ 8; omega, by show 8 - (i + 1) < 8 - i; omega, (vm [(0, _), (1, _), (2, _)] [])⟩
  ·have hi' : i = 8 := by have := of_decide_eq_false hc; omega
   subst hi'
   refine gow0 ?_
   rfl
end
section
variable {G : GS}
attribute [local irreducible] vOpsN vOpsG vOpsD vOpGD NextD vC SeqQ BlockQ
theorem absorb_app (s : W8) (m b : List UInt8) : ∀ q, 64 * q ≤ m.length → absorb s (m ++ b) q = absorb s m q
 | 0, _ => rfl
 | q + 1, h => by
  rw [absorb, absorb, absorb_app s m b q (by omega)]
  congr 1
  rw [List.drop_append_of_le_length (by omega), List.take_append_of_le_length (by rw [List.length_drop]; omega)]
def digM (m : List UInt8) : MV := .st [(absorb initW m (m.length / 64)).toM, .sl (m.length % 64) (u8s (m.drop (64 * (m.length / 64)))), .int .i64 m.length]
def digB (m : List UInt8) : VM := [(0, ⟨293, 10, false, 0, [digM m]⟩)]
abbrev digP : MV := .ptr 0 10 0 0 []
set_option maxRecDepth 40000 in
theorem new_r : SemR Tryz.prog G 142 [] [] 0 digP (digB []) 1 := by
 unfold digB digM
 refine srq seat Tryz.func142 4 ?_
 refine go1 ?_
 refine yv (begin_m) ?_
 refine go1 ?_
 refine ⟨[_], [(0, 2)], [], rfl, rfl, trivial, rfl, ⟨?_, trivial⟩, ?_⟩
 ·exact rv
 ·exact ⟨.inr ⟨_, _, rfl, rfl, rfl, rfl, .inl rfl, .inl rfl, .inr ⟨.inr ⟨_, rfl, ⟨rfl, rfl⟩, .inr ⟨rfl, rfl⟩, ⟨rfl, rfl⟩, trivial⟩, trivial⟩⟩, trivial⟩
theorem write_r (m b : List UInt8) (hm : m.length + b.length < 1000000000) : SemR Tryz.prog G 143 [digP, .sl b.length (u8s b)] (digB m) 1 (.tup []) (digB (m ++ b)) 1 := by
 have hq : 64 * (m.length / 64) ≤ m.length := by omega
 have hz : m.drop (64 * (m.length / 64)) ++ b = (m ++ b).drop (64 * (m.length / 64)) := (List.drop_append_of_le_length hq).symm
 have hl0 : (m.drop (64 * (m.length / 64))).length = m.length % 64 := by rw [List.length_drop]; omega
 have hab := absorb_app initW m b (m.length / 64) hq
 have hlen : (m ++ b).length = m.length + b.length := List.length_append
 unfold digB digM
 rw [← hab]
 generalize hM : m ++ b = M at *
 generalize hqq : m.length / 64 = q at *
 generalize hr0 : m.drop (64 * q) = r0 at *
 rw [← hl0]
 refine srq seat Tryz.func143 43 ?_
 refine go1 ?_
 refine g_mem rfl rfl (by intro R hR; refine sms hR ?_; refine And.intro (head_b r0) ?_; refine And.intro (app_ok1 (by kernel_rfl) (by omega)) ?_; exact hR) rfl ?_
 refine go1 ?_
 have hw0 : (M.drop (64 * q)).length = r0.length + b.length := by rw [← hz, List.length_append]
 refine g_mem rfl rfl (by intro R hR; refine sms hR ?_; refine And.intro (head_b b) ?_; refine And.intro ⟨(by simp [u8s]), app_ok (by kernel_rfl) pf⟩ ?_; refine ⟨u8s (M.drop (64 * q)), sv (by rw [← hz]; simp [u8s]), (M.drop (64 * q)).length, sv pf, ?_⟩; exact hR) rfl ?_
 refine go1 ?_
 refine c_loop Nat (fun k => [(4, .sl (M.drop (64 * (q + k))).length (u8s (M.drop (64 * (q + k))))), (0, digP)]) (fun k => [(0, ⟨293, 10, false, 0, [.st [(absorb initW M (q + k)).toM, .sl r0.length (u8s r0), .int .i64 M.length]]⟩)]) 1 (fun k => 64 * (q + k) ≤ M.length) (fun k => M.length - k) 0 (by omega) ?_ ?_
 ·rw [Nat.add_zero, hlen, Int.natCast_add]
  exact (vm [] [(19, (M.drop (64 * q)).length)])
 intro k hk
 try dsimp only
 have hwl : (M.drop (64 * (q + k))).length = M.length - 64 * (q + k) := List.length_drop
 have hnext : (M.drop (64 * (q + k))).drop 64 = M.drop (64 * (q + (k + 1))) := by rw [List.drop_drop, show 64 * (q + k) + 64 = 64 * (q + (k + 1)) by omega]
 have habs : absorb initW M (q + (k + 1)) = blockS (absorb initW M (q + k)) ((M.drop (64 * (q + k))).take 64) := rfl
 by_cases hlast : 64 ≤ M.length - 64 * (q + k)
 ·generalize absorb initW M (q + k) = S at *
  generalize hw : M.drop (64 * (q + k)) = w at *
  have hb1 : bounds w.length none (some (.int .i64 64)) = some (0, 64) := bndHi (k := 64) (by omega)
  have hb2 : bounds w.length (some (.int .i64 64)) none = some (64, w.length) := bndLo (k := 64) (by omega)
  have hc1 : cutL (u8s w) 0 64 = u8s (w.take 64) := by rw [cut_u8, List.drop_zero]
  have hc2 : cutL (u8s w) 64 w.length = u8s (w.drop 64) := by rw [cut_u8, List.take_of_length_le (by rw [List.length_drop]; omega)]
  have hc3 : w.length - 64 = (w.drop 64).length := List.length_drop.symm
  have c1 := wblock_m (G := G) S (w.take 64) (by rw [List.length_take]; omega)
  refine go1 ?_
  refine c_cond rfl (fun h => ?_) (fun h => ?_)
  rotate_left
  ·exfalso
   have := of_decide_eq_false h
   omega
  refine go1 ?_
  refine c_draw [(0, false), (1, false), (2, false), (3, false), (4, false), (5, false), (6, false), (7, true), (8, false), (9, false), (10, false)] ?_
  (have fct := SomF.mk (hb1); have fct := SomF.mk (hb2); have fct := EqF.mk (hc1); have fct := EqF.mk (hc2); have fct := EqF.mk (hc3); have fct := SideF.mk (head_b w); refine go1 ?_)
  refine ydv (c1) ?_
  (have fct := SomF.mk (hb1); have fct := SomF.mk (hb2); have fct := EqF.mk (hc1); have fct := EqF.mk (hc2); have fct := EqF.mk (hc3); have fct := SideF.mk (head_b w); refine go1 ?_)
  exact ⟨k + 1, by show 64 * (q + (k + 1)) ≤ M.length; omega, by show M.length - (k + 1) < M.length - k; omega, (by dsimp only; rw [← hnext, habs]; exact (vm [] []))⟩
 ·have e1 : M.length / 64 = q + k := by omega
  have e2 : M.length % 64 = (M.drop (64 * (q + k))).length := by omega
  rw [e1, e2]
  generalize absorb initW M (q + k) = S at *
  generalize hw : M.drop (64 * (q + k)) = w at *
  refine go1 ?_
  refine c_cond rfl (fun h => ?_) (fun h => ?_)
  ·exfalso
   have := of_decide_eq_true h
   omega
  refine go1 ?_
  refine g_mem rfl rfl (by intro R hR; refine sms hR ?_; refine And.intro (head_b w) ?_; refine And.intro (app_ok1 (by kernel_rfl) (by omega)) ?_; exact hR) rfl ?_
  refine go1 ?_
  refine ⟨[], [], [(6, w.length)], rfl, rfl, ?_, rfl, trivial, ?_⟩
  ·exact ⟨by show w.length ≤ (u8s w).length; simp [u8s], trivial⟩
  ·exact ⟨.inr ⟨_, _, rfl, rfl, rfl, rfl, .inl rfl, .inl rfl, .inr ⟨.inr ⟨_, rfl, ⟨rfl, rfl⟩, .inr ⟨rfl, rfl, rfl, Nat.le_of_eq (Nat.zero_add _), cut_all _ _⟩, ⟨rfl, rfl⟩, trivial⟩, trivial⟩⟩, trivial⟩
theorem rem64 (n : Nat) : (n : Int).tmod 64 = ((n % 64 : Nat) : Int) := rfl
theorem shrN (n k : Nat) (hk : k < 8) : IntKind.u8.wrap (((n : Nat) : Int).fdiv (2 ^ (min (56 - 8 * (k : Int)).toNat IntKind.u64.bits))) = ((byteAt n k).toNat : Int) := by
 have e : min (56 - 8 * (k : Int)).toNat IntKind.u64.bits = 8 * (7 - k) := by simp [IntKind.bits]; omega
 rw [e, Int.fdiv_eq_ediv_of_nonneg _ (Int.le_of_lt (Int.pow_pos (by omega))), w8, byteAt, UInt8.toNat_ofNat']
 have e3 : (2 : Int) ^ (8 * (7 - k)) = ((2 ^ (8 * (7 - k)) : Nat) : Int) := by rw [Int.natCast_pow]; rfl
 rw [e3, ← Int.natCast_ediv]
 exact (Int.natCast_emod _ 256).symm
theorem pad_drop (m : List UInt8) (q : Nat) (hq : 64 * q ≤ m.length) : (padS m).drop (64 * q) = m.drop (64 * q) ++ [128] ++ List.replicate (padN m.length) 0 ++ be64 (8 * m.length) := by
 unfold padS
 rw [List.append_assoc, List.append_assoc, List.drop_append_of_le_length hq, ← List.append_assoc, ← List.append_assoc]
theorem absorb_pad (m : List UInt8) (q : Nat) (hq : 64 * q ≤ m.length) : absorb initW (padS m) q = absorb initW m q := by
 unfold padS
 rw [List.append_assoc, List.append_assoc]
 exact absorb_app _ _ _ _ hq
theorem nth8 (S : W8) {i : Nat} (h : i < 8) : idxL [u32M S.a, u32M S.b, u32M S.c, u32M S.d, u32M S.e, u32M S.f, u32M S.g, u32M S.h] 8 (i : Int) = some (u32M (S.nth i)) := by
 have h8 : i = 0 ∨ i = 1 ∨ i = 2 ∨ i = 3 ∨ i = 4 ∨ i = 5 ∨ i = 6 ∨ i = 7 := by omega
 rcases h8 with rfl | rfl | rfl | rfl | rfl | rfl | rfl | rfl <;> rfl
theorem out4 (S : W8) (i : Nat) : outK S (4 * (i + 1)) = ((((outK S (4 * i)).set (4 * i) (S.nth i >>> UInt32.ofNat 24).toUInt8).set (4 * i + 1) (S.nth i >>> UInt32.ofNat 16).toUInt8).set (4 * i + 2) (S.nth i >>> UInt32.ofNat 8).toUInt8).set (4 * i + 3) (S.nth i).toUInt8 := by
 have e : outK S (4 * (i + 1)) = ((((outK S (4 * i)).set (4 * i) (outAt S (4 * i))).set (4 * i + 1) (outAt S (4 * i + 1))).set (4 * i + 2) (outAt S (4 * i + 2))).set (4 * i + 3) (outAt S (4 * i + 3)) := rfl
 rw [e]
 unfold outAt
 rw [show 4 * i / 4 = i by omega, show (4 * i + 1) / 4 = i by omega, show (4 * i + 2) / 4 = i by omega, show (4 * i + 3) / 4 = i by omega, show 24 - 4 * i % 4 * 8 = 24 by omega, show 24 - (4 * i + 1) % 4 * 8 = 16 by omega, show 24 - (4 * i + 2) % 4 * 8 = 8 by omega, show 24 - (4 * i + 3) % 4 * 8 = 0 by omega]
 rw [show UInt32.ofNat 0 = 0 by rfl, UInt32.shiftRight_zero]
theorem sum_r (m : List UInt8) (hm : m.length < 1000000000) : SemR Tryz.prog G 144 [digP] (digB m) 1 (keyM (shaS m)) (digB m) 1 := by
 have hq : 64 * (m.length / 64) ≤ m.length := by omega
 have hl0 : (m.drop (64 * (m.length / 64))).length = m.length % 64 := by rw [List.length_drop]; omega
 have hpd := pad_drop m _ hq
 have hpa := absorb_pad m _ hq
 have hpl := padS_len m
 have hpv := padS_div m
 have hp : padN m.length < 64 := by unfold padN; omega
 have hpn : (m.length % 64 + 1 + padN m.length) % 64 = 56 := by unfold padN; omega
 have hpf : ∀ k, k < padN m.length → (m.length % 64 + 1 + k) % 64 ≠ 56 := by unfold padN; intro k hk; omega
 unfold digB digM shaS
 rw [← hl0] at hpn hpf ⊢
 generalize hqq : m.length / 64 = q at *
 generalize hr0 : m.drop (64 * q) = r0 at *
 generalize hpN : padN m.length = pn at *
 generalize hP : padS m = P at *
 rw [← hpa]
 refine srq seat Tryz.func144 90 ?_
 refine go1 ?_
 refine g_mem rfl rfl (by intro R hR; refine sms hR ?_; refine And.intro (head_b r0) ?_; refine And.intro (app_ok1 (by kernel_rfl) (by omega)) ?_; exact hR) rfl ?_
 refine go1 ?_
 refine g_mem rfl rfl (by intro R hR; refine sms hR ?_; (refine And.intro (Nat.le_refl _) ?_; refine ⟨_, rfl, ?_⟩; refine And.intro ⟨(by simp [u8s]), app_ok (by kernel_rfl) pf⟩ ?_; refine ⟨u8s (r0 ++ [128]), sv (by simp [u8s, setL, repM, cutL]), r0.length + 1, sv pf, ?_⟩); exact hR) rfl ?_
 refine go1 ?_
 have hTl : r0.length + 1 + pn + 8 = (P.drop (64 * q)).length := by rw [hpd]; simp [be64]; omega
 refine c_loop Nat (fun k => [(4, .ms 3 1 0 (r0.length + 1 + k)), (3, .ptr 2 32 0 0 []), (2, .ptr 1 32 0 0 []), (0, digP)]) (fun k => [(0, ⟨293, 10, false, 0, [.st [(absorb initW P q).toM, .sl r0.length (u8s r0), .int .i64 m.length]]⟩), (1, ⟨93, 32, false, 0, [keyM (List.replicate 32 0)]⟩), (2, ⟨93, 32, false, 0, [keyM (List.replicate 32 0)]⟩), (3, ⟨5, 1, true, 0, u8s (r0 ++ [128] ++ List.replicate k 0)⟩)]) 4 (fun k => k ≤ pn) (fun k => pn - k) 0 (Nat.zero_le _) (vm [(1, _), (2, _), (3, _)] []) ?_
 intro k hk
 try dsimp only
 (have fct := EqF.mk (rem64 (r0.length + 1 + k)); refine go1 ?_)
 refine c_cond rfl (fun h => ?_) (fun h => ?_)
 ·have hk' : k < pn := by
   have h1 : (((r0.length + 1 + k) % 64 : Nat) : Int) ≠ 56 := by simpa using h
   rcases Nat.lt_or_ge k pn with h2 | h2
   ·exact h2
   ·have : k = pn := by omega
    subst this
    rw [hpn] at h1
    exact absurd rfl h1
  refine go1 ?_
  refine g_mem rfl rfl (by intro R hR; refine sms hR ?_; (refine And.intro (Nat.le_refl _) ?_; refine ⟨_, rfl, ?_⟩; refine And.intro ⟨pf, app_ok (by kernel_rfl) pf⟩ ?_; refine ⟨u8s (r0 ++ [128] ++ List.replicate (k + 1) 0), sv pf, r0.length + 1 + (k + 1), sv pf, ?_⟩); exact hR) rfl ?_
  refine go1 ?_
  exact ⟨k + 1, by show k + 1 ≤ pn; omega, by show pn - (k + 1) < pn - k; omega, (by dsimp only; exact (vm [(1, _), (2, _), (3, _)] []))⟩
 ·have hk' : k = pn := by
   have h1 : (((r0.length + 1 + k) % 64 : Nat) : Int) = 56 := by simpa using h
   rcases Nat.lt_or_ge k pn with h2 | h2
   ·have := hpf k h2; omega
   ·omega
  subst hk'
  refine go1 ?_
  refine c_loop Nat (fun j => [(6, .int .i64 (56 - 8 * (j : Int))), (5, .int .u64 ((8 * m.length : Nat) : Int)), (4, .ms 3 1 0 (r0.length + 1 + k + j)), (3, .ptr 2 32 0 0 []), (2, .ptr 1 32 0 0 []), (0, digP)]) (fun j => [(0, ⟨293, 10, false, 0, [.st [(absorb initW P q).toM, .sl r0.length (u8s r0), .int .i64 m.length]]⟩), (1, ⟨93, 32, false, 0, [keyM (List.replicate 32 0)]⟩), (2, ⟨93, 32, false, 0, [keyM (List.replicate 32 0)]⟩), (3, ⟨5, 1, true, 0, u8s (r0 ++ [128] ++ List.replicate k 0 ++ (List.range j).map (byteAt (8 * m.length)))⟩)]) 4 (fun j => j ≤ 8) (fun j => 8 - j) 0 (Nat.zero_le _) (by rw [List.range_zero, List.map_nil, List.append_nil]; exact (vm [(1, _), (2, _), (3, _)] [])) ?_
  intro j hj
  try dsimp only
  refine go1 ?_
  refine c_cond rfl (fun h => ?_) (fun h => ?_)
  ·have hj' : j < 8 := by have := of_decide_eq_true h; omega
   (have fct := EqF.mk (shrN (8 * m.length) j hj'); refine go1 ?_)
   refine g_mem rfl rfl (by intro R hR; refine sms hR ?_; (refine And.intro (Nat.le_refl _) ?_; refine ⟨_, rfl, ?_⟩; refine And.intro ⟨pf, app_ok (by kernel_rfl) pf⟩ ?_; refine ⟨u8s (r0 ++ [128] ++ List.replicate k 0 ++ (List.range (j + 1)).map (byteAt (8 * m.length))), sv pf, r0.length + 1 + k + (j + 1), sv pf, ?_⟩); exact hR) rfl ?_
   refine go1 ?_
   exact ⟨j + 1, by show j + 1 ≤ 8; omega, by show 8 - (j + 1) < 8 - j; omega, (by dsimp only; exact (vm [(1, _), (2, _), (3, _)] []))⟩
  ·have hj' : j = 8 := by have := of_decide_eq_false h; omega
   subst hj'
   have hbe : (List.range 8).map (byteAt (8 * m.length)) = be64 (8 * m.length) := rfl
   rw [hbe, ← hpd, hTl]
   refine go1 ?_
   refine c_loop Nat (fun k => [(7, .ptr 3 8 0 0 []), (4, .sl (P.drop (64 * (q + k))).length (u8s (P.drop (64 * (q + k))))), (3, .ptr 2 32 0 0 []), (2, .ptr 1 32 0 0 []), (0, digP)]) (fun k => [(0, ⟨293, 10, false, 0, [.st [(absorb initW P q).toM, .sl r0.length (u8s r0), .int .i64 m.length]]⟩), (1, ⟨93, 32, false, 0, [keyM (List.replicate 32 0)]⟩), (2, ⟨93, 32, false, 0, [keyM (List.replicate 32 0)]⟩), (3, ⟨290, 8, false, 0, [(absorb initW P (q + k)).toM]⟩)]) 4 (fun k => 64 * (q + k) ≤ P.length) (fun k => P.length - k) 0 (by omega) (by rw [Nat.add_zero]; exact (vm [(1, _), (2, _), (3, _)] [(3, (P.drop (64 * q)).length)])) ?_
   intro k hk
   try dsimp only
   have hwl : (P.drop (64 * (q + k))).length = P.length - 64 * (q + k) := List.length_drop
   have hnext : (P.drop (64 * (q + k))).drop 64 = P.drop (64 * (q + (k + 1))) := by rw [List.drop_drop, show 64 * (q + k) + 64 = 64 * (q + (k + 1)) by omega]
   have habs : absorb initW P (q + (k + 1)) = blockS (absorb initW P (q + k)) ((P.drop (64 * (q + k))).take 64) := rfl
   by_cases hlast : 64 * (q + k) < P.length
   ·generalize absorb initW P (q + k) = S at *
    generalize hw : P.drop (64 * (q + k)) = w at *
    have hb1 : bounds w.length none (some (.int .i64 64)) = some (0, 64) := bndHi (k := 64) (by omega)
    have hb2 : bounds w.length (some (.int .i64 64)) none = some (64, w.length) := bndLo (k := 64) (by omega)
    have hc1 : cutL (u8s w) 0 64 = u8s (w.take 64) := by rw [cut_u8, List.drop_zero]
    have hc2 : cutL (u8s w) 64 w.length = u8s (w.drop 64) := by rw [cut_u8, List.take_of_length_le (by rw [List.length_drop]; omega)]
    have hc3 : w.length - 64 = (w.drop 64).length := List.length_drop.symm
    have c1 := wblock_m (G := G) S (w.take 64) (by rw [List.length_take]; omega)
    refine go1 ?_
    refine c_cond rfl (fun h => ?_) (fun h => ?_)
    rotate_left
    ·exfalso
     have := of_decide_eq_false h
     omega
    refine go1 ?_
    refine c_draw [(0, false), (1, false), (2, false), (3, true), (4, false)] ?_
    (have fct := SomF.mk (hb1); have fct := SomF.mk (hb2); have fct := EqF.mk (hc1); have fct := EqF.mk (hc2); have fct := EqF.mk (hc3); have fct := SideF.mk (head_b w); refine go1 ?_)
    refine ydv (c1) ?_
    (have fct := SomF.mk (hb1); have fct := SomF.mk (hb2); have fct := EqF.mk (hc1); have fct := EqF.mk (hc2); have fct := EqF.mk (hc3); have fct := SideF.mk (head_b w); refine go1 ?_)
    exact ⟨k + 1, by show 64 * (q + (k + 1)) ≤ P.length; omega, by show P.length - (k + 1) < P.length - k; omega, (by dsimp only; rw [← hnext, habs]; exact (vm [(1, _), (2, _), (3, _)] []))⟩
   ·have e1 : P.length / 64 = q + k := by omega
    rw [e1]
    generalize absorb initW P (q + k) = S at *
    generalize hw : P.drop (64 * (q + k)) = w at *
    refine go1 ?_
    refine c_cond rfl (fun h => ?_) (fun h => ?_)
    ·exfalso
     have := of_decide_eq_true h
     omega
    refine go1 ?_
    refine c_loop Nat (fun i => [(58, .int .i64 i), (57, S.toM), (3, .ptr 2 32 0 0 []), (2, .ptr 1 32 0 0 []), (0, digP)]) (fun i => [(0, ⟨293, 10, false, 0, [.st [(absorb initW P q).toM, .sl r0.length (u8s r0), .int .i64 m.length]]⟩), (1, ⟨93, 32, false, 0, [keyM (List.replicate 32 0)]⟩), (2, ⟨93, 32, false, 0, [keyM (outK S (4 * i))]⟩)]) 3 (fun i => i ≤ 8) (fun i => 8 - i) 0 (Nat.zero_le _) (vm [(1, _), (2, _)] []) ?_
    intro i hi
    try dsimp only
    refine go1 ?_
    refine c_cond rfl (fun h => ?_) (fun h => ?_)
    ·have hi' : i < 8 := by have := of_decide_eq_true h; omega
     have hix : idxL [u32M S.a, u32M S.b, u32M S.c, u32M S.d, u32M S.e, u32M S.f, u32M S.g, u32M S.h] 8 (i : Int) = some (u32M (S.nth i)) := nth8 S hi'
     have hol := outK_len S (4 * i)
     have hout := out4 S i
     generalize S.nth i = x at *
     generalize outK S (4 * i) = ok at *
     have s24 : (x.toNat : Int).fdiv (2 ^ (min (24 : Int).toNat IntKind.u32.bits)) = ((x >>> UInt32.ofNat 24).toNat : Int) := shr32 x 24 (by omega)
     have s16 : (x.toNat : Int).fdiv (2 ^ (min (16 : Int).toNat IntKind.u32.bits)) = ((x >>> UInt32.ofNat 16).toNat : Int) := shr32 x 16 (by omega)
     have s8 : (x.toNat : Int).fdiv (2 ^ (min (8 : Int).toNat IntKind.u32.bits)) = ((x >>> UInt32.ofNat 8).toNat : Int) := shr32 x 8 (by omega)
     have v24 := conv328 (x >>> UInt32.ofNat 24)
     have v16 := conv328 (x >>> UInt32.ofNat 16)
     have v8 := conv328 (x >>> UInt32.ofNat 8)
     have v0 := conv328 x
     generalize (x >>> UInt32.ofNat 24) = y24 at *
     generalize (x >>> UInt32.ofNat 16) = y16 at *
     generalize (x >>> UInt32.ofNat 8) = y8 at *
     have j0 : idx 32 (4 * (i : Int)) = some (4 * i) := idx_of (4 * i) (by omega) (by omega)
     have j1 : idx 32 (4 * (i : Int) + 1) = some (4 * i + 1) := idx_of (4 * i + 1) (by omega) (by omega)
     have j2 : idx 32 (4 * (i : Int) + 2) = some (4 * i + 2) := idx_of (4 * i + 2) (by omega) (by omega)
     have j3 : idx 32 (4 * (i : Int) + 3) = some (4 * i + 3) := idx_of (4 * i + 3) (by omega) (by omega)
     have k0 := key_set (k := ok) (i := 4 * i) (by omega) y24.toUInt8
     have k1 := key_set (k := ok.set (4 * i) y24.toUInt8) (i := 4 * i + 1) (by rw [List.length_set]; omega) y16.toUInt8
     have k2 := key_set (k := (ok.set (4 * i) y24.toUInt8).set (4 * i + 1) y16.toUInt8) (i := 4 * i + 2) (by rw [List.length_set, List.length_set]; omega) y8.toUInt8
     have k3 := key_set (k := ((ok.set (4 * i) y24.toUInt8).set (4 * i + 1) y16.toUInt8).set (4 * i + 2) y8.toUInt8) (i := 4 * i + 3) (by rw [List.length_set, List.length_set, List.length_set]; omega) x.toUInt8
     (have fct := SomF.mk (hix); have fct := EqF.mk (s24); have fct := EqF.mk (s16); have fct := EqF.mk (s8); have fct := EqF.mk (v24); have fct := EqF.mk (v16); have fct := EqF.mk (v8); have fct := EqF.mk (v0); have fct := SomF.mk (j0); have fct := SomF.mk (j1); have fct := SomF.mk (j2); have fct := SomF.mk (j3); have fct := SomF.mk (k0); have fct := SomF.mk (k1); have fct := SomF.mk (k2); have fct := SomF.mk (k3); refine go1 ?_)
     exact ⟨i + 1, by show i + 1 ≤ 8; omega, by show 8 - (i + 1) < 8 - i; omega, (by dsimp only; rw [hout]; exact (vm [(1, _), (2, _)] []))⟩
    ·have hi' : i = 8 := by have := of_decide_eq_false h; omega
     subst hi'
     refine go1 ?_
     refine go0 ?_
     exact en [_]
end
section
variable {G : GS}
attribute [local irreducible] vOpsN vOpsG vOpsD vOpGD NextD vC SeqQ BlockQ
theorem write_g (m b M : List UInt8) (hM : m ++ b = M) (hm : m.length + b.length < 1000000000) : SemR Tryz.prog G 143 [digP, .sl b.length (u8s b)] (digB m) 1 (.tup []) (digB M) 1 := by
 subst hM; exact write_r m b hm
theorem psha_m (b : List UInt8) (hb : b.length < 500000000) : SemC Tryz.prog G 77 [.sl b.length (u8s b)] (keyM (shaS b)) := by
 have c1 := new_r (G := G)
 have c2 := write_g (G := G) [] b b rfl (by simp; omega)
 have c3 := sum_r (G := G) b (by omega)
 unfold digB at c1 c2 c3
 refine scq seat Tryz.func77 10 ?_
 refine go1 ?_
 refine yc (c1) [] ?_
 refine go1 ?_
 refine yc (c2) [(0, 1)] ?_
 refine go1 ?_
 refine yc (c3) [(0, 1)] ?_
 refine go1 ?_
 refine go0 ?_
 rfl
theorem pleaf_m (b : List UInt8) (hb : b.length < 500000000) : SemC Tryz.prog G 203 [.sl b.length (u8s b)] (keyM (shaS (0 :: b))) := by
 have c1 := new_r (G := G)
 have c2 := write_g (G := G) [] [0] [0] rfl (by simp)
 have c3 := write_g (G := G) [0] b (0 :: b) rfl (by simp only [List.length_cons, List.length_nil]; omega)
 have c4 := sum_r (G := G) (0 :: b) (by simp only [List.length_cons]; omega)
 unfold digB at c1 c2 c3 c4
 refine scq seat Tryz.func203 13 ?_
 refine go1 ?_
 refine yc (c1) [] ?_
 refine go1 ?_
 refine g_callR1 rfl (fun _ h => h) rfl (c2) [(0, 1)] [(4, 1)] ⟨rfl, mm, rfl, lm, mm⟩ rfl rfl ?_
 refine go1 ?_
 refine yc (c3) [(0, 1)] ?_
 refine go1 ?_
 refine yc (c4) [(0, 1)] ?_
 refine go1 ?_
 refine go0 ?_
 rfl
theorem pinner_m (a b : List UInt8) (ha : a.length = 32) (hb : b.length = 32) : SemC Tryz.prog G 205 [keyM a, keyM b] (keyM (shaS (1 :: (a ++ b)))) := by
 have c1 := new_r (G := G)
 have c2 := write_g (G := G) [] [1] [1] rfl (by simp)
 have c3 := write_g (G := G) [1] a (1 :: a) rfl (by simp only [List.length_cons, List.length_nil]; omega)
 have c4 := write_g (G := G) (1 :: a) b (1 :: (a ++ b)) rfl (by simp only [List.length_cons]; omega)
 have c5 := sum_r (G := G) (1 :: (a ++ b)) (by simp only [List.length_cons, List.length_append]; omega)
 rw [ha, ← cut_key ha] at c3
 rw [hb, ← cut_key hb] at c4
 unfold digB at c1 c2 c3 c4 c5
 refine scq seat Tryz.func205 18 ?_
 refine go1 ?_
 refine yc (c1) [] ?_
 refine go1 ?_
 refine g_callR1 rfl (fun _ h => h) rfl (c2) [(0, 3)] [(6, 1)] ⟨rfl, mm, rfl, lm, mm⟩ rfl rfl ?_
 refine go1 ?_
 refine yc (c3) [(0, 3)] ?_
 refine go1 ?_
 refine yc (c4) [(0, 3)] ?_
 refine go1 ?_
 refine yc (c5) [(0, 3)] ?_
 refine go1 ?_
 refine go0 ?_
 rfl
end
section
mutual
theorem relV_self {σ : Nat → Option Nat} {fz : Fz} : ∀ (m : MV), m.idFree = true → relV σ fz m m
 | .st l, h => .inl ⟨rfl, h⟩
 | .fn f l, h => .inl ⟨rfl, h⟩
 | .ifc t v, h => .inl ⟨rfl, h⟩
 | .sl .., _ => .inl rfl
 | .ep .., _ => .inl rfl
 | .ptr .., h => by cases h
 | .ms .., h => by cases h
 | .tup .., h => by cases h
 | .undef, h => by cases h
 | .int .., _ => ⟨rfl, rfl⟩
 | .bool .., _ => ⟨rfl, rfl⟩
 | .str .., _ => ⟨rfl, rfl⟩
 | .nilp, _ => ⟨rfl, rfl⟩
 | .gp .., _ => ⟨rfl, rfl⟩
 | .nils, _ => ⟨rfl, rfl⟩
 | .nilf, _ => ⟨rfl, rfl⟩
 | .nili, _ => ⟨rfl, rfl⟩
 | .arr .., _ => ⟨rfl, rfl⟩
theorem relVs_self {σ : Nat → Option Nat} {fz : Fz} : ∀ (l : List MV), MV.idFrees l = true → relV.relVs σ fz l l
 | [], _ => trivial
 | m :: l, h => by
  simp only [MV.idFrees, Bool.and_eq_true] at h
  exact ⟨relV_self m h.1, relVs_self l h.2⟩
end
section
variable {Pg : Program} {T : Tab} {N : Nat} {ents : List FuncId} {G : GS} {ops : Array Oper} {d : Tmp} {ty : TypeId} {pos : String} {after : Array Edge} {g : Option (Nat × Bool)} {rest : List Oper} {K : VK} {E : VE} {M : VM} {n : Nat} {f : Operand} {args : Array Operand} {ats : Array TypeId} {f0 : FuncId} {vs : List MV} {res : MV}
theorem g_call3 (hd : Nat.blt d N = true) (h1 : ∀ R : FuncId × List MV → Prop, R (f0, vs) → (vArgs E f args.toList).runP R) (h2 : ents.contains f0 = true) (hc : SemR Pg G f0 vs [] 0 res [] 0) (hf : nfree res = true) (hi : MV.idFrees vs = true)
  (h : vOpsN Pg T N ents G ops rest K ((d, res) :: E) M n) : vOpsG Pg T N ents G ops ⟨some d, .call ⟨.value f, args, ats⟩, ty, pos, after, g⟩ rest K E M n :=
 g_call2 hd h1 h2 hc hf (relVs_self vs hi) h
end
variable {G : GS}
attribute [local irreducible] vOpsN vOpsG vOpsD vOpGD NextD vC SeqQ BlockQ
def followS (s : List UInt8) (i : Nat) : Bool := decide (i < s.length) && (decide (128 ≤ (s.getD i 0).toNat) && decide ((s.getD i 0).toNat < 192))
theorem idxS_at {s : List UInt8} {i : Nat} (h : i < s.length) : idxS s (i : Int) = some (s.getD i 0) := by
 unfold idxS
 rw [if_pos (by omega)]
 simp [h]
theorem idxS_of {s : List UInt8} {j : Int} (i : Nat) (hj : j = i) (h : i < s.length) : idxS s j = some (s.getD i 0) := by
 subst hj; exact idxS_at h
theorem follow_m (s : List UInt8) (i : Nat) (hs : s.length < 1000000000) : SemC Tryz.prog G 31 [.str s, .int .i64 i] (.bool (followS s i)) := by
 unfold followS
 by_cases hi : i < s.length
 ·have f1 := SomF.mk (idxS_at hi)
  generalize s.getD i 0 = c at *
  rw [decide_eq_true hi, Bool.true_and]
  by_cases h1 : 128 ≤ c.toNat
  ·rw [decide_eq_true h1, Bool.true_and]
   refine scq seat Tryz.func31 21 ?_
   (iterate 3 ((all_goals (refine go1 ?_)); (all_goals (first | (refine n_guard rfl rfl (fun h => ?_) rfl (fun h => ?_); all_goals ((try simp only [pl] at h); (try (exfalso; omega)))) | (refine c_cond rfl (fun h => ?_) (fun h => ?_); all_goals ((try simp only [pl] at h); (try (exfalso; omega)))) | skip))))
   all_goals first | (exfalso; omega) | (refine go0 ?_; first | rfl | exact congrArg MV.bool (decide_eq_decide.2 (by omega)))
  ·rw [decide_eq_false h1, Bool.false_and]
   refine scq seat Tryz.func31 21 ?_
   (iterate 3 ((all_goals (refine go1 ?_)); (all_goals (first | (refine n_guard rfl rfl (fun h => ?_) rfl (fun h => ?_); all_goals ((try simp only [pl] at h); (try (exfalso; omega)))) | (refine c_cond rfl (fun h => ?_) (fun h => ?_); all_goals ((try simp only [pl] at h); (try (exfalso; omega)))) | skip))))
   all_goals first | (exfalso; omega) | (refine go0 ?_; first | rfl | exact congrArg MV.bool (decide_eq_decide.2 (by omega)))
 ·rw [decide_eq_false hi, Bool.false_and]
  refine scq seat Tryz.func31 21 ?_
  (iterate 3 ((all_goals (refine go1 ?_)); (all_goals (first | (refine n_guard rfl rfl (fun h => ?_) rfl (fun h => ?_); all_goals ((try simp only [pl] at h); (try (exfalso; omega)))) | (refine c_cond rfl (fun h => ?_) (fun h => ?_); all_goals ((try simp only [pl] at h); (try (exfalso; omega)))) | skip))))
  all_goals first | (exfalso; omega) | (refine go0 ?_; first | rfl | exact congrArg MV.bool (decide_eq_decide.2 (by omega)))
def runeS (s : List UInt8) (i : Nat) : Nat :=
 if (s.getD i 0).toNat < 128 then 1 else
 if 194 ≤ (s.getD i 0).toNat ∧ (s.getD i 0).toNat < 224 ∧ followS s (i + 1) = true then 2 else
 if 224 ≤ (s.getD i 0).toNat ∧ (s.getD i 0).toNat < 240 ∧ followS s (i + 1) = true ∧ followS s (i + 2) = true then
  (if (s.getD i 0).toNat = 224 ∧ (s.getD (i + 1) 0).toNat < 160 ∨ (s.getD i 0).toNat = 237 ∧ 160 ≤ (s.getD (i + 1) 0).toNat then 0 else 3) else
 if 240 ≤ (s.getD i 0).toNat ∧ (s.getD i 0).toNat < 245 ∧ followS s (i + 1) = true ∧ followS s (i + 2) = true ∧ followS s (i + 3) = true then
  (if (s.getD i 0).toNat = 240 ∧ (s.getD (i + 1) 0).toNat < 144 ∨ (s.getD i 0).toNat = 244 ∧ 144 ≤ (s.getD (i + 1) 0).toNat then 0 else 4) else 0
theorem followS_lt {s : List UInt8} {i : Nat} (h : followS s i = true) : i < s.length := by
 unfold followS at h
 rw [Bool.and_eq_true] at h
 exact of_decide_eq_true h.1
theorem rune_m (s : List UInt8) (i : Nat) (hs : s.length < 1000000000) (hi : i < s.length) : SemC Tryz.prog G 16 [.str s, .int .i64 i] (.int .i64 (runeS s i)) := by
 have f0 := SomF.mk (idxS_at hi)
 have c1 : SemC Tryz.prog G 31 [.str s, .int .i64 ((i : Int) + 1)] _ := follow_m s (i + 1) hs
 have c2 : SemC Tryz.prog G 31 [.str s, .int .i64 ((i : Int) + 2)] _ := follow_m s (i + 2) hs
 have c3 : SemC Tryz.prog G 31 [.str s, .int .i64 ((i : Int) + 3)] _ := follow_m s (i + 3) hs
 generalize hr : runeS s i = r
 unfold runeS at hr
 have l1 := followS_lt (s := s) (i := i + 1)
 have f1 : i + 1 < s.length → idxS s ((i : Int) + 1) = some (s.getD (i + 1) 0) := fun h => idxS_of (i + 1) (by omega) h
 generalize s.getD i 0 = x at *
 generalize s.getD (i + 1) 0 = y at *
 generalize followS s (i + 1) = b1 at *
 generalize followS s (i + 2) = b2 at *
 generalize followS s (i + 3) = b3 at *
 rcases Nat.lt_or_ge x.toNat 128 with g1 | g1
 ·
  clear l1 f1
  refine scq seat Tryz.func16 109 ?_
  (iterate 12 ((all_goals (refine go1 ?_)); (all_goals (first | (refine g_call3 rfl (fun _ h => h) rfl (semR_of_semC (c1)) rfl rfl ?_) | (refine g_call3 rfl (fun _ h => h) rfl (semR_of_semC (c2)) rfl rfl ?_) | (refine g_call3 rfl (fun _ h => h) rfl (semR_of_semC (c3)) rfl rfl ?_) | (refine n_guard rfl rfl (fun h => ?_) rfl (fun h => ?_); all_goals ((try simp only [pl] at h); (try (exfalso; omega)))) | (refine c_cond rfl (fun h => ?_) (fun h => ?_); all_goals ((try simp only [pl] at h); (try (exfalso; omega)))) | skip))))
  refine go0 ?_
  exact congrArg (MV.int .i64) (by subst hr; (repeat (first | rw [if_pos (by omega)] | rw [if_neg (by omega)])); first | rfl | omega)
 rcases Nat.lt_or_ge x.toNat 194 with g2 | g2
 ·
  clear l1 f1
  refine scq seat Tryz.func16 109 ?_
  (iterate 12 ((all_goals (refine go1 ?_)); (all_goals (first | (refine g_call3 rfl (fun _ h => h) rfl (semR_of_semC (c1)) rfl rfl ?_) | (refine g_call3 rfl (fun _ h => h) rfl (semR_of_semC (c2)) rfl rfl ?_) | (refine g_call3 rfl (fun _ h => h) rfl (semR_of_semC (c3)) rfl rfl ?_) | (refine n_guard rfl rfl (fun h => ?_) rfl (fun h => ?_); all_goals ((try simp only [pl] at h); (try (exfalso; omega)))) | (refine c_cond rfl (fun h => ?_) (fun h => ?_); all_goals ((try simp only [pl] at h); (try (exfalso; omega)))) | skip))))
  refine go0 ?_
  exact congrArg (MV.int .i64) (by subst hr; (repeat (first | rw [if_pos (by omega)] | rw [if_neg (by omega)])); first | rfl | omega)
 rcases Nat.lt_or_ge x.toNat 224 with g3 | g3
 ·cases b1 with
  | false =>
   simp only [Bool.false_eq_true, and_false, and_true, false_and, true_and, if_false] at hr
   clear l1 f1
   refine scq seat Tryz.func16 109 ?_
   (iterate 12 ((all_goals (refine go1 ?_)); (all_goals (first | (refine g_call3 rfl (fun _ h => h) rfl (semR_of_semC (c1)) rfl rfl ?_) | (refine g_call3 rfl (fun _ h => h) rfl (semR_of_semC (c2)) rfl rfl ?_) | (refine g_call3 rfl (fun _ h => h) rfl (semR_of_semC (c3)) rfl rfl ?_) | (refine n_guard rfl rfl (fun h => ?_) rfl (fun h => ?_); all_goals ((try simp only [pl] at h); (try (exfalso; omega)))) | (refine c_cond rfl (fun h => ?_) (fun h => ?_); all_goals ((try simp only [pl] at h); (try (exfalso; omega)))) | skip))))
   refine go0 ?_
   exact congrArg (MV.int .i64) (by subst hr; (repeat (first | rw [if_pos (by omega)] | rw [if_neg (by omega)])); first | rfl | omega)
  | true =>
   rw [if_neg (by omega), if_pos ⟨by omega, by omega, rfl⟩] at hr
   clear l1 f1
   refine scq seat Tryz.func16 109 ?_
   (iterate 12 ((all_goals (refine go1 ?_)); (all_goals (first | (refine g_call3 rfl (fun _ h => h) rfl (semR_of_semC (c1)) rfl rfl ?_) | (refine g_call3 rfl (fun _ h => h) rfl (semR_of_semC (c2)) rfl rfl ?_) | (refine g_call3 rfl (fun _ h => h) rfl (semR_of_semC (c3)) rfl rfl ?_) | (refine n_guard rfl rfl (fun h => ?_) rfl (fun h => ?_); all_goals ((try simp only [pl] at h); (try (exfalso; omega)))) | (refine c_cond rfl (fun h => ?_) (fun h => ?_); all_goals ((try simp only [pl] at h); (try (exfalso; omega)))) | skip))))
   refine go0 ?_
   exact congrArg (MV.int .i64) (by subst hr; (repeat (first | rw [if_pos (by omega)] | rw [if_neg (by omega)])); first | rfl | omega)
 rw [if_neg (by omega), if_neg (by omega)] at hr
 rcases Nat.lt_or_ge x.toNat 240 with g4 | g4
 ·cases b1 with
  | false =>
   simp only [Bool.false_eq_true, and_false, and_true, false_and, true_and, if_false] at hr
   clear l1 f1
   refine scq seat Tryz.func16 109 ?_
   (iterate 12 ((all_goals (refine go1 ?_)); (all_goals (first | (refine g_call3 rfl (fun _ h => h) rfl (semR_of_semC (c1)) rfl rfl ?_) | (refine g_call3 rfl (fun _ h => h) rfl (semR_of_semC (c2)) rfl rfl ?_) | (refine g_call3 rfl (fun _ h => h) rfl (semR_of_semC (c3)) rfl rfl ?_) | (refine n_guard rfl rfl (fun h => ?_) rfl (fun h => ?_); all_goals ((try simp only [pl] at h); (try (exfalso; omega)))) | (refine c_cond rfl (fun h => ?_) (fun h => ?_); all_goals ((try simp only [pl] at h); (try (exfalso; omega)))) | skip))))
   refine go0 ?_
   exact congrArg (MV.int .i64) (by subst hr; (repeat (first | rw [if_pos (by omega)] | rw [if_neg (by omega)])); first | rfl | omega)
  | true =>
   cases b2 with
   | false =>
    simp only [Bool.false_eq_true, and_false, and_true, false_and, true_and, if_false] at hr
    clear l1 f1
    refine scq seat Tryz.func16 109 ?_
    (iterate 12 ((all_goals (refine go1 ?_)); (all_goals (first | (refine g_call3 rfl (fun _ h => h) rfl (semR_of_semC (c1)) rfl rfl ?_) | (refine g_call3 rfl (fun _ h => h) rfl (semR_of_semC (c2)) rfl rfl ?_) | (refine g_call3 rfl (fun _ h => h) rfl (semR_of_semC (c3)) rfl rfl ?_) | (refine n_guard rfl rfl (fun h => ?_) rfl (fun h => ?_); all_goals ((try simp only [pl] at h); (try (exfalso; omega)))) | (refine c_cond rfl (fun h => ?_) (fun h => ?_); all_goals ((try simp only [pl] at h); (try (exfalso; omega)))) | skip))))
    refine go0 ?_
    exact congrArg (MV.int .i64) (by subst hr; (repeat (first | rw [if_pos (by omega)] | rw [if_neg (by omega)])); first | rfl | omega)
   | true =>
    have f1 := SomF.mk (f1 (l1 rfl))
    rw [if_pos ⟨by omega, by omega, rfl, rfl⟩] at hr
    refine scq seat Tryz.func16 109 ?_
    (iterate 20 ((all_goals (refine go1 ?_)); (all_goals (first | (refine g_call3 rfl (fun _ h => h) rfl (semR_of_semC (c1)) rfl rfl ?_) | (refine g_call3 rfl (fun _ h => h) rfl (semR_of_semC (c2)) rfl rfl ?_) | (refine g_call3 rfl (fun _ h => h) rfl (semR_of_semC (c3)) rfl rfl ?_) | (refine n_guard rfl rfl (fun h => ?_) rfl (fun h => ?_); all_goals ((try simp only [pl] at h); (try (exfalso; omega)))) | (refine c_cond rfl (fun h => ?_) (fun h => ?_); all_goals ((try simp only [pl] at h); (try (exfalso; omega)))) | skip))))
    all_goals (refine go0 ?_; exact congrArg (MV.int .i64) (by subst hr; (repeat (first | rw [if_pos (by omega)] | rw [if_neg (by omega)])); first | rfl | omega))
 rw [if_neg (by omega)] at hr
 rcases Nat.lt_or_ge x.toNat 245 with g5 | g5
 ·cases b1 with
  | false =>
   simp only [Bool.false_eq_true, and_false, and_true, false_and, true_and, if_false] at hr
   clear l1 f1
   refine scq seat Tryz.func16 109 ?_
   (iterate 12 ((all_goals (refine go1 ?_)); (all_goals (first | (refine g_call3 rfl (fun _ h => h) rfl (semR_of_semC (c1)) rfl rfl ?_) | (refine g_call3 rfl (fun _ h => h) rfl (semR_of_semC (c2)) rfl rfl ?_) | (refine g_call3 rfl (fun _ h => h) rfl (semR_of_semC (c3)) rfl rfl ?_) | (refine n_guard rfl rfl (fun h => ?_) rfl (fun h => ?_); all_goals ((try simp only [pl] at h); (try (exfalso; omega)))) | (refine c_cond rfl (fun h => ?_) (fun h => ?_); all_goals ((try simp only [pl] at h); (try (exfalso; omega)))) | skip))))
   refine go0 ?_
   exact congrArg (MV.int .i64) (by subst hr; (repeat (first | rw [if_pos (by omega)] | rw [if_neg (by omega)])); first | rfl | omega)
  | true =>
   cases b2 with
   | false =>
    simp only [Bool.false_eq_true, and_false, and_true, false_and, true_and, if_false] at hr
    clear l1 f1
    refine scq seat Tryz.func16 109 ?_
    (iterate 12 ((all_goals (refine go1 ?_)); (all_goals (first | (refine g_call3 rfl (fun _ h => h) rfl (semR_of_semC (c1)) rfl rfl ?_) | (refine g_call3 rfl (fun _ h => h) rfl (semR_of_semC (c2)) rfl rfl ?_) | (refine g_call3 rfl (fun _ h => h) rfl (semR_of_semC (c3)) rfl rfl ?_) | (refine n_guard rfl rfl (fun h => ?_) rfl (fun h => ?_); all_goals ((try simp only [pl] at h); (try (exfalso; omega)))) | (refine c_cond rfl (fun h => ?_) (fun h => ?_); all_goals ((try simp only [pl] at h); (try (exfalso; omega)))) | skip))))
    refine go0 ?_
    exact congrArg (MV.int .i64) (by subst hr; (repeat (first | rw [if_pos (by omega)] | rw [if_neg (by omega)])); first | rfl | omega)
   | true =>
    cases b3 with
    | false =>
     simp only [Bool.false_eq_true, and_false, and_true, false_and, true_and, if_false] at hr
     clear l1 f1
     refine scq seat Tryz.func16 109 ?_
     (iterate 12 ((all_goals (refine go1 ?_)); (all_goals (first | (refine g_call3 rfl (fun _ h => h) rfl (semR_of_semC (c1)) rfl rfl ?_) | (refine g_call3 rfl (fun _ h => h) rfl (semR_of_semC (c2)) rfl rfl ?_) | (refine g_call3 rfl (fun _ h => h) rfl (semR_of_semC (c3)) rfl rfl ?_) | (refine n_guard rfl rfl (fun h => ?_) rfl (fun h => ?_); all_goals ((try simp only [pl] at h); (try (exfalso; omega)))) | (refine c_cond rfl (fun h => ?_) (fun h => ?_); all_goals ((try simp only [pl] at h); (try (exfalso; omega)))) | skip))))
     refine go0 ?_
     exact congrArg (MV.int .i64) (by subst hr; (repeat (first | rw [if_pos (by omega)] | rw [if_neg (by omega)])); first | rfl | omega)
    | true =>
     have f1 := SomF.mk (f1 (l1 rfl))
     rw [if_pos ⟨by omega, by omega, rfl, rfl, rfl⟩] at hr
     refine scq seat Tryz.func16 109 ?_
     (iterate 24 ((all_goals (refine go1 ?_)); (all_goals (first | (refine g_call3 rfl (fun _ h => h) rfl (semR_of_semC (c1)) rfl rfl ?_) | (refine g_call3 rfl (fun _ h => h) rfl (semR_of_semC (c2)) rfl rfl ?_) | (refine g_call3 rfl (fun _ h => h) rfl (semR_of_semC (c3)) rfl rfl ?_) | (refine n_guard rfl rfl (fun h => ?_) rfl (fun h => ?_); all_goals ((try simp only [pl] at h); (try (exfalso; omega)))) | (refine c_cond rfl (fun h => ?_) (fun h => ?_); all_goals ((try simp only [pl] at h); (try (exfalso; omega)))) | skip))))
     all_goals (refine go0 ?_; exact congrArg (MV.int .i64) (by subst hr; (repeat (first | rw [if_pos (by omega)] | rw [if_neg (by omega)])); first | rfl | omega))
 ·rw [if_neg (by omega)] at hr
  clear l1 f1
  refine scq seat Tryz.func16 109 ?_
  (iterate 12 ((all_goals (refine go1 ?_)); (all_goals (first | (refine g_call3 rfl (fun _ h => h) rfl (semR_of_semC (c1)) rfl rfl ?_) | (refine g_call3 rfl (fun _ h => h) rfl (semR_of_semC (c2)) rfl rfl ?_) | (refine g_call3 rfl (fun _ h => h) rfl (semR_of_semC (c3)) rfl rfl ?_) | (refine n_guard rfl rfl (fun h => ?_) rfl (fun h => ?_); all_goals ((try simp only [pl] at h); (try (exfalso; omega)))) | (refine c_cond rfl (fun h => ?_) (fun h => ?_); all_goals ((try simp only [pl] at h); (try (exfalso; omega)))) | skip))))
  refine go0 ?_
  exact congrArg (MV.int .i64) (by subst hr; (repeat (first | rw [if_pos (by omega)] | rw [if_neg (by omega)])); first | rfl | omega)
end
section
def SemX (Pg : Program) (G : GS) (f : FuncId) (args : List MV) (P : MV → Prop) : Prop := SemE Pg G f args [] 0 fun r M n => (P r ∧ nfree r = true) ∧ M = [] ∧ n = 0
section
variable {Pg : Program} {T : Tab} {N : Nat} {ents : List FuncId} {G : GS} {ops : Array Oper} {d : Tmp} {ty : TypeId} {pos : String} {after : Array Edge} {g : Option (Nat × Bool)} {rest : List Oper} {K : VK} {E : VE} {M : VM} {n : Nat}
 {f : Operand} {args : Array Operand} {ats : Array TypeId} {f0 : FuncId} {vs : List MV}
theorem g_callX1 (hd : Nat.blt d N = true) (h1 : ∀ R : FuncId × List MV → Prop, R (f0, vs) → (vArgs E f args.toList).runP R) (h2 : ents.contains f0 = true) {args' : List MV} {P : MV → Prop} (hc : SemX Pg G f0 args' P) (bs : List (Nat × Nat)) (hb : okB M bs)
  (hm : relV.relVs (sigA 0 []) (fzb M bs) args' vs) (h : ∀ r, P r → vOpsN Pg T N ents G ops rest K ((d, r) :: E) (VM.bump M bs) n) : vOpsG Pg T N ents G ops ⟨some d, .call ⟨.value f, args, ats⟩, ty, pos, after, g⟩ rest K E M n := by
 refine g_callE1 hd h1 h2 hc [] bs ⟨rfl, hb, rfl, hm, trivial⟩ rfl ?_
 rintro r _ _ ⟨⟨hP, hf⟩, rfl, rfl⟩
 refine ⟨rfl, ?_⟩
 rw [renV_nfree r hf]
 exact h r hP
end
end
section
variable {G : GS}
attribute [local irreducible] vOpsN vOpsG vOpsD vOpGD NextD vC SeqQ BlockQ
def runesG : Nat → List UInt8 → Nat → Nat → Nat × Bool
 | 0, _, _, n => (n, true)
 | f + 1, s, i, n => if i < s.length then (if runeS s i = 0 then (0, false) else runesG f s (i + runeS s i) (n + 1)) else (n, true)
def runesS (s : List UInt8) : Nat × Bool := runesG s.length s 0 0
theorem runeS_le (s : List UInt8) (i : Nat) : runeS s i ≤ 4 := by
 unfold runeS
 repeat' split
 all_goals omega
theorem runes_m (s : List UInt8) (hs : s.length < 500000000) : SemC Tryz.prog G 11 [.str s] (.tup [.int .i64 (runesS s).1, .bool (runesS s).2]) := by
  generalize hr : runesS s = r
  unfold runesS at hr
  obtain ⟨r1, r2⟩ := r
  dsimp only
  refine scq seat Tryz.func11 22 ?_
  refine go1 ?_
  refine c_loop (Nat × Nat × Nat) (fun x => [(5, .int .i64 x.2.1), (4, .int .i64 x.2.2), (0, .str s)]) (fun _ => []) 0 (fun x => runesG x.1 s x.2.1 x.2.2 = (r1, r2) ∧ s.length ≤ x.2.1 + x.1 ∧ x.2.1 ≤ s.length + 4 ∧ x.2.2 + x.1 ≤ s.length) (fun x => x.1) (s.length, 0, 0) ⟨hr, by dsimp only; omega, by dsimp only; omega, by dsimp only; omega⟩ (by dsimp only; exact (vm [] [])) ?_
  rintro ⟨f, i, n⟩ ⟨hR, h1, h2, h3⟩
  try dsimp only
  dsimp only at hR h1 h2 h3
  refine go1 ?_
  refine c_cond rfl (fun h => ?_) (fun h => ?_)
  · have hi : i < s.length := by have := of_decide_eq_true h; omega
    have c1 := rune_m (G := G) s i (by omega) hi
    have hk := runeS_le s i
    match f, hR, h1, h3 with
    | 0, hR, h1, h3 => exfalso; omega
    | f + 1, hR, h1, h3 =>
    rw [runesG, if_pos hi] at hR
    generalize runeS s i = k at *
    refine go1 ?_
    refine yv (c1) ?_
    refine go1 ?_
    refine c_cond rfl (fun h => ?_) (fun h => ?_)
    · have hk0 : k = 0 := by have : (k : Int) = 0 := by simpa using h
                             omega
      rw [if_pos hk0] at hR
      simp only [Prod.mk.injEq] at hR
      obtain ⟨rfl, rfl⟩ := hR
      refine go1 ?_
      refine go0 ?_
      rfl
    · have hk0 : k ≠ 0 := by have : ¬ (k : Int) = 0 := by simpa using h
                             omega
      rw [if_neg hk0] at hR
      refine go1 ?_
      exact ⟨(f, i + k, n + 1), ⟨hR, by dsimp only; omega, by dsimp only; omega, by dsimp only; omega⟩, by show f < f + 1; omega, (by dsimp only; exact (vm [] []))⟩
  · have hi : ¬ i < s.length := by have := of_decide_eq_false h; omega
    have : runesG f s i n = (n, true) := by cases f with | zero => rfl | succ f => rw [runesG, if_neg hi]
    rw [this] at hR
    simp only [Prod.mk.injEq] at hR
    obtain ⟨rfl, rfl⟩ := hR
    refine go1 ?_
    refine go0 ?_
    rfl
end
end Go.Proofs.YtbiaaogbohfimaaGreatDoor
namespace Go.Proofs
open Go.Shelf
def Tryz.lays137_ren : Go.Shelf.Ren := ⟨fun | 137 => 35 | 217 => 55 | 266 => 102 | n => n, fun | 9 => 9 | 5 => 5 | 3 => 3 | n => n, fun | n => n⟩
theorem Tryz.lays137 : Go.Proofs.Lays.n137 Tryz.prog Tryz.lays137_ren := {
 mixed := by kernel_rfl
 f137 := Tryz.func35.trans (congrArg some (by kernel_rfl))
 f217 := Tryz.func55.trans (congrArg some (by kernel_rfl))
 f266 := Tryz.func102.trans (congrArg some (by kernel_rfl))
 t3 := Tryz.underlying3
 a3 := Tryz.isAgg3
 z3 := Tryz.sizeOf3
 v3 := Tryz.zeroValue3
 t5 := Tryz.underlying5
 a5 := Tryz.isAgg5
 z5 := Tryz.sizeOf5
 v5 := Tryz.zeroValue5
 t9 := Tryz.underlying9
 a9 := Tryz.isAgg9
 z9 := Tryz.sizeOf9
 v9 := Tryz.zeroValue9 }
open Go.RowKit in
theorem Tryz.strings_IndexByte (s : ByteArray) (c : Int) (w : World) :
  Calls Tryz.prog 35 #[.string s, .int .u8 c] w fun e w' => e = .returned (.int .i64 (Lib.indexByte s.data.toList c.toNat.toUInt8)) ∧ w' = w := Any.strings_IndexByte Tryz.lays137 s c w
def Tryz.lays217_ren : Go.Shelf.Ren := ⟨fun | 217 => 55 | 266 => 102 | n => n, fun | 9 => 9 | 5 => 5 | 3 => 3 | n => n, fun | n => n⟩
theorem Tryz.lays217 : Go.Proofs.Lays.n217 Tryz.prog Tryz.lays217_ren := {
 mixed := by kernel_rfl
 f217 := Tryz.func55.trans (congrArg some (by kernel_rfl))
 f266 := Tryz.func102.trans (congrArg some (by kernel_rfl))
 t3 := Tryz.underlying3
 a3 := Tryz.isAgg3
 z3 := Tryz.sizeOf3
 v3 := Tryz.zeroValue3
 t5 := Tryz.underlying5
 a5 := Tryz.isAgg5
 z5 := Tryz.sizeOf5
 v5 := Tryz.zeroValue5
 t9 := Tryz.underlying9
 a9 := Tryz.isAgg9
 z9 := Tryz.sizeOf9
 v9 := Tryz.zeroValue9 }
open Go.RowKit Go.Lib in
theorem Tryz.stringslite_IndexByte (s : ByteArray) (c : Int) (w : World) :
  Calls Tryz.prog 55 #[.string s, .int .u8 c] w fun e w' => e = .returned (.int .i64 (Lib.indexByte s.data.toList c.toNat.toUInt8)) ∧ w' = w := Any.stringslite_IndexByte Tryz.lays217 s c w
def Tryz.lays260_ren : Go.Shelf.Ren := ⟨fun | 260 => 33 | n => n, fun | 9 => 9 | 21 => 21 | 3 => 3 | 4 => 4 | 5 => 5 | 119 => 133 | 0 => 0 | 46 => 134 | 139 => 137 | 138 => 136 | n => n, fun | 3 => 0 | 4 => 1 | n => n⟩
theorem Tryz.lays260 : Go.Proofs.Lays.n260 Tryz.prog Tryz.lays260_ren := {
 mixed := by kernel_rfl
 f260 := Tryz.func33.trans (congrArg some (by kernel_rfl))
 t0 := Tryz.underlying0
 a0 := Tryz.isAgg0
 z0 := Tryz.sizeOf0
 v0 := Tryz.zeroValue0
 t3 := Tryz.underlying3
 a3 := Tryz.isAgg3
 z3 := Tryz.sizeOf3
 v3 := Tryz.zeroValue3
 t4 := Tryz.underlying4
 a4 := Tryz.isAgg4
 z4 := Tryz.sizeOf4
 v4 := Tryz.zeroValue4
 t5 := Tryz.underlying5
 a5 := Tryz.isAgg5
 z5 := Tryz.sizeOf5
 v5 := Tryz.zeroValue5
 t9 := Tryz.underlying9
 a9 := Tryz.isAgg9
 z9 := Tryz.sizeOf9
 v9 := Tryz.zeroValue9
 t21 := Tryz.underlying21
 a21 := Tryz.isAgg21
 z21 := Tryz.sizeOf21
 v21 := Tryz.zeroValue21
 t46 := Tryz.underlying134
 a46 := Tryz.isAgg134
 z46 := Tryz.sizeOf134
 v46 := Tryz.zeroValue134
 t119 := Tryz.underlying133
 a119 := Tryz.isAgg133
 z119 := Tryz.sizeOf133
 t138 := Tryz.underlying136
 a138 := Tryz.isAgg136
 z138 := Tryz.sizeOf136
 v138 := Tryz.zeroValue136
 t139 := Tryz.underlying137
 a139 := Tryz.isAgg137
 z139 := Tryz.sizeOf137
 v139 := Tryz.zeroValue137
 g3 := by kernel_rfl
 g4 := by kernel_rfl }
def Tryz.lays197_ren : Go.Shelf.Ren := ⟨fun | 197 => 18 | 260 => 33 | n => n, fun | 9 => 9 | 21 => 21 | 3 => 3 | 4 => 4 | 5 => 5 | 105 => 50 | 119 => 133 | 0 => 0 | 46 => 134 | 139 => 137 | 138 => 136 | n => n, fun | 3 => 0 | 4 => 1 | n => n⟩
theorem Tryz.lays197 : Go.Proofs.Lays.n197 Tryz.prog Tryz.lays197_ren := {
 mixed := by kernel_rfl
 f197 := Tryz.func18.trans (congrArg some (by kernel_rfl))
 f260 := Tryz.func33.trans (congrArg some (by kernel_rfl))
 t0 := Tryz.underlying0
 a0 := Tryz.isAgg0
 z0 := Tryz.sizeOf0
 v0 := Tryz.zeroValue0
 t3 := Tryz.underlying3
 a3 := Tryz.isAgg3
 z3 := Tryz.sizeOf3
 v3 := Tryz.zeroValue3
 t4 := Tryz.underlying4
 a4 := Tryz.isAgg4
 z4 := Tryz.sizeOf4
 v4 := Tryz.zeroValue4
 t5 := Tryz.underlying5
 a5 := Tryz.isAgg5
 z5 := Tryz.sizeOf5
 v5 := Tryz.zeroValue5
 t9 := Tryz.underlying9
 a9 := Tryz.isAgg9
 z9 := Tryz.sizeOf9
 v9 := Tryz.zeroValue9
 t21 := Tryz.underlying21
 a21 := Tryz.isAgg21
 z21 := Tryz.sizeOf21
 v21 := Tryz.zeroValue21
 t46 := Tryz.underlying134
 a46 := Tryz.isAgg134
 z46 := Tryz.sizeOf134
 v46 := Tryz.zeroValue134
 t105 := Tryz.underlying50
 a105 := Tryz.isAgg50
 z105 := Tryz.sizeOf50
 v105 := Tryz.zeroValue50
 t119 := Tryz.underlying133
 a119 := Tryz.isAgg133
 z119 := Tryz.sizeOf133
 t138 := Tryz.underlying136
 a138 := Tryz.isAgg136
 z138 := Tryz.sizeOf136
 v138 := Tryz.zeroValue136
 t139 := Tryz.underlying137
 a139 := Tryz.isAgg137
 z139 := Tryz.sizeOf137
 v139 := Tryz.zeroValue137
 g3 := by kernel_rfl
 g4 := by kernel_rfl }
open Go.RowKit Go.Lib in
theorem Tryz.utf8_DecodeRuneInString (s : ByteArray) (w : World) (hT : Lib.Utf8Tabs 0 1 w) :
  Calls Tryz.prog 18 #[.string s] w fun e w' => e = .returned (.tuple #[.int .i32 (Lib.decodeGo s).1, .int .i64 (Lib.decodeGo s).2]) ∧ Below w.heap.size w w' := Any.utf8_DecodeRuneInString Tryz.lays197 s w hT
end Go.Proofs
namespace Go.Proofs.YtbiaaogbohfimaaGreatDoor
open Go.RowKit
section
def LU (g : Nat) : Prop := g = 0 ∨ g = 1
def UtfOK (w : World) : Prop := Lib.Utf8Tabs 0 1 w
theorem UtfOK.same {w w' : World} (h : UtfOK w) (hs : ∀ g, LU g → w'.heap[g]? = w.heap[g]?) : UtfOK w' :=
 ⟨fun c hc => (cell_same (hs _ (.inl rfl))).trans (h.1 c hc), fun i hi => ⟨(cell_same (hs _ (.inr rfl))).trans (h.2 i hi).1, (cell_same (hs _ (.inr rfl))).trans (h.2 i hi).2⟩⟩
theorem UtfOK.lt {w : World} (h : UtfOK w) {g : Nat} (hg : LU g) : g < w.heap.size := by
 rcases hg with rfl | rfl
 ·exact World.block_lt_of_cell? _ _ (h.1 0 (by omega))
 ·exact World.block_lt_of_cell? _ _ (h.2 0 (by omega)).1
def GU : GS := ⟨UtfOK, LU, fun _ _ h hg => h.lt hg, fun _ _ _ h hx hs => h.same fun _ hg => hs.block _ (h.lt hg) (fun e => hx _ e hg)⟩
theorem decGo_s (s : List UInt8) : SemC Tryz.prog GU 18 [.str s] (.tup [.int .i32 (Lib.decodeGo ⟨s.toArray⟩).1, .int .i64 (Lib.decodeGo ⟨s.toArray⟩).2]) := by
 intro w P vals hg hP hargs
 cases hargs with
 | cons h t =>
  cases t with
  | nil =>
   obtain rfl := h.str_
   refine (Tryz.utf8_DecodeRuneInString ⟨s.toArray⟩ w hg).mono ?_
   rintro e w' ⟨rfl, hb⟩
   refine ⟨_, rfl, .tup [.int .i32 (Lib.decodeGo ⟨s.toArray⟩).1, .int .i64 (Lib.decodeGo ⟨s.toArray⟩).2] rfl fun j m u hm hu => ?_, hb⟩
   match j with
   | 0 => simp at hm hu; subst hm hu; exact ⟨_, .int, rfl⟩
   | 1 => simp at hm hu; subst hm hu; exact ⟨_, .int, rfl⟩
   | j + 2 => simp at hm
def runeN (n b0 b1 b2 b3 : Nat) : Nat :=
 if b0 < 128 then 1 else
 if 194 ≤ b0 ∧ b0 < 224 ∧ (1 < n ∧ 128 ≤ b1 ∧ b1 < 192) then 2 else
 if 224 ≤ b0 ∧ b0 < 240 ∧ (1 < n ∧ 128 ≤ b1 ∧ b1 < 192) ∧ (2 < n ∧ 128 ≤ b2 ∧ b2 < 192) then
  (if b0 = 224 ∧ b1 < 160 ∨ b0 = 237 ∧ 160 ≤ b1 then 0 else 3) else
 if 240 ≤ b0 ∧ b0 < 245 ∧ (1 < n ∧ 128 ≤ b1 ∧ b1 < 192) ∧ (2 < n ∧ 128 ≤ b2 ∧ b2 < 192) ∧ (3 < n ∧ 128 ≤ b3 ∧ b3 < 192) then
  (if b0 = 240 ∧ b1 < 144 ∨ b0 = 244 ∧ 144 ≤ b1 then 0 else 4) else 0
theorem decN_rune (n b0 b1 b2 b3 : Nat) (h0 : b0 < 256) (h1 : b1 < 256) (h2 : b2 < 256) (h3 : b3 < 256) :
  (runeN n b0 b1 b2 b3 = 0 → Lib.decodeN n b0 b1 b2 b3 = (65533, 1)) ∧ (runeN n b0 b1 b2 b3 ≠ 0 → (Lib.decodeN n b0 b1 b2 b3).2 = runeN n b0 b1 b2 b3 ∧ ¬ ((Lib.decodeN n b0 b1 b2 b3).1 = 65533 ∧ (Lib.decodeN n b0 b1 b2 b3).2 = 1)) := by
 have key : ∀ (r : Nat) (d : Nat × Nat), runeN n b0 b1 b2 b3 = r → Lib.decodeN n b0 b1 b2 b3 = d → (r = 0 → d = (65533, 1)) → (r ≠ 0 → d.2 = r ∧ ¬ (d.1 = 65533 ∧ d.2 = 1)) → (runeN n b0 b1 b2 b3 = 0 → Lib.decodeN n b0 b1 b2 b3 = (65533, 1)) ∧ (runeN n b0 b1 b2 b3 ≠ 0 → (Lib.decodeN n b0 b1 b2 b3).2 = runeN n b0 b1 b2 b3 ∧ ¬ ((Lib.decodeN n b0 b1 b2 b3).1 = 65533 ∧ (Lib.decodeN n b0 b1 b2 b3).2 = 1)) := by
  intro r d e1 e2 e3 e4
  rw [e1, e2]
  exact ⟨e3, e4⟩
 have bad : runeN n b0 b1 b2 b3 = 0 → Lib.decodeN n b0 b1 b2 b3 = (65533, 1) → _ := fun e1 e2 => key 0 _ e1 e2 (fun _ => rfl) (fun h => absurd rfl h)
 by_cases a0 : b0 < 128
 ·refine key 1 (b0, 1) (by unfold runeN; rw [if_pos a0]) (by unfold Lib.decodeN; rw [if_pos a0]) (fun h => by cases h) (fun _ => ⟨rfl, by dsimp only; omega⟩)
 by_cases a1 : b0 < 224
 ·by_cases c1 : 194 ≤ b0 ∧ 1 < n ∧ b1 / 64 = 2
  ·refine key 2 (b0 % 32 * 64 + b1 % 64, 2) ?_ ?_ (fun h => by cases h) (fun _ => ⟨rfl, by dsimp only; omega⟩)
   ·unfold runeN
    (repeat (first | rw [if_pos (by omega)] | rw [if_neg (by omega)]))
   ·unfold Lib.decodeN
    (repeat (first | rw [if_pos (by omega)] | rw [if_neg (by omega)]))
  ·refine bad ?_ ?_
   ·unfold runeN
    (repeat (first | rw [if_pos (by omega)] | rw [if_neg (by omega)]))
   ·unfold Lib.decodeN
    by_cases c2 : b0 / 32 = 6 ∧ 1 < n ∧ b1 / 64 = 2
    ·(repeat (first | rw [if_pos (by omega)] | rw [if_neg (by omega)]))
    ·(repeat (first | rw [if_pos (by omega)] | rw [if_neg (by omega)]))
 by_cases a2 : b0 < 240
 ·by_cases c1 : (1 < n ∧ b1 / 64 = 2) ∧ 2 < n ∧ b2 / 64 = 2
  ·by_cases c2 : b0 = 224 ∧ b1 < 160 ∨ b0 = 237 ∧ 160 ≤ b1
   ·refine bad ?_ ?_
    ·unfold runeN
     (repeat (first | rw [if_pos (by omega)] | rw [if_neg (by omega)]))
    ·unfold Lib.decodeN
     (repeat (first | rw [if_pos (by omega)] | rw [if_neg (by omega)]))
   ·refine key 3 (b0 % 16 * 4096 + b1 % 64 * 64 + b2 % 64, 3) ?_ ?_ (fun h => by cases h) (fun _ => ⟨rfl, by dsimp only; omega⟩)
    ·unfold runeN
     (repeat (first | rw [if_pos (by omega)] | rw [if_neg (by omega)]))
    ·unfold Lib.decodeN
     (repeat (first | rw [if_pos (by omega)] | rw [if_neg (by omega)]))
  ·refine bad ?_ ?_
   ·unfold runeN
    (repeat (first | rw [if_pos (by omega)] | rw [if_neg (by omega)]))
   ·unfold Lib.decodeN
    (repeat (first | rw [if_pos (by omega)] | rw [if_neg (by omega)]))
 by_cases c1 : (1 < n ∧ b1 / 64 = 2) ∧ (2 < n ∧ b2 / 64 = 2) ∧ 3 < n ∧ b3 / 64 = 2
 ·by_cases c2 : b0 < 245 ∧ ¬ (b0 = 240 ∧ b1 < 144 ∨ b0 = 244 ∧ 144 ≤ b1)
  ·refine key 4 (b0 % 8 * 262144 + b1 % 64 * 4096 + b2 % 64 * 64 + b3 % 64, 4) ?_ ?_ (fun h => by cases h) (fun _ => ⟨rfl, by dsimp only; omega⟩)
   ·unfold runeN
    (repeat (first | rw [if_pos (by omega)] | rw [if_neg (by omega)]))
   ·unfold Lib.decodeN
    (repeat (first | rw [if_pos (by omega)] | rw [if_neg (by omega)]))
  ·refine bad ?_ ?_
   ·unfold runeN
    by_cases c3 : b0 < 245
    ·(repeat (first | rw [if_pos (by omega)] | rw [if_neg (by omega)]))
    ·(repeat (first | rw [if_pos (by omega)] | rw [if_neg (by omega)]))
   ·unfold Lib.decodeN
    by_cases c3 : b0 / 8 = 30
    ·(repeat (first | rw [if_pos (by omega)] | rw [if_neg (by omega)]))
    ·(repeat (first | rw [if_pos (by omega)] | rw [if_neg (by omega)]))
 ·refine bad ?_ ?_
  ·unfold runeN
   (repeat (first | rw [if_pos (by omega)] | rw [if_neg (by omega)]))
  ·unfold Lib.decodeN
   (repeat (first | rw [if_pos (by omega)] | rw [if_neg (by omega)]))
theorem get_b (s : List UInt8) (i : Nat) : (⟨s.toArray⟩ : ByteArray).get! i = s.getD i 0 := by
 show s.toArray[i]! = _
 rw [Array.getElem!_eq_getD, Array.getD_eq_getD_getElem?]
 simp [default]
theorem follow_iff {s : List UInt8} {i k : Nat} : followS s (i + k) = true ↔ (k < s.length - i ∧ 128 ≤ (s.getD (i + k) 0).toNat ∧ (s.getD (i + k) 0).toNat < 192) := by
 unfold followS
 simp only [Bool.and_eq_true, decide_eq_true_eq]
 omega
theorem runeS_N (s : List UInt8) (i : Nat) : runeS s i = runeN (s.length - i) (s.getD i 0).toNat (s.getD (i + 1) 0).toNat (s.getD (i + 2) 0).toNat (s.getD (i + 3) 0).toNat := by
 unfold runeS runeN
 simp only [follow_iff]
theorem dec_at (s : List UInt8) (i : Nat) : Utf8.decode ⟨s.toArray⟩ i = Lib.decodeN (s.length - i) (s.getD i 0).toNat (s.getD (i + 1) 0).toNat (s.getD (i + 2) 0).toNat (s.getD (i + 3) 0).toNat := by
 rw [Lib.decode_at]
 simp only [get_b]
 rw [show (⟨s.toArray⟩ : ByteArray).size = s.length by simp [ByteArray.size]]
theorem decGo_drop {s : List UInt8} {i : Nat} (hi : i < s.length) : Lib.decodeGo ⟨(s.drop i).toArray⟩ = Utf8.decode ⟨s.toArray⟩ i := by
 have hsz : (⟨(s.drop i).toArray⟩ : ByteArray).size = s.length - i := by simp [ByteArray.size]
 unfold Lib.decodeGo
 rw [if_neg (by rw [hsz]; omega), dec_at, dec_at]
 simp only [List.length_drop, Nat.sub_zero, List.getD_eq_getElem?_getD, List.getElem?_drop, Nat.add_zero, Nat.zero_add]
theorem natOf_n (n : Nat) : natOf (n : Int) = some n := by unfold natOf; rw [if_pos (by omega)]; rfl
theorem nextS_y {s : List UInt8} {pos : Nat} (h : pos < s.length) : nextS s pos = some (Utf8.decode ⟨s.toArray⟩ pos) := by unfold nextS; rw [if_pos h]
theorem nextS_n {s : List UInt8} {pos : Nat} (h : ¬ pos < s.length) : nextS s pos = none := by unfold nextS; rw [if_neg h]
attribute [local irreducible] vOpsN vOpsG vOpsD vOpGD NextD vC SeqQ BlockQ
attribute [local irreducible] natOf nextS
end
section
theorem pos_ne {α : Type} : ∀ {l : List α}, l ≠ [] → 0 < l.length
 | [], h => absurd rfl h
 | _ :: _, _ => Nat.succ_pos _
def isRune (c : List UInt8) : Prop := c ≠ [] ∧ runeS c 0 = c.length
theorem runeS_drop (s : List UInt8) (i : Nat) : runeS s i = runeS (s.drop i) 0 := by
 rw [runeS_N, runeS_N]
 simp only [List.length_drop, Nat.sub_zero, List.getD_eq_getElem?_getD, List.getElem?_drop, Nat.add_zero, Nat.zero_add]
theorem runeN_ext {n m b0 b1 b2 b3 c1 c2 c3 k : Nat} (h : runeN n b0 b1 b2 b3 = k) (hk : k ≠ 0) (hm : k ≤ m) (h1 : 1 < k → c1 = b1) (h2 : 2 < k → c2 = b2) (h3 : 3 < k → c3 = b3) : runeN m b0 c1 c2 c3 = k := by
 unfold runeN at h
 split at h
 ·subst h
  unfold runeN
  rw [if_pos (by assumption)]
 split at h
 ·subst h
  unfold runeN
  have := h1 (by omega)
  rw [if_neg (by omega), if_pos (by omega)]
 split at h
 ·split at h
  ·exact absurd h.symm hk
  ·subst h
   unfold runeN
   have := h1 (by omega)
   have := h2 (by omega)
   rw [if_neg (by omega), if_neg (by omega), if_pos (by omega), if_neg (by omega)]
 split at h
 ·split at h
  ·exact absurd h.symm hk
  ·subst h
   unfold runeN
   have := h1 (by omega)
   have := h2 (by omega)
   have := h3 (by omega)
   rw [if_neg (by omega), if_neg (by omega), if_neg (by omega), if_pos (by omega), if_neg (by omega)]
 ·exact absurd h.symm hk
theorem runeN_le {n b0 b1 b2 b3 : Nat} (hn : 0 < n) : runeN n b0 b1 b2 b3 ≤ n := by
 unfold runeN
 repeat' split
 all_goals omega
theorem runeS_len {s : List UInt8} (hs : s ≠ []) : runeS s 0 ≤ s.length := by
 rw [runeS_N]
 exact runeN_le (by have := pos_ne hs; omega)
theorem runeS_lenI {s : List UInt8} {i : Nat} (hi : i < s.length) : i + runeS s i ≤ s.length := by
 have h := runeS_len (s := s.drop i) (by intro e; have := congrArg List.length e; simp at this; omega)
 rw [← runeS_drop, List.length_drop] at h
 omega
theorem runeS_same {s t : List UInt8} (h0 : runeS s 0 ≠ 0) (hl : runeS s 0 ≤ t.length) (h : ∀ j, j < runeS s 0 → t.getD j 0 = s.getD j 0) : runeS t 0 = runeS s 0 := by
 generalize hk : runeS s 0 = k at *
 rw [runeS_N] at hk
 rw [runeS_N]
 simp only [Nat.zero_add, Nat.sub_zero] at hk ⊢
 rw [h 0 (by omega)]
 exact runeN_ext hk h0 hl (fun q => by rw [h 1 q]) (fun q => by rw [h 2 q]) (fun q => by rw [h 3 q])
theorem rune_app {c r : List UInt8} (h : isRune c) : runeS (c ++ r) 0 = c.length := by
 have h0 := pos_ne h.1
 have e := h.2
 rw [← e]
 refine runeS_same (by omega) (by rw [e, List.length_append]; omega) fun j hj => ?_
 rw [e] at hj
 simp only [List.getD_eq_getElem?_getD]
 rw [List.getElem?_append_left hj]
theorem rune_take {s : List UInt8} (hs : s ≠ []) (h : runeS s 0 ≠ 0) : isRune (s.take (runeS s 0)) := by
 have hl := runeS_len hs
 have e : (s.take (runeS s 0)).length = runeS s 0 := by rw [List.length_take]; omega
 refine ⟨fun e2 => ?_, ?_⟩
 ·rw [e2] at e; simp at e; omega
 ·rw [e]
  refine runeS_same h (by omega) fun j hj => ?_
  simp only [List.getD_eq_getElem?_getD]
  rw [List.getElem?_take, if_pos hj]
theorem rune_first {c : List UInt8} (h : isRune c) (h1 : (c.getD 0 0).toNat < 128) : c.length = 1 := by
 rw [← h.2, runeS_N]
 unfold runeN
 rw [if_pos h1]
def fixG : Nat → List UInt8 → List (List UInt8)
 | 0, _ => []
 | f + 1, s => if s.length = 0 then [] else if runeS s 0 = 0 then [239, 191, 189] :: fixG f (s.drop 1) else s.take (runeS s 0) :: fixG f (s.drop (runeS s 0))
def fixS (s : List UInt8) : List (List UInt8) := fixG s.length s
theorem fffd_rune : isRune [239, 191, 189] := ⟨by simp, by decide +kernel⟩
theorem fixG_rune : ∀ (f : Nat) (s : List UInt8), ∀ c ∈ fixG f s, isRune c
 | 0, _, c, h => nomatch h
 | f + 1, s, c, h => by
  rw [fixG] at h
  split at h
  ·cases h
  ·rename_i h0
   have hs : s ≠ [] := fun e => h0 (by rw [e]; rfl)
   split at h
   ·rcases List.mem_cons.1 h with rfl | h
    ·exact fffd_rune
    ·exact fixG_rune f _ c h
   ·rename_i h1
    rcases List.mem_cons.1 h with rfl | h
    ·exact rune_take hs h1
    ·exact fixG_rune f _ c h
theorem fixS_rune (s : List UInt8) : ∀ c ∈ fixS s, isRune c := fixG_rune _ _
theorem fixG_more : ∀ (f : Nat) (s : List UInt8), s.length ≤ f → fixG f s = fixG s.length s
 | 0, s, h => by rw [show s.length = 0 by omega]
 | f + 1, s, h => by
  by_cases h0 : s.length = 0
  ·rw [fixG, if_pos h0, h0, fixG]
  ·obtain ⟨n, hn⟩ : ∃ n, s.length = n + 1 := ⟨s.length - 1, by omega⟩
   have hs : s ≠ [] := fun e => h0 (by rw [e]; rfl)
   rw [hn, fixG, fixG, if_neg h0, if_neg h0]
   by_cases h1 : runeS s 0 = 0
   ·rw [if_pos h1, if_pos h1, fixG_more f _ (by rw [List.length_drop]; omega), ← fixG_more n _ (by rw [List.length_drop]; omega)]
   ·rw [if_neg h1, if_neg h1, fixG_more f _ (by rw [List.length_drop]; omega), ← fixG_more n _ (by rw [List.length_drop]; omega)]
 termination_by f => f
theorem fixS_nil : fixS [] = [] := rfl
theorem fixS_bad {s : List UInt8} (hs : s ≠ []) (h : runeS s 0 = 0) : fixS s = [239, 191, 189] :: fixS (s.drop 1) := by
 have h0 := pos_ne hs
 obtain ⟨n, hn⟩ : ∃ n, s.length = n + 1 := ⟨s.length - 1, by omega⟩
 unfold fixS
 rw [hn, fixG, if_neg (by omega), if_pos h, fixG_more n _ (by rw [List.length_drop]; omega)]
theorem fixS_good {s : List UInt8} (hs : s ≠ []) (h : runeS s 0 ≠ 0) : fixS s = s.take (runeS s 0) :: fixS (s.drop (runeS s 0)) := by
 have h0 := pos_ne hs
 obtain ⟨n, hn⟩ : ∃ n, s.length = n + 1 := ⟨s.length - 1, by omega⟩
 unfold fixS
 rw [hn, fixG, if_neg (by omega), if_neg h, fixG_more n _ (by rw [List.length_drop]; omega)]
theorem fix_cons {c r : List UInt8} (h : isRune c) : fixS (c ++ r) = c :: fixS r := by
 have e := rune_app (r := r) h
 have h0 := pos_ne h.1
 rw [fixS_good (by simp [h.1]) (by omega), e, List.take_left, List.drop_left]
theorem fix_flat : ∀ {L : List (List UInt8)}, (∀ c ∈ L, isRune c) → fixS L.flatten = L
 | [], _ => rfl
 | c :: L, h => by
  rw [List.flatten_cons, fix_cons (h c (by simp)), fix_flat fun d hd => h d (by simp [hd])]
theorem runesG_flat : ∀ (f : Nat) (s : List UInt8) (i n : Nat) (L : List (List UInt8)), (∀ c ∈ L, isRune c) → s.drop i = L.flatten → (runesG f s i n).2 = true
 | 0, _, _, _, _, _, _ => rfl
 | f + 1, s, i, n, L, hL, h => by
  rw [runesG]
  by_cases hi : i < s.length
  ·rw [if_pos hi]
   match L, hL, h with
   | [], _, h =>
    have := congrArg List.length h
    simp at this
    omega
   | c :: L, hL, h =>
    have hc := hL c (by simp)
    have h0 := pos_ne hc.1
    have e : runeS s i = c.length := by rw [runeS_drop, h, List.flatten_cons]; exact rune_app hc
    rw [e, if_neg (by omega)]
    refine runesG_flat f s _ _ L (fun d hd => hL d (by simp [hd])) ?_
    rw [← List.drop_drop, h, List.flatten_cons, List.drop_left]
  ·rw [if_neg hi]
theorem runes_flat {L : List (List UInt8)} (h : ∀ c ∈ L, isRune c) : (runesS L.flatten).2 = true := runesG_flat _ _ _ _ L h rfl
theorem runesG_fix : ∀ (f : Nat) (s : List UInt8) (i n : Nat), s.length ≤ i + f → (runesG f s i n).2 = true → (fixS (s.drop i)).flatten = s.drop i
 | 0, s, i, n, hf, _ => by rw [List.drop_eq_nil_of_le (by omega)]; rfl
 | f + 1, s, i, n, hf, h => by
  by_cases hi : i < s.length
  ·rw [runesG, if_pos hi] at h
   by_cases h0 : runeS s i = 0
   ·rw [if_pos h0] at h; cases h
   ·rw [if_neg h0] at h
    have hne : s.drop i ≠ [] := by intro e; have := congrArg List.length e; simp at this; omega
    have e := runesG_fix f s _ _ (by omega) h
    rw [← List.drop_drop] at e
    rw [fixS_good hne (by rw [← runeS_drop]; exact h0), List.flatten_cons, ← runeS_drop, e, List.take_append_drop]
  ·rw [List.drop_eq_nil_of_le (by omega)]; rfl
theorem valid_fix {s : List UInt8} (h : (runesS s).2 = true) : (fixS s).flatten = s := runesG_fix s.length s 0 0 (by omega) h
def dgH (n : Nat) : UInt8 := if n < 10 then UInt8.ofNat (48 + n) else UInt8.ofNat (87 + n)
def hexS (n : Nat) : List UInt8 := if n < 16 then [dgH n] else [dgH (n / 16), dgH (n % 16)]
def quotedS (c : List UInt8) : List UInt8 :=
 if c = [34] ∨ c = [92] then 92 :: c else
 if c = [10] then [92, 110] else
 if c.length = 1 ∧ ((c.getD 0 0).toNat < 32 ∨ (c.getD 0 0).toNat = 127) then 92 :: 117 :: 123 :: (hexS (c.getD 0 0).toNat ++ [125]) else
 if c = [239, 191, 189] then [92, 117, 123, 102, 102, 102, 100, 125] else c
def quoteS (s : List UInt8) : List UInt8 := 34 :: ((fixS s).flatMap quotedS ++ [34])
def spS : List (List UInt8) := [[34], [92], [10], [239, 191, 189], [127], [0], [1], [2], [3], [4], [5], [6], [7], [8], [9], [10], [11], [12], [13], [14], [15], [16], [17], [18], [19], [20], [21], [22], [23], [24], [25], [26], [27], [28], [29], [30], [31]]
theorem sp_rune : ∀ c ∈ spS, isRune c := by
 have h : ∀ c ∈ spS, (decide (c ≠ []) && decide (runeS c 0 = c.length)) = true := by decide +kernel
 intro c hc
 have := h c hc
 rw [Bool.and_eq_true] at this
 exact ⟨of_decide_eq_true this.1, of_decide_eq_true this.2⟩
theorem sp_head : ∀ c ∈ spS, (quotedS c).getD 0 0 = 92 ∧ 2 ≤ (quotedS c).length := by decide +kernel
theorem sp_free : ∀ c ∈ spS, ∀ d ∈ spS, (quotedS c).isPrefixOf (quotedS d) = true → c = d := by decide +kernel
theorem sp_low {b : UInt8} (h : b.toNat < 32 ∨ b.toNat = 127 ∨ b.toNat = 34 ∨ b.toNat = 92) : [b] ∈ spS := by
 have key : ∀ n, n < 256 → (n < 32 ∨ n = 127 ∨ n = 34 ∨ n = 92) → [UInt8.ofNat n] ∈ spS := by decide +kernel
 have := key b.toNat (UInt8.toNat_lt b) h
 rwa [UInt8.ofNat_toNat] at this
theorem quoted_nsp {c : List UInt8} (hc : isRune c) (h : c ∉ spS) : quotedS c = c ∧ c.getD 0 0 ≠ 92 ∧ ∀ b ∈ c, 32 ≤ b.toNat ∧ b.toNat ≠ 127 := by
 have h34 : c ≠ [34] := fun e => h (by rw [e]; decide +kernel)
 have h92 : c ≠ [92] := fun e => h (by rw [e]; decide +kernel)
 have h10 : c ≠ [10] := fun e => h (by rw [e]; decide +kernel)
 have hfd : c ≠ [239, 191, 189] := fun e => h (by rw [e]; decide +kernel)
 have hlow : c.length = 1 → ¬ ((c.getD 0 0).toNat < 32 ∨ (c.getD 0 0).toNat = 127) := by
  intro h1 h2
  match c, h1 with
  | [b], _ => exact h (sp_low (by simp at h2; omega))
 refine ⟨?_, fun e => ?_, ?_⟩
 ·unfold quotedS
  rw [if_neg (by simp [h34, h92]), if_neg h10, if_neg (fun q => hlow q.1 q.2), if_neg hfd]
 ·have h1 := rune_first hc (by rw [e]; decide)
  match c, h1 with
  | [b], _ => exact h92 (by simp at e; rw [e])
 ·have hk := hc.2
  match c with
  | [] => exact absurd rfl hc.1
  | [b] =>
   intro x hx
   have e : x = b := by simpa using hx
   subst e
   have := hlow rfl
   simp at this
   omega
  | [b0, b1] =>
   rw [runeS_N] at hk
   simp [runeN] at hk
   intro x hx
   simp at hx
   repeat' split at hk
   all_goals first | omega | (rcases hx with rfl | rfl <;> omega)
  | [b0, b1, b2] =>
   rw [runeS_N] at hk
   simp [runeN] at hk
   intro x hx
   simp at hx
   repeat' split at hk
   all_goals first | omega | (rcases hx with rfl | rfl | rfl <;> omega)
  | [b0, b1, b2, b3] =>
   rw [runeS_N] at hk
   simp [runeN] at hk
   intro x hx
   simp at hx
   repeat' split at hk
   all_goals first | omega | (rcases hx with rfl | rfl | rfl | rfl <;> omega)
  | b0 :: b1 :: b2 :: b3 :: b4 :: r =>
   have := runeS_le (b0 :: b1 :: b2 :: b3 :: b4 :: r) 0
   simp at hk
   omega
theorem quoted_ne {c : List UInt8} (hc : isRune c) : quotedS c ≠ [] := by
 by_cases h : c ∈ spS
 ·intro e
  have := (sp_head c h).2
  rw [e] at this
  simp at this
 ·rw [(quoted_nsp hc h).1]; exact hc.1
theorem sp_vis : ∀ c ∈ spS, ∀ b ∈ quotedS c, 32 ≤ b.toNat ∧ b.toNat ≠ 127 := by decide +kernel
theorem quote_vis (s : List UInt8) : ∀ b ∈ quoteS s, 32 ≤ b.toNat ∧ b.toNat ≠ 127 := by
 intro b hb
 unfold quoteS at hb
 rcases List.mem_cons.1 hb with rfl | hb
 ·decide
 rcases List.mem_append.1 hb with hb | hb
 ·obtain ⟨c, hc, hb⟩ := List.mem_flatMap.1 hb
  by_cases h : c ∈ spS
  ·exact sp_vis c h b hb
  ·have hr := quoted_nsp (fixS_rune s c hc) h
   rw [hr.1] at hb
   exact hr.2.2 b hb
 ·have : b = 34 := by simpa using hb
  subst this
  decide
def Can (L : List (List UInt8)) (s : List UInt8) : Prop := (∀ c ∈ L, isRune c) ∧ s = 34 :: (L.flatMap quotedS ++ [34])
theorem quote_flat {L : List (List UInt8)} (h : ∀ c ∈ L, isRune c) : quoteS L.flatten = 34 :: (L.flatMap quotedS ++ [34]) := by
 unfold quoteS
 rw [fix_flat h]
theorem can_fix (s : List UInt8) : Can (fixS s) (quoteS s) := ⟨fixS_rune s, rfl⟩
theorem form_sp {c d t y : List UInt8} (hc : c ∈ spS) (hd : isRune d) (ht : t = quotedS d ++ y) (hp : (quotedS c).isPrefixOf t = true) : c = d := by
 rw [List.isPrefixOf_iff_prefix] at hp
 by_cases h : d ∈ spS
 ·have hq : quotedS d <+: t := ⟨y, ht.symm⟩
  rcases Nat.le_total (quotedS c).length (quotedS d).length with hl | hl
  ·exact sp_free c hc d h (List.isPrefixOf_iff_prefix.2 (List.prefix_of_prefix_length_le hp hq hl))
  ·exact (sp_free d h c hc (List.isPrefixOf_iff_prefix.2 (List.prefix_of_prefix_length_le hq hp hl))).symm
 ·exfalso
  have hr := quoted_nsp hd h
  rw [hr.1] at ht
  obtain ⟨z, hz⟩ := hp
  have h1 := sp_head c hc
  have h2 := pos_ne hd.1
  refine hr.2.1 ?_
  have e : t.getD 0 0 = d.getD 0 0 := by rw [ht]; simp only [List.getD_eq_getElem?_getD]; rw [List.getElem?_append_left h2]
  rw [← e, ← hz]
  rw [← h1.1]
  simp only [List.getD_eq_getElem?_getD]
  rw [List.getElem?_append_left (by omega)]
theorem can_uniq : ∀ {L K : List (List UInt8)}, (∀ c ∈ L, isRune c) → (∀ c ∈ K, isRune c) → L.flatMap quotedS = K.flatMap quotedS → L = K
 | [], [], _, _, _ => rfl
 | [], d :: K, _, hK, h => by
  have := quoted_ne (hK d (by simp))
  simp [List.flatMap_cons] at h
  exact absurd h.1 this
 | c :: L, [], hL, _, h => by
  have := quoted_ne (hL c (by simp))
  simp [List.flatMap_cons] at h
  exact absurd h.1 this
 | c :: L, d :: K, hL, hK, h => by
  have hc := hL c (by simp)
  have hd := hK d (by simp)
  simp only [List.flatMap_cons] at h
  have e : c = d := by
   by_cases h1 : c ∈ spS
   ·exact form_sp h1 hd h (List.isPrefixOf_iff_prefix.2 ⟨_, rfl⟩)
   by_cases h2 : d ∈ spS
   ·exact (form_sp h2 hc h.symm (List.isPrefixOf_iff_prefix.2 ⟨_, rfl⟩)).symm
   rw [(quoted_nsp hc h1).1, (quoted_nsp hd h2).1] at h
   have e1 := rune_app (r := L.flatMap quotedS) hc
   have e2 := rune_app (r := K.flatMap quotedS) hd
   rw [h, e2] at e1
   exact (List.append_inj h e1.symm).1
  subst e
  rw [can_uniq (fun x hx => hL x (by simp [hx])) (fun x hx => hK x (by simp [hx])) (List.append_cancel_left h)]
theorem Can.uniq {L K : List (List UInt8)} {s : List UInt8} (h : Can L s) (k : Can K s) : L = K := by
 have e := h.2.symm.trans k.2
 injection e with _ e
 exact can_uniq h.1 k.1 (List.append_cancel_right e)
open Classical in
noncomputable def unqS (s : List UInt8) : List UInt8 × Bool := if h : ∃ L, Can L s then (h.choose.flatten, true) else ([], false)
theorem unq_yes {L : List (List UInt8)} {s : List UInt8} (h : Can L s) : unqS s = (L.flatten, true) := by
 have hx : ∃ L, Can L s := ⟨L, h⟩
 unfold unqS
 rw [dif_pos hx, hx.choose_spec.uniq h]
theorem unq_no {s : List UInt8} (h : ∀ L, ¬ Can L s) : unqS s = ([], false) := by
 unfold unqS
 rw [dif_neg fun ⟨L, hL⟩ => h L hL]
theorem unq_quote (s : List UInt8) : unqS (quoteS s) = ((fixS s).flatten, true) := unq_yes (can_fix s)
theorem quote_fix (s : List UInt8) : quoteS (fixS s).flatten = quoteS s := quote_flat (fixS_rune s)
def Rd (s : List UInt8) (i : Nat) (L : List (List UInt8)) : Prop := (∀ c ∈ L, isRune c) ∧ i ≤ s.length ∧ ∀ K, Can K s → ∃ J, K = L ++ J ∧ s.drop i = J.flatMap quotedS ++ [34]
theorem rd_begin {s : List UInt8} (h : 1 ≤ s.length) : Rd s 1 [] := ⟨fun _ h => (nomatch h), h, fun K hK => ⟨K, rfl, by rw [hK.2]; rfl⟩⟩
theorem Rd.next {s : List UInt8} {i : Nat} {L : List (List UInt8)} (h : Rd s i L) (hi : i + 1 < s.length) {K : List (List UInt8)} (hK : Can K s) : ∃ c J, isRune c ∧ K = L ++ c :: J ∧ s.drop i = quotedS c ++ (J.flatMap quotedS ++ [34]) := by
 obtain ⟨J, h1, h2⟩ := h.2.2 K hK
 match J, h1, h2 with
 | [], h1, h2 =>
  have := congrArg List.length h2
  simp at this
  omega
 | c :: J, h1, h2 => exact ⟨c, J, hK.1 c (by rw [h1]; simp), h1, by rw [h2, List.flatMap_cons, List.append_assoc]⟩
theorem Rd.step {s : List UInt8} {i k : Nat} {L : List (List UInt8)} {c : List UInt8} (h : Rd s i L) (hi : i + 1 < s.length) (hc : isRune c) (hk : i + k ≤ s.length) (hu : ∀ d z, isRune d → s.drop i = quotedS d ++ (z ++ [34]) → c = d ∧ k = (quotedS d).length) : Rd s (i + k) (L ++ [c]) := by
 refine ⟨fun x hx => ?_, hk, fun K hK => ?_⟩
 ·rcases List.mem_append.1 hx with hx | hx
  ·exact h.1 x hx
  ·have : x = c := by simpa using hx
   subst this
   exact hc
 ·obtain ⟨d, J, hd, h1, h2⟩ := h.next hi hK
  obtain ⟨rfl, rfl⟩ := hu d _ hd h2
  exact ⟨J, by rw [h1]; simp, by rw [← List.drop_drop, h2, List.drop_left]⟩
theorem Rd.bad {s : List UInt8} {i : Nat} {L : List (List UInt8)} (h : Rd s i L) (hi : i + 1 < s.length) (hu : ∀ d z, isRune d → s.drop i = quotedS d ++ (z ++ [34]) → False) : unqS s = ([], false) :=
 unq_no fun K hK => by
  obtain ⟨d, J, hd, _, h2⟩ := h.next hi hK
  exact hu d _ hd h2
theorem Rd.done {s : List UInt8} {i : Nat} {L : List (List UInt8)} (h : Rd s i L) (hi : s.length ≤ i + 1) : (quoteS L.flatten = s → unqS s = (L.flatten, true)) ∧ (quoteS L.flatten ≠ s → unqS s = ([], false)) := by
 refine ⟨fun e => unq_yes ⟨h.1, by rw [← e, quote_flat h.1]⟩, fun e => unq_no fun K hK => ?_⟩
 obtain ⟨J, h1, h2⟩ := h.2.2 K hK
 match J, h1, h2 with
 | [], h1, h2 =>
  rw [List.append_nil] at h1
  subst h1
  exact e (by rw [quote_flat h.1]; exact hK.2.symm)
 | c :: J, h1, h2 =>
  have := pos_ne (quoted_ne (hK.1 c (by rw [h1]; simp)))
  have := congrArg List.length h2
  simp [List.flatMap_cons] at this
  omega
end
section
def encN (n : Nat) : List UInt8 :=
 if n < 128 then [UInt8.ofNat n] else
 if n < 2048 then [UInt8.ofNat (192 + n / 64), UInt8.ofNat (128 + n % 64)] else
 if 55296 ≤ n ∧ n ≤ 57343 ∨ 1114111 < n then [239, 191, 189] else
 if n < 65536 then [UInt8.ofNat (224 + n / 4096), UInt8.ofNat (128 + n / 64 % 64), UInt8.ofNat (128 + n % 64)] else
 [UInt8.ofNat (240 + n / 262144), UInt8.ofNat (128 + n / 4096 % 64), UInt8.ofNat (128 + n / 64 % 64), UInt8.ofNat (128 + n % 64)]
theorem enc_rune (n : Nat) : isRune (encN n) := by
 unfold encN
 split
 ·refine ⟨by simp, ?_⟩
  rw [runeS_N]
  simp [runeN]
  omega
 split
 ·refine ⟨by simp, ?_⟩
  rw [runeS_N]
  simp [runeN]
  repeat (first | rw [if_pos (by omega)] | rw [if_neg (by omega)])
 split
 ·exact fffd_rune
 split
 ·refine ⟨by simp, ?_⟩
  rw [runeS_N]
  simp [runeN]
  repeat (first | rw [if_pos (by omega)] | rw [if_neg (by omega)])
 ·refine ⟨by simp, ?_⟩
  rw [runeS_N]
  simp [runeN]
  repeat (first | rw [if_pos (by omega)] | rw [if_neg (by omega)])
def valN (k b0 b1 b2 b3 : Nat) : Nat :=
 if k = 1 then b0 else if k = 2 then b0 % 32 * 64 + b1 % 64 else if k = 3 then b0 % 16 * 4096 + b1 % 64 * 64 + b2 % 64 else b0 % 8 * 262144 + b1 % 64 * 4096 + b2 % 64 * 64 + b3 % 64
theorem decN_val {n b0 b1 b2 b3 k : Nat} (h : runeN n b0 b1 b2 b3 = k) (hk : k ≠ 0) : Lib.decodeN n b0 b1 b2 b3 = (valN k b0 b1 b2 b3, k) := by
 unfold runeN at h
 split at h
 ·subst h
  unfold Lib.decodeN
  rw [if_pos (by assumption)]
  rfl
 split at h
 ·subst h
  unfold Lib.decodeN valN
  (repeat (first | rw [if_pos (by omega)] | rw [if_neg (by omega)]))
 split at h
 ·split at h
  ·exact absurd h.symm hk
  ·subst h
   unfold Lib.decodeN valN
   (repeat (first | rw [if_pos (by omega)] | rw [if_neg (by omega)]))
 split at h
 ·split at h
  ·exact absurd h.symm hk
  ·subst h
   unfold Lib.decodeN valN
   (repeat (first | rw [if_pos (by omega)] | rw [if_neg (by omega)]))
 ·exact absurd h.symm hk
theorem ofN_eq {k : Nat} {b : UInt8} (h : k = b.toNat) : UInt8.ofNat k = b := by subst h; exact UInt8.ofNat_toNat
theorem enc_dec {c r : List UInt8} (hc : isRune c) : ∃ v, Utf8.decode ⟨(c ++ r).toArray⟩ 0 = (v, c.length) ∧ encN v = c ∧ v ≤ 1114111 ∧ (c = [239, 191, 189] → v = 65533) := by
 have h0 := rune_app (r := r) hc
 have hl := pos_ne hc.1
 rw [runeS_N] at h0
 have hd := decN_val h0 (by omega)
 refine ⟨_, by rw [dec_at]; exact hd, ?_⟩
 have h4 : c.length ≤ 4 := by rw [← hc.2]; exact runeS_le c 0
 simp only [Nat.sub_zero, Nat.zero_add] at h0 ⊢
 match c, hl, h4 with
 | [b0], _, _ =>
  simp only [List.cons_append, List.nil_append, List.getD_cons_zero, List.length_cons, List.length_nil] at h0 ⊢
  have hb := UInt8.toNat_lt b0
  unfold runeN at h0
  repeat' split at h0
  all_goals first | (exfalso; omega) | skip
  refine ⟨?_, ?_, fun e => ?_⟩
  ·show encN b0.toNat = _
   unfold encN
   rw [if_pos (by omega), UInt8.ofNat_toNat]
  ·show b0.toNat ≤ _
   omega
  ·cases e
 | [b0, b1], _, _ =>
  simp only [List.cons_append, List.nil_append, List.getD_cons_zero, List.getD_cons_succ, List.length_cons, List.length_nil] at h0 ⊢
  have hb0 := UInt8.toNat_lt b0
  have hb1 := UInt8.toNat_lt b1
  unfold runeN at h0
  repeat' split at h0
  all_goals first | (exfalso; omega) | skip
  refine ⟨?_, ?_, fun e => ?_⟩
  ·show encN (b0.toNat % 32 * 64 + b1.toNat % 64) = _
   unfold encN
   rw [if_neg (by omega), if_pos (by omega), ofN_eq (b := b0) (by omega), ofN_eq (b := b1) (by omega)]
  ·show b0.toNat % 32 * 64 + b1.toNat % 64 ≤ _
   omega
  ·cases e
 | [b0, b1, b2], _, _ =>
  simp only [List.cons_append, List.nil_append, List.getD_cons_zero, List.getD_cons_succ, List.length_cons, List.length_nil] at h0 ⊢
  have hb0 := UInt8.toNat_lt b0
  have hb1 := UInt8.toNat_lt b1
  have hb2 := UInt8.toNat_lt b2
  unfold runeN at h0
  repeat' split at h0
  all_goals first | (exfalso; omega) | skip
  refine ⟨?_, ?_, fun e => ?_⟩
  ·show encN (b0.toNat % 16 * 4096 + b1.toNat % 64 * 64 + b2.toNat % 64) = _
   unfold encN
   rw [if_neg (by omega), if_neg (by omega), if_neg (by omega), if_pos (by omega), ofN_eq (b := b0) (by omega), ofN_eq (b := b1) (by omega), ofN_eq (b := b2) (by omega)]
  ·show b0.toNat % 16 * 4096 + b1.toNat % 64 * 64 + b2.toNat % 64 ≤ _
   omega
  ·injection e with e0 e
   injection e with e1 e
   injection e with e2 e
   subst e0; subst e1; subst e2
   rfl
 | [b0, b1, b2, b3], _, _ =>
  simp only [List.cons_append, List.nil_append, List.getD_cons_zero, List.getD_cons_succ, List.length_cons, List.length_nil] at h0 ⊢
  have hb0 := UInt8.toNat_lt b0
  have hb1 := UInt8.toNat_lt b1
  have hb2 := UInt8.toNat_lt b2
  have hb3 := UInt8.toNat_lt b3
  unfold runeN at h0
  repeat' split at h0
  all_goals first | (exfalso; omega) | skip
  refine ⟨?_, ?_, fun e => ?_⟩
  ·show encN (b0.toNat % 8 * 262144 + b1.toNat % 64 * 4096 + b2.toNat % 64 * 64 + b3.toNat % 64) = _
   unfold encN
   rw [if_neg (by omega), if_neg (by omega), if_neg (by omega), if_neg (by omega), ofN_eq (b := b0) (by omega), ofN_eq (b := b1) (by omega), ofN_eq (b := b2) (by omega), ofN_eq (b := b3) (by omega)]
  ·show b0.toNat % 8 * 262144 + b1.toNat % 64 * 4096 + b2.toNat % 64 * 64 + b3.toNat % 64 ≤ _
   omega
  ·cases e
def hexV (v : Nat) : List UInt8 := if v = 65533 then [102, 102, 102, 100] else hexS v
def pieceS (v : Nat) : List UInt8 :=
 if v = 34 ∨ v = 92 then 92 :: encN v else
 if v = 10 then [92, 110] else
 if v < 32 ∨ v = 127 ∨ v = 65533 then 92 :: 117 :: 123 :: (hexV v ++ [125]) else encN v
theorem piece_low : ∀ v, v < 128 → pieceS v = quotedS [UInt8.ofNat v] := by decide +kernel
theorem piece_eq {c : List UInt8} {v : Nat} (h : encN v = c) (hv : c = [239, 191, 189] → v = 65533) : pieceS v = quotedS c := by
 by_cases h0 : v < 128
 ·rw [piece_low v h0, ← h]
  unfold encN
  rw [if_pos h0]
 ·have hl : 2 ≤ c.length := by
   rw [← h]
   unfold encN
   rw [if_neg h0]
   repeat' split
   all_goals simp
  by_cases h1 : v = 65533
  ·subst h1
   rw [← h]
   decide +kernel
  ·unfold pieceS quotedS
   rw [if_neg (by omega), if_neg (by omega), if_neg (by omega), h]
   have e34 : c ≠ [34] := fun e => by rw [e] at hl; simp at hl
   have e92 : c ≠ [92] := fun e => by rw [e] at hl; simp at hl
   have e10 : c ≠ [10] := fun e => by rw [e] at hl; simp at hl
   rw [if_neg (by simp [e34, e92]), if_neg e10, if_neg (by omega), if_neg fun e => h1 (hv e)]
def spVal (c : List UInt8) : Nat := if c = [239, 191, 189] then 65533 else (c.getD 0 0).toNat
theorem sp_val : ∀ c ∈ spS, encN (spVal c) = c ∧ spVal c < 65536 := by decide +kernel
theorem sp_form : ∀ c ∈ spS, c = [34] ∨ c = [92] ∨ c = [10] ∨ (quotedS c = 92 :: 117 :: 123 :: (hexV (spVal c) ++ [125]) ∧ (hexV (spVal c)).all (fun b => decide (b ≠ 125)) = true ∧ (spVal c < 32 ∨ spVal c = 127 ∨ spVal c = 65533)) := by decide +kernel
end
section
def comps : MV → List MV
 | .tup l => l
 | r => [r]
def okCo : MV → Bool
 | .tup [_] => false
 | _ => true
theorem repVs_of {w : World} {P : Prot} {adr : Adr} : ∀ {l : List MV} {vs : List Value}, vs.length = l.length → (∀ (j : Nat) m u, l[j]? = some m → vs[j]? = some u → ∃ cs, Rep w P adr m cs ∧ u = valM m cs) → RepVs w P adr l vs
 | [], [], _, _ => .nil
 | m :: l, u :: vs, hl, h => by
  obtain ⟨cs, h1, rfl⟩ := h 0 m u rfl rfl
  exact .cons (.val cs h1) (repVs_of (by simpa using hl) fun j m u hj hu => h (j + 1) m u (by simpa using hj) (by simpa using hu))
 | [], _ :: _, h, _ => by simp at h
 | _ :: _, [], h, _ => by simp at h
theorem comps_rep {w : World} {P : Prot} {adr : Adr} {r : MV} {v : Value} (h : RepV w P adr r v) (hc : okCo r = true) : ∃ us, RepVs w P adr (comps r) us ∧ tup us = v := by
 cases h with
 | tup us hl hp =>
  rename_i l
  refine ⟨us, repVs_of hl hp, ?_⟩
  match us, l, hl, hc with
  | [], _, _, _ => rfl
  | [x], [y], _, hc => cases hc
  | x :: y :: us, _, _, _ => rfl
 | val cs h1 =>
  have e : comps r = [r] := by cases h1 <;> rfl
  rw [e]
  exact ⟨[_], .cons (.val cs h1) .nil, rfl⟩
 | undef => exact ⟨[_], .cons .undef .nil, rfl⟩
theorem semR_match {σ bs : List (Nat × Nat)} {n0 : Nat} {Pg : Program} {G : GS} {f : FuncId} {args : List MV} {M0 M1 M2 : VM} {n1 n2 : Nat} {res : MV} {rv : List MV} (h : SemR Pg G f args M0 n0 res M1 n1) (hm : LMatch n0 rv M2 n2 (comps res) M1 σ bs) (hc : okCo res = true) : SemR Pg G f args M0 n0 (tupM rv) M2 n2 := by
 obtain ⟨hok, hokb, hall, hrel, hmm⟩ := hm
 have hσ := okSg_out hok
 intro w P adr vals a1 a2 a3 a4 a5
 refine Calls.mono (h w P adr vals a1 a2 a3 a4 a5) ?_
 rintro e w' ⟨v, rfl, P1, adr1, hI, hr, hk, h4, h5, h6, h7, h8⟩
 obtain ⟨us, hus, rfl⟩ := comps_rep hr hc
 obtain ⟨P2, i1, i2, i3, i4⟩ := hI.frozen hokb
 obtain ⟨r1, r2⟩ := relVs_repVs i4 hrel (hus.kp i2)
 have hA0 : AdrOK w ⟨fun g => ∃ c, adr c = some g, adr, n0, fun c g hc => by
   rcases Nat.lt_or_ge c n0 with h | h
   ·exact h
   ·rw [a3 c h] at hc; cases hc⟩ P w' P1 adr1 := ⟨h6, h4, hk⟩
 have hA := (hA0.frozen i2).matched hσ
 refine ⟨_, rfl, P2, adrS (sigA n0 σ) adr1, i1.matched hσ i4 hmm, tup_rep r1 r2, hA.keep, fun c hc => hA.old c hc, fun c hc => adrS_none hσ hc, fun c g hc => hA.in_ c g hc, fun b o ho => ?_, h8⟩
 rcases i3 b o ho with h | ⟨c, h⟩
 ·exact h7 b o h
 ·rcases h6 c b h with h | h
  ·exact .inr (.inl h)
  ·exact .inr (.inr h)
end
end Go.Proofs.YtbiaaogbohfimaaGreatDoor
