/- Parts of a proof, one behind the other: K, S1, SpA, CFrame, SpO, SpB, SpC, SpD, SpN, SpE. -/
import Derived.Test.YtllepnadffndnaaDoorCards
import Derived.Test.YtllepnadffndnaaDoorTie
import Derived.WalkKit
import Derived.ProofKit
import Derived.OpenShut
import Derived.Deep.DeepHandedRow
import Derived.Lib.LaidTab
import Derived.Lib.LaidU8T
import Derived.Lay
import Derived.Stop.LaidErr
import Derived.Stop.Joined
import Derived.Test.YtllepnadffndnaaDoorW06
namespace Go.Proofs.YtllepnadffndnaaDoor
open Go.RowKit
structure Box (q : Prop) : Prop where
  out : q
structure EqF {α : Type} (a b : α) : Prop where
  out : a = b
structure SomF {α : Type} (a : Option α) (b : α) : Prop where
  out' : a = some b
theorem SomF.out {α : Type} {a : Option α} {b : α} (h : SomF a b) : a = some b := h.out'
structure SideF (p : Prop) : Prop where
  out : p
theorem pf {p : Prop} (h : p := by first | rfl | omega | (simp [u8s, cutL, setL, repM, List.replicate_succ', List.range_succ]; done) | (simp [u8s, cutL, setL, repM]; omega)) : p := h
theorem rv {p : Prop} (h : p := by (first | exact ⟨rfl, rfl⟩ | exact .inr ⟨rfl, rfl⟩ | exact .inr ⟨rfl, rfl, rfl, Nat.le_refl _, rfl⟩ | exact .inl rfl | exact .inl ⟨rfl, rfl⟩ | exact ⟨_, rfl, rfl⟩ | exact .inr ⟨_, rfl, rfl⟩ | exact .inl ⟨rfl, rfl, rfl⟩ | exact ⟨congrArg (MV.int _) (by omega), rfl⟩ | exact .inr ⟨rfl, rfl, rfl, Nat.le_of_eq (Nat.zero_add _), cut_all _ _⟩ | (refine .inr ⟨_, rfl, ?_⟩; focus (first | exact ⟨rfl, rfl⟩ | exact .inr ⟨rfl, rfl⟩ | exact .inr ⟨rfl, rfl, rfl, Nat.le_refl _, rfl⟩ | exact .inl rfl | exact .inl ⟨rfl, rfl⟩ | exact ⟨_, rfl, rfl⟩ | exact .inr ⟨_, rfl, rfl⟩ | exact .inl ⟨rfl, rfl, rfl⟩ | exact ⟨congrArg (MV.int _) (by omega), rfl⟩ | exact .inr ⟨rfl, rfl, rfl, Nat.le_of_eq (Nat.zero_add _), cut_all _ _⟩ | (refine .inr ⟨_, rfl, ?_⟩; focus (first | exact ⟨rfl, rfl⟩ | exact .inr ⟨rfl, rfl⟩ | exact .inr ⟨rfl, rfl, rfl, Nat.le_refl _, rfl⟩ | exact .inl rfl | exact .inl ⟨rfl, rfl⟩ | exact ⟨_, rfl, rfl⟩ | exact .inr ⟨_, rfl, rfl⟩ | exact .inl ⟨rfl, rfl, rfl⟩ | exact ⟨congrArg (MV.int _) (by omega), rfl⟩ | exact .inr ⟨rfl, rfl, rfl, Nat.le_of_eq (Nat.zero_add _), cut_all _ _⟩ | (refine .inr ⟨_, rfl, ?_⟩; focus (first | exact ⟨rfl, rfl⟩ | exact .inr ⟨rfl, rfl⟩ | exact .inr ⟨rfl, rfl, rfl, Nat.le_refl _, rfl⟩ | exact .inl rfl | exact .inl ⟨rfl, rfl⟩ | exact ⟨_, rfl, rfl⟩ | exact .inr ⟨_, rfl, rfl⟩ | exact .inl ⟨rfl, rfl, rfl⟩ | exact ⟨congrArg (MV.int _) (by omega), rfl⟩ | exact .inr ⟨rfl, rfl, rfl, Nat.le_of_eq (Nat.zero_add _), cut_all _ _⟩); done) | (refine .inr ⟨_, rfl, ?_⟩; focus (repeat (first | exact trivial | (refine And.intro ?_ ?_; focus (first | exact ⟨rfl, rfl⟩ | exact .inr ⟨rfl, rfl⟩ | exact .inr ⟨rfl, rfl, rfl, Nat.le_refl _, rfl⟩ | exact .inl rfl | exact .inl ⟨rfl, rfl⟩ | exact ⟨_, rfl, rfl⟩ | exact .inr ⟨_, rfl, rfl⟩ | exact .inl ⟨rfl, rfl, rfl⟩ | exact ⟨congrArg (MV.int _) (by omega), rfl⟩ | exact .inr ⟨rfl, rfl, rfl, Nat.le_of_eq (Nat.zero_add _), cut_all _ _⟩)))); done)); done) | (refine .inr ⟨_, rfl, ?_⟩; focus (repeat (first | exact trivial | (refine And.intro ?_ ?_; focus (first | exact ⟨rfl, rfl⟩ | exact .inr ⟨rfl, rfl⟩ | exact .inr ⟨rfl, rfl, rfl, Nat.le_refl _, rfl⟩ | exact .inl rfl | exact .inl ⟨rfl, rfl⟩ | exact ⟨_, rfl, rfl⟩ | exact .inr ⟨_, rfl, rfl⟩ | exact .inl ⟨rfl, rfl, rfl⟩ | exact ⟨congrArg (MV.int _) (by omega), rfl⟩ | exact .inr ⟨rfl, rfl, rfl, Nat.le_of_eq (Nat.zero_add _), cut_all _ _⟩ | (refine .inr ⟨_, rfl, ?_⟩; focus (first | exact ⟨rfl, rfl⟩ | exact .inr ⟨rfl, rfl⟩ | exact .inr ⟨rfl, rfl, rfl, Nat.le_refl _, rfl⟩ | exact .inl rfl | exact .inl ⟨rfl, rfl⟩ | exact ⟨_, rfl, rfl⟩ | exact .inr ⟨_, rfl, rfl⟩ | exact .inl ⟨rfl, rfl, rfl⟩ | exact ⟨congrArg (MV.int _) (by omega), rfl⟩ | exact .inr ⟨rfl, rfl, rfl, Nat.le_of_eq (Nat.zero_add _), cut_all _ _⟩); done) | (refine .inr ⟨_, rfl, ?_⟩; focus (repeat (first | exact trivial | (refine And.intro ?_ ?_; focus (first | exact ⟨rfl, rfl⟩ | exact .inr ⟨rfl, rfl⟩ | exact .inr ⟨rfl, rfl, rfl, Nat.le_refl _, rfl⟩ | exact .inl rfl | exact .inl ⟨rfl, rfl⟩ | exact ⟨_, rfl, rfl⟩ | exact .inr ⟨_, rfl, rfl⟩ | exact .inl ⟨rfl, rfl, rfl⟩ | exact ⟨congrArg (MV.int _) (by omega), rfl⟩ | exact .inr ⟨rfl, rfl, rfl, Nat.le_of_eq (Nat.zero_add _), cut_all _ _⟩)))); done))))); done)); done) | (refine .inr ⟨_, rfl, ?_⟩; focus (repeat (first | exact trivial | (refine And.intro ?_ ?_; focus (first | exact ⟨rfl, rfl⟩ | exact .inr ⟨rfl, rfl⟩ | exact .inr ⟨rfl, rfl, rfl, Nat.le_refl _, rfl⟩ | exact .inl rfl | exact .inl ⟨rfl, rfl⟩ | exact ⟨_, rfl, rfl⟩ | exact .inr ⟨_, rfl, rfl⟩ | exact .inl ⟨rfl, rfl, rfl⟩ | exact ⟨congrArg (MV.int _) (by omega), rfl⟩ | exact .inr ⟨rfl, rfl, rfl, Nat.le_of_eq (Nat.zero_add _), cut_all _ _⟩ | (refine .inr ⟨_, rfl, ?_⟩; focus (first | exact ⟨rfl, rfl⟩ | exact .inr ⟨rfl, rfl⟩ | exact .inr ⟨rfl, rfl, rfl, Nat.le_refl _, rfl⟩ | exact .inl rfl | exact .inl ⟨rfl, rfl⟩ | exact ⟨_, rfl, rfl⟩ | exact .inr ⟨_, rfl, rfl⟩ | exact .inl ⟨rfl, rfl, rfl⟩ | exact ⟨congrArg (MV.int _) (by omega), rfl⟩ | exact .inr ⟨rfl, rfl, rfl, Nat.le_of_eq (Nat.zero_add _), cut_all _ _⟩ | (refine .inr ⟨_, rfl, ?_⟩; focus (first | exact ⟨rfl, rfl⟩ | exact .inr ⟨rfl, rfl⟩ | exact .inr ⟨rfl, rfl, rfl, Nat.le_refl _, rfl⟩ | exact .inl rfl | exact .inl ⟨rfl, rfl⟩ | exact ⟨_, rfl, rfl⟩ | exact .inr ⟨_, rfl, rfl⟩ | exact .inl ⟨rfl, rfl, rfl⟩ | exact ⟨congrArg (MV.int _) (by omega), rfl⟩ | exact .inr ⟨rfl, rfl, rfl, Nat.le_of_eq (Nat.zero_add _), cut_all _ _⟩); done) | (refine .inr ⟨_, rfl, ?_⟩; focus (repeat (first | exact trivial | (refine And.intro ?_ ?_; focus (first | exact ⟨rfl, rfl⟩ | exact .inr ⟨rfl, rfl⟩ | exact .inr ⟨rfl, rfl, rfl, Nat.le_refl _, rfl⟩ | exact .inl rfl | exact .inl ⟨rfl, rfl⟩ | exact ⟨_, rfl, rfl⟩ | exact .inr ⟨_, rfl, rfl⟩ | exact .inl ⟨rfl, rfl, rfl⟩ | exact ⟨congrArg (MV.int _) (by omega), rfl⟩ | exact .inr ⟨rfl, rfl, rfl, Nat.le_of_eq (Nat.zero_add _), cut_all _ _⟩)))); done)); done) | (refine .inr ⟨_, rfl, ?_⟩; focus (repeat (first | exact trivial | (refine And.intro ?_ ?_; focus (first | exact ⟨rfl, rfl⟩ | exact .inr ⟨rfl, rfl⟩ | exact .inr ⟨rfl, rfl, rfl, Nat.le_refl _, rfl⟩ | exact .inl rfl | exact .inl ⟨rfl, rfl⟩ | exact ⟨_, rfl, rfl⟩ | exact .inr ⟨_, rfl, rfl⟩ | exact .inl ⟨rfl, rfl, rfl⟩ | exact ⟨congrArg (MV.int _) (by omega), rfl⟩ | exact .inr ⟨rfl, rfl, rfl, Nat.le_of_eq (Nat.zero_add _), cut_all _ _⟩ | (refine .inr ⟨_, rfl, ?_⟩; focus (first | exact ⟨rfl, rfl⟩ | exact .inr ⟨rfl, rfl⟩ | exact .inr ⟨rfl, rfl, rfl, Nat.le_refl _, rfl⟩ | exact .inl rfl | exact .inl ⟨rfl, rfl⟩ | exact ⟨_, rfl, rfl⟩ | exact .inr ⟨_, rfl, rfl⟩ | exact .inl ⟨rfl, rfl, rfl⟩ | exact ⟨congrArg (MV.int _) (by omega), rfl⟩ | exact .inr ⟨rfl, rfl, rfl, Nat.le_of_eq (Nat.zero_add _), cut_all _ _⟩); done) | (refine .inr ⟨_, rfl, ?_⟩; focus (repeat (first | exact trivial | (refine And.intro ?_ ?_; focus (first | exact ⟨rfl, rfl⟩ | exact .inr ⟨rfl, rfl⟩ | exact .inr ⟨rfl, rfl, rfl, Nat.le_refl _, rfl⟩ | exact .inl rfl | exact .inl ⟨rfl, rfl⟩ | exact ⟨_, rfl, rfl⟩ | exact .inr ⟨_, rfl, rfl⟩ | exact .inl ⟨rfl, rfl, rfl⟩ | exact ⟨congrArg (MV.int _) (by omega), rfl⟩ | exact .inr ⟨rfl, rfl, rfl, Nat.le_of_eq (Nat.zero_add _), cut_all _ _⟩)))); done))))); done))))); done))) : p := h
theorem lm {p : Prop} (h : p := by (repeat (first | exact trivial | (refine And.intro ?_ ?_; focus (first | exact ⟨rfl, rfl⟩ | exact .inr ⟨rfl, rfl⟩ | exact .inr ⟨rfl, rfl, rfl, Nat.le_refl _, rfl⟩ | exact .inl rfl | exact .inl ⟨rfl, rfl⟩ | exact ⟨_, rfl, rfl⟩ | exact .inr ⟨_, rfl, rfl⟩ | exact .inl ⟨rfl, rfl, rfl⟩ | exact ⟨congrArg (MV.int _) (by omega), rfl⟩ | exact .inr ⟨rfl, rfl, rfl, Nat.le_of_eq (Nat.zero_add _), cut_all _ _⟩ | (refine .inr ⟨_, rfl, ?_⟩; focus (first | exact ⟨rfl, rfl⟩ | exact .inr ⟨rfl, rfl⟩ | exact .inr ⟨rfl, rfl, rfl, Nat.le_refl _, rfl⟩ | exact .inl rfl | exact .inl ⟨rfl, rfl⟩ | exact ⟨_, rfl, rfl⟩ | exact .inr ⟨_, rfl, rfl⟩ | exact .inl ⟨rfl, rfl, rfl⟩ | exact ⟨congrArg (MV.int _) (by omega), rfl⟩ | exact .inr ⟨rfl, rfl, rfl, Nat.le_of_eq (Nat.zero_add _), cut_all _ _⟩ | (refine .inr ⟨_, rfl, ?_⟩; focus (first | exact ⟨rfl, rfl⟩ | exact .inr ⟨rfl, rfl⟩ | exact .inr ⟨rfl, rfl, rfl, Nat.le_refl _, rfl⟩ | exact .inl rfl | exact .inl ⟨rfl, rfl⟩ | exact ⟨_, rfl, rfl⟩ | exact .inr ⟨_, rfl, rfl⟩ | exact .inl ⟨rfl, rfl, rfl⟩ | exact ⟨congrArg (MV.int _) (by omega), rfl⟩ | exact .inr ⟨rfl, rfl, rfl, Nat.le_of_eq (Nat.zero_add _), cut_all _ _⟩); done) | (refine .inr ⟨_, rfl, ?_⟩; focus (repeat (first | exact trivial | (refine And.intro ?_ ?_; focus (first | exact ⟨rfl, rfl⟩ | exact .inr ⟨rfl, rfl⟩ | exact .inr ⟨rfl, rfl, rfl, Nat.le_refl _, rfl⟩ | exact .inl rfl | exact .inl ⟨rfl, rfl⟩ | exact ⟨_, rfl, rfl⟩ | exact .inr ⟨_, rfl, rfl⟩ | exact .inl ⟨rfl, rfl, rfl⟩ | exact ⟨congrArg (MV.int _) (by omega), rfl⟩ | exact .inr ⟨rfl, rfl, rfl, Nat.le_of_eq (Nat.zero_add _), cut_all _ _⟩)))); done)); done) | (refine .inr ⟨_, rfl, ?_⟩; focus (repeat (first | exact trivial | (refine And.intro ?_ ?_; focus (first | exact ⟨rfl, rfl⟩ | exact .inr ⟨rfl, rfl⟩ | exact .inr ⟨rfl, rfl, rfl, Nat.le_refl _, rfl⟩ | exact .inl rfl | exact .inl ⟨rfl, rfl⟩ | exact ⟨_, rfl, rfl⟩ | exact .inr ⟨_, rfl, rfl⟩ | exact .inl ⟨rfl, rfl, rfl⟩ | exact ⟨congrArg (MV.int _) (by omega), rfl⟩ | exact .inr ⟨rfl, rfl, rfl, Nat.le_of_eq (Nat.zero_add _), cut_all _ _⟩ | (refine .inr ⟨_, rfl, ?_⟩; focus (first | exact ⟨rfl, rfl⟩ | exact .inr ⟨rfl, rfl⟩ | exact .inr ⟨rfl, rfl, rfl, Nat.le_refl _, rfl⟩ | exact .inl rfl | exact .inl ⟨rfl, rfl⟩ | exact ⟨_, rfl, rfl⟩ | exact .inr ⟨_, rfl, rfl⟩ | exact .inl ⟨rfl, rfl, rfl⟩ | exact ⟨congrArg (MV.int _) (by omega), rfl⟩ | exact .inr ⟨rfl, rfl, rfl, Nat.le_of_eq (Nat.zero_add _), cut_all _ _⟩); done) | (refine .inr ⟨_, rfl, ?_⟩; focus (repeat (first | exact trivial | (refine And.intro ?_ ?_; focus (first | exact ⟨rfl, rfl⟩ | exact .inr ⟨rfl, rfl⟩ | exact .inr ⟨rfl, rfl, rfl, Nat.le_refl _, rfl⟩ | exact .inl rfl | exact .inl ⟨rfl, rfl⟩ | exact ⟨_, rfl, rfl⟩ | exact .inr ⟨_, rfl, rfl⟩ | exact .inl ⟨rfl, rfl, rfl⟩ | exact ⟨congrArg (MV.int _) (by omega), rfl⟩ | exact .inr ⟨rfl, rfl, rfl, Nat.le_of_eq (Nat.zero_add _), cut_all _ _⟩)))); done))))); done)))))) : p := h
theorem mm {p : Prop} (h : p := by (repeat (first | exact trivial | refine ⟨Nat.le_refl _, ?_⟩ | (refine ⟨⟨_, rfl, ?_⟩, ?_⟩; focus (first | exact ⟨rfl, rfl⟩ | exact .inr ⟨rfl, rfl⟩ | exact .inr ⟨rfl, rfl, rfl, Nat.le_refl _, rfl⟩ | exact .inl rfl | exact .inl ⟨rfl, rfl⟩ | exact ⟨_, rfl, rfl⟩ | exact .inr ⟨_, rfl, rfl⟩ | exact .inl ⟨rfl, rfl, rfl⟩ | exact ⟨congrArg (MV.int _) (by omega), rfl⟩ | exact .inr ⟨rfl, rfl, rfl, Nat.le_of_eq (Nat.zero_add _), cut_all _ _⟩ | (refine .inr ⟨_, rfl, ?_⟩; focus (first | exact ⟨rfl, rfl⟩ | exact .inr ⟨rfl, rfl⟩ | exact .inr ⟨rfl, rfl, rfl, Nat.le_refl _, rfl⟩ | exact .inl rfl | exact .inl ⟨rfl, rfl⟩ | exact ⟨_, rfl, rfl⟩ | exact .inr ⟨_, rfl, rfl⟩ | exact .inl ⟨rfl, rfl, rfl⟩ | exact ⟨congrArg (MV.int _) (by omega), rfl⟩ | exact .inr ⟨rfl, rfl, rfl, Nat.le_of_eq (Nat.zero_add _), cut_all _ _⟩ | (refine .inr ⟨_, rfl, ?_⟩; focus (first | exact ⟨rfl, rfl⟩ | exact .inr ⟨rfl, rfl⟩ | exact .inr ⟨rfl, rfl, rfl, Nat.le_refl _, rfl⟩ | exact .inl rfl | exact .inl ⟨rfl, rfl⟩ | exact ⟨_, rfl, rfl⟩ | exact .inr ⟨_, rfl, rfl⟩ | exact .inl ⟨rfl, rfl, rfl⟩ | exact ⟨congrArg (MV.int _) (by omega), rfl⟩ | exact .inr ⟨rfl, rfl, rfl, Nat.le_of_eq (Nat.zero_add _), cut_all _ _⟩ | (refine .inr ⟨_, rfl, ?_⟩; focus (first | exact ⟨rfl, rfl⟩ | exact .inr ⟨rfl, rfl⟩ | exact .inr ⟨rfl, rfl, rfl, Nat.le_refl _, rfl⟩ | exact .inl rfl | exact .inl ⟨rfl, rfl⟩ | exact ⟨_, rfl, rfl⟩ | exact .inr ⟨_, rfl, rfl⟩ | exact .inl ⟨rfl, rfl, rfl⟩ | exact ⟨congrArg (MV.int _) (by omega), rfl⟩ | exact .inr ⟨rfl, rfl, rfl, Nat.le_of_eq (Nat.zero_add _), cut_all _ _⟩); done) | (refine .inr ⟨_, rfl, ?_⟩; focus (repeat (first | exact trivial | (refine And.intro ?_ ?_; focus (first | exact ⟨rfl, rfl⟩ | exact .inr ⟨rfl, rfl⟩ | exact .inr ⟨rfl, rfl, rfl, Nat.le_refl _, rfl⟩ | exact .inl rfl | exact .inl ⟨rfl, rfl⟩ | exact ⟨_, rfl, rfl⟩ | exact .inr ⟨_, rfl, rfl⟩ | exact .inl ⟨rfl, rfl, rfl⟩ | exact ⟨congrArg (MV.int _) (by omega), rfl⟩ | exact .inr ⟨rfl, rfl, rfl, Nat.le_of_eq (Nat.zero_add _), cut_all _ _⟩)))); done)); done) | (refine .inr ⟨_, rfl, ?_⟩; focus (repeat (first | exact trivial | (refine And.intro ?_ ?_; focus (first | exact ⟨rfl, rfl⟩ | exact .inr ⟨rfl, rfl⟩ | exact .inr ⟨rfl, rfl, rfl, Nat.le_refl _, rfl⟩ | exact .inl rfl | exact .inl ⟨rfl, rfl⟩ | exact ⟨_, rfl, rfl⟩ | exact .inr ⟨_, rfl, rfl⟩ | exact .inl ⟨rfl, rfl, rfl⟩ | exact ⟨congrArg (MV.int _) (by omega), rfl⟩ | exact .inr ⟨rfl, rfl, rfl, Nat.le_of_eq (Nat.zero_add _), cut_all _ _⟩ | (refine .inr ⟨_, rfl, ?_⟩; focus (first | exact ⟨rfl, rfl⟩ | exact .inr ⟨rfl, rfl⟩ | exact .inr ⟨rfl, rfl, rfl, Nat.le_refl _, rfl⟩ | exact .inl rfl | exact .inl ⟨rfl, rfl⟩ | exact ⟨_, rfl, rfl⟩ | exact .inr ⟨_, rfl, rfl⟩ | exact .inl ⟨rfl, rfl, rfl⟩ | exact ⟨congrArg (MV.int _) (by omega), rfl⟩ | exact .inr ⟨rfl, rfl, rfl, Nat.le_of_eq (Nat.zero_add _), cut_all _ _⟩); done) | (refine .inr ⟨_, rfl, ?_⟩; focus (repeat (first | exact trivial | (refine And.intro ?_ ?_; focus (first | exact ⟨rfl, rfl⟩ | exact .inr ⟨rfl, rfl⟩ | exact .inr ⟨rfl, rfl, rfl, Nat.le_refl _, rfl⟩ | exact .inl rfl | exact .inl ⟨rfl, rfl⟩ | exact ⟨_, rfl, rfl⟩ | exact .inr ⟨_, rfl, rfl⟩ | exact .inl ⟨rfl, rfl, rfl⟩ | exact ⟨congrArg (MV.int _) (by omega), rfl⟩ | exact .inr ⟨rfl, rfl, rfl, Nat.le_of_eq (Nat.zero_add _), cut_all _ _⟩)))); done))))); done)); done) | (refine .inr ⟨_, rfl, ?_⟩; focus (repeat (first | exact trivial | (refine And.intro ?_ ?_; focus (first | exact ⟨rfl, rfl⟩ | exact .inr ⟨rfl, rfl⟩ | exact .inr ⟨rfl, rfl, rfl, Nat.le_refl _, rfl⟩ | exact .inl rfl | exact .inl ⟨rfl, rfl⟩ | exact ⟨_, rfl, rfl⟩ | exact .inr ⟨_, rfl, rfl⟩ | exact .inl ⟨rfl, rfl, rfl⟩ | exact ⟨congrArg (MV.int _) (by omega), rfl⟩ | exact .inr ⟨rfl, rfl, rfl, Nat.le_of_eq (Nat.zero_add _), cut_all _ _⟩ | (refine .inr ⟨_, rfl, ?_⟩; focus (first | exact ⟨rfl, rfl⟩ | exact .inr ⟨rfl, rfl⟩ | exact .inr ⟨rfl, rfl, rfl, Nat.le_refl _, rfl⟩ | exact .inl rfl | exact .inl ⟨rfl, rfl⟩ | exact ⟨_, rfl, rfl⟩ | exact .inr ⟨_, rfl, rfl⟩ | exact .inl ⟨rfl, rfl, rfl⟩ | exact ⟨congrArg (MV.int _) (by omega), rfl⟩ | exact .inr ⟨rfl, rfl, rfl, Nat.le_of_eq (Nat.zero_add _), cut_all _ _⟩ | (refine .inr ⟨_, rfl, ?_⟩; focus (first | exact ⟨rfl, rfl⟩ | exact .inr ⟨rfl, rfl⟩ | exact .inr ⟨rfl, rfl, rfl, Nat.le_refl _, rfl⟩ | exact .inl rfl | exact .inl ⟨rfl, rfl⟩ | exact ⟨_, rfl, rfl⟩ | exact .inr ⟨_, rfl, rfl⟩ | exact .inl ⟨rfl, rfl, rfl⟩ | exact ⟨congrArg (MV.int _) (by omega), rfl⟩ | exact .inr ⟨rfl, rfl, rfl, Nat.le_of_eq (Nat.zero_add _), cut_all _ _⟩); done) | (refine .inr ⟨_, rfl, ?_⟩; focus (repeat (first | exact trivial | (refine And.intro ?_ ?_; focus (first | exact ⟨rfl, rfl⟩ | exact .inr ⟨rfl, rfl⟩ | exact .inr ⟨rfl, rfl, rfl, Nat.le_refl _, rfl⟩ | exact .inl rfl | exact .inl ⟨rfl, rfl⟩ | exact ⟨_, rfl, rfl⟩ | exact .inr ⟨_, rfl, rfl⟩ | exact .inl ⟨rfl, rfl, rfl⟩ | exact ⟨congrArg (MV.int _) (by omega), rfl⟩ | exact .inr ⟨rfl, rfl, rfl, Nat.le_of_eq (Nat.zero_add _), cut_all _ _⟩)))); done)); done) | (refine .inr ⟨_, rfl, ?_⟩; focus (repeat (first | exact trivial | (refine And.intro ?_ ?_; focus (first | exact ⟨rfl, rfl⟩ | exact .inr ⟨rfl, rfl⟩ | exact .inr ⟨rfl, rfl, rfl, Nat.le_refl _, rfl⟩ | exact .inl rfl | exact .inl ⟨rfl, rfl⟩ | exact ⟨_, rfl, rfl⟩ | exact .inr ⟨_, rfl, rfl⟩ | exact .inl ⟨rfl, rfl, rfl⟩ | exact ⟨congrArg (MV.int _) (by omega), rfl⟩ | exact .inr ⟨rfl, rfl, rfl, Nat.le_of_eq (Nat.zero_add _), cut_all _ _⟩ | (refine .inr ⟨_, rfl, ?_⟩; focus (first | exact ⟨rfl, rfl⟩ | exact .inr ⟨rfl, rfl⟩ | exact .inr ⟨rfl, rfl, rfl, Nat.le_refl _, rfl⟩ | exact .inl rfl | exact .inl ⟨rfl, rfl⟩ | exact ⟨_, rfl, rfl⟩ | exact .inr ⟨_, rfl, rfl⟩ | exact .inl ⟨rfl, rfl, rfl⟩ | exact ⟨congrArg (MV.int _) (by omega), rfl⟩ | exact .inr ⟨rfl, rfl, rfl, Nat.le_of_eq (Nat.zero_add _), cut_all _ _⟩); done) | (refine .inr ⟨_, rfl, ?_⟩; focus (repeat (first | exact trivial | (refine And.intro ?_ ?_; focus (first | exact ⟨rfl, rfl⟩ | exact .inr ⟨rfl, rfl⟩ | exact .inr ⟨rfl, rfl, rfl, Nat.le_refl _, rfl⟩ | exact .inl rfl | exact .inl ⟨rfl, rfl⟩ | exact ⟨_, rfl, rfl⟩ | exact .inr ⟨_, rfl, rfl⟩ | exact .inl ⟨rfl, rfl, rfl⟩ | exact ⟨congrArg (MV.int _) (by omega), rfl⟩ | exact .inr ⟨rfl, rfl, rfl, Nat.le_of_eq (Nat.zero_add _), cut_all _ _⟩)))); done))))); done))))); done))) | refine ⟨.inl ⟨rfl, rfl, rfl, rfl⟩, ?_⟩ | refine ⟨.inr ⟨_, _, rfl, rfl, rfl, rfl, rfl, .inl rfl, .inl ⟨rfl, rfl⟩⟩, ?_⟩ | refine ⟨.inr ⟨_, _, rfl, rfl, rfl, rfl, rfl, .inl rfl, .inl ⟨(by simp [u8s]), rfl⟩⟩, ?_⟩ | refine ⟨.inr ⟨_, _, rfl, rfl, rfl, rfl, rfl, .inr ⟨(by first | exact Nat.max_le.2 ⟨Nat.zero_le _, Nat.le_refl _⟩ | exact Nat.max_le.2 ⟨Nat.le_refl _, Nat.le_refl _⟩), (by simp [u8s])⟩, .inl ⟨rfl, rfl⟩⟩, ?_⟩ | (refine ⟨.inr ⟨_, _, rfl, rfl, rfl, rfl, rfl, .inl rfl, .inr ⟨?_, trivial⟩⟩, ?_⟩; focus (first | exact ⟨rfl, rfl⟩ | exact .inr ⟨rfl, rfl⟩ | exact .inr ⟨rfl, rfl, rfl, Nat.le_refl _, rfl⟩ | exact .inl rfl | exact .inl ⟨rfl, rfl⟩ | exact ⟨_, rfl, rfl⟩ | exact .inr ⟨_, rfl, rfl⟩ | exact .inl ⟨rfl, rfl, rfl⟩ | exact ⟨congrArg (MV.int _) (by omega), rfl⟩ | exact .inr ⟨rfl, rfl, rfl, Nat.le_of_eq (Nat.zero_add _), cut_all _ _⟩ | (refine .inr ⟨_, rfl, ?_⟩; focus (first | exact ⟨rfl, rfl⟩ | exact .inr ⟨rfl, rfl⟩ | exact .inr ⟨rfl, rfl, rfl, Nat.le_refl _, rfl⟩ | exact .inl rfl | exact .inl ⟨rfl, rfl⟩ | exact ⟨_, rfl, rfl⟩ | exact .inr ⟨_, rfl, rfl⟩ | exact .inl ⟨rfl, rfl, rfl⟩ | exact ⟨congrArg (MV.int _) (by omega), rfl⟩ | exact .inr ⟨rfl, rfl, rfl, Nat.le_of_eq (Nat.zero_add _), cut_all _ _⟩ | (refine .inr ⟨_, rfl, ?_⟩; focus (first | exact ⟨rfl, rfl⟩ | exact .inr ⟨rfl, rfl⟩ | exact .inr ⟨rfl, rfl, rfl, Nat.le_refl _, rfl⟩ | exact .inl rfl | exact .inl ⟨rfl, rfl⟩ | exact ⟨_, rfl, rfl⟩ | exact .inr ⟨_, rfl, rfl⟩ | exact .inl ⟨rfl, rfl, rfl⟩ | exact ⟨congrArg (MV.int _) (by omega), rfl⟩ | exact .inr ⟨rfl, rfl, rfl, Nat.le_of_eq (Nat.zero_add _), cut_all _ _⟩ | (refine .inr ⟨_, rfl, ?_⟩; focus (first | exact ⟨rfl, rfl⟩ | exact .inr ⟨rfl, rfl⟩ | exact .inr ⟨rfl, rfl, rfl, Nat.le_refl _, rfl⟩ | exact .inl rfl | exact .inl ⟨rfl, rfl⟩ | exact ⟨_, rfl, rfl⟩ | exact .inr ⟨_, rfl, rfl⟩ | exact .inl ⟨rfl, rfl, rfl⟩ | exact ⟨congrArg (MV.int _) (by omega), rfl⟩ | exact .inr ⟨rfl, rfl, rfl, Nat.le_of_eq (Nat.zero_add _), cut_all _ _⟩); done) | (refine .inr ⟨_, rfl, ?_⟩; focus (repeat (first | exact trivial | (refine And.intro ?_ ?_; focus (first | exact ⟨rfl, rfl⟩ | exact .inr ⟨rfl, rfl⟩ | exact .inr ⟨rfl, rfl, rfl, Nat.le_refl _, rfl⟩ | exact .inl rfl | exact .inl ⟨rfl, rfl⟩ | exact ⟨_, rfl, rfl⟩ | exact .inr ⟨_, rfl, rfl⟩ | exact .inl ⟨rfl, rfl, rfl⟩ | exact ⟨congrArg (MV.int _) (by omega), rfl⟩ | exact .inr ⟨rfl, rfl, rfl, Nat.le_of_eq (Nat.zero_add _), cut_all _ _⟩)))); done)); done) | (refine .inr ⟨_, rfl, ?_⟩; focus (repeat (first | exact trivial | (refine And.intro ?_ ?_; focus (first | exact ⟨rfl, rfl⟩ | exact .inr ⟨rfl, rfl⟩ | exact .inr ⟨rfl, rfl, rfl, Nat.le_refl _, rfl⟩ | exact .inl rfl | exact .inl ⟨rfl, rfl⟩ | exact ⟨_, rfl, rfl⟩ | exact .inr ⟨_, rfl, rfl⟩ | exact .inl ⟨rfl, rfl, rfl⟩ | exact ⟨congrArg (MV.int _) (by omega), rfl⟩ | exact .inr ⟨rfl, rfl, rfl, Nat.le_of_eq (Nat.zero_add _), cut_all _ _⟩ | (refine .inr ⟨_, rfl, ?_⟩; focus (first | exact ⟨rfl, rfl⟩ | exact .inr ⟨rfl, rfl⟩ | exact .inr ⟨rfl, rfl, rfl, Nat.le_refl _, rfl⟩ | exact .inl rfl | exact .inl ⟨rfl, rfl⟩ | exact ⟨_, rfl, rfl⟩ | exact .inr ⟨_, rfl, rfl⟩ | exact .inl ⟨rfl, rfl, rfl⟩ | exact ⟨congrArg (MV.int _) (by omega), rfl⟩ | exact .inr ⟨rfl, rfl, rfl, Nat.le_of_eq (Nat.zero_add _), cut_all _ _⟩); done) | (refine .inr ⟨_, rfl, ?_⟩; focus (repeat (first | exact trivial | (refine And.intro ?_ ?_; focus (first | exact ⟨rfl, rfl⟩ | exact .inr ⟨rfl, rfl⟩ | exact .inr ⟨rfl, rfl, rfl, Nat.le_refl _, rfl⟩ | exact .inl rfl | exact .inl ⟨rfl, rfl⟩ | exact ⟨_, rfl, rfl⟩ | exact .inr ⟨_, rfl, rfl⟩ | exact .inl ⟨rfl, rfl, rfl⟩ | exact ⟨congrArg (MV.int _) (by omega), rfl⟩ | exact .inr ⟨rfl, rfl, rfl, Nat.le_of_eq (Nat.zero_add _), cut_all _ _⟩)))); done))))); done)); done) | (refine .inr ⟨_, rfl, ?_⟩; focus (repeat (first | exact trivial | (refine And.intro ?_ ?_; focus (first | exact ⟨rfl, rfl⟩ | exact .inr ⟨rfl, rfl⟩ | exact .inr ⟨rfl, rfl, rfl, Nat.le_refl _, rfl⟩ | exact .inl rfl | exact .inl ⟨rfl, rfl⟩ | exact ⟨_, rfl, rfl⟩ | exact .inr ⟨_, rfl, rfl⟩ | exact .inl ⟨rfl, rfl, rfl⟩ | exact ⟨congrArg (MV.int _) (by omega), rfl⟩ | exact .inr ⟨rfl, rfl, rfl, Nat.le_of_eq (Nat.zero_add _), cut_all _ _⟩ | (refine .inr ⟨_, rfl, ?_⟩; focus (first | exact ⟨rfl, rfl⟩ | exact .inr ⟨rfl, rfl⟩ | exact .inr ⟨rfl, rfl, rfl, Nat.le_refl _, rfl⟩ | exact .inl rfl | exact .inl ⟨rfl, rfl⟩ | exact ⟨_, rfl, rfl⟩ | exact .inr ⟨_, rfl, rfl⟩ | exact .inl ⟨rfl, rfl, rfl⟩ | exact ⟨congrArg (MV.int _) (by omega), rfl⟩ | exact .inr ⟨rfl, rfl, rfl, Nat.le_of_eq (Nat.zero_add _), cut_all _ _⟩ | (refine .inr ⟨_, rfl, ?_⟩; focus (first | exact ⟨rfl, rfl⟩ | exact .inr ⟨rfl, rfl⟩ | exact .inr ⟨rfl, rfl, rfl, Nat.le_refl _, rfl⟩ | exact .inl rfl | exact .inl ⟨rfl, rfl⟩ | exact ⟨_, rfl, rfl⟩ | exact .inr ⟨_, rfl, rfl⟩ | exact .inl ⟨rfl, rfl, rfl⟩ | exact ⟨congrArg (MV.int _) (by omega), rfl⟩ | exact .inr ⟨rfl, rfl, rfl, Nat.le_of_eq (Nat.zero_add _), cut_all _ _⟩); done) | (refine .inr ⟨_, rfl, ?_⟩; focus (repeat (first | exact trivial | (refine And.intro ?_ ?_; focus (first | exact ⟨rfl, rfl⟩ | exact .inr ⟨rfl, rfl⟩ | exact .inr ⟨rfl, rfl, rfl, Nat.le_refl _, rfl⟩ | exact .inl rfl | exact .inl ⟨rfl, rfl⟩ | exact ⟨_, rfl, rfl⟩ | exact .inr ⟨_, rfl, rfl⟩ | exact .inl ⟨rfl, rfl, rfl⟩ | exact ⟨congrArg (MV.int _) (by omega), rfl⟩ | exact .inr ⟨rfl, rfl, rfl, Nat.le_of_eq (Nat.zero_add _), cut_all _ _⟩)))); done)); done) | (refine .inr ⟨_, rfl, ?_⟩; focus (repeat (first | exact trivial | (refine And.intro ?_ ?_; focus (first | exact ⟨rfl, rfl⟩ | exact .inr ⟨rfl, rfl⟩ | exact .inr ⟨rfl, rfl, rfl, Nat.le_refl _, rfl⟩ | exact .inl rfl | exact .inl ⟨rfl, rfl⟩ | exact ⟨_, rfl, rfl⟩ | exact .inr ⟨_, rfl, rfl⟩ | exact .inl ⟨rfl, rfl, rfl⟩ | exact ⟨congrArg (MV.int _) (by omega), rfl⟩ | exact .inr ⟨rfl, rfl, rfl, Nat.le_of_eq (Nat.zero_add _), cut_all _ _⟩ | (refine .inr ⟨_, rfl, ?_⟩; focus (first | exact ⟨rfl, rfl⟩ | exact .inr ⟨rfl, rfl⟩ | exact .inr ⟨rfl, rfl, rfl, Nat.le_refl _, rfl⟩ | exact .inl rfl | exact .inl ⟨rfl, rfl⟩ | exact ⟨_, rfl, rfl⟩ | exact .inr ⟨_, rfl, rfl⟩ | exact .inl ⟨rfl, rfl, rfl⟩ | exact ⟨congrArg (MV.int _) (by omega), rfl⟩ | exact .inr ⟨rfl, rfl, rfl, Nat.le_of_eq (Nat.zero_add _), cut_all _ _⟩); done) | (refine .inr ⟨_, rfl, ?_⟩; focus (repeat (first | exact trivial | (refine And.intro ?_ ?_; focus (first | exact ⟨rfl, rfl⟩ | exact .inr ⟨rfl, rfl⟩ | exact .inr ⟨rfl, rfl, rfl, Nat.le_refl _, rfl⟩ | exact .inl rfl | exact .inl ⟨rfl, rfl⟩ | exact ⟨_, rfl, rfl⟩ | exact .inr ⟨_, rfl, rfl⟩ | exact .inl ⟨rfl, rfl, rfl⟩ | exact ⟨congrArg (MV.int _) (by omega), rfl⟩ | exact .inr ⟨rfl, rfl, rfl, Nat.le_of_eq (Nat.zero_add _), cut_all _ _⟩)))); done))))); done))))); done))) | refine ⟨(show _ ≤ _ by simp [u8s]), ?_⟩))) : p := h
theorem go0 {p q : Prop} (h : q) (s : Box q → p := by intro hq; (repeat ((try conv => whnf); first | (with_reducible refine And.intro (Nat.zero_le _) ?_) | (with_reducible refine And.intro rfl ?_) | (with_reducible refine ⟨_, idx_at (by omega), ?_⟩) | (with_reducible refine ⟨fun _ => ?_, fun h => Bool.noConfusion h⟩) | (with_reducible refine ⟨fun h => Bool.noConfusion h, fun _ => ?_⟩) | (with_reducible refine ⟨_, sv (wrap_in _ (by omega) (by omega)), ?_⟩) | (with_reducible refine ⟨_, sv (wrapu_in _ (by omega) (by omega)), ?_⟩) | (with_reducible refine ⟨_, sv (wrap8_in _ (by omega) (by omega)), ?_⟩) | refine ⟨_, rfl, ?_⟩ | refine And.intro (show okDraw _ _ = true by kernel_rfl) ?_ | refine And.intro (by omega) ?_)); exact hq.out) : p := s ⟨h⟩
theorem gow0 {p q : Prop} (h : q) (s : Box q → p := by intro hq; (repeat ((try conv => whnf); first | (with_reducible refine And.intro (Nat.zero_le _) ?_) | (with_reducible refine And.intro rfl ?_) | (with_reducible refine ⟨fun _ => ?_, fun h => Bool.noConfusion h⟩) | (with_reducible refine ⟨fun h => Bool.noConfusion h, fun _ => ?_⟩) | (with_reducible refine ⟨_, sv (add32 _ _), ?_⟩) | (with_reducible refine ⟨_, sv (xor32 _ _), ?_⟩) | (with_reducible refine ⟨_, sv (and32 _ _), ?_⟩) | (with_reducible refine ⟨_, sv (or32 _ _), ?_⟩) | (with_reducible refine ⟨_, sv (not32 _), ?_⟩) | (with_reducible refine ⟨_, sv (shlI _ _ (by omega) (by omega)), ?_⟩) | (with_reducible refine ⟨_, sv (shrI _ _ (by omega) (by omega)), ?_⟩) | (with_reducible refine ⟨_, sv (conv832 _), ?_⟩) | (with_reducible refine ⟨_, sv (conv328 _), ?_⟩) | (with_reducible refine ⟨_, sv (wrap_in _ (by omega) (by omega)), ?_⟩) | (with_reducible refine ⟨_, sv (wrapu_in _ (by omega) (by omega)), ?_⟩) | (with_reducible refine ⟨_, sv (wrap8_in _ (by omega) (by omega)), ?_⟩) | refine ⟨_, rfl, ?_⟩ | refine And.intro (show okDraw _ _ = true by kernel_rfl) ?_ | refine And.intro (by omega) ?_)); exact hq.out) : p := s ⟨h⟩
theorem go1 {p q : Prop} (h : q) (s : Box q → p := by intro hq; (repeat (first | ((with_reducible apply n_val); (case hb => exact rfl); (case he => (intro R hR; repeat (first | exact hR | ((try conv => whnf); first | exact hR | (with_reducible refine ⟨_, sv (EqF.out (by assumption)), ?_⟩) | (with_reducible refine And.intro (SideF.out (by assumption)) ?_) | (with_reducible refine And.intro (Nat.zero_le _) ?_) | (with_reducible refine And.intro rfl ?_) | (with_reducible refine ⟨_, idx_at (by omega), ?_⟩) | (with_reducible refine ⟨fun _ => ?_, fun h => Bool.noConfusion h⟩) | (with_reducible refine ⟨fun h => Bool.noConfusion h, fun _ => ?_⟩) | (with_reducible refine ⟨_, sv (wrap_in _ (by omega) (by omega)), ?_⟩) | (with_reducible refine ⟨_, sv (wrapu_in _ (by omega) (by omega)), ?_⟩) | (with_reducible refine ⟨_, sv (wrap8_in _ (by omega) (by omega)), ?_⟩) | (refine ⟨_, rfl, ?_⟩) | (refine ⟨_, SomF.out (by assumption), ?_⟩) | (refine And.intro (by omega) ?_)))))) | ((with_reducible apply n_nilS)) | ((with_reducible apply c_seqR)) | ((with_reducible apply n_app)) | ((with_reducible apply n_app0)) | ((with_reducible apply e_val); (case ho => exact rfl); (case hb => exact rfl); (case he => (intro R hR; repeat (first | exact hR | ((try conv => whnf); first | exact hR | (with_reducible refine ⟨_, sv (EqF.out (by assumption)), ?_⟩) | (with_reducible refine And.intro (SideF.out (by assumption)) ?_) | (with_reducible refine And.intro (Nat.zero_le _) ?_) | (with_reducible refine And.intro rfl ?_) | (with_reducible refine ⟨_, idx_at (by omega), ?_⟩) | (with_reducible refine ⟨fun _ => ?_, fun h => Bool.noConfusion h⟩) | (with_reducible refine ⟨fun h => Bool.noConfusion h, fun _ => ?_⟩) | (with_reducible refine ⟨_, sv (wrap_in _ (by omega) (by omega)), ?_⟩) | (with_reducible refine ⟨_, sv (wrapu_in _ (by omega) (by omega)), ?_⟩) | (with_reducible refine ⟨_, sv (wrap8_in _ (by omega) (by omega)), ?_⟩) | (refine ⟨_, rfl, ?_⟩) | (refine ⟨_, SomF.out (by assumption), ?_⟩) | (refine And.intro (by omega) ?_)))))) | ((with_reducible apply d_end); (case ho => exact (show okDraw _ _ = true by kernel_rfl))) | ((with_reducible apply n_none); (case hb => exact rfl); (case he => (intro R hR; repeat (first | exact hR | ((try conv => whnf); first | exact hR | (with_reducible refine ⟨_, sv (EqF.out (by assumption)), ?_⟩) | (with_reducible refine And.intro (SideF.out (by assumption)) ?_) | (with_reducible refine And.intro (Nat.zero_le _) ?_) | (with_reducible refine And.intro rfl ?_) | (with_reducible refine ⟨_, idx_at (by omega), ?_⟩) | (with_reducible refine ⟨fun _ => ?_, fun h => Bool.noConfusion h⟩) | (with_reducible refine ⟨fun h => Bool.noConfusion h, fun _ => ?_⟩) | (with_reducible refine ⟨_, sv (wrap_in _ (by omega) (by omega)), ?_⟩) | (with_reducible refine ⟨_, sv (wrapu_in _ (by omega) (by omega)), ?_⟩) | (with_reducible refine ⟨_, sv (wrap8_in _ (by omega) (by omega)), ?_⟩) | (refine ⟨_, rfl, ?_⟩) | (refine ⟨_, SomF.out (by assumption), ?_⟩) | (refine And.intro (by omega) ?_)))))) | ((with_reducible apply n_mem); (case hb => exact rfl); (case he => (intro R hR; repeat (first | exact hR | ((try conv => whnf); first | exact hR | (with_reducible refine ⟨_, sv (EqF.out (by assumption)), ?_⟩) | (with_reducible refine And.intro (SideF.out (by assumption)) ?_) | (with_reducible refine And.intro (Nat.zero_le _) ?_) | (with_reducible refine And.intro rfl ?_) | (with_reducible refine ⟨_, idx_at (by omega), ?_⟩) | (with_reducible refine ⟨fun _ => ?_, fun h => Bool.noConfusion h⟩) | (with_reducible refine ⟨fun h => Bool.noConfusion h, fun _ => ?_⟩) | (with_reducible refine ⟨_, sv (wrap_in _ (by omega) (by omega)), ?_⟩) | (with_reducible refine ⟨_, sv (wrapu_in _ (by omega) (by omega)), ?_⟩) | (with_reducible refine ⟨_, sv (wrap8_in _ (by omega) (by omega)), ?_⟩) | (refine ⟨_, rfl, ?_⟩) | (refine ⟨_, SomF.out (by assumption), ?_⟩) | (refine And.intro (by omega) ?_)))))) | ((with_reducible apply n_valY); (case hs => exact rfl); (case hv => exact rfl); (case hb => exact rfl); (case he => (intro R hR; repeat (first | exact hR | ((try conv => whnf); first | exact hR | (with_reducible refine ⟨_, sv (EqF.out (by assumption)), ?_⟩) | (with_reducible refine And.intro (SideF.out (by assumption)) ?_) | (with_reducible refine And.intro (Nat.zero_le _) ?_) | (with_reducible refine And.intro rfl ?_) | (with_reducible refine ⟨_, idx_at (by omega), ?_⟩) | (with_reducible refine ⟨fun _ => ?_, fun h => Bool.noConfusion h⟩) | (with_reducible refine ⟨fun h => Bool.noConfusion h, fun _ => ?_⟩) | (with_reducible refine ⟨_, sv (wrap_in _ (by omega) (by omega)), ?_⟩) | (with_reducible refine ⟨_, sv (wrapu_in _ (by omega) (by omega)), ?_⟩) | (with_reducible refine ⟨_, sv (wrap8_in _ (by omega) (by omega)), ?_⟩) | (refine ⟨_, rfl, ?_⟩) | (refine ⟨_, SomF.out (by assumption), ?_⟩) | (refine And.intro (by omega) ?_)))))) | ((with_reducible apply n_guardN); (case hs => exact rfl); (case hv => exact rfl); (case hd => exact rfl)) | ((with_reducible apply n_guardU); (case hs => exact rfl); (case hv => exact rfl); (case hd => exact rfl)) | ((with_reducible apply g_val); (case hq => exact rfl); (case hv => exact rfl); (case he => (intro R hR; repeat (first | exact hR | ((try conv => whnf); first | exact hR | (with_reducible refine ⟨_, sv (EqF.out (by assumption)), ?_⟩) | (with_reducible refine And.intro (SideF.out (by assumption)) ?_) | (with_reducible refine And.intro (Nat.zero_le _) ?_) | (with_reducible refine And.intro rfl ?_) | (with_reducible refine ⟨_, idx_at (by omega), ?_⟩) | (with_reducible refine ⟨fun _ => ?_, fun h => Bool.noConfusion h⟩) | (with_reducible refine ⟨fun h => Bool.noConfusion h, fun _ => ?_⟩) | (with_reducible refine ⟨_, sv (wrap_in _ (by omega) (by omega)), ?_⟩) | (with_reducible refine ⟨_, sv (wrapu_in _ (by omega) (by omega)), ?_⟩) | (with_reducible refine ⟨_, sv (wrap8_in _ (by omega) (by omega)), ?_⟩) | (refine ⟨_, rfl, ?_⟩) | (refine ⟨_, SomF.out (by assumption), ?_⟩) | (refine And.intro (by omega) ?_))))); (case hd => exact rfl)) | ((with_reducible apply g_none); (case hq => exact rfl); (case hv => exact rfl); (case he => (intro R hR; repeat (first | exact hR | ((try conv => whnf); first | exact hR | (with_reducible refine ⟨_, sv (EqF.out (by assumption)), ?_⟩) | (with_reducible refine And.intro (SideF.out (by assumption)) ?_) | (with_reducible refine And.intro (Nat.zero_le _) ?_) | (with_reducible refine And.intro rfl ?_) | (with_reducible refine ⟨_, idx_at (by omega), ?_⟩) | (with_reducible refine ⟨fun _ => ?_, fun h => Bool.noConfusion h⟩) | (with_reducible refine ⟨fun h => Bool.noConfusion h, fun _ => ?_⟩) | (with_reducible refine ⟨_, sv (wrap_in _ (by omega) (by omega)), ?_⟩) | (with_reducible refine ⟨_, sv (wrapu_in _ (by omega) (by omega)), ?_⟩) | (with_reducible refine ⟨_, sv (wrap8_in _ (by omega) (by omega)), ?_⟩) | (refine ⟨_, rfl, ?_⟩) | (refine ⟨_, SomF.out (by assumption), ?_⟩) | (refine And.intro (by omega) ?_)))))) | ((with_reducible apply g_mem); (case hq => exact rfl); (case hv => exact rfl); (case he => (intro R hR; repeat (first | exact hR | ((try conv => whnf); first | exact hR | (with_reducible refine ⟨_, sv (EqF.out (by assumption)), ?_⟩) | (with_reducible refine And.intro (SideF.out (by assumption)) ?_) | (with_reducible refine And.intro (Nat.zero_le _) ?_) | (with_reducible refine And.intro rfl ?_) | (with_reducible refine ⟨_, idx_at (by omega), ?_⟩) | (with_reducible refine ⟨fun _ => ?_, fun h => Bool.noConfusion h⟩) | (with_reducible refine ⟨fun h => Bool.noConfusion h, fun _ => ?_⟩) | (with_reducible refine ⟨_, sv (wrap_in _ (by omega) (by omega)), ?_⟩) | (with_reducible refine ⟨_, sv (wrapu_in _ (by omega) (by omega)), ?_⟩) | (with_reducible refine ⟨_, sv (wrap8_in _ (by omega) (by omega)), ?_⟩) | (refine ⟨_, rfl, ?_⟩) | (refine ⟨_, SomF.out (by assumption), ?_⟩) | (refine And.intro (by omega) ?_))))); (case hd => exact rfl)) | ((with_reducible apply n_nil)) | ((with_reducible apply c_seq)) | ((with_reducible apply seqQ_n)) | ((with_reducible apply c_region)) | ((with_reducible apply c_condT); (case he => exact rfl)) | ((with_reducible apply c_condF); (case he => exact rfl)) | ((with_reducible apply c_block)) | ((with_reducible apply c_skip)) | ((with_reducible apply c_exit)) | ((with_reducible apply c_ret)) | ((with_reducible apply seqQ_x)) | ((with_reducible apply seqQ_r)) | ((with_reducible apply blockQ_n)) | ((with_reducible apply blockQ_r)) | ((with_reducible apply blockQ_x); (case hb => exact rfl)) | ((with_reducible apply blockQ_y); (case hb => exact rfl)) | ((with_reducible apply loopQ_x)) | ((with_reducible apply loopQ_r)) | ((with_reducible apply c_label)) | ((with_reducible apply e_none); (case ho => exact rfl); (case hb => exact rfl); (case he => (intro R hR; repeat (first | exact hR | ((try conv => whnf); first | exact hR | (with_reducible refine ⟨_, sv (EqF.out (by assumption)), ?_⟩) | (with_reducible refine And.intro (SideF.out (by assumption)) ?_) | (with_reducible refine And.intro (Nat.zero_le _) ?_) | (with_reducible refine And.intro rfl ?_) | (with_reducible refine ⟨_, idx_at (by omega), ?_⟩) | (with_reducible refine ⟨fun _ => ?_, fun h => Bool.noConfusion h⟩) | (with_reducible refine ⟨fun h => Bool.noConfusion h, fun _ => ?_⟩) | (with_reducible refine ⟨_, sv (wrap_in _ (by omega) (by omega)), ?_⟩) | (with_reducible refine ⟨_, sv (wrapu_in _ (by omega) (by omega)), ?_⟩) | (with_reducible refine ⟨_, sv (wrap8_in _ (by omega) (by omega)), ?_⟩) | (refine ⟨_, rfl, ?_⟩) | (refine ⟨_, SomF.out (by assumption), ?_⟩) | (refine And.intro (by omega) ?_)))))) | ((with_reducible apply e_valY); (case ho => exact rfl); (case hs => exact rfl); (case hv => exact rfl); (case hb => exact rfl); (case he => (intro R hR; repeat (first | exact hR | ((try conv => whnf); first | exact hR | (with_reducible refine ⟨_, sv (EqF.out (by assumption)), ?_⟩) | (with_reducible refine And.intro (SideF.out (by assumption)) ?_) | (with_reducible refine And.intro (Nat.zero_le _) ?_) | (with_reducible refine And.intro rfl ?_) | (with_reducible refine ⟨_, idx_at (by omega), ?_⟩) | (with_reducible refine ⟨fun _ => ?_, fun h => Bool.noConfusion h⟩) | (with_reducible refine ⟨fun h => Bool.noConfusion h, fun _ => ?_⟩) | (with_reducible refine ⟨_, sv (wrap_in _ (by omega) (by omega)), ?_⟩) | (with_reducible refine ⟨_, sv (wrapu_in _ (by omega) (by omega)), ?_⟩) | (with_reducible refine ⟨_, sv (wrap8_in _ (by omega) (by omega)), ?_⟩) | (refine ⟨_, rfl, ?_⟩) | (refine ⟨_, SomF.out (by assumption), ?_⟩) | (refine And.intro (by omega) ?_)))))) | ((with_reducible apply e_mem); (case ho => exact rfl); (case hb => exact rfl); (case he => (intro R hR; repeat (first | exact hR | ((try conv => whnf); first | exact hR | (with_reducible refine ⟨_, sv (EqF.out (by assumption)), ?_⟩) | (with_reducible refine And.intro (SideF.out (by assumption)) ?_) | (with_reducible refine And.intro (Nat.zero_le _) ?_) | (with_reducible refine And.intro rfl ?_) | (with_reducible refine ⟨_, idx_at (by omega), ?_⟩) | (with_reducible refine ⟨fun _ => ?_, fun h => Bool.noConfusion h⟩) | (with_reducible refine ⟨fun h => Bool.noConfusion h, fun _ => ?_⟩) | (with_reducible refine ⟨_, sv (wrap_in _ (by omega) (by omega)), ?_⟩) | (with_reducible refine ⟨_, sv (wrapu_in _ (by omega) (by omega)), ?_⟩) | (with_reducible refine ⟨_, sv (wrap8_in _ (by omega) (by omega)), ?_⟩) | (refine ⟨_, rfl, ?_⟩) | (refine ⟨_, SomF.out (by assumption), ?_⟩) | (refine And.intro (by omega) ?_)))))) | ((with_reducible apply d_next)) | ((with_reducible apply d_step); (case ho => exact rfl)) | ((with_reducible apply d_guardN); (case hs => exact rfl); (case hv => exact rfl); (case hd => exact rfl)) | ((with_reducible apply d_guardU); (case hs => exact rfl); (case hv => exact rfl); (case hd => exact rfl)) | ((with_reducible apply d_guardY); (case hs => exact rfl); (case hv => exact rfl)) | ((with_reducible apply d_go)) | ((with_reducible apply gd_val); (case hv => exact rfl); (case he => (intro R hR; repeat (first | exact hR | ((try conv => whnf); first | exact hR | (with_reducible refine ⟨_, sv (EqF.out (by assumption)), ?_⟩) | (with_reducible refine And.intro (SideF.out (by assumption)) ?_) | (with_reducible refine And.intro (Nat.zero_le _) ?_) | (with_reducible refine And.intro rfl ?_) | (with_reducible refine ⟨_, idx_at (by omega), ?_⟩) | (with_reducible refine ⟨fun _ => ?_, fun h => Bool.noConfusion h⟩) | (with_reducible refine ⟨fun h => Bool.noConfusion h, fun _ => ?_⟩) | (with_reducible refine ⟨_, sv (wrap_in _ (by omega) (by omega)), ?_⟩) | (with_reducible refine ⟨_, sv (wrapu_in _ (by omega) (by omega)), ?_⟩) | (with_reducible refine ⟨_, sv (wrap8_in _ (by omega) (by omega)), ?_⟩) | (refine ⟨_, rfl, ?_⟩) | (refine ⟨_, SomF.out (by assumption), ?_⟩) | (refine And.intro (by omega) ?_))))); (case hd => exact rfl)) | ((with_reducible apply gd_none); (case hv => exact rfl); (case he => (intro R hR; repeat (first | exact hR | ((try conv => whnf); first | exact hR | (with_reducible refine ⟨_, sv (EqF.out (by assumption)), ?_⟩) | (with_reducible refine And.intro (SideF.out (by assumption)) ?_) | (with_reducible refine And.intro (Nat.zero_le _) ?_) | (with_reducible refine And.intro rfl ?_) | (with_reducible refine ⟨_, idx_at (by omega), ?_⟩) | (with_reducible refine ⟨fun _ => ?_, fun h => Bool.noConfusion h⟩) | (with_reducible refine ⟨fun h => Bool.noConfusion h, fun _ => ?_⟩) | (with_reducible refine ⟨_, sv (wrap_in _ (by omega) (by omega)), ?_⟩) | (with_reducible refine ⟨_, sv (wrapu_in _ (by omega) (by omega)), ?_⟩) | (with_reducible refine ⟨_, sv (wrap8_in _ (by omega) (by omega)), ?_⟩) | (refine ⟨_, rfl, ?_⟩) | (refine ⟨_, SomF.out (by assumption), ?_⟩) | (refine And.intro (by omega) ?_)))))) | ((with_reducible apply gd_mem); (case hv => exact rfl); (case he => (intro R hR; repeat (first | exact hR | ((try conv => whnf); first | exact hR | (with_reducible refine ⟨_, sv (EqF.out (by assumption)), ?_⟩) | (with_reducible refine And.intro (SideF.out (by assumption)) ?_) | (with_reducible refine And.intro (Nat.zero_le _) ?_) | (with_reducible refine And.intro rfl ?_) | (with_reducible refine ⟨_, idx_at (by omega), ?_⟩) | (with_reducible refine ⟨fun _ => ?_, fun h => Bool.noConfusion h⟩) | (with_reducible refine ⟨fun h => Bool.noConfusion h, fun _ => ?_⟩) | (with_reducible refine ⟨_, sv (wrap_in _ (by omega) (by omega)), ?_⟩) | (with_reducible refine ⟨_, sv (wrapu_in _ (by omega) (by omega)), ?_⟩) | (with_reducible refine ⟨_, sv (wrap8_in _ (by omega) (by omega)), ?_⟩) | (refine ⟨_, rfl, ?_⟩) | (refine ⟨_, SomF.out (by assumption), ?_⟩) | (refine And.intro (by omega) ?_))))); (case hd => exact rfl)) | ((with_reducible apply n_guardY); (case hs => exact rfl); (case hv => exact rfl)) | ((with_reducible apply n_go)))); exact hq.out) : p := s ⟨h⟩
theorem gow1 {p q : Prop} (h : q) (s : Box q → p := by intro hq; (repeat (first | ((with_reducible apply n_val); (case hb => exact rfl); (case he => (intro R hR; repeat (first | exact hR | ((try conv => whnf); first | exact hR | (with_reducible refine ⟨_, sv (EqF.out (by assumption)), ?_⟩) | (with_reducible refine And.intro (SideF.out (by assumption)) ?_) | (with_reducible refine And.intro (Nat.zero_le _) ?_) | (with_reducible refine And.intro rfl ?_) | (with_reducible refine ⟨_, sv (add32 _ _), ?_⟩) | (with_reducible refine ⟨_, sv (xor32 _ _), ?_⟩) | (with_reducible refine ⟨_, sv (and32 _ _), ?_⟩) | (with_reducible refine ⟨_, sv (or32 _ _), ?_⟩) | (with_reducible refine ⟨_, sv (not32 _), ?_⟩) | (with_reducible refine ⟨_, sv (shlI _ _ (by omega) (by omega)), ?_⟩) | (with_reducible refine ⟨_, sv (shrI _ _ (by omega) (by omega)), ?_⟩) | (with_reducible refine ⟨_, sv (conv832 _), ?_⟩) | (with_reducible refine ⟨_, sv (conv328 _), ?_⟩) | (with_reducible refine ⟨fun _ => ?_, fun h => Bool.noConfusion h⟩) | (with_reducible refine ⟨fun h => Bool.noConfusion h, fun _ => ?_⟩) | (with_reducible refine ⟨_, sv (wrap_in _ (by omega) (by omega)), ?_⟩) | (with_reducible refine ⟨_, sv (wrapu_in _ (by omega) (by omega)), ?_⟩) | (with_reducible refine ⟨_, sv (wrap8_in _ (by omega) (by omega)), ?_⟩) | (refine ⟨_, rfl, ?_⟩) | (refine ⟨_, SomF.out (by assumption), ?_⟩) | (refine And.intro (by omega) ?_)))))) | ((with_reducible apply n_nilS)) | ((with_reducible apply c_seqR)) | ((with_reducible apply n_app)) | ((with_reducible apply n_app0)) | ((with_reducible apply e_val); (case ho => exact rfl); (case hb => exact rfl); (case he => (intro R hR; repeat (first | exact hR | ((try conv => whnf); first | exact hR | (with_reducible refine ⟨_, sv (EqF.out (by assumption)), ?_⟩) | (with_reducible refine And.intro (SideF.out (by assumption)) ?_) | (with_reducible refine And.intro (Nat.zero_le _) ?_) | (with_reducible refine And.intro rfl ?_) | (with_reducible refine ⟨_, sv (add32 _ _), ?_⟩) | (with_reducible refine ⟨_, sv (xor32 _ _), ?_⟩) | (with_reducible refine ⟨_, sv (and32 _ _), ?_⟩) | (with_reducible refine ⟨_, sv (or32 _ _), ?_⟩) | (with_reducible refine ⟨_, sv (not32 _), ?_⟩) | (with_reducible refine ⟨_, sv (shlI _ _ (by omega) (by omega)), ?_⟩) | (with_reducible refine ⟨_, sv (shrI _ _ (by omega) (by omega)), ?_⟩) | (with_reducible refine ⟨_, sv (conv832 _), ?_⟩) | (with_reducible refine ⟨_, sv (conv328 _), ?_⟩) | (with_reducible refine ⟨fun _ => ?_, fun h => Bool.noConfusion h⟩) | (with_reducible refine ⟨fun h => Bool.noConfusion h, fun _ => ?_⟩) | (with_reducible refine ⟨_, sv (wrap_in _ (by omega) (by omega)), ?_⟩) | (with_reducible refine ⟨_, sv (wrapu_in _ (by omega) (by omega)), ?_⟩) | (with_reducible refine ⟨_, sv (wrap8_in _ (by omega) (by omega)), ?_⟩) | (refine ⟨_, rfl, ?_⟩) | (refine ⟨_, SomF.out (by assumption), ?_⟩) | (refine And.intro (by omega) ?_)))))) | ((with_reducible apply d_end); (case ho => exact (show okDraw _ _ = true by kernel_rfl))) | ((with_reducible apply n_none); (case hb => exact rfl); (case he => (intro R hR; repeat (first | exact hR | ((try conv => whnf); first | exact hR | (with_reducible refine ⟨_, sv (EqF.out (by assumption)), ?_⟩) | (with_reducible refine And.intro (SideF.out (by assumption)) ?_) | (with_reducible refine And.intro (Nat.zero_le _) ?_) | (with_reducible refine And.intro rfl ?_) | (with_reducible refine ⟨_, sv (add32 _ _), ?_⟩) | (with_reducible refine ⟨_, sv (xor32 _ _), ?_⟩) | (with_reducible refine ⟨_, sv (and32 _ _), ?_⟩) | (with_reducible refine ⟨_, sv (or32 _ _), ?_⟩) | (with_reducible refine ⟨_, sv (not32 _), ?_⟩) | (with_reducible refine ⟨_, sv (shlI _ _ (by omega) (by omega)), ?_⟩) | (with_reducible refine ⟨_, sv (shrI _ _ (by omega) (by omega)), ?_⟩) | (with_reducible refine ⟨_, sv (conv832 _), ?_⟩) | (with_reducible refine ⟨_, sv (conv328 _), ?_⟩) | (with_reducible refine ⟨fun _ => ?_, fun h => Bool.noConfusion h⟩) | (with_reducible refine ⟨fun h => Bool.noConfusion h, fun _ => ?_⟩) | (with_reducible refine ⟨_, sv (wrap_in _ (by omega) (by omega)), ?_⟩) | (with_reducible refine ⟨_, sv (wrapu_in _ (by omega) (by omega)), ?_⟩) | (with_reducible refine ⟨_, sv (wrap8_in _ (by omega) (by omega)), ?_⟩) | (refine ⟨_, rfl, ?_⟩) | (refine ⟨_, SomF.out (by assumption), ?_⟩) | (refine And.intro (by omega) ?_)))))) | ((with_reducible apply n_mem); (case hb => exact rfl); (case he => (intro R hR; repeat (first | exact hR | ((try conv => whnf); first | exact hR | (with_reducible refine ⟨_, sv (EqF.out (by assumption)), ?_⟩) | (with_reducible refine And.intro (SideF.out (by assumption)) ?_) | (with_reducible refine And.intro (Nat.zero_le _) ?_) | (with_reducible refine And.intro rfl ?_) | (with_reducible refine ⟨_, sv (add32 _ _), ?_⟩) | (with_reducible refine ⟨_, sv (xor32 _ _), ?_⟩) | (with_reducible refine ⟨_, sv (and32 _ _), ?_⟩) | (with_reducible refine ⟨_, sv (or32 _ _), ?_⟩) | (with_reducible refine ⟨_, sv (not32 _), ?_⟩) | (with_reducible refine ⟨_, sv (shlI _ _ (by omega) (by omega)), ?_⟩) | (with_reducible refine ⟨_, sv (shrI _ _ (by omega) (by omega)), ?_⟩) | (with_reducible refine ⟨_, sv (conv832 _), ?_⟩) | (with_reducible refine ⟨_, sv (conv328 _), ?_⟩) | (with_reducible refine ⟨fun _ => ?_, fun h => Bool.noConfusion h⟩) | (with_reducible refine ⟨fun h => Bool.noConfusion h, fun _ => ?_⟩) | (with_reducible refine ⟨_, sv (wrap_in _ (by omega) (by omega)), ?_⟩) | (with_reducible refine ⟨_, sv (wrapu_in _ (by omega) (by omega)), ?_⟩) | (with_reducible refine ⟨_, sv (wrap8_in _ (by omega) (by omega)), ?_⟩) | (refine ⟨_, rfl, ?_⟩) | (refine ⟨_, SomF.out (by assumption), ?_⟩) | (refine And.intro (by omega) ?_)))))) | ((with_reducible apply n_valY); (case hs => exact rfl); (case hv => exact rfl); (case hb => exact rfl); (case he => (intro R hR; repeat (first | exact hR | ((try conv => whnf); first | exact hR | (with_reducible refine ⟨_, sv (EqF.out (by assumption)), ?_⟩) | (with_reducible refine And.intro (SideF.out (by assumption)) ?_) | (with_reducible refine And.intro (Nat.zero_le _) ?_) | (with_reducible refine And.intro rfl ?_) | (with_reducible refine ⟨_, sv (add32 _ _), ?_⟩) | (with_reducible refine ⟨_, sv (xor32 _ _), ?_⟩) | (with_reducible refine ⟨_, sv (and32 _ _), ?_⟩) | (with_reducible refine ⟨_, sv (or32 _ _), ?_⟩) | (with_reducible refine ⟨_, sv (not32 _), ?_⟩) | (with_reducible refine ⟨_, sv (shlI _ _ (by omega) (by omega)), ?_⟩) | (with_reducible refine ⟨_, sv (shrI _ _ (by omega) (by omega)), ?_⟩) | (with_reducible refine ⟨_, sv (conv832 _), ?_⟩) | (with_reducible refine ⟨_, sv (conv328 _), ?_⟩) | (with_reducible refine ⟨fun _ => ?_, fun h => Bool.noConfusion h⟩) | (with_reducible refine ⟨fun h => Bool.noConfusion h, fun _ => ?_⟩) | (with_reducible refine ⟨_, sv (wrap_in _ (by omega) (by omega)), ?_⟩) | (with_reducible refine ⟨_, sv (wrapu_in _ (by omega) (by omega)), ?_⟩) | (with_reducible refine ⟨_, sv (wrap8_in _ (by omega) (by omega)), ?_⟩) | (refine ⟨_, rfl, ?_⟩) | (refine ⟨_, SomF.out (by assumption), ?_⟩) | (refine And.intro (by omega) ?_)))))) | ((with_reducible apply n_guardN); (case hs => exact rfl); (case hv => exact rfl); (case hd => exact rfl)) | ((with_reducible apply n_guardU); (case hs => exact rfl); (case hv => exact rfl); (case hd => exact rfl)) | ((with_reducible apply g_val); (case hq => exact rfl); (case hv => exact rfl); (case he => (intro R hR; repeat (first | exact hR | ((try conv => whnf); first | exact hR | (with_reducible refine ⟨_, sv (EqF.out (by assumption)), ?_⟩) | (with_reducible refine And.intro (SideF.out (by assumption)) ?_) | (with_reducible refine And.intro (Nat.zero_le _) ?_) | (with_reducible refine And.intro rfl ?_) | (with_reducible refine ⟨_, sv (add32 _ _), ?_⟩) | (with_reducible refine ⟨_, sv (xor32 _ _), ?_⟩) | (with_reducible refine ⟨_, sv (and32 _ _), ?_⟩) | (with_reducible refine ⟨_, sv (or32 _ _), ?_⟩) | (with_reducible refine ⟨_, sv (not32 _), ?_⟩) | (with_reducible refine ⟨_, sv (shlI _ _ (by omega) (by omega)), ?_⟩) | (with_reducible refine ⟨_, sv (shrI _ _ (by omega) (by omega)), ?_⟩) | (with_reducible refine ⟨_, sv (conv832 _), ?_⟩) | (with_reducible refine ⟨_, sv (conv328 _), ?_⟩) | (with_reducible refine ⟨fun _ => ?_, fun h => Bool.noConfusion h⟩) | (with_reducible refine ⟨fun h => Bool.noConfusion h, fun _ => ?_⟩) | (with_reducible refine ⟨_, sv (wrap_in _ (by omega) (by omega)), ?_⟩) | (with_reducible refine ⟨_, sv (wrapu_in _ (by omega) (by omega)), ?_⟩) | (with_reducible refine ⟨_, sv (wrap8_in _ (by omega) (by omega)), ?_⟩) | (refine ⟨_, rfl, ?_⟩) | (refine ⟨_, SomF.out (by assumption), ?_⟩) | (refine And.intro (by omega) ?_))))); (case hd => exact rfl)) | ((with_reducible apply g_none); (case hq => exact rfl); (case hv => exact rfl); (case he => (intro R hR; repeat (first | exact hR | ((try conv => whnf); first | exact hR | (with_reducible refine ⟨_, sv (EqF.out (by assumption)), ?_⟩) | (with_reducible refine And.intro (SideF.out (by assumption)) ?_) | (with_reducible refine And.intro (Nat.zero_le _) ?_) | (with_reducible refine And.intro rfl ?_) | (with_reducible refine ⟨_, sv (add32 _ _), ?_⟩) | (with_reducible refine ⟨_, sv (xor32 _ _), ?_⟩) | (with_reducible refine ⟨_, sv (and32 _ _), ?_⟩) | (with_reducible refine ⟨_, sv (or32 _ _), ?_⟩) | (with_reducible refine ⟨_, sv (not32 _), ?_⟩) | (with_reducible refine ⟨_, sv (shlI _ _ (by omega) (by omega)), ?_⟩) | (with_reducible refine ⟨_, sv (shrI _ _ (by omega) (by omega)), ?_⟩) | (with_reducible refine ⟨_, sv (conv832 _), ?_⟩) | (with_reducible refine ⟨_, sv (conv328 _), ?_⟩) | (with_reducible refine ⟨fun _ => ?_, fun h => Bool.noConfusion h⟩) | (with_reducible refine ⟨fun h => Bool.noConfusion h, fun _ => ?_⟩) | (with_reducible refine ⟨_, sv (wrap_in _ (by omega) (by omega)), ?_⟩) | (with_reducible refine ⟨_, sv (wrapu_in _ (by omega) (by omega)), ?_⟩) | (with_reducible refine ⟨_, sv (wrap8_in _ (by omega) (by omega)), ?_⟩) | (refine ⟨_, rfl, ?_⟩) | (refine ⟨_, SomF.out (by assumption), ?_⟩) | (refine And.intro (by omega) ?_)))))) | ((with_reducible apply g_mem); (case hq => exact rfl); (case hv => exact rfl); (case he => (intro R hR; repeat (first | exact hR | ((try conv => whnf); first | exact hR | (with_reducible refine ⟨_, sv (EqF.out (by assumption)), ?_⟩) | (with_reducible refine And.intro (SideF.out (by assumption)) ?_) | (with_reducible refine And.intro (Nat.zero_le _) ?_) | (with_reducible refine And.intro rfl ?_) | (with_reducible refine ⟨_, sv (add32 _ _), ?_⟩) | (with_reducible refine ⟨_, sv (xor32 _ _), ?_⟩) | (with_reducible refine ⟨_, sv (and32 _ _), ?_⟩) | (with_reducible refine ⟨_, sv (or32 _ _), ?_⟩) | (with_reducible refine ⟨_, sv (not32 _), ?_⟩) | (with_reducible refine ⟨_, sv (shlI _ _ (by omega) (by omega)), ?_⟩) | (with_reducible refine ⟨_, sv (shrI _ _ (by omega) (by omega)), ?_⟩) | (with_reducible refine ⟨_, sv (conv832 _), ?_⟩) | (with_reducible refine ⟨_, sv (conv328 _), ?_⟩) | (with_reducible refine ⟨fun _ => ?_, fun h => Bool.noConfusion h⟩) | (with_reducible refine ⟨fun h => Bool.noConfusion h, fun _ => ?_⟩) | (with_reducible refine ⟨_, sv (wrap_in _ (by omega) (by omega)), ?_⟩) | (with_reducible refine ⟨_, sv (wrapu_in _ (by omega) (by omega)), ?_⟩) | (with_reducible refine ⟨_, sv (wrap8_in _ (by omega) (by omega)), ?_⟩) | (refine ⟨_, rfl, ?_⟩) | (refine ⟨_, SomF.out (by assumption), ?_⟩) | (refine And.intro (by omega) ?_))))); (case hd => exact rfl)) | ((with_reducible apply n_nil)) | ((with_reducible apply c_seq)) | ((with_reducible apply seqQ_n)) | ((with_reducible apply c_region)) | ((with_reducible apply c_condT); (case he => exact rfl)) | ((with_reducible apply c_condF); (case he => exact rfl)) | ((with_reducible apply c_block)) | ((with_reducible apply c_skip)) | ((with_reducible apply c_exit)) | ((with_reducible apply c_ret)) | ((with_reducible apply seqQ_x)) | ((with_reducible apply seqQ_r)) | ((with_reducible apply blockQ_n)) | ((with_reducible apply blockQ_r)) | ((with_reducible apply blockQ_x); (case hb => exact rfl)) | ((with_reducible apply blockQ_y); (case hb => exact rfl)) | ((with_reducible apply loopQ_x)) | ((with_reducible apply loopQ_r)) | ((with_reducible apply c_label)) | ((with_reducible apply e_none); (case ho => exact rfl); (case hb => exact rfl); (case he => (intro R hR; repeat (first | exact hR | ((try conv => whnf); first | exact hR | (with_reducible refine ⟨_, sv (EqF.out (by assumption)), ?_⟩) | (with_reducible refine And.intro (SideF.out (by assumption)) ?_) | (with_reducible refine And.intro (Nat.zero_le _) ?_) | (with_reducible refine And.intro rfl ?_) | (with_reducible refine ⟨_, sv (add32 _ _), ?_⟩) | (with_reducible refine ⟨_, sv (xor32 _ _), ?_⟩) | (with_reducible refine ⟨_, sv (and32 _ _), ?_⟩) | (with_reducible refine ⟨_, sv (or32 _ _), ?_⟩) | (with_reducible refine ⟨_, sv (not32 _), ?_⟩) | (with_reducible refine ⟨_, sv (shlI _ _ (by omega) (by omega)), ?_⟩) | (with_reducible refine ⟨_, sv (shrI _ _ (by omega) (by omega)), ?_⟩) | (with_reducible refine ⟨_, sv (conv832 _), ?_⟩) | (with_reducible refine ⟨_, sv (conv328 _), ?_⟩) | (with_reducible refine ⟨fun _ => ?_, fun h => Bool.noConfusion h⟩) | (with_reducible refine ⟨fun h => Bool.noConfusion h, fun _ => ?_⟩) | (with_reducible refine ⟨_, sv (wrap_in _ (by omega) (by omega)), ?_⟩) | (with_reducible refine ⟨_, sv (wrapu_in _ (by omega) (by omega)), ?_⟩) | (with_reducible refine ⟨_, sv (wrap8_in _ (by omega) (by omega)), ?_⟩) | (refine ⟨_, rfl, ?_⟩) | (refine ⟨_, SomF.out (by assumption), ?_⟩) | (refine And.intro (by omega) ?_)))))) | ((with_reducible apply e_valY); (case ho => exact rfl); (case hs => exact rfl); (case hv => exact rfl); (case hb => exact rfl); (case he => (intro R hR; repeat (first | exact hR | ((try conv => whnf); first | exact hR | (with_reducible refine ⟨_, sv (EqF.out (by assumption)), ?_⟩) | (with_reducible refine And.intro (SideF.out (by assumption)) ?_) | (with_reducible refine And.intro (Nat.zero_le _) ?_) | (with_reducible refine And.intro rfl ?_) | (with_reducible refine ⟨_, sv (add32 _ _), ?_⟩) | (with_reducible refine ⟨_, sv (xor32 _ _), ?_⟩) | (with_reducible refine ⟨_, sv (and32 _ _), ?_⟩) | (with_reducible refine ⟨_, sv (or32 _ _), ?_⟩) | (with_reducible refine ⟨_, sv (not32 _), ?_⟩) | (with_reducible refine ⟨_, sv (shlI _ _ (by omega) (by omega)), ?_⟩) | (with_reducible refine ⟨_, sv (shrI _ _ (by omega) (by omega)), ?_⟩) | (with_reducible refine ⟨_, sv (conv832 _), ?_⟩) | (with_reducible refine ⟨_, sv (conv328 _), ?_⟩) | (with_reducible refine ⟨fun _ => ?_, fun h => Bool.noConfusion h⟩) | (with_reducible refine ⟨fun h => Bool.noConfusion h, fun _ => ?_⟩) | (with_reducible refine ⟨_, sv (wrap_in _ (by omega) (by omega)), ?_⟩) | (with_reducible refine ⟨_, sv (wrapu_in _ (by omega) (by omega)), ?_⟩) | (with_reducible refine ⟨_, sv (wrap8_in _ (by omega) (by omega)), ?_⟩) | (refine ⟨_, rfl, ?_⟩) | (refine ⟨_, SomF.out (by assumption), ?_⟩) | (refine And.intro (by omega) ?_)))))) | ((with_reducible apply e_mem); (case ho => exact rfl); (case hb => exact rfl); (case he => (intro R hR; repeat (first | exact hR | ((try conv => whnf); first | exact hR | (with_reducible refine ⟨_, sv (EqF.out (by assumption)), ?_⟩) | (with_reducible refine And.intro (SideF.out (by assumption)) ?_) | (with_reducible refine And.intro (Nat.zero_le _) ?_) | (with_reducible refine And.intro rfl ?_) | (with_reducible refine ⟨_, sv (add32 _ _), ?_⟩) | (with_reducible refine ⟨_, sv (xor32 _ _), ?_⟩) | (with_reducible refine ⟨_, sv (and32 _ _), ?_⟩) | (with_reducible refine ⟨_, sv (or32 _ _), ?_⟩) | (with_reducible refine ⟨_, sv (not32 _), ?_⟩) | (with_reducible refine ⟨_, sv (shlI _ _ (by omega) (by omega)), ?_⟩) | (with_reducible refine ⟨_, sv (shrI _ _ (by omega) (by omega)), ?_⟩) | (with_reducible refine ⟨_, sv (conv832 _), ?_⟩) | (with_reducible refine ⟨_, sv (conv328 _), ?_⟩) | (with_reducible refine ⟨fun _ => ?_, fun h => Bool.noConfusion h⟩) | (with_reducible refine ⟨fun h => Bool.noConfusion h, fun _ => ?_⟩) | (with_reducible refine ⟨_, sv (wrap_in _ (by omega) (by omega)), ?_⟩) | (with_reducible refine ⟨_, sv (wrapu_in _ (by omega) (by omega)), ?_⟩) | (with_reducible refine ⟨_, sv (wrap8_in _ (by omega) (by omega)), ?_⟩) | (refine ⟨_, rfl, ?_⟩) | (refine ⟨_, SomF.out (by assumption), ?_⟩) | (refine And.intro (by omega) ?_)))))) | ((with_reducible apply d_next)) | ((with_reducible apply d_step); (case ho => exact rfl)) | ((with_reducible apply d_guardN); (case hs => exact rfl); (case hv => exact rfl); (case hd => exact rfl)) | ((with_reducible apply d_guardU); (case hs => exact rfl); (case hv => exact rfl); (case hd => exact rfl)) | ((with_reducible apply d_guardY); (case hs => exact rfl); (case hv => exact rfl)) | ((with_reducible apply d_go)) | ((with_reducible apply gd_val); (case hv => exact rfl); (case he => (intro R hR; repeat (first | exact hR | ((try conv => whnf); first | exact hR | (with_reducible refine ⟨_, sv (EqF.out (by assumption)), ?_⟩) | (with_reducible refine And.intro (SideF.out (by assumption)) ?_) | (with_reducible refine And.intro (Nat.zero_le _) ?_) | (with_reducible refine And.intro rfl ?_) | (with_reducible refine ⟨_, sv (add32 _ _), ?_⟩) | (with_reducible refine ⟨_, sv (xor32 _ _), ?_⟩) | (with_reducible refine ⟨_, sv (and32 _ _), ?_⟩) | (with_reducible refine ⟨_, sv (or32 _ _), ?_⟩) | (with_reducible refine ⟨_, sv (not32 _), ?_⟩) | (with_reducible refine ⟨_, sv (shlI _ _ (by omega) (by omega)), ?_⟩) | (with_reducible refine ⟨_, sv (shrI _ _ (by omega) (by omega)), ?_⟩) | (with_reducible refine ⟨_, sv (conv832 _), ?_⟩) | (with_reducible refine ⟨_, sv (conv328 _), ?_⟩) | (with_reducible refine ⟨fun _ => ?_, fun h => Bool.noConfusion h⟩) | (with_reducible refine ⟨fun h => Bool.noConfusion h, fun _ => ?_⟩) | (with_reducible refine ⟨_, sv (wrap_in _ (by omega) (by omega)), ?_⟩) | (with_reducible refine ⟨_, sv (wrapu_in _ (by omega) (by omega)), ?_⟩) | (with_reducible refine ⟨_, sv (wrap8_in _ (by omega) (by omega)), ?_⟩) | (refine ⟨_, rfl, ?_⟩) | (refine ⟨_, SomF.out (by assumption), ?_⟩) | (refine And.intro (by omega) ?_))))); (case hd => exact rfl)) | ((with_reducible apply gd_none); (case hv => exact rfl); (case he => (intro R hR; repeat (first | exact hR | ((try conv => whnf); first | exact hR | (with_reducible refine ⟨_, sv (EqF.out (by assumption)), ?_⟩) | (with_reducible refine And.intro (SideF.out (by assumption)) ?_) | (with_reducible refine And.intro (Nat.zero_le _) ?_) | (with_reducible refine And.intro rfl ?_) | (with_reducible refine ⟨_, sv (add32 _ _), ?_⟩) | (with_reducible refine ⟨_, sv (xor32 _ _), ?_⟩) | (with_reducible refine ⟨_, sv (and32 _ _), ?_⟩) | (with_reducible refine ⟨_, sv (or32 _ _), ?_⟩) | (with_reducible refine ⟨_, sv (not32 _), ?_⟩) | (with_reducible refine ⟨_, sv (shlI _ _ (by omega) (by omega)), ?_⟩) | (with_reducible refine ⟨_, sv (shrI _ _ (by omega) (by omega)), ?_⟩) | (with_reducible refine ⟨_, sv (conv832 _), ?_⟩) | (with_reducible refine ⟨_, sv (conv328 _), ?_⟩) | (with_reducible refine ⟨fun _ => ?_, fun h => Bool.noConfusion h⟩) | (with_reducible refine ⟨fun h => Bool.noConfusion h, fun _ => ?_⟩) | (with_reducible refine ⟨_, sv (wrap_in _ (by omega) (by omega)), ?_⟩) | (with_reducible refine ⟨_, sv (wrapu_in _ (by omega) (by omega)), ?_⟩) | (with_reducible refine ⟨_, sv (wrap8_in _ (by omega) (by omega)), ?_⟩) | (refine ⟨_, rfl, ?_⟩) | (refine ⟨_, SomF.out (by assumption), ?_⟩) | (refine And.intro (by omega) ?_)))))) | ((with_reducible apply gd_mem); (case hv => exact rfl); (case he => (intro R hR; repeat (first | exact hR | ((try conv => whnf); first | exact hR | (with_reducible refine ⟨_, sv (EqF.out (by assumption)), ?_⟩) | (with_reducible refine And.intro (SideF.out (by assumption)) ?_) | (with_reducible refine And.intro (Nat.zero_le _) ?_) | (with_reducible refine And.intro rfl ?_) | (with_reducible refine ⟨_, sv (add32 _ _), ?_⟩) | (with_reducible refine ⟨_, sv (xor32 _ _), ?_⟩) | (with_reducible refine ⟨_, sv (and32 _ _), ?_⟩) | (with_reducible refine ⟨_, sv (or32 _ _), ?_⟩) | (with_reducible refine ⟨_, sv (not32 _), ?_⟩) | (with_reducible refine ⟨_, sv (shlI _ _ (by omega) (by omega)), ?_⟩) | (with_reducible refine ⟨_, sv (shrI _ _ (by omega) (by omega)), ?_⟩) | (with_reducible refine ⟨_, sv (conv832 _), ?_⟩) | (with_reducible refine ⟨_, sv (conv328 _), ?_⟩) | (with_reducible refine ⟨fun _ => ?_, fun h => Bool.noConfusion h⟩) | (with_reducible refine ⟨fun h => Bool.noConfusion h, fun _ => ?_⟩) | (with_reducible refine ⟨_, sv (wrap_in _ (by omega) (by omega)), ?_⟩) | (with_reducible refine ⟨_, sv (wrapu_in _ (by omega) (by omega)), ?_⟩) | (with_reducible refine ⟨_, sv (wrap8_in _ (by omega) (by omega)), ?_⟩) | (refine ⟨_, rfl, ?_⟩) | (refine ⟨_, SomF.out (by assumption), ?_⟩) | (refine And.intro (by omega) ?_))))); (case hd => exact rfl)) | ((with_reducible apply n_guardY); (case hs => exact rfl); (case hv => exact rfl)) | ((with_reducible apply n_go)))); exact hq.out) : p := s ⟨h⟩
theorem goe1 {p q : Prop} (h : q) (s : Box q → p := by intro hq; (repeat (first | ((with_reducible apply n_val); (case hb => exact rfl); (case he => (intro R hR; repeat ((try conv => whnf); first | (with_reducible exact eqs_i hR) | (with_reducible exact nes_i hR) | (with_reducible exact eqs_s hR) | (with_reducible exact nes_s hR) | exact hR | (with_reducible refine ⟨_, sv (EqF.out (by assumption)), ?_⟩) | (with_reducible refine And.intro (SideF.out (by assumption)) ?_) | (with_reducible refine And.intro (Nat.zero_le _) ?_) | (with_reducible refine And.intro rfl ?_) | (with_reducible refine ⟨_, idx_at (by omega), ?_⟩) | (with_reducible refine ⟨fun _ => ?_, fun h => Bool.noConfusion h⟩) | (with_reducible refine ⟨fun h => Bool.noConfusion h, fun _ => ?_⟩) | (with_reducible refine ⟨_, sv (wrap_in _ (by omega) (by omega)), ?_⟩) | (with_reducible refine ⟨_, sv (wrapu_in _ (by omega) (by omega)), ?_⟩) | (with_reducible refine ⟨_, sv (wrap8_in _ (by omega) (by omega)), ?_⟩) | (refine ⟨_, rfl, ?_⟩) | (refine ⟨_, SomF.out (by assumption), ?_⟩) | (refine And.intro (by omega) ?_))))) | ((with_reducible apply n_nilS)) | ((with_reducible apply c_seqR)) | ((with_reducible apply n_app)) | ((with_reducible apply n_app0)) | ((with_reducible apply e_val); (case ho => exact rfl); (case hb => exact rfl); (case he => (intro R hR; repeat ((try conv => whnf); first | (with_reducible exact eqs_i hR) | (with_reducible exact nes_i hR) | (with_reducible exact eqs_s hR) | (with_reducible exact nes_s hR) | exact hR | (with_reducible refine ⟨_, sv (EqF.out (by assumption)), ?_⟩) | (with_reducible refine And.intro (SideF.out (by assumption)) ?_) | (with_reducible refine And.intro (Nat.zero_le _) ?_) | (with_reducible refine And.intro rfl ?_) | (with_reducible refine ⟨_, idx_at (by omega), ?_⟩) | (with_reducible refine ⟨fun _ => ?_, fun h => Bool.noConfusion h⟩) | (with_reducible refine ⟨fun h => Bool.noConfusion h, fun _ => ?_⟩) | (with_reducible refine ⟨_, sv (wrap_in _ (by omega) (by omega)), ?_⟩) | (with_reducible refine ⟨_, sv (wrapu_in _ (by omega) (by omega)), ?_⟩) | (with_reducible refine ⟨_, sv (wrap8_in _ (by omega) (by omega)), ?_⟩) | (refine ⟨_, rfl, ?_⟩) | (refine ⟨_, SomF.out (by assumption), ?_⟩) | (refine And.intro (by omega) ?_))))) | ((with_reducible apply d_end); (case ho => exact (show okDraw _ _ = true by kernel_rfl))) | ((with_reducible apply n_none); (case hb => exact rfl); (case he => (intro R hR; repeat ((try conv => whnf); first | (with_reducible exact eqs_i hR) | (with_reducible exact nes_i hR) | (with_reducible exact eqs_s hR) | (with_reducible exact nes_s hR) | exact hR | (with_reducible refine ⟨_, sv (EqF.out (by assumption)), ?_⟩) | (with_reducible refine And.intro (SideF.out (by assumption)) ?_) | (with_reducible refine And.intro (Nat.zero_le _) ?_) | (with_reducible refine And.intro rfl ?_) | (with_reducible refine ⟨_, idx_at (by omega), ?_⟩) | (with_reducible refine ⟨fun _ => ?_, fun h => Bool.noConfusion h⟩) | (with_reducible refine ⟨fun h => Bool.noConfusion h, fun _ => ?_⟩) | (with_reducible refine ⟨_, sv (wrap_in _ (by omega) (by omega)), ?_⟩) | (with_reducible refine ⟨_, sv (wrapu_in _ (by omega) (by omega)), ?_⟩) | (with_reducible refine ⟨_, sv (wrap8_in _ (by omega) (by omega)), ?_⟩) | (refine ⟨_, rfl, ?_⟩) | (refine ⟨_, SomF.out (by assumption), ?_⟩) | (refine And.intro (by omega) ?_))))) | ((with_reducible apply n_mem); (case hb => exact rfl); (case he => (intro R hR; repeat ((try conv => whnf); first | (with_reducible exact eqs_i hR) | (with_reducible exact nes_i hR) | (with_reducible exact eqs_s hR) | (with_reducible exact nes_s hR) | exact hR | (with_reducible refine ⟨_, sv (EqF.out (by assumption)), ?_⟩) | (with_reducible refine And.intro (SideF.out (by assumption)) ?_) | (with_reducible refine And.intro (Nat.zero_le _) ?_) | (with_reducible refine And.intro rfl ?_) | (with_reducible refine ⟨_, idx_at (by omega), ?_⟩) | (with_reducible refine ⟨fun _ => ?_, fun h => Bool.noConfusion h⟩) | (with_reducible refine ⟨fun h => Bool.noConfusion h, fun _ => ?_⟩) | (with_reducible refine ⟨_, sv (wrap_in _ (by omega) (by omega)), ?_⟩) | (with_reducible refine ⟨_, sv (wrapu_in _ (by omega) (by omega)), ?_⟩) | (with_reducible refine ⟨_, sv (wrap8_in _ (by omega) (by omega)), ?_⟩) | (refine ⟨_, rfl, ?_⟩) | (refine ⟨_, SomF.out (by assumption), ?_⟩) | (refine And.intro (by omega) ?_))))) | ((with_reducible apply n_valY); (case hs => exact rfl); (case hv => exact rfl); (case hb => exact rfl); (case he => (intro R hR; repeat ((try conv => whnf); first | (with_reducible exact eqs_i hR) | (with_reducible exact nes_i hR) | (with_reducible exact eqs_s hR) | (with_reducible exact nes_s hR) | exact hR | (with_reducible refine ⟨_, sv (EqF.out (by assumption)), ?_⟩) | (with_reducible refine And.intro (SideF.out (by assumption)) ?_) | (with_reducible refine And.intro (Nat.zero_le _) ?_) | (with_reducible refine And.intro rfl ?_) | (with_reducible refine ⟨_, idx_at (by omega), ?_⟩) | (with_reducible refine ⟨fun _ => ?_, fun h => Bool.noConfusion h⟩) | (with_reducible refine ⟨fun h => Bool.noConfusion h, fun _ => ?_⟩) | (with_reducible refine ⟨_, sv (wrap_in _ (by omega) (by omega)), ?_⟩) | (with_reducible refine ⟨_, sv (wrapu_in _ (by omega) (by omega)), ?_⟩) | (with_reducible refine ⟨_, sv (wrap8_in _ (by omega) (by omega)), ?_⟩) | (refine ⟨_, rfl, ?_⟩) | (refine ⟨_, SomF.out (by assumption), ?_⟩) | (refine And.intro (by omega) ?_))))) | ((with_reducible apply n_guardN); (case hs => exact rfl); (case hv => exact rfl); (case hd => exact rfl)) | ((with_reducible apply n_guardU); (case hs => exact rfl); (case hv => exact rfl); (case hd => exact rfl)) | ((with_reducible apply g_val); (case hq => exact rfl); (case hv => exact rfl); (case he => (intro R hR; repeat ((try conv => whnf); first | (with_reducible exact eqs_i hR) | (with_reducible exact nes_i hR) | (with_reducible exact eqs_s hR) | (with_reducible exact nes_s hR) | exact hR | (with_reducible refine ⟨_, sv (EqF.out (by assumption)), ?_⟩) | (with_reducible refine And.intro (SideF.out (by assumption)) ?_) | (with_reducible refine And.intro (Nat.zero_le _) ?_) | (with_reducible refine And.intro rfl ?_) | (with_reducible refine ⟨_, idx_at (by omega), ?_⟩) | (with_reducible refine ⟨fun _ => ?_, fun h => Bool.noConfusion h⟩) | (with_reducible refine ⟨fun h => Bool.noConfusion h, fun _ => ?_⟩) | (with_reducible refine ⟨_, sv (wrap_in _ (by omega) (by omega)), ?_⟩) | (with_reducible refine ⟨_, sv (wrapu_in _ (by omega) (by omega)), ?_⟩) | (with_reducible refine ⟨_, sv (wrap8_in _ (by omega) (by omega)), ?_⟩) | (refine ⟨_, rfl, ?_⟩) | (refine ⟨_, SomF.out (by assumption), ?_⟩) | (refine And.intro (by omega) ?_)))); (case hd => exact rfl)) | ((with_reducible apply g_none); (case hq => exact rfl); (case hv => exact rfl); (case he => (intro R hR; repeat ((try conv => whnf); first | (with_reducible exact eqs_i hR) | (with_reducible exact nes_i hR) | (with_reducible exact eqs_s hR) | (with_reducible exact nes_s hR) | exact hR | (with_reducible refine ⟨_, sv (EqF.out (by assumption)), ?_⟩) | (with_reducible refine And.intro (SideF.out (by assumption)) ?_) | (with_reducible refine And.intro (Nat.zero_le _) ?_) | (with_reducible refine And.intro rfl ?_) | (with_reducible refine ⟨_, idx_at (by omega), ?_⟩) | (with_reducible refine ⟨fun _ => ?_, fun h => Bool.noConfusion h⟩) | (with_reducible refine ⟨fun h => Bool.noConfusion h, fun _ => ?_⟩) | (with_reducible refine ⟨_, sv (wrap_in _ (by omega) (by omega)), ?_⟩) | (with_reducible refine ⟨_, sv (wrapu_in _ (by omega) (by omega)), ?_⟩) | (with_reducible refine ⟨_, sv (wrap8_in _ (by omega) (by omega)), ?_⟩) | (refine ⟨_, rfl, ?_⟩) | (refine ⟨_, SomF.out (by assumption), ?_⟩) | (refine And.intro (by omega) ?_))))) | ((with_reducible apply g_mem); (case hq => exact rfl); (case hv => exact rfl); (case he => (intro R hR; repeat ((try conv => whnf); first | (with_reducible exact eqs_i hR) | (with_reducible exact nes_i hR) | (with_reducible exact eqs_s hR) | (with_reducible exact nes_s hR) | exact hR | (with_reducible refine ⟨_, sv (EqF.out (by assumption)), ?_⟩) | (with_reducible refine And.intro (SideF.out (by assumption)) ?_) | (with_reducible refine And.intro (Nat.zero_le _) ?_) | (with_reducible refine And.intro rfl ?_) | (with_reducible refine ⟨_, idx_at (by omega), ?_⟩) | (with_reducible refine ⟨fun _ => ?_, fun h => Bool.noConfusion h⟩) | (with_reducible refine ⟨fun h => Bool.noConfusion h, fun _ => ?_⟩) | (with_reducible refine ⟨_, sv (wrap_in _ (by omega) (by omega)), ?_⟩) | (with_reducible refine ⟨_, sv (wrapu_in _ (by omega) (by omega)), ?_⟩) | (with_reducible refine ⟨_, sv (wrap8_in _ (by omega) (by omega)), ?_⟩) | (refine ⟨_, rfl, ?_⟩) | (refine ⟨_, SomF.out (by assumption), ?_⟩) | (refine And.intro (by omega) ?_)))); (case hd => exact rfl)) | ((with_reducible apply n_nil)) | ((with_reducible apply c_seq)) | ((with_reducible apply seqQ_n)) | ((with_reducible apply c_region)) | ((with_reducible apply c_condT); (case he => exact rfl)) | ((with_reducible apply c_condF); (case he => exact rfl)) | ((with_reducible apply c_block)) | ((with_reducible apply c_skip)) | ((with_reducible apply c_exit)) | ((with_reducible apply c_ret)) | ((with_reducible apply seqQ_x)) | ((with_reducible apply seqQ_r)) | ((with_reducible apply blockQ_n)) | ((with_reducible apply blockQ_r)) | ((with_reducible apply blockQ_x); (case hb => exact rfl)) | ((with_reducible apply blockQ_y); (case hb => exact rfl)) | ((with_reducible apply loopQ_x)) | ((with_reducible apply loopQ_r)) | ((with_reducible apply c_label)) | ((with_reducible apply e_none); (case ho => exact rfl); (case hb => exact rfl); (case he => (intro R hR; repeat ((try conv => whnf); first | (with_reducible exact eqs_i hR) | (with_reducible exact nes_i hR) | (with_reducible exact eqs_s hR) | (with_reducible exact nes_s hR) | exact hR | (with_reducible refine ⟨_, sv (EqF.out (by assumption)), ?_⟩) | (with_reducible refine And.intro (SideF.out (by assumption)) ?_) | (with_reducible refine And.intro (Nat.zero_le _) ?_) | (with_reducible refine And.intro rfl ?_) | (with_reducible refine ⟨_, idx_at (by omega), ?_⟩) | (with_reducible refine ⟨fun _ => ?_, fun h => Bool.noConfusion h⟩) | (with_reducible refine ⟨fun h => Bool.noConfusion h, fun _ => ?_⟩) | (with_reducible refine ⟨_, sv (wrap_in _ (by omega) (by omega)), ?_⟩) | (with_reducible refine ⟨_, sv (wrapu_in _ (by omega) (by omega)), ?_⟩) | (with_reducible refine ⟨_, sv (wrap8_in _ (by omega) (by omega)), ?_⟩) | (refine ⟨_, rfl, ?_⟩) | (refine ⟨_, SomF.out (by assumption), ?_⟩) | (refine And.intro (by omega) ?_))))) | ((with_reducible apply e_valY); (case ho => exact rfl); (case hs => exact rfl); (case hv => exact rfl); (case hb => exact rfl); (case he => (intro R hR; repeat ((try conv => whnf); first | (with_reducible exact eqs_i hR) | (with_reducible exact nes_i hR) | (with_reducible exact eqs_s hR) | (with_reducible exact nes_s hR) | exact hR | (with_reducible refine ⟨_, sv (EqF.out (by assumption)), ?_⟩) | (with_reducible refine And.intro (SideF.out (by assumption)) ?_) | (with_reducible refine And.intro (Nat.zero_le _) ?_) | (with_reducible refine And.intro rfl ?_) | (with_reducible refine ⟨_, idx_at (by omega), ?_⟩) | (with_reducible refine ⟨fun _ => ?_, fun h => Bool.noConfusion h⟩) | (with_reducible refine ⟨fun h => Bool.noConfusion h, fun _ => ?_⟩) | (with_reducible refine ⟨_, sv (wrap_in _ (by omega) (by omega)), ?_⟩) | (with_reducible refine ⟨_, sv (wrapu_in _ (by omega) (by omega)), ?_⟩) | (with_reducible refine ⟨_, sv (wrap8_in _ (by omega) (by omega)), ?_⟩) | (refine ⟨_, rfl, ?_⟩) | (refine ⟨_, SomF.out (by assumption), ?_⟩) | (refine And.intro (by omega) ?_))))) | ((with_reducible apply e_mem); (case ho => exact rfl); (case hb => exact rfl); (case he => (intro R hR; repeat ((try conv => whnf); first | (with_reducible exact eqs_i hR) | (with_reducible exact nes_i hR) | (with_reducible exact eqs_s hR) | (with_reducible exact nes_s hR) | exact hR | (with_reducible refine ⟨_, sv (EqF.out (by assumption)), ?_⟩) | (with_reducible refine And.intro (SideF.out (by assumption)) ?_) | (with_reducible refine And.intro (Nat.zero_le _) ?_) | (with_reducible refine And.intro rfl ?_) | (with_reducible refine ⟨_, idx_at (by omega), ?_⟩) | (with_reducible refine ⟨fun _ => ?_, fun h => Bool.noConfusion h⟩) | (with_reducible refine ⟨fun h => Bool.noConfusion h, fun _ => ?_⟩) | (with_reducible refine ⟨_, sv (wrap_in _ (by omega) (by omega)), ?_⟩) | (with_reducible refine ⟨_, sv (wrapu_in _ (by omega) (by omega)), ?_⟩) | (with_reducible refine ⟨_, sv (wrap8_in _ (by omega) (by omega)), ?_⟩) | (refine ⟨_, rfl, ?_⟩) | (refine ⟨_, SomF.out (by assumption), ?_⟩) | (refine And.intro (by omega) ?_))))) | ((with_reducible apply d_next)) | ((with_reducible apply d_step); (case ho => exact rfl)) | ((with_reducible apply d_guardN); (case hs => exact rfl); (case hv => exact rfl); (case hd => exact rfl)) | ((with_reducible apply d_guardU); (case hs => exact rfl); (case hv => exact rfl); (case hd => exact rfl)) | ((with_reducible apply d_guardY); (case hs => exact rfl); (case hv => exact rfl)) | ((with_reducible apply d_go)) | ((with_reducible apply gd_val); (case hv => exact rfl); (case he => (intro R hR; repeat ((try conv => whnf); first | (with_reducible exact eqs_i hR) | (with_reducible exact nes_i hR) | (with_reducible exact eqs_s hR) | (with_reducible exact nes_s hR) | exact hR | (with_reducible refine ⟨_, sv (EqF.out (by assumption)), ?_⟩) | (with_reducible refine And.intro (SideF.out (by assumption)) ?_) | (with_reducible refine And.intro (Nat.zero_le _) ?_) | (with_reducible refine And.intro rfl ?_) | (with_reducible refine ⟨_, idx_at (by omega), ?_⟩) | (with_reducible refine ⟨fun _ => ?_, fun h => Bool.noConfusion h⟩) | (with_reducible refine ⟨fun h => Bool.noConfusion h, fun _ => ?_⟩) | (with_reducible refine ⟨_, sv (wrap_in _ (by omega) (by omega)), ?_⟩) | (with_reducible refine ⟨_, sv (wrapu_in _ (by omega) (by omega)), ?_⟩) | (with_reducible refine ⟨_, sv (wrap8_in _ (by omega) (by omega)), ?_⟩) | (refine ⟨_, rfl, ?_⟩) | (refine ⟨_, SomF.out (by assumption), ?_⟩) | (refine And.intro (by omega) ?_)))); (case hd => exact rfl)) | ((with_reducible apply gd_none); (case hv => exact rfl); (case he => (intro R hR; repeat ((try conv => whnf); first | (with_reducible exact eqs_i hR) | (with_reducible exact nes_i hR) | (with_reducible exact eqs_s hR) | (with_reducible exact nes_s hR) | exact hR | (with_reducible refine ⟨_, sv (EqF.out (by assumption)), ?_⟩) | (with_reducible refine And.intro (SideF.out (by assumption)) ?_) | (with_reducible refine And.intro (Nat.zero_le _) ?_) | (with_reducible refine And.intro rfl ?_) | (with_reducible refine ⟨_, idx_at (by omega), ?_⟩) | (with_reducible refine ⟨fun _ => ?_, fun h => Bool.noConfusion h⟩) | (with_reducible refine ⟨fun h => Bool.noConfusion h, fun _ => ?_⟩) | (with_reducible refine ⟨_, sv (wrap_in _ (by omega) (by omega)), ?_⟩) | (with_reducible refine ⟨_, sv (wrapu_in _ (by omega) (by omega)), ?_⟩) | (with_reducible refine ⟨_, sv (wrap8_in _ (by omega) (by omega)), ?_⟩) | (refine ⟨_, rfl, ?_⟩) | (refine ⟨_, SomF.out (by assumption), ?_⟩) | (refine And.intro (by omega) ?_))))) | ((with_reducible apply gd_mem); (case hv => exact rfl); (case he => (intro R hR; repeat ((try conv => whnf); first | (with_reducible exact eqs_i hR) | (with_reducible exact nes_i hR) | (with_reducible exact eqs_s hR) | (with_reducible exact nes_s hR) | exact hR | (with_reducible refine ⟨_, sv (EqF.out (by assumption)), ?_⟩) | (with_reducible refine And.intro (SideF.out (by assumption)) ?_) | (with_reducible refine And.intro (Nat.zero_le _) ?_) | (with_reducible refine And.intro rfl ?_) | (with_reducible refine ⟨_, idx_at (by omega), ?_⟩) | (with_reducible refine ⟨fun _ => ?_, fun h => Bool.noConfusion h⟩) | (with_reducible refine ⟨fun h => Bool.noConfusion h, fun _ => ?_⟩) | (with_reducible refine ⟨_, sv (wrap_in _ (by omega) (by omega)), ?_⟩) | (with_reducible refine ⟨_, sv (wrapu_in _ (by omega) (by omega)), ?_⟩) | (with_reducible refine ⟨_, sv (wrap8_in _ (by omega) (by omega)), ?_⟩) | (refine ⟨_, rfl, ?_⟩) | (refine ⟨_, SomF.out (by assumption), ?_⟩) | (refine And.intro (by omega) ?_)))); (case hd => exact rfl)) | ((with_reducible apply n_guardY); (case hs => exact rfl); (case hv => exact rfl)) | ((with_reducible apply n_go)))); exact hq.out) : p := s ⟨h⟩
theorem vm {n0 : Nat} {E' : VE} {M' : VM} {n' : Nat} {E : VE} {M : VM} (σ bs : List (Nat × Nat)) (h1 : mE (sigA n0 σ) (fzb M bs) E' E := by (repeat (first | exact trivial | refine ⟨Nat.le_refl _, ?_⟩ | (refine ⟨⟨_, rfl, ?_⟩, ?_⟩; focus (first | exact ⟨rfl, rfl⟩ | exact .inr ⟨rfl, rfl⟩ | exact .inr ⟨rfl, rfl, rfl, Nat.le_refl _, rfl⟩ | exact .inl rfl | exact .inl ⟨rfl, rfl⟩ | exact ⟨_, rfl, rfl⟩ | exact .inr ⟨_, rfl, rfl⟩ | exact .inl ⟨rfl, rfl, rfl⟩ | exact ⟨congrArg (MV.int _) (by omega), rfl⟩ | exact .inr ⟨rfl, rfl, rfl, Nat.le_of_eq (Nat.zero_add _), cut_all _ _⟩ | (refine .inr ⟨_, rfl, ?_⟩; focus (first | exact ⟨rfl, rfl⟩ | exact .inr ⟨rfl, rfl⟩ | exact .inr ⟨rfl, rfl, rfl, Nat.le_refl _, rfl⟩ | exact .inl rfl | exact .inl ⟨rfl, rfl⟩ | exact ⟨_, rfl, rfl⟩ | exact .inr ⟨_, rfl, rfl⟩ | exact .inl ⟨rfl, rfl, rfl⟩ | exact ⟨congrArg (MV.int _) (by omega), rfl⟩ | exact .inr ⟨rfl, rfl, rfl, Nat.le_of_eq (Nat.zero_add _), cut_all _ _⟩ | (refine .inr ⟨_, rfl, ?_⟩; focus (first | exact ⟨rfl, rfl⟩ | exact .inr ⟨rfl, rfl⟩ | exact .inr ⟨rfl, rfl, rfl, Nat.le_refl _, rfl⟩ | exact .inl rfl | exact .inl ⟨rfl, rfl⟩ | exact ⟨_, rfl, rfl⟩ | exact .inr ⟨_, rfl, rfl⟩ | exact .inl ⟨rfl, rfl, rfl⟩ | exact ⟨congrArg (MV.int _) (by omega), rfl⟩ | exact .inr ⟨rfl, rfl, rfl, Nat.le_of_eq (Nat.zero_add _), cut_all _ _⟩ | (refine .inr ⟨_, rfl, ?_⟩; focus (first | exact ⟨rfl, rfl⟩ | exact .inr ⟨rfl, rfl⟩ | exact .inr ⟨rfl, rfl, rfl, Nat.le_refl _, rfl⟩ | exact .inl rfl | exact .inl ⟨rfl, rfl⟩ | exact ⟨_, rfl, rfl⟩ | exact .inr ⟨_, rfl, rfl⟩ | exact .inl ⟨rfl, rfl, rfl⟩ | exact ⟨congrArg (MV.int _) (by omega), rfl⟩ | exact .inr ⟨rfl, rfl, rfl, Nat.le_of_eq (Nat.zero_add _), cut_all _ _⟩); done) | (refine .inr ⟨_, rfl, ?_⟩; focus (repeat (first | exact trivial | (refine And.intro ?_ ?_; focus (first | exact ⟨rfl, rfl⟩ | exact .inr ⟨rfl, rfl⟩ | exact .inr ⟨rfl, rfl, rfl, Nat.le_refl _, rfl⟩ | exact .inl rfl | exact .inl ⟨rfl, rfl⟩ | exact ⟨_, rfl, rfl⟩ | exact .inr ⟨_, rfl, rfl⟩ | exact .inl ⟨rfl, rfl, rfl⟩ | exact ⟨congrArg (MV.int _) (by omega), rfl⟩ | exact .inr ⟨rfl, rfl, rfl, Nat.le_of_eq (Nat.zero_add _), cut_all _ _⟩)))); done)); done) | (refine .inr ⟨_, rfl, ?_⟩; focus (repeat (first | exact trivial | (refine And.intro ?_ ?_; focus (first | exact ⟨rfl, rfl⟩ | exact .inr ⟨rfl, rfl⟩ | exact .inr ⟨rfl, rfl, rfl, Nat.le_refl _, rfl⟩ | exact .inl rfl | exact .inl ⟨rfl, rfl⟩ | exact ⟨_, rfl, rfl⟩ | exact .inr ⟨_, rfl, rfl⟩ | exact .inl ⟨rfl, rfl, rfl⟩ | exact ⟨congrArg (MV.int _) (by omega), rfl⟩ | exact .inr ⟨rfl, rfl, rfl, Nat.le_of_eq (Nat.zero_add _), cut_all _ _⟩ | (refine .inr ⟨_, rfl, ?_⟩; focus (first | exact ⟨rfl, rfl⟩ | exact .inr ⟨rfl, rfl⟩ | exact .inr ⟨rfl, rfl, rfl, Nat.le_refl _, rfl⟩ | exact .inl rfl | exact .inl ⟨rfl, rfl⟩ | exact ⟨_, rfl, rfl⟩ | exact .inr ⟨_, rfl, rfl⟩ | exact .inl ⟨rfl, rfl, rfl⟩ | exact ⟨congrArg (MV.int _) (by omega), rfl⟩ | exact .inr ⟨rfl, rfl, rfl, Nat.le_of_eq (Nat.zero_add _), cut_all _ _⟩); done) | (refine .inr ⟨_, rfl, ?_⟩; focus (repeat (first | exact trivial | (refine And.intro ?_ ?_; focus (first | exact ⟨rfl, rfl⟩ | exact .inr ⟨rfl, rfl⟩ | exact .inr ⟨rfl, rfl, rfl, Nat.le_refl _, rfl⟩ | exact .inl rfl | exact .inl ⟨rfl, rfl⟩ | exact ⟨_, rfl, rfl⟩ | exact .inr ⟨_, rfl, rfl⟩ | exact .inl ⟨rfl, rfl, rfl⟩ | exact ⟨congrArg (MV.int _) (by omega), rfl⟩ | exact .inr ⟨rfl, rfl, rfl, Nat.le_of_eq (Nat.zero_add _), cut_all _ _⟩)))); done))))); done)); done) | (refine .inr ⟨_, rfl, ?_⟩; focus (repeat (first | exact trivial | (refine And.intro ?_ ?_; focus (first | exact ⟨rfl, rfl⟩ | exact .inr ⟨rfl, rfl⟩ | exact .inr ⟨rfl, rfl, rfl, Nat.le_refl _, rfl⟩ | exact .inl rfl | exact .inl ⟨rfl, rfl⟩ | exact ⟨_, rfl, rfl⟩ | exact .inr ⟨_, rfl, rfl⟩ | exact .inl ⟨rfl, rfl, rfl⟩ | exact ⟨congrArg (MV.int _) (by omega), rfl⟩ | exact .inr ⟨rfl, rfl, rfl, Nat.le_of_eq (Nat.zero_add _), cut_all _ _⟩ | (refine .inr ⟨_, rfl, ?_⟩; focus (first | exact ⟨rfl, rfl⟩ | exact .inr ⟨rfl, rfl⟩ | exact .inr ⟨rfl, rfl, rfl, Nat.le_refl _, rfl⟩ | exact .inl rfl | exact .inl ⟨rfl, rfl⟩ | exact ⟨_, rfl, rfl⟩ | exact .inr ⟨_, rfl, rfl⟩ | exact .inl ⟨rfl, rfl, rfl⟩ | exact ⟨congrArg (MV.int _) (by omega), rfl⟩ | exact .inr ⟨rfl, rfl, rfl, Nat.le_of_eq (Nat.zero_add _), cut_all _ _⟩ | (refine .inr ⟨_, rfl, ?_⟩; focus (first | exact ⟨rfl, rfl⟩ | exact .inr ⟨rfl, rfl⟩ | exact .inr ⟨rfl, rfl, rfl, Nat.le_refl _, rfl⟩ | exact .inl rfl | exact .inl ⟨rfl, rfl⟩ | exact ⟨_, rfl, rfl⟩ | exact .inr ⟨_, rfl, rfl⟩ | exact .inl ⟨rfl, rfl, rfl⟩ | exact ⟨congrArg (MV.int _) (by omega), rfl⟩ | exact .inr ⟨rfl, rfl, rfl, Nat.le_of_eq (Nat.zero_add _), cut_all _ _⟩); done) | (refine .inr ⟨_, rfl, ?_⟩; focus (repeat (first | exact trivial | (refine And.intro ?_ ?_; focus (first | exact ⟨rfl, rfl⟩ | exact .inr ⟨rfl, rfl⟩ | exact .inr ⟨rfl, rfl, rfl, Nat.le_refl _, rfl⟩ | exact .inl rfl | exact .inl ⟨rfl, rfl⟩ | exact ⟨_, rfl, rfl⟩ | exact .inr ⟨_, rfl, rfl⟩ | exact .inl ⟨rfl, rfl, rfl⟩ | exact ⟨congrArg (MV.int _) (by omega), rfl⟩ | exact .inr ⟨rfl, rfl, rfl, Nat.le_of_eq (Nat.zero_add _), cut_all _ _⟩)))); done)); done) | (refine .inr ⟨_, rfl, ?_⟩; focus (repeat (first | exact trivial | (refine And.intro ?_ ?_; focus (first | exact ⟨rfl, rfl⟩ | exact .inr ⟨rfl, rfl⟩ | exact .inr ⟨rfl, rfl, rfl, Nat.le_refl _, rfl⟩ | exact .inl rfl | exact .inl ⟨rfl, rfl⟩ | exact ⟨_, rfl, rfl⟩ | exact .inr ⟨_, rfl, rfl⟩ | exact .inl ⟨rfl, rfl, rfl⟩ | exact ⟨congrArg (MV.int _) (by omega), rfl⟩ | exact .inr ⟨rfl, rfl, rfl, Nat.le_of_eq (Nat.zero_add _), cut_all _ _⟩ | (refine .inr ⟨_, rfl, ?_⟩; focus (first | exact ⟨rfl, rfl⟩ | exact .inr ⟨rfl, rfl⟩ | exact .inr ⟨rfl, rfl, rfl, Nat.le_refl _, rfl⟩ | exact .inl rfl | exact .inl ⟨rfl, rfl⟩ | exact ⟨_, rfl, rfl⟩ | exact .inr ⟨_, rfl, rfl⟩ | exact .inl ⟨rfl, rfl, rfl⟩ | exact ⟨congrArg (MV.int _) (by omega), rfl⟩ | exact .inr ⟨rfl, rfl, rfl, Nat.le_of_eq (Nat.zero_add _), cut_all _ _⟩); done) | (refine .inr ⟨_, rfl, ?_⟩; focus (repeat (first | exact trivial | (refine And.intro ?_ ?_; focus (first | exact ⟨rfl, rfl⟩ | exact .inr ⟨rfl, rfl⟩ | exact .inr ⟨rfl, rfl, rfl, Nat.le_refl _, rfl⟩ | exact .inl rfl | exact .inl ⟨rfl, rfl⟩ | exact ⟨_, rfl, rfl⟩ | exact .inr ⟨_, rfl, rfl⟩ | exact .inl ⟨rfl, rfl, rfl⟩ | exact ⟨congrArg (MV.int _) (by omega), rfl⟩ | exact .inr ⟨rfl, rfl, rfl, Nat.le_of_eq (Nat.zero_add _), cut_all _ _⟩)))); done))))); done))))); done))) | refine ⟨.inl ⟨rfl, rfl, rfl, rfl⟩, ?_⟩ | refine ⟨.inr ⟨_, _, rfl, rfl, rfl, rfl, rfl, .inl rfl, .inl ⟨rfl, rfl⟩⟩, ?_⟩ | refine ⟨.inr ⟨_, _, rfl, rfl, rfl, rfl, rfl, .inl rfl, .inl ⟨(by simp [u8s]), rfl⟩⟩, ?_⟩ | refine ⟨.inr ⟨_, _, rfl, rfl, rfl, rfl, rfl, .inr ⟨(by first | exact Nat.max_le.2 ⟨Nat.zero_le _, Nat.le_refl _⟩ | exact Nat.max_le.2 ⟨Nat.le_refl _, Nat.le_refl _⟩), (by simp [u8s])⟩, .inl ⟨rfl, rfl⟩⟩, ?_⟩ | (refine ⟨.inr ⟨_, _, rfl, rfl, rfl, rfl, rfl, .inl rfl, .inr ⟨?_, trivial⟩⟩, ?_⟩; focus (first | exact ⟨rfl, rfl⟩ | exact .inr ⟨rfl, rfl⟩ | exact .inr ⟨rfl, rfl, rfl, Nat.le_refl _, rfl⟩ | exact .inl rfl | exact .inl ⟨rfl, rfl⟩ | exact ⟨_, rfl, rfl⟩ | exact .inr ⟨_, rfl, rfl⟩ | exact .inl ⟨rfl, rfl, rfl⟩ | exact ⟨congrArg (MV.int _) (by omega), rfl⟩ | exact .inr ⟨rfl, rfl, rfl, Nat.le_of_eq (Nat.zero_add _), cut_all _ _⟩ | (refine .inr ⟨_, rfl, ?_⟩; focus (first | exact ⟨rfl, rfl⟩ | exact .inr ⟨rfl, rfl⟩ | exact .inr ⟨rfl, rfl, rfl, Nat.le_refl _, rfl⟩ | exact .inl rfl | exact .inl ⟨rfl, rfl⟩ | exact ⟨_, rfl, rfl⟩ | exact .inr ⟨_, rfl, rfl⟩ | exact .inl ⟨rfl, rfl, rfl⟩ | exact ⟨congrArg (MV.int _) (by omega), rfl⟩ | exact .inr ⟨rfl, rfl, rfl, Nat.le_of_eq (Nat.zero_add _), cut_all _ _⟩ | (refine .inr ⟨_, rfl, ?_⟩; focus (first | exact ⟨rfl, rfl⟩ | exact .inr ⟨rfl, rfl⟩ | exact .inr ⟨rfl, rfl, rfl, Nat.le_refl _, rfl⟩ | exact .inl rfl | exact .inl ⟨rfl, rfl⟩ | exact ⟨_, rfl, rfl⟩ | exact .inr ⟨_, rfl, rfl⟩ | exact .inl ⟨rfl, rfl, rfl⟩ | exact ⟨congrArg (MV.int _) (by omega), rfl⟩ | exact .inr ⟨rfl, rfl, rfl, Nat.le_of_eq (Nat.zero_add _), cut_all _ _⟩ | (refine .inr ⟨_, rfl, ?_⟩; focus (first | exact ⟨rfl, rfl⟩ | exact .inr ⟨rfl, rfl⟩ | exact .inr ⟨rfl, rfl, rfl, Nat.le_refl _, rfl⟩ | exact .inl rfl | exact .inl ⟨rfl, rfl⟩ | exact ⟨_, rfl, rfl⟩ | exact .inr ⟨_, rfl, rfl⟩ | exact .inl ⟨rfl, rfl, rfl⟩ | exact ⟨congrArg (MV.int _) (by omega), rfl⟩ | exact .inr ⟨rfl, rfl, rfl, Nat.le_of_eq (Nat.zero_add _), cut_all _ _⟩); done) | (refine .inr ⟨_, rfl, ?_⟩; focus (repeat (first | exact trivial | (refine And.intro ?_ ?_; focus (first | exact ⟨rfl, rfl⟩ | exact .inr ⟨rfl, rfl⟩ | exact .inr ⟨rfl, rfl, rfl, Nat.le_refl _, rfl⟩ | exact .inl rfl | exact .inl ⟨rfl, rfl⟩ | exact ⟨_, rfl, rfl⟩ | exact .inr ⟨_, rfl, rfl⟩ | exact .inl ⟨rfl, rfl, rfl⟩ | exact ⟨congrArg (MV.int _) (by omega), rfl⟩ | exact .inr ⟨rfl, rfl, rfl, Nat.le_of_eq (Nat.zero_add _), cut_all _ _⟩)))); done)); done) | (refine .inr ⟨_, rfl, ?_⟩; focus (repeat (first | exact trivial | (refine And.intro ?_ ?_; focus (first | exact ⟨rfl, rfl⟩ | exact .inr ⟨rfl, rfl⟩ | exact .inr ⟨rfl, rfl, rfl, Nat.le_refl _, rfl⟩ | exact .inl rfl | exact .inl ⟨rfl, rfl⟩ | exact ⟨_, rfl, rfl⟩ | exact .inr ⟨_, rfl, rfl⟩ | exact .inl ⟨rfl, rfl, rfl⟩ | exact ⟨congrArg (MV.int _) (by omega), rfl⟩ | exact .inr ⟨rfl, rfl, rfl, Nat.le_of_eq (Nat.zero_add _), cut_all _ _⟩ | (refine .inr ⟨_, rfl, ?_⟩; focus (first | exact ⟨rfl, rfl⟩ | exact .inr ⟨rfl, rfl⟩ | exact .inr ⟨rfl, rfl, rfl, Nat.le_refl _, rfl⟩ | exact .inl rfl | exact .inl ⟨rfl, rfl⟩ | exact ⟨_, rfl, rfl⟩ | exact .inr ⟨_, rfl, rfl⟩ | exact .inl ⟨rfl, rfl, rfl⟩ | exact ⟨congrArg (MV.int _) (by omega), rfl⟩ | exact .inr ⟨rfl, rfl, rfl, Nat.le_of_eq (Nat.zero_add _), cut_all _ _⟩); done) | (refine .inr ⟨_, rfl, ?_⟩; focus (repeat (first | exact trivial | (refine And.intro ?_ ?_; focus (first | exact ⟨rfl, rfl⟩ | exact .inr ⟨rfl, rfl⟩ | exact .inr ⟨rfl, rfl, rfl, Nat.le_refl _, rfl⟩ | exact .inl rfl | exact .inl ⟨rfl, rfl⟩ | exact ⟨_, rfl, rfl⟩ | exact .inr ⟨_, rfl, rfl⟩ | exact .inl ⟨rfl, rfl, rfl⟩ | exact ⟨congrArg (MV.int _) (by omega), rfl⟩ | exact .inr ⟨rfl, rfl, rfl, Nat.le_of_eq (Nat.zero_add _), cut_all _ _⟩)))); done))))); done)); done) | (refine .inr ⟨_, rfl, ?_⟩; focus (repeat (first | exact trivial | (refine And.intro ?_ ?_; focus (first | exact ⟨rfl, rfl⟩ | exact .inr ⟨rfl, rfl⟩ | exact .inr ⟨rfl, rfl, rfl, Nat.le_refl _, rfl⟩ | exact .inl rfl | exact .inl ⟨rfl, rfl⟩ | exact ⟨_, rfl, rfl⟩ | exact .inr ⟨_, rfl, rfl⟩ | exact .inl ⟨rfl, rfl, rfl⟩ | exact ⟨congrArg (MV.int _) (by omega), rfl⟩ | exact .inr ⟨rfl, rfl, rfl, Nat.le_of_eq (Nat.zero_add _), cut_all _ _⟩ | (refine .inr ⟨_, rfl, ?_⟩; focus (first | exact ⟨rfl, rfl⟩ | exact .inr ⟨rfl, rfl⟩ | exact .inr ⟨rfl, rfl, rfl, Nat.le_refl _, rfl⟩ | exact .inl rfl | exact .inl ⟨rfl, rfl⟩ | exact ⟨_, rfl, rfl⟩ | exact .inr ⟨_, rfl, rfl⟩ | exact .inl ⟨rfl, rfl, rfl⟩ | exact ⟨congrArg (MV.int _) (by omega), rfl⟩ | exact .inr ⟨rfl, rfl, rfl, Nat.le_of_eq (Nat.zero_add _), cut_all _ _⟩ | (refine .inr ⟨_, rfl, ?_⟩; focus (first | exact ⟨rfl, rfl⟩ | exact .inr ⟨rfl, rfl⟩ | exact .inr ⟨rfl, rfl, rfl, Nat.le_refl _, rfl⟩ | exact .inl rfl | exact .inl ⟨rfl, rfl⟩ | exact ⟨_, rfl, rfl⟩ | exact .inr ⟨_, rfl, rfl⟩ | exact .inl ⟨rfl, rfl, rfl⟩ | exact ⟨congrArg (MV.int _) (by omega), rfl⟩ | exact .inr ⟨rfl, rfl, rfl, Nat.le_of_eq (Nat.zero_add _), cut_all _ _⟩); done) | (refine .inr ⟨_, rfl, ?_⟩; focus (repeat (first | exact trivial | (refine And.intro ?_ ?_; focus (first | exact ⟨rfl, rfl⟩ | exact .inr ⟨rfl, rfl⟩ | exact .inr ⟨rfl, rfl, rfl, Nat.le_refl _, rfl⟩ | exact .inl rfl | exact .inl ⟨rfl, rfl⟩ | exact ⟨_, rfl, rfl⟩ | exact .inr ⟨_, rfl, rfl⟩ | exact .inl ⟨rfl, rfl, rfl⟩ | exact ⟨congrArg (MV.int _) (by omega), rfl⟩ | exact .inr ⟨rfl, rfl, rfl, Nat.le_of_eq (Nat.zero_add _), cut_all _ _⟩)))); done)); done) | (refine .inr ⟨_, rfl, ?_⟩; focus (repeat (first | exact trivial | (refine And.intro ?_ ?_; focus (first | exact ⟨rfl, rfl⟩ | exact .inr ⟨rfl, rfl⟩ | exact .inr ⟨rfl, rfl, rfl, Nat.le_refl _, rfl⟩ | exact .inl rfl | exact .inl ⟨rfl, rfl⟩ | exact ⟨_, rfl, rfl⟩ | exact .inr ⟨_, rfl, rfl⟩ | exact .inl ⟨rfl, rfl, rfl⟩ | exact ⟨congrArg (MV.int _) (by omega), rfl⟩ | exact .inr ⟨rfl, rfl, rfl, Nat.le_of_eq (Nat.zero_add _), cut_all _ _⟩ | (refine .inr ⟨_, rfl, ?_⟩; focus (first | exact ⟨rfl, rfl⟩ | exact .inr ⟨rfl, rfl⟩ | exact .inr ⟨rfl, rfl, rfl, Nat.le_refl _, rfl⟩ | exact .inl rfl | exact .inl ⟨rfl, rfl⟩ | exact ⟨_, rfl, rfl⟩ | exact .inr ⟨_, rfl, rfl⟩ | exact .inl ⟨rfl, rfl, rfl⟩ | exact ⟨congrArg (MV.int _) (by omega), rfl⟩ | exact .inr ⟨rfl, rfl, rfl, Nat.le_of_eq (Nat.zero_add _), cut_all _ _⟩); done) | (refine .inr ⟨_, rfl, ?_⟩; focus (repeat (first | exact trivial | (refine And.intro ?_ ?_; focus (first | exact ⟨rfl, rfl⟩ | exact .inr ⟨rfl, rfl⟩ | exact .inr ⟨rfl, rfl, rfl, Nat.le_refl _, rfl⟩ | exact .inl rfl | exact .inl ⟨rfl, rfl⟩ | exact ⟨_, rfl, rfl⟩ | exact .inr ⟨_, rfl, rfl⟩ | exact .inl ⟨rfl, rfl, rfl⟩ | exact ⟨congrArg (MV.int _) (by omega), rfl⟩ | exact .inr ⟨rfl, rfl, rfl, Nat.le_of_eq (Nat.zero_add _), cut_all _ _⟩)))); done))))); done))))); done))) | refine ⟨(show _ ≤ _ by simp [u8s]), ?_⟩))) (h2 : mM (sigA n0 σ) (fzb M bs) M' (VM.bump M bs) := by (repeat (first | exact trivial | refine ⟨Nat.le_refl _, ?_⟩ | (refine ⟨⟨_, rfl, ?_⟩, ?_⟩; focus (first | exact ⟨rfl, rfl⟩ | exact .inr ⟨rfl, rfl⟩ | exact .inr ⟨rfl, rfl, rfl, Nat.le_refl _, rfl⟩ | exact .inl rfl | exact .inl ⟨rfl, rfl⟩ | exact ⟨_, rfl, rfl⟩ | exact .inr ⟨_, rfl, rfl⟩ | exact .inl ⟨rfl, rfl, rfl⟩ | exact ⟨congrArg (MV.int _) (by omega), rfl⟩ | exact .inr ⟨rfl, rfl, rfl, Nat.le_of_eq (Nat.zero_add _), cut_all _ _⟩ | (refine .inr ⟨_, rfl, ?_⟩; focus (first | exact ⟨rfl, rfl⟩ | exact .inr ⟨rfl, rfl⟩ | exact .inr ⟨rfl, rfl, rfl, Nat.le_refl _, rfl⟩ | exact .inl rfl | exact .inl ⟨rfl, rfl⟩ | exact ⟨_, rfl, rfl⟩ | exact .inr ⟨_, rfl, rfl⟩ | exact .inl ⟨rfl, rfl, rfl⟩ | exact ⟨congrArg (MV.int _) (by omega), rfl⟩ | exact .inr ⟨rfl, rfl, rfl, Nat.le_of_eq (Nat.zero_add _), cut_all _ _⟩ | (refine .inr ⟨_, rfl, ?_⟩; focus (first | exact ⟨rfl, rfl⟩ | exact .inr ⟨rfl, rfl⟩ | exact .inr ⟨rfl, rfl, rfl, Nat.le_refl _, rfl⟩ | exact .inl rfl | exact .inl ⟨rfl, rfl⟩ | exact ⟨_, rfl, rfl⟩ | exact .inr ⟨_, rfl, rfl⟩ | exact .inl ⟨rfl, rfl, rfl⟩ | exact ⟨congrArg (MV.int _) (by omega), rfl⟩ | exact .inr ⟨rfl, rfl, rfl, Nat.le_of_eq (Nat.zero_add _), cut_all _ _⟩ | (refine .inr ⟨_, rfl, ?_⟩; focus (first | exact ⟨rfl, rfl⟩ | exact .inr ⟨rfl, rfl⟩ | exact .inr ⟨rfl, rfl, rfl, Nat.le_refl _, rfl⟩ | exact .inl rfl | exact .inl ⟨rfl, rfl⟩ | exact ⟨_, rfl, rfl⟩ | exact .inr ⟨_, rfl, rfl⟩ | exact .inl ⟨rfl, rfl, rfl⟩ | exact ⟨congrArg (MV.int _) (by omega), rfl⟩ | exact .inr ⟨rfl, rfl, rfl, Nat.le_of_eq (Nat.zero_add _), cut_all _ _⟩); done) | (refine .inr ⟨_, rfl, ?_⟩; focus (repeat (first | exact trivial | (refine And.intro ?_ ?_; focus (first | exact ⟨rfl, rfl⟩ | exact .inr ⟨rfl, rfl⟩ | exact .inr ⟨rfl, rfl, rfl, Nat.le_refl _, rfl⟩ | exact .inl rfl | exact .inl ⟨rfl, rfl⟩ | exact ⟨_, rfl, rfl⟩ | exact .inr ⟨_, rfl, rfl⟩ | exact .inl ⟨rfl, rfl, rfl⟩ | exact ⟨congrArg (MV.int _) (by omega), rfl⟩ | exact .inr ⟨rfl, rfl, rfl, Nat.le_of_eq (Nat.zero_add _), cut_all _ _⟩)))); done)); done) | (refine .inr ⟨_, rfl, ?_⟩; focus (repeat (first | exact trivial | (refine And.intro ?_ ?_; focus (first | exact ⟨rfl, rfl⟩ | exact .inr ⟨rfl, rfl⟩ | exact .inr ⟨rfl, rfl, rfl, Nat.le_refl _, rfl⟩ | exact .inl rfl | exact .inl ⟨rfl, rfl⟩ | exact ⟨_, rfl, rfl⟩ | exact .inr ⟨_, rfl, rfl⟩ | exact .inl ⟨rfl, rfl, rfl⟩ | exact ⟨congrArg (MV.int _) (by omega), rfl⟩ | exact .inr ⟨rfl, rfl, rfl, Nat.le_of_eq (Nat.zero_add _), cut_all _ _⟩ | (refine .inr ⟨_, rfl, ?_⟩; focus (first | exact ⟨rfl, rfl⟩ | exact .inr ⟨rfl, rfl⟩ | exact .inr ⟨rfl, rfl, rfl, Nat.le_refl _, rfl⟩ | exact .inl rfl | exact .inl ⟨rfl, rfl⟩ | exact ⟨_, rfl, rfl⟩ | exact .inr ⟨_, rfl, rfl⟩ | exact .inl ⟨rfl, rfl, rfl⟩ | exact ⟨congrArg (MV.int _) (by omega), rfl⟩ | exact .inr ⟨rfl, rfl, rfl, Nat.le_of_eq (Nat.zero_add _), cut_all _ _⟩); done) | (refine .inr ⟨_, rfl, ?_⟩; focus (repeat (first | exact trivial | (refine And.intro ?_ ?_; focus (first | exact ⟨rfl, rfl⟩ | exact .inr ⟨rfl, rfl⟩ | exact .inr ⟨rfl, rfl, rfl, Nat.le_refl _, rfl⟩ | exact .inl rfl | exact .inl ⟨rfl, rfl⟩ | exact ⟨_, rfl, rfl⟩ | exact .inr ⟨_, rfl, rfl⟩ | exact .inl ⟨rfl, rfl, rfl⟩ | exact ⟨congrArg (MV.int _) (by omega), rfl⟩ | exact .inr ⟨rfl, rfl, rfl, Nat.le_of_eq (Nat.zero_add _), cut_all _ _⟩)))); done))))); done)); done) | (refine .inr ⟨_, rfl, ?_⟩; focus (repeat (first | exact trivial | (refine And.intro ?_ ?_; focus (first | exact ⟨rfl, rfl⟩ | exact .inr ⟨rfl, rfl⟩ | exact .inr ⟨rfl, rfl, rfl, Nat.le_refl _, rfl⟩ | exact .inl rfl | exact .inl ⟨rfl, rfl⟩ | exact ⟨_, rfl, rfl⟩ | exact .inr ⟨_, rfl, rfl⟩ | exact .inl ⟨rfl, rfl, rfl⟩ | exact ⟨congrArg (MV.int _) (by omega), rfl⟩ | exact .inr ⟨rfl, rfl, rfl, Nat.le_of_eq (Nat.zero_add _), cut_all _ _⟩ | (refine .inr ⟨_, rfl, ?_⟩; focus (first | exact ⟨rfl, rfl⟩ | exact .inr ⟨rfl, rfl⟩ | exact .inr ⟨rfl, rfl, rfl, Nat.le_refl _, rfl⟩ | exact .inl rfl | exact .inl ⟨rfl, rfl⟩ | exact ⟨_, rfl, rfl⟩ | exact .inr ⟨_, rfl, rfl⟩ | exact .inl ⟨rfl, rfl, rfl⟩ | exact ⟨congrArg (MV.int _) (by omega), rfl⟩ | exact .inr ⟨rfl, rfl, rfl, Nat.le_of_eq (Nat.zero_add _), cut_all _ _⟩ | (refine .inr ⟨_, rfl, ?_⟩; focus (first | exact ⟨rfl, rfl⟩ | exact .inr ⟨rfl, rfl⟩ | exact .inr ⟨rfl, rfl, rfl, Nat.le_refl _, rfl⟩ | exact .inl rfl | exact .inl ⟨rfl, rfl⟩ | exact ⟨_, rfl, rfl⟩ | exact .inr ⟨_, rfl, rfl⟩ | exact .inl ⟨rfl, rfl, rfl⟩ | exact ⟨congrArg (MV.int _) (by omega), rfl⟩ | exact .inr ⟨rfl, rfl, rfl, Nat.le_of_eq (Nat.zero_add _), cut_all _ _⟩); done) | (refine .inr ⟨_, rfl, ?_⟩; focus (repeat (first | exact trivial | (refine And.intro ?_ ?_; focus (first | exact ⟨rfl, rfl⟩ | exact .inr ⟨rfl, rfl⟩ | exact .inr ⟨rfl, rfl, rfl, Nat.le_refl _, rfl⟩ | exact .inl rfl | exact .inl ⟨rfl, rfl⟩ | exact ⟨_, rfl, rfl⟩ | exact .inr ⟨_, rfl, rfl⟩ | exact .inl ⟨rfl, rfl, rfl⟩ | exact ⟨congrArg (MV.int _) (by omega), rfl⟩ | exact .inr ⟨rfl, rfl, rfl, Nat.le_of_eq (Nat.zero_add _), cut_all _ _⟩)))); done)); done) | (refine .inr ⟨_, rfl, ?_⟩; focus (repeat (first | exact trivial | (refine And.intro ?_ ?_; focus (first | exact ⟨rfl, rfl⟩ | exact .inr ⟨rfl, rfl⟩ | exact .inr ⟨rfl, rfl, rfl, Nat.le_refl _, rfl⟩ | exact .inl rfl | exact .inl ⟨rfl, rfl⟩ | exact ⟨_, rfl, rfl⟩ | exact .inr ⟨_, rfl, rfl⟩ | exact .inl ⟨rfl, rfl, rfl⟩ | exact ⟨congrArg (MV.int _) (by omega), rfl⟩ | exact .inr ⟨rfl, rfl, rfl, Nat.le_of_eq (Nat.zero_add _), cut_all _ _⟩ | (refine .inr ⟨_, rfl, ?_⟩; focus (first | exact ⟨rfl, rfl⟩ | exact .inr ⟨rfl, rfl⟩ | exact .inr ⟨rfl, rfl, rfl, Nat.le_refl _, rfl⟩ | exact .inl rfl | exact .inl ⟨rfl, rfl⟩ | exact ⟨_, rfl, rfl⟩ | exact .inr ⟨_, rfl, rfl⟩ | exact .inl ⟨rfl, rfl, rfl⟩ | exact ⟨congrArg (MV.int _) (by omega), rfl⟩ | exact .inr ⟨rfl, rfl, rfl, Nat.le_of_eq (Nat.zero_add _), cut_all _ _⟩); done) | (refine .inr ⟨_, rfl, ?_⟩; focus (repeat (first | exact trivial | (refine And.intro ?_ ?_; focus (first | exact ⟨rfl, rfl⟩ | exact .inr ⟨rfl, rfl⟩ | exact .inr ⟨rfl, rfl, rfl, Nat.le_refl _, rfl⟩ | exact .inl rfl | exact .inl ⟨rfl, rfl⟩ | exact ⟨_, rfl, rfl⟩ | exact .inr ⟨_, rfl, rfl⟩ | exact .inl ⟨rfl, rfl, rfl⟩ | exact ⟨congrArg (MV.int _) (by omega), rfl⟩ | exact .inr ⟨rfl, rfl, rfl, Nat.le_of_eq (Nat.zero_add _), cut_all _ _⟩)))); done))))); done))))); done))) | refine ⟨.inl ⟨rfl, rfl, rfl, rfl⟩, ?_⟩ | refine ⟨.inr ⟨_, _, rfl, rfl, rfl, rfl, rfl, .inl rfl, .inl ⟨rfl, rfl⟩⟩, ?_⟩ | refine ⟨.inr ⟨_, _, rfl, rfl, rfl, rfl, rfl, .inl rfl, .inl ⟨(by simp [u8s]), rfl⟩⟩, ?_⟩ | refine ⟨.inr ⟨_, _, rfl, rfl, rfl, rfl, rfl, .inr ⟨(by first | exact Nat.max_le.2 ⟨Nat.zero_le _, Nat.le_refl _⟩ | exact Nat.max_le.2 ⟨Nat.le_refl _, Nat.le_refl _⟩), (by simp [u8s])⟩, .inl ⟨rfl, rfl⟩⟩, ?_⟩ | (refine ⟨.inr ⟨_, _, rfl, rfl, rfl, rfl, rfl, .inl rfl, .inr ⟨?_, trivial⟩⟩, ?_⟩; focus (first | exact ⟨rfl, rfl⟩ | exact .inr ⟨rfl, rfl⟩ | exact .inr ⟨rfl, rfl, rfl, Nat.le_refl _, rfl⟩ | exact .inl rfl | exact .inl ⟨rfl, rfl⟩ | exact ⟨_, rfl, rfl⟩ | exact .inr ⟨_, rfl, rfl⟩ | exact .inl ⟨rfl, rfl, rfl⟩ | exact ⟨congrArg (MV.int _) (by omega), rfl⟩ | exact .inr ⟨rfl, rfl, rfl, Nat.le_of_eq (Nat.zero_add _), cut_all _ _⟩ | (refine .inr ⟨_, rfl, ?_⟩; focus (first | exact ⟨rfl, rfl⟩ | exact .inr ⟨rfl, rfl⟩ | exact .inr ⟨rfl, rfl, rfl, Nat.le_refl _, rfl⟩ | exact .inl rfl | exact .inl ⟨rfl, rfl⟩ | exact ⟨_, rfl, rfl⟩ | exact .inr ⟨_, rfl, rfl⟩ | exact .inl ⟨rfl, rfl, rfl⟩ | exact ⟨congrArg (MV.int _) (by omega), rfl⟩ | exact .inr ⟨rfl, rfl, rfl, Nat.le_of_eq (Nat.zero_add _), cut_all _ _⟩ | (refine .inr ⟨_, rfl, ?_⟩; focus (first | exact ⟨rfl, rfl⟩ | exact .inr ⟨rfl, rfl⟩ | exact .inr ⟨rfl, rfl, rfl, Nat.le_refl _, rfl⟩ | exact .inl rfl | exact .inl ⟨rfl, rfl⟩ | exact ⟨_, rfl, rfl⟩ | exact .inr ⟨_, rfl, rfl⟩ | exact .inl ⟨rfl, rfl, rfl⟩ | exact ⟨congrArg (MV.int _) (by omega), rfl⟩ | exact .inr ⟨rfl, rfl, rfl, Nat.le_of_eq (Nat.zero_add _), cut_all _ _⟩ | (refine .inr ⟨_, rfl, ?_⟩; focus (first | exact ⟨rfl, rfl⟩ | exact .inr ⟨rfl, rfl⟩ | exact .inr ⟨rfl, rfl, rfl, Nat.le_refl _, rfl⟩ | exact .inl rfl | exact .inl ⟨rfl, rfl⟩ | exact ⟨_, rfl, rfl⟩ | exact .inr ⟨_, rfl, rfl⟩ | exact .inl ⟨rfl, rfl, rfl⟩ | exact ⟨congrArg (MV.int _) (by omega), rfl⟩ | exact .inr ⟨rfl, rfl, rfl, Nat.le_of_eq (Nat.zero_add _), cut_all _ _⟩); done) | (refine .inr ⟨_, rfl, ?_⟩; focus (repeat (first | exact trivial | (refine And.intro ?_ ?_; focus (first | exact ⟨rfl, rfl⟩ | exact .inr ⟨rfl, rfl⟩ | exact .inr ⟨rfl, rfl, rfl, Nat.le_refl _, rfl⟩ | exact .inl rfl | exact .inl ⟨rfl, rfl⟩ | exact ⟨_, rfl, rfl⟩ | exact .inr ⟨_, rfl, rfl⟩ | exact .inl ⟨rfl, rfl, rfl⟩ | exact ⟨congrArg (MV.int _) (by omega), rfl⟩ | exact .inr ⟨rfl, rfl, rfl, Nat.le_of_eq (Nat.zero_add _), cut_all _ _⟩)))); done)); done) | (refine .inr ⟨_, rfl, ?_⟩; focus (repeat (first | exact trivial | (refine And.intro ?_ ?_; focus (first | exact ⟨rfl, rfl⟩ | exact .inr ⟨rfl, rfl⟩ | exact .inr ⟨rfl, rfl, rfl, Nat.le_refl _, rfl⟩ | exact .inl rfl | exact .inl ⟨rfl, rfl⟩ | exact ⟨_, rfl, rfl⟩ | exact .inr ⟨_, rfl, rfl⟩ | exact .inl ⟨rfl, rfl, rfl⟩ | exact ⟨congrArg (MV.int _) (by omega), rfl⟩ | exact .inr ⟨rfl, rfl, rfl, Nat.le_of_eq (Nat.zero_add _), cut_all _ _⟩ | (refine .inr ⟨_, rfl, ?_⟩; focus (first | exact ⟨rfl, rfl⟩ | exact .inr ⟨rfl, rfl⟩ | exact .inr ⟨rfl, rfl, rfl, Nat.le_refl _, rfl⟩ | exact .inl rfl | exact .inl ⟨rfl, rfl⟩ | exact ⟨_, rfl, rfl⟩ | exact .inr ⟨_, rfl, rfl⟩ | exact .inl ⟨rfl, rfl, rfl⟩ | exact ⟨congrArg (MV.int _) (by omega), rfl⟩ | exact .inr ⟨rfl, rfl, rfl, Nat.le_of_eq (Nat.zero_add _), cut_all _ _⟩); done) | (refine .inr ⟨_, rfl, ?_⟩; focus (repeat (first | exact trivial | (refine And.intro ?_ ?_; focus (first | exact ⟨rfl, rfl⟩ | exact .inr ⟨rfl, rfl⟩ | exact .inr ⟨rfl, rfl, rfl, Nat.le_refl _, rfl⟩ | exact .inl rfl | exact .inl ⟨rfl, rfl⟩ | exact ⟨_, rfl, rfl⟩ | exact .inr ⟨_, rfl, rfl⟩ | exact .inl ⟨rfl, rfl, rfl⟩ | exact ⟨congrArg (MV.int _) (by omega), rfl⟩ | exact .inr ⟨rfl, rfl, rfl, Nat.le_of_eq (Nat.zero_add _), cut_all _ _⟩)))); done))))); done)); done) | (refine .inr ⟨_, rfl, ?_⟩; focus (repeat (first | exact trivial | (refine And.intro ?_ ?_; focus (first | exact ⟨rfl, rfl⟩ | exact .inr ⟨rfl, rfl⟩ | exact .inr ⟨rfl, rfl, rfl, Nat.le_refl _, rfl⟩ | exact .inl rfl | exact .inl ⟨rfl, rfl⟩ | exact ⟨_, rfl, rfl⟩ | exact .inr ⟨_, rfl, rfl⟩ | exact .inl ⟨rfl, rfl, rfl⟩ | exact ⟨congrArg (MV.int _) (by omega), rfl⟩ | exact .inr ⟨rfl, rfl, rfl, Nat.le_of_eq (Nat.zero_add _), cut_all _ _⟩ | (refine .inr ⟨_, rfl, ?_⟩; focus (first | exact ⟨rfl, rfl⟩ | exact .inr ⟨rfl, rfl⟩ | exact .inr ⟨rfl, rfl, rfl, Nat.le_refl _, rfl⟩ | exact .inl rfl | exact .inl ⟨rfl, rfl⟩ | exact ⟨_, rfl, rfl⟩ | exact .inr ⟨_, rfl, rfl⟩ | exact .inl ⟨rfl, rfl, rfl⟩ | exact ⟨congrArg (MV.int _) (by omega), rfl⟩ | exact .inr ⟨rfl, rfl, rfl, Nat.le_of_eq (Nat.zero_add _), cut_all _ _⟩ | (refine .inr ⟨_, rfl, ?_⟩; focus (first | exact ⟨rfl, rfl⟩ | exact .inr ⟨rfl, rfl⟩ | exact .inr ⟨rfl, rfl, rfl, Nat.le_refl _, rfl⟩ | exact .inl rfl | exact .inl ⟨rfl, rfl⟩ | exact ⟨_, rfl, rfl⟩ | exact .inr ⟨_, rfl, rfl⟩ | exact .inl ⟨rfl, rfl, rfl⟩ | exact ⟨congrArg (MV.int _) (by omega), rfl⟩ | exact .inr ⟨rfl, rfl, rfl, Nat.le_of_eq (Nat.zero_add _), cut_all _ _⟩); done) | (refine .inr ⟨_, rfl, ?_⟩; focus (repeat (first | exact trivial | (refine And.intro ?_ ?_; focus (first | exact ⟨rfl, rfl⟩ | exact .inr ⟨rfl, rfl⟩ | exact .inr ⟨rfl, rfl, rfl, Nat.le_refl _, rfl⟩ | exact .inl rfl | exact .inl ⟨rfl, rfl⟩ | exact ⟨_, rfl, rfl⟩ | exact .inr ⟨_, rfl, rfl⟩ | exact .inl ⟨rfl, rfl, rfl⟩ | exact ⟨congrArg (MV.int _) (by omega), rfl⟩ | exact .inr ⟨rfl, rfl, rfl, Nat.le_of_eq (Nat.zero_add _), cut_all _ _⟩)))); done)); done) | (refine .inr ⟨_, rfl, ?_⟩; focus (repeat (first | exact trivial | (refine And.intro ?_ ?_; focus (first | exact ⟨rfl, rfl⟩ | exact .inr ⟨rfl, rfl⟩ | exact .inr ⟨rfl, rfl, rfl, Nat.le_refl _, rfl⟩ | exact .inl rfl | exact .inl ⟨rfl, rfl⟩ | exact ⟨_, rfl, rfl⟩ | exact .inr ⟨_, rfl, rfl⟩ | exact .inl ⟨rfl, rfl, rfl⟩ | exact ⟨congrArg (MV.int _) (by omega), rfl⟩ | exact .inr ⟨rfl, rfl, rfl, Nat.le_of_eq (Nat.zero_add _), cut_all _ _⟩ | (refine .inr ⟨_, rfl, ?_⟩; focus (first | exact ⟨rfl, rfl⟩ | exact .inr ⟨rfl, rfl⟩ | exact .inr ⟨rfl, rfl, rfl, Nat.le_refl _, rfl⟩ | exact .inl rfl | exact .inl ⟨rfl, rfl⟩ | exact ⟨_, rfl, rfl⟩ | exact .inr ⟨_, rfl, rfl⟩ | exact .inl ⟨rfl, rfl, rfl⟩ | exact ⟨congrArg (MV.int _) (by omega), rfl⟩ | exact .inr ⟨rfl, rfl, rfl, Nat.le_of_eq (Nat.zero_add _), cut_all _ _⟩); done) | (refine .inr ⟨_, rfl, ?_⟩; focus (repeat (first | exact trivial | (refine And.intro ?_ ?_; focus (first | exact ⟨rfl, rfl⟩ | exact .inr ⟨rfl, rfl⟩ | exact .inr ⟨rfl, rfl, rfl, Nat.le_refl _, rfl⟩ | exact .inl rfl | exact .inl ⟨rfl, rfl⟩ | exact ⟨_, rfl, rfl⟩ | exact .inr ⟨_, rfl, rfl⟩ | exact .inl ⟨rfl, rfl, rfl⟩ | exact ⟨congrArg (MV.int _) (by omega), rfl⟩ | exact .inr ⟨rfl, rfl, rfl, Nat.le_of_eq (Nat.zero_add _), cut_all _ _⟩)))); done))))); done))))); done))) | refine ⟨(show _ ≤ _ by simp [u8s]), ?_⟩))) (h3 : okSg n0 n' σ = true := by exact rfl) (h4 : okB M bs := by (repeat (first | exact trivial | refine ⟨Nat.le_refl _, ?_⟩ | (refine ⟨⟨_, rfl, ?_⟩, ?_⟩; focus (first | exact ⟨rfl, rfl⟩ | exact .inr ⟨rfl, rfl⟩ | exact .inr ⟨rfl, rfl, rfl, Nat.le_refl _, rfl⟩ | exact .inl rfl | exact .inl ⟨rfl, rfl⟩ | exact ⟨_, rfl, rfl⟩ | exact .inr ⟨_, rfl, rfl⟩ | exact .inl ⟨rfl, rfl, rfl⟩ | exact ⟨congrArg (MV.int _) (by omega), rfl⟩ | exact .inr ⟨rfl, rfl, rfl, Nat.le_of_eq (Nat.zero_add _), cut_all _ _⟩ | (refine .inr ⟨_, rfl, ?_⟩; focus (first | exact ⟨rfl, rfl⟩ | exact .inr ⟨rfl, rfl⟩ | exact .inr ⟨rfl, rfl, rfl, Nat.le_refl _, rfl⟩ | exact .inl rfl | exact .inl ⟨rfl, rfl⟩ | exact ⟨_, rfl, rfl⟩ | exact .inr ⟨_, rfl, rfl⟩ | exact .inl ⟨rfl, rfl, rfl⟩ | exact ⟨congrArg (MV.int _) (by omega), rfl⟩ | exact .inr ⟨rfl, rfl, rfl, Nat.le_of_eq (Nat.zero_add _), cut_all _ _⟩ | (refine .inr ⟨_, rfl, ?_⟩; focus (first | exact ⟨rfl, rfl⟩ | exact .inr ⟨rfl, rfl⟩ | exact .inr ⟨rfl, rfl, rfl, Nat.le_refl _, rfl⟩ | exact .inl rfl | exact .inl ⟨rfl, rfl⟩ | exact ⟨_, rfl, rfl⟩ | exact .inr ⟨_, rfl, rfl⟩ | exact .inl ⟨rfl, rfl, rfl⟩ | exact ⟨congrArg (MV.int _) (by omega), rfl⟩ | exact .inr ⟨rfl, rfl, rfl, Nat.le_of_eq (Nat.zero_add _), cut_all _ _⟩ | (refine .inr ⟨_, rfl, ?_⟩; focus (first | exact ⟨rfl, rfl⟩ | exact .inr ⟨rfl, rfl⟩ | exact .inr ⟨rfl, rfl, rfl, Nat.le_refl _, rfl⟩ | exact .inl rfl | exact .inl ⟨rfl, rfl⟩ | exact ⟨_, rfl, rfl⟩ | exact .inr ⟨_, rfl, rfl⟩ | exact .inl ⟨rfl, rfl, rfl⟩ | exact ⟨congrArg (MV.int _) (by omega), rfl⟩ | exact .inr ⟨rfl, rfl, rfl, Nat.le_of_eq (Nat.zero_add _), cut_all _ _⟩); done) | (refine .inr ⟨_, rfl, ?_⟩; focus (repeat (first | exact trivial | (refine And.intro ?_ ?_; focus (first | exact ⟨rfl, rfl⟩ | exact .inr ⟨rfl, rfl⟩ | exact .inr ⟨rfl, rfl, rfl, Nat.le_refl _, rfl⟩ | exact .inl rfl | exact .inl ⟨rfl, rfl⟩ | exact ⟨_, rfl, rfl⟩ | exact .inr ⟨_, rfl, rfl⟩ | exact .inl ⟨rfl, rfl, rfl⟩ | exact ⟨congrArg (MV.int _) (by omega), rfl⟩ | exact .inr ⟨rfl, rfl, rfl, Nat.le_of_eq (Nat.zero_add _), cut_all _ _⟩)))); done)); done) | (refine .inr ⟨_, rfl, ?_⟩; focus (repeat (first | exact trivial | (refine And.intro ?_ ?_; focus (first | exact ⟨rfl, rfl⟩ | exact .inr ⟨rfl, rfl⟩ | exact .inr ⟨rfl, rfl, rfl, Nat.le_refl _, rfl⟩ | exact .inl rfl | exact .inl ⟨rfl, rfl⟩ | exact ⟨_, rfl, rfl⟩ | exact .inr ⟨_, rfl, rfl⟩ | exact .inl ⟨rfl, rfl, rfl⟩ | exact ⟨congrArg (MV.int _) (by omega), rfl⟩ | exact .inr ⟨rfl, rfl, rfl, Nat.le_of_eq (Nat.zero_add _), cut_all _ _⟩ | (refine .inr ⟨_, rfl, ?_⟩; focus (first | exact ⟨rfl, rfl⟩ | exact .inr ⟨rfl, rfl⟩ | exact .inr ⟨rfl, rfl, rfl, Nat.le_refl _, rfl⟩ | exact .inl rfl | exact .inl ⟨rfl, rfl⟩ | exact ⟨_, rfl, rfl⟩ | exact .inr ⟨_, rfl, rfl⟩ | exact .inl ⟨rfl, rfl, rfl⟩ | exact ⟨congrArg (MV.int _) (by omega), rfl⟩ | exact .inr ⟨rfl, rfl, rfl, Nat.le_of_eq (Nat.zero_add _), cut_all _ _⟩); done) | (refine .inr ⟨_, rfl, ?_⟩; focus (repeat (first | exact trivial | (refine And.intro ?_ ?_; focus (first | exact ⟨rfl, rfl⟩ | exact .inr ⟨rfl, rfl⟩ | exact .inr ⟨rfl, rfl, rfl, Nat.le_refl _, rfl⟩ | exact .inl rfl | exact .inl ⟨rfl, rfl⟩ | exact ⟨_, rfl, rfl⟩ | exact .inr ⟨_, rfl, rfl⟩ | exact .inl ⟨rfl, rfl, rfl⟩ | exact ⟨congrArg (MV.int _) (by omega), rfl⟩ | exact .inr ⟨rfl, rfl, rfl, Nat.le_of_eq (Nat.zero_add _), cut_all _ _⟩)))); done))))); done)); done) | (refine .inr ⟨_, rfl, ?_⟩; focus (repeat (first | exact trivial | (refine And.intro ?_ ?_; focus (first | exact ⟨rfl, rfl⟩ | exact .inr ⟨rfl, rfl⟩ | exact .inr ⟨rfl, rfl, rfl, Nat.le_refl _, rfl⟩ | exact .inl rfl | exact .inl ⟨rfl, rfl⟩ | exact ⟨_, rfl, rfl⟩ | exact .inr ⟨_, rfl, rfl⟩ | exact .inl ⟨rfl, rfl, rfl⟩ | exact ⟨congrArg (MV.int _) (by omega), rfl⟩ | exact .inr ⟨rfl, rfl, rfl, Nat.le_of_eq (Nat.zero_add _), cut_all _ _⟩ | (refine .inr ⟨_, rfl, ?_⟩; focus (first | exact ⟨rfl, rfl⟩ | exact .inr ⟨rfl, rfl⟩ | exact .inr ⟨rfl, rfl, rfl, Nat.le_refl _, rfl⟩ | exact .inl rfl | exact .inl ⟨rfl, rfl⟩ | exact ⟨_, rfl, rfl⟩ | exact .inr ⟨_, rfl, rfl⟩ | exact .inl ⟨rfl, rfl, rfl⟩ | exact ⟨congrArg (MV.int _) (by omega), rfl⟩ | exact .inr ⟨rfl, rfl, rfl, Nat.le_of_eq (Nat.zero_add _), cut_all _ _⟩ | (refine .inr ⟨_, rfl, ?_⟩; focus (first | exact ⟨rfl, rfl⟩ | exact .inr ⟨rfl, rfl⟩ | exact .inr ⟨rfl, rfl, rfl, Nat.le_refl _, rfl⟩ | exact .inl rfl | exact .inl ⟨rfl, rfl⟩ | exact ⟨_, rfl, rfl⟩ | exact .inr ⟨_, rfl, rfl⟩ | exact .inl ⟨rfl, rfl, rfl⟩ | exact ⟨congrArg (MV.int _) (by omega), rfl⟩ | exact .inr ⟨rfl, rfl, rfl, Nat.le_of_eq (Nat.zero_add _), cut_all _ _⟩); done) | (refine .inr ⟨_, rfl, ?_⟩; focus (repeat (first | exact trivial | (refine And.intro ?_ ?_; focus (first | exact ⟨rfl, rfl⟩ | exact .inr ⟨rfl, rfl⟩ | exact .inr ⟨rfl, rfl, rfl, Nat.le_refl _, rfl⟩ | exact .inl rfl | exact .inl ⟨rfl, rfl⟩ | exact ⟨_, rfl, rfl⟩ | exact .inr ⟨_, rfl, rfl⟩ | exact .inl ⟨rfl, rfl, rfl⟩ | exact ⟨congrArg (MV.int _) (by omega), rfl⟩ | exact .inr ⟨rfl, rfl, rfl, Nat.le_of_eq (Nat.zero_add _), cut_all _ _⟩)))); done)); done) | (refine .inr ⟨_, rfl, ?_⟩; focus (repeat (first | exact trivial | (refine And.intro ?_ ?_; focus (first | exact ⟨rfl, rfl⟩ | exact .inr ⟨rfl, rfl⟩ | exact .inr ⟨rfl, rfl, rfl, Nat.le_refl _, rfl⟩ | exact .inl rfl | exact .inl ⟨rfl, rfl⟩ | exact ⟨_, rfl, rfl⟩ | exact .inr ⟨_, rfl, rfl⟩ | exact .inl ⟨rfl, rfl, rfl⟩ | exact ⟨congrArg (MV.int _) (by omega), rfl⟩ | exact .inr ⟨rfl, rfl, rfl, Nat.le_of_eq (Nat.zero_add _), cut_all _ _⟩ | (refine .inr ⟨_, rfl, ?_⟩; focus (first | exact ⟨rfl, rfl⟩ | exact .inr ⟨rfl, rfl⟩ | exact .inr ⟨rfl, rfl, rfl, Nat.le_refl _, rfl⟩ | exact .inl rfl | exact .inl ⟨rfl, rfl⟩ | exact ⟨_, rfl, rfl⟩ | exact .inr ⟨_, rfl, rfl⟩ | exact .inl ⟨rfl, rfl, rfl⟩ | exact ⟨congrArg (MV.int _) (by omega), rfl⟩ | exact .inr ⟨rfl, rfl, rfl, Nat.le_of_eq (Nat.zero_add _), cut_all _ _⟩); done) | (refine .inr ⟨_, rfl, ?_⟩; focus (repeat (first | exact trivial | (refine And.intro ?_ ?_; focus (first | exact ⟨rfl, rfl⟩ | exact .inr ⟨rfl, rfl⟩ | exact .inr ⟨rfl, rfl, rfl, Nat.le_refl _, rfl⟩ | exact .inl rfl | exact .inl ⟨rfl, rfl⟩ | exact ⟨_, rfl, rfl⟩ | exact .inr ⟨_, rfl, rfl⟩ | exact .inl ⟨rfl, rfl, rfl⟩ | exact ⟨congrArg (MV.int _) (by omega), rfl⟩ | exact .inr ⟨rfl, rfl, rfl, Nat.le_of_eq (Nat.zero_add _), cut_all _ _⟩)))); done))))); done))))); done))) | refine ⟨.inl ⟨rfl, rfl, rfl, rfl⟩, ?_⟩ | refine ⟨.inr ⟨_, _, rfl, rfl, rfl, rfl, rfl, .inl rfl, .inl ⟨rfl, rfl⟩⟩, ?_⟩ | refine ⟨.inr ⟨_, _, rfl, rfl, rfl, rfl, rfl, .inl rfl, .inl ⟨(by simp [u8s]), rfl⟩⟩, ?_⟩ | refine ⟨.inr ⟨_, _, rfl, rfl, rfl, rfl, rfl, .inr ⟨(by first | exact Nat.max_le.2 ⟨Nat.zero_le _, Nat.le_refl _⟩ | exact Nat.max_le.2 ⟨Nat.le_refl _, Nat.le_refl _⟩), (by simp [u8s])⟩, .inl ⟨rfl, rfl⟩⟩, ?_⟩ | (refine ⟨.inr ⟨_, _, rfl, rfl, rfl, rfl, rfl, .inl rfl, .inr ⟨?_, trivial⟩⟩, ?_⟩; focus (first | exact ⟨rfl, rfl⟩ | exact .inr ⟨rfl, rfl⟩ | exact .inr ⟨rfl, rfl, rfl, Nat.le_refl _, rfl⟩ | exact .inl rfl | exact .inl ⟨rfl, rfl⟩ | exact ⟨_, rfl, rfl⟩ | exact .inr ⟨_, rfl, rfl⟩ | exact .inl ⟨rfl, rfl, rfl⟩ | exact ⟨congrArg (MV.int _) (by omega), rfl⟩ | exact .inr ⟨rfl, rfl, rfl, Nat.le_of_eq (Nat.zero_add _), cut_all _ _⟩ | (refine .inr ⟨_, rfl, ?_⟩; focus (first | exact ⟨rfl, rfl⟩ | exact .inr ⟨rfl, rfl⟩ | exact .inr ⟨rfl, rfl, rfl, Nat.le_refl _, rfl⟩ | exact .inl rfl | exact .inl ⟨rfl, rfl⟩ | exact ⟨_, rfl, rfl⟩ | exact .inr ⟨_, rfl, rfl⟩ | exact .inl ⟨rfl, rfl, rfl⟩ | exact ⟨congrArg (MV.int _) (by omega), rfl⟩ | exact .inr ⟨rfl, rfl, rfl, Nat.le_of_eq (Nat.zero_add _), cut_all _ _⟩ | (refine .inr ⟨_, rfl, ?_⟩; focus (first | exact ⟨rfl, rfl⟩ | exact .inr ⟨rfl, rfl⟩ | exact .inr ⟨rfl, rfl, rfl, Nat.le_refl _, rfl⟩ | exact .inl rfl | exact .inl ⟨rfl, rfl⟩ | exact ⟨_, rfl, rfl⟩ | exact .inr ⟨_, rfl, rfl⟩ | exact .inl ⟨rfl, rfl, rfl⟩ | exact ⟨congrArg (MV.int _) (by omega), rfl⟩ | exact .inr ⟨rfl, rfl, rfl, Nat.le_of_eq (Nat.zero_add _), cut_all _ _⟩ | (refine .inr ⟨_, rfl, ?_⟩; focus (first | exact ⟨rfl, rfl⟩ | exact .inr ⟨rfl, rfl⟩ | exact .inr ⟨rfl, rfl, rfl, Nat.le_refl _, rfl⟩ | exact .inl rfl | exact .inl ⟨rfl, rfl⟩ | exact ⟨_, rfl, rfl⟩ | exact .inr ⟨_, rfl, rfl⟩ | exact .inl ⟨rfl, rfl, rfl⟩ | exact ⟨congrArg (MV.int _) (by omega), rfl⟩ | exact .inr ⟨rfl, rfl, rfl, Nat.le_of_eq (Nat.zero_add _), cut_all _ _⟩); done) | (refine .inr ⟨_, rfl, ?_⟩; focus (repeat (first | exact trivial | (refine And.intro ?_ ?_; focus (first | exact ⟨rfl, rfl⟩ | exact .inr ⟨rfl, rfl⟩ | exact .inr ⟨rfl, rfl, rfl, Nat.le_refl _, rfl⟩ | exact .inl rfl | exact .inl ⟨rfl, rfl⟩ | exact ⟨_, rfl, rfl⟩ | exact .inr ⟨_, rfl, rfl⟩ | exact .inl ⟨rfl, rfl, rfl⟩ | exact ⟨congrArg (MV.int _) (by omega), rfl⟩ | exact .inr ⟨rfl, rfl, rfl, Nat.le_of_eq (Nat.zero_add _), cut_all _ _⟩)))); done)); done) | (refine .inr ⟨_, rfl, ?_⟩; focus (repeat (first | exact trivial | (refine And.intro ?_ ?_; focus (first | exact ⟨rfl, rfl⟩ | exact .inr ⟨rfl, rfl⟩ | exact .inr ⟨rfl, rfl, rfl, Nat.le_refl _, rfl⟩ | exact .inl rfl | exact .inl ⟨rfl, rfl⟩ | exact ⟨_, rfl, rfl⟩ | exact .inr ⟨_, rfl, rfl⟩ | exact .inl ⟨rfl, rfl, rfl⟩ | exact ⟨congrArg (MV.int _) (by omega), rfl⟩ | exact .inr ⟨rfl, rfl, rfl, Nat.le_of_eq (Nat.zero_add _), cut_all _ _⟩ | (refine .inr ⟨_, rfl, ?_⟩; focus (first | exact ⟨rfl, rfl⟩ | exact .inr ⟨rfl, rfl⟩ | exact .inr ⟨rfl, rfl, rfl, Nat.le_refl _, rfl⟩ | exact .inl rfl | exact .inl ⟨rfl, rfl⟩ | exact ⟨_, rfl, rfl⟩ | exact .inr ⟨_, rfl, rfl⟩ | exact .inl ⟨rfl, rfl, rfl⟩ | exact ⟨congrArg (MV.int _) (by omega), rfl⟩ | exact .inr ⟨rfl, rfl, rfl, Nat.le_of_eq (Nat.zero_add _), cut_all _ _⟩); done) | (refine .inr ⟨_, rfl, ?_⟩; focus (repeat (first | exact trivial | (refine And.intro ?_ ?_; focus (first | exact ⟨rfl, rfl⟩ | exact .inr ⟨rfl, rfl⟩ | exact .inr ⟨rfl, rfl, rfl, Nat.le_refl _, rfl⟩ | exact .inl rfl | exact .inl ⟨rfl, rfl⟩ | exact ⟨_, rfl, rfl⟩ | exact .inr ⟨_, rfl, rfl⟩ | exact .inl ⟨rfl, rfl, rfl⟩ | exact ⟨congrArg (MV.int _) (by omega), rfl⟩ | exact .inr ⟨rfl, rfl, rfl, Nat.le_of_eq (Nat.zero_add _), cut_all _ _⟩)))); done))))); done)); done) | (refine .inr ⟨_, rfl, ?_⟩; focus (repeat (first | exact trivial | (refine And.intro ?_ ?_; focus (first | exact ⟨rfl, rfl⟩ | exact .inr ⟨rfl, rfl⟩ | exact .inr ⟨rfl, rfl, rfl, Nat.le_refl _, rfl⟩ | exact .inl rfl | exact .inl ⟨rfl, rfl⟩ | exact ⟨_, rfl, rfl⟩ | exact .inr ⟨_, rfl, rfl⟩ | exact .inl ⟨rfl, rfl, rfl⟩ | exact ⟨congrArg (MV.int _) (by omega), rfl⟩ | exact .inr ⟨rfl, rfl, rfl, Nat.le_of_eq (Nat.zero_add _), cut_all _ _⟩ | (refine .inr ⟨_, rfl, ?_⟩; focus (first | exact ⟨rfl, rfl⟩ | exact .inr ⟨rfl, rfl⟩ | exact .inr ⟨rfl, rfl, rfl, Nat.le_refl _, rfl⟩ | exact .inl rfl | exact .inl ⟨rfl, rfl⟩ | exact ⟨_, rfl, rfl⟩ | exact .inr ⟨_, rfl, rfl⟩ | exact .inl ⟨rfl, rfl, rfl⟩ | exact ⟨congrArg (MV.int _) (by omega), rfl⟩ | exact .inr ⟨rfl, rfl, rfl, Nat.le_of_eq (Nat.zero_add _), cut_all _ _⟩ | (refine .inr ⟨_, rfl, ?_⟩; focus (first | exact ⟨rfl, rfl⟩ | exact .inr ⟨rfl, rfl⟩ | exact .inr ⟨rfl, rfl, rfl, Nat.le_refl _, rfl⟩ | exact .inl rfl | exact .inl ⟨rfl, rfl⟩ | exact ⟨_, rfl, rfl⟩ | exact .inr ⟨_, rfl, rfl⟩ | exact .inl ⟨rfl, rfl, rfl⟩ | exact ⟨congrArg (MV.int _) (by omega), rfl⟩ | exact .inr ⟨rfl, rfl, rfl, Nat.le_of_eq (Nat.zero_add _), cut_all _ _⟩); done) | (refine .inr ⟨_, rfl, ?_⟩; focus (repeat (first | exact trivial | (refine And.intro ?_ ?_; focus (first | exact ⟨rfl, rfl⟩ | exact .inr ⟨rfl, rfl⟩ | exact .inr ⟨rfl, rfl, rfl, Nat.le_refl _, rfl⟩ | exact .inl rfl | exact .inl ⟨rfl, rfl⟩ | exact ⟨_, rfl, rfl⟩ | exact .inr ⟨_, rfl, rfl⟩ | exact .inl ⟨rfl, rfl, rfl⟩ | exact ⟨congrArg (MV.int _) (by omega), rfl⟩ | exact .inr ⟨rfl, rfl, rfl, Nat.le_of_eq (Nat.zero_add _), cut_all _ _⟩)))); done)); done) | (refine .inr ⟨_, rfl, ?_⟩; focus (repeat (first | exact trivial | (refine And.intro ?_ ?_; focus (first | exact ⟨rfl, rfl⟩ | exact .inr ⟨rfl, rfl⟩ | exact .inr ⟨rfl, rfl, rfl, Nat.le_refl _, rfl⟩ | exact .inl rfl | exact .inl ⟨rfl, rfl⟩ | exact ⟨_, rfl, rfl⟩ | exact .inr ⟨_, rfl, rfl⟩ | exact .inl ⟨rfl, rfl, rfl⟩ | exact ⟨congrArg (MV.int _) (by omega), rfl⟩ | exact .inr ⟨rfl, rfl, rfl, Nat.le_of_eq (Nat.zero_add _), cut_all _ _⟩ | (refine .inr ⟨_, rfl, ?_⟩; focus (first | exact ⟨rfl, rfl⟩ | exact .inr ⟨rfl, rfl⟩ | exact .inr ⟨rfl, rfl, rfl, Nat.le_refl _, rfl⟩ | exact .inl rfl | exact .inl ⟨rfl, rfl⟩ | exact ⟨_, rfl, rfl⟩ | exact .inr ⟨_, rfl, rfl⟩ | exact .inl ⟨rfl, rfl, rfl⟩ | exact ⟨congrArg (MV.int _) (by omega), rfl⟩ | exact .inr ⟨rfl, rfl, rfl, Nat.le_of_eq (Nat.zero_add _), cut_all _ _⟩); done) | (refine .inr ⟨_, rfl, ?_⟩; focus (repeat (first | exact trivial | (refine And.intro ?_ ?_; focus (first | exact ⟨rfl, rfl⟩ | exact .inr ⟨rfl, rfl⟩ | exact .inr ⟨rfl, rfl, rfl, Nat.le_refl _, rfl⟩ | exact .inl rfl | exact .inl ⟨rfl, rfl⟩ | exact ⟨_, rfl, rfl⟩ | exact .inr ⟨_, rfl, rfl⟩ | exact .inl ⟨rfl, rfl, rfl⟩ | exact ⟨congrArg (MV.int _) (by omega), rfl⟩ | exact .inr ⟨rfl, rfl, rfl, Nat.le_of_eq (Nat.zero_add _), cut_all _ _⟩)))); done))))); done))))); done))) | refine ⟨(show _ ≤ _ by simp [u8s]), ?_⟩))) (h5 : M'.all (fun x => Nat.blt x.1 n') = true := by exact rfl) : VMatch n0 E' M' n' E M := VMatch.of σ bs h1 h2 h3 h4 h5
theorem sms {R : MV × Dl → Prop} {p q : Prop} {x : MV × Dl} (_hR : R x) (h : q) (s : Box q → p := by intro hq; repeat (first | exact hR | ((try conv => whnf); first | exact hR | (with_reducible refine And.intro (Nat.zero_le _) ?_) | (with_reducible refine And.intro rfl ?_) | (with_reducible refine ⟨_, idx_at (by omega), ?_⟩) | (with_reducible refine ⟨fun _ => ?_, fun h => Bool.noConfusion h⟩) | (with_reducible refine ⟨fun h => Bool.noConfusion h, fun _ => ?_⟩) | (with_reducible refine ⟨_, sv (wrap_in _ (by omega) (by omega)), ?_⟩) | (with_reducible refine ⟨_, sv (wrapu_in _ (by omega) (by omega)), ?_⟩) | (with_reducible refine ⟨_, sv (wrap8_in _ (by omega) (by omega)), ?_⟩) | (refine ⟨_, rfl, ?_⟩) | (refine And.intro (by omega) ?_))); exact hq.out) : p := s ⟨h⟩
end Go.Proofs.YtllepnadffndnaaDoor
namespace Go.Proofs.YtllepnadffndnaaDoor
open Go.RowKit
variable {G : GS}
theorem place_m (x n : Int) (hn : 0 < n) (hn2 : n < 9223372036854775808) : SemC Tryd.prog G 23 [.int .i64 x, .int .i64 n] (.int .i64 (x % n)) := by
  have h := emod_of x n hn
  have h1 : -9223372036854775808 ≤ x.tmod n + n ∧ x.tmod n + n < 9223372036854775808 ∨ ¬ x.tmod n < 0 := by
    have := Int.lt_tmod_of_pos x hn
    omega
  refine semC_of_vc seat Tryd.func23 rfl rfl (Nat.le_of_ble_eq_true rfl) (Nat.le_of_ble_eq_true rfl) (N := 14) rfl ?_
  refine ⟨by omega, _, rfl, ?_⟩
  refine ⟨fun hx => ?_, fun hx => ?_⟩
  · have hx := of_decide_eq_true hx
    rw [if_pos hx] at h
    refine ⟨_, sv (wrap_in _ (by omega) (by omega)), ?_⟩
    exact congrArg (MV.int .i64) h
  · have hx := of_decide_eq_false hx
    rw [if_neg hx] at h
    exact congrArg (MV.int .i64) h
def nextV (L : List Int) (N : Nat) (n : Int) : Int := (L[N]?.getD 0) % n
def numB (L : List Int) (N : Nat) : VM := [(0, ⟨84, 2, false, 0, [.st [intsM L, .int .i64 N]]⟩)]
abbrev numP : MV := .ptr 0 2 0 0 []
theorem next_r (L : List Int) (N : Nat) (n : Int) (hn : 0 < n) (hn2 : n < 9223372036854775808) (hN : N < 4611686018427387904) :
    SemR Tryd.prog G 44 [numP, .int .i64 n] (numB L N) 1 (.int .i64 (nextV L N n)) (numB L (N + 1)) 1 := by
  refine semR_of_vc seat Tryd.func44 rfl rfl (Nat.le_of_ble_eq_true rfl) (Nat.le_of_ble_eq_true rfl) (N := 36) rfl rfl ?_
  refine ⟨[(0, false), (1, false), (2, false), (3, false), (4, false), (5, false), (6, false), (7, false), (8, false), (9, false)], ?_⟩
  refine go0 ?_
  refine ⟨fun h => ?_, fun h => ?_⟩
  · have hlt : N < L.length := by have : (N : Int) < L.length := by simpa using h
                                  omega
    refine ⟨[(0, false), (1, false), (2, false), (3, false), (4, false), (5, false), (6, false), (7, false), (8, false), (9, false), (10, false)], ?_⟩
    refine go0 ?_
    refine ⟨_, intsM_at hlt, ?_⟩
    refine go0 ?_
    refine .inl ⟨_, place_m _ _ hn hn2, ?_⟩
    refine go0 ?_
    refine ⟨[_], [], [], rfl, rfl, trivial, rfl, ⟨?_, trivial⟩, ?_⟩
    · exact ⟨congrArg (MV.int .i64) (by simp [nextV, hlt]), rfl⟩
    · exact mm
  · have hlt : ¬ N < L.length := by have : ¬ (N : Int) < L.length := by simpa using h
                                    omega
    change vC _ _ _ _ _ _ _ _ _ _ _
    refine go0 ?_
    refine .inl ⟨_, place_m _ _ hn hn2, ?_⟩
    refine go0 ?_
    refine ⟨[_], [], [], rfl, rfl, trivial, rfl, ⟨?_, trivial⟩, ?_⟩
    · exact ⟨congrArg (MV.int .i64) (by simp [nextV, hlt]), rfl⟩
    · exact mm
end Go.Proofs.YtllepnadffndnaaDoor
namespace Go.Proofs.YtllepnadffndnaaDoor
open Go.RowKit
def LG (g : Nat) : Prop := g ∈ [2, 6, 7, 3, 0, 1]
theorem var_same {w w' : World} {n : String} {g : Nat} (hg : Tryd.prog.globalNamed n = some g) (h : w'.heap[g]? = w.heap[g]?) : w'.var? Tryd.prog n = w.var? Tryd.prog n := by
  unfold World.var?
  rw [hg]
  simp [h]
theorem var_lt {w : World} {n : String} {g : Nat} {cs : Array Value} (hg : Tryd.prog.globalNamed n = some g) (h : w.var? Tryd.prog n = some cs) : g < w.heap.size := by
  unfold World.var? at h
  rw [hg] at h
  rcases Nat.lt_or_ge g w.heap.size with h' | h'
  · exact h'
  · simp [Array.getElem?_eq_none h'] at h
theorem LibOK.same {w w' : World} (h : LibOK w) (hs : ∀ g, LG g → w'.heap[g]? = w.heap[g]?) : LibOK w' where
  pow10 := (var_same (g := 2) (by kernel_rfl) (hs _ (by simp [LG]))).trans h.pow10
  syn := by obtain ⟨a, b, h⟩ := h.syn; exact ⟨a, b, (var_same (g := 6) (by kernel_rfl) (hs _ (by simp [LG]))).trans h⟩
  range := by obtain ⟨a, b, h⟩ := h.range; exact ⟨a, b, (var_same (g := 7) (by kernel_rfl) (hs _ (by simp [LG]))).trans h⟩
  maxLen := by obtain ⟨m, hm⟩ := h.maxLen; exact ⟨m, (cell_same (hs _ (by simp [LG]))).trans hm⟩
  utf8 := ⟨fun c hc => (cell_same (hs _ (by simp [LG]))).trans (h.utf8.1 c hc), fun i hi => ⟨(cell_same (hs _ (by simp [LG]))).trans (h.utf8.2 i hi).1, (cell_same (hs _ (by simp [LG]))).trans (h.utf8.2 i hi).2⟩⟩
theorem LibOK.lt {w : World} (h : LibOK w) {g : Nat} (hg : LG g) : g < w.heap.size := by
  simp only [LG, List.mem_cons, List.not_mem_nil, or_false] at hg
  rcases hg with rfl | rfl | rfl | rfl | rfl | rfl
  · exact var_lt (by kernel_rfl) h.pow10
  · obtain ⟨a, b, h⟩ := h.syn; exact var_lt (by kernel_rfl) h
  · obtain ⟨a, b, h⟩ := h.range; exact var_lt (by kernel_rfl) h
  · obtain ⟨m, hm⟩ := h.maxLen; exact World.block_lt_of_cell? _ _ hm
  · exact World.block_lt_of_cell? _ _ (h.utf8.1 0 (by omega))
  · exact World.block_lt_of_cell? _ _ (h.utf8.2 0 (by omega)).1
def GC : GS := ⟨LibOK, LG, fun _ _ h hg => h.lt hg, fun _ _ _ h hx hs => h.same fun _ hg => hs.block _ (h.lt hg) (fun e => hx _ e hg)⟩
theorem lib_below {w : World} (h : GC.ok w) : ∀ w', Below w.heap.size w w' → LibOK w' := fun _ hb => LibOK.same h fun _ hg => hb.block _ (LibOK.lt h hg)
def cfgM : MConfig → MV
  | ⟨a, b, c, d, e, f, g, h, i, j, k, l⟩ => .st [.int .i64 a, .int .i64 b, .int .i64 c, .int .i64 d, .int .i64 e, .int .i64 f, .bool g, .int .i64 h, .int .i64 i, .int .u64 j, .int .i64 k, .int .i64 l]
theorem cells_one : ∀ (l : List (MV × Value)) (w : World) (P : Prot) (adr : Adr), (∀ x ∈ l, Rep w P adr x.1 [x.2]) → Rep w P adr (.st (l.map (·.1))) (l.map (·.2)) := by
  intro l w P adr h
  have e : (l.map (·.2)) = (l.map fun x => [x.2]).flatten := by
    clear h
    induction l with
    | nil => rfl
    | cons x l ih => simp only [List.map_cons, List.flatten_cons, ← ih]; rfl
  rw [e]
  refine .st _ (by simp) fun j m p hm hp => ?_
  rw [List.getElem?_map] at hm hp
  cases hx : l[j]? with
  | none => rw [hx] at hm; cases hm
  | some x =>
    rw [hx] at hm hp
    cases hm; cases hp
    exact h x (List.mem_of_getElem? hx)
theorem cfg_rep (c : MConfig) (w : World) (P : Prot) (adr : Adr) : Rep w P adr (cfgM c) (cfgV c) := by
  obtain ⟨c0, c1, c2, c3, c4, c5, c6, c7, c8, c9, c10, c11⟩ := c
  refine cells_one [(.int .i64 c0, .int .i64 c0), (.int .i64 c1, .int .i64 c1), (.int .i64 c2, .int .i64 c2), (.int .i64 c3, .int .i64 c3), (.int .i64 c4, .int .i64 c4), (.int .i64 c5, .int .i64 c5), (.bool c6, .bool c6), (.int .i64 c7, .int .i64 c7), (.int .i64 c8, .int .i64 c8), (.int .u64 c9, .int .u64 c9), (.int .i64 c10, .int .i64 c10), (.int .i64 c11, .int .i64 c11)] w P adr fun x hx => ?_
  simp only [List.mem_cons, List.not_mem_nil, or_false] at hx
  rcases hx with rfl | rfl | rfl | rfl | rfl | rfl | rfl | rfl | rfl | rfl | rfl | rfl <;> first | exact .int | exact .bool
end Go.Proofs.YtllepnadffndnaaDoor
namespace Go.Proofs.YtllepnadffndnaaDoor
open Go.ChangeShapes Go.WideShapes Go.ChangeAt Go.RowKit
theorem own : ownKnob Tryd.prog.godebug = none := by kernel_rfl
theorem laidOut : laidOutB Tryd.prog = true := by kernel_rfl
noncomputable abbrev laidL : List (String × DataW Unit) := Rows.configParsesRow.laid
theorem first_eq : Rows.laid_unicode_utf8_first = Lib.firstData := by kernel_rfl
theorem accept_eq : (Rows.laid_unicode_utf8_acceptRanges : DataW Unit) = Lib.acceptData := by kernel_rfl
theorem tab_of_reads {W : World} {name : String} {k : IntKind} {zs : List Int} {g : Nat} {t e : TypeId} {n : Nat}
    (hg : Tryd.prog.globalNamed name = some g) (hty : (Tryd.prog.globals[g]?).map (·.type) = some t) (ht : Tryd.prog.underlying t = some (.array n e)) (he : Tryd.prog.underlying e = some (.int k)) (hce : Tryd.prog.cellsOf e = 1) (hct : Tryd.prog.cellsOf t = n)
    (h : Lib.VarReads Tryd.prog W name (Lib.tabData k zs)) : Lib.TabIs Tryd.prog W name k zs := by
  obtain ⟨g', t', cs, fuel, p, hg', ht', hvar, hd⟩ := h
  obtain rfl := Option.some.inj (hg.symm.trans hg')
  obtain rfl := Option.some.inj (hty.symm.trans ht')
  unfold Lib.TabIs
  rw [hvar, ← Lib.cells_of_tab ht he hce hct hd]
theorem rowES (u : TypeId) (h : Tryd.prog.typeName? 3 u = some "*errors.errorString") : u = 146 :=
  typeName_ptr_named (nm := "errors.errorString") (by rw [show "*" ++ "errors.errorString" = "*errors.errorString" by decide]; kernel_rfl) (by kernel_rfl) (by decide) u (by rw [show "*" ++ "errors.errorString" = "*errors.errorString" by decide]; exact h)
theorem libOK_of {W : World} (hL : laidMet Tryd.prog laidL W) (hs : W.ShapedOpen Tryd.prog) : LibOK W where
  pow10 := tab_of_reads (g := 2) (t := 122) (e := 22) (n := 20) (by kernel_rfl) (by kernel_rfl) (by kernel_rfl) (by kernel_rfl) (by kernel_rfl) (by kernel_rfl)
    (Lib.laidMet.reads hL (List.Mem.tail _ (List.Mem.tail _ (List.Mem.head _))))
  syn := by
    obtain ⟨a, s, hv, _⟩ := laid_sentinel hL.tail.tail.tail.tail.tail (g := 6) (ti := 75) (by kernel_rfl) (by kernel_rfl) Tryd.underlying75 rowES Tryd.underlying146 Tryd.underlying148 rfl rfl (ts := 9) Tryd.underlying9 (by kernel_rfl) (by kernel_rfl)
    exact ⟨_, _, hv⟩
  range := by
    obtain ⟨a, s, hv, _⟩ := laid_sentinel hL.tail.tail.tail.tail (g := 7) (ti := 75) (by kernel_rfl) (by kernel_rfl) Tryd.underlying75 rowES Tryd.underlying146 Tryd.underlying148 rfl rfl (ts := 9) Tryd.underlying9 (by kernel_rfl) (by kernel_rfl)
    exact ⟨_, _, hv⟩
  maxLen := Tryd.laysM146.s1_3 W hs
  utf8 := utf8Tabs_of_readsT (U8Types.of196 Tryd.laysValid) ⟨by kernel_rfl, by kernel_rfl, by kernel_rfl, by kernel_rfl, by kernel_rfl, by kernel_rfl, by kernel_rfl⟩
    (by rw [← first_eq]; exact Lib.laidMet.reads hL (List.Mem.tail _ (List.Mem.tail _ (List.Mem.tail _ (List.Mem.tail _ (List.Mem.tail _ (List.Mem.tail _ (List.Mem.head _))))))))
    (by rw [← accept_eq]; exact Lib.laidMet.reads hL (List.Mem.tail _ (List.Mem.tail _ (List.Mem.tail _ (List.Mem.head _)))))
theorem var_below {w w' : World} {n : String} {cs : Array Value} (hb : Below w.heap.size w w') (h : w.var? Tryd.prog n = some cs) : w'.var? Tryd.prog n = some cs := by
  unfold World.var? at h ⊢
  cases hg : Tryd.prog.globalNamed n with
  | none => rw [hg] at h; simp at h
  | some g =>
    rw [hg] at h
    simp only [Option.bind_some] at h ⊢
    have hlt : g < w.heap.size := by
      rcases Nat.lt_or_ge g w.heap.size with h' | h'
      · exact h'
      · simp [Array.getElem?_eq_none h'] at h
    rw [hb.block g hlt]
    exact h
theorem LibOK.below {w w' : World} (h : LibOK w) (hb : Below w.heap.size w w') : LibOK w' where
  pow10 := var_below hb h.pow10
  syn := by obtain ⟨a, b, h⟩ := h.syn; exact ⟨a, b, var_below hb h⟩
  range := by obtain ⟨a, b, h⟩ := h.range; exact ⟨a, b, var_below hb h⟩
  maxLen := by
    obtain ⟨m, hm⟩ := h.maxLen
    refine ⟨m, ?_⟩
    have hlt : 3 < w.heap.size := World.block_lt_of_cell? _ _ hm
    unfold World.cell? at hm ⊢
    rw [hb.block _ hlt]
    exact hm
  utf8 := Utf8Tabs_below h.utf8 hb
noncomputable abbrev laidW (os : Os) : World := World.laidAll Tryd.prog os laidL
theorem witness_zip {C : Checked} {os : Os} {f : FuncId} {fn : Func} {H : Type} {enc : TypeId × Value → H} {s : OpenSpec} {conds : List PathCond} {apart : Bool} {laid : List (String × DataW Unit)} (w0 : World) (hos : w0.os = os) (args : Array Value)
    (hsh : (w0.forCall (fun _ _ => 0) ⟨#[], args, []⟩).Shaped C.prog)
    (hok : Input.okWideB C.prog (w0.forCall (fun _ _ => 0) ⟨#[], args, []⟩) f ⟨#[], args, []⟩ = true)
    (hrow : s.preRow enc C.prog fn conds apart laid (w0.forCall (fun _ _ => 0) ⟨#[], args, []⟩).memory args) :
    ∃ (w : World) (tape : Tape) (i : Input), w.os = os ∧ (w.forCall tape i).Shaped C.prog ∧ i.vars = [] ∧ Input.okWide C.prog (w.forCall tape i) .any w.heap.size f i ∧
      s.preRow enc C.prog fn conds apart laid (w.forCall tape i).memory i.args ∧ ({} : Assume).holds C.prog (lone (Frame.enter C.prog f i.args .normal) [] (w.forCall tape i)) :=
  ⟨w0, fun _ _ => 0, ⟨#[], args, []⟩, hos, hsh, (Input.okWide_of_okWideB (base := 0) hok).1, (Input.okWide_of_okWideB hok).2, hrow, by
    simp only [Assume.holds]
    exact ⟨by simp, by simp, by simp, by simp, by simp⟩⟩
theorem shapedW (os : Os) (args : Array Value) : ((laidW os).forCall (fun _ _ => 0) ⟨#[], args, []⟩).Shaped Tryd.prog := World.shaped_of_ZipB (by kernel_rfl) (by kernel_rfl)
theorem laid_met (os : Os) (args : Array Value) : laidMet Tryd.prog laidL ((laidW os).forCall (fun _ _ => 0) ⟨#[], args, []⟩).memory := laidMet_laidAll args (by kernel_rfl) (by kernel_rfl)
end Go.Proofs.YtllepnadffndnaaDoor
namespace Go.Proofs.YtllepnadffndnaaDoor
open Go.ChangeShapes Go.WideShapes Go.ChangeAt Go.RowKit
theorem opn_int : Opn Tryd.prog 3 1 fun m => ∃ n, m = .int .i64 n ∧ (Lit.int .i64 n).wf = true := Opn.int Tryd.underlying3 (by kernel_rfl)
theorem opn_u8 : Opn Tryd.prog 5 1 fun m => ∃ n, m = .int .u8 n ∧ (Lit.int .u8 n).wf = true := Opn.int Tryd.underlying5 (by kernel_rfl)
theorem opn_ints : Opn Tryd.prog 25 1 fun m => ∃ l, m = .sl l.length l ∧ (∀ x ∈ l, ∃ n, x = .int .i64 n ∧ (Lit.int .i64 n).wf = true) ∧ l.length ≤ 140737488355328 := Opn.slice Tryd.underlying25 (by kernel_rfl) (Nat.le_of_ble_eq_true (by kernel_rfl)) (by omega) opn_int
theorem opn_bytes : Opn Tryd.prog 38 1 fun m => ∃ l, m = .sl l.length l ∧ (∀ x ∈ l, ∃ n, x = .int .u8 n ∧ (Lit.int .u8 n).wf = true) ∧ l.length ≤ 140737488355328 := Opn.slice Tryd.underlying38 (by kernel_rfl) (Nat.le_of_ble_eq_true (by kernel_rfl)) (by omega) opn_u8
theorem ints_lift {m : MV} (h : ∃ l, m = .sl l.length l ∧ (∀ x ∈ l, ∃ n, x = .int .i64 n ∧ (Lit.int .i64 n).wf = true) ∧ l.length ≤ 140737488355328) : ∃ xs : List Int, m = intsM xs ∧ xs.length ≤ 140737488355328 := by
  obtain ⟨l, rfl, h, hl⟩ := h
  obtain ⟨us, rfl, _⟩ := lift_list l h
  exact ⟨us, by unfold intsM; rw [List.length_map], by simpa using hl⟩
theorem bytes_lift {m : MV} (h : ∃ l, m = .sl l.length l ∧ (∀ x ∈ l, ∃ n, x = .int .u8 n ∧ (Lit.int .u8 n).wf = true) ∧ l.length ≤ 140737488355328) : ∃ xs : List UInt8, m = .sl xs.length (u8s xs) ∧ xs.length ≤ 140737488355328 := by
  obtain ⟨l, rfl, h, hl⟩ := h
  obtain ⟨us, hu, _⟩ := lift_list (f := fun b : UInt8 => MV.int .u8 b.toNat) (R := fun _ => True) l fun x hx => by
    obtain ⟨n, rfl, hw⟩ := h x hx
    simp [Lit.wf, IntKind.min, IntKind.max, IntKind.bits, IntKind.signed] at hw
    refine ⟨UInt8.ofNat n.toNat, ?_, trivial⟩
    congr 1
    rw [UInt8.toNat_ofNat', Nat.mod_eq_of_lt (by omega)]
    omega
  subst hu
  exact ⟨us, by unfold u8s; rw [List.length_map], by simpa using hl⟩
end Go.Proofs.YtllepnadffndnaaDoor
namespace Go.Proofs.YtllepnadffndnaaDoor
open Go.RowKit
def triM (r : MConfig × Int × Int) : MV := .tup [cfgM r.1, .int .i64 r.2.1, .int .i64 r.2.2]
theorem valM_cfg (c : MConfig) : valM (cfgM c) (cfgV c) = .agg ⟨cfgV c⟩ := by cases c; rfl
theorem repV_cfg (c : MConfig) (w : World) (P : Prot) (adr : Adr) : RepV w P adr (cfgM c) (.agg ⟨cfgV c⟩) := by
  rw [← valM_cfg]
  exact .val _ (cfg_rep c w P adr)
theorem cells_one_ {l : List (MV × Value)} {w : World} {P : Prot} {adr : Adr} {cs : List Value} (h : Rep w P adr (.st (l.map (·.1))) cs) (h1 : ∀ x ∈ l, ∀ cs, Rep w P adr x.1 cs → cs = [x.2]) : cs = l.map (·.2) := by
  cases h with
  | st parts hp hr =>
    have e : parts = l.map fun x => [x.2] := by
      apply List.ext_getElem?
      intro j
      rw [List.getElem?_map]
      cases hx : l[j]? with
      | none =>
        have := List.getElem?_eq_none_iff.1 hx
        simp only [List.length_map] at hp
        simp; omega
      | some x =>
        have hj := (List.getElem?_eq_some_iff.1 hx).1
        simp only [List.length_map] at hp
        have hpj : parts[j]? = some (parts[j]'(by omega)) := List.getElem?_eq_getElem (by omega)
        have := h1 x (List.mem_of_getElem? hx) _ (hr j x.1 _ (by rw [List.getElem?_map, hx]; rfl) hpj)
        rw [hpj, this]; rfl
    subst e
    clear hp hr h1
    induction l with
    | nil => rfl
    | cons x l ih => simp only [List.map_cons, List.flatten_cons, ih]; rfl
theorem cfg_rep_ {c : MConfig} {w : World} {P : Prot} {adr : Adr} {cs : List Value} (h : Rep w P adr (cfgM c) cs) : cs = cfgV c := by
  obtain ⟨c0, c1, c2, c3, c4, c5, c6, c7, c8, c9, c10, c11⟩ := c
  refine cells_one_ (l := [(.int .i64 c0, .int .i64 c0), (.int .i64 c1, .int .i64 c1), (.int .i64 c2, .int .i64 c2), (.int .i64 c3, .int .i64 c3), (.int .i64 c4, .int .i64 c4), (.int .i64 c5, .int .i64 c5), (.bool c6, .bool c6), (.int .i64 c7, .int .i64 c7), (.int .i64 c8, .int .i64 c8), (.int .u64 c9, .int .u64 c9), (.int .i64 c10, .int .i64 c10), (.int .i64 c11, .int .i64 c11)]) h fun x hx cs hc => ?_
  simp only [List.mem_cons, List.not_mem_nil, or_false] at hx
  rcases hx with rfl | rfl | rfl | rfl | rfl | rfl | rfl | rfl | rfl | rfl | rfl | rfl <;> cases hc <;> rfl
theorem repV_cfg_ {c : MConfig} {w : World} {P : Prot} {adr : Adr} {v : Value} (h : RepV w P adr (cfgM c) v) : v = .agg ⟨cfgV c⟩ := by
  obtain ⟨cs, h1, rfl⟩ := h.agg_ (by cases c; rfl)
  rw [cfg_rep_ h1]
theorem tups_rep (l : List (MV × List Value)) (w : World) (P : Prot) (adr : Adr) (h : ∀ x ∈ l, Rep w P adr x.1 x.2) : RepV w P adr (.tup (l.map (·.1))) (.tuple (l.map fun x => valM x.1 x.2).toArray) := by
  refine .tup _ (by simp) fun j m u hm hu => ?_
  rw [List.getElem?_map] at hm hu
  cases hx : l[j]? with
  | none => rw [hx] at hm; cases hm
  | some x =>
    rw [hx] at hm hu
    cases hm; cases hu
    exact ⟨x.2, h x (List.mem_of_getElem? hx), rfl⟩
theorem tri_rep (r : MConfig × Int × Int) (w : World) (P : Prot) (adr : Adr) : RepV w P adr (triM r) (triV r) := by
  have := tups_rep [(cfgM r.1, cfgV r.1), (.int .i64 r.2.1, [.int .i64 r.2.1]), (.int .i64 r.2.2, [.int .i64 r.2.2])] w P adr fun x hx => by
    simp only [List.mem_cons, List.not_mem_nil, or_false] at hx
    rcases hx with rfl | rfl | rfl
    · exact cfg_rep _ w P adr
    · exact .int
    · exact .int
  simp only [List.map_cons, List.map_nil, valM_cfg] at this
  exact this
theorem parse_s (s : Bs) : SemC Tryd.prog GC 19 [.str s] (triM (parseSpec s)) := by
  intro w P vals hg hP hargs
  cases hargs with
  | cons h t =>
    cases t with
    | nil =>
      obtain rfl := h.str_
      refine (pparse_c ⟨s.toArray⟩ w (lib_below hg)).mono ?_
      rintro e w' ⟨rfl, hb⟩
      exact ⟨_, rfl, tri_rep _ _ _ _, hb⟩
theorem form_s (c : MConfig) (hc : CfgOK c) : SemC Tryd.prog GC 18 [cfgM c] (.tup [.str (formT c), .int .i64 (validC c)]) := by
  intro w P vals hg hP hargs
  cases hargs with
  | cons h t =>
    cases t with
    | nil =>
      obtain rfl := repV_cfg_ h
      refine (rformat_c c hc w).mono ?_
      rintro e w' ⟨rfl, hb⟩
      refine ⟨_, rfl, tups_rep [(.str (formT c), [.string ⟨(formT c).toArray⟩]), (.int .i64 (validC c), [.int .i64 (validC c)])] _ _ _ fun x hx => ?_, hb⟩
      simp only [List.mem_cons, List.not_mem_nil, or_false] at hx
      rcases hx with rfl | rfl
      · exact .str
      · exact .int
theorem known_s : SemC Tryd.prog GC 11 [] (.bool true) := by
  intro w P vals hg hP hargs
  cases hargs with
  | nil =>
    refine (known_c w (lib_below hg)).mono ?_
    rintro e w' ⟨rfl, hb⟩
    exact ⟨_, rfl, .val [_] .bool, hb⟩
def strsM (l : List Bs) : MV := .sl l.length (l.map MV.str)
theorem own_rep {w w' : World} {P : Prot} {v : Value} {ws : List Bs} {e : TypeId} (h : w'.ownsRow w.heap.size e 1 v ws.length (ws.map strV)) : RepV w' (protNew w w' P) noAdr (strsM ws) v := by
  rcases h.2 with ⟨rfl, h0⟩ | ⟨g, cap, cur, rfl, hb, hgg, hnc, hcm, hcs, htk⟩
  · obtain rfl : ws = [] := List.length_eq_zero_iff.1 h0
    exact .val [_] (.sl none 0 0 [] rfl rfl (fun p hp => nomatch hp) (fun _ => ⟨rfl, rfl⟩) (Nat.le_refl _) (fun h => absurd rfl h) (fun j m p h => by simp at h))
  · have e0 : (ws.map fun x => [strV x]).flatten = ws.map strV := by
      clear htk hnc hgg hcs hcm h
      induction ws with
      | nil => rfl
      | cons x l ih => simp only [List.map_cons, List.flatten_cons, ih]; rfl
    refine .val [_] (.sl (some ⟨g, 0, none⟩) cap 1 (ws.map fun x => [strV x]) (by simp) (by simp) (fun p hp => by obtain ⟨y, _, rfl⟩ := List.mem_map.1 hp; rfl) (fun h => nomatch h) hnc (fun _ => ⟨g, 0, rfl, fun j u hj => ?_⟩) fun j m p hm hp => ?_)
    · rw [e0, ← htk, List.getElem?_take] at hj
      split at hj
      · refine ⟨?_, .inr ⟨hb, (Array.getElem?_eq_some_iff.1 hgg).1⟩⟩
        rw [show w'.cell? ⟨g, 0 + j, none⟩ = cur[0 + j]? from cell_of_row w' g _ cur e (0, 0) hgg, Nat.zero_add]
        simpa using hj
      · cases hj
    · rw [List.getElem?_map] at hm hp
      cases hx : ws[j]? with
      | none => rw [hx] at hm; cases hm
      | some x =>
        rw [hx] at hm hp
        cases hm; cases hp
        exact .str
theorem lines_s (s : Bs) (hs : s.length ≤ 1048576) : SemC Tryd.prog GC 24 [.str s] (strsM (linesOf s)) := by
  intro w P vals hg hP hargs
  cases hargs with
  | cons h t =>
    cases t with
    | nil =>
      obtain rfl := h.str_
      refine (lines_o ⟨s.toArray⟩ (by simpa [ByteArray.size] using hs) w).mono ?_
      rintro e w' ⟨v, rfl, ⟨h1, _⟩, hb⟩
      exact ⟨v, rfl, own_rep h1, hb⟩
end Go.Proofs.YtllepnadffndnaaDoor
namespace Go.Proofs.YtllepnadffndnaaDoor
open Go.RowKit
variable {G : GS}
theorem tmodn (a b : Nat) : (a : Int).tmod (b : Int) = ((a % b : Nat) : Int) := by
  rw [Int.tmod_eq_emod_of_nonneg (Int.natCast_nonneg a)]; rfl
def padS (p : List UInt8) (i : Nat) : Bs := if p = [] then [] else pads6.getD ((p.getD (i % p.length) 0).toNat % 6) []
theorem padS_mem (p : List UInt8) (i : Nat) : padS p i ∈ pads6 := by
  unfold padS
  split
  · decide
  · have h : (p.getD (i % p.length) 0).toNat % 6 < 6 := Nat.mod_lt _ (by omega)
    generalize (p.getD (i % p.length) 0).toNat % 6 = k at h
    have h6 : k = 0 ∨ k = 1 ∨ k = 2 ∨ k = 3 ∨ k = 4 ∨ k = 5 := by omega
    rcases h6 with rfl | rfl | rfl | rfl | rfl | rfl <;> decide
abbrev padB (p : List UInt8) : VM := [(0, ⟨38, 1, false, 0, [.sl p.length (u8s p)]⟩)]
theorem six_at {k : Nat} (hk : k < 6) : nthM (pads6.map MV.str) (0 + k) = some (.str (pads6.getD k [])) := by
  have h6 : k = 0 ∨ k = 1 ∨ k = 2 ∨ k = 3 ∨ k = 4 ∨ k = 5 := by omega
  rcases h6 with rfl | rfl | rfl | rfl | rfl | rfl <;> rfl
theorem u8_at {p : List UInt8} {k : Nat} (hk : k < p.length) : idxL (u8s p) p.length (k : Int) = some (.int .u8 ((p.getD k 0).toNat : Nat)) := by
  refine index_at hk ?_
  simp [u8s, hk]
set_option maxHeartbeats 2000000 in
set_option maxRecDepth 20000 in
theorem pad_r (p : List UInt8) (hp : p.length ≤ 140737488355328) (i : Nat) (_hi : i < 1000) : SemC Tryd.prog G 25 [.int .i64 i, .ep (.sl p.length (u8s p)) 0 []] (.str (padS p i)) := by
  refine semC_of_vc seat Tryd.func25 rfl rfl (Nat.le_of_ble_eq_true rfl) (Nat.le_of_ble_eq_true rfl) (N := 18) rfl ?_
  refine go1 ?_
  ((with_reducible apply c_cond); (case he => exact rfl); (all_goals intro h))
  · have h0 : p = [] := by
      have h := eq_of_beq h
      exact List.length_eq_zero_iff.1 (by omega)
    have e1 : padS p i = [] := if_pos h0
    clear h0
    refine go1 ?_
    refine go0 ?_
    exact congrArg MV.str e1.symm
  · have h0 : p ≠ [] := by
      intro e
      subst e
      exact Bool.noConfusion h
    have hl : 0 < p.length := List.length_pos_iff.2 h0
    have hk : i % p.length < p.length := Nat.mod_lt _ hl
    have f1 := EqF.mk (tmodn i p.length)
    have f2 := SomF.mk (u8_at hk)
    have e1 : padS p i = pads6.getD ((p.getD (i % p.length) 0).toNat % 6) [] := if_neg h0
    generalize (p.getD (i % p.length) 0).toNat = x at *
    have f3 := EqF.mk (tmodn x 6)
    have f5 := SomF.mk (idx_at (n := 5 + 1) (show x % 6 < 6 from Nat.mod_lt _ (by omega)))
    have f4 := SomF.mk (six_at (show x % 6 < 6 from Nat.mod_lt _ (by omega)))
    refine go1 ?_
    refine c_draw [(1, false), (2, false), (3, false), (4, false), (5, false), (6, false), (7, false), (0, false), (8, false), (9, false), (10, false), (11, false)] ?_
    refine go1 ?_
    refine go0 ?_
    exact congrArg MV.str e1.symm
end Go.Proofs.YtllepnadffndnaaDoor
namespace Go.Proofs.YtllepnadffndnaaDoor
open Go.RowKit
def lineO (c : MConfig) : Option Nat → Bs
  | some k => lineK c k
  | none => []
def allO : List (Option Nat) := (List.range 12).map some ++ [none]
theorem words_blank2 {p e : Bs} (hpv : validS p = true) (hps : ∀ x ∈ runesOf p, x ≠ [35] ∧ spaceB x = true) (he : endK (runesOf e) = true) : wordsOf (p ++ e) = [] := by
  unfold wordsOf
  rw [runesOf_app _ p _ (Nat.le_refl _) hpv, wordsGo_spaces _ _ _ hps, wordsGo_end _ _ _ he, if_pos rfl]
theorem allO_lt {o : Option Nat} (h : o ∈ allO) : ∀ k, o = some k → k < 12 := by
  rintro k rfl
  simpa [allO] using h
theorem lineO_out {c : MConfig} {o : Option Nat} (h : o ∈ allO) {p q co : Bs} (hp : p ∈ pads6) (hq : q ∈ pads6) (hc : co ∈ coms3) :
    let x := p ++ lineO c o ++ (q ++ co)
    ([x].map wordsOf).filter (fun w => !w.isEmpty) = ([o].filterMap id).map (fun k => [nameL k, valT c k]) ∧ validS x = true ∧ (∀ y ∈ x, y ≠ 10) ∧ x.length ≤ (lineO c o).length + 13 := by
  obtain ⟨p1, p2, p3, p4, p5⟩ := pads_ok p hp
  obtain ⟨e1, e2, e3, e4⟩ := ends_ok q hq co hc
  dsimp only
  cases o with
  | none =>
    have hw : wordsOf (p ++ [] ++ (q ++ co)) = [] := by rw [List.append_nil]; exact words_blank2 p1 p2 e2
    refine ⟨?_, ?_, ?_, ?_⟩
    · show ([wordsOf (p ++ [] ++ (q ++ co))]).filter (fun w => !w.isEmpty) = []
      rw [hw]; rfl
    · show validS (p ++ [] ++ (q ++ co)) = true
      rw [List.append_nil, validS_app2 _ p _ (Nat.le_refl _) p1, e1]
    · intro y hy
      simp only [lineO, List.append_nil, List.mem_append] at hy
      rcases hy with h | h
      · exact p4 y h
      · exact e3 y (List.mem_append.2 h)
    · simp only [lineO, List.length_append, List.length_nil] at e4 ⊢; omega
  | some k =>
    have hk := allO_lt h k rfl
    have hw := words_pad p1 p2 (name_word hk).2 (val_word c k).2 (name_word hk).1 (val_word c k).1 e2
    have hv := valid_pad p1 (name_word hk).2 (val_word c k).2 e1
    refine ⟨?_, hv, ?_, ?_⟩
    · have hw' : wordsOf (p ++ lineO c (some k) ++ (q ++ co)) = [nameL k, valT c k] := hw
      show ([wordsOf (p ++ lineO c (some k) ++ (q ++ co))]).filter (fun w => !w.isEmpty) = [[nameL k, valT c k]]
      rw [hw']; rfl
    · intro y hy
      simp only [lineO, lineK, List.mem_append, List.mem_singleton] at hy
      rcases hy with (h | (h | h) | h) | h
      · exact p4 y h
      · exact name_no10 hk y h
      · subst h; decide
      · exact val_no10 c k y h
      · exact e3 y (List.mem_append.2 h)
    · simp only [List.length_append] at e4 ⊢; omega
def Sp (c : MConfig) (i : Nat) (os : List (Option Nat)) (t : Bs) (b : Nat) : Prop :=
  ∃ (L : List Bs) (us : List (Option Nat)), t = joinL L ∧ (L.map wordsOf).filter (fun w => !w.isEmpty) = (us.filterMap id).map (fun k => [nameL k, valT c k]) ∧ (os ++ us).Perm allO ∧
    (∀ x ∈ L, validS x = true) ∧ (∀ x ∈ L, ∀ y ∈ x, y ≠ 10) ∧ t.length + (joinL (os.map (lineO c))).length ≤ b ∧ us.length = i
theorem Sp.left {c : MConfig} {i : Nat} {os : List (Option Nat)} {t : Bs} {b : Nat} (h : Sp c i os t b) : os.length + i = 13 ∧ (∀ o ∈ os, o ∈ allO) ∧ t.length ≤ b := by
  obtain ⟨L, us, _, _, hp, _, _, hb, hu⟩ := h
  have := hp.length_eq
  refine ⟨?_, fun o ho => hp.subset (List.mem_append_left _ ho), by omega⟩
  rw [List.length_append] at this
  have : allO.length = 13 := by decide
  omega
theorem joinL_one (x : Bs) : joinL [x] = x ++ [10] := rfl
theorem perm_take {os us all : List (Option Nat)} {o : Option Nat} {j : Nat} (hj : os[j]? = some o) (h : (os ++ us).Perm all) : ((os.take j ++ os.drop (j + 1)) ++ (us ++ [o])).Perm all := by
  obtain ⟨hlt, rfl⟩ := List.getElem?_eq_some_iff.1 hj
  refine List.Perm.trans ?_ h
  have e : os = os.take j ++ os[j] :: os.drop (j + 1) := by rw [← List.drop_eq_getElem_cons hlt, List.take_append_drop]
  have h1 : (os.take j ++ os.drop (j + 1) ++ (us ++ [os[j]])).Perm (os[j] :: (os.take j ++ os.drop (j + 1) ++ us)) := by
    rw [← List.append_assoc]
    exact List.perm_append_singleton _ _
  refine h1.trans ?_
  have h2 : (os[j] :: (os.take j ++ os.drop (j + 1))).Perm (os.take j ++ os[j] :: os.drop (j + 1)) := List.perm_middle.symm
  have h3 := h2.append_right us
  rw [← e] at h3
  exact h3
theorem joinL_take {c : MConfig} {os : List (Option Nat)} {o : Option Nat} {j : Nat} (hj : os[j]? = some o) : (joinL ((os.take j ++ os.drop (j + 1)).map (lineO c))).length + (lineO c o).length + 1 = (joinL (os.map (lineO c))).length := by
  obtain ⟨hlt, rfl⟩ := List.getElem?_eq_some_iff.1 hj
  have e : os = os.take j ++ os[j] :: os.drop (j + 1) := by rw [← List.drop_eq_getElem_cons hlt, List.take_append_drop]
  have e2 : (joinL (os.map (lineO c))).length = (joinL ((os.take j ++ os[j] :: os.drop (j + 1)).map (lineO c))).length := by rw [← e]
  rw [e2, List.map_append, List.map_append, List.map_cons, joinL_app, joinL_app, joinL]
  simp only [List.length_append, List.length_cons]
  omega
theorem Sp.line {c : MConfig} {i : Nat} {os : List (Option Nat)} {t : Bs} {b : Nat} (h : Sp c i os t b) {j : Nat} {o : Option Nat} (hj : os[j]? = some o) {p q co : Bs} (hp : p ∈ pads6) (hq : q ∈ pads6) (hc : co ∈ coms3) :
    Sp c (i + 1) (os.take j ++ os.drop (j + 1)) (t ++ (p ++ lineO c o ++ q ++ co ++ [10])) (b + 13) := by
  have hmem := h.left.2.1 o (List.mem_of_getElem? hj)
  obtain ⟨L, us, rfl, hw, hpm, hv, h10, hb, hu⟩ := h
  obtain ⟨l1, l2, l3, l4⟩ := lineO_out (c := c) hmem hp hq hc
  refine ⟨L ++ [p ++ lineO c o ++ (q ++ co)], us ++ [o], ?_, ?_, perm_take hj hpm, ?_, ?_, ?_, by simp [hu]⟩
  · rw [joinL_app, joinL_one]; simp only [List.append_assoc]
  · rw [List.map_append, List.filter_append, hw, l1, List.filterMap_append, List.map_append]
  · intro x hx
    rcases List.mem_append.1 hx with h | h
    · exact hv x h
    · rw [List.mem_singleton] at h; subst h; exact l2
  · intro x hx
    rcases List.mem_append.1 hx with h | h
    · exact h10 x h
    · rw [List.mem_singleton] at h; subst h; exact l3
  · have := joinL_take (c := c) hj
    simp only [List.length_append, List.length_singleton] at l4 ⊢
    omega
theorem Sp.blank {c : MConfig} {i : Nat} {os : List (Option Nat)} {t : Bs} {b : Nat} (h : Sp c i os t b) {p : Bs} (hp : p ∈ pads6) : Sp c i os (t ++ (p ++ [10])) (b + 5) := by
  obtain ⟨p1, p2, p3, p4, p5⟩ := pads_ok p hp
  obtain ⟨L, us, rfl, hw, hpm, hv, h10, hb, hu⟩ := h
  have hwb : wordsOf p = [] := words_blank p3
  refine ⟨L ++ [p], us, ?_, ?_, hpm, ?_, ?_, ?_, hu⟩
  · rw [joinL_app, joinL_one]
  · rw [List.map_append, List.filter_append, hw]; simp [hwb]
  · intro x hx
    rcases List.mem_append.1 hx with h | h
    · exact hv x h
    · rw [List.mem_singleton] at h; subst h; exact p1
  · intro x hx
    rcases List.mem_append.1 hx with h | h
    · exact h10 x h
    · rw [List.mem_singleton] at h; subst h; exact p4
  · simp only [List.length_append, List.length_singleton] at hb ⊢; omega
theorem Sp.weak {c : MConfig} {i : Nat} {os : List (Option Nat)} {t : Bs} {b b' : Nat} (h : Sp c i os t b) (hb : b ≤ b') : Sp c i os t b' := by
  obtain ⟨L, us, h1, h2, h3, h4, h5, h6, h7⟩ := h
  exact ⟨L, us, h1, h2, h3, h4, h5, by omega, h7⟩
theorem form_lines {c : MConfig} (hv : validC c = 0) : linesOf (formT c) = allO.map (lineO c) := by
  unfold formT
  rw [if_pos hv, textTo_join, lines_join]
  · simp [allO, lineO]
  · intro x hx y hy
    obtain ⟨k, hk, rfl⟩ := List.mem_map.1 hx
    simp only [lineK, List.mem_append, List.mem_singleton] at hy
    rcases hy with (h | h) | h
    · exact name_no10 (List.mem_range.1 hk) y h
    · subst h; decide
    · exact val_no10 c k y h
theorem sp_start {c : MConfig} (hok : CfgOK c) (_hv : validC c = 0) : Sp c 0 allO [] 409 := by
  refine ⟨[], [], rfl, rfl, by rw [List.append_nil], by simp, by simp, ?_, rfl⟩
  have hl := textTo_len hok 12
  rw [textTo_join] at hl
  simp only [allO, List.map_append, List.map_map, joinL_app]
  have e : (lineO c ∘ some) = lineK c := rfl
  rw [e]
  simp only [List.map_cons, List.map_nil, lineO, joinL, List.length_append, List.length_nil, List.length_cons]
  omega
theorem sp_end {c : MConfig} (hok : CfgOK c) (hv : validC c = 0) {i : Nat} {t : Bs} {b : Nat} (h : Sp c i [] t b) (hb : b ≤ 4096) : parseSpec t = (c, 0, 0) := by
  obtain ⟨L, us, rfl, hw, hpm, hval, h10, hlen, hu⟩ := h
  rw [List.nil_append] at hpm
  have hks : (us.filterMap id).Perm (List.range 12) := by
    have := hpm.filterMap id
    simpa [allO, List.filterMap_append, List.filterMap_map] using this
  refine parse_lines hok hv L (us.filterMap id) hw (fun k hk => List.mem_range.1 (hks.subset hk)) (hks.nodup_iff.2 List.nodup_range) (fun k hk => hks.symm.subset (List.mem_range.2 hk)) hval h10 (by simp only [List.map_nil, joinL, List.length_nil] at hlen; omega)
end Go.Proofs.YtllepnadffndnaaDoor
namespace Go.Proofs.YtllepnadffndnaaDoor
open Go.RowKit
variable {G : GS}
theorem nextV_lt (L : List Int) (N : Nat) (n : Int) (hn : 0 < n) : 0 ≤ nextV L N n ∧ nextV L N n < n := ⟨Int.emod_nonneg _ (by omega), Int.emod_lt_of_pos _ hn⟩
def nextN (L : List Int) (N : Nat) (n : Nat) : Nat := (nextV L N n).toNat
theorem nextN_eq (L : List Int) (N n : Nat) (hn : 0 < n) : nextV L N n = (nextN L N n : Int) ∧ nextN L N n < n := by
  have := nextV_lt L N n (by omega)
  unfold nextN
  omega
theorem next_n (L : List Int) (N n : Nat) (hn : 0 < n) (hn2 : n < 4611686018427387904) (hN : N < 4611686018427387904) :
    SemR Tryd.prog G 44 [numP, .int .i64 (n : Int)] (numB L N) 1 (.int .i64 (nextN L N n : Int)) (numB L (N + 1)) 1 := by
  have := next_r (G := G) L N n (by omega) (by omega) hN
  rw [(nextN_eq L N n hn).1] at this
  exact this
theorem from_r (L : List Int) : SemR Tryd.prog G 22 [intsM L] [] 0 numP (numB L 0) 1 := by
  refine semR_of_vc seat Tryd.func22 rfl rfl (Nat.le_of_ble_eq_true rfl) (Nat.le_of_ble_eq_true rfl) (N := 6) rfl rfl ?_
  refine go0 ?_
  refine ⟨[_], [(0, 3)], [], rfl, rfl, trivial, rfl, ⟨?_, trivial⟩, ?_⟩
  · exact rv
  · exact mm
set_option maxHeartbeats 2000000 in
theorem long2_m (k o : List Int) (hk : k.length ≤ 140737488355328) (ho : o.length ≤ 140737488355328) : SemC Tryd.prog G 10 [.sl 2 [intsM k, intsM o]] (.bool (decide (160 < k.length + o.length))) := by
  refine semC_of_vc seat Tryd.func10 rfl rfl (Nat.le_of_ble_eq_true rfl) (Nat.le_of_ble_eq_true rfl) (N := 19) rfl ?_
  refine go0 ?_
  refine ⟨Nat × Int, fun x => [(8, .int .i64 x.1), (7, .int .i64 2), (6, .sl 2 [intsM k, intsM o]), (3, .int .i64 x.2)], fun _ => [], 0, fun x => (x.1 = 0 ∧ x.2 = 0) ∨ (x.1 = 1 ∧ x.2 = 0 + k.length) ∨ (x.1 = 2 ∧ x.2 = 0 + k.length + o.length), fun x => 2 - x.1, ⟨(0, 0), .inl ⟨rfl, rfl⟩, (vm [] [])⟩, ?_⟩
  rintro ⟨j, n⟩ hj
  dsimp only at hj ⊢
  refine ⟨fun hd => ?_, fun hd => ?_⟩
  · have hd := of_decide_eq_true hd
    rcases hj with ⟨rfl, rfl⟩ | ⟨rfl, rfl⟩ | ⟨rfl, rfl⟩
    · refine go0 ?_
      refine go0 ?_
      refine go0 ?_
      exact ⟨(1, 0 + k.length), .inr (.inl ⟨rfl, rfl⟩), by show 2 - 1 < 2 - 0; omega, (vm [] [])⟩
    · refine go0 ?_
      refine go0 ?_
      refine go0 ?_
      exact ⟨(2, 0 + k.length + o.length), .inr (.inr ⟨rfl, rfl⟩), by show 2 - 2 < 2 - 1; omega, (vm [] [])⟩
    · exact absurd hd (by omega)
  · have hd := of_decide_eq_false hd
    rcases hj with ⟨rfl, rfl⟩ | ⟨rfl, rfl⟩ | ⟨rfl, rfl⟩
    · exact absurd hd (by omega)
    · exact absurd hd (by omega)
    · refine go0 ?_
      refine go0 ?_
      show MV.bool (decide ((0 + (k.length : Int) + o.length) > 160)) = _
      congr 1
      exact decide_eq_decide.2 (by omega)
section
variable {Pg : Program} {T : Tab} {N : Nat} {ents : List FuncId}
theorem n_cut {ops : Array Oper} {rest : List Oper} {K : VE → VM → Nat → Prop} {E : VE} {M M' : VM} {n n' : Nat} (hM : M = M') (hn : n = n') (h : vOpsN Pg T N ents G ops rest K E M' n') : vOpsN Pg T N ents G ops rest K E M n := by
  subst hM; subst hn; exact h
end
abbrev zeroCM : MV := .st [.int .i64 0, .int .i64 0, .int .i64 0, .int .i64 0, .int .i64 0, .int .i64 0, .bool false, .int .i64 0, .int .i64 0, .int .u64 0, .int .i64 0, .int .i64 0]
abbrev cfB (m : MV) : MB := ⟨24, 12, false, 0, [m]⟩
abbrev nmB (L : List Int) (N : Nat) : MB := ⟨84, 2, false, 0, [.st [intsM L, .int .i64 N]]⟩
set_option maxHeartbeats 4000000 in
set_option maxRecDepth 20000 in
theorem config_r (L : List Int) (N : Nat) (hN : N < 2305843009213693952) : ∃ (c : MConfig) (N' : Nat), GoodC c ∧ SemR Tryd.prog G 21 [numP] (numB L N) 1 (cfgM c) (numB L N') 1 := by
  have e0 := (nextN_eq L N 7 (by omega)).2
  have e1 := (nextN_eq L (N + 1) 400 (by omega)).2
  have e2 := (nextN_eq L (N + 1 + 1) 140 (by omega)).2
  have e3 := (nextN_eq L (N + 1 + 1 + 1) 12 (by omega)).2
  have e4 := (nextN_eq L (N + 1 + 1 + 1 + 1) 4 (by omega)).2
  have e5 := (nextN_eq L (N + 1 + 1 + 1 + 1 + 1) 3 (by omega)).2
  have e6 := (nextN_eq L (N + 1 + 1 + 1 + 1 + 1 + 1) 20 (by omega)).2
  have e7 := (nextN_eq L (N + 1 + 1 + 1 + 1 + 1 + 1 + 1) 3 (by omega)).2
  have e8 := (nextN_eq L (N + 1 + 1 + 1 + 1 + 1 + 1 + 1 + 1) 400 (by omega)).2
  have e9 := (nextN_eq L (N + 1 + 1 + 1 + 1 + 1 + 1 + 1 + 1 + 1) 3 (by omega)).2
  have e10 := (nextN_eq L (N + 1 + 1 + 1 + 1 + 1 + 1 + 1 + 1 + 1 + 1) 3 (by omega)).2
  have n0 := next_n (G := G) L N 7 (by omega) (by omega) (by omega)
  have n1 := next_n (G := G) L (N + 1) 400 (by omega) (by omega) (by omega)
  have n2 := next_n (G := G) L (N + 1 + 1) 140 (by omega) (by omega) (by omega)
  have n3 := next_n (G := G) L (N + 1 + 1 + 1) 12 (by omega) (by omega) (by omega)
  have n4 := next_n (G := G) L (N + 1 + 1 + 1 + 1) 4 (by omega) (by omega) (by omega)
  have n5 := next_n (G := G) L (N + 1 + 1 + 1 + 1 + 1) 3 (by omega) (by omega) (by omega)
  have n6 := next_n (G := G) L (N + 1 + 1 + 1 + 1 + 1 + 1) 20 (by omega) (by omega) (by omega)
  have n7 := next_n (G := G) L (N + 1 + 1 + 1 + 1 + 1 + 1 + 1) 3 (by omega) (by omega) (by omega)
  have n8 := next_n (G := G) L (N + 1 + 1 + 1 + 1 + 1 + 1 + 1 + 1) 400 (by omega) (by omega) (by omega)
  have n9 := next_n (G := G) L (N + 1 + 1 + 1 + 1 + 1 + 1 + 1 + 1 + 1) 3 (by omega) (by omega) (by omega)
  have n10 := next_n (G := G) L (N + 1 + 1 + 1 + 1 + 1 + 1 + 1 + 1 + 1 + 1) 3 (by omega) (by omega) (by omega)
  generalize nextN L N 7 = x0 at *
  generalize nextN L (N + 1) 400 = x1 at *
  generalize nextN L (N + 1 + 1) 140 = x2 at *
  generalize nextN L (N + 1 + 1 + 1) 12 = x3 at *
  generalize nextN L (N + 1 + 1 + 1 + 1) 4 = x4 at *
  generalize nextN L (N + 1 + 1 + 1 + 1 + 1) 3 = x5 at *
  generalize nextN L (N + 1 + 1 + 1 + 1 + 1 + 1) 20 = x6 at *
  generalize nextN L (N + 1 + 1 + 1 + 1 + 1 + 1 + 1) 3 = x7 at *
  generalize nextN L (N + 1 + 1 + 1 + 1 + 1 + 1 + 1 + 1) 400 = x8 at *
  generalize nextN L (N + 1 + 1 + 1 + 1 + 1 + 1 + 1 + 1 + 1) 3 = x9 at *
  generalize nextN L (N + 1 + 1 + 1 + 1 + 1 + 1 + 1 + 1 + 1 + 1) 3 = x10 at *
  have hm : 0 ≤ (x5 : Int) * x6 ∧ (x5 : Int) * x6 < 60 := by
    have e : x5 = 0 ∨ x5 = 1 ∨ x5 = 2 := by omega
    rcases e with rfl | rfl | rfl <;> simp <;> omega
  have e11 := (nextN_eq L (N + 1 + 1 + 1 + 1 + 1 + 1 + 1 + 1 + 1 + 1 + 1) 900 (by omega)).2
  have n11 := next_n (G := G) L (N + 1 + 1 + 1 + 1 + 1 + 1 + 1 + 1 + 1 + 1 + 1) 900 (by omega) (by omega) (by omega)
  have e12 := (nextN_eq L ((N + 1 + 1 + 1 + 1 + 1 + 1 + 1 + 1 + 1 + 1 + 1) + 1) 6 (by omega)).2
  have n12 := next_n (G := G) L ((N + 1 + 1 + 1 + 1 + 1 + 1 + 1 + 1 + 1 + 1 + 1) + 1) 6 (by omega) (by omega) (by omega)
  have e13 := (nextN_eq L ((N + 1 + 1 + 1 + 1 + 1 + 1 + 1 + 1 + 1 + 1 + 1) + 1 + 1) 40 (by omega)).2
  have n13 := next_n (G := G) L ((N + 1 + 1 + 1 + 1 + 1 + 1 + 1 + 1 + 1 + 1 + 1) + 1 + 1) 40 (by omega) (by omega) (by omega)
  have e14 := (nextN_eq L (N + 1 + 1 + 1 + 1 + 1 + 1 + 1 + 1 + 1 + 1 + 1) 6 (by omega)).2
  have n14 := next_n (G := G) L (N + 1 + 1 + 1 + 1 + 1 + 1 + 1 + 1 + 1 + 1 + 1) 6 (by omega) (by omega) (by omega)
  have e15 := (nextN_eq L ((N + 1 + 1 + 1 + 1 + 1 + 1 + 1 + 1 + 1 + 1 + 1) + 1) 40 (by omega)).2
  have n15 := next_n (G := G) L ((N + 1 + 1 + 1 + 1 + 1 + 1 + 1 + 1 + 1 + 1 + 1) + 1) 40 (by omega) (by omega) (by omega)
  generalize nextN L (N + 1 + 1 + 1 + 1 + 1 + 1 + 1 + 1 + 1 + 1 + 1) 900 = x11 at *
  generalize nextN L ((N + 1 + 1 + 1 + 1 + 1 + 1 + 1 + 1 + 1 + 1 + 1) + 1) 6 = x12 at *
  generalize nextN L ((N + 1 + 1 + 1 + 1 + 1 + 1 + 1 + 1 + 1 + 1 + 1) + 1 + 1) 40 = x13 at *
  generalize nextN L (N + 1 + 1 + 1 + 1 + 1 + 1 + 1 + 1 + 1 + 1 + 1) 6 = x14 at *
  generalize nextN L ((N + 1 + 1 + 1 + 1 + 1 + 1 + 1 + 1 + 1 + 1 + 1) + 1) 40 = x15 at *
  obtain ⟨a, g, N', ha, hg, h1, h2, h3, h4⟩ : ∃ (a g : Int) (N' : Nat), (40 ≤ a ∧ a < 200) ∧ (g = -1 ∨ 200 ≤ g ∧ g < 1100) ∧
      (x10 = 0 → x12 = 0 → a = 40 + x13 ∧ g = 200 + x11 ∧ N' = (N + 1 + 1 + 1 + 1 + 1 + 1 + 1 + 1 + 1 + 1 + 1) + 1 + 1 + 1) ∧ (x10 = 0 → x12 ≠ 0 → a = 60 + x2 ∧ g = 200 + x11 ∧ N' = (N + 1 + 1 + 1 + 1 + 1 + 1 + 1 + 1 + 1 + 1 + 1) + 1 + 1) ∧
      (x10 ≠ 0 → x14 = 0 → a = 40 + x15 ∧ g = -1 ∧ N' = (N + 1 + 1 + 1 + 1 + 1 + 1 + 1 + 1 + 1 + 1 + 1) + 1 + 1) ∧ (x10 ≠ 0 → x14 ≠ 0 → a = 60 + x2 ∧ g = -1 ∧ N' = (N + 1 + 1 + 1 + 1 + 1 + 1 + 1 + 1 + 1 + 1 + 1) + 1) := by
    by_cases h10 : x10 = 0
    · by_cases h12 : x12 = 0
      · exact ⟨40 + x13, 200 + x11, _, by omega, by omega, fun _ _ => ⟨rfl, rfl, rfl⟩, fun _ h => absurd h12 h, fun h => absurd h10 h, fun h => absurd h10 h⟩
      · exact ⟨60 + x2, 200 + x11, _, by omega, by omega, fun _ h => absurd h h12, fun _ _ => ⟨rfl, rfl, rfl⟩, fun h => absurd h10 h, fun h => absurd h10 h⟩
    · by_cases h12 : x14 = 0
      · exact ⟨40 + x15, -1, _, by omega, by omega, fun h => absurd h h10, fun h => absurd h h10, fun _ _ => ⟨rfl, rfl, rfl⟩, fun _ h => absurd h12 h⟩
      · exact ⟨60 + x2, -1, _, by omega, by omega, fun h => absurd h h10, fun h => absurd h h10, fun _ h => absurd h h12, fun _ _ => ⟨rfl, rfl, rfl⟩⟩
  refine ⟨⟨1 + x0, 250 + x1, a, x3, x4, x5 * x6, (x7 : Int) == 0, 100 + x8, g, x9, 0, 1⟩, N', goodC_mk (by omega) (by omega) (by omega) (by omega) (by omega) (by omega) (by omega) (by omega) (by omega) rfl rfl, ?_⟩
  refine semR_of_vc seat Tryd.func21 rfl rfl (Nat.le_of_ble_eq_true rfl) (Nat.le_of_ble_eq_true rfl) (N := 47) rfl rfl ?_
  refine go1 ?_
  refine g_callR1 rfl (fun _ h => h) rfl (n0) [(0, 0)] [] ⟨rfl, trivial, rfl, lm, mm⟩ rfl rfl ?_
  refine n_cut (M' := [(0, nmB L (N + 1)), (1, cfB zeroCM)]) (n' := 4) rfl rfl ?_
  refine go1 ?_
  refine g_callR1 rfl (fun _ h => h) rfl (n1) [(0, 0)] [] ⟨rfl, trivial, rfl, lm, mm⟩ rfl rfl ?_
  refine n_cut (M' := [(0, nmB L (N + 1 + 1)), (1, cfB zeroCM)]) (n' := 7) rfl rfl ?_
  refine go1 ?_
  refine g_callR1 rfl (fun _ h => h) rfl (n2) [(0, 0)] [] ⟨rfl, trivial, rfl, lm, mm⟩ rfl rfl ?_
  refine n_cut (M' := [(0, nmB L (N + 1 + 1 + 1)), (1, cfB zeroCM)]) (n' := 10) rfl rfl ?_
  refine go1 ?_
  refine g_callR1 rfl (fun _ h => h) rfl (n3) [(0, 0)] [] ⟨rfl, trivial, rfl, lm, mm⟩ rfl rfl ?_
  refine n_cut (M' := [(0, nmB L (N + 1 + 1 + 1 + 1)), (1, cfB zeroCM)]) (n' := 13) rfl rfl ?_
  refine go1 ?_
  refine g_callR1 rfl (fun _ h => h) rfl (n4) [(0, 0)] [] ⟨rfl, trivial, rfl, lm, mm⟩ rfl rfl ?_
  refine n_cut (M' := [(0, nmB L (N + 1 + 1 + 1 + 1 + 1)), (1, cfB zeroCM)]) (n' := 15) rfl rfl ?_
  refine go1 ?_
  refine g_callR1 rfl (fun _ h => h) rfl (n5) [(0, 0)] [] ⟨rfl, trivial, rfl, lm, mm⟩ rfl rfl ?_
  refine n_cut (M' := [(0, nmB L (N + 1 + 1 + 1 + 1 + 1 + 1)), (1, cfB zeroCM)]) (n' := 17) rfl rfl ?_
  refine go1 ?_
  refine g_callR1 rfl (fun _ h => h) rfl (n6) [(0, 0)] [] ⟨rfl, trivial, rfl, lm, mm⟩ rfl rfl ?_
  refine n_cut (M' := [(0, nmB L (N + 1 + 1 + 1 + 1 + 1 + 1 + 1)), (1, cfB zeroCM)]) (n' := 19) rfl rfl ?_
  refine go1 ?_
  refine g_callR1 rfl (fun _ h => h) rfl (n7) [(0, 0)] [] ⟨rfl, trivial, rfl, lm, mm⟩ rfl rfl ?_
  refine n_cut (M' := [(0, nmB L (N + 1 + 1 + 1 + 1 + 1 + 1 + 1 + 1)), (1, cfB zeroCM)]) (n' := 22) rfl rfl ?_
  refine go1 ?_
  refine g_callR1 rfl (fun _ h => h) rfl (n8) [(0, 0)] [] ⟨rfl, trivial, rfl, lm, mm⟩ rfl rfl ?_
  refine n_cut (M' := [(0, nmB L (N + 1 + 1 + 1 + 1 + 1 + 1 + 1 + 1 + 1)), (1, cfB zeroCM)]) (n' := 25) rfl rfl ?_
  refine go1 ?_
  refine g_callR1 rfl (fun _ h => h) rfl (n9) [(0, 0)] [] ⟨rfl, trivial, rfl, lm, mm⟩ rfl rfl ?_
  refine n_cut (M' := [(0, nmB L (N + 1 + 1 + 1 + 1 + 1 + 1 + 1 + 1 + 1 + 1)), (1, cfB zeroCM)]) (n' := 28) rfl rfl ?_
  refine go1 ?_
  refine g_callR1 rfl (fun _ h => h) rfl (n10) [(0, 0)] [] ⟨rfl, trivial, rfl, lm, mm⟩ rfl rfl ?_
  refine n_cut (M' := [(0, nmB L (N + 1 + 1 + 1 + 1 + 1 + 1 + 1 + 1 + 1 + 1 + 1)), (30, cfB (.st [.int .i64 (1 + x0), .int .i64 (250 + x1), .int .i64 (60 + x2), .int .i64 x3, .int .i64 x4, .int .i64 (x5 * x6), .bool ((x7 : Int) == 0), .int .i64 (100 + x8), .int .i64 (-1), .int .u64 x9, .int .i64 0, .int .i64 1])), (1, cfB zeroCM)]) (n' := 34) rfl rfl ?_
  refine go1 ?_
  ((with_reducible apply c_cond); (case he => exact rfl); (all_goals intro h))
  · have h10 : x10 = 0 := by simpa using h
    clear h
    refine go1 ?_
    refine g_callR1 rfl (fun _ h => h) rfl (n11) [(0, 0)] [] ⟨rfl, trivial, rfl, lm, mm⟩ rfl rfl ?_
    refine go1 ?_
    refine g_callR1 rfl (fun _ h => h) rfl (n12) [(0, 0)] [] ⟨rfl, trivial, rfl, lm, mm⟩ rfl rfl ?_
    refine go1 ?_
    ((with_reducible apply c_cond); (case he => exact rfl); (all_goals intro h))
    · have h12 : x12 = 0 := by simpa using h
      obtain ⟨rfl, rfl, rfl⟩ := h1 h10 h12
      refine go1 ?_
      refine g_callR1 rfl (fun _ h => h) rfl (n13) [(0, 0)] [] ⟨rfl, trivial, rfl, lm, mm⟩ rfl rfl ?_
      refine go1 ?_
      refine go0 ?_
      refine ⟨[_], [], [], rfl, rfl, trivial, rfl, ⟨?_, trivial⟩, ?_⟩
      · exact rv
      · exact mm
    · have h12 : x12 ≠ 0 := by simpa using h
      obtain ⟨rfl, rfl, rfl⟩ := h2 h10 h12
      refine go1 ?_
      refine go0 ?_
      refine ⟨[_], [], [], rfl, rfl, trivial, rfl, ⟨?_, trivial⟩, ?_⟩
      · exact rv
      · exact mm
  · have h10 : x10 ≠ 0 := by simpa using h
    clear h
    refine go1 ?_
    refine g_callR1 rfl (fun _ h => h) rfl (n14) [(0, 0)] [] ⟨rfl, trivial, rfl, lm, mm⟩ rfl rfl ?_
    refine go1 ?_
    ((with_reducible apply c_cond); (case he => exact rfl); (all_goals intro h))
    · have h12 : x14 = 0 := by simpa using h
      obtain ⟨rfl, rfl, rfl⟩ := h3 h10 h12
      refine go1 ?_
      refine g_callR1 rfl (fun _ h => h) rfl (n15) [(0, 0)] [] ⟨rfl, trivial, rfl, lm, mm⟩ rfl rfl ?_
      refine go1 ?_
      refine go0 ?_
      refine ⟨[_], [], [], rfl, rfl, trivial, rfl, ⟨?_, trivial⟩, ?_⟩
      · exact rv
      · exact mm
    · have h12 : x14 ≠ 0 := by simpa using h
      obtain ⟨rfl, rfl, rfl⟩ := h4 h10 h12
      refine go1 ?_
      refine go0 ?_
      refine ⟨[_], [], [], rfl, rfl, trivial, rfl, ⟨?_, trivial⟩, ?_⟩
      · exact rv
      · exact mm
end Go.Proofs.YtllepnadffndnaaDoor
namespace Go.Proofs.YtllepnadffndnaaDoor
open Go.RowKit
theorem bndHi {n k : Nat} {κ : IntKind} (h : k ≤ n) : bounds n none (some (.int κ (k : Int))) = some (0, k) := by
  unfold bounds
  dsimp only
  rw [if_pos ⟨by omega, by omega⟩]
  simp
theorem bndLo1 {n k : Nat} {κ : IntKind} (h : k + 1 ≤ n) : bounds n (some (.int κ ((k : Int) + 1))) none = some (k + 1, n) := by
  unfold bounds
  dsimp only
  rw [if_pos ⟨by omega, by omega⟩]
  simp
theorem head_str {α : Type} (g : α → Bs) : ∀ (l : List α), headSize (l.map fun o => MV.str (g o)) 1 = true
  | [] => rfl
  | _ :: _ => rfl
theorem cut_take {α : Type} (f : α → MV) (l : List α) (k : Nat) : cutL (l.map f) 0 k = (l.take k).map f := by simp [cutL, List.map_take]
theorem cut_drop {α : Type} (f : α → MV) (l : List α) (k : Nat) : cutL (l.map f) k l.length = (l.drop k).map f := by
  unfold cutL
  rw [List.take_of_length_le (by rw [List.length_drop, List.length_map]; omega), List.map_drop]
theorem formT_le {c : MConfig} (hok : CfgOK c) (hv : validC c = 0) : (formT c).length ≤ 408 := by
  have h := textTo_len hok 12
  unfold formT
  rw [if_pos hv]
  omega
theorem line_len {c : MConfig} (hok : CfgOK c) {o : Option Nat} (ho : o ∈ allO) : (lineO c o).length ≤ 1000 := by
  cases o with
  | none => exact Nat.zero_le _
  | some k =>
    have h := lineT_len hok k
    show (lineK c k).length ≤ 1000
    simp only [lineT, lineK, List.length_append] at h ⊢
    omega
theorem eq_cfg (c0 c1 c2 c3 c4 c5 : Int) (c6 : Bool) (c7 c8 c9 c10 c11 : Int) : eqM (.st [.int .i64 c0, .int .i64 c1, .int .i64 c2, .int .i64 c3, .int .i64 c4, .int .i64 c5, .bool c6, .int .i64 c7, .int .i64 c8, .int .u64 c9, .int .i64 c10, .int .i64 c11]) (.st [.int .i64 c0, .int .i64 c1, .int .i64 c2, .int .i64 c3, .int .i64 c4, .int .i64 c5, .bool c6, .int .i64 c7, .int .i64 c8, .int .u64 c9, .int .i64 c10, .int .i64 c11]) = some true := by
  simp [eqM, eqMs]
theorem cfg_side (c0 c1 c2 c3 c4 c5 : Int) (c6 : Bool) (c7 c8 c9 c10 c11 : Int) : eqT Tryd.prog tab 24 = true ∧ confM tab 9 24 (.st [.int .i64 c0, .int .i64 c1, .int .i64 c2, .int .i64 c3, .int .i64 c4, .int .i64 c5, .bool c6, .int .i64 c7, .int .i64 c8, .int .u64 c9, .int .i64 c10, .int .i64 c11]) = true ∧ confM tab 9 24 (.st [.int .i64 c0, .int .i64 c1, .int .i64 c2, .int .i64 c3, .int .i64 c4, .int .i64 c5, .bool c6, .int .i64 c7, .int .i64 c8, .int .u64 c9, .int .i64 c10, .int .i64 c11]) = true := by
  have h : confM tab 9 24 (.st [.int .i64 c0, .int .i64 c1, .int .i64 c2, .int .i64 c3, .int .i64 c4, .int .i64 c5, .bool c6, .int .i64 c7, .int .i64 c8, .int .u64 c9, .int .i64 c10, .int .i64 c11]) = true := by
    have h1 : Tab.find tab 24 = some (.struct [(0, 3), (1, 3), (2, 3), (3, 3), (4, 3), (5, 3), (6, 4), (7, 3), (8, 3), (9, 22), (10, 3), (11, 3)] 12) := rfl
    have h2 : Tab.find tab 3 = some (.int .i64) := rfl
    have h3 : Tab.find tab 4 = some .bool := rfl
    have h4 : Tab.find tab 22 = some (.int .u64) := rfl
    have k2 : ∀ c : Int, confM tab 8 3 (.int .i64 c) = true := fun c => by rw [confM.eq_def]; simp only [h2]; rfl
    have k3 : ∀ c : Bool, confM tab 8 4 (.bool c) = true := fun c => by rw [confM.eq_def]; simp only [h3]
    have k4 : ∀ c : Int, confM tab 8 22 (.int .u64 c) = true := fun c => by rw [confM.eq_def]; simp only [h4]; rfl
    rw [confM.eq_def]
    simp only [h1]
    simp only [confMs, h2, h3, h4, TD.size, MV.size, k2, k3, k4]
    rfl
  exact ⟨by kernel_rfl, h, h⟩
theorem nl_eq : (⟨#[10]⟩ : ByteArray).data.toList = [10] := rfl
theorem nl_len : (⟨#[10]⟩ : ByteArray).data.toList.length = 1 := rfl
theorem coms_at {k : Nat} (hk : k < 3) : nthM (coms3.map MV.str) (0 + k) = some (.str (coms3.getD k [])) := by
  have h6 : k = 0 ∨ k = 1 ∨ k = 2 := by omega
  rcases h6 with rfl | rfl | rfl <;> rfl
theorem coms_mem {k : Nat} (hk : k < 3) : coms3.getD k [] ∈ coms3 ∧ (coms3.getD k []).length ≤ 5 := by
  have h6 : k = 0 ∨ k = 1 ∨ k = 2 := by omega
  rcases h6 with rfl | rfl | rfl <;> decide
theorem pads_len {x : Bs} (h : x ∈ pads6) : x.length ≤ 4 := (pads_ok x h).2.2.2.2
theorem line_at {g : Option Nat → Bs} {os : List (Option Nat)} {j : Nat} (hj : j < os.length) : idxL (os.map fun o => MV.str (g o)) os.length (j : Int) = some (.str (g os[j])) := index_at hj (by simp [hj])
theorem strs_map {α : Type} (g : α → Bs) (l : List α) : strsM (l.map g) = .sl l.length (l.map fun o => MV.str (g o)) := by
  unfold strsM
  rw [List.length_map, List.map_map]
  rfl
theorem parse_end {c : MConfig} (hok : CfgOK c) (hv : validC c = 0) {i : Nat} {t : Bs} {b : Nat} (h : Sp c i [] t b) (hb : b ≤ 4096) : SemC Tryd.prog GC 19 [.str t] (triM (c, 0, 0)) := by
  have := parse_s t
  rw [sp_end hok hv h hb] at this
  exact this
set_option maxHeartbeats 4000000 in
set_option maxRecDepth 20000 in
theorem configSpaces_core (k order : List Int) (hk : k.length ≤ 140737488355328) (ho : order.length ≤ 140737488355328) (p : List UInt8) (hp : p.length ≤ 140737488355328) :
    SemC Tryd.prog GC 7 [intsM k, intsM order, .sl p.length (u8s p)] (.bool true) := by
  have hlong := long2_m (G := GC) k order hk ho
  obtain ⟨c, N', hgood, hcfg⟩ := config_r (G := GC) k 0 (by omega)
  have hok := hgood.ok
  have hv := hgood.valid
  have hform := form_s c hok
  rw [hv] at hform
  have hfl : (formT c).length ≤ 408 := by
    exact formT_le hok hv
  have hlines := lines_s (formT c) (by omega)
  rw [form_lines hv, strs_map] at hlines
  have hpe : ∀ (i : Nat) (t : Bs) (b : Nat), Sp c i [] t b → b ≤ 4096 → _ := fun i t b => parse_end (i := i) (t := t) (b := b) hok hv
  have hst := sp_start hok hv
  have hstep : ∀ (i : Nat) (os : List (Option Nat)) (t : Bs) (b : Nat), Sp c i os t b → ∀ (j : Nat) (o : Option Nat), os[j]? = some o → ∀ (p q co : Bs), p ∈ pads6 → q ∈ pads6 → co ∈ coms3 → Sp c (i + 1) (os.take j ++ os.drop (j + 1)) (t ++ (p ++ lineO c o ++ q ++ co ++ [10])) (b + 13) := fun i os t b h j o hj p q co hp hq hc => h.line hj hp hq hc
  have hbl : ∀ (i : Nat) (os : List (Option Nat)) (t : Bs) (b : Nat), Sp c i os t b → ∀ (p : Bs), p ∈ pads6 → Sp c i os (t ++ (p ++ [10])) (b + 5) := fun i os t b h p hp => h.blank hp
  have hwk : ∀ (i : Nat) (os : List (Option Nat)) (t : Bs) (b b' : Nat), Sp c i os t b → b ≤ b' → Sp c i os t b' := fun i os t b b' h hb => h.weak hb
  have hleft : ∀ (i : Nat) (os : List (Option Nat)) (t : Bs) (b : Nat), Sp c i os t b → os.length + i = 13 ∧ (∀ o ∈ os, o ∈ allO) ∧ t.length ≤ b := fun i os t b h => h.left
  have hll : ∀ o ∈ allO, (lineO c o).length ≤ 1000 := by
    exact fun o ho => line_len hok ho
  generalize lineO c = g at *
  generalize Sp c = S at *
  generalize formT c = F at *
  have hcm : ∃ m, cfgM c = m := ⟨_, rfl⟩
  clear hok hv hgood
  obtain ⟨c0, c1, c2, c3, c4, c5, c6, c7, c8, c9, c10, c11⟩ := c
  simp only [triM, cfgM] at hcfg hform hpe
  have hal : allO.length = 13 := by decide
  generalize allO = al at *
  cases hbl1 : decide (160 < k.length + order.length) with
  | true =>
    rw [hbl1] at hlong
    refine semC_of_vc seat Tryd.func7 rfl rfl (Nat.le_of_ble_eq_true rfl) (Nat.le_of_ble_eq_true rfl) (N := 118) rfl ?_
    refine go1 ?_
    refine g_call1 rfl (fun _ h => h) rfl (semR_of_semC (hlong)) rfl [(4, 2)] mm lm ?_
    refine go1 ?_
    refine g_call1 rfl (fun _ h => h) rfl (semR_of_semC (known_s)) rfl [] mm lm ?_
    refine go1 ?_
    refine go0 ?_
    rfl
  | false =>
    rw [hbl1] at hlong
    refine semC_of_vc seat Tryd.func7 rfl rfl (Nat.le_of_ble_eq_true rfl) (Nat.le_of_ble_eq_true rfl) (N := 118) rfl ?_
    refine go1 ?_
    refine g_call1 rfl (fun _ h => h) rfl (semR_of_semC (hlong)) rfl [(4, 2)] mm lm ?_
    refine go1 ?_
    ((with_reducible apply c_cond); (case he => exact rfl); (all_goals intro h))
    · refine go1 ?_
      refine g_call1 rfl (fun _ h => h) rfl (semR_of_semC (known_s)) rfl [] mm lm ?_
      refine go1 ?_
      refine go0 ?_
      rfl
    refine go1 ?_
    refine g_callR1 rfl (fun _ h => h) rfl (from_r k) [] [] ⟨rfl, trivial, rfl, lm, mm⟩ rfl rfl ?_
    refine go1 ?_
    refine g_callR1 rfl (fun _ h => h) rfl (hcfg) [(0, _)] [] ⟨rfl, trivial, rfl, lm, mm⟩ rfl rfl ?_
    refine go1 ?_
    refine g_call1 rfl (fun _ h => h) rfl (semR_of_semC (hform)) rfl [] mm lm ?_
    refine go1 ?_
    refine g_call1 rfl (fun _ h => h) rfl (semR_of_semC (hlines)) rfl [] mm lm ?_
    refine go1 ?_
    refine c_loop (Nat × List (Option Nat) × Bs) (fun x => [(13, .int .i64 x.1), (12, .str x.2.2), (11, .fn 25 [.ep (.sl p.length (u8s p)) 0 []]), (10, .sl x.2.1.length (x.2.1.map fun o => MV.str (g o))), (7, .ptr 0 12 0 0 []), (1, intsM order)]) (fun _ => [(0, cfB (.st [.int .i64 c0, .int .i64 c1, .int .i64 c2, .int .i64 c3, .int .i64 c4, .int .i64 c5, .bool c6, .int .i64 c7, .int .i64 c8, .int .u64 c9, .int .i64 c10, .int .i64 c11]))]) 1 (fun x => S x.1 x.2.1 x.2.2 (409 + 18 * x.1)) (fun x => x.2.1.length) (0, al, []) hst (by dsimp only; exact VMatch.of [(0, 13)] [(0, 1)] ⟨⟨_, rfl, rv⟩, ⟨_, rfl, rv⟩, ⟨_, rfl, .inr ⟨_, rfl, ⟨.inr ⟨rfl, Nat.lt_succ_self 0, rfl, rfl, rfl, rfl⟩, trivial⟩⟩⟩, ⟨_, rfl, rv⟩, ⟨_, rfl, rv⟩, ⟨_, rfl, rv⟩, trivial⟩ mm rfl mm rfl) ?_
    clear hlong hcfg hform hlines hst
    rintro ⟨i, os, t⟩ hS
    dsimp only at hS ⊢
    have hS' : S i os t (409 + 18 * i) := hS
    clear hS
    obtain ⟨l1, l2, l3⟩ := hleft _ _ _ _ hS'
    refine go1 ?_
    ((with_reducible apply c_cond); (case he => exact rfl); (all_goals intro h))
    · have hpos : 0 < os.length := by have := of_decide_eq_true h; omega
      clear h
      refine go1 ?_
      ((with_reducible apply c_cond); (case he => exact rfl); (all_goals intro h))
      · have hop : 0 < order.length := by have := of_decide_eq_true h; omega
        clear h
        have hik : i % order.length < order.length := Nat.mod_lt _ hop
        have f1 := EqF.mk (tmodn i order.length)
        have f2 := SomF.mk (intsM_at hik)
        generalize order[i % order.length] = x at *
        have hpl := place_m (G := GC) x os.length (by omega) (by omega)
        obtain ⟨j, hj, hjl⟩ : ∃ j : Nat, x % (os.length : Int) = j ∧ j < os.length := by
          have h1 := Int.emod_nonneg x (show (os.length : Int) ≠ 0 by omega)
          have h2 := Int.emod_lt_of_pos x (show (0 : Int) < os.length by omega)
          exact ⟨(x % (os.length : Int)).toNat, by omega, by omega⟩
        rw [hj] at hpl
        refine go1 ?_
        refine g_call1 rfl (fun _ h => h) rfl (semR_of_semC (hpl)) rfl [] mm lm ?_
        have pd1 := pad_r (G := GC) p hp i (by omega)
        have pd2 := pad_r (G := GC) p hp (i + 1) (by omega)
        have q1 := padS_mem p i
        have q2 := padS_mem p (i + 1)
        have f3 := SomF.mk (line_at (g := g) hjl)
        have hgl := hll os[j] (l2 _ (List.getElem_mem hjl))
        have hS2 := hstep _ _ _ _ hS' j os[j] (List.getElem?_eq_getElem hjl)
        generalize padS p i = P1 at *
        generalize padS p (i + 1) = P2 at *
        generalize os[j] = o at *
        generalize g o = x at *
        have f4 := EqF.mk (tmodn i 3)
        have hk3 : i % 3 < 3 := Nat.mod_lt _ (by omega)
        have f5 := SomF.mk (idx_at (n := 2 + 1) hk3)
        have f6 := SomF.mk (coms_at hk3)
        obtain ⟨cm1, cm2⟩ := coms_mem hk3
        generalize coms3.getD (i % 3) [] = co at *
        have q3 := pads_len q1
        have q4 := pads_len q2
        replace hS2 := hS2 P1 P2 co q1 q2 cm1
        have s1 := SideF.mk (show P1.length + x.length ≤ 9223372036854775807 by omega)
        have s2 := SideF.mk (show (P1 ++ x).length + P2.length ≤ 9223372036854775807 by rw [List.length_append]; omega)
        have s3 := SideF.mk (show (P1 ++ x ++ P2).length + co.length ≤ 9223372036854775807 by rw [List.length_append, List.length_append]; omega)
        have s4 := SideF.mk (show (P1 ++ x ++ P2 ++ co).length + (⟨#[10]⟩ : ByteArray).data.toList.length ≤ 9223372036854775807 by rw [List.length_append, List.length_append, List.length_append, nl_len]; omega)
        have s5 := SideF.mk (show t.length + (P1 ++ x ++ P2 ++ co ++ (⟨#[10]⟩ : ByteArray).data.toList).length ≤ 9223372036854775807 by rw [List.length_append, List.length_append, List.length_append, List.length_append, nl_len]; omega)
        refine go1 ?_
        refine c_draw [(0, false), (1, false), (2, false), (3, true), (4, false), (5, false), (6, false), (7, false), (8, false), (9, false), (10, false), (11, false), (12, true), (13, false), (14, false), (15, false), (16, false), (17, false), (18, false), (19, false), (20, false), (21, false), (22, false)] ?_
        refine go1 ?_
        refine gd_call1 rfl (fun _ h => h) rfl [] (semR_of_semC (pd1)) rfl [] trivial lm rfl ?_
        refine go1 ?_
        refine gd_call1 rfl (fun _ h => h) rfl [] (semR_of_semC (pd2)) rfl [] trivial lm rfl ?_
        refine go1 ?_
        have hS3 : S (i + 1) (os.take j ++ os.drop (j + 1)) (t ++ (P1 ++ x ++ P2 ++ co ++ (⟨#[10]⟩ : ByteArray).data.toList)) (409 + 18 * i + 13) := by rw [nl_eq]; exact hS2
        generalize t ++ (P1 ++ x ++ P2 ++ co ++ (⟨#[10]⟩ : ByteArray).data.toList) = t2 at *
        clear hS2 s1 s2 s3 s4 s5 f3 f4 f5 f6 pd2
        have l4 := (hleft _ _ _ _ hS3).2.2
        have f7 := EqF.mk (tmodn i 4)
        refine go1 ?_
        ((with_reducible apply c_cond); (case he => exact rfl); (all_goals intro h))
        · have hS4 : S (i + 1) (os.take j ++ os.drop (j + 1)) (t2 ++ (P1 ++ (⟨#[10]⟩ : ByteArray).data.toList)) (409 + 18 * i + 13 + 5) := by rw [nl_eq]; exact hbl _ _ _ _ hS3 P1 q1
          have s1 := SideF.mk (show P1.length + (⟨#[10]⟩ : ByteArray).data.toList.length ≤ 9223372036854775807 by rw [nl_len]; omega)
          have s2 := SideF.mk (show t2.length + (P1 ++ (⟨#[10]⟩ : ByteArray).data.toList).length ≤ 9223372036854775807 by rw [List.length_append, nl_len]; omega)
          refine go1 ?_
          refine g_call1 rfl (fun _ h => h) rfl (semR_of_semC (pd1)) rfl [] mm lm ?_
          refine go1 ?_
          have fb1 := SomF.mk (bndHi (κ := .i64) (Nat.le_of_lt hjl))
          have fb2 := SomF.mk (bndLo1 (κ := .i64) (show j + 1 ≤ os.length from hjl))
          have fb3 := SideF.mk (head_str g os)
          refine c_draw [(0, false), (1, false), (2, false), (3, false), (4, false), (5, false), (6, false), (7, false), (8, false), (9, false), (10, false)] ?_
          refine go1 ?_
          ((with_reducible apply gd_mem); (case hv => exact rfl); (case he => (intro R hR; refine sms hR ?_; refine And.intro ((by show headSize (cutL _ 0 j) 1 = true; rw [cut_take]; exact head_str g _)) ?_; refine And.intro ⟨rfl, app_ok (by kernel_rfl) pf⟩ ?_; refine ⟨(os.take j).map (fun o => MV.str (g o)), sv (by show [] ++ cutL _ 0 j = _; rw [List.nil_append, cut_take]), j, sv pf, ?_⟩; exact hR)); (case hd => exact rfl))
          refine go1 ?_
          ((with_reducible apply gd_mem); (case hv => exact rfl); (case he => (intro R hR; refine sms hR ?_; refine And.intro ((by show headSize (cutL _ (j + 1) os.length) 1 = true; rw [cut_drop]; exact head_str g _)) ?_; refine And.intro ⟨(by show (List.map _ (List.take j os)).length = j; rw [List.length_map, List.length_take]; omega), app_ok (by kernel_rfl) pf⟩ ?_; refine ⟨(os.take j ++ os.drop (j + 1)).map (fun o => MV.str (g o)), sv (by show (List.map _ (List.take j os)) ++ cutL _ (j + 1) os.length = _; rw [cut_drop, List.map_append]), (os.take j ++ os.drop (j + 1)).length, sv pf, ?_⟩; exact hR)); (case hd => exact rfl))
          refine go1 ?_
          exact ⟨(i + 1, os.take j ++ os.drop (j + 1), t2 ++ (P1 ++ (⟨#[10]⟩ : ByteArray).data.toList)), hwk _ _ _ _ (409 + 18 * (i + 1)) hS4 (by omega), by show (os.take j ++ os.drop (j + 1)).length < os.length; rw [List.length_append, List.length_take, List.length_drop]; omega, (by dsimp only; exact (vm [(0, 0)] [(59, (os.take j ++ os.drop (j + 1)).length)]))⟩
        · have hS4 := hwk _ _ _ _ (409 + 18 * i + 13 + 5) hS3 (by omega)
          refine go1 ?_
          have fb1 := SomF.mk (bndHi (κ := .i64) (Nat.le_of_lt hjl))
          have fb2 := SomF.mk (bndLo1 (κ := .i64) (show j + 1 ≤ os.length from hjl))
          have fb3 := SideF.mk (head_str g os)
          refine c_draw [(0, false), (1, false), (2, false), (3, false), (4, false), (5, false), (6, false), (7, false), (8, false), (9, false), (10, false)] ?_
          refine go1 ?_
          ((with_reducible apply gd_mem); (case hv => exact rfl); (case he => (intro R hR; refine sms hR ?_; refine And.intro ((by show headSize (cutL _ 0 j) 1 = true; rw [cut_take]; exact head_str g _)) ?_; refine And.intro ⟨rfl, app_ok (by kernel_rfl) pf⟩ ?_; refine ⟨(os.take j).map (fun o => MV.str (g o)), sv (by show [] ++ cutL _ 0 j = _; rw [List.nil_append, cut_take]), j, sv pf, ?_⟩; exact hR)); (case hd => exact rfl))
          refine go1 ?_
          ((with_reducible apply gd_mem); (case hv => exact rfl); (case he => (intro R hR; refine sms hR ?_; refine And.intro ((by show headSize (cutL _ (j + 1) os.length) 1 = true; rw [cut_drop]; exact head_str g _)) ?_; refine And.intro ⟨(by show (List.map _ (List.take j os)).length = j; rw [List.length_map, List.length_take]; omega), app_ok (by kernel_rfl) pf⟩ ?_; refine ⟨(os.take j ++ os.drop (j + 1)).map (fun o => MV.str (g o)), sv (by show (List.map _ (List.take j os)) ++ cutL _ (j + 1) os.length = _; rw [cut_drop, List.map_append]), (os.take j ++ os.drop (j + 1)).length, sv pf, ?_⟩; exact hR)); (case hd => exact rfl))
          refine go1 ?_
          exact ⟨(i + 1, os.take j ++ os.drop (j + 1), t2), hwk _ _ _ _ (409 + 18 * (i + 1)) hS4 (by omega), by show (os.take j ++ os.drop (j + 1)).length < os.length; rw [List.length_append, List.length_take, List.length_drop]; omega, (by dsimp only; exact (vm [(0, 0)] [(53, (os.take j ++ os.drop (j + 1)).length)]))⟩
      · obtain ⟨j, hj, hjl⟩ : ∃ j : Nat, (0 : Int) = j ∧ j < os.length := ⟨0, rfl, hpos⟩
        clear h
        rw [hj]
        have pd1 := pad_r (G := GC) p hp i (by omega)
        have pd2 := pad_r (G := GC) p hp (i + 1) (by omega)
        have q1 := padS_mem p i
        have q2 := padS_mem p (i + 1)
        have f3 := SomF.mk (line_at (g := g) hjl)
        have hgl := hll os[j] (l2 _ (List.getElem_mem hjl))
        have hS2 := hstep _ _ _ _ hS' j os[j] (List.getElem?_eq_getElem hjl)
        generalize padS p i = P1 at *
        generalize padS p (i + 1) = P2 at *
        generalize os[j] = o at *
        generalize g o = x at *
        have f4 := EqF.mk (tmodn i 3)
        have hk3 : i % 3 < 3 := Nat.mod_lt _ (by omega)
        have f5 := SomF.mk (idx_at (n := 2 + 1) hk3)
        have f6 := SomF.mk (coms_at hk3)
        obtain ⟨cm1, cm2⟩ := coms_mem hk3
        generalize coms3.getD (i % 3) [] = co at *
        have q3 := pads_len q1
        have q4 := pads_len q2
        replace hS2 := hS2 P1 P2 co q1 q2 cm1
        have s1 := SideF.mk (show P1.length + x.length ≤ 9223372036854775807 by omega)
        have s2 := SideF.mk (show (P1 ++ x).length + P2.length ≤ 9223372036854775807 by rw [List.length_append]; omega)
        have s3 := SideF.mk (show (P1 ++ x ++ P2).length + co.length ≤ 9223372036854775807 by rw [List.length_append, List.length_append]; omega)
        have s4 := SideF.mk (show (P1 ++ x ++ P2 ++ co).length + (⟨#[10]⟩ : ByteArray).data.toList.length ≤ 9223372036854775807 by rw [List.length_append, List.length_append, List.length_append, nl_len]; omega)
        have s5 := SideF.mk (show t.length + (P1 ++ x ++ P2 ++ co ++ (⟨#[10]⟩ : ByteArray).data.toList).length ≤ 9223372036854775807 by rw [List.length_append, List.length_append, List.length_append, List.length_append, nl_len]; omega)
        refine go1 ?_
        refine c_draw [(0, false), (1, false), (2, false), (3, true), (4, false), (5, false), (6, false), (7, false), (8, false), (9, false), (10, false), (11, false), (12, true), (13, false), (14, false), (15, false), (16, false), (17, false), (18, false), (19, false), (20, false), (21, false), (22, false)] ?_
        refine go1 ?_
        refine gd_call1 rfl (fun _ h => h) rfl [] (semR_of_semC (pd1)) rfl [] trivial lm rfl ?_
        refine go1 ?_
        refine gd_call1 rfl (fun _ h => h) rfl [] (semR_of_semC (pd2)) rfl [] trivial lm rfl ?_
        refine go1 ?_
        have hS3 : S (i + 1) (os.take j ++ os.drop (j + 1)) (t ++ (P1 ++ x ++ P2 ++ co ++ (⟨#[10]⟩ : ByteArray).data.toList)) (409 + 18 * i + 13) := by rw [nl_eq]; exact hS2
        generalize t ++ (P1 ++ x ++ P2 ++ co ++ (⟨#[10]⟩ : ByteArray).data.toList) = t2 at *
        clear hS2 s1 s2 s3 s4 s5 f3 f4 f5 f6 pd2
        have l4 := (hleft _ _ _ _ hS3).2.2
        have f7 := EqF.mk (tmodn i 4)
        refine go1 ?_
        ((with_reducible apply c_cond); (case he => exact rfl); (all_goals intro h))
        · have hS4 : S (i + 1) (os.take j ++ os.drop (j + 1)) (t2 ++ (P1 ++ (⟨#[10]⟩ : ByteArray).data.toList)) (409 + 18 * i + 13 + 5) := by rw [nl_eq]; exact hbl _ _ _ _ hS3 P1 q1
          have s1 := SideF.mk (show P1.length + (⟨#[10]⟩ : ByteArray).data.toList.length ≤ 9223372036854775807 by rw [nl_len]; omega)
          have s2 := SideF.mk (show t2.length + (P1 ++ (⟨#[10]⟩ : ByteArray).data.toList).length ≤ 9223372036854775807 by rw [List.length_append, nl_len]; omega)
          refine go1 ?_
          refine g_call1 rfl (fun _ h => h) rfl (semR_of_semC (pd1)) rfl [] mm lm ?_
          refine go1 ?_
          have fb1 := SomF.mk (bndHi (κ := .i64) (Nat.le_of_lt hjl))
          have fb2 := SomF.mk (bndLo1 (κ := .i64) (show j + 1 ≤ os.length from hjl))
          have fb3 := SideF.mk (head_str g os)
          refine c_draw [(0, false), (1, false), (2, false), (3, false), (4, false), (5, false), (6, false), (7, false), (8, false), (9, false), (10, false)] ?_
          refine go1 ?_
          ((with_reducible apply gd_mem); (case hv => exact rfl); (case he => (intro R hR; refine sms hR ?_; refine And.intro ((by show headSize (cutL _ 0 j) 1 = true; rw [cut_take]; exact head_str g _)) ?_; refine And.intro ⟨rfl, app_ok (by kernel_rfl) pf⟩ ?_; refine ⟨(os.take j).map (fun o => MV.str (g o)), sv (by show [] ++ cutL _ 0 j = _; rw [List.nil_append, cut_take]), j, sv pf, ?_⟩; exact hR)); (case hd => exact rfl))
          refine go1 ?_
          ((with_reducible apply gd_mem); (case hv => exact rfl); (case he => (intro R hR; refine sms hR ?_; refine And.intro ((by show headSize (cutL _ (j + 1) os.length) 1 = true; rw [cut_drop]; exact head_str g _)) ?_; refine And.intro ⟨(by show (List.map _ (List.take j os)).length = j; rw [List.length_map, List.length_take]; omega), app_ok (by kernel_rfl) pf⟩ ?_; refine ⟨(os.take j ++ os.drop (j + 1)).map (fun o => MV.str (g o)), sv (by show (List.map _ (List.take j os)) ++ cutL _ (j + 1) os.length = _; rw [cut_drop, List.map_append]), (os.take j ++ os.drop (j + 1)).length, sv pf, ?_⟩; exact hR)); (case hd => exact rfl))
          refine go1 ?_
          exact ⟨(i + 1, os.take j ++ os.drop (j + 1), t2 ++ (P1 ++ (⟨#[10]⟩ : ByteArray).data.toList)), hwk _ _ _ _ (409 + 18 * (i + 1)) hS4 (by omega), by show (os.take j ++ os.drop (j + 1)).length < os.length; rw [List.length_append, List.length_take, List.length_drop]; omega, (by dsimp only; exact (vm [(0, 0)] [(49, (os.take j ++ os.drop (j + 1)).length)]))⟩
        · have hS4 := hwk _ _ _ _ (409 + 18 * i + 13 + 5) hS3 (by omega)
          refine go1 ?_
          have fb1 := SomF.mk (bndHi (κ := .i64) (Nat.le_of_lt hjl))
          have fb2 := SomF.mk (bndLo1 (κ := .i64) (show j + 1 ≤ os.length from hjl))
          have fb3 := SideF.mk (head_str g os)
          refine c_draw [(0, false), (1, false), (2, false), (3, false), (4, false), (5, false), (6, false), (7, false), (8, false), (9, false), (10, false)] ?_
          refine go1 ?_
          ((with_reducible apply gd_mem); (case hv => exact rfl); (case he => (intro R hR; refine sms hR ?_; refine And.intro ((by show headSize (cutL _ 0 j) 1 = true; rw [cut_take]; exact head_str g _)) ?_; refine And.intro ⟨rfl, app_ok (by kernel_rfl) pf⟩ ?_; refine ⟨(os.take j).map (fun o => MV.str (g o)), sv (by show [] ++ cutL _ 0 j = _; rw [List.nil_append, cut_take]), j, sv pf, ?_⟩; exact hR)); (case hd => exact rfl))
          refine go1 ?_
          ((with_reducible apply gd_mem); (case hv => exact rfl); (case he => (intro R hR; refine sms hR ?_; refine And.intro ((by show headSize (cutL _ (j + 1) os.length) 1 = true; rw [cut_drop]; exact head_str g _)) ?_; refine And.intro ⟨(by show (List.map _ (List.take j os)).length = j; rw [List.length_map, List.length_take]; omega), app_ok (by kernel_rfl) pf⟩ ?_; refine ⟨(os.take j ++ os.drop (j + 1)).map (fun o => MV.str (g o)), sv (by show (List.map _ (List.take j os)) ++ cutL _ (j + 1) os.length = _; rw [cut_drop, List.map_append]), (os.take j ++ os.drop (j + 1)).length, sv pf, ?_⟩; exact hR)); (case hd => exact rfl))
          refine go1 ?_
          exact ⟨(i + 1, os.take j ++ os.drop (j + 1), t2), hwk _ _ _ _ (409 + 18 * (i + 1)) hS4 (by omega), by show (os.take j ++ os.drop (j + 1)).length < os.length; rw [List.length_append, List.length_take, List.length_drop]; omega, (by dsimp only; exact (vm [(0, 0)] [(43, (os.take j ++ os.drop (j + 1)).length)]))⟩
    · have h0 : os = [] := by
        have := of_decide_eq_false h
        exact List.length_eq_zero_iff.1 (by omega)
      subst h0
      have hpe := hpe _ _ _ hS' (by omega)
      have fs := SideF.mk (cfg_side c0 c1 c2 c3 c4 c5 c6 c7 c8 c9 c10 c11)
      clear hbl hwk hstep hleft hll hS' l1 l2 l3
      refine go1 ?_
      refine g_call1 rfl (fun _ h => h) rfl (semR_of_semC (hpe)) rfl [] mm lm ?_
      refine go1 ?_
      have hb : (decide (c0 = c0) && (decide (c1 = c1) && (decide (c2 = c2) && (decide (c3 = c3) && (decide (c4 = c4) && (decide (c5 = c5) && (c6 == c6 && (decide (c7 = c7) && (decide (c8 = c8) && (decide (c9 = c9) && (decide (c10 = c10) && (decide (c11 = c11) && true)))))))))))) = true := by simp
      rw [hb]
      refine go1 ?_
      refine g_call1 rfl (fun _ h => h) rfl (semR_of_semC (known_s)) rfl [] mm lm ?_
      refine go1 ?_
      refine go0 ?_
      rfl
end Go.Proofs.YtllepnadffndnaaDoor
