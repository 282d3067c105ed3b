/-
  No cell of these rows narrows 'for every input' (looked for: loops, veiled, ifaces, maps, wideKeys, modest, calm, conditions, laid).
  DERIVED. THE GIVEN ROWS OF THIS SEAT. 3 by the template 'for every input the law returns true; each argument reads behind the call as it read before'; 0 by the template 'total and deterministic' (their statements: YtoagomdghimlbaaGreatTotals.lean).
  GIVEN WITH THE SEED: the statements are not yours to turn. If you find one false, say at which input.
  Laid BY PROGRAM, IN A SANDBOX (cutbox-rows.mjs): the forced cells as the released guide's own fill.sh prints them over the translation 9691ad19060f0d28… (all of the seat's roots in one cut). By AI agents, Wed Nov 11 2026. No macro, syntax, notation, axiom, sorry.
-/
import Derived.Test.YtoagomdghimlbaaGreatChecked
import GoSem.Claim
import GoSem.ClaimJoined
import GoSem.ClaimMapViews
import Derived.JoinedTies
import Derived.KernelRfl
namespace Go.Proofs.YtoagomdghimlbaaGreat
/- THE CELL 'sum', in the pinned program and in every row, IS THE sha256 OF THE DUMP (.gsa) THAT YtoagomdghimlbaaGreatProg.lean LOADS. Nothing in Lean hashes anything: it is a label: what it is worth is what the hold of that sum in a sandbox is worth. -/
noncomputable def Tryz.pinned : Pinned := { name := "ytoagomdghimlbaagreat", sum := "9691ad19060f0d284cc0d8b11f63dc6d012eff34670ff725ef67bb5285040528", checked := Tryz.checked }
namespace Rows
def none {H : Type} : Left H := { results := [], args := [] }

/-- 'mempoollaw27.ChainMakes': WHATEVER THE INPUT: true; the input reads as it did. -/
def chainMakesSpec : ChangeSpec := { name := "chainMakes", fn := fun _ => fun
  | [d1, d2, d3, d4, d5] => { results := [.lit (.bool true)], args := [d1, d2, d3, d4, d5] }
  | _ => none }
def chainMakesRow : OpenClaim := { program := "ytoagomdghimlbaagreat", sum := "9691ad19060f0d284cc0d8b11f63dc6d012eff34670ff725ef67bb5285040528", func := "mempool/mempoollaw27.ChainMakes", spec := "chainMakes", recurses := true, apart := false }
def ChainMakesSaid : Prop := chainMakesRow.holds Tryz.pinned (OpenSpec.ofChange chainMakesSpec)

/-- ITS FALSE NEIGHBOUR: 'it returns false'. Refute it at one input. -/
def chainMakesWrong : ChangeSpec := { name := "chainMakes", fn := fun _ => fun
  | [d1, d2, d3, d4, d5] => { results := [.lit (.bool false)], args := [d1, d2, d3, d4, d5] }
  | _ => none }
def ChainMakesWrongFalsely : Prop := chainMakesRow.holds Tryz.pinned (OpenSpec.ofChange chainMakesWrong)

/-- 'mempoollaw27.ChainChecks': WHATEVER THE INPUT: true; the input reads as it did. -/
def chainChecksSpec : ChangeSpec := { name := "chainChecks", fn := fun _ => fun
  | [d1, d2, d3, d4, d5, d6, d7] => { results := [.lit (.bool true)], args := [d1, d2, d3, d4, d5, d6, d7] }
  | _ => none }
def chainChecksRow : OpenClaim := { program := "ytoagomdghimlbaagreat", sum := "9691ad19060f0d284cc0d8b11f63dc6d012eff34670ff725ef67bb5285040528", func := "mempool/mempoollaw27.ChainChecks", spec := "chainChecks", recurses := true, apart := false }
def ChainChecksSaid : Prop := chainChecksRow.holds Tryz.pinned (OpenSpec.ofChange chainChecksSpec)

/-- ITS FALSE NEIGHBOUR: 'it returns false'. Refute it at one input. -/
def chainChecksWrong : ChangeSpec := { name := "chainChecks", fn := fun _ => fun
  | [d1, d2, d3, d4, d5, d6, d7] => { results := [.lit (.bool false)], args := [d1, d2, d3, d4, d5, d6, d7] }
  | _ => none }
def ChainChecksWrongFalsely : Prop := chainChecksRow.holds Tryz.pinned (OpenSpec.ofChange chainChecksWrong)

/-- 'mempoollaw27.ChainContinues': WHATEVER THE INPUT: true; the input reads as it did. -/
def chainContinuesSpec : ChangeSpec := { name := "chainContinues", fn := fun _ => fun
  | [d1, d2] => { results := [.lit (.bool true)], args := [d1, d2] }
  | _ => none }
def chainContinuesRow : OpenClaim := { program := "ytoagomdghimlbaagreat", sum := "9691ad19060f0d284cc0d8b11f63dc6d012eff34670ff725ef67bb5285040528", func := "mempool/mempoollaw27.ChainContinues", spec := "chainContinues", recurses := true, apart := false }
def ChainContinuesSaid : Prop := chainContinuesRow.holds Tryz.pinned (OpenSpec.ofChange chainContinuesSpec)

/-- ITS FALSE NEIGHBOUR: 'it returns false'. Refute it at one input. -/
def chainContinuesWrong : ChangeSpec := { name := "chainContinues", fn := fun _ => fun
  | [d1, d2] => { results := [.lit (.bool false)], args := [d1, d2] }
  | _ => none }
def ChainContinuesWrongFalsely : Prop := chainContinuesRow.holds Tryz.pinned (OpenSpec.ofChange chainContinuesWrong)

/- THE SECOND FORM. 'bulk': how many values and letters a reading holds, each counted each time it is reached (what is shared counts as often as it is met; a slice's spare places count too). A statement '..UptoSaid' is the law's where the arguments, and the package variables that the reading takes, are together of bulk at most 1048576: NARROWER than '..Said'. Prove '..Said' where nothing that the law and all that it calls make is longer than what came in: it says more and counts as full. Else prove '..UptoSaid'. A law counts once. -/
mutual
def uptoBulk {H : Type} : DataW H → Nat
  | .lit (.string bytes) => bytes.length + 1
  | .lit _ => 1
  | .nil => 1
  | .ptr d => uptoBulk d + 1
  | .slice elems spare => uptoBulkAll elems + uptoBulkAll spare + 1
  | .agg parts => uptoBulkAll parts + 1
  | .iface _ d => uptoBulk d + 1
  | .map entries => uptoBulkEntries entries + 1
  | .held _ => 1
def uptoBulkAll {H : Type} : List (DataW H) → Nat
  | [] => 0
  | d :: r => uptoBulk d + uptoBulkAll r
def uptoBulkEntries {H : Type} : List (Lit × DataW H) → Nat
  | [] => 0
  | x :: r => uptoBulkEntry x + uptoBulkEntries r
def uptoBulkEntry {H : Type} : Lit × DataW H → Nat
  | (.string bytes, d) => bytes.length + uptoBulk d + 1
  | (_, d) => uptoBulk d + 1
 end
def uptoSmall : (H : Type) → List (DataW H) → Bool := fun _ ds => decide (uptoBulkAll ds ≤ 1048576)
def OpenSpec.upto (s : _root_.Go.ChangeSpec) : _root_.Go.OpenSpec := { _root_.Go.OpenSpec.ofChange s with cond := some uptoSmall }

/-- 'mempoollaw27.ChainMakes', WHERE WHAT IT READS IS OF BULK AT MOST 1048576: true; the input reads as it did. -/
def chainMakesUptoRow : OpenClaim := { program := "ytoagomdghimlbaagreat", sum := "9691ad19060f0d284cc0d8b11f63dc6d012eff34670ff725ef67bb5285040528", func := "mempool/mempoollaw27.ChainMakes", spec := "chainMakes", recurses := true, apart := false, narrowed := true }
def ChainMakesUptoSaid : Prop := chainMakesUptoRow.holds Tryz.pinned (OpenSpec.upto chainMakesSpec)

/-- 'mempoollaw27.ChainChecks', WHERE WHAT IT READS IS OF BULK AT MOST 1048576: true; the input reads as it did. -/
def chainChecksUptoRow : OpenClaim := { program := "ytoagomdghimlbaagreat", sum := "9691ad19060f0d284cc0d8b11f63dc6d012eff34670ff725ef67bb5285040528", func := "mempool/mempoollaw27.ChainChecks", spec := "chainChecks", recurses := true, apart := false, narrowed := true }
def ChainChecksUptoSaid : Prop := chainChecksUptoRow.holds Tryz.pinned (OpenSpec.upto chainChecksSpec)

/-- 'mempoollaw27.ChainContinues', WHERE WHAT IT READS IS OF BULK AT MOST 1048576: true; the input reads as it did. -/
def chainContinuesUptoRow : OpenClaim := { program := "ytoagomdghimlbaagreat", sum := "9691ad19060f0d284cc0d8b11f63dc6d012eff34670ff725ef67bb5285040528", func := "mempool/mempoollaw27.ChainContinues", spec := "chainContinues", recurses := true, apart := false, narrowed := true }
def ChainContinuesUptoSaid : Prop := chainContinuesUptoRow.holds Tryz.pinned (OpenSpec.upto chainContinuesSpec)

end Rows
end Go.Proofs.YtoagomdghimlbaaGreat
