/-
  No cell of these rows narrows 'for every input' (looked for: loops, veiled, ifaces, maps, wideKeys, modest, calm, conditions, laid).
  DERIVED. THE GIVEN ROWS OF THIS SEAT. 9 by the template 'for every input the law returns true; each argument reads behind the call as it read before'; 0 by the template 'total and deterministic' (their statements: YtdjcdmnemddjlaaGreatTotals.lean).
  GIVEN WITH THE SEED: the statements are not yours to turn. If you find one false, say at which input.
  Laid BY PROGRAM, IN A SANDBOX (cutbox-rows.mjs): the forced cells as the released guide's own fill.sh prints them over the translation 25d35746836b2f0c… (all of the seat's roots in one cut). By AI agents, Wed Nov 11 2026. No macro, syntax, notation, axiom, sorry.
-/
import Derived.Test.YtdjcdmnemddjlaaGreatChecked
import GoSem.Claim
import GoSem.ClaimJoined
import GoSem.ClaimMapViews
import Derived.JoinedTies
import Derived.KernelRfl
namespace Go.Proofs.YtdjcdmnemddjlaaGreat
/- THE CELL 'sum', in the pinned program and in every row, IS THE sha256 OF THE DUMP (.gsa) THAT YtdjcdmnemddjlaaGreatProg.lean LOADS. Nothing in Lean hashes anything: it is a label: what it is worth is what the hold of that sum in a sandbox is worth. -/
noncomputable def Tryz.pinned : Pinned := { name := "ytdjcdmnemddjlaagreat", sum := "25d35746836b2f0c6812045f23bb9ff44d7db4381b68c61fbcfa33798f713baf", checked := Tryz.checked }
namespace Rows
def none {H : Type} : Left H := { results := [], args := [] }

/-- 'mempoollaw30.NodeModels': WHATEVER THE INPUT: true; the input reads as it did. -/
def nodeModelsSpec : ChangeSpec := { name := "nodeModels", fn := fun _ => fun
  | [d] => { results := [.lit (.bool true)], args := [d] }
  | _ => none }
def nodeModelsRow : OpenClaim := { program := "ytdjcdmnemddjlaagreat", sum := "25d35746836b2f0c6812045f23bb9ff44d7db4381b68c61fbcfa33798f713baf", func := "mempool/mempoollaw30.NodeModels", spec := "nodeModels", inPlace := ["math/bits.Add64"], unfollowed := true, recurses := true, plainKeys := false, apart := false }
def NodeModelsSaid : Prop := nodeModelsRow.holds Tryz.pinned (OpenSpec.ofChange nodeModelsSpec)

/-- ITS FALSE NEIGHBOUR: 'it returns false'. Refute it at one input. -/
def nodeModelsWrong : ChangeSpec := { name := "nodeModels", fn := fun _ => fun
  | [d] => { results := [.lit (.bool false)], args := [d] }
  | _ => none }
def NodeModelsWrongFalsely : Prop := nodeModelsRow.holds Tryz.pinned (OpenSpec.ofChange nodeModelsWrong)

/-- 'mempoollaw30.NodeBegins': WHATEVER THE INPUT: true; the input reads as it did. -/
def nodeBeginsSpec : ChangeSpec := { name := "nodeBegins", fn := fun _ => fun
  | [d1, d2, d3] => { results := [.lit (.bool true)], args := [d1, d2, d3] }
  | _ => none }
def nodeBeginsRow : OpenClaim := { program := "ytdjcdmnemddjlaagreat", sum := "25d35746836b2f0c6812045f23bb9ff44d7db4381b68c61fbcfa33798f713baf", func := "mempool/mempoollaw30.NodeBegins", spec := "nodeBegins", inPlace := ["math/bits.Add64"], unfollowed := true, recurses := true, plainKeys := false, apart := false }
def NodeBeginsSaid : Prop := nodeBeginsRow.holds Tryz.pinned (OpenSpec.ofChange nodeBeginsSpec)

/-- ITS FALSE NEIGHBOUR: 'it returns false'. Refute it at one input. -/
def nodeBeginsWrong : ChangeSpec := { name := "nodeBegins", fn := fun _ => fun
  | [d1, d2, d3] => { results := [.lit (.bool false)], args := [d1, d2, d3] }
  | _ => none }
def NodeBeginsWrongFalsely : Prop := nodeBeginsRow.holds Tryz.pinned (OpenSpec.ofChange nodeBeginsWrong)

/-- 'mempoollaw30.NodePlays': WHATEVER THE INPUT: true; the input reads as it did. -/
def nodePlaysSpec : ChangeSpec := { name := "nodePlays", fn := fun _ => fun
  | [d] => { results := [.lit (.bool true)], args := [d] }
  | _ => none }
def nodePlaysRow : OpenClaim := { program := "ytdjcdmnemddjlaagreat", sum := "25d35746836b2f0c6812045f23bb9ff44d7db4381b68c61fbcfa33798f713baf", func := "mempool/mempoollaw30.NodePlays", spec := "nodePlays", inPlace := ["math/bits.Add64"], unfollowed := true, recurses := true, plainKeys := false, apart := false }
def NodePlaysSaid : Prop := nodePlaysRow.holds Tryz.pinned (OpenSpec.ofChange nodePlaysSpec)

/-- ITS FALSE NEIGHBOUR: 'it returns false'. Refute it at one input. -/
def nodePlaysWrong : ChangeSpec := { name := "nodePlays", fn := fun _ => fun
  | [d] => { results := [.lit (.bool false)], args := [d] }
  | _ => none }
def NodePlaysWrongFalsely : Prop := nodePlaysRow.holds Tryz.pinned (OpenSpec.ofChange nodePlaysWrong)

/-- 'mempoollaw30.NodeReplies': WHATEVER THE INPUT: true; the input reads as it did. -/
def nodeRepliesSpec : ChangeSpec := { name := "nodeReplies", fn := fun _ => fun
  | [d1, d2, d3] => { results := [.lit (.bool true)], args := [d1, d2, d3] }
  | _ => none }
def nodeRepliesRow : OpenClaim := { program := "ytdjcdmnemddjlaagreat", sum := "25d35746836b2f0c6812045f23bb9ff44d7db4381b68c61fbcfa33798f713baf", func := "mempool/mempoollaw30.NodeReplies", spec := "nodeReplies", inPlace := ["math/bits.Add64"], unfollowed := true, recurses := true, plainKeys := false, apart := false }
def NodeRepliesSaid : Prop := nodeRepliesRow.holds Tryz.pinned (OpenSpec.ofChange nodeRepliesSpec)

/-- ITS FALSE NEIGHBOUR: 'it returns false'. Refute it at one input. -/
def nodeRepliesWrong : ChangeSpec := { name := "nodeReplies", fn := fun _ => fun
  | [d1, d2, d3] => { results := [.lit (.bool false)], args := [d1, d2, d3] }
  | _ => none }
def NodeRepliesWrongFalsely : Prop := nodeRepliesRow.holds Tryz.pinned (OpenSpec.ofChange nodeRepliesWrong)

/-- 'mempoollaw30.NodeRestarts': WHATEVER THE INPUT: true; the input reads as it did. -/
def nodeRestartsSpec : ChangeSpec := { name := "nodeRestarts", fn := fun _ => fun
  | [d1, d2, d3] => { results := [.lit (.bool true)], args := [d1, d2, d3] }
  | _ => none }
def nodeRestartsRow : OpenClaim := { program := "ytdjcdmnemddjlaagreat", sum := "25d35746836b2f0c6812045f23bb9ff44d7db4381b68c61fbcfa33798f713baf", func := "mempool/mempoollaw30.NodeRestarts", spec := "nodeRestarts", inPlace := ["math/bits.Add64"], unfollowed := true, recurses := true, plainKeys := false, apart := false }
def NodeRestartsSaid : Prop := nodeRestartsRow.holds Tryz.pinned (OpenSpec.ofChange nodeRestartsSpec)

/-- ITS FALSE NEIGHBOUR: 'it returns false'. Refute it at one input. -/
def nodeRestartsWrong : ChangeSpec := { name := "nodeRestarts", fn := fun _ => fun
  | [d1, d2, d3] => { results := [.lit (.bool false)], args := [d1, d2, d3] }
  | _ => none }
def NodeRestartsWrongFalsely : Prop := nodeRestartsRow.holds Tryz.pinned (OpenSpec.ofChange nodeRestartsWrong)

/-- 'mempoollaw30.NodeRecovers': WHATEVER THE INPUT: true; the input reads as it did. -/
def nodeRecoversSpec : ChangeSpec := { name := "nodeRecovers", fn := fun _ => fun
  | [d] => { results := [.lit (.bool true)], args := [d] }
  | _ => none }
def nodeRecoversRow : OpenClaim := { program := "ytdjcdmnemddjlaagreat", sum := "25d35746836b2f0c6812045f23bb9ff44d7db4381b68c61fbcfa33798f713baf", func := "mempool/mempoollaw30.NodeRecovers", spec := "nodeRecovers", inPlace := ["math/bits.Add64"], unfollowed := true, recurses := true, plainKeys := false, apart := false }
def NodeRecoversSaid : Prop := nodeRecoversRow.holds Tryz.pinned (OpenSpec.ofChange nodeRecoversSpec)

/-- ITS FALSE NEIGHBOUR: 'it returns false'. Refute it at one input. -/
def nodeRecoversWrong : ChangeSpec := { name := "nodeRecovers", fn := fun _ => fun
  | [d] => { results := [.lit (.bool false)], args := [d] }
  | _ => none }
def NodeRecoversWrongFalsely : Prop := nodeRecoversRow.holds Tryz.pinned (OpenSpec.ofChange nodeRecoversWrong)

/-- 'mempoollaw30.NodeProposes': WHATEVER THE INPUT: true; the input reads as it did. -/
def nodeProposesSpec : ChangeSpec := { name := "nodeProposes", fn := fun _ => fun
  | [d1, d2, d3] => { results := [.lit (.bool true)], args := [d1, d2, d3] }
  | _ => none }
def nodeProposesRow : OpenClaim := { program := "ytdjcdmnemddjlaagreat", sum := "25d35746836b2f0c6812045f23bb9ff44d7db4381b68c61fbcfa33798f713baf", func := "mempool/mempoollaw30.NodeProposes", spec := "nodeProposes", inPlace := ["math/bits.Add64"], unfollowed := true, recurses := true, plainKeys := false, apart := false }
def NodeProposesSaid : Prop := nodeProposesRow.holds Tryz.pinned (OpenSpec.ofChange nodeProposesSpec)

/-- ITS FALSE NEIGHBOUR: 'it returns false'. Refute it at one input. -/
def nodeProposesWrong : ChangeSpec := { name := "nodeProposes", fn := fun _ => fun
  | [d1, d2, d3] => { results := [.lit (.bool false)], args := [d1, d2, d3] }
  | _ => none }
def NodeProposesWrongFalsely : Prop := nodeProposesRow.holds Tryz.pinned (OpenSpec.ofChange nodeProposesWrong)

/-- 'mempoollaw30.NodeSends': WHATEVER THE INPUT: true; the input reads as it did. -/
def nodeSendsSpec : ChangeSpec := { name := "nodeSends", fn := fun _ => fun
  | [d1, d2] => { results := [.lit (.bool true)], args := [d1, d2] }
  | _ => none }
def nodeSendsRow : OpenClaim := { program := "ytdjcdmnemddjlaagreat", sum := "25d35746836b2f0c6812045f23bb9ff44d7db4381b68c61fbcfa33798f713baf", func := "mempool/mempoollaw30.NodeSends", spec := "nodeSends", inPlace := ["math/bits.Add64"], unfollowed := true, recurses := true, plainKeys := false, apart := false }
def NodeSendsSaid : Prop := nodeSendsRow.holds Tryz.pinned (OpenSpec.ofChange nodeSendsSpec)

/-- ITS FALSE NEIGHBOUR: 'it returns false'. Refute it at one input. -/
def nodeSendsWrong : ChangeSpec := { name := "nodeSends", fn := fun _ => fun
  | [d1, d2] => { results := [.lit (.bool false)], args := [d1, d2] }
  | _ => none }
def NodeSendsWrongFalsely : Prop := nodeSendsRow.holds Tryz.pinned (OpenSpec.ofChange nodeSendsWrong)

/-- 'mempoollaw30.NodeStale': WHATEVER THE INPUT: true; the input reads as it did. -/
def nodeStaleSpec : ChangeSpec := { name := "nodeStale", fn := fun _ => fun
  | [d1, d2] => { results := [.lit (.bool true)], args := [d1, d2] }
  | _ => none }
def nodeStaleRow : OpenClaim := { program := "ytdjcdmnemddjlaagreat", sum := "25d35746836b2f0c6812045f23bb9ff44d7db4381b68c61fbcfa33798f713baf", func := "mempool/mempoollaw30.NodeStale", spec := "nodeStale", inPlace := ["math/bits.Add64"], unfollowed := true, recurses := true, plainKeys := false, apart := false }
def NodeStaleSaid : Prop := nodeStaleRow.holds Tryz.pinned (OpenSpec.ofChange nodeStaleSpec)

/-- ITS FALSE NEIGHBOUR: 'it returns false'. Refute it at one input. -/
def nodeStaleWrong : ChangeSpec := { name := "nodeStale", fn := fun _ => fun
  | [d1, d2] => { results := [.lit (.bool false)], args := [d1, d2] }
  | _ => none }
def NodeStaleWrongFalsely : Prop := nodeStaleRow.holds Tryz.pinned (OpenSpec.ofChange nodeStaleWrong)

/- THE SECOND FORM. 'bulk': how many values and letters a reading holds, each counted each time it is reached (what is shared counts as often as it is met; a slice's spare places count too). A statement '..UptoSaid' is the law's where the arguments, and the package variables that the reading takes, are together of bulk at most 1048576: NARROWER than '..Said'. Prove '..Said' where nothing that the law and all that it calls make is longer than what came in: it says more and counts as full. Else prove '..UptoSaid'. A law counts once. -/
mutual
def uptoBulk {H : Type} : DataW H → Nat
  | .lit (.string bytes) => bytes.length + 1
  | .lit _ => 1
  | .nil => 1
  | .ptr d => uptoBulk d + 1
  | .slice elems spare => uptoBulkAll elems + uptoBulkAll spare + 1
  | .agg parts => uptoBulkAll parts + 1
  | .iface _ d => uptoBulk d + 1
  | .map entries => uptoBulkEntries entries + 1
  | .held _ => 1
def uptoBulkAll {H : Type} : List (DataW H) → Nat
  | [] => 0
  | d :: r => uptoBulk d + uptoBulkAll r
def uptoBulkEntries {H : Type} : List (Lit × DataW H) → Nat
  | [] => 0
  | x :: r => uptoBulkEntry x + uptoBulkEntries r
def uptoBulkEntry {H : Type} : Lit × DataW H → Nat
  | (.string bytes, d) => bytes.length + uptoBulk d + 1
  | (_, d) => uptoBulk d + 1
 end
def uptoSmall : (H : Type) → List (DataW H) → Bool := fun _ ds => decide (uptoBulkAll ds ≤ 1048576)
def OpenSpec.upto (s : _root_.Go.ChangeSpec) : _root_.Go.OpenSpec := { _root_.Go.OpenSpec.ofChange s with cond := some uptoSmall }

/-- 'mempoollaw30.NodeModels', WHERE WHAT IT READS IS OF BULK AT MOST 1048576: true; the input reads as it did. -/
def nodeModelsUptoRow : OpenClaim := { program := "ytdjcdmnemddjlaagreat", sum := "25d35746836b2f0c6812045f23bb9ff44d7db4381b68c61fbcfa33798f713baf", func := "mempool/mempoollaw30.NodeModels", spec := "nodeModels", inPlace := ["math/bits.Add64"], unfollowed := true, recurses := true, plainKeys := false, apart := false, narrowed := true }
def NodeModelsUptoSaid : Prop := nodeModelsUptoRow.holds Tryz.pinned (OpenSpec.upto nodeModelsSpec)

/-- 'mempoollaw30.NodeBegins', WHERE WHAT IT READS IS OF BULK AT MOST 1048576: true; the input reads as it did. -/
def nodeBeginsUptoRow : OpenClaim := { program := "ytdjcdmnemddjlaagreat", sum := "25d35746836b2f0c6812045f23bb9ff44d7db4381b68c61fbcfa33798f713baf", func := "mempool/mempoollaw30.NodeBegins", spec := "nodeBegins", inPlace := ["math/bits.Add64"], unfollowed := true, recurses := true, plainKeys := false, apart := false, narrowed := true }
def NodeBeginsUptoSaid : Prop := nodeBeginsUptoRow.holds Tryz.pinned (OpenSpec.upto nodeBeginsSpec)

/-- 'mempoollaw30.NodePlays', WHERE WHAT IT READS IS OF BULK AT MOST 1048576: true; the input reads as it did. -/
def nodePlaysUptoRow : OpenClaim := { program := "ytdjcdmnemddjlaagreat", sum := "25d35746836b2f0c6812045f23bb9ff44d7db4381b68c61fbcfa33798f713baf", func := "mempool/mempoollaw30.NodePlays", spec := "nodePlays", inPlace := ["math/bits.Add64"], unfollowed := true, recurses := true, plainKeys := false, apart := false, narrowed := true }
def NodePlaysUptoSaid : Prop := nodePlaysUptoRow.holds Tryz.pinned (OpenSpec.upto nodePlaysSpec)

/-- 'mempoollaw30.NodeReplies', WHERE WHAT IT READS IS OF BULK AT MOST 1048576: true; the input reads as it did. -/
def nodeRepliesUptoRow : OpenClaim := { program := "ytdjcdmnemddjlaagreat", sum := "25d35746836b2f0c6812045f23bb9ff44d7db4381b68c61fbcfa33798f713baf", func := "mempool/mempoollaw30.NodeReplies", spec := "nodeReplies", inPlace := ["math/bits.Add64"], unfollowed := true, recurses := true, plainKeys := false, apart := false, narrowed := true }
def NodeRepliesUptoSaid : Prop := nodeRepliesUptoRow.holds Tryz.pinned (OpenSpec.upto nodeRepliesSpec)

/-- 'mempoollaw30.NodeRestarts', WHERE WHAT IT READS IS OF BULK AT MOST 1048576: true; the input reads as it did. -/
def nodeRestartsUptoRow : OpenClaim := { program := "ytdjcdmnemddjlaagreat", sum := "25d35746836b2f0c6812045f23bb9ff44d7db4381b68c61fbcfa33798f713baf", func := "mempool/mempoollaw30.NodeRestarts", spec := "nodeRestarts", inPlace := ["math/bits.Add64"], unfollowed := true, recurses := true, plainKeys := false, apart := false, narrowed := true }
def NodeRestartsUptoSaid : Prop := nodeRestartsUptoRow.holds Tryz.pinned (OpenSpec.upto nodeRestartsSpec)

/-- 'mempoollaw30.NodeRecovers', WHERE WHAT IT READS IS OF BULK AT MOST 1048576: true; the input reads as it did. -/
def nodeRecoversUptoRow : OpenClaim := { program := "ytdjcdmnemddjlaagreat", sum := "25d35746836b2f0c6812045f23bb9ff44d7db4381b68c61fbcfa33798f713baf", func := "mempool/mempoollaw30.NodeRecovers", spec := "nodeRecovers", inPlace := ["math/bits.Add64"], unfollowed := true, recurses := true, plainKeys := false, apart := false, narrowed := true }
def NodeRecoversUptoSaid : Prop := nodeRecoversUptoRow.holds Tryz.pinned (OpenSpec.upto nodeRecoversSpec)

/-- 'mempoollaw30.NodeProposes', WHERE WHAT IT READS IS OF BULK AT MOST 1048576: true; the input reads as it did. -/
def nodeProposesUptoRow : OpenClaim := { program := "ytdjcdmnemddjlaagreat", sum := "25d35746836b2f0c6812045f23bb9ff44d7db4381b68c61fbcfa33798f713baf", func := "mempool/mempoollaw30.NodeProposes", spec := "nodeProposes", inPlace := ["math/bits.Add64"], unfollowed := true, recurses := true, plainKeys := false, apart := false, narrowed := true }
def NodeProposesUptoSaid : Prop := nodeProposesUptoRow.holds Tryz.pinned (OpenSpec.upto nodeProposesSpec)

/-- 'mempoollaw30.NodeSends', WHERE WHAT IT READS IS OF BULK AT MOST 1048576: true; the input reads as it did. -/
def nodeSendsUptoRow : OpenClaim := { program := "ytdjcdmnemddjlaagreat", sum := "25d35746836b2f0c6812045f23bb9ff44d7db4381b68c61fbcfa33798f713baf", func := "mempool/mempoollaw30.NodeSends", spec := "nodeSends", inPlace := ["math/bits.Add64"], unfollowed := true, recurses := true, plainKeys := false, apart := false, narrowed := true }
def NodeSendsUptoSaid : Prop := nodeSendsUptoRow.holds Tryz.pinned (OpenSpec.upto nodeSendsSpec)

/-- 'mempoollaw30.NodeStale', WHERE WHAT IT READS IS OF BULK AT MOST 1048576: true; the input reads as it did. -/
def nodeStaleUptoRow : OpenClaim := { program := "ytdjcdmnemddjlaagreat", sum := "25d35746836b2f0c6812045f23bb9ff44d7db4381b68c61fbcfa33798f713baf", func := "mempool/mempoollaw30.NodeStale", spec := "nodeStale", inPlace := ["math/bits.Add64"], unfollowed := true, recurses := true, plainKeys := false, apart := false, narrowed := true }
def NodeStaleUptoSaid : Prop := nodeStaleUptoRow.holds Tryz.pinned (OpenSpec.upto nodeStaleSpec)

end Rows
end Go.Proofs.YtdjcdmnemddjlaaGreat
