/-
  NARROWER THAN 'FOR EVERY INPUT', by the rows' own cells (each row's printed sentence says how): AppBegins: laid · AppChecks: laid · AppBlocks: laid · AppAccepts: laid · AppLimits: laid · ChainReplays: laid · ChainUnique: laid.
  DERIVED. THE GIVEN ROWS OF THIS SEAT. 7 by the template 'for every input the law returns true; each argument reads behind the call as it read before'; 0 by the template 'total and deterministic' (their statements: YtohikcplmbkmeaaGreatDoorTotals.lean).
  GIVEN WITH THE SEED: the statements are not yours to turn. If you find one false, say at which input.
  Laid BY PROGRAM, IN A SANDBOX (cutbox-rows.mjs): the forced cells as the released guide's own fill.sh prints them over the translation ab811d0e687c7061… (all of the seat's roots in one cut). By AI agents, Wed Nov 11 2026. No macro, syntax, notation, axiom, sorry.
-/
import Derived.Test.YtohikcplmbkmeaaGreatDoorChecked
import GoSem.PinnedTables
import GoSem.Claim
import GoSem.ClaimJoined
import GoSem.ClaimMapViews
import Derived.JoinedTies
import Derived.KernelRfl
namespace Go.Proofs.YtohikcplmbkmeaaGreatDoor
/- THE CELL 'sum', in the pinned program and in every row, IS THE sha256 OF THE DUMP (.gsa) THAT YtohikcplmbkmeaaGreatDoorProg.lean LOADS. Nothing in Lean hashes anything: it is a label: what it is worth is what the hold of that sum in a sandbox is worth. -/
noncomputable def Tryz.pinned : Pinned := { name := "ytohikcplmbkmeaagreatdoor", sum := "ab811d0e687c7061eeb285da0f7d4becfbe3af7f79d421e9bc3a246a14b25a74", checked := Tryz.checked }
namespace Rows
def none {H : Type} : Left H := { results := [], args := [] }

/- WHAT THE LISTED PACKAGE-LEVEL VARIABLES READ AS WHEN THE CALL BEGINS. Each datum BY PROGRAM (the guide's laid-datum.mjs) off the statement by which the dump's own 'gosem.cut.vars' lays the variable. In a bare row this is a premise. The card (YtohikcplmbkmeaaGreatDoorCards.lean) ties it to the program's text. -/
def laid_unicode_utf8_acceptRanges {H : Type} : DataW H := .agg [.agg [.lit (.int .u8 128), .lit (.int .u8 191)], .agg [.lit (.int .u8 160), .lit (.int .u8 191)], .agg [.lit (.int .u8 128), .lit (.int .u8 159)], .agg [.lit (.int .u8 144), .lit (.int .u8 191)], .agg [.lit (.int .u8 128), .lit (.int .u8 143)], .agg [.lit (.int .u8 0), .lit (.int .u8 0)], .agg [.lit (.int .u8 0), .lit (.int .u8 0)], .agg [.lit (.int .u8 0), .lit (.int .u8 0)], .agg [.lit (.int .u8 0), .lit (.int .u8 0)], .agg [.lit (.int .u8 0), .lit (.int .u8 0)], .agg [.lit (.int .u8 0), .lit (.int .u8 0)], .agg [.lit (.int .u8 0), .lit (.int .u8 0)], .agg [.lit (.int .u8 0), .lit (.int .u8 0)], .agg [.lit (.int .u8 0), .lit (.int .u8 0)], .agg [.lit (.int .u8 0), .lit (.int .u8 0)], .agg [.lit (.int .u8 0), .lit (.int .u8 0)]]
/-- One of Go's own tables, pinned by name: the form's constant. -/
def laid_unicode_utf8_first : DataW Unit := Go.Pinned.utf8First

/-- 'mempoollaw15.AppBegins': WHATEVER THE INPUT: true; the input reads as it did. -/
def appBeginsSpec : ChangeSpec := { name := "appBegins", fn := fun _ => fun
  | [d1, d2, d3] => { results := [.lit (.bool true)], args := [d1, d2, d3] }
  | _ => none }
def appBeginsRow : OpenClaim := { program := "ytohikcplmbkmeaagreatdoor", sum := "ab811d0e687c7061eeb285da0f7d4becfbe3af7f79d421e9bc3a246a14b25a74", func := "mempool/mempoollaw15.AppBegins", spec := "appBegins", inPlace := ["math/bits.Add64", "slices.overlaps[mempool/api.Account]"], unfollowed := true, recurses := true, named := ["unicode/utf8.first", "unicode/utf8.acceptRanges", "math/bits.divideError", "math/bits.overflowError"], apart := false, laid := [("unicode/utf8.acceptRanges", laid_unicode_utf8_acceptRanges), ("unicode/utf8.first", laid_unicode_utf8_first)] }
def AppBeginsSaid : Prop := appBeginsRow.holds Tryz.pinned (OpenSpec.ofChange appBeginsSpec)

/-- ITS FALSE NEIGHBOUR: 'it returns false'. Refute it at one input. -/
def appBeginsWrong : ChangeSpec := { name := "appBegins", fn := fun _ => fun
  | [d1, d2, d3] => { results := [.lit (.bool false)], args := [d1, d2, d3] }
  | _ => none }
def AppBeginsWrongFalsely : Prop := appBeginsRow.holds Tryz.pinned (OpenSpec.ofChange appBeginsWrong)

/-- 'mempoollaw15.AppChecks': WHATEVER THE INPUT: true; the input reads as it did. -/
def appChecksSpec : ChangeSpec := { name := "appChecks", fn := fun _ => fun
  | [d1, d2] => { results := [.lit (.bool true)], args := [d1, d2] }
  | _ => none }
def appChecksRow : OpenClaim := { program := "ytohikcplmbkmeaagreatdoor", sum := "ab811d0e687c7061eeb285da0f7d4becfbe3af7f79d421e9bc3a246a14b25a74", func := "mempool/mempoollaw15.AppChecks", spec := "appChecks", inPlace := ["math/bits.Add64", "slices.overlaps[mempool/api.Account]"], unfollowed := true, recurses := true, named := ["unicode/utf8.first", "unicode/utf8.acceptRanges", "math/bits.divideError", "math/bits.overflowError"], apart := false, laid := [("unicode/utf8.acceptRanges", laid_unicode_utf8_acceptRanges), ("unicode/utf8.first", laid_unicode_utf8_first)] }
def AppChecksSaid : Prop := appChecksRow.holds Tryz.pinned (OpenSpec.ofChange appChecksSpec)

/-- ITS FALSE NEIGHBOUR: 'it returns false'. Refute it at one input. -/
def appChecksWrong : ChangeSpec := { name := "appChecks", fn := fun _ => fun
  | [d1, d2] => { results := [.lit (.bool false)], args := [d1, d2] }
  | _ => none }
def AppChecksWrongFalsely : Prop := appChecksRow.holds Tryz.pinned (OpenSpec.ofChange appChecksWrong)

/-- 'mempoollaw15.AppBlocks': WHATEVER THE INPUT: true; the input reads as it did. -/
def appBlocksSpec : ChangeSpec := { name := "appBlocks", fn := fun _ => fun
  | [d1, d2] => { results := [.lit (.bool true)], args := [d1, d2] }
  | _ => none }
def appBlocksRow : OpenClaim := { program := "ytohikcplmbkmeaagreatdoor", sum := "ab811d0e687c7061eeb285da0f7d4becfbe3af7f79d421e9bc3a246a14b25a74", func := "mempool/mempoollaw15.AppBlocks", spec := "appBlocks", inPlace := ["math/bits.Add64", "slices.overlaps[mempool/api.Account]"], unfollowed := true, recurses := true, named := ["unicode/utf8.first", "unicode/utf8.acceptRanges", "math/bits.divideError", "math/bits.overflowError"], apart := false, laid := [("unicode/utf8.acceptRanges", laid_unicode_utf8_acceptRanges), ("unicode/utf8.first", laid_unicode_utf8_first)] }
def AppBlocksSaid : Prop := appBlocksRow.holds Tryz.pinned (OpenSpec.ofChange appBlocksSpec)

/-- ITS FALSE NEIGHBOUR: 'it returns false'. Refute it at one input. -/
def appBlocksWrong : ChangeSpec := { name := "appBlocks", fn := fun _ => fun
  | [d1, d2] => { results := [.lit (.bool false)], args := [d1, d2] }
  | _ => none }
def AppBlocksWrongFalsely : Prop := appBlocksRow.holds Tryz.pinned (OpenSpec.ofChange appBlocksWrong)

/-- 'mempoollaw15.AppAccepts': WHATEVER THE INPUT: true; the input reads as it did. -/
def appAcceptsSpec : ChangeSpec := { name := "appAccepts", fn := fun _ => fun
  | [d] => { results := [.lit (.bool true)], args := [d] }
  | _ => none }
def appAcceptsRow : OpenClaim := { program := "ytohikcplmbkmeaagreatdoor", sum := "ab811d0e687c7061eeb285da0f7d4becfbe3af7f79d421e9bc3a246a14b25a74", func := "mempool/mempoollaw15.AppAccepts", spec := "appAccepts", inPlace := ["math/bits.Add64", "slices.overlaps[mempool/api.Account]"], unfollowed := true, recurses := true, named := ["unicode/utf8.first", "unicode/utf8.acceptRanges", "math/bits.divideError", "math/bits.overflowError"], apart := false, laid := [("unicode/utf8.acceptRanges", laid_unicode_utf8_acceptRanges), ("unicode/utf8.first", laid_unicode_utf8_first)] }
def AppAcceptsSaid : Prop := appAcceptsRow.holds Tryz.pinned (OpenSpec.ofChange appAcceptsSpec)

/-- ITS FALSE NEIGHBOUR: 'it returns false'. Refute it at one input. -/
def appAcceptsWrong : ChangeSpec := { name := "appAccepts", fn := fun _ => fun
  | [d] => { results := [.lit (.bool false)], args := [d] }
  | _ => none }
def AppAcceptsWrongFalsely : Prop := appAcceptsRow.holds Tryz.pinned (OpenSpec.ofChange appAcceptsWrong)

/-- 'mempoollaw15.AppLimits': WHATEVER THE INPUT: true; the input reads as it did. -/
def appLimitsSpec : ChangeSpec := { name := "appLimits", fn := fun _ => fun
  | [d] => { results := [.lit (.bool true)], args := [d] }
  | _ => none }
def appLimitsRow : OpenClaim := { program := "ytohikcplmbkmeaagreatdoor", sum := "ab811d0e687c7061eeb285da0f7d4becfbe3af7f79d421e9bc3a246a14b25a74", func := "mempool/mempoollaw15.AppLimits", spec := "appLimits", inPlace := ["math/bits.Add64", "slices.overlaps[mempool/api.Account]"], unfollowed := true, recurses := true, named := ["unicode/utf8.first", "unicode/utf8.acceptRanges", "math/bits.divideError", "math/bits.overflowError"], apart := false, laid := [("unicode/utf8.acceptRanges", laid_unicode_utf8_acceptRanges), ("unicode/utf8.first", laid_unicode_utf8_first)] }
def AppLimitsSaid : Prop := appLimitsRow.holds Tryz.pinned (OpenSpec.ofChange appLimitsSpec)

/-- ITS FALSE NEIGHBOUR: 'it returns false'. Refute it at one input. -/
def appLimitsWrong : ChangeSpec := { name := "appLimits", fn := fun _ => fun
  | [d] => { results := [.lit (.bool false)], args := [d] }
  | _ => none }
def AppLimitsWrongFalsely : Prop := appLimitsRow.holds Tryz.pinned (OpenSpec.ofChange appLimitsWrong)

/-- 'mempoollaw27.ChainReplays': WHATEVER THE INPUT: true; the input reads as it did. -/
def chainReplaysSpec : ChangeSpec := { name := "chainReplays", fn := fun _ => fun
  | [d1, d2, d3, d4, d5] => { results := [.lit (.bool true)], args := [d1, d2, d3, d4, d5] }
  | _ => none }
def chainReplaysRow : OpenClaim := { program := "ytohikcplmbkmeaagreatdoor", sum := "ab811d0e687c7061eeb285da0f7d4becfbe3af7f79d421e9bc3a246a14b25a74", func := "mempool/mempoollaw27.ChainReplays", spec := "chainReplays", inPlace := ["math/bits.Add64", "slices.overlaps[mempool/api.Account]"], unfollowed := true, recurses := true, named := ["unicode/utf8.first", "unicode/utf8.acceptRanges", "math/bits.divideError", "math/bits.overflowError"], apart := false, laid := [("unicode/utf8.acceptRanges", laid_unicode_utf8_acceptRanges), ("unicode/utf8.first", laid_unicode_utf8_first)] }
def ChainReplaysSaid : Prop := chainReplaysRow.holds Tryz.pinned (OpenSpec.ofChange chainReplaysSpec)

/-- ITS FALSE NEIGHBOUR: 'it returns false'. Refute it at one input. -/
def chainReplaysWrong : ChangeSpec := { name := "chainReplays", fn := fun _ => fun
  | [d1, d2, d3, d4, d5] => { results := [.lit (.bool false)], args := [d1, d2, d3, d4, d5] }
  | _ => none }
def ChainReplaysWrongFalsely : Prop := chainReplaysRow.holds Tryz.pinned (OpenSpec.ofChange chainReplaysWrong)

/-- 'mempoollaw27.ChainUnique': WHATEVER THE INPUT: true; the input reads as it did. -/
def chainUniqueSpec : ChangeSpec := { name := "chainUnique", fn := fun _ => fun
  | [d1, d2, d3] => { results := [.lit (.bool true)], args := [d1, d2, d3] }
  | _ => none }
def chainUniqueRow : OpenClaim := { program := "ytohikcplmbkmeaagreatdoor", sum := "ab811d0e687c7061eeb285da0f7d4becfbe3af7f79d421e9bc3a246a14b25a74", func := "mempool/mempoollaw27.ChainUnique", spec := "chainUnique", inPlace := ["math/bits.Add64", "slices.overlaps[mempool/api.Account]"], unfollowed := true, recurses := true, named := ["unicode/utf8.first", "unicode/utf8.acceptRanges", "math/bits.divideError", "math/bits.overflowError"], apart := false, laid := [("unicode/utf8.acceptRanges", laid_unicode_utf8_acceptRanges), ("unicode/utf8.first", laid_unicode_utf8_first)] }
def ChainUniqueSaid : Prop := chainUniqueRow.holds Tryz.pinned (OpenSpec.ofChange chainUniqueSpec)

/-- ITS FALSE NEIGHBOUR: 'it returns false'. Refute it at one input. -/
def chainUniqueWrong : ChangeSpec := { name := "chainUnique", fn := fun _ => fun
  | [d1, d2, d3] => { results := [.lit (.bool false)], args := [d1, d2, d3] }
  | _ => none }
def ChainUniqueWrongFalsely : Prop := chainUniqueRow.holds Tryz.pinned (OpenSpec.ofChange chainUniqueWrong)

/- THE SECOND FORM. 'bulk': how many values and letters a reading holds, each counted each time it is reached (what is shared counts as often as it is met; a slice's spare places count too). A statement '..UptoSaid' is the law's where the arguments, and the package variables that the reading takes, are together of bulk at most 1048576: NARROWER than '..Said'. Prove '..Said' where nothing that the law and all that it calls make is longer than what came in: it says more and counts as full. Else prove '..UptoSaid'. A law counts once. -/
mutual
def uptoBulk {H : Type} : DataW H → Nat
  | .lit (.string bytes) => bytes.length + 1
  | .lit _ => 1
  | .nil => 1
  | .ptr d => uptoBulk d + 1
  | .slice elems spare => uptoBulkAll elems + uptoBulkAll spare + 1
  | .agg parts => uptoBulkAll parts + 1
  | .iface _ d => uptoBulk d + 1
  | .map entries => uptoBulkEntries entries + 1
  | .held _ => 1
def uptoBulkAll {H : Type} : List (DataW H) → Nat
  | [] => 0
  | d :: r => uptoBulk d + uptoBulkAll r
def uptoBulkEntries {H : Type} : List (Lit × DataW H) → Nat
  | [] => 0
  | x :: r => uptoBulkEntry x + uptoBulkEntries r
def uptoBulkEntry {H : Type} : Lit × DataW H → Nat
  | (.string bytes, d) => bytes.length + uptoBulk d + 1
  | (_, d) => uptoBulk d + 1
 end
def uptoSmall : (H : Type) → List (DataW H) → Bool := fun _ ds => decide (uptoBulkAll ds ≤ 1048576)
def OpenSpec.upto (s : _root_.Go.ChangeSpec) : _root_.Go.OpenSpec := { _root_.Go.OpenSpec.ofChange s with cond := some uptoSmall }

/-- 'mempoollaw15.AppBegins', WHERE WHAT IT READS IS OF BULK AT MOST 1048576: true; the input reads as it did. -/
def appBeginsUptoRow : OpenClaim := { program := "ytohikcplmbkmeaagreatdoor", sum := "ab811d0e687c7061eeb285da0f7d4becfbe3af7f79d421e9bc3a246a14b25a74", func := "mempool/mempoollaw15.AppBegins", spec := "appBegins", inPlace := ["math/bits.Add64", "slices.overlaps[mempool/api.Account]"], unfollowed := true, recurses := true, named := ["unicode/utf8.first", "unicode/utf8.acceptRanges", "math/bits.divideError", "math/bits.overflowError"], apart := false, laid := [("unicode/utf8.acceptRanges", laid_unicode_utf8_acceptRanges), ("unicode/utf8.first", laid_unicode_utf8_first)], narrowed := true }
def AppBeginsUptoSaid : Prop := appBeginsUptoRow.holds Tryz.pinned (OpenSpec.upto appBeginsSpec)

/-- 'mempoollaw15.AppChecks', WHERE WHAT IT READS IS OF BULK AT MOST 1048576: true; the input reads as it did. -/
def appChecksUptoRow : OpenClaim := { program := "ytohikcplmbkmeaagreatdoor", sum := "ab811d0e687c7061eeb285da0f7d4becfbe3af7f79d421e9bc3a246a14b25a74", func := "mempool/mempoollaw15.AppChecks", spec := "appChecks", inPlace := ["math/bits.Add64", "slices.overlaps[mempool/api.Account]"], unfollowed := true, recurses := true, named := ["unicode/utf8.first", "unicode/utf8.acceptRanges", "math/bits.divideError", "math/bits.overflowError"], apart := false, laid := [("unicode/utf8.acceptRanges", laid_unicode_utf8_acceptRanges), ("unicode/utf8.first", laid_unicode_utf8_first)], narrowed := true }
def AppChecksUptoSaid : Prop := appChecksUptoRow.holds Tryz.pinned (OpenSpec.upto appChecksSpec)

/-- 'mempoollaw15.AppBlocks', WHERE WHAT IT READS IS OF BULK AT MOST 1048576: true; the input reads as it did. -/
def appBlocksUptoRow : OpenClaim := { program := "ytohikcplmbkmeaagreatdoor", sum := "ab811d0e687c7061eeb285da0f7d4becfbe3af7f79d421e9bc3a246a14b25a74", func := "mempool/mempoollaw15.AppBlocks", spec := "appBlocks", inPlace := ["math/bits.Add64", "slices.overlaps[mempool/api.Account]"], unfollowed := true, recurses := true, named := ["unicode/utf8.first", "unicode/utf8.acceptRanges", "math/bits.divideError", "math/bits.overflowError"], apart := false, laid := [("unicode/utf8.acceptRanges", laid_unicode_utf8_acceptRanges), ("unicode/utf8.first", laid_unicode_utf8_first)], narrowed := true }
def AppBlocksUptoSaid : Prop := appBlocksUptoRow.holds Tryz.pinned (OpenSpec.upto appBlocksSpec)

/-- 'mempoollaw15.AppAccepts', WHERE WHAT IT READS IS OF BULK AT MOST 1048576: true; the input reads as it did. -/
def appAcceptsUptoRow : OpenClaim := { program := "ytohikcplmbkmeaagreatdoor", sum := "ab811d0e687c7061eeb285da0f7d4becfbe3af7f79d421e9bc3a246a14b25a74", func := "mempool/mempoollaw15.AppAccepts", spec := "appAccepts", inPlace := ["math/bits.Add64", "slices.overlaps[mempool/api.Account]"], unfollowed := true, recurses := true, named := ["unicode/utf8.first", "unicode/utf8.acceptRanges", "math/bits.divideError", "math/bits.overflowError"], apart := false, laid := [("unicode/utf8.acceptRanges", laid_unicode_utf8_acceptRanges), ("unicode/utf8.first", laid_unicode_utf8_first)], narrowed := true }
def AppAcceptsUptoSaid : Prop := appAcceptsUptoRow.holds Tryz.pinned (OpenSpec.upto appAcceptsSpec)

/-- 'mempoollaw15.AppLimits', WHERE WHAT IT READS IS OF BULK AT MOST 1048576: true; the input reads as it did. -/
def appLimitsUptoRow : OpenClaim := { program := "ytohikcplmbkmeaagreatdoor", sum := "ab811d0e687c7061eeb285da0f7d4becfbe3af7f79d421e9bc3a246a14b25a74", func := "mempool/mempoollaw15.AppLimits", spec := "appLimits", inPlace := ["math/bits.Add64", "slices.overlaps[mempool/api.Account]"], unfollowed := true, recurses := true, named := ["unicode/utf8.first", "unicode/utf8.acceptRanges", "math/bits.divideError", "math/bits.overflowError"], apart := false, laid := [("unicode/utf8.acceptRanges", laid_unicode_utf8_acceptRanges), ("unicode/utf8.first", laid_unicode_utf8_first)], narrowed := true }
def AppLimitsUptoSaid : Prop := appLimitsUptoRow.holds Tryz.pinned (OpenSpec.upto appLimitsSpec)

/-- 'mempoollaw27.ChainReplays', WHERE WHAT IT READS IS OF BULK AT MOST 1048576: true; the input reads as it did. -/
def chainReplaysUptoRow : OpenClaim := { program := "ytohikcplmbkmeaagreatdoor", sum := "ab811d0e687c7061eeb285da0f7d4becfbe3af7f79d421e9bc3a246a14b25a74", func := "mempool/mempoollaw27.ChainReplays", spec := "chainReplays", inPlace := ["math/bits.Add64", "slices.overlaps[mempool/api.Account]"], unfollowed := true, recurses := true, named := ["unicode/utf8.first", "unicode/utf8.acceptRanges", "math/bits.divideError", "math/bits.overflowError"], apart := false, laid := [("unicode/utf8.acceptRanges", laid_unicode_utf8_acceptRanges), ("unicode/utf8.first", laid_unicode_utf8_first)], narrowed := true }
def ChainReplaysUptoSaid : Prop := chainReplaysUptoRow.holds Tryz.pinned (OpenSpec.upto chainReplaysSpec)

/-- 'mempoollaw27.ChainUnique', WHERE WHAT IT READS IS OF BULK AT MOST 1048576: true; the input reads as it did. -/
def chainUniqueUptoRow : OpenClaim := { program := "ytohikcplmbkmeaagreatdoor", sum := "ab811d0e687c7061eeb285da0f7d4becfbe3af7f79d421e9bc3a246a14b25a74", func := "mempool/mempoollaw27.ChainUnique", spec := "chainUnique", inPlace := ["math/bits.Add64", "slices.overlaps[mempool/api.Account]"], unfollowed := true, recurses := true, named := ["unicode/utf8.first", "unicode/utf8.acceptRanges", "math/bits.divideError", "math/bits.overflowError"], apart := false, laid := [("unicode/utf8.acceptRanges", laid_unicode_utf8_acceptRanges), ("unicode/utf8.first", laid_unicode_utf8_first)], narrowed := true }
def ChainUniqueUptoSaid : Prop := chainUniqueUptoRow.holds Tryz.pinned (OpenSpec.upto chainUniqueSpec)

end Rows
end Go.Proofs.YtohikcplmbkmeaaGreatDoor
