/-
  NARROWER THAN 'FOR EVERY INPUT', by the rows' own cells (each row's printed sentence says how): AdmitBegins: laid · AdmitPlays: laid · AdmitChecks: laid · AdmitRefuses: laid · AdmitBounds: laid · AdmitEvicts: laid · AdmitAgain: laid · AdmitLists: laid.
  DERIVED. THE GIVEN ROWS OF THIS SEAT. 8 by the template 'for every input the law returns true; each argument reads behind the call as it read before'; 0 by the template 'total and deterministic' (their statements: YthdhlcicpcnbhaaGreatDoorTotals.lean).
  GIVEN WITH THE SEED: the statements are not yours to turn. If you find one false, say at which input.
  Laid BY PROGRAM, IN A SANDBOX (cutbox-rows.mjs): the forced cells as the released guide's own fill.sh prints them over the translation 4a0f2082644498fd… (all of the seat's roots in one cut). By AI agents, Wed Nov 11 2026. No macro, syntax, notation, axiom, sorry.
-/
import Derived.Test.YthdhlcicpcnbhaaGreatDoorChecked
import GoSem.PinnedTables
import GoSem.Claim
import GoSem.ClaimJoined
import GoSem.ClaimMapViews
import Derived.JoinedTies
import Derived.KernelRfl
namespace Go.Proofs.YthdhlcicpcnbhaaGreatDoor
/- THE CELL 'sum', in the pinned program and in every row, IS THE sha256 OF THE DUMP (.gsa) THAT YthdhlcicpcnbhaaGreatDoorProg.lean LOADS. Nothing in Lean hashes anything: it is a label: what it is worth is what the hold of that sum in a sandbox is worth. -/
noncomputable def Tryz.pinned : Pinned := { name := "ythdhlcicpcnbhaagreatdoor", sum := "4a0f2082644498fdb97d66dac91865007a86e3589e1681dec628d714e47bff08", checked := Tryz.checked }
namespace Rows
def none {H : Type} : Left H := { results := [], args := [] }

/- WHAT THE LISTED PACKAGE-LEVEL VARIABLES READ AS WHEN THE CALL BEGINS. Each datum BY PROGRAM (the guide's laid-datum.mjs) off the statement by which the dump's own 'gosem.cut.vars' lays the variable. In a bare row this is a premise. The card (YthdhlcicpcnbhaaGreatDoorCards.lean) ties it to the program's text. -/
def laid_unicode_utf8_acceptRanges {H : Type} : DataW H := .agg [.agg [.lit (.int .u8 128), .lit (.int .u8 191)], .agg [.lit (.int .u8 160), .lit (.int .u8 191)], .agg [.lit (.int .u8 128), .lit (.int .u8 159)], .agg [.lit (.int .u8 144), .lit (.int .u8 191)], .agg [.lit (.int .u8 128), .lit (.int .u8 143)], .agg [.lit (.int .u8 0), .lit (.int .u8 0)], .agg [.lit (.int .u8 0), .lit (.int .u8 0)], .agg [.lit (.int .u8 0), .lit (.int .u8 0)], .agg [.lit (.int .u8 0), .lit (.int .u8 0)], .agg [.lit (.int .u8 0), .lit (.int .u8 0)], .agg [.lit (.int .u8 0), .lit (.int .u8 0)], .agg [.lit (.int .u8 0), .lit (.int .u8 0)], .agg [.lit (.int .u8 0), .lit (.int .u8 0)], .agg [.lit (.int .u8 0), .lit (.int .u8 0)], .agg [.lit (.int .u8 0), .lit (.int .u8 0)], .agg [.lit (.int .u8 0), .lit (.int .u8 0)]]
/-- One of Go's own tables, pinned by name: the form's constant. -/
def laid_unicode_utf8_first : DataW Unit := Go.Pinned.utf8First

/-- 'mempoollaw22.AdmitBegins': WHATEVER THE INPUT: true; the input reads as it did. -/
def admitBeginsSpec : ChangeSpec := { name := "admitBegins", fn := fun _ => fun
  | [d1, d2, d3] => { results := [.lit (.bool true)], args := [d1, d2, d3] }
  | _ => none }
def admitBeginsRow : OpenClaim := { program := "ythdhlcicpcnbhaagreatdoor", sum := "4a0f2082644498fdb97d66dac91865007a86e3589e1681dec628d714e47bff08", func := "mempool/mempoollaw22.AdmitBegins", spec := "admitBegins", inPlace := ["math/bits.Add64", "slices.overlaps[mempool/api.Account]", "internal/reflectlite.ValueOf", "internal/reflectlite.Swapper", "(internal/reflectlite.Value).Len"], unfollowed := true, recurses := true, named := ["unicode/utf8.first", "unicode/utf8.acceptRanges", "math/bits.divideError", "math/bits.overflowError"], apart := false, laid := [("unicode/utf8.acceptRanges", laid_unicode_utf8_acceptRanges), ("unicode/utf8.first", laid_unicode_utf8_first)] }
def AdmitBeginsSaid : Prop := admitBeginsRow.holds Tryz.pinned (OpenSpec.ofChange admitBeginsSpec)

/-- ITS FALSE NEIGHBOUR: 'it returns false'. Refute it at one input. -/
def admitBeginsWrong : ChangeSpec := { name := "admitBegins", fn := fun _ => fun
  | [d1, d2, d3] => { results := [.lit (.bool false)], args := [d1, d2, d3] }
  | _ => none }
def AdmitBeginsWrongFalsely : Prop := admitBeginsRow.holds Tryz.pinned (OpenSpec.ofChange admitBeginsWrong)

/-- 'mempoollaw22.AdmitPlays': WHATEVER THE INPUT: true; the input reads as it did. -/
def admitPlaysSpec : ChangeSpec := { name := "admitPlays", fn := fun _ => fun
  | [d] => { results := [.lit (.bool true)], args := [d] }
  | _ => none }
def admitPlaysRow : OpenClaim := { program := "ythdhlcicpcnbhaagreatdoor", sum := "4a0f2082644498fdb97d66dac91865007a86e3589e1681dec628d714e47bff08", func := "mempool/mempoollaw22.AdmitPlays", spec := "admitPlays", inPlace := ["math/bits.Add64", "slices.overlaps[mempool/api.Account]", "internal/reflectlite.ValueOf", "internal/reflectlite.Swapper", "(internal/reflectlite.Value).Len"], unfollowed := true, recurses := true, named := ["unicode/utf8.first", "unicode/utf8.acceptRanges", "math/bits.divideError", "math/bits.overflowError"], apart := false, laid := [("unicode/utf8.acceptRanges", laid_unicode_utf8_acceptRanges), ("unicode/utf8.first", laid_unicode_utf8_first)] }
def AdmitPlaysSaid : Prop := admitPlaysRow.holds Tryz.pinned (OpenSpec.ofChange admitPlaysSpec)

/-- ITS FALSE NEIGHBOUR: 'it returns false'. Refute it at one input. -/
def admitPlaysWrong : ChangeSpec := { name := "admitPlays", fn := fun _ => fun
  | [d] => { results := [.lit (.bool false)], args := [d] }
  | _ => none }
def AdmitPlaysWrongFalsely : Prop := admitPlaysRow.holds Tryz.pinned (OpenSpec.ofChange admitPlaysWrong)

/-- 'mempoollaw22.AdmitChecks': WHATEVER THE INPUT: true; the input reads as it did. -/
def admitChecksSpec : ChangeSpec := { name := "admitChecks", fn := fun _ => fun
  | [d1, d2, d3] => { results := [.lit (.bool true)], args := [d1, d2, d3] }
  | _ => none }
def admitChecksRow : OpenClaim := { program := "ythdhlcicpcnbhaagreatdoor", sum := "4a0f2082644498fdb97d66dac91865007a86e3589e1681dec628d714e47bff08", func := "mempool/mempoollaw22.AdmitChecks", spec := "admitChecks", inPlace := ["math/bits.Add64", "slices.overlaps[mempool/api.Account]", "internal/reflectlite.ValueOf", "internal/reflectlite.Swapper", "(internal/reflectlite.Value).Len"], unfollowed := true, recurses := true, named := ["unicode/utf8.first", "unicode/utf8.acceptRanges", "math/bits.divideError", "math/bits.overflowError"], apart := false, laid := [("unicode/utf8.acceptRanges", laid_unicode_utf8_acceptRanges), ("unicode/utf8.first", laid_unicode_utf8_first)] }
def AdmitChecksSaid : Prop := admitChecksRow.holds Tryz.pinned (OpenSpec.ofChange admitChecksSpec)

/-- ITS FALSE NEIGHBOUR: 'it returns false'. Refute it at one input. -/
def admitChecksWrong : ChangeSpec := { name := "admitChecks", fn := fun _ => fun
  | [d1, d2, d3] => { results := [.lit (.bool false)], args := [d1, d2, d3] }
  | _ => none }
def AdmitChecksWrongFalsely : Prop := admitChecksRow.holds Tryz.pinned (OpenSpec.ofChange admitChecksWrong)

/-- 'mempoollaw22.AdmitRefuses': WHATEVER THE INPUT: true; the input reads as it did. -/
def admitRefusesSpec : ChangeSpec := { name := "admitRefuses", fn := fun _ => fun
  | [d] => { results := [.lit (.bool true)], args := [d] }
  | _ => none }
def admitRefusesRow : OpenClaim := { program := "ythdhlcicpcnbhaagreatdoor", sum := "4a0f2082644498fdb97d66dac91865007a86e3589e1681dec628d714e47bff08", func := "mempool/mempoollaw22.AdmitRefuses", spec := "admitRefuses", inPlace := ["math/bits.Add64", "slices.overlaps[mempool/api.Account]", "internal/reflectlite.ValueOf", "internal/reflectlite.Swapper", "(internal/reflectlite.Value).Len"], unfollowed := true, recurses := true, named := ["unicode/utf8.first", "unicode/utf8.acceptRanges", "math/bits.divideError", "math/bits.overflowError"], apart := false, laid := [("unicode/utf8.acceptRanges", laid_unicode_utf8_acceptRanges), ("unicode/utf8.first", laid_unicode_utf8_first)] }
def AdmitRefusesSaid : Prop := admitRefusesRow.holds Tryz.pinned (OpenSpec.ofChange admitRefusesSpec)

/-- ITS FALSE NEIGHBOUR: 'it returns false'. Refute it at one input. -/
def admitRefusesWrong : ChangeSpec := { name := "admitRefuses", fn := fun _ => fun
  | [d] => { results := [.lit (.bool false)], args := [d] }
  | _ => none }
def AdmitRefusesWrongFalsely : Prop := admitRefusesRow.holds Tryz.pinned (OpenSpec.ofChange admitRefusesWrong)

/-- 'mempoollaw22.AdmitBounds': WHATEVER THE INPUT: true; the input reads as it did. -/
def admitBoundsSpec : ChangeSpec := { name := "admitBounds", fn := fun _ => fun
  | [d] => { results := [.lit (.bool true)], args := [d] }
  | _ => none }
def admitBoundsRow : OpenClaim := { program := "ythdhlcicpcnbhaagreatdoor", sum := "4a0f2082644498fdb97d66dac91865007a86e3589e1681dec628d714e47bff08", func := "mempool/mempoollaw22.AdmitBounds", spec := "admitBounds", inPlace := ["math/bits.Add64", "slices.overlaps[mempool/api.Account]", "internal/reflectlite.ValueOf", "internal/reflectlite.Swapper", "(internal/reflectlite.Value).Len"], unfollowed := true, recurses := true, named := ["unicode/utf8.first", "unicode/utf8.acceptRanges", "math/bits.divideError", "math/bits.overflowError"], apart := false, laid := [("unicode/utf8.acceptRanges", laid_unicode_utf8_acceptRanges), ("unicode/utf8.first", laid_unicode_utf8_first)] }
def AdmitBoundsSaid : Prop := admitBoundsRow.holds Tryz.pinned (OpenSpec.ofChange admitBoundsSpec)

/-- ITS FALSE NEIGHBOUR: 'it returns false'. Refute it at one input. -/
def admitBoundsWrong : ChangeSpec := { name := "admitBounds", fn := fun _ => fun
  | [d] => { results := [.lit (.bool false)], args := [d] }
  | _ => none }
def AdmitBoundsWrongFalsely : Prop := admitBoundsRow.holds Tryz.pinned (OpenSpec.ofChange admitBoundsWrong)

/-- 'mempoollaw22.AdmitEvicts': WHATEVER THE INPUT: true; the input reads as it did. -/
def admitEvictsSpec : ChangeSpec := { name := "admitEvicts", fn := fun _ => fun
  | [d] => { results := [.lit (.bool true)], args := [d] }
  | _ => none }
def admitEvictsRow : OpenClaim := { program := "ythdhlcicpcnbhaagreatdoor", sum := "4a0f2082644498fdb97d66dac91865007a86e3589e1681dec628d714e47bff08", func := "mempool/mempoollaw22.AdmitEvicts", spec := "admitEvicts", inPlace := ["math/bits.Add64", "slices.overlaps[mempool/api.Account]", "internal/reflectlite.ValueOf", "internal/reflectlite.Swapper", "(internal/reflectlite.Value).Len"], unfollowed := true, recurses := true, named := ["unicode/utf8.first", "unicode/utf8.acceptRanges", "math/bits.divideError", "math/bits.overflowError"], apart := false, laid := [("unicode/utf8.acceptRanges", laid_unicode_utf8_acceptRanges), ("unicode/utf8.first", laid_unicode_utf8_first)] }
def AdmitEvictsSaid : Prop := admitEvictsRow.holds Tryz.pinned (OpenSpec.ofChange admitEvictsSpec)

/-- ITS FALSE NEIGHBOUR: 'it returns false'. Refute it at one input. -/
def admitEvictsWrong : ChangeSpec := { name := "admitEvicts", fn := fun _ => fun
  | [d] => { results := [.lit (.bool false)], args := [d] }
  | _ => none }
def AdmitEvictsWrongFalsely : Prop := admitEvictsRow.holds Tryz.pinned (OpenSpec.ofChange admitEvictsWrong)

/-- 'mempoollaw22.AdmitAgain': WHATEVER THE INPUT: true; the input reads as it did. -/
def admitAgainSpec : ChangeSpec := { name := "admitAgain", fn := fun _ => fun
  | [d1, d2] => { results := [.lit (.bool true)], args := [d1, d2] }
  | _ => none }
def admitAgainRow : OpenClaim := { program := "ythdhlcicpcnbhaagreatdoor", sum := "4a0f2082644498fdb97d66dac91865007a86e3589e1681dec628d714e47bff08", func := "mempool/mempoollaw22.AdmitAgain", spec := "admitAgain", inPlace := ["math/bits.Add64", "slices.overlaps[mempool/api.Account]", "internal/reflectlite.ValueOf", "internal/reflectlite.Swapper", "(internal/reflectlite.Value).Len"], unfollowed := true, recurses := true, named := ["unicode/utf8.first", "unicode/utf8.acceptRanges", "math/bits.divideError", "math/bits.overflowError"], apart := false, laid := [("unicode/utf8.acceptRanges", laid_unicode_utf8_acceptRanges), ("unicode/utf8.first", laid_unicode_utf8_first)] }
def AdmitAgainSaid : Prop := admitAgainRow.holds Tryz.pinned (OpenSpec.ofChange admitAgainSpec)

/-- ITS FALSE NEIGHBOUR: 'it returns false'. Refute it at one input. -/
def admitAgainWrong : ChangeSpec := { name := "admitAgain", fn := fun _ => fun
  | [d1, d2] => { results := [.lit (.bool false)], args := [d1, d2] }
  | _ => none }
def AdmitAgainWrongFalsely : Prop := admitAgainRow.holds Tryz.pinned (OpenSpec.ofChange admitAgainWrong)

/-- 'mempoollaw22.AdmitLists': WHATEVER THE INPUT: true; the input reads as it did. -/
def admitListsSpec : ChangeSpec := { name := "admitLists", fn := fun _ => fun
  | [d1, d2, d3] => { results := [.lit (.bool true)], args := [d1, d2, d3] }
  | _ => none }
def admitListsRow : OpenClaim := { program := "ythdhlcicpcnbhaagreatdoor", sum := "4a0f2082644498fdb97d66dac91865007a86e3589e1681dec628d714e47bff08", func := "mempool/mempoollaw22.AdmitLists", spec := "admitLists", inPlace := ["math/bits.Add64", "slices.overlaps[mempool/api.Account]", "internal/reflectlite.ValueOf", "internal/reflectlite.Swapper", "(internal/reflectlite.Value).Len"], unfollowed := true, recurses := true, named := ["unicode/utf8.first", "unicode/utf8.acceptRanges", "math/bits.divideError", "math/bits.overflowError"], apart := false, laid := [("unicode/utf8.acceptRanges", laid_unicode_utf8_acceptRanges), ("unicode/utf8.first", laid_unicode_utf8_first)] }
def AdmitListsSaid : Prop := admitListsRow.holds Tryz.pinned (OpenSpec.ofChange admitListsSpec)

/-- ITS FALSE NEIGHBOUR: 'it returns false'. Refute it at one input. -/
def admitListsWrong : ChangeSpec := { name := "admitLists", fn := fun _ => fun
  | [d1, d2, d3] => { results := [.lit (.bool false)], args := [d1, d2, d3] }
  | _ => none }
def AdmitListsWrongFalsely : Prop := admitListsRow.holds Tryz.pinned (OpenSpec.ofChange admitListsWrong)

/- THE SECOND FORM. 'bulk': how many values and letters a reading holds, each counted each time it is reached (what is shared counts as often as it is met; a slice's spare places count too). A statement '..UptoSaid' is the law's where the arguments, and the package variables that the reading takes, are together of bulk at most 1048576: NARROWER than '..Said'. Prove '..Said' where nothing that the law and all that it calls make is longer than what came in: it says more and counts as full. Else prove '..UptoSaid'. A law counts once. -/
mutual
def uptoBulk {H : Type} : DataW H → Nat
  | .lit (.string bytes) => bytes.length + 1
  | .lit _ => 1
  | .nil => 1
  | .ptr d => uptoBulk d + 1
  | .slice elems spare => uptoBulkAll elems + uptoBulkAll spare + 1
  | .agg parts => uptoBulkAll parts + 1
  | .iface _ d => uptoBulk d + 1
  | .map entries => uptoBulkEntries entries + 1
  | .held _ => 1
def uptoBulkAll {H : Type} : List (DataW H) → Nat
  | [] => 0
  | d :: r => uptoBulk d + uptoBulkAll r
def uptoBulkEntries {H : Type} : List (Lit × DataW H) → Nat
  | [] => 0
  | x :: r => uptoBulkEntry x + uptoBulkEntries r
def uptoBulkEntry {H : Type} : Lit × DataW H → Nat
  | (.string bytes, d) => bytes.length + uptoBulk d + 1
  | (_, d) => uptoBulk d + 1
 end
def uptoSmall : (H : Type) → List (DataW H) → Bool := fun _ ds => decide (uptoBulkAll ds ≤ 1048576)
def OpenSpec.upto (s : _root_.Go.ChangeSpec) : _root_.Go.OpenSpec := { _root_.Go.OpenSpec.ofChange s with cond := some uptoSmall }

/-- 'mempoollaw22.AdmitBegins', WHERE WHAT IT READS IS OF BULK AT MOST 1048576: true; the input reads as it did. -/
def admitBeginsUptoRow : OpenClaim := { program := "ythdhlcicpcnbhaagreatdoor", sum := "4a0f2082644498fdb97d66dac91865007a86e3589e1681dec628d714e47bff08", func := "mempool/mempoollaw22.AdmitBegins", spec := "admitBegins", inPlace := ["math/bits.Add64", "slices.overlaps[mempool/api.Account]", "internal/reflectlite.ValueOf", "internal/reflectlite.Swapper", "(internal/reflectlite.Value).Len"], unfollowed := true, recurses := true, named := ["unicode/utf8.first", "unicode/utf8.acceptRanges", "math/bits.divideError", "math/bits.overflowError"], apart := false, laid := [("unicode/utf8.acceptRanges", laid_unicode_utf8_acceptRanges), ("unicode/utf8.first", laid_unicode_utf8_first)], narrowed := true }
def AdmitBeginsUptoSaid : Prop := admitBeginsUptoRow.holds Tryz.pinned (OpenSpec.upto admitBeginsSpec)

/-- 'mempoollaw22.AdmitPlays', WHERE WHAT IT READS IS OF BULK AT MOST 1048576: true; the input reads as it did. -/
def admitPlaysUptoRow : OpenClaim := { program := "ythdhlcicpcnbhaagreatdoor", sum := "4a0f2082644498fdb97d66dac91865007a86e3589e1681dec628d714e47bff08", func := "mempool/mempoollaw22.AdmitPlays", spec := "admitPlays", inPlace := ["math/bits.Add64", "slices.overlaps[mempool/api.Account]", "internal/reflectlite.ValueOf", "internal/reflectlite.Swapper", "(internal/reflectlite.Value).Len"], unfollowed := true, recurses := true, named := ["unicode/utf8.first", "unicode/utf8.acceptRanges", "math/bits.divideError", "math/bits.overflowError"], apart := false, laid := [("unicode/utf8.acceptRanges", laid_unicode_utf8_acceptRanges), ("unicode/utf8.first", laid_unicode_utf8_first)], narrowed := true }
def AdmitPlaysUptoSaid : Prop := admitPlaysUptoRow.holds Tryz.pinned (OpenSpec.upto admitPlaysSpec)

/-- 'mempoollaw22.AdmitChecks', WHERE WHAT IT READS IS OF BULK AT MOST 1048576: true; the input reads as it did. -/
def admitChecksUptoRow : OpenClaim := { program := "ythdhlcicpcnbhaagreatdoor", sum := "4a0f2082644498fdb97d66dac91865007a86e3589e1681dec628d714e47bff08", func := "mempool/mempoollaw22.AdmitChecks", spec := "admitChecks", inPlace := ["math/bits.Add64", "slices.overlaps[mempool/api.Account]", "internal/reflectlite.ValueOf", "internal/reflectlite.Swapper", "(internal/reflectlite.Value).Len"], unfollowed := true, recurses := true, named := ["unicode/utf8.first", "unicode/utf8.acceptRanges", "math/bits.divideError", "math/bits.overflowError"], apart := false, laid := [("unicode/utf8.acceptRanges", laid_unicode_utf8_acceptRanges), ("unicode/utf8.first", laid_unicode_utf8_first)], narrowed := true }
def AdmitChecksUptoSaid : Prop := admitChecksUptoRow.holds Tryz.pinned (OpenSpec.upto admitChecksSpec)

/-- 'mempoollaw22.AdmitRefuses', WHERE WHAT IT READS IS OF BULK AT MOST 1048576: true; the input reads as it did. -/
def admitRefusesUptoRow : OpenClaim := { program := "ythdhlcicpcnbhaagreatdoor", sum := "4a0f2082644498fdb97d66dac91865007a86e3589e1681dec628d714e47bff08", func := "mempool/mempoollaw22.AdmitRefuses", spec := "admitRefuses", inPlace := ["math/bits.Add64", "slices.overlaps[mempool/api.Account]", "internal/reflectlite.ValueOf", "internal/reflectlite.Swapper", "(internal/reflectlite.Value).Len"], unfollowed := true, recurses := true, named := ["unicode/utf8.first", "unicode/utf8.acceptRanges", "math/bits.divideError", "math/bits.overflowError"], apart := false, laid := [("unicode/utf8.acceptRanges", laid_unicode_utf8_acceptRanges), ("unicode/utf8.first", laid_unicode_utf8_first)], narrowed := true }
def AdmitRefusesUptoSaid : Prop := admitRefusesUptoRow.holds Tryz.pinned (OpenSpec.upto admitRefusesSpec)

/-- 'mempoollaw22.AdmitBounds', WHERE WHAT IT READS IS OF BULK AT MOST 1048576: true; the input reads as it did. -/
def admitBoundsUptoRow : OpenClaim := { program := "ythdhlcicpcnbhaagreatdoor", sum := "4a0f2082644498fdb97d66dac91865007a86e3589e1681dec628d714e47bff08", func := "mempool/mempoollaw22.AdmitBounds", spec := "admitBounds", inPlace := ["math/bits.Add64", "slices.overlaps[mempool/api.Account]", "internal/reflectlite.ValueOf", "internal/reflectlite.Swapper", "(internal/reflectlite.Value).Len"], unfollowed := true, recurses := true, named := ["unicode/utf8.first", "unicode/utf8.acceptRanges", "math/bits.divideError", "math/bits.overflowError"], apart := false, laid := [("unicode/utf8.acceptRanges", laid_unicode_utf8_acceptRanges), ("unicode/utf8.first", laid_unicode_utf8_first)], narrowed := true }
def AdmitBoundsUptoSaid : Prop := admitBoundsUptoRow.holds Tryz.pinned (OpenSpec.upto admitBoundsSpec)

/-- 'mempoollaw22.AdmitEvicts', WHERE WHAT IT READS IS OF BULK AT MOST 1048576: true; the input reads as it did. -/
def admitEvictsUptoRow : OpenClaim := { program := "ythdhlcicpcnbhaagreatdoor", sum := "4a0f2082644498fdb97d66dac91865007a86e3589e1681dec628d714e47bff08", func := "mempool/mempoollaw22.AdmitEvicts", spec := "admitEvicts", inPlace := ["math/bits.Add64", "slices.overlaps[mempool/api.Account]", "internal/reflectlite.ValueOf", "internal/reflectlite.Swapper", "(internal/reflectlite.Value).Len"], unfollowed := true, recurses := true, named := ["unicode/utf8.first", "unicode/utf8.acceptRanges", "math/bits.divideError", "math/bits.overflowError"], apart := false, laid := [("unicode/utf8.acceptRanges", laid_unicode_utf8_acceptRanges), ("unicode/utf8.first", laid_unicode_utf8_first)], narrowed := true }
def AdmitEvictsUptoSaid : Prop := admitEvictsUptoRow.holds Tryz.pinned (OpenSpec.upto admitEvictsSpec)

/-- 'mempoollaw22.AdmitAgain', WHERE WHAT IT READS IS OF BULK AT MOST 1048576: true; the input reads as it did. -/
def admitAgainUptoRow : OpenClaim := { program := "ythdhlcicpcnbhaagreatdoor", sum := "4a0f2082644498fdb97d66dac91865007a86e3589e1681dec628d714e47bff08", func := "mempool/mempoollaw22.AdmitAgain", spec := "admitAgain", inPlace := ["math/bits.Add64", "slices.overlaps[mempool/api.Account]", "internal/reflectlite.ValueOf", "internal/reflectlite.Swapper", "(internal/reflectlite.Value).Len"], unfollowed := true, recurses := true, named := ["unicode/utf8.first", "unicode/utf8.acceptRanges", "math/bits.divideError", "math/bits.overflowError"], apart := false, laid := [("unicode/utf8.acceptRanges", laid_unicode_utf8_acceptRanges), ("unicode/utf8.first", laid_unicode_utf8_first)], narrowed := true }
def AdmitAgainUptoSaid : Prop := admitAgainUptoRow.holds Tryz.pinned (OpenSpec.upto admitAgainSpec)

/-- 'mempoollaw22.AdmitLists', WHERE WHAT IT READS IS OF BULK AT MOST 1048576: true; the input reads as it did. -/
def admitListsUptoRow : OpenClaim := { program := "ythdhlcicpcnbhaagreatdoor", sum := "4a0f2082644498fdb97d66dac91865007a86e3589e1681dec628d714e47bff08", func := "mempool/mempoollaw22.AdmitLists", spec := "admitLists", inPlace := ["math/bits.Add64", "slices.overlaps[mempool/api.Account]", "internal/reflectlite.ValueOf", "internal/reflectlite.Swapper", "(internal/reflectlite.Value).Len"], unfollowed := true, recurses := true, named := ["unicode/utf8.first", "unicode/utf8.acceptRanges", "math/bits.divideError", "math/bits.overflowError"], apart := false, laid := [("unicode/utf8.acceptRanges", laid_unicode_utf8_acceptRanges), ("unicode/utf8.first", laid_unicode_utf8_first)], narrowed := true }
def AdmitListsUptoSaid : Prop := admitListsUptoRow.holds Tryz.pinned (OpenSpec.upto admitListsSpec)

end Rows
end Go.Proofs.YthdhlcicpcnbhaaGreatDoor
