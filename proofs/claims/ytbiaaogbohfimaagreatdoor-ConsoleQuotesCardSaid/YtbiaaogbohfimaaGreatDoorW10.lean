/- Parts of a proof, one behind the other: LV. -/
import Derived.Test.YtbiaaogbohfimaaGreatDoorW09
set_option maxRecDepth 20000
set_option maxHeartbeats 16000000
set_option linter.unusedVariables false
set_option linter.unusedSimpArgs false
namespace Go.Proofs.YtbiaaogbohfimaaGreatDoor
open Go.RowKit
section
def memC (l : List Nat) (f : Nat) : Bool := l.any (Nat.beq f)
def byVC : List Nat := [196, 141, 76, 78, 92, 439, 83, 401, 402, 391, 404, 403, 77, 358, 476, 459, 477, 43, 75, 74, 373, 455, 456, 217, 218, 475, 44, 152, 30, 8, 10, 50, 96, 47, 81, 90, 93, 94, 14]
def byRC : List Nat := [191, 190]
def modesC : FuncId → Nat := fun f => bif memC byVC f then 1 else bif memC byRC f then 2 else 0
def flagsC : FuncId → Bool := fun f => memC [155, 80, 454, 356, 434, 435, 453, 483, 484, 485, 85, 48, 29, 46, 49, 89, 24, 23, 20] f
noncomputable def evC (f : FuncId) (args : List MV) : Option MV := gByVal (gEv Tryz.prog tab ents conT modesC (prD flagsC) 300 60) f args
def isTC : Option MV → Bool
 | some (.bool true) => true
 | _ => false
theorem isTC_out {o : Option MV} (h : isTC o = true) : o = some (.bool true) := by
 unfold isTC at h
 split at h
 ·rfl
 ·cases h
set_option maxRecDepth 1000000 in
theorem known_ev : isTC (evC 6 []) = true := by kernel_rfl
theorem knownC_m : SemC Tryz.prog GX 6 [] (.bool true) := semC_ev seat conT_ok (by kernel_rfl) (isTC_out known_ev)
theorem consoleQuotes_core (s : List UInt8) (hs : s.length ≤ 140737488355328) (t : List UInt8) (ht : t.length ≤ 140737488355328) (words : List UInt8) (hw : words.length ≤ 140737488355328) : SemC Tryz.prog GX 3 [.str s, .str t, .sl words.length (u8s words)] (.bool true) := quotes_core knownC_m s t words hs ht hw
theorem consoleUnquotes_core (s : List UInt8) (hs : s.length ≤ 140737488355328) (l : List Int) (hl : l.length ≤ 140737488355328) : SemC Tryz.prog GX 4 [.str s, .sl l.length (l.map (MV.int .i32))] (.bool true) := unquotes_core knownC_m s l hs hl
end
end Go.Proofs.YtbiaaogbohfimaaGreatDoor
