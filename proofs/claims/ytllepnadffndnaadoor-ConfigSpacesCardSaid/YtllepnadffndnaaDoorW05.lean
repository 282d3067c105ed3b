/- Parts of a proof, one behind the other: PSpec, Rune, RuneB, Num, RSet, Iter, Decode, Words, Dec, RWords, Lines, RParse, Shelf, Read, Line, Split. -/
import Derived.Lib.OthersKept
import Derived.Laws.RangeString
import GoSem.Core.Utf8
import Derived.Lib.ItoaNum
import Derived.Lib.Builder
import Derived.Shelf.Strings.Builder1
import Derived.Shelf.Strings.BuilderF
import Derived.Shelf.Strings.BuilderK
import Derived.Shelf.Strconv.Itoa0
import Derived.Shelf.Strconv.Itoa1
import Derived.Shelf.LaysM
import Derived.Shelf.Strconv.Itoa2
import Derived.Shelf.Strconv.Itoa3
import Derived.Shelf.Strconv.Lower
import Derived.Shelf.Strconv.ParseUint10
import Derived.Shelf.Strconv.ParseUintEmpty
import Derived.Shelf.Strconv.ParseUint10b64
import Derived.Shelf.Strconv.ParseUint10b32
import Derived.Shelf.Strconv.ParseUint10b16
import Derived.Shelf.Strconv.ParseUint10b8
import Derived.Shelf.Strconv.ParseUint10At
import Derived.Ground.MpProg
import Derived.Shelf.Pu.ParseUintPublic10
import Derived.Shelf.Pu.ErrVarParseUint
import Derived.Shelf.Strings.Search1
import Derived.Shelf.Strings.Search2
import Derived.Shelf.Strings.Search3
import Derived.Shelf.Strings.Count
import Derived.Shelf.Strings.Shaped
import Derived.Shelf.Strings.Split
import Derived.Shelf.Strings.SplitShaped
import Derived.Shelf.Unicode.DecodeSlow
import Derived.Shelf.Unicode.DecodeAny
import Derived.Shelf.Strings.BuilderCap
import Derived.Test.YtllepnadffndnaaDoorProg
import Derived.Lib.AtoiErrMem
import Derived.Test.YtllepnadffndnaaDoorW04
namespace Go.Proofs.YtllepnadffndnaaDoor
def setP : MConfig → Int → MConfig
  | ⟨c0, c1, c2, c3, c4, c5, c6, c7, c8, _, c10, c11⟩, v => ⟨c0, c1, c2, c3, c4, c5, c6, c7, c8, v, c10, c11⟩
def setSpec (c : MConfig) (k : Nat) (b : Bs) : MConfig × Int :=
  if k = 8 ∧ b = [45, 49] then (setI c 8 (-1), 0) else
  match numberB b with
  | none => if digitsB b then (c, 1) else (c, 2)
  | some n => if k = 9 then (setP c n, 0) else if greatI k < n ∨ (n : Int) < leastI k then (c, 1) else (setI c k n, 0)
def keyIdx (w : Bs) : Option Nat := (List.range 12).find? fun k => nameL k == w
def lineSpec (c : MConfig) (seen : List Nat) : List Bs → Int × MConfig × List Nat
  | [a, b] => match keyIdx a with
    | none => (10, c, seen)
    | some k => if k ∈ seen then (8, c, seen) else ((setSpec c k b).2, (setSpec c k b).1, k :: seen)
  | _ => (2, c, seen)
def goSpec : List Bs → Nat → MConfig → List Nat → MConfig × Int × Int
  | [], _, c, _ => if c.self ≥ c.nodes then (zeroC, 0, 1) else (c, 0, 0)
  | l :: ls, i, c, seen => if wordsOf l = [] then goSpec ls (i + 1) c seen
    else if (lineSpec c seen (wordsOf l)).1 ≠ 0 then (zeroC, (i : Int) + 1, (lineSpec c seen (wordsOf l)).1)
    else goSpec ls (i + 1) (lineSpec c seen (wordsOf l)).2.1 (lineSpec c seen (wordsOf l)).2.2
def parseSpec (t : Bs) : MConfig × Int × Int :=
  if 4096 < t.length then (zeroC, 0, 3) else if validS t = false then (zeroC, 0, 4) else goSpec (linesOf t) 0 defC []
theorem nameL_sh (k : Nat) : (nameL k).length ≤ 12 := by
  unfold nameL
  split <;> decide
theorem keyIdx_lt {w : Bs} {k : Nat} (h : keyIdx w = some k) : k < 12 ∧ nameL k = w := by
  unfold keyIdx at h
  have h1 := List.mem_of_find?_eq_some h
  have h2 := List.find?_some h
  exact ⟨List.mem_range.1 h1, by simpa using h2⟩
theorem name_inj {j k : Nat} (hj : j < 12) (hk : k < 12) (h : nameL j = nameL k) : j = k := by
  have key : ∀ j, j < 12 → ∀ k, k < 12 → nameL j = nameL k → j = k := by decide
  exact key j hj k hk h
theorem keyIdx_name {k : Nat} (hk : k < 12) : keyIdx (nameL k) = some k := by
  have key : ∀ k, k < 12 → keyIdx (nameL k) = some k := by decide
  exact key k hk
theorem keyIdx_none {w : Bs} (h : keyIdx w = none) {k : Nat} (hk : k < 12) : nameL k ≠ w := by
  intro e
  rw [← e, keyIdx_name hk] at h
  cases h
theorem keyIdx_of {w : Bs} {k : Nat} (hk : k < 12) (h : nameL k = w) : keyIdx w = some k := by rw [← h]; exact keyIdx_name hk
section
variable {c : MConfig} {k : Nat} {b : Bs} {n : Nat}
theorem setSpec_m1 (h1 : k = 8) (h2 : b = [45, 49]) : setSpec c k b = (setI c 8 (-1), 0) := by unfold setSpec; rw [if_pos ⟨h1, h2⟩]
theorem setSpec_big (h : ¬ (k = 8 ∧ b = [45, 49])) (hn : numberB b = none) (hd : digitsB b = true) : setSpec c k b = (c, 1) := by unfold setSpec; rw [if_neg h, hn]; simp only [hd, if_true]
theorem setSpec_syn (h : ¬ (k = 8 ∧ b = [45, 49])) (hn : numberB b = none) (hd : digitsB b = false) : setSpec c k b = (c, 2) := by unfold setSpec; rw [if_neg h, hn]; simp only [hd, Bool.false_eq_true, if_false]
theorem setSpec_price (h : ¬ (k = 8 ∧ b = [45, 49])) (hn : numberB b = some n) (h9 : k = 9) : setSpec c k b = (setP c n, 0) := by unfold setSpec; rw [if_neg h, hn]; simp only [h9, if_true]
theorem setSpec_out (h : ¬ (k = 8 ∧ b = [45, 49])) (hn : numberB b = some n) (h9 : k ≠ 9) (hr : greatI k < n ∨ (n : Int) < leastI k) : setSpec c k b = (c, 1) := by unfold setSpec; rw [if_neg h, hn]; simp only [h9, if_false, hr, if_true]
theorem setSpec_ok (h : ¬ (k = 8 ∧ b = [45, 49])) (hn : numberB b = some n) (h9 : k ≠ 9) (hr : ¬ (greatI k < n ∨ (n : Int) < leastI k)) : setSpec c k b = (setI c k n, 0) := by unfold setSpec; rw [if_neg h, hn]; simp only [h9, if_false, hr]
end
theorem setSpec_err (c : MConfig) (k : Nat) (b : Bs) : (setSpec c k b).2 = 0 ∨ (setSpec c k b).2 = 1 ∨ (setSpec c k b).2 = 2 := by
  by_cases h : k = 8 ∧ b = [45, 49]
  · rw [setSpec_m1 h.1 h.2]; exact .inl rfl
  · cases hn : numberB b with
    | none =>
      cases hd : digitsB b with
      | true => rw [setSpec_big h hn hd]; exact .inr (.inl rfl)
      | false => rw [setSpec_syn h hn hd]; exact .inr (.inr rfl)
    | some n =>
      by_cases h9 : k = 9
      · rw [setSpec_price h hn h9]; exact .inl rfl
      · by_cases hr : greatI k < n ∨ (n : Int) < leastI k
        · rw [setSpec_out h hn h9 hr]; exact .inr (.inl rfl)
        · rw [setSpec_ok h hn h9 hr]; exact .inl rfl
theorem greatI_pos (k : Nat) : 0 ≤ greatI k ∧ greatI k ≤ 1125899906842624 := by
  unfold greatI
  split <;> decide
theorem leastI_range (k : Nat) : -1 ≤ leastI k ∧ leastI k ≤ 1 := by
  unfold leastI
  split <;> decide
theorem numberB_lt {b : Bs} {n : Nat} (h : numberB b = some n) : n < 18446744073709551616 ∧ digitsB b = true := by
  unfold numberB at h
  split at h
  · rename_i h2
    simp only [Bool.and_eq_true, decide_eq_true_eq] at h2
    injection h with h
    exact ⟨by omega, h2.1⟩
  · cases h
end Go.Proofs.YtllepnadffndnaaDoor
namespace Go.Proofs.YtllepnadffndnaaDoor
open Go.RowKit
theorem follow_c (s : ByteArray) (i : Nat) (hs : s.size ≤ 140737488355328) (w : World) :
    Calls Tryd.prog 84 #[.string s, .int .i64 i] w fun e w' => e = .returned (.bool (followB s.data.toList i)) ∧ Below w.heap.size w w' := by
  have hsz : s.data.toList.length = s.size := by simp
  refine calls_of_vc seat Tryd.func84 rfl rfl (Nat.le_of_ble_eq_true rfl) (N := 21) (args := [.val (.string s), .val (.int .i64 i)]) (Nat.le_of_ble_eq_true rfl) rfl (A.start w) ?_
  refine ⟨fun h => ?_, fun h => ?_⟩
  · have h0 : i < s.data.toList.length := by have := of_decide_eq_true h; omega
    refine ⟨i, _, rfl, byteAt_some h0, ?_⟩
    refine ⟨fun h1 => ?_, fun h1 => ?_⟩
    · refine ⟨i, _, rfl, byteAt_some h0, ?_⟩
      intro w' hA
      refine ⟨ret_bool ?_, hA.bel (by simp)⟩
      simp only [followB, h0, h1, decide_true, Bool.true_and]
    · intro w' hA
      refine ⟨ret_bool ?_, hA.bel (by simp)⟩
      simp only [followB, h0, h1, decide_true, Bool.true_and, Bool.false_and, Bool.not_true]
  · have h0 : ¬ i < s.data.toList.length := by have := of_decide_eq_false h; omega
    (repeat (first | refine ⟨fun _ => ?_, fun h => Bool.noConfusion h⟩ | refine ⟨fun h => Bool.noConfusion h, fun _ => ?_⟩ | refine ⟨_, wrap_in _ (by omega) (by omega), ?_⟩ | refine ⟨_, wrapu_in _ (by omega) (by omega), ?_⟩ | refine ⟨_, wrap8_in _ (by omega) (by omega), ?_⟩ | refine ⟨_, rfl, ?_⟩ | refine ⟨rfl, ?_⟩))
    intro w' hA
    refine ⟨ret_bool ?_, hA.bel (by simp)⟩
    simp only [followB, h0, decide_false, Bool.false_and]
set_option maxHeartbeats 4000000 in
theorem rune_c (s : ByteArray) (i : Nat) (hs : s.size ≤ 140737488355328) (hi : i < s.data.toList.length) (w : World) :
    Calls Tryd.prog 68 #[.string s, .int .i64 i] w fun e w' => e = .returned (.int .i64 (runeAt s.data.toList i)) ∧ Below w.heap.size w w' := by
  have hsz : s.data.toList.length = s.size := by simp
  unfold runeAt
  have hi0 := byteAt_some hi
  have hc : ∃ c : Int, ((byteAt s.data.toList i).toNat : Int) = c ∧ 0 ≤ c ∧ c < 256 := ⟨_, rfl, by omega, by have := (byteAt s.data.toList i).toNat_lt; omega⟩
  have f1 := follow_c s (i + 1) hs
  have f2 := follow_c s (i + 2) hs
  have f3 := follow_c s (i + 3) hs
  have d1 : followB s.data.toList (i + 1) = true → s.data.toList[i + 1]? = some (byteAt s.data.toList (i + 1)) := fun h => byteAt_some (followB_lt h)
  generalize followB s.data.toList (i + 1) = b1 at f1 d1 ⊢
  generalize followB s.data.toList (i + 2) = b2 at f2 ⊢
  generalize followB s.data.toList (i + 3) = b3 at f3 ⊢
  generalize byteAt s.data.toList (i + 1) = d at d1 ⊢
  generalize byteAt s.data.toList i = c0 at hi0 hc ⊢
  obtain ⟨c, hc0, hc1, hc2⟩ := hc
  obtain ⟨dd, hd0⟩ : ∃ dd : Int, (d.toNat : Int) = dd := ⟨_, rfl⟩
  rw [hc0, hd0]
  have cls : c < 128 ∨ 128 ≤ c ∧ c < 194 ∨ 194 ≤ c ∧ c < 224 ∨ 224 ≤ c ∧ c < 240 ∨ 240 ≤ c ∧ c < 245 ∨ 245 ≤ c := by omega
  rcases cls with hcl | hcl | hcl | hcl | hcl | hcl
  case inr.inr.inl =>
    cases b1
    all_goals
      refine calls_of_vc seat Tryd.func68 rfl rfl (Nat.le_of_ble_eq_true rfl) (N := 109) (args := [.val (.string s), .val (.int .i64 i)]) (Nat.le_of_ble_eq_true rfl) rfl (A.start w) ?_
      refine ⟨i, c0, rfl, hi0, ?_⟩
      rw [hc0]
      repeat' (first
        | refine ⟨fun _ => ?_, fun h => Bool.noConfusion h⟩
        | refine ⟨fun h => Bool.noConfusion h, fun _ => ?_⟩
        | refine ⟨fun _ => ?_, fun h => absurd h (by first | (simp; done) | (simp; omega))⟩
        | refine ⟨fun h => absurd h (by first | (simp; done) | (simp; omega)), fun _ => ?_⟩
        | (refine ⟨((i + 1 : Nat) : Int), wrap_in _ (by omega) (by omega), ?_⟩; first | (intro w1 hA; refine (f1 w1).mono ?_; rintro e w2 ⟨rfl, hb⟩; refine ⟨.val _, _, _, rfl, hA.below' hb, ?_⟩; clear hA hb) | (refine ⟨i + 1, d, rfl, d1 rfl, ?_⟩; rw [hd0]))
        | (refine ⟨((i + 2 : Nat) : Int), wrap_in _ (by omega) (by omega), ?_⟩; (intro w1 hA; refine (f2 w1).mono ?_; rintro e w2 ⟨rfl, hb⟩; refine ⟨.val _, _, _, rfl, hA.below' hb, ?_⟩; clear hA hb))
        | (refine ⟨((i + 3 : Nat) : Int), wrap_in _ (by omega) (by omega), ?_⟩; (intro w1 hA; refine (f3 w1).mono ?_; rintro e w2 ⟨rfl, hb⟩; refine ⟨.val _, _, _, rfl, hA.below' hb, ?_⟩; clear hA hb))
        | refine ⟨fun h => ?_, fun h => ?_⟩
        | fail)
      all_goals
        intro w' hA
        refine ⟨ret_int ?_, hA.bel (by simp)⟩
        clear hA f1 f2 f3 d1 hi0 hsz
        unfold runeI
        repeat' split
        all_goals first | rfl | (exfalso; first | (simp at *; done) | (simp at *; omega))
  case inr.inr.inr.inl =>
    cases b1 <;> cases b2
    all_goals
      refine calls_of_vc seat Tryd.func68 rfl rfl (Nat.le_of_ble_eq_true rfl) (N := 109) (args := [.val (.string s), .val (.int .i64 i)]) (Nat.le_of_ble_eq_true rfl) rfl (A.start w) ?_
      refine ⟨i, c0, rfl, hi0, ?_⟩
      rw [hc0]
      repeat' (first
        | refine ⟨fun _ => ?_, fun h => Bool.noConfusion h⟩
        | refine ⟨fun h => Bool.noConfusion h, fun _ => ?_⟩
        | refine ⟨fun _ => ?_, fun h => absurd h (by first | (simp; done) | (simp; omega))⟩
        | refine ⟨fun h => absurd h (by first | (simp; done) | (simp; omega)), fun _ => ?_⟩
        | (refine ⟨((i + 1 : Nat) : Int), wrap_in _ (by omega) (by omega), ?_⟩; first | (intro w1 hA; refine (f1 w1).mono ?_; rintro e w2 ⟨rfl, hb⟩; refine ⟨.val _, _, _, rfl, hA.below' hb, ?_⟩; clear hA hb) | (refine ⟨i + 1, d, rfl, d1 rfl, ?_⟩; rw [hd0]))
        | (refine ⟨((i + 2 : Nat) : Int), wrap_in _ (by omega) (by omega), ?_⟩; (intro w1 hA; refine (f2 w1).mono ?_; rintro e w2 ⟨rfl, hb⟩; refine ⟨.val _, _, _, rfl, hA.below' hb, ?_⟩; clear hA hb))
        | (refine ⟨((i + 3 : Nat) : Int), wrap_in _ (by omega) (by omega), ?_⟩; (intro w1 hA; refine (f3 w1).mono ?_; rintro e w2 ⟨rfl, hb⟩; refine ⟨.val _, _, _, rfl, hA.below' hb, ?_⟩; clear hA hb))
        | refine ⟨fun h => ?_, fun h => ?_⟩
        | fail)
      all_goals
        intro w' hA
        refine ⟨ret_int ?_, hA.bel (by simp)⟩
        clear hA f1 f2 f3 d1 hi0 hsz
        unfold runeI
        repeat' split
        all_goals first | rfl | (exfalso; first | (simp at *; done) | (simp at *; omega))
  case inr.inr.inr.inr.inl =>
    cases b1 <;> cases b2 <;> cases b3
    all_goals
      refine calls_of_vc seat Tryd.func68 rfl rfl (Nat.le_of_ble_eq_true rfl) (N := 109) (args := [.val (.string s), .val (.int .i64 i)]) (Nat.le_of_ble_eq_true rfl) rfl (A.start w) ?_
      refine ⟨i, c0, rfl, hi0, ?_⟩
      rw [hc0]
      repeat' (first
        | refine ⟨fun _ => ?_, fun h => Bool.noConfusion h⟩
        | refine ⟨fun h => Bool.noConfusion h, fun _ => ?_⟩
        | refine ⟨fun _ => ?_, fun h => absurd h (by first | (simp; done) | (simp; omega))⟩
        | refine ⟨fun h => absurd h (by first | (simp; done) | (simp; omega)), fun _ => ?_⟩
        | (refine ⟨((i + 1 : Nat) : Int), wrap_in _ (by omega) (by omega), ?_⟩; first | (intro w1 hA; refine (f1 w1).mono ?_; rintro e w2 ⟨rfl, hb⟩; refine ⟨.val _, _, _, rfl, hA.below' hb, ?_⟩; clear hA hb) | (refine ⟨i + 1, d, rfl, d1 rfl, ?_⟩; rw [hd0]))
        | (refine ⟨((i + 2 : Nat) : Int), wrap_in _ (by omega) (by omega), ?_⟩; (intro w1 hA; refine (f2 w1).mono ?_; rintro e w2 ⟨rfl, hb⟩; refine ⟨.val _, _, _, rfl, hA.below' hb, ?_⟩; clear hA hb))
        | (refine ⟨((i + 3 : Nat) : Int), wrap_in _ (by omega) (by omega), ?_⟩; (intro w1 hA; refine (f3 w1).mono ?_; rintro e w2 ⟨rfl, hb⟩; refine ⟨.val _, _, _, rfl, hA.below' hb, ?_⟩; clear hA hb))
        | refine ⟨fun h => ?_, fun h => ?_⟩
        | fail)
      all_goals
        intro w' hA
        refine ⟨ret_int ?_, hA.bel (by simp)⟩
        clear hA f1 f2 f3 d1 hi0 hsz
        unfold runeI
        repeat' split
        all_goals first | rfl | (exfalso; first | (simp at *; done) | (simp at *; omega))
  all_goals
    refine calls_of_vc seat Tryd.func68 rfl rfl (Nat.le_of_ble_eq_true rfl) (N := 109) (args := [.val (.string s), .val (.int .i64 i)]) (Nat.le_of_ble_eq_true rfl) rfl (A.start w) ?_
    refine ⟨i, c0, rfl, hi0, ?_⟩
    rw [hc0]
    repeat' (first
      | refine ⟨fun _ => ?_, fun h => Bool.noConfusion h⟩
      | refine ⟨fun h => Bool.noConfusion h, fun _ => ?_⟩
      | refine ⟨fun _ => ?_, fun h => absurd h (by first | (simp; done) | (simp; omega))⟩
      | refine ⟨fun h => absurd h (by first | (simp; done) | (simp; omega)), fun _ => ?_⟩
      | (refine ⟨((i + 1 : Nat) : Int), wrap_in _ (by omega) (by omega), ?_⟩; first | (intro w1 hA; refine (f1 w1).mono ?_; rintro e w2 ⟨rfl, hb⟩; refine ⟨.val _, _, _, rfl, hA.below' hb, ?_⟩; clear hA hb) | (refine ⟨i + 1, d, rfl, d1 rfl, ?_⟩; rw [hd0]))
      | (refine ⟨((i + 2 : Nat) : Int), wrap_in _ (by omega) (by omega), ?_⟩; (intro w1 hA; refine (f2 w1).mono ?_; rintro e w2 ⟨rfl, hb⟩; refine ⟨.val _, _, _, rfl, hA.below' hb, ?_⟩; clear hA hb))
      | (refine ⟨((i + 3 : Nat) : Int), wrap_in _ (by omega) (by omega), ?_⟩; (intro w1 hA; refine (f3 w1).mono ?_; rintro e w2 ⟨rfl, hb⟩; refine ⟨.val _, _, _, rfl, hA.below' hb, ?_⟩; clear hA hb))
      | refine ⟨fun h => ?_, fun h => ?_⟩
      | fail)
    all_goals
      intro w' hA
      refine ⟨ret_int ?_, hA.bel (by simp)⟩
      clear hA f1 f2 f3 d1 hi0 hsz
      unfold runeI
      repeat' split
      all_goals first | rfl | (exfalso; first | (simp at *; done) | (simp at *; omega))
end Go.Proofs.YtllepnadffndnaaDoor
namespace Go.Proofs.YtllepnadffndnaaDoor
open Go.RowKit
theorem str_eq (s : ByteArray) (a : Array UInt8) : (s.toList == (⟨a⟩ : ByteArray).toList) = (s.data.toList == a.toList) := by
  rw [ByteArray.toList_eq, ByteArray.toList_eq]
theorem str_len (s : ByteArray) : s.data.toList.length = s.size := by simp
theorem drop_ne {l : Bs} {i : Nat} (h : i < l.length) : l.drop i ≠ [] := by
  intro e
  have := congrArg List.length e
  simp at this
  omega
theorem runes_c (s : ByteArray) (hs : s.size ≤ 140737488355328) (w : World) :
    Calls Tryd.prog 55 #[.string s] w fun e w' => ∃ n : Int, e = .returned (.tuple #[.int .i64 n, .bool (validS s.data.toList)]) ∧ Below w.heap.size w w' := by
  have hsz := str_len s
  generalize hl : s.data.toList = l at *
  refine calls_of_vc seat Tryd.func55 rfl rfl (Nat.le_of_ble_eq_true rfl) (N := 22) (args := [.val (.string s)]) (Nat.le_of_ble_eq_true rfl) rfl (A.start w) ?_
  refine ⟨Nat × Nat, fun x => [(5, .val (.int .i64 x.1)), (4, .val (.int .i64 x.2)), (0, .val (.string s))], fun _ => [], fun _ => [(w, fun _ => False)], fun x => x.1 ≤ l.length ∧ x.2 ≤ x.1 ∧ validS (l.drop x.1) = validS l, fun x => l.length - x.1, ?_, ?_⟩
  · intro w1 hA
    exact ⟨(0, 0), ⟨by omega, by omega, rfl⟩, ⟨⟨_, rfl, rfl⟩, ⟨_, rfl, rfl⟩, ⟨_, rfl, rfl⟩, trivial⟩, hA⟩
  rintro ⟨i, n⟩ ⟨hi, hn, hv⟩
  have hi : i ≤ l.length := hi
  have hn : n ≤ i := hn
  have hv : validS (l.drop i) = validS l := hv
  refine ⟨fun h => ?_, fun h => ?_⟩
  · have h : i < l.length := by have := of_decide_eq_true h; omega
    intro w1 hA
    refine (rune_c s i hs (by rw [hl]; exact h) w1).mono ?_
    rintro e w2 ⟨rfl, hb⟩
    rw [hl, runeAt_nat]
    refine ⟨.val _, _, _, rfl, hA.below' hb, ?_⟩
    have hle := runeLen_le (drop_ne h)
    rw [List.length_drop] at hle
    have hbad := @validS_bad _ (drop_ne h)
    have hstep := @validS_step _ (drop_ne h)
    rw [List.drop_drop] at hstep
    generalize runeLen (l.drop i) = k at *
    refine ⟨fun h0 => ?_, fun h0 => ?_⟩
    · have h0 : k = 0 := by have := eq_of_beq h0; omega
      intro w' hA
      refine ⟨0, ?_, hA.bel (by simp)⟩
      rw [← hv, hbad h0]; rfl
    · have h0 : k ≠ 0 := by have := ne_of_beq_false h0; omega
      refine ⟨((i + k : Nat) : Int), wrap_in _ (by omega) (by omega), ?_⟩
      refine ⟨((n + 1 : Nat) : Int), wrap_in _ (by omega) (by omega), ?_⟩
      intro w' hA
      exact ⟨(i + k, n + 1), ⟨by show i + k ≤ _; omega, by show n + 1 ≤ i + k; omega, by rw [← hv, hstep h0]⟩, by show l.length - (i + k) < l.length - i; omega, ⟨⟨_, rfl, rfl⟩, ⟨_, rfl, rfl⟩, ⟨_, rfl, rfl⟩, trivial⟩, hA⟩
  · have h : ¬ i < l.length := by have := of_decide_eq_false h; omega
    intro w' hA
    refine ⟨n, ?_, hA.bel (by simp)⟩
    rw [← hv, List.drop_of_length_le (by omega), validS_nil]; rfl
theorem space_c (s : ByteArray) (w : World) :
    Calls Tryd.prog 69 #[.string s] w fun e w' => e = .returned (.bool (spaceB s.data.toList)) ∧ Below w.heap.size w w' := by
  refine calls_of_vc seat Tryd.func69 rfl rfl (Nat.le_of_ble_eq_true rfl) (N := 21) (args := [.val (.string s)]) (Nat.le_of_ble_eq_true rfl) rfl (A.start w) ?_
  refine ⟨fun h1 => ?_, fun h1 => ?_⟩
  · rw [str_eq] at h1
    refine ⟨fun h2 => ?_, fun h2 => ?_⟩
    · rw [str_eq] at h2
      refine ⟨fun h3 => ?_, fun h3 => ?_⟩
      · rw [str_eq] at h3
        refine ⟨fun h4 => ?_, fun h4 => ?_⟩
        · rw [str_eq] at h4
          intro w' hA
          refine ⟨ret_bool ?_, hA.bel (by simp)⟩
          rw [str_eq]
          simp only [spaceB, h1, h2, h3, h4, Bool.false_or]
        · rw [str_eq] at h4
          intro w' hA
          refine ⟨ret_bool ?_, hA.bel (by simp)⟩
          simp only [spaceB, h4, Bool.or_true, Bool.true_or, Bool.not_false]
      · rw [str_eq] at h3
        (repeat (first | refine ⟨fun _ => ?_, fun h => Bool.noConfusion h⟩ | refine ⟨fun h => Bool.noConfusion h, fun _ => ?_⟩ | refine ⟨_, wrap_in _ (by omega) (by omega), ?_⟩ | refine ⟨_, wrapu_in _ (by omega) (by omega), ?_⟩ | refine ⟨_, wrap8_in _ (by omega) (by omega), ?_⟩ | refine ⟨_, rfl, ?_⟩ | refine ⟨rfl, ?_⟩))
        intro w' hA
        refine ⟨ret_bool ?_, hA.bel (by simp)⟩
        simp only [spaceB, h3, Bool.or_true, Bool.true_or, Bool.not_false]
    · rw [str_eq] at h2
      (repeat (first | refine ⟨fun _ => ?_, fun h => Bool.noConfusion h⟩ | refine ⟨fun h => Bool.noConfusion h, fun _ => ?_⟩ | refine ⟨_, wrap_in _ (by omega) (by omega), ?_⟩ | refine ⟨_, wrapu_in _ (by omega) (by omega), ?_⟩ | refine ⟨_, wrap8_in _ (by omega) (by omega), ?_⟩ | refine ⟨_, rfl, ?_⟩ | refine ⟨rfl, ?_⟩))
      intro w' hA
      refine ⟨ret_bool ?_, hA.bel (by simp)⟩
      simp only [spaceB, h2, Bool.or_true, Bool.true_or, Bool.not_false]
  · rw [str_eq] at h1
    (repeat (first | refine ⟨fun _ => ?_, fun h => Bool.noConfusion h⟩ | refine ⟨fun h => Bool.noConfusion h, fun _ => ?_⟩ | refine ⟨_, wrap_in _ (by omega) (by omega), ?_⟩ | refine ⟨_, wrapu_in _ (by omega) (by omega), ?_⟩ | refine ⟨_, wrap8_in _ (by omega) (by omega), ?_⟩ | refine ⟨_, rfl, ?_⟩ | refine ⟨rfl, ?_⟩))
    intro w' hA
    refine ⟨ret_bool ?_, hA.bel (by simp)⟩
    simp only [spaceB, h1, Bool.true_or, Bool.not_false]
theorem take_all {l : Bs} {p : UInt8 → Bool} {i : Nat} (h : i < l.length) : (l.take (i + 1)).all p = ((l.take i).all p && p (byteAt l i)) := by
  rw [List.take_add_one, byteAt_some h]
  simp
theorem all_false {l : Bs} {p : UInt8 → Bool} {i : Nat} (h : i < l.length) (h2 : p (byteAt l i) = false) : l.all p = false := by
  rw [List.all_eq_false]
  refine ⟨byteAt l i, ?_, by simp [h2]⟩
  have := byteAt_some h
  exact List.mem_of_getElem? this
theorem u8eq (c d : UInt8) : (((c.toNat : Int) == (d.toNat : Int)) = (c == d)) := by
  rw [Bool.eq_iff_iff]
  simp only [beq_iff_eq]
  constructor
  · intro h
    exact UInt8.toNat_inj.1 (by omega)
  · rintro rfl; rfl
theorem digits_c (s : ByteArray) (hs : s.size ≤ 140737488355328) (w : World) :
    Calls Tryd.prog 71 #[.string s] w fun e w' => e = .returned (.bool (digitsB s.data.toList)) ∧ Below w.heap.size w w' := by
  have hsz := str_len s
  have hemp := str_eq s #[]
  generalize hl : s.data.toList = l at *
  refine calls_of_vc seat Tryd.func71 rfl rfl (Nat.le_of_ble_eq_true rfl) (N := 32) (args := [.val (.string s)]) (Nat.le_of_ble_eq_true rfl) rfl (A.start w) ?_
  refine ⟨Nat, fun i => [(3, .val (.int .i64 i)), (0, .val (.string s))], fun _ => [], fun _ => [(w, fun _ => False)], fun i => i ≤ l.length ∧ (l.take i).all digitB = true, fun i => l.length - i, ?_, ?_⟩
  · intro w1 hA
    exact ⟨0, ⟨by omega, rfl⟩, ⟨⟨_, rfl, rfl⟩, ⟨_, rfl, rfl⟩, trivial⟩, hA⟩
  rintro i ⟨hi, hall⟩
  refine ⟨fun h => ?_, fun h => ?_⟩
  · have h : i < l.length := by have := of_decide_eq_true h; omega
    have hc := byteAt_some h
    rw [← hl] at hc
    have hbad : digitB (byteAt l i) = false → digitsB l = false := fun e => by simp [digitsB, all_false h e]
    have hgood : digitB (byteAt l i) = true → (l.take (i + 1)).all digitB = true := fun e => by rw [take_all h, hall, e]; rfl
    rw [hl] at hc
    have hdg : digitB (byteAt l i) = !(decide (((byteAt l i).toNat : Int) < 48) || decide (57 < ((byteAt l i).toNat : Int))) := rfl
    generalize byteAt l i = c at *
    refine ⟨i, c, rfl, by rw [hl]; exact hc, ?_⟩
    refine ⟨fun h1 => ?_, fun h1 => ?_⟩
    · refine ⟨i, c, rfl, by rw [hl]; exact hc, ?_⟩
      refine ⟨fun h2 => ?_, fun h2 => ?_⟩
      · intro w' hA
        refine ⟨ret_bool ?_, hA.bel (by simp)⟩
        rw [hbad (by rw [hdg, h2]; simp)]
      · refine ⟨((i + 1 : Nat) : Int), wrap_in _ (by omega) (by omega), ?_⟩
        intro w' hA
        exact ⟨i + 1, ⟨by omega, hgood (by rw [hdg, h1, h2]; rfl)⟩, by show l.length - (i + 1) < l.length - i; omega, ⟨⟨_, rfl, rfl⟩, ⟨_, rfl, rfl⟩, trivial⟩, hA⟩
    · (repeat (first | refine ⟨fun _ => ?_, fun h => Bool.noConfusion h⟩ | refine ⟨fun h => Bool.noConfusion h, fun _ => ?_⟩ | refine ⟨_, wrap_in _ (by omega) (by omega), ?_⟩ | refine ⟨_, wrapu_in _ (by omega) (by omega), ?_⟩ | refine ⟨_, wrap8_in _ (by omega) (by omega), ?_⟩ | refine ⟨_, rfl, ?_⟩ | refine ⟨rfl, ?_⟩))
      intro w' hA
      refine ⟨ret_bool ?_, hA.bel (by simp)⟩
      rw [hbad (by rw [hdg, h1]; simp)]
  · have h : ¬ i < l.length := by have := of_decide_eq_false h; omega
    have hall : l.all digitB = true := by rw [List.take_of_length_le (by omega)] at hall; exact hall
    refine ⟨fun h1 => ?_, fun h1 => ?_⟩
    · have h1 : l ≠ [] := by rw [hemp] at h1; simpa using h1
      refine ⟨fun h2 => ?_, fun h2 => ?_⟩
      · have hp : 0 < l.length := List.length_pos_iff.2 h1
        refine ⟨0, _, rfl, by rw [hl]; exact byteAt_some hp, ?_⟩
        have h2 : l.length ≠ 1 := by have := ne_of_beq_false h2; omega
        intro w' hA
        refine ⟨ret_bool ?_, hA.bel (by simp)⟩
        have : l.isEmpty = false := by simpa using h1
        have h3 : (l.length == 1) = false := by simpa using h2
        have e := u8eq (byteAt l 0) 48
        have e2 : (((byteAt l 0).toNat : Int) != 48) = !((byteAt l 0) == 48) := by rw [← e]; rfl
        rw [e2]
        simp only [digitsB, hall, this, h3]
        simp
      · have h2 : l.length = 1 := by have := eq_of_beq h2; omega
        (repeat (first | refine ⟨fun _ => ?_, fun h => Bool.noConfusion h⟩ | refine ⟨fun h => Bool.noConfusion h, fun _ => ?_⟩ | refine ⟨_, wrap_in _ (by omega) (by omega), ?_⟩ | refine ⟨_, wrapu_in _ (by omega) (by omega), ?_⟩ | refine ⟨_, wrap8_in _ (by omega) (by omega), ?_⟩ | refine ⟨_, rfl, ?_⟩ | refine ⟨rfl, ?_⟩))
        intro w' hA
        refine ⟨ret_bool ?_, hA.bel (by simp)⟩
        have : l.isEmpty = false := by simpa using h1
        simp [digitsB, hall, this, h2]
    · have h1 : l = [] := by rw [hemp] at h1; simpa using h1
      (repeat (first | refine ⟨fun _ => ?_, fun h => Bool.noConfusion h⟩ | refine ⟨fun h => Bool.noConfusion h, fun _ => ?_⟩ | refine ⟨_, wrap_in _ (by omega) (by omega), ?_⟩ | refine ⟨_, wrapu_in _ (by omega) (by omega), ?_⟩ | refine ⟨_, wrap8_in _ (by omega) (by omega), ?_⟩ | refine ⟨_, rfl, ?_⟩ | refine ⟨rfl, ?_⟩))
      intro w' hA
      refine ⟨ret_bool ?_, hA.bel (by simp)⟩
      simp [digitsB, h1]
theorem ba_beq {x y : ByteArray} (h : (x == y) = true) : x = y := by
  rw [beq_toListBytes, ByteArray.toList_eq, ByteArray.toList_eq] at h
  have h := eq_of_beq h
  apply ByteArray.ext
  exact Array.toList_inj.1 h
theorem ba_refl (x : ByteArray) : (x == x) = true := by
  rw [beq_toListBytes]; simp
theorem index_c (a : Option Addr) (c : Nat) (xs : List ByteArray) (s : ByteArray) (w : World) {S : Fp} (hL : Sl Rp.str w S a xs) :
    Calls Tryd.prog 57 #[.slice a xs.length c, .string s] w fun e w' => ∃ r : Int, e = .returned (.int .i64 r) ∧ ((r = -1 ∧ ∀ k : Nat, xs[k]? ≠ some s) ∨ ∃ k : Nat, r = k ∧ k < xs.length ∧ xs[k]? = some s ∧ ∀ j : Nat, j < k → xs[j]? ≠ some s) ∧ Below w.heap.size w w' := by
  have hle := hL.1
  refine calls_of_vc seat Tryd.func57 rfl rfl (Nat.le_of_ble_eq_true rfl) (N := 19) (args := [.val (.slice a xs.length c), .val (.string s)]) (Nat.le_of_ble_eq_true rfl) rfl (A.start w) ?_
  refine ⟨Nat, fun k => [(9, .val (.int .i64 k)), (8, .val (.int .i64 xs.length)), (7, .val (.slice a xs.length c)), (1, .val (.string s))], fun _ => [], fun _ => [(w, fun _ => False)], fun k => k ≤ xs.length ∧ ∀ j : Nat, j < k → xs[j]? ≠ some s, fun k => xs.length - k, ?_, ?_⟩
  · intro w1 hA
    exact ⟨0, ⟨by omega, fun j hj => by omega⟩, ⟨⟨_, rfl, rfl⟩, ⟨_, rfl, rfl⟩, ⟨_, rfl, rfl⟩, ⟨_, rfl, rfl⟩, trivial⟩, hA⟩
  rintro k ⟨hk, hno⟩
  refine ⟨fun h => ?_, fun h => ?_⟩
  · have h : k < xs.length := by have := of_decide_eq_true h; omega
    obtain ⟨b, o, cs, rfl, _, hr, hat, _, _⟩ := hL.get 1 rfl (i := k) h
    obtain ⟨hc, _⟩ : cs = [.string xs[k]] ∧ _ := hr
    subst hc
    have hx := List.getElem?_eq_getElem h
    generalize xs[k] = x at hx hat
    refine ⟨b, o, k, rfl, rfl, h, ?_⟩
    refine ⟨.string x, fun w' hA => ld1 seat.tab rfl rfl hat (j := 0) rfl (by omega) (hA.bel (by simp)), ?_⟩
    refine ⟨fun h1 => ?_, fun h1 => ?_⟩
    · rw [← beq_toListBytes] at h1
      have h1 := ba_beq h1
      intro w' hA
      exact ⟨k, rfl, .inr ⟨k, rfl, h, by rw [hx, h1], hno⟩, hA.bel (by simp)⟩
    · rw [← beq_toListBytes] at h1
      have h1 : x ≠ s := by rintro rfl; simp [ba_refl] at h1
      refine ⟨((k + 1 : Nat) : Int), wrap_in _ (by omega) (by omega), ?_⟩
      intro w' hA
      refine ⟨k + 1, ⟨by omega, fun j hj => ?_⟩, by show xs.length - (k + 1) < xs.length - k; omega, ⟨⟨_, rfl, rfl⟩, ⟨_, rfl, rfl⟩, ⟨_, rfl, rfl⟩, ⟨_, rfl, rfl⟩, trivial⟩, hA⟩
      by_cases e : j = k
      · subst e; rw [hx]; intro e; exact h1 (Option.some.inj e)
      · exact hno j (by omega)
  · have h : ¬ k < xs.length := by have := of_decide_eq_false h; omega
    intro w' hA
    refine ⟨-1, rfl, .inl ⟨rfl, fun j => ?_⟩, hA.bel (by simp)⟩
    by_cases e : j < k
    · exact hno j e
    · rw [List.getElem?_eq_none (by omega)]; simp
theorem add_c (a b : Int) (ha : InU64 a) (hb0 : InU64 b) (w : World) :
    Calls Tryd.prog 86 #[.int .u64 a, .int .u64 b] w fun e w' => e = .returned (.tuple (if a + b < 18446744073709551616 then #[.int .u64 (a + b), .bool true] else #[.int .u64 0, .bool false])) ∧ Below w.heap.size w w' := by
  obtain ⟨a0, a1⟩ := ha
  obtain ⟨b0, b1⟩ := hb0
  refine calls_of_vc seat Tryd.func86 rfl rfl (Nat.le_of_ble_eq_true rfl) (N := 13) (args := [.val (.int .u64 a), .val (.int .u64 b)]) (Nat.le_of_ble_eq_true rfl) rfl (A.start w) ?_
  refine ⟨_, wrapu_in _ (by omega) (by omega), ?_⟩
  refine ⟨fun h => ?_, fun h => ?_⟩
  · have h := of_decide_eq_true h
    intro w' hA
    refine ⟨?_, hA.bel (by simp)⟩
    rw [if_neg (by omega)]; rfl
  · have h := of_decide_eq_false h
    refine ⟨_, wrapu_in _ (by omega) (by omega), ?_⟩
    intro w' hA
    refine ⟨?_, hA.bel (by simp)⟩
    rw [if_pos (by omega)]; rfl
theorem mul10_c (a : Int) (ha : InU64 a) (w : World) :
    Calls Tryd.prog 85 #[.int .u64 a, .int .u64 10] w fun e w' => e = .returned (.tuple (if a * 10 < 18446744073709551616 then #[.int .u64 (a * 10), .bool true] else #[.int .u64 0, .bool false])) ∧ Below w.heap.size w w' := by
  obtain ⟨a0, a1⟩ := ha
  refine calls_of_vc seat Tryd.func85 rfl rfl (Nat.le_of_ble_eq_true rfl) (N := 17) (args := [.val (.int .u64 a), .val (.int .u64 10)]) (Nat.le_of_ble_eq_true rfl) rfl (A.start w) ?_
  refine ⟨fun h => ?_, fun h => ?_⟩
  · have h : a ≠ 0 := by simpa using h
    have hd : (18446744073709551615 : Int).tdiv a = 18446744073709551615 / a := Int.tdiv_eq_ediv_of_nonneg (by decide)
    have hq : 10 ≤ 18446744073709551615 / a ↔ 10 * a ≤ 18446744073709551615 := Int.le_ediv_iff_mul_le (by omega)
    have hq0 : 0 ≤ 18446744073709551615 / a := Int.ediv_nonneg (by decide) a0
    have hq1 : 18446744073709551615 / a ≤ 18446744073709551615 := Int.ediv_le_self _ (by decide)
    refine ⟨h, 18446744073709551615 / a, by rw [hd]; exact wrapu_in _ hq0 (by omega), ?_⟩
    generalize 18446744073709551615 / a = q at *
    refine ⟨fun h1 => ?_, fun h1 => ?_⟩
    · have h1 := of_decide_eq_true h1
      intro w' hA
      refine ⟨?_, hA.bel (by simp)⟩
      rw [if_neg (by omega)]; rfl
    · have h1 := of_decide_eq_false h1
      refine ⟨_, wrapu_in _ (by omega) (by omega), ?_⟩
      intro w' hA
      refine ⟨?_, hA.bel (by simp)⟩
      rw [if_pos (by omega)]; rfl
  · have h : a = 0 := by simpa using h
    subst h
    (repeat (first | refine ⟨fun _ => ?_, fun h => Bool.noConfusion h⟩ | refine ⟨fun h => Bool.noConfusion h, fun _ => ?_⟩ | refine ⟨_, wrap_in _ (by omega) (by omega), ?_⟩ | refine ⟨_, wrapu_in _ (by omega) (by omega), ?_⟩ | refine ⟨_, wrap8_in _ (by omega) (by omega), ?_⟩ | refine ⟨_, rfl, ?_⟩ | refine ⟨rfl, ?_⟩))
    intro w' hA
    exact ⟨rfl, hA.bel (by simp)⟩
end Go.Proofs.YtllepnadffndnaaDoor
namespace Go.Proofs.YtllepnadffndnaaDoor
open Go.RowKit
theorem decVal_snoc (l : Bs) (c : UInt8) : decVal (l ++ [c]) = decVal l * 10 + (c.toNat - 48) := by simp [decVal]
theorem take_snoc {l : Bs} {i : Nat} (h : i < l.length) : l.take (i + 1) = l.take i ++ [byteAt l i] := by
  rw [List.take_add_one, byteAt_some h]; rfl
theorem decVal_mono (l r : Bs) : decVal l ≤ decVal (l ++ r) := by
  have key : ∀ (r : Bs) (a b : Nat), a ≤ b → a ≤ r.foldl (fun a c => a * 10 + (c.toNat - 48)) b := by
    intro r
    induction r with
    | nil => intro a b h; exact h
    | cons c r ih => intro a b h; exact ih a _ (show a ≤ b * 10 + (c.toNat - 48) by omega)
  unfold decVal
  rw [List.foldl_append]
  exact key r _ _ (Nat.le_refl _)
theorem decVal_take (l : Bs) (i : Nat) : decVal (l.take i) ≤ decVal l := by
  have := decVal_mono (l.take i) (l.drop i)
  rwa [List.take_append_drop] at this
def numTup : Option Nat → Array Value
  | some n => #[.int .u64 n, .bool true]
  | none => #[.int .u64 0, .bool false]
set_option maxHeartbeats 1000000 in
theorem number16_c (s : ByteArray) (hs : s.size ≤ 140737488355328) (w : World) :
    Calls Tryd.prog 70 #[.string s, .int .u64 18446744073709551615] w fun e w' => e = .returned (.tuple (numTup (numberB s.data.toList))) ∧ Below w.heap.size w w' := by
  have hsz := str_len s
  have hemp := str_eq s #[]
  generalize hl : s.data.toList = l at *
  have bad : digitsB l = false → numberB l = none := fun h => by simp [numberB, h]
  have big : 18446744073709551616 ≤ decVal l → numberB l = none := fun h => by
    have : ¬ decVal l < 18446744073709551616 := by omega
    simp [numberB, this]
  refine calls_of_vc seat Tryd.func70 rfl rfl (Nat.le_of_ble_eq_true rfl) (N := 66) (args := [.val (.string s), .val (.int .u64 18446744073709551615)]) (Nat.le_of_ble_eq_true rfl) rfl (A.start w) ?_
  have start : (s.toList == (⟨#[]⟩ : ByteArray).toList) = true ∨ (s.toList == (⟨#[]⟩ : ByteArray).toList) = false := by cases (s.toList == (⟨#[]⟩ : ByteArray).toList) <;> simp
  refine ⟨fun h1 => ?_, fun h1 => ?_⟩
  · have h1 : l ≠ [] := by rw [hemp] at h1; simpa using h1
    have hp : 0 < l.length := List.length_pos_iff.2 h1
    have hie : l.isEmpty = false := by simpa using h1
    have main : ¬ (1 < l.length ∧ byteAt l 0 = 48) → (l.all digitB = true → digitsB l = true) := by
      intro h h2
      have : l.length = 1 ∨ byteAt l 0 ≠ 48 := by
        by_cases e : l.length = 1
        · exact .inl e
        · exact .inr fun e2 => h ⟨by omega, e2⟩
      rcases this with e | e
      · simp [digitsB, h2, hie, e]
      · simp [digitsB, h2, hie, e]
    have rest : ∀ (E : Env), ¬ (1 < l.length ∧ byteAt l 0 = 48) → True := fun _ _ => trivial
    have loop : ¬ (1 < l.length ∧ byteAt l 0 = 48) → True := fun _ => trivial
    refine ⟨fun h2 => ?_, fun h2 => ?_⟩
    · have h2 : 1 < l.length := by have := of_decide_eq_true h2; omega
      refine ⟨0, _, rfl, by rw [hl]; exact byteAt_some hp, ?_⟩
      have e := u8eq (byteAt l 0) 48
      refine ⟨fun h3 => ?_, fun h3 => ?_⟩
      · have h3 : byteAt l 0 = 48 := eq_of_beq (e.symm.trans h3)
        intro w' hA
        refine ⟨?_, hA.bel (by simp)⟩
        have : (l.length == 1) = false := by simp; omega
        rw [bad (by simp [digitsB, this, h3])]; rfl
      · have h3 : byteAt l 0 ≠ 48 := ne_of_beq_false (e.symm.trans h3)
        have hm := main (by rintro ⟨_, e⟩; exact h3 e)
        clear e h3 h2
        refine ⟨Nat × Int, fun x => [(7, .val (.int .i64 x.1)), (6, .val (.int .u64 x.2)), (0, .val (.string s)), (1, .val (.int .u64 18446744073709551615))], fun _ => [], fun _ => [(w, fun _ => False)], fun x => x.1 ≤ l.length ∧ (l.take x.1).all digitB = true ∧ x.2 = decVal (l.take x.1) ∧ InU64 x.2, fun x => l.length - x.1, ?_, ?_⟩
        · intro w1 hA
          exact ⟨(0, 0), ⟨by omega, rfl, rfl, by unfold InU64; omega⟩, ⟨⟨_, rfl, rfl⟩, ⟨_, rfl, rfl⟩, ⟨_, rfl, rfl⟩, ⟨_, rfl, rfl⟩, trivial⟩, hA⟩
        rintro ⟨i, n⟩ ⟨hi, hall, hn, hnr⟩
        have hi : i ≤ l.length := hi
        have hall : (l.take i).all digitB = true := hall
        have hn : n = decVal (l.take i) := hn
        have hnr : InU64 n := hnr
        refine ⟨fun h => ?_, fun h => ?_⟩
        · have h : i < l.length := by have := of_decide_eq_true h; omega
          have hc : s.data.toList[i]? = some (byteAt l i) := by rw [hl]; exact byteAt_some h
          have hbad : digitB (byteAt l i) = false → numberB l = none := fun e => bad (by simp [digitsB, all_false h e])
          have hgood : digitB (byteAt l i) = true → (l.take (i + 1)).all digitB = true := fun e => by rw [take_all h, hall, e]; rfl
          have hdg : digitB (byteAt l i) = !(decide (((byteAt l i).toNat : Int) < 48) || decide (57 < ((byteAt l i).toNat : Int))) := rfl
          have hval : decVal (l.take (i + 1)) = decVal (l.take i) * 10 + ((byteAt l i).toNat - 48) := by rw [take_snoc h, decVal_snoc]
          have hle := decVal_take l (i + 1)
          have h256 := (byteAt l i).toNat_lt
          generalize byteAt l i = c at *
          refine ⟨i, c, rfl, hc, ?_⟩
          refine ⟨fun g1 => ?_, fun g1 => ?_⟩
          · refine ⟨i, c, rfl, hc, ?_⟩
            refine ⟨fun g2 => ?_, fun g2 => ?_⟩
            · intro w' hA
              refine ⟨?_, hA.bel (by simp)⟩
              rw [hbad (by rw [hdg, g2]; simp)]; rfl
            · have k1 := of_decide_eq_false g1
              have k2 := of_decide_eq_false g2
              have hgd := hgood (by rw [hdg, g1, g2]; rfl)
              clear hgood hbad hdg g1 g2
              have hm10 := mul10_c n hnr
              obtain ⟨m0, m1⟩ := hnr
              by_cases q1 : n * 10 < 18446744073709551616
              · rw [if_pos q1] at hm10
                intro w1 hA
                refine (hm10 w1).mono ?_
                rintro e w2 ⟨rfl, hb⟩
                refine ⟨.val _, _, _, rfl, hA.below' hb, ?_⟩
                clear hA hb
                refine ⟨_, rfl, _, rfl, ?_⟩
                refine ⟨i, c, rfl, hc, ?_⟩
                refine ⟨((c.toNat - 48 : Nat) : Int), by rw [wrap8_in _ (by omega) (by omega)]; omega, ?_⟩
                refine ⟨((c.toNat - 48 : Nat) : Int), wrapu_in _ (by omega) (by omega), ?_⟩
                have ha := add_c (n * 10) ((c.toNat - 48 : Nat) : Int) ⟨by omega, q1⟩ ⟨by omega, by omega⟩
                by_cases q2 : n * 10 + ((c.toNat - 48 : Nat) : Int) < 18446744073709551616
                · rw [if_pos q2] at ha
                  intro w1 hA
                  refine (ha w1).mono ?_
                  rintro e w2 ⟨rfl, hb⟩
                  refine ⟨.val _, _, _, rfl, hA.below' hb, ?_⟩
                  clear hA hb
                  refine ⟨_, rfl, _, rfl, ?_⟩
                  (repeat (first | refine ⟨fun _ => ?_, fun h => Bool.noConfusion h⟩ | refine ⟨fun h => Bool.noConfusion h, fun _ => ?_⟩ | refine ⟨_, wrap_in _ (by omega) (by omega), ?_⟩ | refine ⟨_, wrapu_in _ (by omega) (by omega), ?_⟩ | refine ⟨_, wrap8_in _ (by omega) (by omega), ?_⟩ | refine ⟨_, rfl, ?_⟩ | refine ⟨rfl, ?_⟩))
                  intro w' hA
                  exact ⟨(i + 1, n * 10 + ((c.toNat - 48 : Nat) : Int)), ⟨by show i + 1 ≤ _; omega, hgd, by show n * 10 + ((c.toNat - 48 : Nat) : Int) = ((decVal (l.take (i + 1)) : Nat) : Int); omega, by show 0 ≤ n * 10 + _; omega, q2⟩, by show l.length - (i + 1) < l.length - i; omega, ⟨⟨_, rfl, rfl⟩, ⟨_, rfl, rfl⟩, ⟨_, rfl, rfl⟩, ⟨_, rfl, rfl⟩, trivial⟩, hA⟩
                · rw [if_neg q2] at ha
                  intro w1 hA
                  refine (ha w1).mono ?_
                  rintro e w2 ⟨rfl, hb⟩
                  refine ⟨.val _, _, _, rfl, hA.below' hb, ?_⟩
                  clear hA hb
                  refine ⟨_, rfl, _, rfl, ?_⟩
                  (repeat (first | refine ⟨fun _ => ?_, fun h => Bool.noConfusion h⟩ | refine ⟨fun h => Bool.noConfusion h, fun _ => ?_⟩ | refine ⟨_, wrap_in _ (by omega) (by omega), ?_⟩ | refine ⟨_, wrapu_in _ (by omega) (by omega), ?_⟩ | refine ⟨_, wrap8_in _ (by omega) (by omega), ?_⟩ | refine ⟨_, rfl, ?_⟩ | refine ⟨rfl, ?_⟩))
                  intro w' hA
                  refine ⟨?_, hA.bel (by simp)⟩
                  rw [big (by omega)]; rfl
              · rw [if_neg q1] at hm10
                intro w1 hA
                refine (hm10 w1).mono ?_
                rintro e w2 ⟨rfl, hb⟩
                refine ⟨.val _, _, _, rfl, hA.below' hb, ?_⟩
                clear hA hb
                refine ⟨_, rfl, _, rfl, ?_⟩
                refine ⟨i, c, rfl, hc, ?_⟩
                refine ⟨((c.toNat - 48 : Nat) : Int), by rw [wrap8_in _ (by omega) (by omega)]; omega, ?_⟩
                refine ⟨((c.toNat - 48 : Nat) : Int), wrapu_in _ (by omega) (by omega), ?_⟩
                have ha := add_c 0 ((c.toNat - 48 : Nat) : Int) ⟨by omega, by omega⟩ ⟨by omega, by omega⟩
                rw [if_pos (by omega)] at ha
                intro w1 hA
                refine (ha w1).mono ?_
                rintro e w2 ⟨rfl, hb⟩
                refine ⟨.val _, _, _, rfl, hA.below' hb, ?_⟩
                clear hA hb
                refine ⟨_, rfl, _, rfl, ?_⟩
                (repeat (first | refine ⟨fun _ => ?_, fun h => Bool.noConfusion h⟩ | refine ⟨fun h => Bool.noConfusion h, fun _ => ?_⟩ | refine ⟨_, wrap_in _ (by omega) (by omega), ?_⟩ | refine ⟨_, wrapu_in _ (by omega) (by omega), ?_⟩ | refine ⟨_, wrap8_in _ (by omega) (by omega), ?_⟩ | refine ⟨_, rfl, ?_⟩ | refine ⟨rfl, ?_⟩))
                intro w' hA
                refine ⟨?_, hA.bel (by simp)⟩
                rw [big (by omega)]; rfl
          · (repeat (first | refine ⟨fun _ => ?_, fun h => Bool.noConfusion h⟩ | refine ⟨fun h => Bool.noConfusion h, fun _ => ?_⟩ | refine ⟨_, wrap_in _ (by omega) (by omega), ?_⟩ | refine ⟨_, wrapu_in _ (by omega) (by omega), ?_⟩ | refine ⟨_, wrap8_in _ (by omega) (by omega), ?_⟩ | refine ⟨_, rfl, ?_⟩ | refine ⟨rfl, ?_⟩))
            intro w' hA
            refine ⟨?_, hA.bel (by simp)⟩
            rw [hbad (by rw [hdg, g1]; simp)]; rfl
        · have h : ¬ i < l.length := by have := of_decide_eq_false h; omega
          rw [List.take_of_length_le (by omega)] at hall hn
          obtain ⟨m0, m1⟩ := hnr
          intro w' hA
          refine ⟨?_, hA.bel (by simp)⟩
          have hd := hm hall
          have hlt : decVal l < 18446744073709551616 := by omega
          have e : numberB l = some (decVal l) := by simp [numberB, hd, hlt]
          rw [e, ← hl, hl]
          subst hn
          have : decide (((decVal l : Nat) : Int) ≤ 18446744073709551615) = true := by simp; omega
          simp only [numTup, tup, SV.den, this]
    · have h2 : ¬ 1 < l.length := by have := of_decide_eq_false h2; omega
      have hm := main (by rintro ⟨e, _⟩; exact h2 e)
      (repeat (first | refine ⟨fun _ => ?_, fun h => Bool.noConfusion h⟩ | refine ⟨fun h => Bool.noConfusion h, fun _ => ?_⟩ | refine ⟨_, wrap_in _ (by omega) (by omega), ?_⟩ | refine ⟨_, wrapu_in _ (by omega) (by omega), ?_⟩ | refine ⟨_, wrap8_in _ (by omega) (by omega), ?_⟩ | refine ⟨_, rfl, ?_⟩ | refine ⟨rfl, ?_⟩))
      clear h2
      refine ⟨Nat × Int, fun x => [(7, .val (.int .i64 x.1)), (6, .val (.int .u64 x.2)), (0, .val (.string s)), (1, .val (.int .u64 18446744073709551615))], fun _ => [], fun _ => [(w, fun _ => False)], fun x => x.1 ≤ l.length ∧ (l.take x.1).all digitB = true ∧ x.2 = decVal (l.take x.1) ∧ InU64 x.2, fun x => l.length - x.1, ?_, ?_⟩
      · intro w1 hA
        exact ⟨(0, 0), ⟨by omega, rfl, rfl, by unfold InU64; omega⟩, ⟨⟨_, rfl, rfl⟩, ⟨_, rfl, rfl⟩, ⟨_, rfl, rfl⟩, ⟨_, rfl, rfl⟩, trivial⟩, hA⟩
      rintro ⟨i, n⟩ ⟨hi, hall, hn, hnr⟩
      have hi : i ≤ l.length := hi
      have hall : (l.take i).all digitB = true := hall
      have hn : n = decVal (l.take i) := hn
      have hnr : InU64 n := hnr
      refine ⟨fun h => ?_, fun h => ?_⟩
      · have h : i < l.length := by have := of_decide_eq_true h; omega
        have hc : s.data.toList[i]? = some (byteAt l i) := by rw [hl]; exact byteAt_some h
        have hbad : digitB (byteAt l i) = false → numberB l = none := fun e => bad (by simp [digitsB, all_false h e])
        have hgood : digitB (byteAt l i) = true → (l.take (i + 1)).all digitB = true := fun e => by rw [take_all h, hall, e]; rfl
        have hdg : digitB (byteAt l i) = !(decide (((byteAt l i).toNat : Int) < 48) || decide (57 < ((byteAt l i).toNat : Int))) := rfl
        have hval : decVal (l.take (i + 1)) = decVal (l.take i) * 10 + ((byteAt l i).toNat - 48) := by rw [take_snoc h, decVal_snoc]
        have hle := decVal_take l (i + 1)
        have h256 := (byteAt l i).toNat_lt
        generalize byteAt l i = c at *
        refine ⟨i, c, rfl, hc, ?_⟩
        refine ⟨fun g1 => ?_, fun g1 => ?_⟩
        · refine ⟨i, c, rfl, hc, ?_⟩
          refine ⟨fun g2 => ?_, fun g2 => ?_⟩
          · intro w' hA
            refine ⟨?_, hA.bel (by simp)⟩
            rw [hbad (by rw [hdg, g2]; simp)]; rfl
          · have k1 := of_decide_eq_false g1
            have k2 := of_decide_eq_false g2
            have hgd := hgood (by rw [hdg, g1, g2]; rfl)
            clear hgood hbad hdg g1 g2
            have hm10 := mul10_c n hnr
            obtain ⟨m0, m1⟩ := hnr
            by_cases q1 : n * 10 < 18446744073709551616
            · rw [if_pos q1] at hm10
              intro w1 hA
              refine (hm10 w1).mono ?_
              rintro e w2 ⟨rfl, hb⟩
              refine ⟨.val _, _, _, rfl, hA.below' hb, ?_⟩
              clear hA hb
              refine ⟨_, rfl, _, rfl, ?_⟩
              refine ⟨i, c, rfl, hc, ?_⟩
              refine ⟨((c.toNat - 48 : Nat) : Int), by rw [wrap8_in _ (by omega) (by omega)]; omega, ?_⟩
              refine ⟨((c.toNat - 48 : Nat) : Int), wrapu_in _ (by omega) (by omega), ?_⟩
              have ha := add_c (n * 10) ((c.toNat - 48 : Nat) : Int) ⟨by omega, q1⟩ ⟨by omega, by omega⟩
              by_cases q2 : n * 10 + ((c.toNat - 48 : Nat) : Int) < 18446744073709551616
              · rw [if_pos q2] at ha
                intro w1 hA
                refine (ha w1).mono ?_
                rintro e w2 ⟨rfl, hb⟩
                refine ⟨.val _, _, _, rfl, hA.below' hb, ?_⟩
                clear hA hb
                refine ⟨_, rfl, _, rfl, ?_⟩
                (repeat (first | refine ⟨fun _ => ?_, fun h => Bool.noConfusion h⟩ | refine ⟨fun h => Bool.noConfusion h, fun _ => ?_⟩ | refine ⟨_, wrap_in _ (by omega) (by omega), ?_⟩ | refine ⟨_, wrapu_in _ (by omega) (by omega), ?_⟩ | refine ⟨_, wrap8_in _ (by omega) (by omega), ?_⟩ | refine ⟨_, rfl, ?_⟩ | refine ⟨rfl, ?_⟩))
                intro w' hA
                exact ⟨(i + 1, n * 10 + ((c.toNat - 48 : Nat) : Int)), ⟨by show i + 1 ≤ _; omega, hgd, by show n * 10 + ((c.toNat - 48 : Nat) : Int) = ((decVal (l.take (i + 1)) : Nat) : Int); omega, by show 0 ≤ n * 10 + _; omega, q2⟩, by show l.length - (i + 1) < l.length - i; omega, ⟨⟨_, rfl, rfl⟩, ⟨_, rfl, rfl⟩, ⟨_, rfl, rfl⟩, ⟨_, rfl, rfl⟩, trivial⟩, hA⟩
              · rw [if_neg q2] at ha
                intro w1 hA
                refine (ha w1).mono ?_
                rintro e w2 ⟨rfl, hb⟩
                refine ⟨.val _, _, _, rfl, hA.below' hb, ?_⟩
                clear hA hb
                refine ⟨_, rfl, _, rfl, ?_⟩
                (repeat (first | refine ⟨fun _ => ?_, fun h => Bool.noConfusion h⟩ | refine ⟨fun h => Bool.noConfusion h, fun _ => ?_⟩ | refine ⟨_, wrap_in _ (by omega) (by omega), ?_⟩ | refine ⟨_, wrapu_in _ (by omega) (by omega), ?_⟩ | refine ⟨_, wrap8_in _ (by omega) (by omega), ?_⟩ | refine ⟨_, rfl, ?_⟩ | refine ⟨rfl, ?_⟩))
                intro w' hA
                refine ⟨?_, hA.bel (by simp)⟩
                rw [big (by omega)]; rfl
            · rw [if_neg q1] at hm10
              intro w1 hA
              refine (hm10 w1).mono ?_
              rintro e w2 ⟨rfl, hb⟩
              refine ⟨.val _, _, _, rfl, hA.below' hb, ?_⟩
              clear hA hb
              refine ⟨_, rfl, _, rfl, ?_⟩
              refine ⟨i, c, rfl, hc, ?_⟩
              refine ⟨((c.toNat - 48 : Nat) : Int), by rw [wrap8_in _ (by omega) (by omega)]; omega, ?_⟩
              refine ⟨((c.toNat - 48 : Nat) : Int), wrapu_in _ (by omega) (by omega), ?_⟩
              have ha := add_c 0 ((c.toNat - 48 : Nat) : Int) ⟨by omega, by omega⟩ ⟨by omega, by omega⟩
              rw [if_pos (by omega)] at ha
              intro w1 hA
              refine (ha w1).mono ?_
              rintro e w2 ⟨rfl, hb⟩
              refine ⟨.val _, _, _, rfl, hA.below' hb, ?_⟩
              clear hA hb
              refine ⟨_, rfl, _, rfl, ?_⟩
              (repeat (first | refine ⟨fun _ => ?_, fun h => Bool.noConfusion h⟩ | refine ⟨fun h => Bool.noConfusion h, fun _ => ?_⟩ | refine ⟨_, wrap_in _ (by omega) (by omega), ?_⟩ | refine ⟨_, wrapu_in _ (by omega) (by omega), ?_⟩ | refine ⟨_, wrap8_in _ (by omega) (by omega), ?_⟩ | refine ⟨_, rfl, ?_⟩ | refine ⟨rfl, ?_⟩))
              intro w' hA
              refine ⟨?_, hA.bel (by simp)⟩
              rw [big (by omega)]; rfl
        · (repeat (first | refine ⟨fun _ => ?_, fun h => Bool.noConfusion h⟩ | refine ⟨fun h => Bool.noConfusion h, fun _ => ?_⟩ | refine ⟨_, wrap_in _ (by omega) (by omega), ?_⟩ | refine ⟨_, wrapu_in _ (by omega) (by omega), ?_⟩ | refine ⟨_, wrap8_in _ (by omega) (by omega), ?_⟩ | refine ⟨_, rfl, ?_⟩ | refine ⟨rfl, ?_⟩))
          intro w' hA
          refine ⟨?_, hA.bel (by simp)⟩
          rw [hbad (by rw [hdg, g1]; simp)]; rfl
      · have h : ¬ i < l.length := by have := of_decide_eq_false h; omega
        rw [List.take_of_length_le (by omega)] at hall hn
        obtain ⟨m0, m1⟩ := hnr
        intro w' hA
        refine ⟨?_, hA.bel (by simp)⟩
        have hd := hm hall
        have hlt : decVal l < 18446744073709551616 := by omega
        have e : numberB l = some (decVal l) := by simp [numberB, hd, hlt]
        rw [e, ← hl, hl]
        subst hn
        have : decide (((decVal l : Nat) : Int) ≤ 18446744073709551615) = true := by simp; omega
        simp only [numTup, tup, SV.den, this]
  · have h1 : l = [] := by rw [hemp] at h1; simpa using h1
    (repeat (first | refine ⟨fun _ => ?_, fun h => Bool.noConfusion h⟩ | refine ⟨fun h => Bool.noConfusion h, fun _ => ?_⟩ | refine ⟨_, wrap_in _ (by omega) (by omega), ?_⟩ | refine ⟨_, wrapu_in _ (by omega) (by omega), ?_⟩ | refine ⟨_, wrap8_in _ (by omega) (by omega), ?_⟩ | refine ⟨_, rfl, ?_⟩ | refine ⟨rfl, ?_⟩))
    intro w' hA
    refine ⟨?_, hA.bel (by simp)⟩
    rw [bad (by simp [digitsB, h1])]; rfl
end Go.Proofs.YtllepnadffndnaaDoor
namespace Go.Proofs.YtllepnadffndnaaDoor
open Go.RowKit
set_option maxRecDepth 100000 in
set_option maxHeartbeats 2000000 in
theorem rset_c (c : MConfig) (k : Nat) (hk : k < 12) (s : ByteArray) (hs : s.size ≤ 140737488355328) (w : World) :
    Calls Tryd.prog 58 #[.agg ⟨cfgV c⟩, .int .i64 k, .string s] w fun e w' => e = .returned (.tuple #[.agg ⟨cfgV (setSpec c k s.data.toList).1⟩, .int .i64 (setSpec c k s.data.toList).2]) ∧ Below w.heap.size w w' := by
  have hm1 := str_eq s #[45, 49]
  have hnum := number16_c s hs
  have hdig := digits_c s hs
  have hlt := @numberB_lt s.data.toList
  have hg := greatI_pos k
  have hl := leastI_range k
  have hwith := with_c c k hk
  generalize hb : s.data.toList = b at *
  have q1 := @setSpec_m1 c k b
  have q2 := @setSpec_big c k b
  have q3 := @setSpec_syn c k b
  have q4 := @setSpec_price c k b
  have q5 := @setSpec_out c k b
  have q6 := @setSpec_ok c k b
  generalize setSpec c k b = sp at q1 q2 q3 q4 q5 q6 ⊢
  obtain ⟨c0, c1, c2, c3, c4, c5, c6, c7, c8, c9, c10, c11⟩ := c
  refine calls_of_vc seat Tryd.func58 rfl rfl (Nat.le_of_ble_eq_true rfl) (N := 61) (args := [.val (.agg ⟨cfgV ⟨c0, c1, c2, c3, c4, c5, c6, c7, c8, c9, c10, c11⟩⟩), .val (.int .i64 k), .val (.string s)]) (Nat.le_of_ble_eq_true rfl) rfl (A.start w) ?_
  intro g0 _
  intro g1 _
  refine ⟨fun h8 => ?_, fun h8 => ?_⟩
  · have h8 : k = 8 := by have := eq_of_beq h8; omega
    refine ⟨fun h1 => ?_, fun h1 => ?_⟩
    · have h1 : b = [45, 49] := by rw [hm1] at h1; simpa using h1
      have spec := q1 h8 h1
      refine ⟨_, rfl, rfl, rfl, ?_⟩
      refine ⟨rfl, rfl, ?_⟩
      refine ⟨rfl, rfl, rfl, rfl, ?_⟩
      refine ⟨rfl, rfl, ?_⟩
      intro w' hA
      refine ⟨?_, hA.bel (by simp)⟩
      rw [spec]; rfl
    · have h1 : b ≠ [45, 49] := by rw [hm1] at h1; simpa using h1
      have hno : ¬ (k = 8 ∧ b = [45, 49]) := fun h => h1 h.2
      (repeat (first | refine ⟨fun _ => ?_, fun h => Bool.noConfusion h⟩ | refine ⟨fun h => Bool.noConfusion h, fun _ => ?_⟩ | refine ⟨_, wrap_in _ (by omega) (by omega), ?_⟩ | refine ⟨_, wrapu_in _ (by omega) (by omega), ?_⟩ | refine ⟨_, wrap8_in _ (by omega) (by omega), ?_⟩ | refine ⟨_, rfl, ?_⟩ | refine ⟨rfl, ?_⟩))
      cases hn : numberB b with
      | none =>
        rw [hn] at hnum
        (intro w1 hA; refine (hnum w1).mono ?_; rintro e w2 ⟨rfl, hb⟩; refine ⟨.val _, _, _, rfl, hA.below' hb, ?_⟩)
        refine ⟨_, rfl, _, rfl, ?_⟩
        refine ⟨fun _ => ?_, fun h => Bool.noConfusion h⟩
        (intro w1 hA; refine (hdig w1).mono ?_; rintro e w2 ⟨rfl, hb⟩; refine ⟨.val _, _, _, rfl, hA.below' hb, ?_⟩)
        refine ⟨fun hd => ?_, fun hd => ?_⟩
        · have hd : digitsB b = false := by simpa using hd
          have spec := q3 hno hn hd
          refine ⟨rfl, rfl, ?_⟩
          refine ⟨rfl, rfl, rfl, rfl, ?_⟩
          refine ⟨rfl, rfl, ?_⟩
          intro w' hA
          refine ⟨?_, hA.bel (by simp)⟩
          rw [spec]; rfl
        · have hd : digitsB b = true := by simpa using hd
          have spec := q2 hno hn hd
          refine ⟨fun h9 => ?_, fun h9 => ?_⟩
          · (repeat (first | refine ⟨fun _ => ?_, fun h => Bool.noConfusion h⟩ | refine ⟨fun h => Bool.noConfusion h, fun _ => ?_⟩ | refine ⟨_, wrap_in _ (by omega) (by omega), ?_⟩ | refine ⟨_, wrapu_in _ (by omega) (by omega), ?_⟩ | refine ⟨_, wrap8_in _ (by omega) (by omega), ?_⟩ | refine ⟨_, rfl, ?_⟩ | refine ⟨rfl, ?_⟩))
            intro w' hA
            refine ⟨?_, hA.bel (by simp)⟩
            rw [spec]; rfl
          · (repeat (first | refine ⟨fun _ => ?_, fun h => Bool.noConfusion h⟩ | refine ⟨fun h => Bool.noConfusion h, fun _ => ?_⟩ | refine ⟨_, wrap_in _ (by omega) (by omega), ?_⟩ | refine ⟨_, wrapu_in _ (by omega) (by omega), ?_⟩ | refine ⟨_, wrap8_in _ (by omega) (by omega), ?_⟩ | refine ⟨_, rfl, ?_⟩ | refine ⟨rfl, ?_⟩))
            intro w' hA
            refine ⟨?_, hA.bel (by simp)⟩
            rw [spec]; rfl
      | some n =>
        rw [hn] at hnum
        obtain ⟨hn2, hd⟩ := hlt hn
        (intro w1 hA; refine (hnum w1).mono ?_; rintro e w2 ⟨rfl, hb⟩; refine ⟨.val _, _, _, rfl, hA.below' hb, ?_⟩)
        refine ⟨_, rfl, _, rfl, ?_⟩
        refine ⟨fun h => Bool.noConfusion h, fun _ => ?_⟩
        refine ⟨fun h => Bool.noConfusion h, fun _ => ?_⟩
        refine ⟨fun h9 => ?_, fun h9 => ?_⟩
        · have h9 : k = 9 := by have := eq_of_beq h9; omega
          have spec := q4 hno hn h9
          refine ⟨fun _ => ?_, fun h => Bool.noConfusion h⟩
          refine ⟨_, rfl, rfl, rfl, ?_⟩
          refine ⟨rfl, rfl, ?_⟩
          refine ⟨rfl, rfl, rfl, rfl, ?_⟩
          refine ⟨rfl, rfl, ?_⟩
          intro w' hA
          refine ⟨?_, hA.bel (by simp)⟩
          rw [spec]; rfl
        · have h9 : k ≠ 9 := by have := ne_of_beq_false h9; omega
          refine ⟨fun h => Bool.noConfusion h, fun _ => ?_⟩
          refine ⟨fun _ => ?_, fun h => Bool.noConfusion h⟩
          (intro w1 hA; refine (greatest_c k hk w1).mono ?_; rintro e w2 ⟨rfl, hb⟩; refine ⟨.val _, _, _, rfl, hA.below' hb, ?_⟩)
          refine ⟨_, wrapu_in _ (by omega) (by omega), ?_⟩
          refine ⟨fun hgt => ?_, fun hgt => ?_⟩
          · have hgt := of_decide_eq_false hgt
            refine ⟨(n : Int), wrap_in _ (by omega) (by omega), ?_⟩
            (intro w1 hA; refine (least_c k hk w1).mono ?_; rintro e w2 ⟨rfl, hb⟩; refine ⟨.val _, _, _, rfl, hA.below' hb, ?_⟩)
            refine ⟨fun hls => ?_, fun hls => ?_⟩
            · have hls := of_decide_eq_true hls
              have spec := q5 hno hn h9 (.inr hls)
              refine ⟨rfl, rfl, ?_⟩
              refine ⟨rfl, rfl, rfl, rfl, ?_⟩
              refine ⟨rfl, rfl, ?_⟩
              intro w' hA
              refine ⟨?_, hA.bel (by simp)⟩
              rw [spec]; rfl
            · have hls := of_decide_eq_false hls
              have spec := q6 hno hn h9 (by omega)
              refine ⟨rfl, rfl, ?_⟩
              refine ⟨(n : Int), wrap_in _ (by omega) (by omega), ?_⟩
              intro w1 hA
              refine (hwith (n : Int) w1).mono ?_
              rintro e w2 ⟨rfl, hb⟩
              refine ⟨.val _, _, _, rfl, hA.below' hb, ?_⟩
              clear hA hb
              generalize setI ⟨c0, c1, c2, c3, c4, c5, c6, c7, c8, c9, c10, c11⟩ k n = cd at spec ⊢
              obtain ⟨d0, d1, d2, d3, d4, d5, d6, d7, d8, d9, d10, d11⟩ := cd
              refine ⟨rfl, rfl, rfl, rfl, ?_⟩
              refine ⟨rfl, rfl, ?_⟩
              intro w' hA
              refine ⟨?_, hA.bel (by simp)⟩
              rw [spec]; rfl
          · have hgt := of_decide_eq_true hgt
            have spec := q5 hno hn h9 (.inl hgt)
            (repeat (first | refine ⟨fun _ => ?_, fun h => Bool.noConfusion h⟩ | refine ⟨fun h => Bool.noConfusion h, fun _ => ?_⟩ | refine ⟨_, wrap_in _ (by omega) (by omega), ?_⟩ | refine ⟨_, wrapu_in _ (by omega) (by omega), ?_⟩ | refine ⟨_, wrap8_in _ (by omega) (by omega), ?_⟩ | refine ⟨_, rfl, ?_⟩ | refine ⟨rfl, ?_⟩))
            intro w' hA
            refine ⟨?_, hA.bel (by simp)⟩
            rw [spec]; rfl
  · have h8 : k ≠ 8 := by have := ne_of_beq_false h8; omega
    have hno : ¬ (k = 8 ∧ b = [45, 49]) := fun h => h8 h.1
    (repeat (first | refine ⟨fun _ => ?_, fun h => Bool.noConfusion h⟩ | refine ⟨fun h => Bool.noConfusion h, fun _ => ?_⟩ | refine ⟨_, wrap_in _ (by omega) (by omega), ?_⟩ | refine ⟨_, wrapu_in _ (by omega) (by omega), ?_⟩ | refine ⟨_, wrap8_in _ (by omega) (by omega), ?_⟩ | refine ⟨_, rfl, ?_⟩ | refine ⟨rfl, ?_⟩))
    cases hn : numberB b with
    | none =>
      rw [hn] at hnum
      (intro w1 hA; refine (hnum w1).mono ?_; rintro e w2 ⟨rfl, hb⟩; refine ⟨.val _, _, _, rfl, hA.below' hb, ?_⟩)
      refine ⟨_, rfl, _, rfl, ?_⟩
      refine ⟨fun _ => ?_, fun h => Bool.noConfusion h⟩
      (intro w1 hA; refine (hdig w1).mono ?_; rintro e w2 ⟨rfl, hb⟩; refine ⟨.val _, _, _, rfl, hA.below' hb, ?_⟩)
      refine ⟨fun hd => ?_, fun hd => ?_⟩
      · have hd : digitsB b = false := by simpa using hd
        have spec := q3 hno hn hd
        refine ⟨rfl, rfl, ?_⟩
        refine ⟨rfl, rfl, rfl, rfl, ?_⟩
        refine ⟨rfl, rfl, ?_⟩
        intro w' hA
        refine ⟨?_, hA.bel (by simp)⟩
        rw [spec]; rfl
      · have hd : digitsB b = true := by simpa using hd
        have spec := q2 hno hn hd
        refine ⟨fun h9 => ?_, fun h9 => ?_⟩
        · (repeat (first | refine ⟨fun _ => ?_, fun h => Bool.noConfusion h⟩ | refine ⟨fun h => Bool.noConfusion h, fun _ => ?_⟩ | refine ⟨_, wrap_in _ (by omega) (by omega), ?_⟩ | refine ⟨_, wrapu_in _ (by omega) (by omega), ?_⟩ | refine ⟨_, wrap8_in _ (by omega) (by omega), ?_⟩ | refine ⟨_, rfl, ?_⟩ | refine ⟨rfl, ?_⟩))
          intro w' hA
          refine ⟨?_, hA.bel (by simp)⟩
          rw [spec]; rfl
        · (repeat (first | refine ⟨fun _ => ?_, fun h => Bool.noConfusion h⟩ | refine ⟨fun h => Bool.noConfusion h, fun _ => ?_⟩ | refine ⟨_, wrap_in _ (by omega) (by omega), ?_⟩ | refine ⟨_, wrapu_in _ (by omega) (by omega), ?_⟩ | refine ⟨_, wrap8_in _ (by omega) (by omega), ?_⟩ | refine ⟨_, rfl, ?_⟩ | refine ⟨rfl, ?_⟩))
          intro w' hA
          refine ⟨?_, hA.bel (by simp)⟩
          rw [spec]; rfl
    | some n =>
      rw [hn] at hnum
      obtain ⟨hn2, hd⟩ := hlt hn
      (intro w1 hA; refine (hnum w1).mono ?_; rintro e w2 ⟨rfl, hb⟩; refine ⟨.val _, _, _, rfl, hA.below' hb, ?_⟩)
      refine ⟨_, rfl, _, rfl, ?_⟩
      refine ⟨fun h => Bool.noConfusion h, fun _ => ?_⟩
      refine ⟨fun h => Bool.noConfusion h, fun _ => ?_⟩
      refine ⟨fun h9 => ?_, fun h9 => ?_⟩
      · have h9 : k = 9 := by have := eq_of_beq h9; omega
        have spec := q4 hno hn h9
        refine ⟨fun _ => ?_, fun h => Bool.noConfusion h⟩
        refine ⟨_, rfl, rfl, rfl, ?_⟩
        refine ⟨rfl, rfl, ?_⟩
        refine ⟨rfl, rfl, rfl, rfl, ?_⟩
        refine ⟨rfl, rfl, ?_⟩
        intro w' hA
        refine ⟨?_, hA.bel (by simp)⟩
        rw [spec]; rfl
      · have h9 : k ≠ 9 := by have := ne_of_beq_false h9; omega
        refine ⟨fun h => Bool.noConfusion h, fun _ => ?_⟩
        refine ⟨fun _ => ?_, fun h => Bool.noConfusion h⟩
        (intro w1 hA; refine (greatest_c k hk w1).mono ?_; rintro e w2 ⟨rfl, hb⟩; refine ⟨.val _, _, _, rfl, hA.below' hb, ?_⟩)
        refine ⟨_, wrapu_in _ (by omega) (by omega), ?_⟩
        refine ⟨fun hgt => ?_, fun hgt => ?_⟩
        · have hgt := of_decide_eq_false hgt
          refine ⟨(n : Int), wrap_in _ (by omega) (by omega), ?_⟩
          (intro w1 hA; refine (least_c k hk w1).mono ?_; rintro e w2 ⟨rfl, hb⟩; refine ⟨.val _, _, _, rfl, hA.below' hb, ?_⟩)
          refine ⟨fun hls => ?_, fun hls => ?_⟩
          · have hls := of_decide_eq_true hls
            have spec := q5 hno hn h9 (.inr hls)
            refine ⟨rfl, rfl, ?_⟩
            refine ⟨rfl, rfl, rfl, rfl, ?_⟩
            refine ⟨rfl, rfl, ?_⟩
            intro w' hA
            refine ⟨?_, hA.bel (by simp)⟩
            rw [spec]; rfl
          · have hls := of_decide_eq_false hls
            have spec := q6 hno hn h9 (by omega)
            refine ⟨rfl, rfl, ?_⟩
            refine ⟨(n : Int), wrap_in _ (by omega) (by omega), ?_⟩
            intro w1 hA
            refine (hwith (n : Int) w1).mono ?_
            rintro e w2 ⟨rfl, hb⟩
            refine ⟨.val _, _, _, rfl, hA.below' hb, ?_⟩
            clear hA hb
            generalize setI ⟨c0, c1, c2, c3, c4, c5, c6, c7, c8, c9, c10, c11⟩ k n = cd at spec ⊢
            obtain ⟨d0, d1, d2, d3, d4, d5, d6, d7, d8, d9, d10, d11⟩ := cd
            refine ⟨rfl, rfl, rfl, rfl, ?_⟩
            refine ⟨rfl, rfl, ?_⟩
            intro w' hA
            refine ⟨?_, hA.bel (by simp)⟩
            rw [spec]; rfl
        · have hgt := of_decide_eq_true hgt
          have spec := q5 hno hn h9 (.inl hgt)
          (repeat (first | refine ⟨fun _ => ?_, fun h => Bool.noConfusion h⟩ | refine ⟨fun h => Bool.noConfusion h, fun _ => ?_⟩ | refine ⟨_, wrap_in _ (by omega) (by omega), ?_⟩ | refine ⟨_, wrapu_in _ (by omega) (by omega), ?_⟩ | refine ⟨_, wrap8_in _ (by omega) (by omega), ?_⟩ | refine ⟨_, rfl, ?_⟩ | refine ⟨rfl, ?_⟩))
          intro w' hA
          refine ⟨?_, hA.bel (by simp)⟩
          rw [spec]; rfl
end Go.Proofs.YtllepnadffndnaaDoor
namespace Go.Proofs.YtllepnadffndnaaDoor
open Go.RowKit
section
variable {P : Program} {T : Tab} {ents : List FuncId} {M : Mem} {H H' : Hist} {w w' wk : World} {ex : Fp} {base : Nat} {e : TypeId} {es : Nat} {v : Value} {n : Nat} {xs : List Value}
theorem range_mem (hT : TabOK P T) {t : TypeId} {s : ByteArray} {K : Cont} (hd : Tab.find T t = some .str) (hH : ∀ p ∈ H', p ∈ H)
    (hK : ∀ wp w', A M H wp → Below wp.heap.size wp w' → w'.heap[wp.heap.size]? = some (.stringIter s 0) → K (.val (.pointer (some ⟨wp.heap.size, 0, none⟩))) M ((w', M.gs) :: H')) : memV P M H (Instr.range t (.string s)) K := by
  intro w hA
  have hu := TD.fits_str (hT.fits hd)
  have hb : Below w.heap.size w (w.iter s 0) := (Below.refl _ _).alloc (Nat.le_refl _) _
  refine ⟨.val _, w.iter s 0, M, _, run_range_string w t s hu, ?_, hK w _ hA hb (World.iter_heap w s 0)⟩
  exact (hA.below hb).hist (fun p hp => by
    rcases List.mem_cons.1 hp with rfl | hp
    · exact List.mem_cons_self
    · exact List.mem_cons_of_mem _ (hH p hp))
theorem next_mem {g pos : Nat} {s : ByteArray} {ty : TypeId} {K : Cont} (hk : (wk, ex) ∈ H) (hit : wk.heap[g]? = some (.stringIter s pos)) (hx : ¬ ex g)
    (hH : ∀ p ∈ H', p ∈ H ∧ (p.2 g ∨ p.1.heap.size ≤ g))
    (h1 : pos < s.size → ∀ (c k : Nat) wp w', Utf8.decode s pos = (c, k) → A M H wp → Since (fun b => b = g) wp w' → w'.heap[g]? = some (.stringIter s (pos + k)) →
      K (.val (.tuple #[.bool true, .int .i64 pos, .int .i32 c])) M ((w', M.gs) :: H'))
    (h0 : ¬ pos < s.size → ∀ wp, A M H wp → K (.val (.tuple #[.bool false])) M ((wp, M.gs) :: H')) : memV P M H (Instr.next (.pointer (some ⟨g, 0, none⟩)) true ty) K := by
  intro w hA
  have hlt := (Array.getElem?_eq_some_iff.1 hit).1
  have hs := hA.since _ hk
  have hiw : w.heap[g]? = some (.stringIter s pos) := (hs.block g hlt hx).trans hit
  have hg : g < w.heap.size := (Array.getElem?_eq_some_iff.1 hiw).1
  have hM : ∀ i kb, M.find i = some kb → kb.g ≠ g := by
    intro i kb hi e
    have := (hA.blk i kb hi).heap
    rw [e, hiw] at this
    cases this
  by_cases hp : pos < s.size
  · have hr := Lib.run_next_any_at (P := P) w g s pos ty hiw hp
    have hsn : Since (fun b => b = g) w (w.iterAt g s (pos + (Utf8.decode s pos).2)) :=
      ⟨rfl, rfl, rfl, by rw [Lib.iterAt_size]; exact Nat.le_refl _, fun b _ he => Lib.iterAt_other w g b s _ he⟩
    refine ⟨.val _, _, M, _, hr, ?_, h1 hp _ _ w _ rfl hA hsn (Lib.iterAt_heap w g s pos _ hiw)⟩
    have hgr : w.grownBy (w.iterAt g s (pos + (Utf8.decode s pos).2)) (some g) := by
      refine ⟨?_, ?_, ?_, ?_, ?_⟩
      all_goals first | rfl | exact hsn.size | (intro b hb he; exact hsn.block b hb (fun e => he (by rw [e])))
    exact hA.grown' hgr (fun i kb hi he => hM i kb hi (Option.some.inj he)) (fun p hp => ⟨(hH p hp).1, fun g' he => by
      have := Option.some.inj he
      subst this
      exact (hH p hp).2⟩)
  · have hr := Lib.run_next_end_at (P := P) w g s pos ty hiw hp
    refine ⟨.val _, w, M, _, hr, ?_, h0 hp w hA⟩
    exact hA.now.hist (fun p hp => by
      rcases List.mem_cons.1 hp with rfl | hp
      · exact List.mem_cons_self
      · exact List.mem_cons_of_mem _ (hH p hp).1)
theorem append_mem2 (hS : Seat P T ents) {M' : Mem} (hM' : MSub M' M) {t ty : TypeId} {by_ : Nat} {zl : List SV} (hd : Tab.find T t = some (.slice e es)) (hby : (P.info? e).map (·.bytes) = some by_) (hz : zeroAcc T 9 e [] = some zl) (hzl : zl.length = es) (hes : 0 < es)
    (hk : (wk, ex) ∈ H) (hown : wk.ownsRow base e es v n xs) (hx : ∀ g, v.ownBlock = some g → ¬ ex g) (hH : ∀ p ∈ H', p ∈ H ∧ p.1.heap.size ≤ base) (hbase : base ≤ wk.heap.size)
    {a : Addr} {m c : Nat} {news : List Value} (hl : news.length = m * es) (hnews : ∀ w, A M H w → ∀ j u, news[j]? = some u → w.cell? (a.add j) = some u) (h1 : ∀ u ∈ news, u.oneCell' = true)
    (h63 : n + m ≤ maxLen) (hbytes : (n + m) * by_ ≤ 140737488355328) {K : Cont}
    (hK : ∀ wp v' w', A M H wp → (∀ b, b < wp.heap.size → v.ownBlock ≠ some b → w'.heap[b]? = wp.heap[b]?) → wp.heap.size ≤ w'.heap.size → w'.ownsRow base e es v' (n + m) (xs ++ news) → K (.val v') M' ((w', M'.gs) :: H')) :
    memV P M H (Builtin.append_ #[t, t] ty #[v, .slice (some a) m c]) K := by
  intro w hA
  obtain ⟨hu, hs⟩ := TD.fits_slice (hS.tab.fits hd)
  obtain ⟨zv, hzv, hzc⟩ := hS.tab.zero hz w
  cases hi : P.info? e with
  | none => simp [hi] at hby
  | some it =>
    have hby' : it.bytes = by_ := by simpa [hi] using hby
    have hsz : it.size = es := by simpa [sizeB, hi] using hs
    have hit : it.zero = some zv := by
      cases hv : it.zero with
      | none => simp [zeroValue, typeInfo, hi, hv, unsupported] at hzv
      | some v => simp [zeroValue, typeInfo, hi, hv] at hzv; rw [hzv]
    have hsn := hA.since _ hk
    obtain ⟨v', w', hr, ho, hg, _⟩ := run_append_own (P := P) w base t ty e it zv es by_ hu hi hit hsz hby' (by rw [← Array.length_toList, hzc]; simp [hzl]) hes v n xs (ownsRow_since hown hsn hx) a m c news hl (hnews w hA) h1 h63 hbytes (Nat.le_trans hbase hsn.size)
    refine ⟨.val v', w', M', _, hr, ?_, hK w v' w' hA (fun b hb he => hg.block b hb (fun e => he e.symm)) hg.size ho⟩
    have hb := hown.lt
    refine (hA.sub hM').grown' hg (fun i kb hi he => ?_) (fun p hp => ⟨(hH p hp).1, fun g hg' => ?_⟩)
    · rcases hA.fresh _ hk i kb (hM'.find i kb hi) with hf | hf
      · exact hx _ he.symm hf
      · have := (hb _ he.symm).2
        have hf : wk.heap.size ≤ kb.g := hf
        omega
    · have := (hb g hg').1
      have := (hH p hp).2
      exact .inr (by omega)
theorem own_ne_iter {g pos : Nat} {s : ByteArray} (hown : wk.ownsRow base e es v n xs) (hit : wk.heap[g]? = some (.stringIter s pos)) : v.ownBlock ≠ some g := by
  intro h
  rcases hown.2 with ⟨rfl, _⟩ | ⟨g', cap, cur, rfl, _, hgg, _⟩
  · simp [Value.ownBlock] at h
  · simp [Value.ownBlock] at h
    subst h
    rw [hit] at hgg
    cases hgg
end
end Go.Proofs.YtllepnadffndnaaDoor
namespace Go.Proofs.YtllepnadffndnaaDoor
def isSp (c : Int) : Bool := c == 9 || c == 32 || c == 160 || c == 8195 || c == 12288
theorem take_bytes {l : Bs} {i : Nat} : ∀ {k : Nat}, (∀ j, j < k → i + j < l.length) → (l.drop i).take k = (List.range k).map fun j => byteAt l (i + j)
  | 0, _ => by simp
  | k + 1, h => by
    have h1 := take_bytes (k := k) (fun j hj => h j (by omega))
    have hk := h k (by omega)
    rw [List.take_add_one, h1, List.range_succ, List.map_append]
    congr 1
    rw [List.getElem?_drop, byteAt_some hk]
    rfl
theorem u8_ne {c : UInt8} {n : Nat} (hn : n < 256) : (c == UInt8.ofNat n) = decide (c.toNat = n) := by
  rw [Bool.eq_iff_iff]
  simp only [beq_iff_eq, decide_eq_true_eq]
  constructor
  · rintro rfl
    rw [UInt8.toNat_ofNat']
    omega
  · intro h
    apply UInt8.toNat_inj.1
    rw [UInt8.toNat_ofNat']
    omega
theorem get_byte (s : ByteArray) (i : Nat) : (s.get! i) = byteAt s.data.toList i := by
  unfold byteAt
  show s.data[i]! = _
  rw [Array.getElem!_eq_getD, Array.getD_eq_getD_getElem?]
  simp [default]
theorem followB_iff {l : Bs} {i : Nat} (h : followB l i = true) : i < l.length ∧ 128 ≤ (byteAt l i).toNat ∧ (byteAt l i).toNat < 192 := by
  unfold followB at h
  simp only [Bool.and_eq_true, decide_eq_true_eq] at h
  omega
theorem isSp_iff (c : Int) : isSp c = decide (c = 9 ∨ c = 32 ∨ c = 160 ∨ c = 8195 ∨ c = 12288) := by
  rw [Bool.eq_iff_iff]
  simp [isSp, or_assoc]
theorem u8i {c : UInt8} (n : Nat) (hn : n < 256) : c = UInt8.ofNat n ↔ c.toNat = n := by
  have := u8_ne (c := c) hn
  rw [Bool.eq_iff_iff] at this
  simpa using this
theorem space1 (a : UInt8) : spaceB [a] = decide (a.toNat = 9 ∨ a.toNat = 32) := by
  rw [Bool.eq_iff_iff]
  have h1 : a = 9 ↔ a.toNat = 9 := u8i 9 (by omega)
  have h2 : a = 32 ↔ a.toNat = 32 := u8i 32 (by omega)
  simp [spaceB, h1, h2]
theorem space2 (a b : UInt8) : spaceB [a, b] = decide (a.toNat = 194 ∧ b.toNat = 160) := by
  rw [Bool.eq_iff_iff]
  have h1 : a = 194 ↔ a.toNat = 194 := u8i 194 (by omega)
  have h2 : b = 160 ↔ b.toNat = 160 := u8i 160 (by omega)
  simp [spaceB, h1, h2]
theorem space3 (a b c : UInt8) : spaceB [a, b, c] = decide (a.toNat = 226 ∧ b.toNat = 128 ∧ c.toNat = 131 ∨ a.toNat = 227 ∧ b.toNat = 128 ∧ c.toNat = 128) := by
  rw [Bool.eq_iff_iff]
  have h1 : a = 226 ↔ a.toNat = 226 := u8i 226 (by omega)
  have h2 : b = 128 ↔ b.toNat = 128 := u8i 128 (by omega)
  have h3 : c = 131 ↔ c.toNat = 131 := u8i 131 (by omega)
  have h4 : a = 227 ↔ a.toNat = 227 := u8i 227 (by omega)
  have h5 : c = 128 ↔ c.toNat = 128 := u8i 128 (by omega)
  simp [spaceB, h1, h2, h3, h4, h5]
theorem space4 (a b c d : UInt8) : spaceB [a, b, c, d] = false := by simp [spaceB]
theorem hash1 (a : UInt8) : [a] = [(35 : UInt8)] ↔ a.toNat = 35 := by
  have h1 : a = 35 ↔ a.toNat = 35 := u8i 35 (by omega)
  simp [h1]
set_option maxHeartbeats 2000000 in
theorem decode_rune (s : ByteArray) (i : Nat) (hi : i < s.data.toList.length) (h0 : runeLen (s.data.toList.drop i) ≠ 0) :
    ∃ cp : Nat, Go.Utf8.decode s i = (cp, runeLen (s.data.toList.drop i)) ∧ isSp cp = spaceB ((s.data.toList.drop i).take (runeLen (s.data.toList.drop i))) ∧ ((cp : Int) = 35 ↔ (s.data.toList.drop i).take (runeLen (s.data.toList.drop i)) = [35]) := by
  have hsz : s.data.toList.length = s.size := by simp
  have hr := runeAt_nat s.data.toList i
  generalize hk : runeLen (s.data.toList.drop i) = k at *
  generalize hl : s.data.toList = l at *
  have hg : ∀ j, (s.get! (i + j)).toNat = (byteAt l (i + j)).toNat := fun j => by rw [get_byte, hl]
  unfold runeAt runeI at hr
  have t0 := (byteAt l i).toNat_lt
  have t1 := (byteAt l (i + 1)).toNat_lt
  have t2 := (byteAt l (i + 2)).toNat_lt
  have t3 := (byteAt l (i + 3)).toNat_lt
  have g0 : (s.get! i).toNat = (byteAt l i).toNat := hg 0
  have g1 := hg 1
  have g2 := hg 2
  have g3 := hg 3
  by_cases c1 : decide (((byteAt l i).toNat : Int) < 128) = true
  · rw [if_pos c1] at hr
    have hk1 : k = 1 := by omega
    subst hk1
    have c1 := of_decide_eq_true c1
    refine ⟨(byteAt l i).toNat, ?_, ?_, ?_⟩
    · unfold Go.Utf8.decode
      simp only [Nat.add_zero, g0]
      rw [if_pos (by omega)]
    · rw [take_bytes (fun j hj => by omega)]
      show _ = spaceB [byteAt l (i + 0)]
      rw [space1, isSp_iff, Nat.add_zero]
      exact decide_eq_decide.2 (by omega)
    · rw [take_bytes (fun j hj => by omega)]
      show _ ↔ [byteAt l (i + 0)] = _
      rw [hash1, Nat.add_zero]
      omega
  rw [if_neg c1] at hr
  have c1 : 128 ≤ (byteAt l i).toNat := by simp at c1; omega
  split at hr
  · rename_i c2
    simp only [Bool.and_eq_true, decide_eq_true_eq] at c2
    obtain ⟨⟨a1, a2⟩, f1⟩ := c2
    have f1 := followB_iff f1
    have hk1 : k = 2 := by omega
    subst hk1
    refine ⟨((byteAt l i).toNat % 32) * 64 + (byteAt l (i + 1)).toNat % 64, ?_, ?_, ?_⟩
    · unfold Go.Utf8.decode
      simp only [Nat.add_zero, g0, g1, g2, g3]
      rw [if_neg (by omega), if_pos (by simp; omega), if_pos (by omega)]
    · rw [take_bytes (fun j hj => by omega)]
      show _ = spaceB [byteAt l (i + 0), byteAt l (i + 1)]
      rw [space2, isSp_iff]; simp only [Nat.add_zero]
      exact decide_eq_decide.2 (by omega)
    · rw [take_bytes (fun j hj => by omega)]
      show _ ↔ [byteAt l (i + 0), byteAt l (i + 1)] = _
      constructor
      · intro h; omega
      · intro h; simp at h
  rename_i c2
  simp only [Bool.and_eq_true, decide_eq_true_eq] at c2
  split at hr
  · rename_i c3
    simp only [Bool.and_eq_true, decide_eq_true_eq] at c3
    obtain ⟨⟨⟨a1, a2⟩, f1⟩, f2⟩ := c3
    have f1 := followB_iff f1
    have f2 := followB_iff f2
    split at hr
    · omega
    rename_i c4
    simp only [Bool.or_eq_true, Bool.and_eq_true, decide_eq_true_eq, beq_iff_eq] at c4
    have hk1 : k = 3 := by omega
    subst hk1
    refine ⟨((byteAt l i).toNat % 16) * 4096 + ((byteAt l (i + 1)).toNat % 64) * 64 + (byteAt l (i + 2)).toNat % 64, ?_, ?_, ?_⟩
    · unfold Go.Utf8.decode
      simp only [Nat.add_zero, g0, g1, g2, g3]
      rw [if_neg (by omega), if_neg (by simp; omega), if_pos (by simp; omega), if_pos]
      simp [Go.Utf8.valid]
      omega
    · rw [take_bytes (fun j hj => by omega)]
      show _ = spaceB [byteAt l (i + 0), byteAt l (i + 1), byteAt l (i + 2)]
      rw [space3, isSp_iff]; simp only [Nat.add_zero]
      exact decide_eq_decide.2 (by omega)
    · rw [take_bytes (fun j hj => by omega)]
      show _ ↔ [byteAt l (i + 0), byteAt l (i + 1), byteAt l (i + 2)] = _
      constructor
      · intro h; omega
      · intro h; simp at h
  rename_i c3
  split at hr
  · rename_i c4
    simp only [Bool.and_eq_true, decide_eq_true_eq] at c4
    obtain ⟨⟨⟨⟨a1, a2⟩, f1⟩, f2⟩, f3⟩ := c4
    have f1 := followB_iff f1
    have f2 := followB_iff f2
    have f3 := followB_iff f3
    split at hr
    · omega
    rename_i c5
    simp only [Bool.or_eq_true, Bool.and_eq_true, decide_eq_true_eq, beq_iff_eq] at c5
    have hk1 : k = 4 := by omega
    subst hk1
    refine ⟨((byteAt l i).toNat % 8) * 262144 + ((byteAt l (i + 1)).toNat % 64) * 4096 + ((byteAt l (i + 2)).toNat % 64) * 64 + (byteAt l (i + 3)).toNat % 64, ?_, ?_, ?_⟩
    · unfold Go.Utf8.decode
      simp only [Nat.add_zero, g0, g1, g2, g3]
      rw [if_neg (by omega), if_neg (by simp; omega), if_neg (by simp; omega), if_pos (by simp; omega), if_pos]
      simp [Go.Utf8.valid]
      omega
    · rw [take_bytes (fun j hj => by omega)]
      show _ = spaceB [byteAt l (i + 0), byteAt l (i + 1), byteAt l (i + 2), byteAt l (i + 3)]
      rw [space4, isSp_iff]
      exact decide_eq_false (by omega)
    · rw [take_bytes (fun j hj => by omega)]
      show _ ↔ [byteAt l (i + 0), byteAt l (i + 1), byteAt l (i + 2), byteAt l (i + 3)] = _
      constructor
      · intro h; omega
      · intro h; simp at h
  · omega
end Go.Proofs.YtllepnadffndnaaDoor
namespace Go.Proofs.YtllepnadffndnaaDoor
open Go.RowKit
theorem isSpace_c (r : Int) (w : World) : Calls Tryd.prog 52 #[.int .i32 r] w fun e w' => e = .returned (.bool (isSp r)) ∧ Below w.heap.size w w' := by
  have cls : r = 9 ∨ r = 32 ∨ r = 160 ∨ r = 8195 ∨ r = 12288 ∨ (r ≠ 9 ∧ r ≠ 32 ∧ r ≠ 160 ∧ r ≠ 8195 ∧ r ≠ 12288) := by omega
  rcases cls with rfl | rfl | rfl | rfl | rfl | ⟨n1, n2, n3, n4, n5⟩
  case inr.inr.inr.inr.inr =>
    have e : isSp r = false := by simp [isSp, n1, n2, n3, n4, n5]
    rw [e]
    refine calls_of_vc seat Tryd.func52 rfl rfl (Nat.le_of_ble_eq_true rfl) (N := 10) (args := [.val (.int .i32 r)]) (Nat.le_of_ble_eq_true rfl) rfl (A.start w) ?_
    refine ⟨fun h => absurd h (by simp [n1]), fun _ => ?_⟩
    refine ⟨fun h => absurd h (by simp [n2]), fun _ => ?_⟩
    refine ⟨fun h => absurd h (by simp [n3]), fun _ => ?_⟩
    refine ⟨fun h => absurd h (by simp [n4]), fun _ => ?_⟩
    refine ⟨fun h => absurd h (by simp [n5]), fun _ => ?_⟩
    (intro w' hA; exact ⟨rfl, hA.bel (by simp)⟩)
  all_goals
    refine calls_of_vc seat Tryd.func52 rfl rfl (Nat.le_of_ble_eq_true rfl) (N := 10) (args := [.val (.int .i32 _)]) (Nat.le_of_ble_eq_true rfl) rfl (A.start w) ?_
    (repeat (first | refine ⟨fun _ => ?_, fun h => Bool.noConfusion h⟩ | refine ⟨fun h => Bool.noConfusion h, fun _ => ?_⟩ | refine ⟨_, wrap_in _ (by omega) (by omega), ?_⟩ | refine ⟨_, wrapu_in _ (by omega) (by omega), ?_⟩ | refine ⟨_, wrap8_in _ (by omega) (by omega), ?_⟩ | refine ⟨_, rfl, ?_⟩ | refine ⟨rfl, ?_⟩))
    (intro w' hA; exact ⟨rfl, hA.bel (by simp)⟩)
def strV (l : Bs) : Value := .string ⟨l.toArray⟩
theorem extract_eq (s : ByteArray) (a b : Nat) : s.extract a b = ⟨((s.data.toList.drop a).take (b - a)).toArray⟩ := by
  apply ByteArray.ext
  rw [ByteArray.data_extract]
  apply Array.toList_inj.1
  simp [Array.toList_extract, List.extract_eq_take_drop]
theorem gs_nil (b : Nat) : ¬ Mem.gs [] b := fun h => by obtain ⟨_, _, h, _⟩ := h; cases h
def wordAt (l : Bs) (fr : Option Nat) (i : Nat) : Bs := match fr with | none => [] | some f => (l.drop f).take (i - f)
def frI : Option Nat → Int | none => -1 | some f => f
theorem wordAt_next {l : Bs} {f i k : Nat} (h : f ≤ i) : wordAt l (some f) (i + k) = wordAt l (some f) i ++ (l.drop i).take k := by
  simp only [wordAt]
  rw [show i + k - f = (i - f) + k by omega, List.take_add, List.drop_drop, show f + (i - f) = i by omega]
theorem wordAt_ne {l : Bs} {f i : Nat} (h : f < i) (hi : i ≤ l.length) : wordAt l (some f) i ≠ [] := by
  intro e
  have := congrArg List.length e
  simp [wordAt] at this
  omega
def outW (w : Bs) (acc : List Bs) : List Bs := if w = [] then acc else acc ++ [w]
theorem wordsGo_nil (w : Bs) (acc : List Bs) : wordsGo [] w acc = outW w acc := rfl
theorem wordsGo_hash (rs : List Bs) (w : Bs) (acc : List Bs) : wordsGo ([35] :: rs) w acc = outW w acc := by simp [wordsGo, outW]
theorem wordsGo_space {r : Bs} (rs : List Bs) (w : Bs) (acc : List Bs) (h1 : r ≠ [35]) (h2 : spaceB r = true) : wordsGo (r :: rs) w acc = wordsGo rs [] (outW w acc) := by
  rw [wordsGo, if_neg h1, if_pos h2]
  unfold outW
  split <;> rfl
theorem wordsGo_text {r : Bs} (rs : List Bs) (w : Bs) (acc : List Bs) (h1 : r ≠ [35]) (h2 : spaceB r = false) : wordsGo (r :: rs) w acc = wordsGo rs (w ++ r) acc := by
  rw [wordsGo, if_neg h1, if_neg (by simp [h2])]
def WordsAt (w w' : World) (v : Value) (ws : List Bs) : Prop := ∃ a c, v = .slice a ws.length c ∧ Sl Rp.str w' (fun b => w.heap.size ≤ b) a (ws.map fun l => (⟨l.toArray⟩ : ByteArray))
theorem SlL_strs (w : World) (S : Fp) : ∀ (ws : List Bs), (∀ x ∈ ws, x.length ≤ 140737488355328) → SlL Rp.str w S (ws.map strV) (ws.map fun l => (⟨l.toArray⟩ : ByteArray))
  | [], _ => rfl
  | x :: ws, h => ⟨[strV x], ws.map strV, rfl, ⟨rfl, by have := h x List.mem_cons_self; simpa [ByteArray.size] using this⟩, SlL_strs w S ws (fun y hy => h y (List.mem_cons_of_mem _ hy))⟩
theorem wordsAt_of_own {w w' : World} {v : Value} {ws : List Bs} (ho : w'.ownsRow w.heap.size 9 1 v ws.length (ws.map strV)) (hl : ∀ x ∈ ws, x.length ≤ 140737488355328) (hn : ws.length ≤ 140737488355328) : WordsAt w w' v ws := by
  obtain ⟨a, c, h1, h2⟩ := Sl.of_own (r := Rp.str) (S := fun b => w.heap.size ≤ b) (ys := ws.map fun l => (⟨l.toArray⟩ : ByteArray)) ho (fun b hb _ => hb) (SlL_strs _ _ ws hl) (by simp) hn
  exact ⟨a, c, by rw [h1]; simp, h2⟩
set_option maxHeartbeats 2000000 in
theorem words_c (s : ByteArray) (hs : s.size ≤ 1048576) (hv0 : validS s.data.toList = true) (w : World) :
    Calls Tryd.prog 41 #[.string s] w fun e w' => ∃ v, e = .returned v ∧ WordsAt w w' v (wordsOf s.data.toList) ∧ Below w.heap.size w w' := by
  have hsz := str_len s
  have hdec := decode_rune s
  have hext := extract_eq s
  generalize hl : s.data.toList = l at *
  refine calls_of_vc seat Tryd.func41 rfl rfl (Nat.le_of_ble_eq_true rfl) (N := 52) (args := [.val (.string s)]) (Nat.le_of_ble_eq_true rfl) rfl (A.start w) ?_
  refine range_mem seat.tab (H' := [(w, fun _ => False)]) rfl (fun _ h => h) ?_
  intro wp w0 hAp hbp hit0
  have hgw : w.heap.size ≤ wp.heap.size := (hAp.bel (w := w) (by simp)).size
  generalize wp.heap.size = git at hit0 hgw ⊢
  clear hAp hbp
  refine ⟨Nat × Option Nat × List Bs × Value × World, fun x => [(11, .val (.pointer (some ⟨git, 0, none⟩))), (4, .val (.int .i64 (frI x.2.1))), (3, .val x.2.2.2.1), (0, .val (.string s)), (5, .val (.int .i64 s.size))], fun _ => [], fun x => [(x.2.2.2.2, Mem.gs []), (w, fun _ => False)],
    fun x => x.1 ≤ l.length ∧ validS (l.drop x.1) = true ∧ wordsGo (runesOf (l.drop x.1)) (wordAt l x.2.1 x.1) x.2.2.1 = wordsOf l ∧ (∀ f, x.2.1 = some f → f < x.1) ∧ x.2.2.2.2.heap[git]? = some (.stringIter s x.1) ∧ x.2.2.2.2.ownsRow w.heap.size 9 1 x.2.2.2.1 x.2.2.1.length (x.2.2.1.map strV) ∧ (x.2.2.1.length ≤ x.1 ∧ (∀ y ∈ x.2.2.1, y.length ≤ l.length)) ∧ w.heap.size ≤ x.2.2.2.2.heap.size, fun x => l.length - x.1, ?_, ?_⟩
  · intro w1 hA
    refine ⟨(0, none, [], .slice none 0 0, w0), ⟨by omega, by rw [List.drop_zero]; exact hv0, rfl, by simp, hit0, World.ownsRow_nil _ _ _ _, ⟨Nat.le_refl _, by simp⟩, ?_⟩, ⟨⟨_, rfl, rfl⟩, ⟨_, rfl, rfl⟩, ⟨_, rfl, rfl⟩, ⟨_, rfl, rfl⟩, ⟨_, rfl, rfl⟩, trivial⟩, hA⟩
    have := (Array.getElem?_eq_some_iff.1 hit0).1
    show w.heap.size ≤ w0.heap.size
    omega
  rintro ⟨i, fr, acc, v, wk⟩ ⟨hi, hv, hgo, hfr, hit, hown, ⟨hacc, haccl⟩, hwk⟩
  replace hi : i ≤ l.length := hi
  replace hv : validS (l.drop i) = true := hv
  replace hgo : wordsGo (runesOf (l.drop i)) (wordAt l fr i) acc = wordsOf l := hgo
  replace hfr : ∀ f, fr = some f → f < i := hfr
  replace hit : wk.heap[git]? = some (.stringIter s i) := hit
  replace hown : wk.ownsRow w.heap.size 9 1 v acc.length (acc.map strV) := hown
  replace hacc : acc.length ≤ i := hacc
  replace haccl : ∀ y ∈ acc, y.length ≤ l.length := haccl
  replace hwk : w.heap.size ≤ wk.heap.size := hwk
  have hne : v.ownBlock ≠ some git := own_ne_iter hown hit
  refine next_mem (H' := [(w, fun _ => False)]) (List.Mem.head _) hit (gs_nil _) (fun p hp => by simp at hp; subst hp; exact ⟨by simp, .inr hgw⟩) (fun hlt cp' k' wp w2 hdc hAp hs2 hit2 => ?_) (fun hge wp hAp => ?_)
  · have hlt : i < l.length := by omega
    have hz : runeLen (l.drop i) ≠ 0 := by
      intro h0
      rw [validS_bad (drop_ne hlt) h0] at hv
      cases hv
    obtain ⟨cp, hd, hsp, hh⟩ := hdec i hlt hz
    rw [hdc] at hd
    injection hd with hd1 hd2
    subst hd1
    have hle := runeLen_le (drop_ne hlt)
    rw [List.length_drop] at hle
    rw [validS_step (drop_ne hlt) hz, List.drop_drop] at hv
    rw [runesOf_step (drop_ne hlt) hz, List.drop_drop] at hgo
    rw [hd2] at hit2
    have hwn : ∀ f, f ≤ i → wordAt l (some f) (i + runeLen (l.drop i)) = wordAt l (some f) i ++ (l.drop i).take (runeLen (l.drop i)) := fun f hf => wordAt_next hf
    have hown2 : w2.ownsRow w.heap.size 9 1 v acc.length (acc.map strV) :=
      ownsRow_since (ownsRow_since hown (hAp.since (wk, _) (List.Mem.head _)) (fun g _ h => gs_nil g h)) hs2 (fun g hg e => hne (by rw [hg, e]))
    have hw2 : w.heap.size ≤ w2.heap.size := Nat.le_trans (hAp.bel (w := w) (by simp)).size hs2.size
    generalize runeLen (l.drop i) = k at *
    generalize hr : (l.drop i).take k = r at *
    have hk0 : 0 < k := by omega
    clear hAp hs2 hown hit hdec hdc
    refine ⟨_, rfl, ?_⟩
    refine ⟨fun _ => ?_, fun h => Bool.noConfusion h⟩
    refine ⟨_, rfl, _, rfl, ?_⟩
    refine ⟨fun h35 => ?_, fun h35 => ?_⟩
    · have h35 : r = [35] := hh.1 (by simpa using h35)
      rw [h35, wordsGo_hash] at hgo
      clear h35 hh hsp
      obtain ⟨wq, hwq⟩ : ∃ wq, wq = w2 := ⟨_, rfl⟩
      subst hwq
      cases fr with
      | none =>
        refine ⟨fun h => absurd h (by simp [frI]), fun _ => ?_⟩
        rw [show wordAt l none i = [] from rfl, outW, if_pos rfl] at hgo
        intro w4 hA4
        have hown4 := ownsRow_since hown2 (hA4.since (wq, _) (List.Mem.head _)) (fun g _ h => gs_nil g h)
        refine ⟨_, rfl, ?_, hA4.bel (by simp)⟩
        rw [← hgo]
        exact wordsAt_of_own hown4 (fun x hx => by have := haccl x hx; omega) (by omega)
      | some f =>
        have hf := hfr f rfl
        refine ⟨fun _ => ?_, fun h => absurd h (by simp [frI])⟩
        have hwne := wordAt_ne hf hi
        rw [outW, if_neg hwne] at hgo
        refine ⟨i, rfl, f, rfl, by omega, by omega, _, hext f i, ?_⟩
        refine ⟨⟨rfl, trivial⟩, ?_⟩
        intro g _
        have hwl : (wordAt l (some f) i).length ≤ l.length := by simp only [wordAt, List.length_take, List.length_drop]; omega
        refine append_mem2 seat (M' := []) (es := 1) (n := acc.length) (m := 1) (base := w.heap.size) (a := ⟨g, 0, none⟩) trivial (by_ := 16) rfl (by kernel_rfl) rfl rfl (by decide) (List.Mem.head _) hown2 (fun g _ h => gs_nil g h) (H' := [(w, fun _ => False)]) (fun p hp => by simp at hp; subst hp; exact ⟨by simp, Nat.le_refl _⟩) hw2 (news := [strV (wordAt l (some f) i)]) rfl (fun w' hA j u hj => ?_) (fun u hu => ?_) (by unfold maxLen; omega) (by omega) ?_
        · rw [Addr.add_mid]
          refine (hA.blk 0 _ rfl).range j u ?_
          exact hj
        · simp at hu; subst hu; rfl
        intro wp' v' w' hAp hoth hsz' hown'
        intro w4 hA4
        have hown4 := ownsRow_since hown' (hA4.since (w', _) (List.Mem.head _)) (fun g _ h => gs_nil g h)
        refine ⟨v', rfl, ?_, hA4.bel (by simp)⟩
        rw [← hgo]
        refine wordsAt_of_own (by simpa using hown4) (fun x hx => ?_) (by simp; omega)
        rcases List.mem_append.1 hx with hx | hx
        · have := haccl x hx; omega
        · simp at hx; subst hx; omega
    · have h35 : r ≠ [35] := fun e => by have := hh.2 e; simp [this] at h35
      clear hh
      have hispc := isSpace_c (cp' : Int)
      rw [hsp] at hispc
      cases hspr : spaceB r with
      | true =>
        rw [hspr] at hispc
        rw [wordsGo_space _ _ _ h35 hspr] at hgo
        intro w1 hA
        refine (hispc w1).mono ?_
        rintro e w3 ⟨rfl, hb⟩
        refine ⟨.val _, _, _, rfl, hA.below' hb, ?_⟩
        clear hA hb
        refine ⟨fun _ => ?_, fun h => Bool.noConfusion h⟩
        cases fr with
        | some f =>
          have hf := hfr f rfl
          refine ⟨fun _ => ?_, fun h => absurd h (by simp [frI])⟩
          have hwne := wordAt_ne hf hi
          rw [outW, if_neg hwne] at hgo
          refine ⟨i, rfl, f, rfl, by omega, by omega, _, hext f i, ?_⟩
          refine ⟨⟨rfl, trivial⟩, ?_⟩
          intro g _
          have hwl : (wordAt l (some f) i).length ≤ l.length := by simp only [wordAt, List.length_take, List.length_drop]; omega
          refine append_mem2 seat (M' := []) (es := 1) (n := acc.length) (m := 1) (base := w.heap.size) (a := ⟨g, 0, none⟩) trivial (by_ := 16) rfl (by kernel_rfl) rfl rfl (by decide) (List.Mem.head _) hown2 (fun g _ h => gs_nil g h) (H' := [(w, fun _ => False)]) (fun p hp => by simp at hp; subst hp; exact ⟨by simp, Nat.le_refl _⟩) hw2 (news := [strV (wordAt l (some f) i)]) rfl (fun w' hA j u hj => ?_) (fun u hu => ?_) (by unfold maxLen; omega) (by omega) ?_
          · rw [Addr.add_mid]
            refine (hA.blk 0 _ rfl).range j u ?_
            exact hj
          · simp at hu; subst hu; rfl
          intro wp v' w' hAp hoth hsz' hown'
          have hit' : w'.heap[git]? = some (.stringIter s (i + k)) := by
            have hlt2 := (Array.getElem?_eq_some_iff.1 hit2).1
            have e := (hAp.since (w2, _) (List.Mem.head _)).block git hlt2 (gs_nil _)
            have hlt3 : git < wp.heap.size := by
              have := e.trans hit2
              exact (Array.getElem?_eq_some_iff.1 this).1
            rw [hoth git hlt3 hne, e]
            exact hit2
          intro w4 hA4
          refine ⟨(i + k, none, acc ++ [wordAt l (some f) i], v', w'), ⟨by show i + k ≤ _; omega, hv, hgo, by simp, hit', ?_, ⟨by simp; omega, ?_⟩, ?_⟩, by show l.length - (i + k) < l.length - i; omega, ⟨⟨_, rfl, rfl⟩, ⟨_, rfl, rfl⟩, ⟨_, rfl, rfl⟩, ⟨_, rfl, rfl⟩, ⟨_, rfl, rfl⟩, trivial⟩, hA4⟩
          · simpa using hown'
          · intro y hy
            rcases List.mem_append.1 hy with hy | hy
            · exact haccl y hy
            · simp at hy; subst hy; exact hwl
          · exact Nat.le_trans (hAp.bel (w := w) (by simp)).size hsz'
        | none =>
          refine ⟨fun h => absurd h (by simp [frI]), fun _ => ?_⟩
          rw [show wordAt l none i = [] from rfl, outW, if_pos rfl] at hgo
          intro w1 hA
          refine (hispc w1).mono ?_
          rintro e w3 ⟨rfl, hb⟩
          refine ⟨.val _, _, _, rfl, hA.below' hb, ?_⟩
          clear hA hb
          (repeat (first | refine ⟨fun _ => ?_, fun h => Bool.noConfusion h⟩ | refine ⟨fun h => Bool.noConfusion h, fun _ => ?_⟩ | refine ⟨_, wrap_in _ (by omega) (by omega), ?_⟩ | refine ⟨_, wrapu_in _ (by omega) (by omega), ?_⟩ | refine ⟨_, wrap8_in _ (by omega) (by omega), ?_⟩ | refine ⟨_, rfl, ?_⟩ | refine ⟨rfl, ?_⟩))
          intro w4 hA4
          exact ⟨(i + k, none, acc, v, w2), ⟨by show i + k ≤ _; omega, hv, hgo, by simp, hit2, hown2, ⟨by show acc.length ≤ i + k; omega, haccl⟩, hw2⟩, by show l.length - (i + k) < l.length - i; omega, ⟨⟨_, rfl, rfl⟩, ⟨_, rfl, rfl⟩, ⟨_, rfl, rfl⟩, ⟨_, rfl, rfl⟩, ⟨_, rfl, rfl⟩, trivial⟩, hA4⟩
      | false =>
        rw [hspr] at hispc
        rw [wordsGo_text _ _ _ h35 hspr] at hgo
        intro w1 hA
        refine (hispc w1).mono ?_
        rintro e w3 ⟨rfl, hb⟩
        refine ⟨.val _, _, _, rfl, hA.below' hb, ?_⟩
        clear hA hb
        (repeat (first | refine ⟨fun _ => ?_, fun h => Bool.noConfusion h⟩ | refine ⟨fun h => Bool.noConfusion h, fun _ => ?_⟩ | refine ⟨_, wrap_in _ (by omega) (by omega), ?_⟩ | refine ⟨_, wrapu_in _ (by omega) (by omega), ?_⟩ | refine ⟨_, wrap8_in _ (by omega) (by omega), ?_⟩ | refine ⟨_, rfl, ?_⟩ | refine ⟨rfl, ?_⟩))
        intro w1 hA
        refine (hispc w1).mono ?_
        rintro e w3 ⟨rfl, hb⟩
        refine ⟨.val _, _, _, rfl, hA.below' hb, ?_⟩
        clear hA hb
        refine ⟨fun _ => ?_, fun h => Bool.noConfusion h⟩
        cases fr with
        | some f =>
          have hf := hfr f rfl
          refine ⟨fun h => absurd h (by show ¬ decide ((f : Int) < 0) = true; rw [decide_eq_true_eq]; omega), fun _ => ?_⟩
          rw [← hwn f (by omega)] at hgo
          intro w4 hA4
          exact ⟨(i + k, some f, acc, v, w2), ⟨by show i + k ≤ _; omega, hv, hgo, fun f' e => by injection e with e; subst e; show f < i + k; omega, hit2, hown2, ⟨by show acc.length ≤ i + k; omega, haccl⟩, hw2⟩, by show l.length - (i + k) < l.length - i; omega, ⟨⟨_, rfl, rfl⟩, ⟨_, rfl, rfl⟩, ⟨_, rfl, rfl⟩, ⟨_, rfl, rfl⟩, ⟨_, rfl, rfl⟩, trivial⟩, hA4⟩
        | none =>
          refine ⟨fun _ => ?_, fun h => absurd h (by simp [frI])⟩
          have e1 : wordAt l (some i) (i + k) = r := by rw [hwn i (Nat.le_refl _)]; simp [wordAt]
          rw [show wordAt l none i = [] from rfl, List.nil_append, ← e1] at hgo
          intro w4 hA4
          exact ⟨(i + k, some i, acc, v, w2), ⟨by show i + k ≤ _; omega, hv, hgo, fun f' e => by injection e with e; subst e; show i < i + k; omega, hit2, hown2, ⟨by show acc.length ≤ i + k; omega, haccl⟩, hw2⟩, by show l.length - (i + k) < l.length - i; omega, ⟨⟨_, rfl, rfl⟩, ⟨_, rfl, rfl⟩, ⟨_, rfl, rfl⟩, ⟨_, rfl, rfl⟩, ⟨_, rfl, rfl⟩, trivial⟩, hA4⟩
  · have hi2 : i = l.length := by omega
    rw [List.drop_of_length_le (by omega), runesOf_nil, wordsGo_nil] at hgo
    have hown2 : wp.ownsRow w.heap.size 9 1 v acc.length (acc.map strV) :=
      ownsRow_since hown (hAp.since (wk, _) (List.Mem.head _)) (fun g _ h => gs_nil g h)
    have hw2 : w.heap.size ≤ wp.heap.size := (hAp.bel (w := w) (by simp)).size
    have hse : (s.size : Int) = (i : Int) := by omega
    clear hAp
    refine ⟨_, rfl, ?_⟩
    refine ⟨fun h => Bool.noConfusion h, fun _ => ?_⟩
    obtain ⟨wq, hwq⟩ : ∃ wq, wq = wp := ⟨_, rfl⟩
    subst hwq
    rw [hse]
    cases fr with
    | none =>
      refine ⟨fun h => absurd h (by simp [frI]), fun _ => ?_⟩
      rw [show wordAt l none i = [] from rfl, outW, if_pos rfl] at hgo
      intro w4 hA4
      have hown4 := ownsRow_since hown2 (hA4.since (wq, _) (List.Mem.head _)) (fun g _ h => gs_nil g h)
      refine ⟨_, rfl, ?_, hA4.bel (by simp)⟩
      rw [← hgo]
      exact wordsAt_of_own hown4 (fun x hx => by have := haccl x hx; omega) (by omega)
    | some f =>
      have hf := hfr f rfl
      refine ⟨fun _ => ?_, fun h => absurd h (by simp [frI])⟩
      have hwne := wordAt_ne hf hi
      rw [outW, if_neg hwne] at hgo
      refine ⟨i, rfl, f, rfl, by omega, by omega, _, hext f i, ?_⟩
      refine ⟨⟨rfl, trivial⟩, ?_⟩
      intro g _
      have hwl : (wordAt l (some f) i).length ≤ l.length := by simp only [wordAt, List.length_take, List.length_drop]; omega
      refine append_mem2 seat (M' := []) (es := 1) (n := acc.length) (m := 1) (base := w.heap.size) (a := ⟨g, 0, none⟩) trivial (by_ := 16) rfl (by kernel_rfl) rfl rfl (by decide) (List.Mem.head _) hown2 (fun g _ h => gs_nil g h) (H' := [(w, fun _ => False)]) (fun p hp => by simp at hp; subst hp; exact ⟨by simp, Nat.le_refl _⟩) hw2 (news := [strV (wordAt l (some f) i)]) rfl (fun w' hA j u hj => ?_) (fun u hu => ?_) (by unfold maxLen; omega) (by omega) ?_
      · rw [Addr.add_mid]
        refine (hA.blk 0 _ rfl).range j u ?_
        exact hj
      · simp at hu; subst hu; rfl
      intro wp' v' w' hAp hoth hsz' hown'
      intro w4 hA4
      have hown4 := ownsRow_since hown' (hA4.since (w', _) (List.Mem.head _)) (fun g _ h => gs_nil g h)
      refine ⟨v', rfl, ?_, hA4.bel (by simp)⟩
      rw [← hgo]
      refine wordsAt_of_own (by simpa using hown4) (fun x hx => ?_) (by simp; omega)
      rcases List.mem_append.1 hx with hx | hx
      · have := haccl x hx; omega
      · simp at hx; subst hx; omega
end Go.Proofs.YtllepnadffndnaaDoor
namespace Go.Proofs.YtllepnadffndnaaDoor
open Go.RowKit
theorem wrap_u64 (n : Int) (h1 : 0 ≤ n) (h2 : n < 18446744073709551616) : IntKind.u64.wrap n = n := by
  simp only [IntKind.wrap, IntKind.bits, IntKind.signed]
  simp
  omega
theorem wrap_u8 (n : Int) (h1 : 0 ≤ n) (h2 : n < 256) : IntKind.u8.wrap n = n := by
  simp only [IntKind.wrap, IntKind.bits, IntKind.signed]
  simp
  omega
theorem ba_app (a b : List UInt8) : (⟨a.toArray⟩ ++ ⟨b.toArray⟩ : ByteArray) = ⟨(a ++ b).toArray⟩ := by
  apply ByteArray.ext; simp
theorem decDigits_short (u : Nat) : (Lib.decDigits u).length ≤ 1 + u / 10 := by
  induction u using Nat.strongRecOn with
  | _ u ih =>
    rw [Lib.decDigits]
    by_cases h : u < 10
    · simp [h]
    · have := ih (u / 10) (by omega)
      simp [h]
      omega
theorem unsigned_c (n : Nat) (hn : n < 18446744073709551616) (w : World) :
    Calls Tryd.prog 26 #[.int .u64 n] w fun e w' => e = .returned (.string ⟨(Lib.decDigits n).toArray⟩) ∧ Below w.heap.size w w' := by
  refine calls_of_vc seat Tryd.func26 rfl rfl (Nat.le_of_ble_eq_true rfl) (N := 17) (args := [.val (.int .u64 n)]) (Nat.le_of_ble_eq_true rfl) rfl (A.start w) ?_
  refine ⟨Nat × List UInt8, fun x => [(0, .val (.int .u64 x.1)), (3, .val (.string ⟨x.2.toArray⟩))], fun _ => [], fun _ => [(w, fun _ => False)], fun x => x.1 < 18446744073709551616 ∧ Lib.decDigits x.1 ++ x.2 = Lib.decDigits n, fun x => x.1, ?_, ?_⟩
  · intro w1 hA
    exact ⟨(n, []), ⟨hn, by simp⟩, ⟨⟨_, rfl, rfl⟩, ⟨_, rfl, rfl⟩, trivial⟩, hA⟩
  rintro ⟨m, s⟩ ⟨hm, hs⟩
  have hm : m < 18446744073709551616 := hm
  have hs : Lib.decDigits m ++ s = Lib.decDigits n := hs
  have hlen : s.length ≤ 1 + n / 10 := by
    have h1 := decDigits_short n
    rw [← hs, List.length_append] at h1
    omega
  refine ⟨by omega, ((m % 10 : Nat) : Int), by rw [Int.tmod_eq_emod_of_nonneg (by omega)]; omega, ?_⟩
  refine ⟨((48 + m % 10 : Nat) : Int), by rw [wrap_u64 _ (by omega) (by omega)]; omega, ?_⟩
  refine ⟨((48 + m % 10 : Nat) : Int), wrap_u8 _ (by omega) (by omega), ?_⟩
  refine ⟨⟨rfl, trivial⟩, ?_⟩
  intro g _
  have hdig : ((UInt8.ofNat (48 + m % 10)).toNat : Int) = ((48 + m % 10 : Nat) : Int) := by
    rw [UInt8.toNat_ofNat']
    omega
  refine ⟨.string ⟨[UInt8.ofNat (48 + m % 10)].toArray⟩, fun w' hA => run_convert_bytes_back w' 38 9 5 ⟨g, 0, none⟩ 1 [UInt8.ofNat (48 + m % 10)] Tryd.underlying38 Tryd.underlying5 Tryd.underlying9 (fun j hj => ?_), ?_⟩
  · have hj0 : j = 0 := by simpa using hj
    subst hj0
    rw [show (⟨g, 0, none⟩ : Addr).add 0 = ⟨g, 0, none⟩ from rfl, hA.cellAt 0 rfl rfl rfl]
    simp only [List.getElem_cons_zero, hdig]
    rfl
  refine ⟨by simp [ByteArray.size]; omega, ?_⟩
  refine ⟨by omega, ((m / 10 : Nat) : Int), ?_, ?_⟩
  · rw [Int.tdiv_eq_ediv_of_nonneg (by omega), wrap_u64 _ (by omega) (by omega)]
    omega
  refine ⟨fun h => ?_, fun h => ?_⟩
  · intro w' hA
    have h0 : ((m / 10 : Nat) : Int) = 0 := by simpa using h
    refine ⟨?_, hA.bel (by simp)⟩
    have hm10 : m < 10 := by omega
    have hs' : [UInt8.ofNat (48 + m % 10)] ++ s = Lib.decDigits n := by
      rw [← hs, Lib.decDigits, dif_pos hm10, Nat.mod_eq_of_lt hm10]
    show Ending.returned (.string _) = _
    rw [ba_app, hs']
  · intro w' hA
    have h0 : ¬ ((m / 10 : Nat) : Int) = 0 := by simpa using h
    have hm10 : ¬ m < 10 := by omega
    refine ⟨(m / 10, UInt8.ofNat (48 + m % 10) :: s), ⟨by show m / 10 < _; omega, ?_⟩, by show m / 10 < m; omega, ⟨⟨_, rfl, rfl⟩, ⟨_, rfl, ?_⟩, trivial⟩, hA.sub trivial⟩
    · show Lib.decDigits (m / 10) ++ UInt8.ofNat (48 + m % 10) :: s = _
      rw [← hs, Lib.decDigits.eq_def m, dif_neg hm10]
      simp
    · show Value.string _ = Value.string _
      rw [ba_app]; rfl
theorem decimal_c (n : Int) (h0 : -9223372036854775808 ≤ n) (h1 : n < 9223372036854775808) (w : World) :
    Calls Tryd.prog 38 #[.int .i64 n] w fun e w' => e = .returned (.string ⟨(Lib.itoa n).toArray⟩) ∧ Below w.heap.size w w' := by
  refine calls_of_vc seat Tryd.func38 rfl rfl (Nat.le_of_ble_eq_true rfl) (N := 13) (args := [.val (.int .i64 n)]) (Nat.le_of_ble_eq_true rfl) rfl (A.start w) ?_
  refine ⟨fun h => ?_, fun h => ?_⟩
  · have hn : n < 0 := by simpa using h
    refine ⟨n + 18446744073709551616, ?_, (n.natAbs : Int), ?_, ?_⟩
    · simp only [IntKind.wrap, IntKind.bits, IntKind.signed]
      simp
      omega
    · simp only [IntKind.wrap, IntKind.bits, IntKind.signed]
      simp
      omega
    intro w1 hA
    refine (unsigned_c n.natAbs (by omega) w1).mono ?_
    rintro e w2 ⟨rfl, hb⟩
    refine ⟨.val _, _, _, rfl, hA.below' hb, ?_⟩
    have hlen := decDigits_short n.natAbs
    refine ⟨by simp [ByteArray.size]; omega, ?_⟩
    intro w' hA
    refine ⟨?_, hA.bel (by simp)⟩
    show Ending.returned (.string _) = _
    rw [show (⟨#[45]⟩ : ByteArray) = ⟨[45].toArray⟩ from rfl, ba_app, Lib.itoa, if_pos hn]
    rfl
  · have hn : ¬ n < 0 := by simpa using h
    refine ⟨(n.toNat : Int), ?_, ?_⟩
    · simp only [IntKind.wrap, IntKind.bits, IntKind.signed]
      simp
      omega
    intro w1 hA
    refine (unsigned_c n.toNat (by omega) w1).mono ?_
    rintro e w2 ⟨rfl, hb⟩
    refine ⟨.val _, _, _, rfl, hA.below' hb, ?_⟩
    intro w' hA
    refine ⟨?_, hA.bel (by simp)⟩
    show Ending.returned (.string _) = _
    rw [Lib.itoa, if_neg hn]
theorem dd_len : ∀ (k u : Nat), u < 10 ^ (k + 1) → (Lib.decDigits u).length ≤ k + 1
  | 0, u, h => by rw [Lib.decDigits, dif_pos (by simpa using h)]; simp
  | k + 1, u, h => by
    rw [Lib.decDigits]
    by_cases hu : u < 10
    · simp [hu]
    · have := dd_len k (u / 10) (by rw [Nat.pow_succ] at h; omega)
      simp [hu]
      omega
theorem itoa_len (n : Int) (h0 : -9223372036854775808 ≤ n) (h1 : n < 9223372036854775808) : (Lib.itoa n).length ≤ 20 := by
  unfold Lib.itoa
  split
  · have := dd_len 18 n.natAbs (by omega)
    simp; omega
  · have := dd_len 18 n.toNat (by omega)
    omega
theorem isBuilder_since {T e : TypeId} {B b : Nat} {bs : List Value} {wk w : World} {ex : Fp} (h : Lib.IsBuilder T e B b bs wk) (hs : Since ex wk w) (hx : ∀ x, ex x → x < B) : Lib.IsBuilder T e B b bs w := by
  have key : ∀ p, Lib.BuilderAt T e B b p bs wk → Lib.BuilderAt T e B b p bs w := by
    rintro p hb
    have hlt := hb.lt
    obtain ⟨hB, v, hbk, hown, hne⟩ := hb
    refine ⟨hB, v, (hs.block b hlt fun h => ?_).trans hbk, ownsRow_since hown hs (fun g hg h => ?_), hne⟩
    · have := hx b h; omega
    · have h1 := (hown.lt g hg).1
      have h2 := hx g h
      omega
  exact h.imp (key _) (key _)
end Go.Proofs.YtllepnadffndnaaDoor
namespace Go.Proofs.YtllepnadffndnaaDoor
open Go.RowKit
theorem ne_str (w : Bs) : (!((⟨w.toArray⟩ : ByteArray).toList == (⟨#[]⟩ : ByteArray).toList)) = decide (w ≠ []) := by
  rw [str_eq]
  cases w <;> simp
set_option maxHeartbeats 2000000 in
theorem rwords_c (s : ByteArray) (hs : s.size ≤ 1048576) (hv0 : validS s.data.toList = true) (w : World) :
    Calls Tryd.prog 56 #[.string s] w fun e w' => ∃ v, e = .returned v ∧ WordsAt w w' v (wordsOf s.data.toList) ∧ Below w.heap.size w w' := by
  have hsz := str_len s
  have hext := extract_eq s
  have hrune := rune_c s
  generalize hl : s.data.toList = l at *
  refine calls_of_vc seat Tryd.func56 rfl rfl (Nat.le_of_ble_eq_true rfl) (N := 45) (args := [.val (.string s)]) (Nat.le_of_ble_eq_true rfl) rfl (A.start w) ?_
  refine ⟨Nat × Bs × List Bs × Value × World, fun x => [(5, .val (.int .i64 x.1)), (4, .val (.string ⟨x.2.1.toArray⟩)), (3, .val x.2.2.2.1), (0, .val (.string s))], fun _ => [], fun x => [(x.2.2.2.2, Mem.gs []), (w, fun _ => False)],
    fun x => x.1 ≤ l.length ∧ validS (l.drop x.1) = true ∧ wordsGo (runesOf (l.drop x.1)) x.2.1 x.2.2.1 = wordsOf l ∧ x.2.1.length ≤ x.1 ∧ x.2.2.2.2.ownsRow w.heap.size 9 1 x.2.2.2.1 x.2.2.1.length (x.2.2.1.map strV) ∧ (x.2.2.1.length ≤ x.1 ∧ (∀ y ∈ x.2.2.1, y.length ≤ l.length)) ∧ w.heap.size ≤ x.2.2.2.2.heap.size, fun x => l.length - x.1, ?_, ?_⟩
  · intro w1 hA
    exact ⟨(0, [], [], .slice none 0 0, w1), ⟨by omega, by rw [List.drop_zero]; exact hv0, rfl, Nat.le_refl _, World.ownsRow_nil _ _ _ _, ⟨Nat.le_refl _, by simp⟩, (hA.bel (by simp)).size⟩, ⟨⟨_, rfl, rfl⟩, ⟨_, rfl, rfl⟩, ⟨_, rfl, rfl⟩, ⟨_, rfl, rfl⟩, trivial⟩, hA.now⟩
  rintro ⟨i, wd, acc, v, wk⟩ ⟨hi, hv, hgo, hwd, hown, ⟨hacc, haccl⟩, hwk⟩
  replace hi : i ≤ l.length := hi
  replace hv : validS (l.drop i) = true := hv
  replace hgo : wordsGo (runesOf (l.drop i)) wd acc = wordsOf l := hgo
  replace hwd : wd.length ≤ i := hwd
  replace hown : wk.ownsRow w.heap.size 9 1 v acc.length (acc.map strV) := hown
  replace hacc : acc.length ≤ i := hacc
  replace haccl : ∀ y ∈ acc, y.length ≤ l.length := haccl
  replace hwk : w.heap.size ≤ wk.heap.size := hwk
  refine ⟨fun h => ?_, fun h => ?_⟩
  · have hlt : i < l.length := by have := of_decide_eq_true h; omega
    have hz : runeLen (l.drop i) ≠ 0 := by
      intro h0
      rw [validS_bad (drop_ne hlt) h0] at hv
      cases hv
    have hle := runeLen_le (drop_ne hlt)
    rw [List.length_drop] at hle
    rw [validS_step (drop_ne hlt) hz, List.drop_drop] at hv
    rw [runesOf_step (drop_ne hlt) hz, List.drop_drop] at hgo
    have hrc := hrune i (by omega) hlt
    rw [runeAt_nat] at hrc
    have hrl : ((l.drop i).take (runeLen (l.drop i))).length = runeLen (l.drop i) := by
      rw [List.length_take, List.length_drop]; omega
    have he := hext i (i + runeLen (l.drop i))
    rw [show i + runeLen (l.drop i) - i = runeLen (l.drop i) by omega] at he
    generalize runeLen (l.drop i) = k at *
    generalize hr : (l.drop i).take k = r at *
    have hk0 : 0 < k := by omega
    (intro w1 hA; refine (hrc w1).mono ?_; rintro e w2 ⟨rfl, hb⟩; refine ⟨.val _, _, _, rfl, hA.below' hb, ?_⟩)
    refine ⟨((i + k : Nat) : Int), wrap_in _ (by omega) (by omega), ?_⟩
    refine ⟨i + k, rfl, i, rfl, by omega, by omega, _, he, ?_⟩
    refine ⟨((i + k : Nat) : Int), wrap_in _ (by omega) (by omega), ?_⟩
    refine ⟨fun h35 => ?_, fun h35 => ?_⟩
    · have h35 : r = [35] := by rw [str_eq] at h35; simpa using h35
      rw [h35, wordsGo_hash] at hgo
      have hown2 := hown
      have hw2 := hwk
      obtain ⟨wq, hwq⟩ : ∃ wq, wq = wk := ⟨_, rfl⟩
      subst hwq
      refine ⟨fun hne => ?_, fun hne => ?_⟩
      · have hne : wd ≠ [] := by rw [ne_str] at hne; exact of_decide_eq_true hne
        rw [outW, if_neg hne] at hgo
        refine ⟨⟨rfl, trivial⟩, ?_⟩
        intro g _
        refine append_mem2 seat (M' := []) (es := 1) (n := acc.length) (m := 1) (base := w.heap.size) (a := ⟨g, 0, none⟩) trivial (by_ := 16) rfl (by kernel_rfl) rfl rfl (by decide) (List.Mem.head _) hown2 (fun g _ h => gs_nil g h) (H' := [(w, fun _ => False)]) (fun p hp => by simp at hp; subst hp; exact ⟨by simp, Nat.le_refl _⟩) hw2 (news := [strV wd]) rfl (fun w' hA j u hj => ?_) (fun u hu => ?_) (by unfold maxLen; omega) (by omega) ?_
        · rw [Addr.add_mid]
          refine (hA.blk 0 _ rfl).range j u ?_
          exact hj
        · simp at hu; subst hu; rfl
        intro wp' v' w' hAp hoth hsz' hown'
        intro w4 hA4
        have hown4 := ownsRow_since hown' (hA4.since (w', _) (List.Mem.head _)) (fun g _ h => gs_nil g h)
        refine ⟨v', rfl, ?_, hA4.bel (by simp)⟩
        rw [← hgo]
        refine wordsAt_of_own (by simpa using hown4) (fun x hx => ?_) (by simp; omega)
        rcases List.mem_append.1 hx with hx | hx
        · have := haccl x hx; omega
        · simp at hx; subst hx; omega
      · have hne : wd = [] := by rw [ne_str] at hne; simpa using hne
        rw [outW, if_pos hne] at hgo
        intro w4 hA4
        have hown4 := ownsRow_since hown2 (hA4.since (wq, _) (List.Mem.head _)) (fun g _ h => gs_nil g h)
        refine ⟨v, rfl, ?_, hA4.bel (by simp)⟩
        rw [← hgo]
        exact wordsAt_of_own hown4 (fun x hx => by have := haccl x hx; omega) (by omega)
    · have h35 : r ≠ [35] := by rw [str_eq] at h35; simpa using h35
      have hsc := space_c ⟨r.toArray⟩
      rw [show (⟨r.toArray⟩ : ByteArray).data.toList = r by simp] at hsc
      cases hspr : spaceB r with
      | true =>
        rw [hspr] at hsc
        rw [wordsGo_space _ _ _ h35 hspr] at hgo
        (intro w1 hA; refine (hsc w1).mono ?_; rintro e w2 ⟨rfl, hb⟩; refine ⟨.val _, _, _, rfl, hA.below' hb, ?_⟩)
        refine ⟨fun h => Bool.noConfusion h, fun _ => ?_⟩
        refine ⟨fun hne => ?_, fun hne => ?_⟩
        · have hne : wd ≠ [] := by rw [ne_str] at hne; exact of_decide_eq_true hne
          rw [outW, if_neg hne] at hgo
          refine ⟨⟨rfl, trivial⟩, ?_⟩
          intro g _
          refine append_mem2 seat (M' := []) (es := 1) (n := acc.length) (m := 1) (base := w.heap.size) (a := ⟨g, 0, none⟩) trivial (by_ := 16) rfl (by kernel_rfl) rfl rfl (by decide) (List.Mem.head _) hown (fun g _ h => gs_nil g h) (H' := [(w, fun _ => False)]) (fun p hp => by simp at hp; subst hp; exact ⟨by simp, Nat.le_refl _⟩) hwk (news := [strV wd]) rfl (fun w' hA j u hj => ?_) (fun u hu => ?_) (by unfold maxLen; omega) (by omega) ?_
          · rw [Addr.add_mid]
            refine (hA.blk 0 _ rfl).range j u ?_
            exact hj
          · simp at hu; subst hu; rfl
          intro wp v' w' hAp _ hsz' hown'
          intro w4 hA4
          refine ⟨(i + k, [], acc ++ [wd], v', w'), ⟨by show i + k ≤ _; omega, hv, hgo, Nat.zero_le _, ?_, ⟨by simp; omega, ?_⟩, ?_⟩, by show l.length - (i + k) < l.length - i; omega, ⟨⟨_, rfl, rfl⟩, ⟨_, rfl, rfl⟩, ⟨_, rfl, rfl⟩, ⟨_, rfl, rfl⟩, trivial⟩, hA4⟩
          · simpa using hown'
          · intro y hy
            rcases List.mem_append.1 hy with hy | hy
            · exact haccl y hy
            · simp at hy; subst hy; omega
          · exact Nat.le_trans (hAp.bel (w := w) (by simp)).size hsz'
        · have hne : wd = [] := by rw [ne_str] at hne; simpa using hne
          rw [outW, if_pos hne] at hgo
          subst hne
          intro w4 hA4
          exact ⟨(i + k, [], acc, v, wk), ⟨by show i + k ≤ _; omega, hv, hgo, Nat.zero_le _, hown, ⟨by show acc.length ≤ i + k; omega, haccl⟩, hwk⟩, by show l.length - (i + k) < l.length - i; omega, ⟨⟨_, rfl, rfl⟩, ⟨_, rfl, rfl⟩, ⟨_, rfl, rfl⟩, ⟨_, rfl, rfl⟩, trivial⟩, hA4⟩
      | false =>
        rw [hspr] at hsc
        rw [wordsGo_text _ _ _ h35 hspr] at hgo
        (intro w1 hA; refine (hsc w1).mono ?_; rintro e w2 ⟨rfl, hb⟩; refine ⟨.val _, _, _, rfl, hA.below' hb, ?_⟩)
        refine ⟨fun _ => ?_, fun h => Bool.noConfusion h⟩
        refine ⟨by simp [ByteArray.size]; omega, ?_⟩
        intro w4 hA4
        exact ⟨(i + k, wd ++ r, acc, v, wk), ⟨by show i + k ≤ _; omega, hv, hgo, by simp; omega, hown, ⟨by show acc.length ≤ i + k; omega, haccl⟩, hwk⟩, by show l.length - (i + k) < l.length - i; omega, ⟨⟨_, rfl, rfl⟩, ⟨_, rfl, congrArg Value.string (ba_app wd r)⟩, ⟨_, rfl, rfl⟩, ⟨_, rfl, rfl⟩, trivial⟩, hA4⟩
  · have hi2 : ¬ i < l.length := by have := of_decide_eq_false h; omega
    rw [List.drop_of_length_le (by omega), runesOf_nil, wordsGo_nil] at hgo
    have hown2 := hown
    have hw2 := hwk
    obtain ⟨wq, hwq⟩ : ∃ wq, wq = wk := ⟨_, rfl⟩
    subst hwq
    refine ⟨fun hne => ?_, fun hne => ?_⟩
    · have hne : wd ≠ [] := by rw [ne_str] at hne; exact of_decide_eq_true hne
      rw [outW, if_neg hne] at hgo
      refine ⟨⟨rfl, trivial⟩, ?_⟩
      intro g _
      refine append_mem2 seat (M' := []) (es := 1) (n := acc.length) (m := 1) (base := w.heap.size) (a := ⟨g, 0, none⟩) trivial (by_ := 16) rfl (by kernel_rfl) rfl rfl (by decide) (List.Mem.head _) hown2 (fun g _ h => gs_nil g h) (H' := [(w, fun _ => False)]) (fun p hp => by simp at hp; subst hp; exact ⟨by simp, Nat.le_refl _⟩) hw2 (news := [strV wd]) rfl (fun w' hA j u hj => ?_) (fun u hu => ?_) (by unfold maxLen; omega) (by omega) ?_
      · rw [Addr.add_mid]
        refine (hA.blk 0 _ rfl).range j u ?_
        exact hj
      · simp at hu; subst hu; rfl
      intro wp' v' w' hAp hoth hsz' hown'
      intro w4 hA4
      have hown4 := ownsRow_since hown' (hA4.since (w', _) (List.Mem.head _)) (fun g _ h => gs_nil g h)
      refine ⟨v', rfl, ?_, hA4.bel (by simp)⟩
      rw [← hgo]
      refine wordsAt_of_own (by simpa using hown4) (fun x hx => ?_) (by simp; omega)
      rcases List.mem_append.1 hx with hx | hx
      · have := haccl x hx; omega
      · simp at hx; subst hx; omega
    · have hne : wd = [] := by rw [ne_str] at hne; simpa using hne
      rw [outW, if_pos hne] at hgo
      intro w4 hA4
      have hown4 := ownsRow_since hown2 (hA4.since (wq, _) (List.Mem.head _)) (fun g _ h => gs_nil g h)
      refine ⟨v, rfl, ?_, hA4.bel (by simp)⟩
      rw [← hgo]
      exact wordsAt_of_own hown4 (fun x hx => by have := haccl x hx; omega) (by omega)
def linesGo (acc : List Bs) (h : Bs) : List Bs → List Bs
  | [] => acc
  | x :: r => acc ++ (h ++ x) :: r
theorem linesOf_nl (r : Bs) : linesOf (10 :: r) = [] :: linesOf r := by simp [linesOf]
theorem linesOf_other {c : UInt8} (r : Bs) (h : c ≠ 10) (acc : List Bs) (p : Bs) : linesGo acc p (linesOf (c :: r)) = linesGo acc (p ++ [c]) (linesOf r) := by
  have hn := linesOf_ne r
  cases hr : linesOf r with
  | nil => exact absurd hr hn
  | cons x t => simp [linesOf, if_neg h, hr, linesGo]
set_option maxHeartbeats 2000000 in
theorem lines_o (s : ByteArray) (hs : s.size ≤ 1048576) (w : World) :
    Calls Tryd.prog 24 #[.string s] w fun e w' => ∃ v, e = .returned v ∧ (w'.ownsRow w.heap.size 9 1 v (linesOf s.data.toList).length ((linesOf s.data.toList).map strV) ∧ (∀ x ∈ linesOf s.data.toList, x.length ≤ 1048576) ∧ (linesOf s.data.toList).length ≤ 1048577) ∧ Below w.heap.size w w' := by
  have hsz := str_len s
  have hext := extract_eq s
  generalize hl : s.data.toList = l at *
  refine calls_of_vc seat Tryd.func24 rfl rfl (Nat.le_of_ble_eq_true rfl) (N := 32) (args := [.val (.string s)]) (Nat.le_of_ble_eq_true rfl) rfl (A.start w) ?_
  refine ⟨Nat × Nat × List Bs × Value × World, fun x => [(5, .val (.int .i64 x.1)), (4, .val (.int .i64 x.2.1)), (3, .val x.2.2.2.1), (0, .val (.string s))], fun _ => [], fun x => [(x.2.2.2.2, Mem.gs []), (w, fun _ => False)],
    fun x => x.1 ≤ l.length + 1 ∧ x.2.1 ≤ x.1 ∧ (x.1 ≤ l.length → linesGo x.2.2.1 (wordAt l (some x.2.1) x.1) (linesOf (l.drop x.1)) = linesOf l) ∧ (x.1 = l.length + 1 → x.2.2.1 = linesOf l) ∧ x.2.2.2.2.ownsRow w.heap.size 9 1 x.2.2.2.1 x.2.2.1.length (x.2.2.1.map strV) ∧ (x.2.2.1.length ≤ x.1 ∧ (∀ y ∈ x.2.2.1, y.length ≤ l.length)) ∧ w.heap.size ≤ x.2.2.2.2.heap.size, fun x => l.length + 1 - x.1, ?_, ?_⟩
  · intro w1 hA
    refine ⟨(0, 0, [], .slice none 0 0, w1), ⟨by omega, Nat.le_refl _, fun _ => ?_, by simp, World.ownsRow_nil _ _ _ _, ⟨Nat.le_refl _, by simp⟩, (hA.bel (by simp)).size⟩, ⟨⟨_, rfl, rfl⟩, ⟨_, rfl, rfl⟩, ⟨_, rfl, rfl⟩, ⟨_, rfl, rfl⟩, trivial⟩, hA.now⟩
    have hn := linesOf_ne l
    show linesGo [] (wordAt l (some 0) 0) (linesOf (l.drop 0)) = linesOf l
    rw [List.drop_zero]
    cases hlo : linesOf l with
    | nil => exact absurd hlo hn
    | cons x t => simp [linesGo, wordAt]
  rintro ⟨i, fr, acc, v, wk⟩ ⟨hi, hfr, hgo, hdone, hown, ⟨hacc, haccl⟩, hwk⟩
  replace hi : i ≤ l.length + 1 := hi
  replace hfr : fr ≤ i := hfr
  replace hgo : i ≤ l.length → linesGo acc (wordAt l (some fr) i) (linesOf (l.drop i)) = linesOf l := hgo
  replace hdone : i = l.length + 1 → acc = linesOf l := hdone
  replace hown : wk.ownsRow w.heap.size 9 1 v acc.length (acc.map strV) := hown
  replace hacc : acc.length ≤ i := hacc
  replace haccl : ∀ y ∈ acc, y.length ≤ l.length := haccl
  replace hwk : w.heap.size ≤ wk.heap.size := hwk
  refine ⟨fun h => ?_, fun h => ?_⟩
  · have hlt : i ≤ l.length := by have := of_decide_eq_true h; omega
    replace hgo := hgo hlt
    have hwl : (wordAt l (some fr) i).length ≤ l.length := by simp only [wordAt, List.length_take, List.length_drop]; omega
    refine ⟨fun he => ?_, fun he => ?_⟩
    · have he : i < l.length := by have := ne_of_beq_false he; omega
      have hd : l.drop i = byteAt l i :: l.drop (i + 1) := by
        rw [List.drop_eq_getElem_cons he]
        congr 1
        have := byteAt_some he
        rw [List.getElem?_eq_getElem he] at this
        exact Option.some.inj this
      have hb := byteAt_some he
      have hu := u8eq (byteAt l i) 10
      refine ⟨i, _, rfl, by rw [hl]; exact hb, ?_⟩
      refine ⟨fun h10 => ?_, fun h10 => ?_⟩
      · have h10 : byteAt l i = 10 := eq_of_beq (hu.symm.trans h10)
        rw [hd, h10, linesOf_nl] at hgo
        refine ⟨i, rfl, fr, rfl, by omega, by omega, _, hext fr i, ?_⟩
        refine ⟨⟨rfl, trivial⟩, ?_⟩
        intro g _
        refine append_mem2 seat (M' := []) (es := 1) (n := acc.length) (m := 1) (base := w.heap.size) (a := ⟨g, 0, none⟩) trivial (by_ := 16) rfl (by kernel_rfl) rfl rfl (by decide) (List.Mem.head _) hown (fun g _ h => gs_nil g h) (H' := [(w, fun _ => False)]) (fun p hp => by simp at hp; subst hp; exact ⟨by simp, Nat.le_refl _⟩) hwk (news := [strV (wordAt l (some fr) i)]) rfl (fun w' hA j u hj => ?_) (fun u hu => ?_) (by unfold maxLen; omega) (by omega) ?_
        · rw [Addr.add_mid]
          refine (hA.blk 0 _ rfl).range j u ?_
          exact hj
        · simp at hu; subst hu; rfl
        intro wp v' w' hAp _ hsz' hown'
        refine ⟨((i + 1 : Nat) : Int), wrap_in _ (by omega) (by omega), ?_⟩
        refine ⟨((i + 1 : Nat) : Int), wrap_in _ (by omega) (by omega), ?_⟩
        intro w4 hA4
        refine ⟨(i + 1, i + 1, acc ++ [wordAt l (some fr) i], v', w'), ⟨by show i + 1 ≤ _; omega, Nat.le_refl _, ?_, ?_, by simpa using hown', ⟨by simp; omega, fun y hy => by rcases List.mem_append.1 hy with hy | hy; exact haccl y hy; simp at hy; subst hy; exact hwl⟩, Nat.le_trans (hAp.bel (w := w) (by simp)).size hsz'⟩, by show l.length + 1 - (i + 1) < l.length + 1 - i; omega, ⟨⟨_, rfl, rfl⟩, ⟨_, rfl, rfl⟩, ⟨_, rfl, rfl⟩, ⟨_, rfl, rfl⟩, trivial⟩, hA4⟩
        · intro _
          rw [show wordAt l (some (i + 1)) (i + 1) = [] by simp [wordAt]]
          have hn := linesOf_ne (l.drop (i + 1))
          rw [← hgo]
          cases hlo : linesOf (l.drop (i + 1)) with
          | nil => exact absurd hlo hn
          | cons x t => simp [linesGo]
        · intro e; exact absurd e (by show ¬ i + 1 = l.length + 1; omega)
      · have h10 : byteAt l i ≠ 10 := ne_of_beq_false (hu.symm.trans h10)
        rw [hd, linesOf_other _ h10] at hgo
        have hwn := wordAt_next (l := l) (f := fr) (i := i) (k := 1) hfr
        rw [show (l.drop i).take 1 = [byteAt l i] by rw [hd]; rfl] at hwn
        rw [← hwn] at hgo
        refine ⟨((i + 1 : Nat) : Int), wrap_in _ (by omega) (by omega), ?_⟩
        intro w4 hA4
        exact ⟨(i + 1, fr, acc, v, wk), ⟨by show i + 1 ≤ _; omega, by show fr ≤ i + 1; omega, fun _ => hgo, fun e => absurd e (by show ¬ i + 1 = l.length + 1; omega), hown, ⟨by show acc.length ≤ i + 1; omega, haccl⟩, hwk⟩, by show l.length + 1 - (i + 1) < l.length + 1 - i; omega, ⟨⟨_, rfl, rfl⟩, ⟨_, rfl, rfl⟩, ⟨_, rfl, rfl⟩, ⟨_, rfl, rfl⟩, trivial⟩, hA4⟩
    · have he : i = l.length := by have := eq_of_beq he; omega
      rw [List.drop_of_length_le (by omega)] at hgo
      refine ⟨fun _ => ?_, fun h => Bool.noConfusion h⟩
      refine ⟨i, rfl, fr, rfl, by omega, by omega, _, hext fr i, ?_⟩
      refine ⟨⟨rfl, trivial⟩, ?_⟩
      intro g _
      refine append_mem2 seat (M' := []) (es := 1) (n := acc.length) (m := 1) (base := w.heap.size) (a := ⟨g, 0, none⟩) trivial (by_ := 16) rfl (by kernel_rfl) rfl rfl (by decide) (List.Mem.head _) hown (fun g _ h => gs_nil g h) (H' := [(w, fun _ => False)]) (fun p hp => by simp at hp; subst hp; exact ⟨by simp, Nat.le_refl _⟩) hwk (news := [strV (wordAt l (some fr) i)]) rfl (fun w' hA j u hj => ?_) (fun u hu => ?_) (by unfold maxLen; omega) (by omega) ?_
      · rw [Addr.add_mid]
        refine (hA.blk 0 _ rfl).range j u ?_
        exact hj
      · simp at hu; subst hu; rfl
      intro wp v' w' hAp _ hsz' hown'
      refine ⟨((i + 1 : Nat) : Int), wrap_in _ (by omega) (by omega), ?_⟩
      refine ⟨((i + 1 : Nat) : Int), wrap_in _ (by omega) (by omega), ?_⟩
      intro w4 hA4
      refine ⟨(i + 1, i + 1, acc ++ [wordAt l (some fr) i], v', w'), ⟨by show i + 1 ≤ _; omega, Nat.le_refl _, ?_, ?_, by simpa using hown', ⟨by simp; omega, fun y hy => by rcases List.mem_append.1 hy with hy | hy; exact haccl y hy; simp at hy; subst hy; exact hwl⟩, Nat.le_trans (hAp.bel (w := w) (by simp)).size hsz'⟩, by show l.length + 1 - (i + 1) < l.length + 1 - i; omega, ⟨⟨_, rfl, rfl⟩, ⟨_, rfl, rfl⟩, ⟨_, rfl, rfl⟩, ⟨_, rfl, rfl⟩, trivial⟩, hA4⟩
      · intro e; exact absurd e (by show ¬ i + 1 ≤ l.length; omega)
      · intro _
        rw [← hgo]
        simp [linesGo, linesOf]
  · have hi2 : ¬ i ≤ l.length := by have := of_decide_eq_false h; omega
    have hd := hdone (by omega)
    intro w4 hA4
    have hown4 := ownsRow_since hown (hA4.since (wk, _) (List.Mem.head _)) (fun g _ h => gs_nil g h)
    refine ⟨v, rfl, ?_, hA4.bel (by simp)⟩
    rw [← hd]
    exact ⟨hown4, fun x hx => by have := haccl x hx; omega, by omega⟩
theorem lines_c (s : ByteArray) (hs : s.size ≤ 1048576) (w : World) :
    Calls Tryd.prog 24 #[.string s] w fun e w' => ∃ v, e = .returned v ∧ WordsAt w w' v (linesOf s.data.toList) ∧ Below w.heap.size w w' :=
  (lines_o s hs w).mono fun _ _ ⟨v, h1, ⟨h2, h3, h4⟩, h5⟩ => ⟨v, h1, wordsAt_of_own h2 (fun x hx => by have := h3 x hx; omega) (by omega), h5⟩
end Go.Proofs.YtllepnadffndnaaDoor
namespace Go.Proofs.YtllepnadffndnaaDoor
theorem runeI_same {c d d' : Int} {f1 f2 f3 g1 g2 g3 : Bool} {k : Int} (h : runeI c d f1 f2 f3 = k) (hk : k ≠ 0) (h1 : 2 ≤ k → d' = d ∧ g1 = f1) (h2 : 3 ≤ k → g2 = f2) (h3 : 4 ≤ k → g3 = f3) : runeI c d' g1 g2 g3 = k := by
  unfold runeI at h ⊢
  by_cases c1 : decide (c < 128) = true
  · rw [if_pos c1] at h ⊢; exact h
  rw [if_neg c1] at h ⊢
  have c1' : 128 ≤ c := by simp at c1; omega
  by_cases c2 : (decide (194 ≤ c) && decide (c < 224) && f1) = true
  · rw [if_pos c2] at h
    obtain ⟨_, e1⟩ := h1 (by omega)
    rw [e1, if_pos c2]; exact h
  rw [if_neg c2] at h
  by_cases c3 : (decide (224 ≤ c) && decide (c < 240) && f1 && f2) = true
  · rw [if_pos c3] at h
    have hk3 : 3 ≤ k := by split at h <;> omega
    obtain ⟨e0, e1⟩ := h1 (by omega)
    have e2 := h2 hk3
    subst e0; subst e1; subst e2
    rw [if_neg c2, if_pos c3]; exact h
  rw [if_neg c3] at h
  by_cases c4 : (decide (240 ≤ c) && decide (c < 245) && f1 && f2 && f3) = true
  · rw [if_pos c4] at h
    have hk4 : 4 ≤ k := by split at h <;> omega
    obtain ⟨e0, e1⟩ := h1 (by omega)
    have e2 := h2 (by omega)
    have e3 := h3 hk4
    subst e0; subst e1; subst e2; subst e3
    rw [if_neg c2, if_neg c3, if_pos c4]; exact h
  rw [if_neg c4] at h
  exact absurd h.symm hk
theorem byteAt_app {l h : Bs} {k j : Nat} (hj : j < k) (hk : k ≤ l.length) : byteAt (l.take k ++ h) j = byteAt l j := by
  unfold byteAt
  rw [List.getElem?_append_left (by simp; omega), List.getElem?_take, if_pos hj]
theorem followB_app {l h : Bs} {k j : Nat} (hj : j < k) (hk : k ≤ l.length) : followB (l.take k ++ h) j = followB l j := by
  unfold followB
  rw [byteAt_app hj hk]
  have : j < (l.take k ++ h).length := by simp; omega
  have h2 : j < l.length := by omega
  simp only [this, h2]
theorem runeLen_int (l : Bs) : ((runeLen l : Nat) : Int) = runeI (byteAt l 0).toNat (byteAt l 1).toNat (followB l 1) (followB l 2) (followB l 3) := by
  have := runeAt_nat l 0
  simp only [List.drop_zero] at this
  rw [← this]
  rfl
theorem runeLen_app {l : Bs} (hl : l ≠ []) (h0 : runeLen l ≠ 0) (h : Bs) : runeLen (l.take (runeLen l) ++ h) = runeLen l := by
  have hk := runeLen_le hl
  have e := runeLen_int l
  have e2 := runeLen_int (l.take (runeLen l) ++ h)
  generalize hkk : runeLen l = k at *
  rw [byteAt_app (by omega) hk] at e2
  have := runeI_same (d' := (byteAt (l.take k ++ h) 1).toNat) (g1 := followB (l.take k ++ h) 1) (g2 := followB (l.take k ++ h) 2) (g3 := followB (l.take k ++ h) 3) e.symm (by omega)
    (fun h2 => ⟨by rw [byteAt_app (by omega) hk], followB_app (by omega) hk⟩) (fun h3 => followB_app (by omega) hk) (fun h4 => followB_app (by omega) hk)
  rw [this] at e2
  omega
theorem validS_app {l : Bs} (hl : l ≠ []) (h0 : runeLen l ≠ 0) (h : Bs) : validS (l.take (runeLen l) ++ h) = validS h := by
  have hk := runeLen_le hl
  have e := runeLen_app hl h0 h
  generalize runeLen l = k at *
  have hlen : (l.take k).length = k := by rw [List.length_take]; omega
  have hne : l.take k ++ h ≠ [] := by
    intro e2
    have := congrArg List.length e2
    rw [List.length_append, hlen] at this
    simp at this
    omega
  rw [validS_step hne (by rw [e]; exact h0), e, List.drop_left' hlen]
theorem take_one {l : Bs} (h : l ≠ []) : l.take 1 = [byteAt l 0] := by
  cases l with
  | nil => exact absurd rfl h
  | cons c r => rfl
theorem rune_bytes {l : Bs} (hl : l ≠ []) (h0 : runeLen l ≠ 0) (h10 : l.take (runeLen l) ≠ [10]) : ∀ x ∈ l.take (runeLen l), x ≠ 10 := by
  have hk := runeLen_le hl
  have e := runeLen_int l
  generalize hkk : runeLen l = k at *
  intro x hx
  obtain ⟨j, hj⟩ := List.getElem?_of_mem hx
  rw [List.getElem?_take] at hj
  split at hj
  · rename_i hjk
    have hxe : byteAt l j = x := by unfold byteAt; rw [hj]; rfl
    rw [← hxe]
    intro hc
    have hc2 : (byteAt l j).toNat = 10 := by rw [hc]; rfl
    obtain ⟨_, _, a1, a2, a3⟩ := runeI_le (byteAt l 0).toNat (byteAt l 1).toNat (followB l 1) (followB l 2) (followB l 3)
    rw [← e] at a1 a2 a3
    have fb : ∀ i, followB l i = true → 128 ≤ (byteAt l i).toNat := by
      intro i hi
      unfold followB at hi
      simp only [Bool.and_eq_true, decide_eq_true_eq] at hi
      omega
    match j, hjk with
    | 0, _ =>
      have : runeI (byteAt l 0).toNat (byteAt l 1).toNat (followB l 1) (followB l 2) (followB l 3) = 1 := by
        unfold runeI
        rw [if_pos (by simp; omega)]
      have hk1 : k = 1 := by omega
      subst hk1
      apply h10
      rw [take_one hl, hc]
    | 1, _ => have := fb 1 (a1 (by omega)); omega
    | 2, _ => have := fb 2 (a2 (by omega)); omega
    | 3, _ => have := fb 3 (a3 (by omega)); omega
    | j + 4, h => 
      have := (runeI_le (byteAt l 0).toNat (byteAt l 1).toNat (followB l 1) (followB l 2) (followB l 3)).2.1
      omega
  · cases hj
theorem linesOf_pre : ∀ (p r : Bs), (∀ x ∈ p, x ≠ 10) → ∃ h t, linesOf r = h :: t ∧ linesOf (p ++ r) = (p ++ h) :: t
  | [], r, _ => by
    cases hr : linesOf r with
    | nil =>
      exfalso
      cases r <;> simp [linesOf] at hr
      split at hr
      · cases hr
      · split at hr <;> cases hr
    | cons h t => exact ⟨h, t, rfl, by simpa using hr⟩
  | c :: p, r, hp => by
    obtain ⟨h, t, h1, h2⟩ := linesOf_pre p r (fun x hx => hp x (List.mem_cons_of_mem _ hx))
    refine ⟨h, t, h1, ?_⟩
    have hc := hp c List.mem_cons_self
    rw [List.cons_append, linesOf, if_neg hc, h2]
    rfl
theorem lines_valid : ∀ (n : Nat) (l : Bs), l.length ≤ n → validS l = true → ∀ x ∈ linesOf l, validS x = true := by
  intro n
  induction n with
  | zero =>
    intro l hl hv x hx
    have : l = [] := List.length_eq_zero_iff.1 (by omega)
    subst this
    simp [linesOf] at hx
    subst hx
    exact validS_nil
  | succ n ih =>
    intro l hl hv x hx
    by_cases hne : l = []
    · subst hne
      simp [linesOf] at hx
      subst hx
      exact validS_nil
    · by_cases h0 : runeLen l = 0
      · rw [validS_bad hne h0] at hv; cases hv
      · have hk := runeLen_le hne
        rw [validS_step hne h0] at hv
        have ih := ih (l.drop (runeLen l)) (by simp; omega) hv
        have hsplit := List.take_append_drop (runeLen l) l
        by_cases h10 : l.take (runeLen l) = [10]
        · have hl10 : ∀ r : Bs, linesOf ([10] ++ r) = [] :: linesOf r := fun r => by simp [linesOf]
          have hx2 : x ∈ linesOf (l.take (runeLen l) ++ l.drop (runeLen l)) := by rw [hsplit]; exact hx
          rw [h10, hl10] at hx2
          replace hx := hx2
          rcases List.mem_cons.1 hx with rfl | hx
          · exact validS_nil
          · exact ih x hx
        · obtain ⟨h, t, e1, e2⟩ := linesOf_pre (l.take (runeLen l)) (l.drop (runeLen l)) (rune_bytes hne h0 h10)
          rw [hsplit] at e2
          rw [e2] at hx
          rcases List.mem_cons.1 hx with hx | hx
          · rw [hx, validS_app hne h0]
            exact ih h (List.mem_of_getElem? (i := 0) (by simp only [e1]; exact List.getElem?_cons_zero))
          · exact ih x (by simp only [e1]; exact List.mem_cons_of_mem _ hx)
theorem lines_len : ∀ (l : Bs), (linesOf l).length ≤ l.length + 1 ∧ ∀ x ∈ linesOf l, x.length ≤ l.length
  | [] => by simp [linesOf]
  | c :: r => by
    obtain ⟨h1, h2⟩ := lines_len r
    unfold linesOf
    split
    · refine ⟨by simp; omega, fun x hx => ?_⟩
      rcases List.mem_cons.1 hx with rfl | hx
      · simp
      · have := h2 x hx; simp; omega
    · split
      · rename_i h t hr
        rw [hr] at h1 h2
        refine ⟨by simp at h1 ⊢; omega, fun x hx => ?_⟩
        rcases List.mem_cons.1 hx with rfl | hx
        · have := h2 h List.mem_cons_self; simp; omega
        · have := h2 x (List.mem_cons_of_mem _ hx); simp; omega
      · simp
end Go.Proofs.YtllepnadffndnaaDoor
namespace Go.Proofs.YtllepnadffndnaaDoor
open Go.RowKit
def strB (l : Bs) : ByteArray := ⟨l.toArray⟩
theorem strB_list (l : Bs) : (strB l).data.toList = l := by simp [strB]
theorem strB_inj {a b : Bs} (h : strB a = strB b) : a = b := by rw [← strB_list a, h, strB_list]
def triV (r : MConfig × Int × Int) : Value := .tuple #[.agg ⟨cfgV r.1⟩, .int .i64 r.2.1, .int .i64 r.2.2]
theorem parse_long {t : Bs} (h : 4096 < t.length) : parseSpec t = (zeroC, 0, 3) := by unfold parseSpec; rw [if_pos h]
theorem parse_bad {t : Bs} (h : ¬ 4096 < t.length) (h2 : validS t = false) : parseSpec t = (zeroC, 0, 4) := by unfold parseSpec; rw [if_neg h, if_pos h2]
theorem parse_go {t : Bs} (h : ¬ 4096 < t.length) (h2 : validS t = true) : parseSpec t = goSpec (linesOf t) 0 defC [] := by unfold parseSpec; rw [if_neg h, if_neg (by simp [h2])]
theorem key_of_index {a : Bs} {r : Int} (h : (r = -1 ∧ ∀ k : Nat, ((List.range 12).map fun k => strB (nameL k))[k]? ≠ some (strB a)) ∨ ∃ k : Nat, r = k ∧ k < ((List.range 12).map fun k => strB (nameL k)).length ∧ ((List.range 12).map fun k => strB (nameL k))[k]? = some (strB a) ∧ ∀ j : Nat, j < k → ((List.range 12).map fun k => strB (nameL k))[j]? ≠ some (strB a)) :
    (r = -1 ∧ keyIdx a = none) ∨ ∃ k : Nat, r = k ∧ k < 12 ∧ keyIdx a = some k := by
  have hg : ∀ k, k < 12 → ((List.range 12).map fun k => strB (nameL k))[k]? = some (strB (nameL k)) := by
    intro k hk
    rw [List.getElem?_map, List.getElem?_range hk]; rfl
  rcases h with ⟨hr, hn⟩ | ⟨k, hr, hlt, hk, _⟩
  · refine .inl ⟨hr, ?_⟩
    cases hx : keyIdx a with
    | none => rfl
    | some k =>
      obtain ⟨h1, h2⟩ := keyIdx_lt hx
      exact absurd (by rw [hg k h1, h2]) (hn k)
  · have hlt : k < 12 := by simpa using hlt
    refine .inr ⟨k, hr, hlt, ?_⟩
    rw [hg k hlt] at hk
    exact keyIdx_of hlt (strB_inj (Option.some.inj hk))
theorem gs_two (g0 g1 : Nat) (t : TypeId) (kb1 kb0 : List SV) : ∀ b, Mem.gs [(1, (⟨g1, t, kb1⟩ : KB)), (0, ⟨g0, t, kb0⟩)] b → b = g0 ∨ b = g1 := by
  rintro b ⟨i, kb, hi, rfl⟩
  simp only [Mem.find_cons] at hi
  split at hi
  · injection hi with hi; subst hi; exact .inr rfl
  · split at hi
    · injection hi with hi; subst hi; exact .inl rfl
    · simp [Mem.find] at hi
theorem keysV_eq : keysV = (List.range 12).map fun k => strV (nameL k) := rfl
set_option maxRecDepth 100000 in
set_option maxHeartbeats 4000000 in
theorem rparse_c (s : ByteArray) (hs : s.size ≤ 140737488355328) (w : World) :
    Calls Tryd.prog 43 #[.string s] w fun e w' => e = .returned (triV (parseSpec s.data.toList)) ∧ Below w.heap.size w w' := by
  have hsz := str_len s
  have q1 := @parse_long s.data.toList
  have q2 := @parse_bad s.data.toList
  have q3 := @parse_go s.data.toList
  have hrunes := runes_c s hs
  generalize parseSpec s.data.toList = res at q1 q2 q3 ⊢
  refine calls_of_vc seat Tryd.func43 rfl rfl (Nat.le_of_ble_eq_true rfl) (N := 96) (args := [.val (.string s)]) (Nat.le_of_ble_eq_true rfl) rfl (A.start w) ?_
  intro g0 hg0
  refine ⟨fun h => ?_, fun h => ?_⟩
  · have h : 4096 < s.data.toList.length := by have := of_decide_eq_true h; omega
    refine ⟨trivial, ?_⟩
    refine ⟨rfl, rfl, rfl, rfl, ?_⟩
    refine ⟨rfl, rfl, ?_⟩
    intro w' hA
    refine ⟨?_, hA.bel (by simp)⟩
    rw [q1 h]; rfl
  have hlen : ¬ 4096 < s.data.toList.length := by have := of_decide_eq_false h; omega
  replace q2 := q2 hlen
  replace q3 := q3 hlen
  clear q1 h
  intro w1 hA
  refine (hrunes w1).mono ?_
  rintro e w2 ⟨n, rfl, hb⟩
  refine ⟨.val _, _, _, rfl, hA.below' hb, ?_⟩
  clear hA hb
  refine ⟨_, rfl, _, rfl, ?_⟩
  cases hv : validS s.data.toList with
  | false =>
    refine ⟨fun _ => ?_, fun h => Bool.noConfusion h⟩
    refine ⟨trivial, ?_⟩
    refine ⟨rfl, rfl, rfl, rfl, ?_⟩
    refine ⟨rfl, rfl, ?_⟩
    intro w' hA
    refine ⟨?_, hA.bel (by simp)⟩
    rw [q2 hv]; rfl
  | true =>
  replace q3 := q3 hv
  clear q2
  refine ⟨fun h => Bool.noConfusion h, fun _ => ?_⟩
  (intro w1 hA; refine (rdefault_c w1).mono ?_; rintro e w2 ⟨rfl, hb⟩; refine ⟨.val _, _, _, rfl, hA.below' hb, ?_⟩)
  intro g1 hg1
  refine ⟨rfl, rfl, rfl, rfl, ?_⟩
  intro w1 hA
  refine (lines_c s (by omega) w1).mono ?_
  rintro e wL ⟨vL, rfl, hwL, hb⟩
  obtain ⟨aL, cL, rfl, hsl⟩ := hwL
  have hgs : ∀ b, w1.heap.size ≤ b → ¬ (b = g0 ∨ b = g1) := by
    have h0 := (hA.blk 0 _ rfl).lt
    have h1 := (hA.blk 1 _ rfl).lt
    intro b hb hor
    have h0 : g0 < w1.heap.size := h0
    have h1 : g1 < w1.heap.size := h1
    omega
  have hbase : w.heap.size ≤ wL.heap.size := Nat.le_trans (hA.bel (w := w) (by simp)).size hb.size
  have hgL : ∀ b, wL.heap.size ≤ b → ¬ (b = g0 ∨ b = g1) := fun b h => hgs b (Nat.le_trans hb.size h)
  have hvl : ∀ x ∈ linesOf s.data.toList, validS x = true := lines_valid _ _ (Nat.le_refl _) hv
  have hll : ∀ x ∈ linesOf s.data.toList, x.length ≤ s.data.toList.length := (lines_len _).2
  have hnl : (linesOf s.data.toList).length ≤ s.data.toList.length + 1 := (lines_len _).1
  refine ⟨.val _, [(1, ⟨g1, 24, cfgS defC⟩), (0, ⟨g0, 24, cfgS zeroC⟩)], [(wL, fun b => b = g0 ∨ b = g1), (w, fun _ => False)], rfl, ((hA.below' hb).sub (M' := [(1, (⟨g1, 24, cfgS defC⟩ : KB)), (0, ⟨g0, 24, cfgS zeroC⟩)]) ⟨rfl, rfl, trivial⟩).remember _ (gs_two g0 g1 _ _ _), ?_⟩
  clear hA hb
  generalize linesOf s.data.toList = ls at *
  refine ⟨Nat × MConfig × List Nat × Value × World, fun x => [(31, .val (.int .i64 x.1)), (30, .val (.int .i64 ls.length)), (29, .val (.slice aL ls.length cL)), (7, .ptr 1 g1 0), (2, .ptr 0 g0 0), (8, .val x.2.2.2.1)],
    fun x => [(1, ⟨g1, 24, cfgS x.2.1⟩), (0, ⟨g0, 24, cfgS zeroC⟩)], fun x => [(x.2.2.2.2, fun b => b = g0 ∨ b = g1), (wL, fun b => b = g0 ∨ b = g1), (w, fun _ => False)],
    fun x => x.1 ≤ ls.length ∧ goSpec (ls.drop x.1) x.1 x.2.1 x.2.2.1 = res ∧ x.2.2.2.2.ownsRow wL.heap.size 9 1 x.2.2.2.1 x.2.2.1.length (x.2.2.1.reverse.map fun k => strV (nameL k)) ∧ x.2.2.1.length ≤ x.1 ∧ wL.heap.size ≤ x.2.2.2.2.heap.size ∧ ∀ k ∈ x.2.2.1, k < 12, fun x => ls.length - x.1, ?_, ?_⟩
  · intro w1 hA
    exact ⟨(0, defC, [], .slice none 0 0, w1), ⟨by omega, q3.symm, World.ownsRow_nil _ _ _ _, Nat.le_refl _, (hA.since (wL, _) (List.Mem.head _)).size, by simp⟩, ⟨⟨_, rfl, rfl⟩, ⟨_, rfl, rfl⟩, ⟨_, rfl, rfl⟩, ⟨_, rfl, rfl⟩, ⟨_, rfl, rfl⟩, ⟨_, rfl, rfl⟩, trivial⟩, hA.remember _ (gs_two g0 g1 _ _ _)⟩
  rintro ⟨i, c, seen, v, wk⟩ ⟨hi, hgo, hown, hse, hwk, hs12⟩
  replace hi : i ≤ ls.length := hi
  replace hgo : goSpec (ls.drop i) i c seen = res := hgo
  replace hown : wk.ownsRow wL.heap.size 9 1 v seen.length (seen.reverse.map fun k => strV (nameL k)) := hown
  replace hse : seen.length ≤ i := hse
  replace hwk : wL.heap.size ≤ wk.heap.size := hwk
  replace hs12 : ∀ k ∈ seen, k < 12 := hs12
  obtain ⟨aS, cS, hvS, hslS⟩ := Sl.of_own (r := Rp.str) (S := fun b => wL.heap.size ≤ b) (ys := seen.reverse.map fun k => strB (nameL k)) hown (fun b hb _ => hb)
    (by have := SlL_strs wk (fun b => wL.heap.size ≤ b) (seen.reverse.map nameL) (fun x hx => by obtain ⟨k, _, rfl⟩ := List.mem_map.1 hx; have := nameL_sh k; omega)
        simpa [List.map_map, Function.comp_def, strB] using this) (by simp) (by omega)
  subst hvS
  have hno : ∀ g, (Value.slice aS (seen.reverse.map fun k => strB (nameL k)).length cS).ownBlock = some g → ¬ (g = g0 ∨ g = g1) := fun g hg => hgL g (hown.lt g hg).1
  obtain ⟨c0, c1, c2, c3, c4, c5, c6, c7, c8, c9, c10, c11⟩ := c
  refine ⟨fun h => ?_, fun h => ?_⟩
  · have hlt : i < ls.length := by have := of_decide_eq_true h; omega
    have hlt2 : i < (ls.map fun l => (⟨l.toArray⟩ : ByteArray)).length := by simpa using hlt
    obtain ⟨b, o, cs, rfl, hSb, hr, hat, _, _⟩ := hsl.get 1 rfl (i := i) hlt2
    obtain ⟨hcs, _⟩ : cs = [.string ((ls.map fun l => (⟨l.toArray⟩ : ByteArray))[i])] ∧ _ := hr
    subst hcs
    have hx : (ls.map fun l => (⟨l.toArray⟩ : ByteArray))[i] = strB ls[i] := by simp [strB]
    rw [hx] at hat
    have hvx := hvl ls[i] (List.getElem_mem hlt)
    have hlx := hll ls[i] (List.getElem_mem hlt)
    have hdr := List.drop_eq_getElem_cons hlt
    rw [hdr] at hgo
    generalize ls[i] = x at *
    rw [goSpec] at hgo
    refine ⟨b, o, i, rfl, rfl, hlt, ?_⟩
    refine ⟨.string (strB x), fun w' hA => ldS seat.tab rfl rfl hat (j := 0) rfl (by omega) (hA.since (wL, _) (List.Mem.tail _ (List.Mem.head _))) (hgs b hSb), ?_⟩
    have hwc := rwords_c (strB x) (by simp [strB, ByteArray.size]; omega) (by rw [strB_list]; exact hvx)
    rw [strB_list] at hwc
    generalize wordsOf x = ws at hwc hgo
    intro w1 hA
    refine (hwc w1).mono ?_
    rintro e wW ⟨vW, rfl, hwW, hb⟩
    obtain ⟨aW, cW, rfl, hslW⟩ := hwW
    have hW1 : wL.heap.size ≤ w1.heap.size := (hA.since (wL, _) (List.Mem.tail _ (List.Mem.head _))).size
    have hgsW : ∀ b, w1.heap.size ≤ b → ¬ (b = g0 ∨ b = g1) := by
      have h0 := (hA.blk 0 _ rfl).lt
      have h1 := (hA.blk 1 _ rfl).lt
      intro b hb hor
      have h0 : g0 < w1.heap.size := h0
      have h1 : g1 < w1.heap.size := h1
      omega
    refine ⟨.val _, _, (wW, fun b => b = g0 ∨ b = g1) :: [(wk, fun b => b = g0 ∨ b = g1), (wL, fun b => b = g0 ∨ b = g1), (w, fun _ => False)], rfl, (hA.below' hb).remember _ (gs_two g0 g1 _ _ _), ?_⟩
    clear hA hb
    refine ⟨fun h0 => ?_, fun h0 => ?_⟩
    · have h0 : ws = [] := List.length_eq_zero_iff.1 (by have := eq_of_beq h0; omega)
      rw [if_pos h0] at hgo
      refine ⟨((i + 1 : Nat) : Int), wrap_in _ (by omega) (by omega), ?_⟩
      intro w' hA
      refine ⟨(i + 1, ⟨c0, c1, c2, c3, c4, c5, c6, c7, c8, c9, c10, c11⟩, seen, _, wk), ⟨by show i + 1 ≤ _; omega, hgo, hown, by show seen.length ≤ i + 1; omega, hwk, hs12⟩, by show ls.length - (i + 1) < ls.length - i; omega, ⟨⟨_, rfl, rfl⟩, ⟨_, rfl, rfl⟩, ⟨_, rfl, rfl⟩, ⟨_, rfl, rfl⟩, ⟨_, rfl, rfl⟩, ⟨_, rfl, rfl⟩, trivial⟩, hA.hist (fun p hp => List.mem_cons_of_mem _ hp)⟩
    have h0 : ws ≠ [] := by intro e; rw [e] at h0; simp at h0
    rw [if_neg h0] at hgo
    refine ⟨fun h2 => ?_, fun h2 => ?_⟩
    · have h2 : ws.length ≠ 2 := by intro e; rw [e] at h2; simp at h2
      have hls : lineSpec ⟨c0, c1, c2, c3, c4, c5, c6, c7, c8, c9, c10, c11⟩ seen ws = (2, ⟨c0, c1, c2, c3, c4, c5, c6, c7, c8, c9, c10, c11⟩, seen) := by
        match ws, h2 with
        | [], _ => rfl
        | [_], _ => rfl
        | [_, _], h => exact absurd rfl h
        | _ :: _ :: _ :: _, _ => rfl
      rw [hls] at hgo
      refine ⟨trivial, ?_⟩
      rw [if_pos (by simp)] at hgo
      refine ⟨_, wrap_in _ (by omega) (by omega), ?_⟩
      refine ⟨rfl, rfl, rfl, rfl, ?_⟩
      refine ⟨rfl, rfl, ?_⟩
      intro w' hA
      refine ⟨?_, hA.bel (by simp)⟩
      rw [← hgo]; rfl
    have h2 : ws.length = 2 := by
      have := of_decide_eq_false (by simpa using h2 : decide ((ws.length : Int) ≠ 2) = false)
      omega
    obtain ⟨a, b2, rfl⟩ : ∃ a b2, ws = [a, b2] := by
      match ws, h2 with
      | [a, b2], _ => exact ⟨a, b2, rfl⟩
    have sl0 : ∃ bb oo, aW = some ⟨bb, oo, none⟩ ∧ w1.heap.size ≤ bb ∧ wW.rangeAt bb (oo + 0 * 1) [.string (strB a)] := by
      obtain ⟨b, o, cs, h1, h2, hr, hat, _, _⟩ := hslW.get 1 rfl (i := 0) (by simp)
      obtain ⟨hcs, _⟩ : cs = [.string (strB a)] ∧ _ := hr
      subst hcs
      exact ⟨b, o, h1, h2, hat⟩
    have sl1 : ∃ bb oo, aW = some ⟨bb, oo, none⟩ ∧ w1.heap.size ≤ bb ∧ wW.rangeAt bb (oo + 1 * 1) [.string (strB b2)] ∧ (strB b2).size ≤ 140737488355328 := by
      obtain ⟨b, o, cs, h1, h2, hr, hat, _, _⟩ := hslW.get 1 rfl (i := 1) (by simp)
      obtain ⟨hcs, hsz2⟩ : cs = [.string (strB b2)] ∧ (strB b2).size ≤ 140737488355328 := hr
      subst hcs
      exact ⟨b, o, h1, h2, hat, hsz2⟩
    obtain ⟨bb, oo, rfl, hbb, hat0⟩ := sl0
    obtain ⟨_, _, e1, _, hat1, hb2l⟩ := sl1
    cases e1
    have ld0 : ∀ {M : Mem} {H : Hist} (w' : World), A M H w' → (wW, fun b => b = g0 ∨ b = g1) ∈ H → (loadVar 9 ⟨bb, oo + 0 * 1, none⟩).run Tryd.prog w' = .ok (.string (strB a)) w' :=
      fun w' hA hm => ldS seat.tab rfl rfl hat0 (j := 0) rfl (by omega) (hA.since _ hm) (hgsW bb hbb)
    have ld1' : ∀ {M : Mem} {H : Hist} (w' : World), A M H w' → (wW, fun b => b = g0 ∨ b = g1) ∈ H → (loadVar 9 ⟨bb, oo + 1 * 1, none⟩).run Tryd.prog w' = .ok (.string (strB b2)) w' :=
      fun w' hA hm => ldS seat.tab rfl rfl hat1 (j := 0) rfl (by omega) (hA.since _ hm) (hgsW bb hbb)
    refine ⟨_, [], [(wW, fun b => b = g0 ∨ b = g1)], [], .inr rfl, .inl trivial, fun p hp => by (simp at hp; subst hp; exact List.mem_cons_self), (.take 1 (.take 2 (.take 3 (.alt 0 (.alt 4 (.take 5 .done) .stop) .stop)))), by kernel_rfl, ?_⟩
    refine ⟨bb, oo, 0, rfl, rfl, by simp, ?_⟩
    refine ⟨.string (strB a), fun w' hA => ld0 w' hA (List.Mem.head _), ?_⟩
    intro w2 hA
    refine (keys_c w2).mono ?_
    rintro e w3 ⟨gk, rfl, hb, hgk, hbk⟩
    refine ⟨.val _, [(2, ⟨gk, 9, keysV.map SV.val⟩), (1, ⟨g1, 24, cfgS ⟨c0, c1, c2, c3, c4, c5, c6, c7, c8, c9, c10, c11⟩⟩), (0, ⟨g0, 24, cfgS zeroC⟩)], _, rfl, hA.adopt hb hgk hbk, List.Mem.head _, ?_⟩
    clear hA hb hbk
    intro w2 hA
    refine (index_c (some ⟨gk, 0, none⟩) 12 ((List.range 12).map fun k => strB (nameL k)) (strB a) w2 (S := Every) (Sl.of_blk (cells := keysV) (hA.blk 2 _ rfl) trivial (SlL_strs w2 Every ((List.range 12).map nameL) (fun x hx => by obtain ⟨k, _, rfl⟩ := List.mem_map.1 hx; have := nameL_sh k; omega)) (by decide))).mono ?_
    rintro e w3 ⟨r, rfl, hr, hb⟩
    refine ⟨.val _, _, _, rfl, hA.below' hb, List.Mem.head _, ?_⟩
    clear hA hb
    rcases key_of_index hr with ⟨rfl, hk⟩ | ⟨k, rfl, hk12, hk⟩
    · have hls : lineSpec ⟨c0, c1, c2, c3, c4, c5, c6, c7, c8, c9, c10, c11⟩ seen [a, b2] = (10, ⟨c0, c1, c2, c3, c4, c5, c6, c7, c8, c9, c10, c11⟩, seen) := by
        simp only [lineSpec, hk]
      rw [hls] at hgo
      refine ⟨fun _ => ?_, fun h => absurd h (by decide)⟩
      refine ⟨trivial, ?_⟩
      rw [if_pos (by simp)] at hgo
      refine ⟨_, wrap_in _ (by omega) (by omega), ?_⟩
      refine ⟨rfl, rfl, rfl, rfl, ?_⟩
      refine ⟨rfl, rfl, ?_⟩
      intro w' hA
      refine ⟨?_, hA.bel (by simp)⟩
      rw [← hgo]; rfl
    clear hr
    refine ⟨fun h => absurd (of_decide_eq_true h) (by omega), fun _ => ?_⟩
    refine ⟨bb, oo, 0, rfl, rfl, by simp, ?_⟩
    refine ⟨.string (strB a), fun w' hA => ld0 w' hA (List.Mem.head _), ?_⟩
    intro w2 hA
    refine (index_c aS cS (seen.reverse.map fun k => strB (nameL k)) (strB a) w2 (hslS.since (hA.since (wk, _) (List.Mem.tail _ (List.Mem.head _))) hgL)).mono ?_
    rintro e w3 ⟨r, rfl, hr, hb⟩
    refine ⟨.val _, _, _, rfl, hA.below' hb, ?_⟩
    clear hA hb
    have hname : nameL k = a := (keyIdx_lt hk).2
    refine ⟨fun h => ?_, fun h => ?_⟩
    · have h := of_decide_eq_true h
      have hmem : k ∈ seen := by
        rcases hr with ⟨rfl, _⟩ | ⟨j, rfl, hj, hj2, _⟩
        · exact absurd h (by decide)
        · have := List.mem_of_getElem? hj2
          obtain ⟨k', hk', e⟩ := List.mem_map.1 this
          have e := strB_inj e
          have hk' := List.mem_reverse.1 hk'
          have : k' = k := name_inj (hs12 k' hk') hk12 (e.trans hname.symm)
          rw [← this]; exact hk'
      have hls : lineSpec ⟨c0, c1, c2, c3, c4, c5, c6, c7, c8, c9, c10, c11⟩ seen [a, b2] = (8, ⟨c0, c1, c2, c3, c4, c5, c6, c7, c8, c9, c10, c11⟩, seen) := by
        simp only [lineSpec, hk, if_pos hmem]
      rw [hls] at hgo
      refine ⟨trivial, ?_⟩
      rw [if_pos (by simp)] at hgo
      refine ⟨_, wrap_in _ (by omega) (by omega), ?_⟩
      refine ⟨rfl, rfl, rfl, rfl, ?_⟩
      refine ⟨rfl, rfl, ?_⟩
      intro w' hA
      refine ⟨?_, hA.bel (by simp)⟩
      rw [← hgo]; rfl
    have h := of_decide_eq_false h
    have hmem : k ∉ seen := by
      intro hm
      rcases hr with ⟨rfl, hn⟩ | ⟨j, rfl, _⟩
      · obtain ⟨j, hj⟩ := List.getElem?_of_mem (List.mem_map.2 ⟨k, List.mem_reverse.2 hm, rfl⟩ : strB (nameL k) ∈ seen.reverse.map fun k => strB (nameL k))
        rw [hname] at hj
        exact hn j hj
      · omega
    clear hr
    have hset := rset_c ⟨c0, c1, c2, c3, c4, c5, c6, c7, c8, c9, c10, c11⟩ k hk12 (strB b2)
    rw [strB_list] at hset
    have hls : lineSpec ⟨c0, c1, c2, c3, c4, c5, c6, c7, c8, c9, c10, c11⟩ seen [a, b2] = ((setSpec ⟨c0, c1, c2, c3, c4, c5, c6, c7, c8, c9, c10, c11⟩ k b2).2, (setSpec ⟨c0, c1, c2, c3, c4, c5, c6, c7, c8, c9, c10, c11⟩ k b2).1, k :: seen) := by
      simp only [lineSpec, hk, if_neg hmem]
    rw [hls] at hgo
    replace hset := hset hb2l
    generalize setSpec ⟨c0, c1, c2, c3, c4, c5, c6, c7, c8, c9, c10, c11⟩ k b2 = sp at hset hgo
    obtain ⟨⟨d0, d1, d2, d3, d4, d5, d6, d7, d8, d9, d10, d11⟩, er⟩ := sp
    refine ⟨_, [(1, ⟨g1, 24, cfgS ⟨c0, c1, c2, c3, c4, c5, c6, c7, c8, c9, c10, c11⟩⟩)], [(wW, fun b => b = g0 ∨ b = g1)], [], .inr rfl, .inl ⟨rfl, trivial⟩, fun p hp => by (simp at hp; subst hp; exact List.mem_cons_self), (.take 0 (.take 1 (.take 2 (.take 3 (.take 4 (.alt 5 (.take 6 (.take 7 (.take 8 (.alt 9 (.alt 10 (.take 11 .done) .stop) .stop)))) (.alt 9 (.alt 5 (.take 6 (.take 7 (.take 8 (.alt 10 (.take 11 .done) .stop)))) .stop) .stop))))))), by kernel_rfl, ?_⟩
    refine ⟨rfl, rfl, ?_⟩
    refine ⟨bb, oo, 1, rfl, rfl, by simp, ?_⟩
    refine ⟨.string (strB b2), fun w' hA => ld1' w' hA (List.Mem.head _), ?_⟩
    refine ⟨?_, ?_⟩
    · intro w2 hA
      refine (hset w2).mono ?_
      rintro e w3 ⟨rfl, hb⟩
      refine ⟨.val _, _, _, rfl, hA.below' hb, rfl, List.Mem.head _, ?_⟩
      clear hA hb
      refine ⟨_, rfl, _, rfl, ?_⟩
      intro g2 _
      refine ⟨rfl, List.Mem.head _, ?_⟩
      refine ⟨rfl, rfl, rfl, rfl, ?_⟩
      refine ⟨rfl, List.Mem.head _, ?_⟩
      refine ⟨fun h => ?_, fun h => ?_⟩
      · have h : er ≠ 0 := by intro e; rw [e] at h; simp at h
        rw [if_pos h] at hgo
        refine ⟨trivial, ?_⟩
        refine ⟨_, wrap_in _ (by omega) (by omega), ?_⟩
        refine ⟨rfl, rfl, rfl, rfl, ?_⟩
        refine ⟨rfl, rfl, ?_⟩
        intro w' hA
        refine ⟨?_, hA.bel (by simp)⟩
        rw [← hgo]; rfl
      have h : er = 0 := by simpa using h
      rw [if_neg (by simp [h])] at hgo
      refine ⟨rfl, rfl, ?_⟩
      refine ⟨rfl, rfl, rfl, rfl, ?_⟩
      refine ⟨bb, oo, 0, rfl, rfl, by simp, ?_⟩
      refine ⟨.string (strB a), fun w' hA => ld0 w' hA (List.Mem.head _), ?_⟩
      refine ⟨⟨rfl, trivial⟩, ?_⟩
      intro g5 _
      refine append_mem2 seat (M' := [(1, ⟨g1, 24, cfgS ⟨d0, d1, d2, d3, d4, d5, d6, d7, d8, d9, d10, d11⟩⟩), (0, ⟨g0, 24, cfgS zeroC⟩)]) (es := 1) (n := seen.length) (m := 1) (base := wL.heap.size) (a := ⟨g5, 0, none⟩) ⟨rfl, rfl, trivial⟩ (by_ := 16) rfl (by kernel_rfl) rfl rfl (by decide) (List.Mem.tail _ (List.Mem.head _)) hown hno (H' := [(wL, fun b => b = g0 ∨ b = g1), (w, fun _ => False)]) (fun p hp => by
        simp at hp
        rcases hp with rfl | rfl
        · exact ⟨by simp, Nat.le_refl _⟩
        · exact ⟨by simp, hbase⟩) hwk (news := [strV a]) rfl (fun w' hA j u hj => ?_) (fun u hu => ?_) (by unfold maxLen; omega) (by omega) ?_
      · rw [Addr.add_mid]
        refine (hA.blk 4 _ rfl).range j u ?_
        exact hj
      · simp at hu; subst hu; rfl
      intro wp v' w' hAp _ hsz' hown'
      refine ⟨_, wrap_in _ (by omega) (by omega), ?_⟩
      intro w4 hA4
      refine ⟨(i + 1, ⟨d0, d1, d2, d3, d4, d5, d6, d7, d8, d9, d10, d11⟩, k :: seen, v', w4), ⟨by show i + 1 ≤ _; omega, hgo, ?_, by show seen.length + 1 ≤ i + 1; omega, ?_, ?_⟩, by show ls.length - (i + 1) < ls.length - i; omega, ⟨⟨_, rfl, rfl⟩, ⟨_, rfl, rfl⟩, ⟨_, rfl, rfl⟩, ⟨_, rfl, rfl⟩, ⟨_, rfl, rfl⟩, ⟨_, rfl, rfl⟩, trivial⟩, (hA4.hist (fun p hp => List.mem_cons_of_mem _ hp)).remember _ (gs_two g0 g1 _ _ _)⟩
      · have := ownsRow_since hown' (hA4.since (w', _) (List.Mem.head _)) (fun g hg hgs2 => by
          have h1 := gs_two g0 g1 _ _ _ g hgs2
          exact hgL g (hown'.lt g hg).1 h1)
        simpa [hname] using this
      · exact (hA4.since (wL, _) (List.Mem.tail _ (List.Mem.head _))).size
      · intro k' hk'
        rcases List.mem_cons.1 hk' with rfl | hk'
        · exact hk12
        · exact hs12 k' hk'
    · intro g2 _
      refine ⟨rfl, List.Mem.head _, ?_⟩
      intro w2 hA
      refine (hset w2).mono ?_
      rintro e w3 ⟨rfl, hb⟩
      refine ⟨.val _, _, _, rfl, hA.below' hb, rfl, List.Mem.head _, ?_⟩
      clear hA hb
      refine ⟨_, rfl, _, rfl, ?_⟩
      refine ⟨rfl, rfl, rfl, rfl, ?_⟩
      refine ⟨rfl, List.Mem.head _, ?_⟩
      refine ⟨fun h => ?_, fun h => ?_⟩
      · have h : er ≠ 0 := by intro e; rw [e] at h; simp at h
        rw [if_pos h] at hgo
        refine ⟨trivial, ?_⟩
        refine ⟨_, wrap_in _ (by omega) (by omega), ?_⟩
        refine ⟨rfl, rfl, rfl, rfl, ?_⟩
        refine ⟨rfl, rfl, ?_⟩
        intro w' hA
        refine ⟨?_, hA.bel (by simp)⟩
        rw [← hgo]; rfl
      have h : er = 0 := by simpa using h
      rw [if_neg (by simp [h])] at hgo
      refine ⟨rfl, rfl, ?_⟩
      refine ⟨rfl, rfl, rfl, rfl, ?_⟩
      refine ⟨bb, oo, 0, rfl, rfl, by simp, ?_⟩
      refine ⟨.string (strB a), fun w' hA => ld0 w' hA (List.Mem.head _), ?_⟩
      refine ⟨⟨rfl, trivial⟩, ?_⟩
      intro g5 _
      refine append_mem2 seat (M' := [(1, ⟨g1, 24, cfgS ⟨d0, d1, d2, d3, d4, d5, d6, d7, d8, d9, d10, d11⟩⟩), (0, ⟨g0, 24, cfgS zeroC⟩)]) (es := 1) (n := seen.length) (m := 1) (base := wL.heap.size) (a := ⟨g5, 0, none⟩) ⟨rfl, rfl, trivial⟩ (by_ := 16) rfl (by kernel_rfl) rfl rfl (by decide) (List.Mem.tail _ (List.Mem.head _)) hown hno (H' := [(wL, fun b => b = g0 ∨ b = g1), (w, fun _ => False)]) (fun p hp => by
        simp at hp
        rcases hp with rfl | rfl
        · exact ⟨by simp, Nat.le_refl _⟩
        · exact ⟨by simp, hbase⟩) hwk (news := [strV a]) rfl (fun w' hA j u hj => ?_) (fun u hu => ?_) (by unfold maxLen; omega) (by omega) ?_
      · rw [Addr.add_mid]
        refine (hA.blk 4 _ rfl).range j u ?_
        exact hj
      · simp at hu; subst hu; rfl
      intro wp v' w' hAp _ hsz' hown'
      refine ⟨_, wrap_in _ (by omega) (by omega), ?_⟩
      intro w4 hA4
      refine ⟨(i + 1, ⟨d0, d1, d2, d3, d4, d5, d6, d7, d8, d9, d10, d11⟩, k :: seen, v', w4), ⟨by show i + 1 ≤ _; omega, hgo, ?_, by show seen.length + 1 ≤ i + 1; omega, ?_, ?_⟩, by show ls.length - (i + 1) < ls.length - i; omega, ⟨⟨_, rfl, rfl⟩, ⟨_, rfl, rfl⟩, ⟨_, rfl, rfl⟩, ⟨_, rfl, rfl⟩, ⟨_, rfl, rfl⟩, ⟨_, rfl, rfl⟩, trivial⟩, (hA4.hist (fun p hp => List.mem_cons_of_mem _ hp)).remember _ (gs_two g0 g1 _ _ _)⟩
      · have := ownsRow_since hown' (hA4.since (w', _) (List.Mem.head _)) (fun g hg hgs2 => by
          have h1 := gs_two g0 g1 _ _ _ g hgs2
          exact hgL g (hown'.lt g hg).1 h1)
        simpa [hname] using this
      · exact (hA4.since (wL, _) (List.Mem.tail _ (List.Mem.head _))).size
      · intro k' hk'
        rcases List.mem_cons.1 hk' with rfl | hk'
        · exact hk12
        · exact hs12 k' hk'
  · have hge : i = ls.length := by have := of_decide_eq_false h; omega
    rw [List.drop_of_length_le (by omega), goSpec] at hgo
    refine ⟨_, rfl, rfl, _, rfl, rfl, ?_⟩
    refine ⟨fun h => ?_, fun h => ?_⟩
    · rw [if_pos (of_decide_eq_true h)] at hgo
      refine ⟨trivial, ?_⟩
      refine ⟨rfl, rfl, rfl, rfl, ?_⟩
      refine ⟨rfl, rfl, ?_⟩
      intro w' hA
      refine ⟨?_, hA.bel (by simp)⟩
      rw [← hgo]; rfl
    · rw [if_neg (of_decide_eq_false h)] at hgo
      refine ⟨rfl, rfl, ?_⟩
      refine ⟨rfl, rfl, rfl, rfl, ?_⟩
      refine ⟨rfl, rfl, ?_⟩
      intro w' hA
      refine ⟨?_, hA.bel (by simp)⟩
      rw [← hgo]; rfl
end Go.Proofs.YtllepnadffndnaaDoor
/-
  DERIVED: THE SHELF's CONTRACTS AT THIS DUMP, IN PLAIN WORDS (tools/lay-plain.mjs out of 'YtllepnadffndnaaDoorShelf.lean', which tools/lay-shelf.mjs wrote): THE SAME DECLARATIONS UNDER THE SAME NAMES: 'import', 'namespace', 'open', 'def', 'theorem' AND NOTHING ELSE: no command of the shelf's: FOR A HAND-IN. Each laying: the table of numbers ('.._ren') and one theorem, a field a fact of the dump's own or the kernel's comparison; each contract: ONE APPLICATION.
-/
namespace Go.Proofs
open Go.Shelf
def Tryd.lays169_ren : Go.Shelf.Ren := ⟨fun | 169 => 37 | n => n, fun | 70 => 70 | 9 => 9 | 0 => 0 | 72 => 72 | 37 => 38 | 127 => 90 | 3 => 3 | 5 => 5 | n => n, fun | n => n⟩
theorem Tryd.lays169 : Go.Proofs.Lays.n169 Tryd.prog Tryd.lays169_ren := {
  mixed := by kernel_rfl
  f169 := Tryd.func37.trans (congrArg some (by kernel_rfl))
  t0 := Tryd.underlying0
  a0 := Tryd.isAgg0
  z0 := Tryd.sizeOf0
  v0 := Tryd.zeroValue0
  t3 := Tryd.underlying3
  a3 := Tryd.isAgg3
  z3 := Tryd.sizeOf3
  v3 := Tryd.zeroValue3
  t9 := Tryd.underlying9
  a9 := Tryd.isAgg9
  z9 := Tryd.sizeOf9
  v9 := Tryd.zeroValue9
  t37 := Tryd.underlying38
  a37 := Tryd.isAgg38
  z37 := Tryd.sizeOf38
  v37 := Tryd.zeroValue38
  t70 := Tryd.underlying70
  a70 := Tryd.isAgg70
  z70 := Tryd.sizeOf70
  v70 := Tryd.zeroValue70
  t72 := Tryd.underlying72
  a72 := Tryd.isAgg72
  z72 := Tryd.sizeOf72
  v72 := Tryd.zeroValue72
  t127 := Tryd.underlying90
  a127 := Tryd.isAgg90
  z127 := Tryd.sizeOf90
  v127 := Tryd.zeroValue90 }
theorem Tryd.Builder_Extra_169 : Builder.Extra Tryd.prog Tryd.lays169_ren := {
  sizeBuilder := by kernel_rfl
  liesBuilder := by kernel_rfl
  t5 := Tryd.underlying5
  a5 := Tryd.isAgg5
  z5 := Tryd.sizeOf5
  v5 := Tryd.zeroValue5
  infoByte := by kernel_rfl
  cellsByte := by kernel_rfl
  sizeByte := by kernel_rfl
  neB5 := by decide }
open Go.RowKit in
theorem Tryd.Builder_String_any (B b : Nat) (l : List UInt8) (w : World) (h : Lib.IsBuilder 72 5 B b (Lib.byteCells l) w) (hBw : B ≤ w.heap.size) :
    Calls Tryd.prog 37 #[.pointer (some ⟨b, 0, none⟩)] w fun e w' => e = .returned (.string ⟨l.toArray⟩) ∧ Below B w w' := Any.Builder_String_any Tryd.lays169 Tryd.Builder_Extra_169 B b l w h hBw
def Tryd.lays283_ren : Go.Shelf.Ren := ⟨fun | 283 => 59 | n => n, fun | 3 => 3 | 9 => 9 | 4 => 4 | n => n, fun | n => n⟩
theorem Tryd.lays283 : Go.Proofs.Lays.n283 Tryd.prog Tryd.lays283_ren := {
  mixed := by kernel_rfl
  f283 := Tryd.func59.trans (congrArg some (by kernel_rfl))
  t3 := Tryd.underlying3
  a3 := Tryd.isAgg3
  z3 := Tryd.sizeOf3
  v3 := Tryd.zeroValue3
  t4 := Tryd.underlying4
  a4 := Tryd.isAgg4
  z4 := Tryd.sizeOf4
  v4 := Tryd.zeroValue4
  t9 := Tryd.underlying9
  a9 := Tryd.isAgg9
  z9 := Tryd.sizeOf9
  v9 := Tryd.zeroValue9 }
open Go.Lib in
theorem Tryd.internal_strconv_small (i : Nat) (h : i < 100) (w : World) :
    Calls Tryd.prog 59 #[.int .i64 i] w fun e w' => e = .returned (.string ⟨(Lib.decDigits i).toArray⟩) ∧ w' = w := Any.internal_strconv_small Tryd.lays283 i h w
def Tryd.laysM284_ren : Go.Shelf.Ren := ⟨fun | 284 => 60 | 129 => 74 | 317 => 73 | 318 => 75 | n => n, fun | 53 => 22 | 3 => 3 | 212 => 122 | 0 => 0 | 4 => 4 | 46 => 50 | 5 => 5 | 9 => 9 | n => n, fun | 17 => 2 | n => n⟩
theorem Tryd.laysM284 : Go.Proofs.LaysM.n284 Tryd.prog Tryd.laysM284_ren := {
  mixed := by kernel_rfl
  f129 := Tryd.func74.trans (congrArg some (by kernel_rfl))
  f284 := Tryd.func60.trans (congrArg some (by kernel_rfl))
  f317 := Tryd.func73.trans (congrArg some (by kernel_rfl))
  f318 := Tryd.func75.trans (congrArg some (by kernel_rfl))
  t0 := Tryd.underlying0
  a0 := Tryd.isAgg0
  z0 := Tryd.sizeOf0
  v0 := Tryd.zeroValue0
  t3 := Tryd.underlying3
  a3 := Tryd.isAgg3
  z3 := Tryd.sizeOf3
  v3 := Tryd.zeroValue3
  t4 := Tryd.underlying4
  a4 := Tryd.isAgg4
  z4 := Tryd.sizeOf4
  v4 := Tryd.zeroValue4
  t5 := Tryd.underlying5
  a5 := Tryd.isAgg5
  z5 := Tryd.sizeOf5
  v5 := Tryd.zeroValue5
  t9 := Tryd.underlying9
  a9 := Tryd.isAgg9
  z9 := Tryd.sizeOf9
  v9 := Tryd.zeroValue9
  t46 := Tryd.underlying50
  a46 := Tryd.isAgg50
  z46 := Tryd.sizeOf50
  v46 := Tryd.zeroValue50
  t53 := Tryd.underlying22
  a53 := Tryd.isAgg22
  z53 := Tryd.sizeOf22
  v53 := Tryd.zeroValue22
  t212 := Tryd.underlying122
  a212 := Tryd.isAgg122
  z212 := Tryd.sizeOf122
  v212 := Tryd.zeroValue122
  g17 := by kernel_rfl
  i0 := by kernel_rfl
  i3 := by kernel_rfl
  i4 := by kernel_rfl
  i5 := by kernel_rfl
  i9 := by kernel_rfl
  i46 := by kernel_rfl
  i53 := by kernel_rfl
  i212 := by kernel_rfl
  m17 := by kernel_rfl }
open Go.Lib in
theorem Tryd.internal_strconv_numDigits (u : Nat) (h1 : 1 ≤ u) (h2 : u < 18446744073709551616) (w : World) (htab : Lib.TabIs Tryd.prog w "internal/strconv.uint64pow10" .u64 Lib.pow10Tab) :
    Calls Tryd.prog 60 #[.int .u64 u] w fun e w' => e = .returned (.int .i64 (Lib.nDigits u)) ∧ w' = w := Any.internal_strconv_numDigits Tryd.laysM284 u h1 h2 w htab
def Tryd.lays285_ren : Go.Shelf.Ren := ⟨fun | 285 => 61 | n => n, fun | 37 => 38 | 53 => 22 | 3 => 3 | 4 => 4 | 51 => 123 | 9 => 9 | 5 => 5 | 0 => 0 | n => n, fun | n => n⟩
theorem Tryd.lays285 : Go.Proofs.Lays.n285 Tryd.prog Tryd.lays285_ren := {
  mixed := by kernel_rfl
  f285 := Tryd.func61.trans (congrArg some (by kernel_rfl))
  t0 := Tryd.underlying0
  a0 := Tryd.isAgg0
  z0 := Tryd.sizeOf0
  v0 := Tryd.zeroValue0
  t3 := Tryd.underlying3
  a3 := Tryd.isAgg3
  z3 := Tryd.sizeOf3
  v3 := Tryd.zeroValue3
  t4 := Tryd.underlying4
  a4 := Tryd.isAgg4
  z4 := Tryd.sizeOf4
  v4 := Tryd.zeroValue4
  t5 := Tryd.underlying5
  a5 := Tryd.isAgg5
  z5 := Tryd.sizeOf5
  v5 := Tryd.zeroValue5
  t9 := Tryd.underlying9
  a9 := Tryd.isAgg9
  z9 := Tryd.sizeOf9
  v9 := Tryd.zeroValue9
  t37 := Tryd.underlying38
  a37 := Tryd.isAgg38
  z37 := Tryd.sizeOf38
  v37 := Tryd.zeroValue38
  t51 := Tryd.underlying123
  a51 := Tryd.isAgg123
  z51 := Tryd.sizeOf123
  v51 := Tryd.zeroValue123
  t53 := Tryd.underlying22
  a53 := Tryd.isAgg22
  z53 := Tryd.sizeOf22
  v53 := Tryd.zeroValue22 }
open Go.RowKit Go.Sort Go.Lib in
theorem Tryd.internal_strconv_formatBase10 (blk off cap : Nat) (u : Nat) (d : Array UInt8) (w : World) (hH : Holds (fun (b : UInt8) => Value.int .u8 (b.toNat : Int)) w blk off d) (hu : u < 10 ^ d.size) (hu64 : u < 18446744073709551616) (hsz : d.size < 4611686018427387904) :
    Calls Tryd.prog 61 #[.slice (some ⟨blk, off, none⟩) d.size cap, .int .u64 u] w fun e w' =>
      e = .returned (.tuple #[]) ∧ ∃ (n v' : Nat) (dk : Array UInt8), w' = (putRow (fun (b : UInt8) => Value.int .u8 (b.toNat : Int)) w blk off dk).drewN n ∧ FmtInv d.size u 0 v' dk := Any.internal_strconv_formatBase10 Tryd.lays285 blk off cap u d w hH hu hu64 hsz
def Tryd.laysPu14_ren : Go.Shelf.Ren := ⟨fun | 14 => 67 | 16 => 82 | 17 => 83 | 19 => 94 | 20 => 95 | 21 => 96 | 22 => 97 | 23 => 98 | 24 => 99 | 25 => 102 | 27 => 104 | 26 => 103 | 28 => 105 | 29 => 106 | 30 => 59 | 31 => 60 | 32 => 61 | 33 => 62 | 35 => 74 | 34 => 73 | 36 => 75 | 37 => 76 | 38 => 77 | 39 => 87 | 40 => 88 | n => n, fun | 9 => 9 | 3 => 3 | 22 => 22 | 24 => 75 | 25 => 115 | 4 => 4 | 34 => 133 | 5 => 5 | 36 => 50 | 37 => 38 | 0 => 0 | 39 => 135 | 21 => 21 | 44 => 144 | 47 => 90 | 50 => 148 | 48 => 146 | 2 => 2 | 52 => 106 | 55 => 109 | 59 => 122 | 60 => 123 | 20 => 20 | 61 => 124 | 65 => 138 | 66 => 139 | 67 => 78 | n => n, fun | 0 => 6 | 1 => 7 | 2 => 2 | 3 => 4 | 4 => 5 | n => n⟩
theorem Tryd.laysPu14 : Go.Proofs.LaysPu.n14 Tryd.prog Tryd.laysPu14_ren := {
  mixed := by kernel_rfl
  f14 := Tryd.func67.trans (congrArg some (by kernel_rfl))
  f16 := Tryd.func82.trans (congrArg some (by kernel_rfl))
  f17 := Tryd.func83.trans (congrArg some (by kernel_rfl))
  f19 := Tryd.func94.trans (congrArg some (by kernel_rfl))
  f20 := Tryd.func95.trans (congrArg some (by kernel_rfl))
  f21 := Tryd.func96.trans (congrArg some (by kernel_rfl))
  f22 := Tryd.func97.trans (congrArg some (by kernel_rfl))
  f23 := Tryd.func98.trans (congrArg some (by kernel_rfl))
  f24 := Tryd.func99.trans (congrArg some (by kernel_rfl))
  f25 := Tryd.func102.trans (congrArg some (by kernel_rfl))
  f26 := Tryd.func103.trans (congrArg some (by kernel_rfl))
  f27 := Tryd.func104.trans (congrArg some (by kernel_rfl))
  f28 := Tryd.func105.trans (congrArg some (by kernel_rfl))
  f29 := Tryd.func106.trans (congrArg some (by kernel_rfl))
  f30 := Tryd.func59.trans (congrArg some (by kernel_rfl))
  f31 := Tryd.func60.trans (congrArg some (by kernel_rfl))
  f32 := Tryd.func61.trans (congrArg some (by kernel_rfl))
  f33 := Tryd.func62.trans (congrArg some (by kernel_rfl))
  f34 := Tryd.func73.trans (congrArg some (by kernel_rfl))
  f35 := Tryd.func74.trans (congrArg some (by kernel_rfl))
  f36 := Tryd.func75.trans (congrArg some (by kernel_rfl))
  f37 := Tryd.func76.trans (congrArg some (by kernel_rfl))
  f38 := Tryd.func77.trans (congrArg some (by kernel_rfl))
  f39 := Tryd.func87.trans (congrArg some (by kernel_rfl))
  f40 := Tryd.func88.trans (congrArg some (by kernel_rfl))
  t0 := Tryd.underlying0
  a0 := Tryd.isAgg0
  z0 := Tryd.sizeOf0
  v0 := Tryd.zeroValue0
  i0 := by kernel_rfl
  t2 := Tryd.underlying2
  a2 := Tryd.isAgg2
  z2 := Tryd.sizeOf2
  v2 := Tryd.zeroValue2
  i2 := by kernel_rfl
  t3 := Tryd.underlying3
  a3 := Tryd.isAgg3
  z3 := Tryd.sizeOf3
  v3 := Tryd.zeroValue3
  i3 := by kernel_rfl
  t4 := Tryd.underlying4
  a4 := Tryd.isAgg4
  z4 := Tryd.sizeOf4
  v4 := Tryd.zeroValue4
  i4 := by kernel_rfl
  t5 := Tryd.underlying5
  a5 := Tryd.isAgg5
  z5 := Tryd.sizeOf5
  v5 := Tryd.zeroValue5
  i5 := by kernel_rfl
  t9 := Tryd.underlying9
  a9 := Tryd.isAgg9
  z9 := Tryd.sizeOf9
  v9 := Tryd.zeroValue9
  i9 := by kernel_rfl
  t20 := Tryd.underlying20
  a20 := Tryd.isAgg20
  z20 := Tryd.sizeOf20
  v20 := Tryd.zeroValue20
  i20 := by kernel_rfl
  t21 := Tryd.underlying21
  a21 := Tryd.isAgg21
  z21 := Tryd.sizeOf21
  v21 := Tryd.zeroValue21
  i21 := by kernel_rfl
  t22 := Tryd.underlying22
  a22 := Tryd.isAgg22
  z22 := Tryd.sizeOf22
  v22 := Tryd.zeroValue22
  i22 := by kernel_rfl
  t24 := Tryd.underlying75
  a24 := Tryd.isAgg75
  z24 := Tryd.sizeOf75
  v24 := Tryd.zeroValue75
  i24 := by kernel_rfl
  t25 := Tryd.underlying115
  a25 := Tryd.isAgg115
  z25 := Tryd.sizeOf115
  v25 := Tryd.zeroValue115
  i25 := by kernel_rfl
  t34 := Tryd.underlying133
  a34 := Tryd.isAgg133
  z34 := Tryd.sizeOf133
  v34 := Tryd.zeroValue133
  i34 := by kernel_rfl
  c34 := by kernel_rfl
  t36 := Tryd.underlying50
  a36 := Tryd.isAgg50
  z36 := Tryd.sizeOf50
  v36 := Tryd.zeroValue50
  i36 := by kernel_rfl
  t37 := Tryd.underlying38
  a37 := Tryd.isAgg38
  z37 := Tryd.sizeOf38
  v37 := Tryd.zeroValue38
  i37 := by kernel_rfl
  t39 := Tryd.underlying135
  a39 := Tryd.isAgg135
  z39 := Tryd.sizeOf135
  v39 := Tryd.zeroValue135
  i39 := by kernel_rfl
  t44 := Tryd.underlying144
  a44 := Tryd.isAgg144
  z44 := Tryd.sizeOf144
  v44 := Tryd.zeroValue144
  i44 := by kernel_rfl
  t47 := Tryd.underlying90
  a47 := Tryd.isAgg90
  z47 := Tryd.sizeOf90
  v47 := Tryd.zeroValue90
  i47 := by kernel_rfl
  t48 := Tryd.underlying146
  a48 := Tryd.isAgg146
  z48 := Tryd.sizeOf146
  v48 := Tryd.zeroValue146
  i48 := by kernel_rfl
  t50 := Tryd.underlying148
  a50 := Tryd.isAgg148
  z50 := Tryd.sizeOf148
  v50 := Tryd.zeroValue148
  i50 := by kernel_rfl
  t52 := Tryd.underlying106
  a52 := Tryd.isAgg106
  z52 := Tryd.sizeOf106
  v52 := Tryd.zeroValue106
  i52 := by kernel_rfl
  t55 := Tryd.underlying109
  a55 := Tryd.isAgg109
  z55 := Tryd.sizeOf109
  v55 := Tryd.zeroValue109
  i55 := by kernel_rfl
  t59 := Tryd.underlying122
  a59 := Tryd.isAgg122
  z59 := Tryd.sizeOf122
  v59 := Tryd.zeroValue122
  i59 := by kernel_rfl
  t60 := Tryd.underlying123
  a60 := Tryd.isAgg123
  z60 := Tryd.sizeOf123
  v60 := Tryd.zeroValue123
  i60 := by kernel_rfl
  t61 := Tryd.underlying124
  a61 := Tryd.isAgg124
  z61 := Tryd.sizeOf124
  t65 := Tryd.underlying138
  a65 := Tryd.isAgg138
  z65 := Tryd.sizeOf138
  v65 := Tryd.zeroValue138
  i65 := by kernel_rfl
  t66 := Tryd.underlying139
  a66 := Tryd.isAgg139
  z66 := Tryd.sizeOf139
  v66 := Tryd.zeroValue139
  i66 := by kernel_rfl
  t67 := Tryd.underlying78
  a67 := Tryd.isAgg78
  z67 := Tryd.sizeOf78
  v67 := Tryd.zeroValue78
  i67 := by kernel_rfl
  g0 := by kernel_rfl
  m0 := by kernel_rfl
  g1 := by kernel_rfl
  m1 := by kernel_rfl
  g2 := by kernel_rfl
  m2 := by kernel_rfl
  g3 := by kernel_rfl
  m3 := by kernel_rfl
  g4 := by kernel_rfl
  m4 := by kernel_rfl }
open Go.RowKit in
theorem Tryd.strconv_ParseUint_10_at64_ok (s : ByteArray) (hmax : s.size ≤ 9223372036854775806) (u : Nat) (h : Lib.parseUintB 64 s.data.toList = .ok u) (w : World) :
    Calls Tryd.prog 67 #[.string s, .int .i64 10, .int .i64 64] w fun e w' => e = .returned (.tuple #[.int .u64 u, .nilIface]) ∧ (w' = w ∨ w' = Lib.bytesWorld w 5 s) := Any.strconv_ParseUint_10_at64_ok Tryd.laysPu14 s hmax u h w
open Go.RowKit in
theorem Tryd.strconv_ParseUint_10_at64_range_var (s : ByteArray) (hlim : s.size ≤ 281474976710656) (h : Lib.parseUintB 64 s.data.toList = .range) (tp : TypeId) (p : Value) (w : World) (hvar : w.var? Tryd.prog "strconv.ErrRange" = some #[.iface tp p]) :
    Calls Tryd.prog 67 #[.string s, .int .i64 10, .int .i64 64] w fun e w' => ∃ N, e = .returned (.tuple #[.int .u64 18446744073709551615, .iface 135 (.pointer (some ⟨N, 0, none⟩))]) ∧ w.heap.size ≤ N ∧ w'.heap[N]? = some (.cells #[.string ⟨#[80, 97, 114, 115, 101, 85, 105, 110, 116]⟩, .string s, .iface tp p] 144 (0, 0)) ∧ Below w.heap.size w w' := Any.strconv_ParseUint_10_at64_range_var Tryd.laysPu14 s hlim h tp p w hvar
def Tryd.laysM146_ren : Go.Shelf.Ren := ⟨fun | 146 => 40 | 221 => 51 | 268 => 64 | 138 => 65 | 143 => 66 | 195 => 78 | 197 => 79 | 218 => 80 | 219 => 81 | 260 => 89 | 217 => 90 | 225 => 91 | 224 => 92 | 267 => 93 | 266 => 100 | 314 => 101 | n => n, fun | 9 => 9 | 31 => 39 | 3 => 3 | 4 => 4 | 0 => 0 | 105 => 126 | 21 => 21 | 5 => 5 | 46 => 50 | 119 => 92 | 139 => 95 | 138 => 94 | 146 => 140 | 51 => 123 | n => n, fun | 1 => 3 | 3 => 0 | 4 => 1 | n => n⟩
theorem Tryd.laysM146 : Go.Proofs.LaysM.n146 Tryd.prog Tryd.laysM146_ren := {
  mixed := by kernel_rfl
  f138 := Tryd.func65.trans (congrArg some (by kernel_rfl))
  f143 := Tryd.func66.trans (congrArg some (by kernel_rfl))
  f146 := Tryd.func40.trans (congrArg some (by kernel_rfl))
  f195 := Tryd.func78.trans (congrArg some (by kernel_rfl))
  f197 := Tryd.func79.trans (congrArg some (by kernel_rfl))
  f217 := Tryd.func90.trans (congrArg some (by kernel_rfl))
  f218 := Tryd.func80.trans (congrArg some (by kernel_rfl))
  f219 := Tryd.func81.trans (congrArg some (by kernel_rfl))
  f221 := Tryd.func51.trans (congrArg some (by kernel_rfl))
  f224 := Tryd.func92.trans (congrArg some (by kernel_rfl))
  f225 := Tryd.func91.trans (congrArg some (by kernel_rfl))
  f260 := Tryd.func89.trans (congrArg some (by kernel_rfl))
  f266 := Tryd.func100.trans (congrArg some (by kernel_rfl))
  f267 := Tryd.func93.trans (congrArg some (by kernel_rfl))
  f268 := Tryd.func64.trans (congrArg some (by kernel_rfl))
  f314 := Tryd.func101.trans (congrArg some (by kernel_rfl))
  t0 := Tryd.underlying0
  a0 := Tryd.isAgg0
  z0 := Tryd.sizeOf0
  v0 := Tryd.zeroValue0
  t3 := Tryd.underlying3
  a3 := Tryd.isAgg3
  z3 := Tryd.sizeOf3
  v3 := Tryd.zeroValue3
  t4 := Tryd.underlying4
  a4 := Tryd.isAgg4
  z4 := Tryd.sizeOf4
  v4 := Tryd.zeroValue4
  t5 := Tryd.underlying5
  a5 := Tryd.isAgg5
  z5 := Tryd.sizeOf5
  v5 := Tryd.zeroValue5
  t9 := Tryd.underlying9
  a9 := Tryd.isAgg9
  z9 := Tryd.sizeOf9
  v9 := Tryd.zeroValue9
  t21 := Tryd.underlying21
  a21 := Tryd.isAgg21
  z21 := Tryd.sizeOf21
  v21 := Tryd.zeroValue21
  t31 := Tryd.underlying39
  a31 := Tryd.isAgg39
  z31 := Tryd.sizeOf39
  v31 := Tryd.zeroValue39
  t46 := Tryd.underlying50
  a46 := Tryd.isAgg50
  z46 := Tryd.sizeOf50
  v46 := Tryd.zeroValue50
  t51 := Tryd.underlying123
  a51 := Tryd.isAgg123
  z51 := Tryd.sizeOf123
  v51 := Tryd.zeroValue123
  t105 := Tryd.underlying126
  a105 := Tryd.isAgg126
  z105 := Tryd.sizeOf126
  v105 := Tryd.zeroValue126
  t119 := Tryd.underlying92
  a119 := Tryd.isAgg92
  z119 := Tryd.sizeOf92
  t138 := Tryd.underlying94
  a138 := Tryd.isAgg94
  z138 := Tryd.sizeOf94
  v138 := Tryd.zeroValue94
  t139 := Tryd.underlying95
  a139 := Tryd.isAgg95
  z139 := Tryd.sizeOf95
  v139 := Tryd.zeroValue95
  t146 := Tryd.underlying140
  a146 := Tryd.isAgg140
  z146 := Tryd.sizeOf140
  v146 := Tryd.zeroValue140
  g1 := by kernel_rfl
  g3 := by kernel_rfl
  g4 := by kernel_rfl
  i0 := by kernel_rfl
  i3 := by kernel_rfl
  i4 := by kernel_rfl
  i5 := by kernel_rfl
  i9 := by kernel_rfl
  i21 := by kernel_rfl
  i31 := by kernel_rfl
  i46 := by kernel_rfl
  i51 := by kernel_rfl
  i105 := by kernel_rfl
  i138 := by kernel_rfl
  i139 := by kernel_rfl
  i146 := by kernel_rfl
  m1 := by kernel_rfl
  s1_3 := fun w h => Go.Proofs.cell_of_shapedOpen_int (zero := #[.int .i64 0]) (t := 3) h (of_decide_eq_true (by kernel_rfl)) (by kernel_rfl) rfl (by kernel_rfl) (by kernel_rfl) Tryd.underlying3
  m3 := by kernel_rfl
  m4 := by kernel_rfl }
open Go.RowKit Go.Lib in
theorem Tryd.strings_Split_shaped (s sep : ByteArray) (w : World) (h : w.ShapedOpen Tryd.prog) (hs : s.size < 4294967281) (h1 : 1 ≤ sep.size) :
    Calls Tryd.prog 40 #[.string s, .string sep] w fun e w' =>
      e = .returned (.slice (some ⟨w.heap.size, 0, none⟩) (Lib.countB s sep + 1) (Lib.countB s sep + 1)) ∧ w' = w.alloc (.cells ((Lib.splitB sep 0 (Lib.countB s sep) s).map Value.string).toArray 9) := Any.strings_Split_shaped Tryd.laysM146 s sep w h hs h1
end Go.Proofs
namespace Go.Proofs.YtllepnadffndnaaDoor
open Go.RowKit
def findF (a : Bs) : Int := match keyIdx a with | some k => k | none => -1
theorem findF_some {a : Bs} {k : Nat} (h : keyIdx a = some k) : findF a = k := by unfold findF; rw [h]
theorem findF_none {a : Bs} (h : keyIdx a = none) : findF a = -1 := by unfold findF; rw [h]
theorem keyIdx_all {a : Bs} (h : ∀ j, j < 12 → nameL j ≠ a) : keyIdx a = none := by
  cases hk : keyIdx a with
  | none => rfl
  | some k => exact absurd (keyIdx_lt hk).2 (h k (keyIdx_lt hk).1)
set_option maxRecDepth 100000 in
theorem find_c (s : ByteArray) (w : World) : Calls Tryd.prog 53 #[.string s] w fun e w' => e = .returned (.int .i64 (findF s.data.toList)) ∧ Below w.heap.size w w' := by
  generalize ha : s.data.toList = a
  have f1 := @findF_some a
  have f2 := @findF_none a
  generalize findF a = r at f1 f2 ⊢
  refine calls_of_vc seat Tryd.func53 rfl rfl (Nat.le_of_ble_eq_true rfl) (N := 16) (args := [.val (.string s)]) (Nat.le_of_ble_eq_true rfl) rfl (A.start w) ?_
  (intro w1 hA; refine (rows_c w1).mono ?_; rintro e w2 ⟨rfl, hb⟩; refine ⟨.val _, _, _, rfl, hA.below' hb, ?_⟩)
  refine ⟨Nat, fun k => [(6, .val (.int .i64 k)), (5, .val (.agg ⟨rowsV⟩)), (0, .val (.string s))], fun _ => [], fun _ => [(w, fun _ => False)], fun k => k ≤ 12 ∧ ∀ j, j < k → nameL j ≠ a, fun k => 12 - k, ?_, ?_⟩
  · intro w1 hA
    exact ⟨0, ⟨by omega, fun j hj => by omega⟩, ⟨⟨_, rfl, rfl⟩, ⟨_, rfl, rfl⟩, ⟨_, rfl, rfl⟩, trivial⟩, hA⟩
  rintro k ⟨hk, hno⟩
  refine ⟨fun h => ?_, fun h => ?_⟩
  · have hk12 : k < 12 := by have : (k : Int) < 12 := of_decide_eq_true h
                             omega
    refine ⟨k, rfl, hk12, _, rowsV_at k hk12, ?_⟩
    intro g2 _
    refine ⟨rfl, rfl, rfl, rfl, ?_⟩
    refine ⟨_, rfl, rfl, ?_⟩
    refine ⟨fun h1 => ?_, fun h1 => ?_⟩
    · have h1 : nameL k = a := by
        rw [← beq_toListBytes] at h1
        have := ba_beq h1
        rw [← ha, ← this]
      intro w' hA
      refine ⟨?_, hA.bel (by simp)⟩
      rw [f1 (keyIdx_of hk12 h1)]; rfl
    · have h1 : nameL k ≠ a := by
        intro e
        rw [str_eq] at h1
        rw [ha, ← e] at h1
        simp at h1
      refine ⟨((k + 1 : Nat) : Int), wrap_in _ (by omega) (by omega), ?_⟩
      intro w' hA
      refine ⟨k + 1, ⟨by omega, fun j hj => ?_⟩, by show 12 - (k + 1) < 12 - k; omega, ⟨⟨_, rfl, rfl⟩, ⟨_, rfl, rfl⟩, ⟨_, rfl, rfl⟩, trivial⟩, hA.sub trivial⟩
      by_cases e : j = k
      · subst e; exact h1
      · exact hno j (by omega)
  · have e : k = 12 := by have : ¬ (k : Int) < 12 := of_decide_eq_false h
                          have : k ≤ 12 := hk
                          omega
    subst e
    intro w' hA
    refine ⟨?_, hA.bel (by simp)⟩
    rw [f2 (keyIdx_all hno)]; rfl
def readT (b : Bs) (m : Bool) : Wide × Bool × Bool :=
  if b = [45, 49] ∧ m = true then (⟨0, true⟩, false, true) else
  match numberB b with
  | some n => (⟨n, false⟩, false, true)
  | none => if digitsB b then (⟨18446744073709551615, false⟩, true, true) else (⟨0, false⟩, false, false)
theorem readT_m1 {b : Bs} {m : Bool} (h : b = [45, 49]) (h2 : m = true) : readT b m = (⟨0, true⟩, false, true) := by unfold readT; rw [if_pos ⟨h, h2⟩]
theorem readT_num {b : Bs} {m : Bool} {n : Nat} (h : ¬ (b = [45, 49] ∧ m = true)) (hn : numberB b = some n) : readT b m = (⟨n, false⟩, false, true) := by unfold readT; rw [if_neg h, hn]
theorem readT_big {b : Bs} {m : Bool} (h : ¬ (b = [45, 49] ∧ m = true)) (hn : numberB b = none) (hd : digitsB b = true) : readT b m = (⟨18446744073709551615, false⟩, true, true) := by unfold readT; rw [if_neg h, hn]; simp only [hd, if_true]
theorem readT_bad {b : Bs} {m : Bool} (h : ¬ (b = [45, 49] ∧ m = true)) (hn : numberB b = none) (hd : digitsB b = false) : readT b m = (⟨0, false⟩, false, false) := by unfold readT; rw [if_neg h, hn]; simp only [hd, Bool.false_eq_true, if_false]
def readV (r : Wide × Bool × Bool) : Value := .tuple #[.agg ⟨wideV r.1⟩, .bool r.2.1, .bool r.2.2]
theorem pu_M : ∀ (l : Bs) (acc : Nat), acc < 18446744073709551616 → l.all digitB = true →
    Lib.parseUintM (2 ^ 64 - 1) acc l = if l.foldl (fun a c => a * 10 + (c.toNat - 48)) acc < 18446744073709551616 then .ok (l.foldl (fun a c => a * 10 + (c.toNat - 48)) acc) else .range
  | [], acc, h, _ => by simp [Lib.parseUintM, h]
  | c :: r, acc, h, hd => by
    simp only [List.all_cons, Bool.and_eq_true] at hd
    obtain ⟨hc, hr⟩ := hd
    have hc : 48 ≤ c.toNat ∧ c.toNat ≤ 57 := by
      simp [digitB] at hc
      omega
    have mono : ∀ (r : Bs) (b : Nat), b ≤ r.foldl (fun a c => a * 10 + (c.toNat - 48)) b := by
      intro r
      induction r with
      | nil => intro b; exact Nat.le_refl _
      | cons c r ih => intro b; exact Nat.le_trans (show b ≤ b * 10 + (c.toNat - 48) by omega) (ih _)
    have hm := mono r (acc * 10 + (c.toNat - 48))
    unfold Lib.parseUintM
    rw [if_pos hc, List.foldl_cons]
    by_cases h1 : 1844674407370955162 ≤ acc
    · rw [if_pos h1, if_neg (by omega)]
    · rw [if_neg h1]
      by_cases h2 : 18446744073709551615 < acc * 10 + (c.toNat - 48)
      · rw [if_pos h2, if_neg (by omega)]
      · rw [if_neg h2]
        exact pu_M r _ (by omega) hr
theorem pu_digits {l : Bs} (h : l ≠ []) (hd : l.all digitB = true) : Lib.parseUintB 64 l = if decVal l < 18446744073709551616 then .ok (decVal l) else .range := by
  unfold Lib.parseUintB
  rw [if_neg h]
  exact pu_M l 0 (by omega) hd
structure LibOK (w : World) : Prop where
  pow10 : Lib.TabIs Tryd.prog w "internal/strconv.uint64pow10" .u64 Lib.pow10Tab
  syn : ∃ tp p, w.var? Tryd.prog "strconv.ErrSyntax" = some #[.iface tp p]
  range : ∃ tp p, w.var? Tryd.prog "strconv.ErrRange" = some #[.iface tp p]
  maxLen : ∃ m, w.cell? ⟨3, 0, none⟩ = some (.int .i64 m)
  utf8 : Lib.Utf8Tabs 0 1 w
set_option maxRecDepth 100000 in
set_option maxHeartbeats 2000000 in
theorem read_c (s : ByteArray) (hs : s.size ≤ 140737488355328) (m : Bool) (w : World) (hlib : ∀ w', Below w.heap.size w w' → LibOK w') :
    Calls Tryd.prog 54 #[.string s, .bool m] w fun e w' => e = .returned (readV (readT s.data.toList m)) ∧ Below w.heap.size w w' := by
  have hsz := str_len s
  have hm1 := str_eq s #[45, 49]
  have hemp := str_eq s #[]
  generalize hl : s.data.toList = l at *
  have q1 := @readT_m1 l m
  have q2 : ∀ {n : Nat}, ¬ (l = [45, 49] ∧ m = true) → numberB l = some n → readT l m = (⟨n, false⟩, false, true) := fun h => readT_num h
  have q3 := @readT_big l m
  have q4 : ¬ (l = [45, 49] ∧ m = true) → digitsB l = false → readT l m = (⟨0, false⟩, false, false) := fun h hd => readT_bad h (by simp [numberB, hd]) hd
  generalize readT l m = r at q1 q2 q3 q4 ⊢
  have main : ¬ (1 < l.length ∧ byteAt l 0 = 48) → l ≠ [] → (l.all digitB = true → digitsB l = true) := by
    intro h h1 h2
    have hie : l.isEmpty = false := by simpa using h1
    have : l.length = 1 ∨ byteAt l 0 ≠ 48 := by
      by_cases e : l.length = 1
      · exact .inl e
      · have hp : 0 < l.length := List.length_pos_iff.2 h1
        exact .inr fun e2 => h ⟨by omega, e2⟩
    rcases this with e | e
    · simp [digitsB, h2, hie, e]
    · simp [digitsB, h2, hie, e]
  refine calls_of_vc seat Tryd.func54 rfl rfl (Nat.le_of_ble_eq_true rfl) (N := 55) (args := [.val (.string s), .val (.bool m)]) (Nat.le_of_ble_eq_true rfl) rfl (A.start w) ?_
  intro g0 _
  refine ⟨fun h1 => ?_, fun h1 => ?_⟩
  · have h1 : l = [45, 49] := by rw [hm1] at h1; simpa using h1
    refine ⟨fun h2 => ?_, fun h2 => ?_⟩
    · refine ⟨⟨rfl, trivial⟩, ?_⟩
      refine ⟨rfl, rfl, rfl, rfl, ?_⟩
      refine ⟨rfl, rfl, ?_⟩
      intro w' hA
      refine ⟨?_, hA.bel (by simp)⟩
      rw [q1 h1 h2]; rfl
    · have hno : ¬ (l = [45, 49] ∧ m = true) := fun h => by rw [h.2] at h2; cases h2
      replace q2 := @q2
      replace q3 := q3 hno
      replace q4 := q4 hno
      have q2 : ∀ {n : Nat}, numberB l = some n → r = (⟨n, false⟩, false, true) := fun h => q2 hno h
      clear q1
      refine ⟨fun h1 => ?_, fun h1 => ?_⟩
      · have hl0 : l ≠ [] := by rw [hemp] at h1; simpa using h1
        have hp : 0 < l.length := List.length_pos_iff.2 hl0
        refine ⟨fun h2 => ?_, fun h2 => ?_⟩
        · have h2 : 1 < l.length := by have := of_decide_eq_true h2; omega
          refine ⟨0, _, rfl, by rw [hl]; exact byteAt_some hp, ?_⟩
          have e := u8eq (byteAt l 0) 48
          refine ⟨fun h3 => ?_, fun h3 => ?_⟩
          · have h3 : byteAt l 0 = 48 := eq_of_beq (e.symm.trans h3)
            refine ⟨trivial, ?_⟩
            refine ⟨rfl, rfl, rfl, rfl, ?_⟩
            refine ⟨rfl, rfl, ?_⟩
            intro w' hA
            refine ⟨?_, hA.bel (by simp)⟩
            have : (l.length == 1) = false := by simp; omega
            rw [q4 (by simp [digitsB, this, h3])]; rfl
          · have h3 : byteAt l 0 ≠ 48 := ne_of_beq_false (e.symm.trans h3)
            have hm := main (by rintro ⟨_, e⟩; exact h3 e) hl0
            clear e h3 h2
            refine ⟨Nat, fun i => [(31, .val (.int .i64 i)), (30, .val (.int .i64 s.size)), (0, .val (.string s)), (4, .ptr 0 g0 0)], fun _ => [(0, ⟨g0, 57, [.val (.int .u64 0), .val (.bool false)]⟩)], fun _ => [(w, fun _ => False)], fun i => i ≤ l.length ∧ (l.take i).all digitB = true, fun i => l.length - i, ?_, ?_⟩
            · intro w1 hA
              exact ⟨0, ⟨by omega, rfl⟩, ⟨⟨_, rfl, rfl⟩, ⟨_, rfl, rfl⟩, ⟨_, rfl, rfl⟩, ⟨_, rfl, rfl⟩, trivial⟩, hA.sub ⟨rfl, trivial⟩⟩
            rintro i ⟨hi, hall⟩
            refine ⟨fun h => ?_, fun h => ?_⟩
            · have h : i < l.length := by have := of_decide_eq_true h; omega
              have hc := byteAt_some h
              have hbad : digitB (byteAt l i) = false → digitsB l = false := fun e => by simp [digitsB, all_false h e]
              have hgood : digitB (byteAt l i) = true → (l.take (i + 1)).all digitB = true := fun e => by rw [take_all h, hall, e]; rfl
              have hdg : digitB (byteAt l i) = !(decide (((byteAt l i).toNat : Int) < 48) || decide (57 < ((byteAt l i).toNat : Int))) := rfl
              generalize byteAt l i = c at *
              refine ⟨i, c, rfl, by rw [hl]; exact hc, ?_⟩
              refine ⟨fun g1 => ?_, fun g1 => ?_⟩
              · refine ⟨i, c, rfl, by rw [hl]; exact hc, ?_⟩
                refine ⟨fun g2 => ?_, fun g2 => ?_⟩
                · refine ⟨trivial, ?_⟩
                  refine ⟨rfl, rfl, rfl, rfl, ?_⟩
                  refine ⟨rfl, rfl, ?_⟩
                  intro w' hA
                  refine ⟨?_, hA.bel (by simp)⟩
                  rw [q4 (hbad (by rw [hdg, g2]; simp))]; rfl
                · refine ⟨((i + 1 : Nat) : Int), wrap_in _ (by omega) (by omega), ?_⟩
                  intro w' hA
                  exact ⟨i + 1, ⟨by omega, hgood (by rw [hdg, g1, g2]; rfl)⟩, by show l.length - (i + 1) < l.length - i; omega, ⟨⟨_, rfl, rfl⟩, ⟨_, rfl, rfl⟩, ⟨_, rfl, rfl⟩, ⟨_, rfl, rfl⟩, trivial⟩, hA⟩
              · refine ⟨fun _ => ?_, fun h => Bool.noConfusion h⟩
                refine ⟨trivial, ?_⟩
                refine ⟨rfl, rfl, rfl, rfl, ?_⟩
                refine ⟨rfl, rfl, ?_⟩
                intro w' hA
                refine ⟨?_, hA.bel (by simp)⟩
                rw [q4 (hbad (by rw [hdg, g1]; simp))]; rfl
            · have h : ¬ i < l.length := by have := of_decide_eq_false h; omega
              have hall : l.all digitB = true := by rw [List.take_of_length_le (by omega)] at hall; exact hall
              have hd := hm hall
              have hpu := pu_digits hl0 hall
              have hnum : numberB l = if decVal l < 18446744073709551616 then some (decVal l) else none := by
                unfold numberB
                by_cases hx : decVal l < 18446744073709551616 <;> simp [hd, hx]
              by_cases hx : decVal l < 18446744073709551616
              · rw [if_pos hx] at hpu hnum
                have hq := q2 hnum
                generalize decVal l = n at hpu hq hx
                intro w1 hA
                refine (Tryd.strconv_ParseUint_10_at64_ok s (by omega) n (by rw [hl]; exact hpu) w1).mono ?_
                rintro e w2 ⟨rfl, hww⟩
                have hb : Below w1.heap.size w1 w2 := by
                  rcases hww with rfl | rfl
                  · exact Below.refl _ _
                  · exact Lib.bytesWorld_below _ _ _
                refine ⟨.val _, _, _, rfl, hA.below' hb, ?_⟩
                clear hA hb hww
                refine ⟨_, rfl, _, rfl, ?_⟩
                refine ⟨_, [], [], [], .inr rfl, .inl trivial, nofun, (.take 0 (.take 1 (.take 2 (.take 3 (.alt 4 (.take 5 (.take 6 .done)) .stop))))), by kernel_rfl, ?_⟩
                refine ⟨⟨rfl, trivial⟩, ?_⟩
                refine ⟨rfl, rfl, rfl, rfl, ?_⟩
                refine ⟨rfl, rfl, ?_⟩
                intro w' hA
                refine ⟨?_, hA.bel (by simp)⟩
                rw [hq]; rfl
              · rw [if_neg hx] at hpu hnum
                have hq := q3 hnum hd
                intro w1 hA
                obtain ⟨tp, p, hvar⟩ := (hlib w1 (hA.bel (by simp))).range
                refine (Tryd.strconv_ParseUint_10_at64_range_var s (by omega) (by rw [hl]; exact hpu) tp p w1 hvar).mono ?_
                rintro e w2 ⟨N, rfl, _, _, hb⟩
                refine ⟨.val _, _, _, rfl, hA.below' hb, ?_⟩
                clear hA hb
                refine ⟨_, rfl, _, rfl, ?_⟩
                refine ⟨_, [], [], [], .inr rfl, .inl trivial, nofun, (.take 0 (.take 1 (.take 2 (.take 3 (.alt 4 (.take 5 (.take 6 .done)) .stop))))), by kernel_rfl, ?_⟩
                refine ⟨⟨rfl, trivial⟩, ?_⟩
                refine ⟨rfl, rfl, rfl, rfl, ?_⟩
                refine ⟨rfl, rfl, ?_⟩
                intro w' hA
                refine ⟨?_, hA.bel (by simp)⟩
                rw [hq]; rfl
        · have h2 : ¬ 1 < l.length := by have := of_decide_eq_false h2; omega
          have hm := main (by rintro ⟨e, _⟩; exact h2 e) hl0
          (repeat (first | refine ⟨fun _ => ?_, fun h => Bool.noConfusion h⟩ | refine ⟨fun h => Bool.noConfusion h, fun _ => ?_⟩ | refine ⟨_, wrap_in _ (by omega) (by omega), ?_⟩ | refine ⟨_, wrapu_in _ (by omega) (by omega), ?_⟩ | refine ⟨_, wrap8_in _ (by omega) (by omega), ?_⟩ | refine ⟨_, rfl, ?_⟩ | refine ⟨rfl, ?_⟩))
          clear h2
          refine ⟨Nat, fun i => [(31, .val (.int .i64 i)), (30, .val (.int .i64 s.size)), (0, .val (.string s)), (4, .ptr 0 g0 0)], fun _ => [(0, ⟨g0, 57, [.val (.int .u64 0), .val (.bool false)]⟩)], fun _ => [(w, fun _ => False)], fun i => i ≤ l.length ∧ (l.take i).all digitB = true, fun i => l.length - i, ?_, ?_⟩
          · intro w1 hA
            exact ⟨0, ⟨by omega, rfl⟩, ⟨⟨_, rfl, rfl⟩, ⟨_, rfl, rfl⟩, ⟨_, rfl, rfl⟩, ⟨_, rfl, rfl⟩, trivial⟩, hA.sub ⟨rfl, trivial⟩⟩
          rintro i ⟨hi, hall⟩
          refine ⟨fun h => ?_, fun h => ?_⟩
          · have h : i < l.length := by have := of_decide_eq_true h; omega
            have hc := byteAt_some h
            have hbad : digitB (byteAt l i) = false → digitsB l = false := fun e => by simp [digitsB, all_false h e]
            have hgood : digitB (byteAt l i) = true → (l.take (i + 1)).all digitB = true := fun e => by rw [take_all h, hall, e]; rfl
            have hdg : digitB (byteAt l i) = !(decide (((byteAt l i).toNat : Int) < 48) || decide (57 < ((byteAt l i).toNat : Int))) := rfl
            generalize byteAt l i = c at *
            refine ⟨i, c, rfl, by rw [hl]; exact hc, ?_⟩
            refine ⟨fun g1 => ?_, fun g1 => ?_⟩
            · refine ⟨i, c, rfl, by rw [hl]; exact hc, ?_⟩
              refine ⟨fun g2 => ?_, fun g2 => ?_⟩
              · refine ⟨trivial, ?_⟩
                refine ⟨rfl, rfl, rfl, rfl, ?_⟩
                refine ⟨rfl, rfl, ?_⟩
                intro w' hA
                refine ⟨?_, hA.bel (by simp)⟩
                rw [q4 (hbad (by rw [hdg, g2]; simp))]; rfl
              · refine ⟨((i + 1 : Nat) : Int), wrap_in _ (by omega) (by omega), ?_⟩
                intro w' hA
                exact ⟨i + 1, ⟨by omega, hgood (by rw [hdg, g1, g2]; rfl)⟩, by show l.length - (i + 1) < l.length - i; omega, ⟨⟨_, rfl, rfl⟩, ⟨_, rfl, rfl⟩, ⟨_, rfl, rfl⟩, ⟨_, rfl, rfl⟩, trivial⟩, hA⟩
            · refine ⟨fun _ => ?_, fun h => Bool.noConfusion h⟩
              refine ⟨trivial, ?_⟩
              refine ⟨rfl, rfl, rfl, rfl, ?_⟩
              refine ⟨rfl, rfl, ?_⟩
              intro w' hA
              refine ⟨?_, hA.bel (by simp)⟩
              rw [q4 (hbad (by rw [hdg, g1]; simp))]; rfl
          · have h : ¬ i < l.length := by have := of_decide_eq_false h; omega
            have hall : l.all digitB = true := by rw [List.take_of_length_le (by omega)] at hall; exact hall
            have hd := hm hall
            have hpu := pu_digits hl0 hall
            have hnum : numberB l = if decVal l < 18446744073709551616 then some (decVal l) else none := by
              unfold numberB
              by_cases hx : decVal l < 18446744073709551616 <;> simp [hd, hx]
            by_cases hx : decVal l < 18446744073709551616
            · rw [if_pos hx] at hpu hnum
              have hq := q2 hnum
              generalize decVal l = n at hpu hq hx
              intro w1 hA
              refine (Tryd.strconv_ParseUint_10_at64_ok s (by omega) n (by rw [hl]; exact hpu) w1).mono ?_
              rintro e w2 ⟨rfl, hww⟩
              have hb : Below w1.heap.size w1 w2 := by
                rcases hww with rfl | rfl
                · exact Below.refl _ _
                · exact Lib.bytesWorld_below _ _ _
              refine ⟨.val _, _, _, rfl, hA.below' hb, ?_⟩
              clear hA hb hww
              refine ⟨_, rfl, _, rfl, ?_⟩
              refine ⟨_, [], [], [], .inr rfl, .inl trivial, nofun, (.take 0 (.take 1 (.take 2 (.take 3 (.alt 4 (.take 5 (.take 6 .done)) .stop))))), by kernel_rfl, ?_⟩
              refine ⟨⟨rfl, trivial⟩, ?_⟩
              refine ⟨rfl, rfl, rfl, rfl, ?_⟩
              refine ⟨rfl, rfl, ?_⟩
              intro w' hA
              refine ⟨?_, hA.bel (by simp)⟩
              rw [hq]; rfl
            · rw [if_neg hx] at hpu hnum
              have hq := q3 hnum hd
              intro w1 hA
              obtain ⟨tp, p, hvar⟩ := (hlib w1 (hA.bel (by simp))).range
              refine (Tryd.strconv_ParseUint_10_at64_range_var s (by omega) (by rw [hl]; exact hpu) tp p w1 hvar).mono ?_
              rintro e w2 ⟨N, rfl, _, _, hb⟩
              refine ⟨.val _, _, _, rfl, hA.below' hb, ?_⟩
              clear hA hb
              refine ⟨_, rfl, _, rfl, ?_⟩
              refine ⟨_, [], [], [], .inr rfl, .inl trivial, nofun, (.take 0 (.take 1 (.take 2 (.take 3 (.alt 4 (.take 5 (.take 6 .done)) .stop))))), by kernel_rfl, ?_⟩
              refine ⟨⟨rfl, trivial⟩, ?_⟩
              refine ⟨rfl, rfl, rfl, rfl, ?_⟩
              refine ⟨rfl, rfl, ?_⟩
              intro w' hA
              refine ⟨?_, hA.bel (by simp)⟩
              rw [hq]; rfl
      · have h1 : l = [] := by rw [hemp] at h1; simpa using h1
        refine ⟨fun _ => ?_, fun h => Bool.noConfusion h⟩
        refine ⟨trivial, ?_⟩
        refine ⟨rfl, rfl, rfl, rfl, ?_⟩
        refine ⟨rfl, rfl, ?_⟩
        intro w' hA
        refine ⟨?_, hA.bel (by simp)⟩
        rw [q4 (by simp [digitsB, h1])]; rfl
  · have h1 : l ≠ [45, 49] := by rw [hm1] at h1; simpa using h1
    have hno : ¬ (l = [45, 49] ∧ m = true) := fun h => h1 h.1
    (repeat (first | refine ⟨fun _ => ?_, fun h => Bool.noConfusion h⟩ | refine ⟨fun h => Bool.noConfusion h, fun _ => ?_⟩ | refine ⟨_, wrap_in _ (by omega) (by omega), ?_⟩ | refine ⟨_, wrapu_in _ (by omega) (by omega), ?_⟩ | refine ⟨_, wrap8_in _ (by omega) (by omega), ?_⟩ | refine ⟨_, rfl, ?_⟩ | refine ⟨rfl, ?_⟩))
    replace q2 := @q2
    replace q3 := q3 hno
    replace q4 := q4 hno
    have q2 : ∀ {n : Nat}, numberB l = some n → r = (⟨n, false⟩, false, true) := fun h => q2 hno h
    clear q1
    refine ⟨fun h1 => ?_, fun h1 => ?_⟩
    · have hl0 : l ≠ [] := by rw [hemp] at h1; simpa using h1
      have hp : 0 < l.length := List.length_pos_iff.2 hl0
      refine ⟨fun h2 => ?_, fun h2 => ?_⟩
      · have h2 : 1 < l.length := by have := of_decide_eq_true h2; omega
        refine ⟨0, _, rfl, by rw [hl]; exact byteAt_some hp, ?_⟩
        have e := u8eq (byteAt l 0) 48
        refine ⟨fun h3 => ?_, fun h3 => ?_⟩
        · have h3 : byteAt l 0 = 48 := eq_of_beq (e.symm.trans h3)
          refine ⟨trivial, ?_⟩
          refine ⟨rfl, rfl, rfl, rfl, ?_⟩
          refine ⟨rfl, rfl, ?_⟩
          intro w' hA
          refine ⟨?_, hA.bel (by simp)⟩
          have : (l.length == 1) = false := by simp; omega
          rw [q4 (by simp [digitsB, this, h3])]; rfl
        · have h3 : byteAt l 0 ≠ 48 := ne_of_beq_false (e.symm.trans h3)
          have hm := main (by rintro ⟨_, e⟩; exact h3 e) hl0
          clear e h3 h2
          refine ⟨Nat, fun i => [(31, .val (.int .i64 i)), (30, .val (.int .i64 s.size)), (0, .val (.string s)), (4, .ptr 0 g0 0)], fun _ => [(0, ⟨g0, 57, [.val (.int .u64 0), .val (.bool false)]⟩)], fun _ => [(w, fun _ => False)], fun i => i ≤ l.length ∧ (l.take i).all digitB = true, fun i => l.length - i, ?_, ?_⟩
          · intro w1 hA
            exact ⟨0, ⟨by omega, rfl⟩, ⟨⟨_, rfl, rfl⟩, ⟨_, rfl, rfl⟩, ⟨_, rfl, rfl⟩, ⟨_, rfl, rfl⟩, trivial⟩, hA.sub ⟨rfl, trivial⟩⟩
          rintro i ⟨hi, hall⟩
          refine ⟨fun h => ?_, fun h => ?_⟩
          · have h : i < l.length := by have := of_decide_eq_true h; omega
            have hc := byteAt_some h
            have hbad : digitB (byteAt l i) = false → digitsB l = false := fun e => by simp [digitsB, all_false h e]
            have hgood : digitB (byteAt l i) = true → (l.take (i + 1)).all digitB = true := fun e => by rw [take_all h, hall, e]; rfl
            have hdg : digitB (byteAt l i) = !(decide (((byteAt l i).toNat : Int) < 48) || decide (57 < ((byteAt l i).toNat : Int))) := rfl
            generalize byteAt l i = c at *
            refine ⟨i, c, rfl, by rw [hl]; exact hc, ?_⟩
            refine ⟨fun g1 => ?_, fun g1 => ?_⟩
            · refine ⟨i, c, rfl, by rw [hl]; exact hc, ?_⟩
              refine ⟨fun g2 => ?_, fun g2 => ?_⟩
              · refine ⟨trivial, ?_⟩
                refine ⟨rfl, rfl, rfl, rfl, ?_⟩
                refine ⟨rfl, rfl, ?_⟩
                intro w' hA
                refine ⟨?_, hA.bel (by simp)⟩
                rw [q4 (hbad (by rw [hdg, g2]; simp))]; rfl
              · refine ⟨((i + 1 : Nat) : Int), wrap_in _ (by omega) (by omega), ?_⟩
                intro w' hA
                exact ⟨i + 1, ⟨by omega, hgood (by rw [hdg, g1, g2]; rfl)⟩, by show l.length - (i + 1) < l.length - i; omega, ⟨⟨_, rfl, rfl⟩, ⟨_, rfl, rfl⟩, ⟨_, rfl, rfl⟩, ⟨_, rfl, rfl⟩, trivial⟩, hA⟩
            · refine ⟨fun _ => ?_, fun h => Bool.noConfusion h⟩
              refine ⟨trivial, ?_⟩
              refine ⟨rfl, rfl, rfl, rfl, ?_⟩
              refine ⟨rfl, rfl, ?_⟩
              intro w' hA
              refine ⟨?_, hA.bel (by simp)⟩
              rw [q4 (hbad (by rw [hdg, g1]; simp))]; rfl
          · have h : ¬ i < l.length := by have := of_decide_eq_false h; omega
            have hall : l.all digitB = true := by rw [List.take_of_length_le (by omega)] at hall; exact hall
            have hd := hm hall
            have hpu := pu_digits hl0 hall
            have hnum : numberB l = if decVal l < 18446744073709551616 then some (decVal l) else none := by
              unfold numberB
              by_cases hx : decVal l < 18446744073709551616 <;> simp [hd, hx]
            by_cases hx : decVal l < 18446744073709551616
            · rw [if_pos hx] at hpu hnum
              have hq := q2 hnum
              generalize decVal l = n at hpu hq hx
              intro w1 hA
              refine (Tryd.strconv_ParseUint_10_at64_ok s (by omega) n (by rw [hl]; exact hpu) w1).mono ?_
              rintro e w2 ⟨rfl, hww⟩
              have hb : Below w1.heap.size w1 w2 := by
                rcases hww with rfl | rfl
                · exact Below.refl _ _
                · exact Lib.bytesWorld_below _ _ _
              refine ⟨.val _, _, _, rfl, hA.below' hb, ?_⟩
              clear hA hb hww
              refine ⟨_, rfl, _, rfl, ?_⟩
              refine ⟨_, [], [], [], .inr rfl, .inl trivial, nofun, (.take 0 (.take 1 (.take 2 (.take 3 (.alt 4 (.take 5 (.take 6 .done)) .stop))))), by kernel_rfl, ?_⟩
              refine ⟨⟨rfl, trivial⟩, ?_⟩
              refine ⟨rfl, rfl, rfl, rfl, ?_⟩
              refine ⟨rfl, rfl, ?_⟩
              intro w' hA
              refine ⟨?_, hA.bel (by simp)⟩
              rw [hq]; rfl
            · rw [if_neg hx] at hpu hnum
              have hq := q3 hnum hd
              intro w1 hA
              obtain ⟨tp, p, hvar⟩ := (hlib w1 (hA.bel (by simp))).range
              refine (Tryd.strconv_ParseUint_10_at64_range_var s (by omega) (by rw [hl]; exact hpu) tp p w1 hvar).mono ?_
              rintro e w2 ⟨N, rfl, _, _, hb⟩
              refine ⟨.val _, _, _, rfl, hA.below' hb, ?_⟩
              clear hA hb
              refine ⟨_, rfl, _, rfl, ?_⟩
              refine ⟨_, [], [], [], .inr rfl, .inl trivial, nofun, (.take 0 (.take 1 (.take 2 (.take 3 (.alt 4 (.take 5 (.take 6 .done)) .stop))))), by kernel_rfl, ?_⟩
              refine ⟨⟨rfl, trivial⟩, ?_⟩
              refine ⟨rfl, rfl, rfl, rfl, ?_⟩
              refine ⟨rfl, rfl, ?_⟩
              intro w' hA
              refine ⟨?_, hA.bel (by simp)⟩
              rw [hq]; rfl
      · have h2 : ¬ 1 < l.length := by have := of_decide_eq_false h2; omega
        have hm := main (by rintro ⟨e, _⟩; exact h2 e) hl0
        (repeat (first | refine ⟨fun _ => ?_, fun h => Bool.noConfusion h⟩ | refine ⟨fun h => Bool.noConfusion h, fun _ => ?_⟩ | refine ⟨_, wrap_in _ (by omega) (by omega), ?_⟩ | refine ⟨_, wrapu_in _ (by omega) (by omega), ?_⟩ | refine ⟨_, wrap8_in _ (by omega) (by omega), ?_⟩ | refine ⟨_, rfl, ?_⟩ | refine ⟨rfl, ?_⟩))
        clear h2
        refine ⟨Nat, fun i => [(31, .val (.int .i64 i)), (30, .val (.int .i64 s.size)), (0, .val (.string s)), (4, .ptr 0 g0 0)], fun _ => [(0, ⟨g0, 57, [.val (.int .u64 0), .val (.bool false)]⟩)], fun _ => [(w, fun _ => False)], fun i => i ≤ l.length ∧ (l.take i).all digitB = true, fun i => l.length - i, ?_, ?_⟩
        · intro w1 hA
          exact ⟨0, ⟨by omega, rfl⟩, ⟨⟨_, rfl, rfl⟩, ⟨_, rfl, rfl⟩, ⟨_, rfl, rfl⟩, ⟨_, rfl, rfl⟩, trivial⟩, hA.sub ⟨rfl, trivial⟩⟩
        rintro i ⟨hi, hall⟩
        refine ⟨fun h => ?_, fun h => ?_⟩
        · have h : i < l.length := by have := of_decide_eq_true h; omega
          have hc := byteAt_some h
          have hbad : digitB (byteAt l i) = false → digitsB l = false := fun e => by simp [digitsB, all_false h e]
          have hgood : digitB (byteAt l i) = true → (l.take (i + 1)).all digitB = true := fun e => by rw [take_all h, hall, e]; rfl
          have hdg : digitB (byteAt l i) = !(decide (((byteAt l i).toNat : Int) < 48) || decide (57 < ((byteAt l i).toNat : Int))) := rfl
          generalize byteAt l i = c at *
          refine ⟨i, c, rfl, by rw [hl]; exact hc, ?_⟩
          refine ⟨fun g1 => ?_, fun g1 => ?_⟩
          · refine ⟨i, c, rfl, by rw [hl]; exact hc, ?_⟩
            refine ⟨fun g2 => ?_, fun g2 => ?_⟩
            · refine ⟨trivial, ?_⟩
              refine ⟨rfl, rfl, rfl, rfl, ?_⟩
              refine ⟨rfl, rfl, ?_⟩
              intro w' hA
              refine ⟨?_, hA.bel (by simp)⟩
              rw [q4 (hbad (by rw [hdg, g2]; simp))]; rfl
            · refine ⟨((i + 1 : Nat) : Int), wrap_in _ (by omega) (by omega), ?_⟩
              intro w' hA
              exact ⟨i + 1, ⟨by omega, hgood (by rw [hdg, g1, g2]; rfl)⟩, by show l.length - (i + 1) < l.length - i; omega, ⟨⟨_, rfl, rfl⟩, ⟨_, rfl, rfl⟩, ⟨_, rfl, rfl⟩, ⟨_, rfl, rfl⟩, trivial⟩, hA⟩
          · refine ⟨fun _ => ?_, fun h => Bool.noConfusion h⟩
            refine ⟨trivial, ?_⟩
            refine ⟨rfl, rfl, rfl, rfl, ?_⟩
            refine ⟨rfl, rfl, ?_⟩
            intro w' hA
            refine ⟨?_, hA.bel (by simp)⟩
            rw [q4 (hbad (by rw [hdg, g1]; simp))]; rfl
        · have h : ¬ i < l.length := by have := of_decide_eq_false h; omega
          have hall : l.all digitB = true := by rw [List.take_of_length_le (by omega)] at hall; exact hall
          have hd := hm hall
          have hpu := pu_digits hl0 hall
          have hnum : numberB l = if decVal l < 18446744073709551616 then some (decVal l) else none := by
            unfold numberB
            by_cases hx : decVal l < 18446744073709551616 <;> simp [hd, hx]
          by_cases hx : decVal l < 18446744073709551616
          · rw [if_pos hx] at hpu hnum
            have hq := q2 hnum
            generalize decVal l = n at hpu hq hx
            intro w1 hA
            refine (Tryd.strconv_ParseUint_10_at64_ok s (by omega) n (by rw [hl]; exact hpu) w1).mono ?_
            rintro e w2 ⟨rfl, hww⟩
            have hb : Below w1.heap.size w1 w2 := by
              rcases hww with rfl | rfl
              · exact Below.refl _ _
              · exact Lib.bytesWorld_below _ _ _
            refine ⟨.val _, _, _, rfl, hA.below' hb, ?_⟩
            clear hA hb hww
            refine ⟨_, rfl, _, rfl, ?_⟩
            refine ⟨_, [], [], [], .inr rfl, .inl trivial, nofun, (.take 0 (.take 1 (.take 2 (.take 3 (.alt 4 (.take 5 (.take 6 .done)) .stop))))), by kernel_rfl, ?_⟩
            refine ⟨⟨rfl, trivial⟩, ?_⟩
            refine ⟨rfl, rfl, rfl, rfl, ?_⟩
            refine ⟨rfl, rfl, ?_⟩
            intro w' hA
            refine ⟨?_, hA.bel (by simp)⟩
            rw [hq]; rfl
          · rw [if_neg hx] at hpu hnum
            have hq := q3 hnum hd
            intro w1 hA
            obtain ⟨tp, p, hvar⟩ := (hlib w1 (hA.bel (by simp))).range
            refine (Tryd.strconv_ParseUint_10_at64_range_var s (by omega) (by rw [hl]; exact hpu) tp p w1 hvar).mono ?_
            rintro e w2 ⟨N, rfl, _, _, hb⟩
            refine ⟨.val _, _, _, rfl, hA.below' hb, ?_⟩
            clear hA hb
            refine ⟨_, rfl, _, rfl, ?_⟩
            refine ⟨_, [], [], [], .inr rfl, .inl trivial, nofun, (.take 0 (.take 1 (.take 2 (.take 3 (.alt 4 (.take 5 (.take 6 .done)) .stop))))), by kernel_rfl, ?_⟩
            refine ⟨⟨rfl, trivial⟩, ?_⟩
            refine ⟨rfl, rfl, rfl, rfl, ?_⟩
            refine ⟨rfl, rfl, ?_⟩
            intro w' hA
            refine ⟨?_, hA.bel (by simp)⟩
            rw [hq]; rfl
    · have h1 : l = [] := by rw [hemp] at h1; simpa using h1
      refine ⟨fun _ => ?_, fun h => Bool.noConfusion h⟩
      refine ⟨trivial, ?_⟩
      refine ⟨rfl, rfl, rfl, rfl, ?_⟩
      refine ⟨rfl, rfl, ?_⟩
      intro w' hA
      refine ⟨?_, hA.bel (by simp)⟩
      rw [q4 (by simp [digitsB, h1])]; rfl
end Go.Proofs.YtllepnadffndnaaDoor
namespace Go.Proofs.YtllepnadffndnaaDoor
open Go.RowKit
section
variable {M : Mem} {H : Hist} {w w' : World}
theorem A.start2 {g g' : Nat} {t t' : TypeId} {cs cs' : List SV} (hne : g ≠ g') (hb : Blk w g t (cs.map SV.den).toArray) (hb' : Blk w g' t' (cs'.map SV.den).toArray) : A [(1, ⟨g', t', cs'⟩), (0, ⟨g, t, cs⟩)] [(w, fun b => b = g ∨ b = g')] w := by
  have two : ∀ i kb, Mem.find [(1, (⟨g', t', cs'⟩ : KB)), (0, ⟨g, t, cs⟩)] i = some kb → (kb = ⟨g', t', cs'⟩ ∧ i = 1) ∨ (kb = ⟨g, t, cs⟩ ∧ i = 0) := by
    intro i kb hi
    rw [Mem.find_cons] at hi
    split at hi
    · rename_i e; injection hi with hi; exact .inl ⟨hi.symm, e.symm⟩
    · rw [Mem.find_cons] at hi
      split at hi
      · rename_i e; injection hi with hi; exact .inr ⟨hi.symm, e.symm⟩
      · simp [Mem.find] at hi
  refine ⟨fun i kb hi => ?_, fun i j ki kj hi hj hn => ?_, fun p hp => ?_, fun p hp i kb hi => ?_⟩
  · rcases two i kb hi with ⟨rfl, _⟩ | ⟨rfl, _⟩
    · exact hb'
    · exact hb
  · rcases two i ki hi with ⟨rfl, rfl⟩ | ⟨rfl, rfl⟩ <;> rcases two j kj hj with ⟨rfl, rfl⟩ | ⟨rfl, rfl⟩
    · exact absurd rfl hn
    · exact fun e => hne e.symm
    · exact hne
    · exact absurd rfl hn
  · simp at hp; subst hp; exact Since.refl _ _
  · simp at hp; subst hp
    rcases two i kb hi with ⟨rfl, _⟩ | ⟨rfl, _⟩
    · exact .inl (.inr rfl)
    · exact .inl (.inl rfl)
theorem Mem.find_one {i : Nat} {kb : KB} (hi : M.find i = some kb) (cs : List SV) (j : Nat) : (M.upd i cs).find j = if i = j then some { kb with cs := cs } else M.find j := by
  rw [Mem.find_upd]
  split
  · rename_i e; subst e; rw [hi]; rfl
  · rfl
theorem A.wrote2 (h : A M H w) {i j : Nat} {ki kj : KB} (hij : i ≠ j) (hi : M.find i = some ki) (hj : M.find j = some kj) {ci cj : List SV} (hs : Since (fun b => b = ki.g ∨ b = kj.g) w w') (hbi : Blk w' ki.g ki.t (ci.map SV.den).toArray) (hbj : Blk w' kj.g kj.t (cj.map SV.den).toArray) : A ((M.upd i ci).upd j cj) H w' := by
  have key : ∀ {k : Nat} {kk : KB}, ((M.upd i ci).upd j cj).find k = some kk → (k = j ∧ kk = { kj with cs := cj }) ∨ (k = i ∧ kk = { ki with cs := ci }) ∨ (k ≠ i ∧ k ≠ j ∧ M.find k = some kk) := by
    intro k kk hk
    have hj' : (M.upd i ci).find j = some kj := by rw [Mem.find_one hi, if_neg hij]; exact hj
    rw [Mem.find_one hj'] at hk
    split at hk
    · rename_i e; injection hk with hk; exact .inl ⟨e.symm, hk.symm⟩
    · rename_i e1
      rw [Mem.find_one hi] at hk
      split at hk
      · rename_i e; injection hk with hk; exact .inr (.inl ⟨e.symm, hk.symm⟩)
      · rename_i e2; exact .inr (.inr ⟨fun e => e2 e.symm, fun e => e1 e.symm, hk⟩)
  have old : ∀ {k : Nat} {kk : KB}, ((M.upd i ci).upd j cj).find k = some kk → ∃ kk', M.find k = some kk' ∧ kk'.g = kk.g := by
    intro k kk hk
    rcases key hk with ⟨rfl, rfl⟩ | ⟨rfl, rfl⟩ | ⟨_, _, h⟩
    · exact ⟨kj, hj, rfl⟩
    · exact ⟨ki, hi, rfl⟩
    · exact ⟨kk, h, rfl⟩
  refine ⟨fun k kk hk => ?_, fun k l kk kl hk hl hne => ?_, fun p hp => ?_, fun p hp k kk hk => ?_⟩
  · rcases key hk with ⟨rfl, rfl⟩ | ⟨rfl, rfl⟩ | ⟨n1, n2, h2⟩
    · exact hbj
    · exact hbi
    · have hb := h.blk k kk h2
      show w'.heap[kk.g]? = _
      rw [hs.block kk.g hb.lt (by
        rintro (e | e)
        · exact h.apart k i kk ki h2 hi n1 e
        · exact h.apart k j kk kj h2 hj n2 e)]
      exact hb
  · obtain ⟨a, ha, hag⟩ := old hk
    obtain ⟨b, hb', hbg⟩ := old hl
    rw [← hag, ← hbg]
    exact h.apart k l a b ha hb' hne
  · exact (h.since p hp).step hs (fun b e => by
      rcases e with e | e
      · subst e; exact h.fresh p hp i ki hi
      · subst e; exact h.fresh p hp j kj hj)
  · obtain ⟨a, ha, hag⟩ := old hk
    rw [← hag]
    exact h.fresh p hp k a ha
end
def seenS (l : List Nat) : List SV := (List.range 12).map fun k => .val (.bool (l.contains k))
theorem nth_seen (l : List Nat) {k i : Nat} (hk : k < 12) (e : i = k) : nth (seenS l) i = some (.val (.bool (l.contains k))) := by
  subst e
  rw [nth_eq, seenS, List.getElem?_map, List.getElem?_range hk]; rfl
theorem setN_seen (l : List Nat) {k i : Nat} (hk : k < 12) (e : i = k) : setN (seenS l) i (.val (.bool true)) = some (seenS (k :: l)) := by
  subst e
  rw [setN_some _ (by simpa [seenS] using hk)]
  refine congrArg some (List.ext_getElem? fun j => ?_)
  unfold seenS
  by_cases hj : j < 12
  · rw [List.getElem?_set, List.getElem?_map, List.getElem?_map, List.getElem?_range hj]
    by_cases e : i = j
    · subst e; simp [hk]
    · have e' : ¬ j = i := fun h => e h.symm
      simp [e, e']
  · rw [List.getElem?_eq_none (by simp; omega), List.getElem?_eq_none (by simp; omega)]
theorem set_rel (c : MConfig) {k : Nat} (hk : k < 12) (b : Bs) : ∃ v la ok, readT b (leastW k).minus = (v, la, ok) ∧
    (ok = false → setSpec c k b = (c, 2)) ∧ (ok = true → la = true → setSpec c k b = (c, 1)) ∧
    (ok = true → la = false → withinW (leastW k) (mostW k) v = false → setSpec c k b = (c, 1)) ∧
    (ok = true → la = false → withinW (leastW k) (mostW k) v = true → setSpec c k b = (setF c k v, 0)) := by
  have hmin : (leastW k).minus = true ↔ k = 8 := by
    have : ∀ k, k < 12 → ((leastW k).minus = true ↔ k = 8) := by decide
    exact this k hk
  by_cases h : b = [45, 49] ∧ (leastW k).minus = true
  · have h8 := hmin.1 h.2
    refine ⟨_, _, _, readT_m1 h.1 h.2, fun h => Bool.noConfusion h, fun _ h => Bool.noConfusion h, fun _ _ h => ?_, fun _ _ _ => ?_⟩
    · subst h8; exact absurd h (by decide)
    · subst h8; rw [setSpec_m1 rfl h.1]
      obtain ⟨c0, c1, c2, c3, c4, c5, c6, c7, c8, c9, c10, c11⟩ := c
      rfl
  · have hno : ¬ (k = 8 ∧ b = [45, 49]) := fun e => h ⟨e.2, hmin.2 e.1⟩
    cases hn : numberB b with
    | none =>
      cases hd : digitsB b with
      | true => exact ⟨_, _, _, readT_big h hn hd, fun h => Bool.noConfusion h, fun _ _ => setSpec_big hno hn hd, fun _ h => Bool.noConfusion h, fun _ h => Bool.noConfusion h⟩
      | false => exact ⟨_, _, _, readT_bad h hn hd, fun _ => setSpec_syn hno hn hd, fun h => Bool.noConfusion h, fun h => Bool.noConfusion h, fun h => Bool.noConfusion h⟩
    | some n =>
      have hlt := (numberB_lt hn).1
      by_cases h9 : k = 9
      · refine ⟨_, _, _, readT_num h hn, fun h => Bool.noConfusion h, fun _ h => Bool.noConfusion h, fun _ _ hw => ?_, fun _ _ _ => ?_⟩
        · subst h9
          simp [withinW, lessW, leastW, mostW] at hw
          omega
        · rw [setSpec_price hno hn h9]
          subst h9
          obtain ⟨c0, c1, c2, c3, c4, c5, c6, c7, c8, c9, c10, c11⟩ := c
          rfl
      · have hw : withinW (leastW k) (mostW k) ⟨n, false⟩ = (!decide ((n : Int) < leastI k) && !decide (greatI k < n)) := by
          have h : k = 8 ∨ k = 0 ∨ k = 1 ∨ k = 2 ∨ k = 3 ∨ k = 4 ∨ k = 5 ∨ k = 6 ∨ k = 7 ∨ k = 10 ∨ k = 11 := by omega
          rcases h with rfl | h
          · have : ¬ (n : Int) < -1 := by omega
            simp [withinW, lessW, leastW, mostW, greatI, leastI, this]
          · rcases h with rfl | rfl | rfl | rfl | rfl | rfl | rfl | rfl | rfl | rfl <;> rfl
        refine ⟨_, _, _, readT_num h hn, fun h => Bool.noConfusion h, fun _ h => Bool.noConfusion h, fun _ _ e => ?_, fun _ _ e => ?_⟩
        · rw [hw] at e
          refine setSpec_out hno hn h9 ?_
          by_cases e1 : (n : Int) < leastI k
          · exact .inr e1
          · by_cases e2 : greatI k < n
            · exact .inl e2
            · simp [e1, e2] at e
        · rw [hw] at e
          have hr : ¬ (greatI k < n ∨ (n : Int) < leastI k) := by
            rintro (e1 | e1) <;> simp [e1] at e
          rw [setSpec_ok hno hn h9 hr]
          have hg := greatI_pos k
          have hwr : IntKind.i64.wrap (n : Int) = n := wrap_in _ (by omega) (by omega)
          obtain ⟨c0, c1, c2, c3, c4, c5, c6, c7, c8, c9, c10, c11⟩ := c
          have h : k = 0 ∨ k = 1 ∨ k = 2 ∨ k = 3 ∨ k = 4 ∨ k = 5 ∨ k = 6 ∨ k = 7 ∨ k = 8 ∨ k = 10 ∨ k = 11 := by omega
          rcases h with rfl | rfl | rfl | rfl | rfl | rfl | rfl | rfl | rfl | rfl | rfl <;> simp [setI, setF, wInt, hwr]
theorem lineSpec_len {c : MConfig} {seen : List Nat} {ws : List Bs} (h2 : ws.length ≠ 2) : lineSpec c seen ws = (2, c, seen) := by
  match ws, h2 with
  | [], _ => rfl
  | [_], _ => rfl
  | [_, _], h => exact absurd rfl h
  | _ :: _ :: _ :: _, _ => rfl
set_option maxRecDepth 100000 in
set_option maxHeartbeats 4000000 in
theorem line_c (g1 g2 : Nat) (hne : g1 ≠ g2) (c : MConfig) (seen : List Nat) (ws : List Bs) (a : Option Addr) (cp : Nat) (S : Fp) (w : World) (hb1 : Blk w g1 24 ((cfgS c).map SV.den).toArray) (hb2 : Blk w g2 79 ((seenS seen).map SV.den).toArray)
    (hsl : Sl Rp.str w S a (ws.map strB)) (hS : ∀ b, S b → ¬ (b = g1 ∨ b = g2)) (hlib : ∀ w', Since (fun b => b = g1 ∨ b = g2) w w' → LibOK w') :
    Calls Tryd.prog 42 #[.pointer (some ⟨g1, 0, none⟩), .pointer (some ⟨g2, 0, none⟩), .slice a ws.length cp] w fun e w' => e = .returned (.int .i64 (lineSpec c seen ws).1) ∧ Blk w' g1 24 ((cfgS (lineSpec c seen ws).2.1).map SV.den).toArray ∧ Blk w' g2 79 ((seenS (lineSpec c seen ws).2.2).map SV.den).toArray ∧ Since (fun b => b = g1 ∨ b = g2) w w' := by
  obtain ⟨c0, c1, c2, c3, c4, c5, c6, c7, c8, c9, c10, c11⟩ := c
  refine calls_of_vc seat Tryd.func42 rfl rfl (Nat.le_of_ble_eq_true rfl) (N := 59) (args := [.ptr 0 g1 0, .ptr 1 g2 0, .val (.slice a ws.length cp)]) (Nat.le_of_ble_eq_true rfl) rfl (A.start2 hne hb1 hb2) ?_
  refine ⟨fun h2 => ?_, fun h2 => ?_⟩
  · have h2 : ws.length ≠ 2 := by intro e; rw [e] at h2; simp at h2
    rw [lineSpec_len h2]
    intro w' hA
    exact ⟨rfl, hA.blk 0 _ rfl, hA.blk 1 _ rfl, hA.since (w, _) (List.Mem.head _)⟩
  have h2 : ws.length = 2 := by
    have := of_decide_eq_false (by simpa using h2 : decide ((ws.length : Int) ≠ 2) = false)
    omega
  obtain ⟨x, b2, rfl⟩ : ∃ a b2, ws = [a, b2] := by
    match ws, h2 with
    | [a, b2], _ => exact ⟨a, b2, rfl⟩
  have sl0 : ∃ bb oo, a = some ⟨bb, oo, none⟩ ∧ S bb ∧ w.rangeAt bb (oo + 0 * 1) [.string (strB x)] := by
    obtain ⟨b, o, cs, h1, h2, hr, hat, _, _⟩ := hsl.get 1 rfl (i := 0) (by simp)
    obtain ⟨hcs, _⟩ : cs = [.string (strB x)] ∧ _ := hr
    subst hcs
    exact ⟨b, o, h1, h2, hat⟩
  have sl1 : ∃ bb oo, a = some ⟨bb, oo, none⟩ ∧ S bb ∧ w.rangeAt bb (oo + 1 * 1) [.string (strB b2)] ∧ (strB b2).size ≤ 140737488355328 := by
    obtain ⟨b, o, cs, h1, h2, hr, hat, _, _⟩ := hsl.get 1 rfl (i := 1) (by simp)
    obtain ⟨hcs, hsz2⟩ : cs = [.string (strB b2)] ∧ (strB b2).size ≤ 140737488355328 := hr
    subst hcs
    exact ⟨b, o, h1, h2, hat, hsz2⟩
  obtain ⟨bb, oo, rfl, hbb, hat0⟩ := sl0
  obtain ⟨_, _, e1, _, hat1, hb2l⟩ := sl1
  cases e1
  have ld0 : ∀ {M : Mem} {H : Hist} (w' : World), A M H w' → (w, fun b => b = g1 ∨ b = g2) ∈ H → (loadVar 9 ⟨bb, oo + 0 * 1, none⟩).run Tryd.prog w' = .ok (.string (strB x)) w' :=
    fun w' hA hm => ldS seat.tab rfl rfl hat0 (j := 0) rfl (by omega) (hA.since _ hm) (hS bb hbb)
  have ld1' : ∀ {M : Mem} {H : Hist} (w' : World), A M H w' → (w, fun b => b = g1 ∨ b = g2) ∈ H → (loadVar 9 ⟨bb, oo + 1 * 1, none⟩).run Tryd.prog w' = .ok (.string (strB b2)) w' :=
    fun w' hA hm => ldS seat.tab rfl rfl hat1 (j := 0) rfl (by omega) (hA.since _ hm) (hS bb hbb)
  refine ⟨bb, oo, 0, rfl, rfl, by simp, ?_⟩
  refine ⟨.string (strB x), fun w' hA => ld0 w' hA (List.Mem.head _), ?_⟩
  have hfind := find_c (strB x)
  rw [strB_list] at hfind
  cases hk : keyIdx x with
  | none =>
    rw [findF_none hk] at hfind
    (intro w1 hA; refine (hfind w1).mono ?_; rintro e w2 ⟨rfl, hb⟩; refine ⟨.val _, _, _, rfl, hA.below' hb, ?_⟩)
    refine ⟨fun _ => ?_, fun h => absurd h (by decide)⟩
    have hls : lineSpec ⟨c0, c1, c2, c3, c4, c5, c6, c7, c8, c9, c10, c11⟩ seen [x, b2] = (10, ⟨c0, c1, c2, c3, c4, c5, c6, c7, c8, c9, c10, c11⟩, seen) := by simp only [lineSpec, hk]
    rw [hls]
    intro w' hA
    exact ⟨rfl, hA.blk 0 _ rfl, hA.blk 1 _ rfl, hA.since (w, _) (List.Mem.head _)⟩
  | some k =>
  rw [findF_some hk] at hfind
  have hk12 := (keyIdx_lt hk).1
  (intro w1 hA; refine (hfind w1).mono ?_; rintro e w2 ⟨rfl, hb⟩; refine ⟨.val _, _, _, rfl, hA.below' hb, ?_⟩)
  refine ⟨fun h => absurd (of_decide_eq_true h) (by omega), fun _ => ?_⟩
  refine ⟨k, rfl, hk12, ?_⟩
  refine ⟨_, nth_seen seen hk12 (by omega), rfl, ?_⟩
  refine ⟨fun h => ?_, fun h => ?_⟩
  · have hmem : k ∈ seen := by simpa using h
    have hls : lineSpec ⟨c0, c1, c2, c3, c4, c5, c6, c7, c8, c9, c10, c11⟩ seen [x, b2] = (8, ⟨c0, c1, c2, c3, c4, c5, c6, c7, c8, c9, c10, c11⟩, seen) := by simp only [lineSpec, hk, if_pos hmem]
    rw [hls]
    intro w' hA
    exact ⟨rfl, hA.blk 0 _ rfl, hA.blk 1 _ rfl, hA.since (w, _) (List.Mem.head _)⟩
  have hmem : k ∉ seen := by simpa using h
  have hls : lineSpec ⟨c0, c1, c2, c3, c4, c5, c6, c7, c8, c9, c10, c11⟩ seen [x, b2] = ((setSpec ⟨c0, c1, c2, c3, c4, c5, c6, c7, c8, c9, c10, c11⟩ k b2).2, (setSpec ⟨c0, c1, c2, c3, c4, c5, c6, c7, c8, c9, c10, c11⟩ k b2).1, k :: seen) := by
    simp only [lineSpec, hk, if_neg hmem]
  rw [hls]
  clear h hls
  refine ⟨k, rfl, hk12, ?_⟩
  refine ⟨_, setN_seen seen hk12 (by omega), rfl, rfl, ?_⟩
  obtain ⟨v, la, ok, hr, s1, s2, s3, s4⟩ := set_rel ⟨c0, c1, c2, c3, c4, c5, c6, c7, c8, c9, c10, c11⟩ hk12 b2
  have hread := read_c (strB b2) hb2l (leastW k).minus
  rw [strB_list, hr] at hread
  have hrow := rowsV_at k hk12
  unfold rowV at hrow
  clear hr
  generalize leastW k = lw at *
  generalize mostW k = mw at *
  generalize defW k = dw at *
  obtain ⟨ln, lm⟩ := lw
  obtain ⟨mn, mm⟩ := mw
  obtain ⟨dn, dm⟩ := dw
  obtain ⟨vn, vm⟩ := v
  have hwi := within_c ⟨(nameL k).toArray⟩ ⟨ln, lm⟩ ⟨mn, mm⟩ ⟨dn, dm⟩ ⟨vn, vm⟩
  generalize withinW ⟨ln, lm⟩ ⟨mn, mm⟩ ⟨vn, vm⟩ = wi at *
  intro w1 hA
  refine (rows_c w1).mono ?_
  rintro e w2 ⟨rfl, hb⟩
  refine ⟨.val _, [(1, ⟨g2, 79, seenS (k :: seen)⟩), (0, ⟨g1, 24, cfgS ⟨c0, c1, c2, c3, c4, c5, c6, c7, c8, c9, c10, c11⟩⟩)], [(w, fun b => b = g1 ∨ b = g2)], rfl, hA.below' hb, ?_⟩
  clear hA hb
  refine ⟨k, rfl, hk12, _, hrow, ?_⟩
  intro g3 _
  refine ⟨rfl, rfl, rfl, rfl, ?_⟩
  refine ⟨_, [(2, ⟨g3, 59, .val (.string ⟨(nameL k).toArray⟩) :: (wideV ⟨ln, lm⟩ ++ wideV ⟨mn, mm⟩ ++ wideV ⟨dn, dm⟩).map SV.val⟩)], [(w, fun b => b = g1 ∨ b = g2)], [], .inr rfl, .inl ⟨rfl, trivial⟩, fun _ h => h, (.take 0 (.take 1 (.take 2 (.take 3 (.take 4 (.take 5 (.alt 6 (.take 7 (.take 8 (.take 9 (.take 10 (.alt 11 (.alt 12 (.take 13 (.take 14 .done)) .stop) .stop))))) (.alt 11 (.alt 6 (.take 7 (.take 8 (.take 9 (.take 10 (.alt 12 (.take 13 (.take 14 .done)) .stop))))) .stop) .stop)))))))), by kernel_rfl, ?_⟩
  refine ⟨bb, oo, 1, rfl, rfl, by simp, ?_⟩
  refine ⟨.string (strB b2), fun w' hA => ld1' w' hA (List.Mem.head _), ?_⟩
  refine ⟨_, rfl, rfl, ?_⟩
  refine ⟨?_, ?_⟩
  · intro w2 hA
    refine (hread w2 (fun w' hb => hlib w' ((hA.below' hb).since (w, _) (List.Mem.head _)))).mono ?_
    rintro e w3 ⟨rfl, hb⟩
    refine ⟨.val _, _, _, rfl, hA.below' hb, rfl, List.Mem.head _, ?_⟩
    clear hA hb
    refine ⟨_, rfl, _, rfl, _, rfl, ?_⟩
    intro g4 _
    refine ⟨rfl, List.Mem.head _, ?_⟩
    refine ⟨rfl, rfl, rfl, rfl, ?_⟩
    refine ⟨rfl, List.Mem.head _, ?_⟩
    refine ⟨fun h => ?_, fun h => ?_⟩
    · have h : ok = false := by simpa using h
      rw [s1 h]
      intro w' hA
      exact ⟨rfl, hA.blk 0 _ rfl, hA.blk 1 _ rfl, hA.since (w, _) (List.Mem.head _)⟩
    have h : ok = true := by simpa using h
    replace s2 := s2 h
    replace s3 := s3 h
    replace s4 := s4 h
    clear s1 h
    refine ⟨fun hla => ?_, fun hla => ?_⟩
    · have hla : la = false := hla
      replace s3 := s3 hla
      replace s4 := s4 hla
      refine ⟨rfl, rfl, ?_⟩
      refine ⟨rfl, rfl, ?_⟩
      intro w1 hA
      refine (hwi w1).mono ?_
      rintro e w2 ⟨rfl, hb⟩
      refine ⟨.val _, _, _, rfl, hA.below' hb, ?_⟩
      clear hA hb
      refine ⟨fun h => ?_, fun h => ?_⟩
      · have h : wi = false := by simpa using h
        rw [s3 h]
        intro w' hA
        exact ⟨rfl, hA.blk 0 _ rfl, hA.blk 1 _ rfl, hA.since (w, _) (List.Mem.head _)⟩
      have h : wi = true := by simpa using h
      rw [s4 h]
      refine ⟨rfl, rfl, ?_⟩
      intro w1 hA
      refine (set_c g1 ⟨c0, c1, c2, c3, c4, c5, c6, c7, c8, c9, c10, c11⟩ k hk12 ⟨vn, vm⟩ w1 (hA.blk 0 _ rfl)).mono ?_
      rintro e w2 ⟨rfl, hb2', hs2⟩
      generalize setF ⟨c0, c1, c2, c3, c4, c5, c6, c7, c8, c9, c10, c11⟩ k ⟨vn, vm⟩ = d at *
      have hA2 := (hA.wrote (i := 0) rfl hs2 hb2').sub (M' := [(1, ⟨g2, 79, seenS (k :: seen)⟩), (0, ⟨g1, 24, cfgS d⟩)]) ⟨rfl, rfl, trivial⟩
      refine ⟨.val _, _, _, rfl, hA2, ?_⟩
      clear hA hA2 hb2' hs2
      intro w' hA
      exact ⟨rfl, hA.blk 0 _ rfl, hA.blk 1 _ rfl, hA.since (w, _) (List.Mem.head _)⟩
    · have hla : la = true := by simpa using hla
      rw [s2 hla]
      (repeat (first | refine ⟨fun _ => ?_, fun h => Bool.noConfusion h⟩ | refine ⟨fun h => Bool.noConfusion h, fun _ => ?_⟩ | refine ⟨_, wrap_in _ (by omega) (by omega), ?_⟩ | refine ⟨_, wrapu_in _ (by omega) (by omega), ?_⟩ | refine ⟨_, wrap8_in _ (by omega) (by omega), ?_⟩ | refine ⟨_, rfl, ?_⟩ | refine ⟨rfl, ?_⟩))
      intro w' hA
      exact ⟨rfl, hA.blk 0 _ rfl, hA.blk 1 _ rfl, hA.since (w, _) (List.Mem.head _)⟩
  · intro g4 _
    refine ⟨rfl, List.Mem.head _, ?_⟩
    intro w2 hA
    refine (hread w2 (fun w' hb => hlib w' ((hA.below' hb).since (w, _) (List.Mem.head _)))).mono ?_
    rintro e w3 ⟨rfl, hb⟩
    refine ⟨.val _, _, _, rfl, hA.below' hb, rfl, List.Mem.head _, ?_⟩
    clear hA hb
    refine ⟨_, rfl, _, rfl, _, rfl, ?_⟩
    refine ⟨rfl, rfl, rfl, rfl, ?_⟩
    refine ⟨rfl, List.Mem.head _, ?_⟩
    refine ⟨fun h => ?_, fun h => ?_⟩
    · have h : ok = false := by simpa using h
      rw [s1 h]
      intro w' hA
      exact ⟨rfl, hA.blk 0 _ rfl, hA.blk 1 _ rfl, hA.since (w, _) (List.Mem.head _)⟩
    have h : ok = true := by simpa using h
    replace s2 := s2 h
    replace s3 := s3 h
    replace s4 := s4 h
    clear s1 h
    refine ⟨fun hla => ?_, fun hla => ?_⟩
    · have hla : la = false := hla
      replace s3 := s3 hla
      replace s4 := s4 hla
      refine ⟨rfl, rfl, ?_⟩
      refine ⟨rfl, rfl, ?_⟩
      intro w1 hA
      refine (hwi w1).mono ?_
      rintro e w2 ⟨rfl, hb⟩
      refine ⟨.val _, _, _, rfl, hA.below' hb, ?_⟩
      clear hA hb
      refine ⟨fun h => ?_, fun h => ?_⟩
      · have h : wi = false := by simpa using h
        rw [s3 h]
        intro w' hA
        exact ⟨rfl, hA.blk 0 _ rfl, hA.blk 1 _ rfl, hA.since (w, _) (List.Mem.head _)⟩
      have h : wi = true := by simpa using h
      rw [s4 h]
      refine ⟨rfl, rfl, ?_⟩
      intro w1 hA
      refine (set_c g1 ⟨c0, c1, c2, c3, c4, c5, c6, c7, c8, c9, c10, c11⟩ k hk12 ⟨vn, vm⟩ w1 (hA.blk 0 _ rfl)).mono ?_
      rintro e w2 ⟨rfl, hb2', hs2⟩
      generalize setF ⟨c0, c1, c2, c3, c4, c5, c6, c7, c8, c9, c10, c11⟩ k ⟨vn, vm⟩ = d at *
      have hA2 := (hA.wrote (i := 0) rfl hs2 hb2').sub (M' := [(1, ⟨g2, 79, seenS (k :: seen)⟩), (0, ⟨g1, 24, cfgS d⟩)]) ⟨rfl, rfl, trivial⟩
      refine ⟨.val _, _, _, rfl, hA2, ?_⟩
      clear hA hA2 hb2' hs2
      intro w' hA
      exact ⟨rfl, hA.blk 0 _ rfl, hA.blk 1 _ rfl, hA.since (w, _) (List.Mem.head _)⟩
    · have hla : la = true := by simpa using hla
      rw [s2 hla]
      (repeat (first | refine ⟨fun _ => ?_, fun h => Bool.noConfusion h⟩ | refine ⟨fun h => Bool.noConfusion h, fun _ => ?_⟩ | refine ⟨_, wrap_in _ (by omega) (by omega), ?_⟩ | refine ⟨_, wrapu_in _ (by omega) (by omega), ?_⟩ | refine ⟨_, wrap8_in _ (by omega) (by omega), ?_⟩ | refine ⟨_, rfl, ?_⟩ | refine ⟨rfl, ?_⟩))
      intro w' hA
      exact ⟨rfl, hA.blk 0 _ rfl, hA.blk 1 _ rfl, hA.since (w, _) (List.Mem.head _)⟩
end Go.Proofs.YtllepnadffndnaaDoor
namespace Go.Proofs.YtllepnadffndnaaDoor
open Go.RowKit
def consHead (c : UInt8) : List Bs → List Bs
  | h :: t => (c :: h) :: t
  | [] => [[c]]
theorem splitK_ne (c : UInt8) (r : Bs) (hc : c ≠ 10) (k : Nat) : Lib.splitK [10] 0 k (c :: r) = consHead c (Lib.splitK [10] 0 k r) := by
  cases k with
  | zero => rfl
  | succ k =>
    have hp : ([10] : List UInt8).isPrefixOf (c :: r) = false := by simp [List.isPrefixOf, Ne.symm hc]
    have hix : Lib.index (c :: r) [10] = if Lib.index r [10] == -1 then -1 else Lib.index r [10] + 1 := by rw [Lib.index, hp]; simp
    unfold Lib.splitK
    by_cases hm : Lib.index r [10] = -1
    · rw [hix, if_pos (beq_iff_eq.2 hm), hm]; rfl
    · have hge := Lib.index_ge r [10]
      obtain ⟨j, hj⟩ : ∃ j : Nat, Lib.index r [10] = j := ⟨(Lib.index r [10]).toNat, by omega⟩
      have h1 : ((j : Int) == -1) = false := by
        rw [Bool.eq_false_iff]; intro e; have := eq_of_beq e; omega
      have h2 : ((j : Int) + 1 == -1) = false := by
        rw [Bool.eq_false_iff]; intro e; have := eq_of_beq e; omega
      have h3 : ((j : Int) + 1).toNat = j + 1 := by omega
      rw [hix, hj]
      simp only [h1, h2, h3, Bool.false_eq_true, if_false, Int.toNat_natCast, Nat.add_zero, List.length_singleton]
      rfl
theorem split_lines : ∀ l : Bs, Lib.splitK [10] 0 (Lib.count l [10]) l = linesOf l
  | [] => by rw [Lib.count_miss (by simp [Lib.index])]; rfl
  | c :: r => by
    by_cases hc : c = 10
    · subst hc
      have hix : Lib.index ((10 : UInt8) :: r) [10] = 0 := by rw [Lib.index]; simp [List.isPrefixOf]
      rw [Lib.count_cons_eq, Nat.add_comm, Lib.splitK, hix, linesOf]
      have := split_lines r
      simpa using this
    · rw [Lib.count_cons_ne c 10 r hc, splitK_ne c r hc, split_lines r]
      conv => rhs; rw [linesOf]
      rw [if_neg hc]
      cases linesOf r <;> rfl
theorem arrays_of {L : List Bs} : ∀ {xs : List ByteArray}, xs.map (·.data.toList) = L → xs = L.map strB := by
  intro xs h
  rw [← h, List.map_map]
  conv => lhs; rw [← List.map_id xs]
  refine List.map_congr_left fun x _ => ?_
  simp [strB]
theorem split_c (s : ByteArray) (hs : s.size ≤ 1048576) (w : World) (hlib : LibOK w) :
    Calls Tryd.prog 40 #[.string s, .string ⟨#[10]⟩] w fun e w' => ∃ v, e = .returned v ∧ WordsAt w w' v (linesOf s.data.toList) ∧ Below w.heap.size w w' := by
  obtain ⟨m, hm⟩ := hlib.maxLen
  have h0 := Any.strings_Split (L := { Tryd.laysM146 with }) Tryd.laysM146.i9 s ⟨#[10]⟩ m w (by omega) hm (by decide)
  refine Calls.mono h0 ?_
  rintro e w' ⟨rfl, rfl⟩
  have hx : Lib.splitB ⟨#[10]⟩ 0 (Lib.countB s ⟨#[10]⟩) s = (linesOf s.data.toList).map strB := by
    refine arrays_of ?_
    rw [Lib.splitB_data]
    exact split_lines _
  have hl := Lib.splitB_all ⟨#[10]⟩ (by decide) 0 _ s rfl
  rw [hx] at hl
  simp only [List.length_map] at hl
  have hll := lines_len s.data.toList
  have hsz := str_len s
  refine ⟨_, rfl, ⟨some ⟨w.heap.size, 0, none⟩, (linesOf s.data.toList).length, by rw [hl], ?_⟩, (Below.refl _ _).alloc (Nat.le_refl _) _⟩
  rw [hx]
  refine Sl.of_blk (cells := (linesOf s.data.toList).map strV) (t := 9) ?_ (Nat.le_refl _) (SlL_strs _ _ _ fun x hx => ?_) ?_
  · have e : ((linesOf s.data.toList).map strB).map Value.string = (linesOf s.data.toList).map strV := by rw [List.map_map]; rfl
    rw [e]
    unfold Blk World.alloc
    simp
    rfl
  · have := hll.2 x hx
    omega
  · simp
    omega
end Go.Proofs.YtllepnadffndnaaDoor
