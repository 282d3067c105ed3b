/- What a text of a configuration is read as. -/
import Derived.Test.YtllepnadffndnaaDoorCfgE
import Derived.Test.YtllepnadffndnaaDoorText
namespace Go.Proofs.YtllepnadffndnaaDoor

def setP : MConfig → Int → MConfig
  | ⟨c0, c1, c2, c3, c4, c5, c6, c7, c8, _, c10, c11⟩, v => ⟨c0, c1, c2, c3, c4, c5, c6, c7, c8, v, c10, c11⟩
def setSpec (c : MConfig) (k : Nat) (b : Bs) : MConfig × Int :=
  if k = 8 ∧ b = [45, 49] then (setI c 8 (-1), 0) else
  match numberB b with
  | none => if digitsB b then (c, 1) else (c, 2)
  | some n => if k = 9 then (setP c n, 0) else if greatI k < n ∨ (n : Int) < leastI k then (c, 1) else (setI c k n, 0)
def keyIdx (w : Bs) : Option Nat := (List.range 12).find? fun k => nameL k == w
def lineSpec (c : MConfig) (seen : List Nat) : List Bs → Int × MConfig × List Nat
  | [a, b] => match keyIdx a with
    | none => (10, c, seen)
    | some k => if k ∈ seen then (8, c, seen) else ((setSpec c k b).2, (setSpec c k b).1, k :: seen)
  | _ => (2, c, seen)
def goSpec : List Bs → Nat → MConfig → List Nat → MConfig × Int × Int
  | [], _, c, _ => if c.self ≥ c.nodes then (zeroC, 0, 1) else (c, 0, 0)
  | l :: ls, i, c, seen => if wordsOf l = [] then goSpec ls (i + 1) c seen
    else if (lineSpec c seen (wordsOf l)).1 ≠ 0 then (zeroC, (i : Int) + 1, (lineSpec c seen (wordsOf l)).1)
    else goSpec ls (i + 1) (lineSpec c seen (wordsOf l)).2.1 (lineSpec c seen (wordsOf l)).2.2
def parseSpec (t : Bs) : MConfig × Int × Int :=
  if 4096 < t.length then (zeroC, 0, 3) else if validS t = false then (zeroC, 0, 4) else goSpec (linesOf t) 0 defC []
theorem nameL_sh (k : Nat) : (nameL k).length ≤ 12 := by
  unfold nameL
  split <;> decide
theorem keyIdx_lt {w : Bs} {k : Nat} (h : keyIdx w = some k) : k < 12 ∧ nameL k = w := by
  unfold keyIdx at h
  have h1 := List.mem_of_find?_eq_some h
  have h2 := List.find?_some h
  exact ⟨List.mem_range.1 h1, by simpa using h2⟩
theorem name_inj {j k : Nat} (hj : j < 12) (hk : k < 12) (h : nameL j = nameL k) : j = k := by
  have key : ∀ j, j < 12 → ∀ k, k < 12 → nameL j = nameL k → j = k := by decide
  exact key j hj k hk h
theorem keyIdx_name {k : Nat} (hk : k < 12) : keyIdx (nameL k) = some k := by
  have key : ∀ k, k < 12 → keyIdx (nameL k) = some k := by decide
  exact key k hk
theorem keyIdx_none {w : Bs} (h : keyIdx w = none) {k : Nat} (hk : k < 12) : nameL k ≠ w := by
  intro e
  rw [← e, keyIdx_name hk] at h
  cases h
theorem keyIdx_of {w : Bs} {k : Nat} (hk : k < 12) (h : nameL k = w) : keyIdx w = some k := by rw [← h]; exact keyIdx_name hk
section
variable {c : MConfig} {k : Nat} {b : Bs} {n : Nat}
theorem setSpec_m1 (h1 : k = 8) (h2 : b = [45, 49]) : setSpec c k b = (setI c 8 (-1), 0) := by unfold setSpec; rw [if_pos ⟨h1, h2⟩]
theorem setSpec_big (h : ¬ (k = 8 ∧ b = [45, 49])) (hn : numberB b = none) (hd : digitsB b = true) : setSpec c k b = (c, 1) := by unfold setSpec; rw [if_neg h, hn]; simp only [hd, if_true]
theorem setSpec_syn (h : ¬ (k = 8 ∧ b = [45, 49])) (hn : numberB b = none) (hd : digitsB b = false) : setSpec c k b = (c, 2) := by unfold setSpec; rw [if_neg h, hn]; simp only [hd, Bool.false_eq_true, if_false]
theorem setSpec_price (h : ¬ (k = 8 ∧ b = [45, 49])) (hn : numberB b = some n) (h9 : k = 9) : setSpec c k b = (setP c n, 0) := by unfold setSpec; rw [if_neg h, hn]; simp only [h9, if_true]
theorem setSpec_out (h : ¬ (k = 8 ∧ b = [45, 49])) (hn : numberB b = some n) (h9 : k ≠ 9) (hr : greatI k < n ∨ (n : Int) < leastI k) : setSpec c k b = (c, 1) := by unfold setSpec; rw [if_neg h, hn]; simp only [h9, if_false, hr, if_true]
theorem setSpec_ok (h : ¬ (k = 8 ∧ b = [45, 49])) (hn : numberB b = some n) (h9 : k ≠ 9) (hr : ¬ (greatI k < n ∨ (n : Int) < leastI k)) : setSpec c k b = (setI c k n, 0) := by unfold setSpec; rw [if_neg h, hn]; simp only [h9, if_false, hr]
end
theorem setSpec_err (c : MConfig) (k : Nat) (b : Bs) : (setSpec c k b).2 = 0 ∨ (setSpec c k b).2 = 1 ∨ (setSpec c k b).2 = 2 := by
  by_cases h : k = 8 ∧ b = [45, 49]
  · rw [setSpec_m1 h.1 h.2]; exact .inl rfl
  · cases hn : numberB b with
    | none =>
      cases hd : digitsB b with
      | true => rw [setSpec_big h hn hd]; exact .inr (.inl rfl)
      | false => rw [setSpec_syn h hn hd]; exact .inr (.inr rfl)
    | some n =>
      by_cases h9 : k = 9
      · rw [setSpec_price h hn h9]; exact .inl rfl
      · by_cases hr : greatI k < n ∨ (n : Int) < leastI k
        · rw [setSpec_out h hn h9 hr]; exact .inr (.inl rfl)
        · rw [setSpec_ok h hn h9 hr]; exact .inl rfl
theorem greatI_pos (k : Nat) : 0 ≤ greatI k ∧ greatI k ≤ 1125899906842624 := by
  unfold greatI
  split <;> decide
theorem leastI_range (k : Nat) : -1 ≤ leastI k ∧ leastI k ≤ 1 := by
  unfold leastI
  split <;> decide
theorem numberB_lt {b : Bs} {n : Nat} (h : numberB b = some n) : n < 18446744073709551616 ∧ digitsB b = true := by
  unfold numberB at h
  split at h
  · rename_i h2
    simp only [Bool.and_eq_true, decide_eq_true_eq] at h2
    injection h with h
    exact ⟨by omega, h2.1⟩
  · cases h
end Go.Proofs.YtllepnadffndnaaDoor
