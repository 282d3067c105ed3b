/- The reference's small functions over texts. -/
import Derived.Test.YtllepnadffndnaaDoorRune
namespace Go.Proofs.YtllepnadffndnaaDoor
open Go.RowKit

theorem str_eq (s : ByteArray) (a : Array UInt8) : (s.toList == (⟨a⟩ : ByteArray).toList) = (s.data.toList == a.toList) := by
  rw [ByteArray.toList_eq, ByteArray.toList_eq]
theorem str_len (s : ByteArray) : s.data.toList.length = s.size := by simp
theorem drop_ne {l : Bs} {i : Nat} (h : i < l.length) : l.drop i ≠ [] := by
  intro e
  have := congrArg List.length e
  simp at this
  omega

theorem runes_c (s : ByteArray) (hs : s.size ≤ 140737488355328) (w : World) :
    Calls Tryd.prog 55 #[.string s] w fun e w' => ∃ n : Int, e = .returned (.tuple #[.int .i64 n, .bool (validS s.data.toList)]) ∧ Below w.heap.size w w' := by
  have hsz := str_len s
  generalize hl : s.data.toList = l at *
  refine calls_of_vc seat Tryd.func55 rfl rfl (Nat.le_of_ble_eq_true rfl) (N := 22) (args := [.val (.string s)]) (Nat.le_of_ble_eq_true rfl) rfl (A.start w) ?_
  refine ⟨Nat × Nat, fun x => [(5, .val (.int .i64 x.1)), (4, .val (.int .i64 x.2)), (0, .val (.string s))], fun _ => [], fun _ => [(w, fun _ => False)], fun x => x.1 ≤ l.length ∧ x.2 ≤ x.1 ∧ validS (l.drop x.1) = validS l, fun x => l.length - x.1, ?_, ?_⟩
  · intro w1 hA
    exact ⟨(0, 0), ⟨by omega, by omega, rfl⟩, ⟨⟨_, rfl, rfl⟩, ⟨_, rfl, rfl⟩, ⟨_, rfl, rfl⟩, trivial⟩, hA⟩
  rintro ⟨i, n⟩ ⟨hi, hn, hv⟩
  have hi : i ≤ l.length := hi
  have hn : n ≤ i := hn
  have hv : validS (l.drop i) = validS l := hv
  refine ⟨fun h => ?_, fun h => ?_⟩
  · have h : i < l.length := by have := of_decide_eq_true h; omega
    intro w1 hA
    refine (rune_c s i hs (by rw [hl]; exact h) w1).mono ?_
    rintro e w2 ⟨rfl, hb⟩
    rw [hl, runeAt_nat]
    refine ⟨.val _, _, _, rfl, hA.below' hb, ?_⟩
    have hle := runeLen_le (drop_ne h)
    rw [List.length_drop] at hle
    have hbad := @validS_bad _ (drop_ne h)
    have hstep := @validS_step _ (drop_ne h)
    rw [List.drop_drop] at hstep
    generalize runeLen (l.drop i) = k at *
    refine ⟨fun h0 => ?_, fun h0 => ?_⟩
    · have h0 : k = 0 := by have := eq_of_beq h0; omega
      intro w' hA
      refine ⟨0, ?_, hA.bel (by simp)⟩
      rw [← hv, hbad h0]; rfl
    · have h0 : k ≠ 0 := by have := ne_of_beq_false h0; omega
      refine ⟨((i + k : Nat) : Int), wrap_in _ (by omega) (by omega), ?_⟩
      refine ⟨((n + 1 : Nat) : Int), wrap_in _ (by omega) (by omega), ?_⟩
      intro w' hA
      exact ⟨(i + k, n + 1), ⟨by show i + k ≤ _; omega, by show n + 1 ≤ i + k; omega, by rw [← hv, hstep h0]⟩, by show l.length - (i + k) < l.length - i; omega, ⟨⟨_, rfl, rfl⟩, ⟨_, rfl, rfl⟩, ⟨_, rfl, rfl⟩, trivial⟩, hA⟩
  · have h : ¬ i < l.length := by have := of_decide_eq_false h; omega
    intro w' hA
    refine ⟨n, ?_, hA.bel (by simp)⟩
    rw [← hv, List.drop_of_length_le (by omega), validS_nil]; rfl

theorem space_c (s : ByteArray) (w : World) :
    Calls Tryd.prog 69 #[.string s] w fun e w' => e = .returned (.bool (spaceB s.data.toList)) ∧ Below w.heap.size w w' := by
  refine calls_of_vc seat Tryd.func69 rfl rfl (Nat.le_of_ble_eq_true rfl) (N := 21) (args := [.val (.string s)]) (Nat.le_of_ble_eq_true rfl) rfl (A.start w) ?_
  refine ⟨fun h1 => ?_, fun h1 => ?_⟩
  · rw [str_eq] at h1
    refine ⟨fun h2 => ?_, fun h2 => ?_⟩
    · rw [str_eq] at h2
      refine ⟨fun h3 => ?_, fun h3 => ?_⟩
      · rw [str_eq] at h3
        refine ⟨fun h4 => ?_, fun h4 => ?_⟩
        · rw [str_eq] at h4
          intro w' hA
          refine ⟨ret_bool ?_, hA.bel (by simp)⟩
          rw [str_eq]
          simp only [spaceB, h1, h2, h3, h4, Bool.false_or]
        · rw [str_eq] at h4
          intro w' hA
          refine ⟨ret_bool ?_, hA.bel (by simp)⟩
          simp only [spaceB, h4, Bool.or_true, Bool.true_or, Bool.not_false]
      · rw [str_eq] at h3
        (repeat (first | refine ⟨fun _ => ?_, fun h => Bool.noConfusion h⟩ | refine ⟨fun h => Bool.noConfusion h, fun _ => ?_⟩ | refine ⟨_, wrap_in _ (by omega) (by omega), ?_⟩ | refine ⟨_, wrapu_in _ (by omega) (by omega), ?_⟩ | refine ⟨_, wrap8_in _ (by omega) (by omega), ?_⟩ | refine ⟨_, rfl, ?_⟩ | refine ⟨rfl, ?_⟩))
        intro w' hA
        refine ⟨ret_bool ?_, hA.bel (by simp)⟩
        simp only [spaceB, h3, Bool.or_true, Bool.true_or, Bool.not_false]
    · rw [str_eq] at h2
      (repeat (first | refine ⟨fun _ => ?_, fun h => Bool.noConfusion h⟩ | refine ⟨fun h => Bool.noConfusion h, fun _ => ?_⟩ | refine ⟨_, wrap_in _ (by omega) (by omega), ?_⟩ | refine ⟨_, wrapu_in _ (by omega) (by omega), ?_⟩ | refine ⟨_, wrap8_in _ (by omega) (by omega), ?_⟩ | refine ⟨_, rfl, ?_⟩ | refine ⟨rfl, ?_⟩))
      intro w' hA
      refine ⟨ret_bool ?_, hA.bel (by simp)⟩
      simp only [spaceB, h2, Bool.or_true, Bool.true_or, Bool.not_false]
  · rw [str_eq] at h1
    (repeat (first | refine ⟨fun _ => ?_, fun h => Bool.noConfusion h⟩ | refine ⟨fun h => Bool.noConfusion h, fun _ => ?_⟩ | refine ⟨_, wrap_in _ (by omega) (by omega), ?_⟩ | refine ⟨_, wrapu_in _ (by omega) (by omega), ?_⟩ | refine ⟨_, wrap8_in _ (by omega) (by omega), ?_⟩ | refine ⟨_, rfl, ?_⟩ | refine ⟨rfl, ?_⟩))
    intro w' hA
    refine ⟨ret_bool ?_, hA.bel (by simp)⟩
    simp only [spaceB, h1, Bool.true_or, Bool.not_false]

theorem take_all {l : Bs} {p : UInt8 → Bool} {i : Nat} (h : i < l.length) : (l.take (i + 1)).all p = ((l.take i).all p && p (byteAt l i)) := by
  rw [List.take_add_one, byteAt_some h]
  simp
theorem all_false {l : Bs} {p : UInt8 → Bool} {i : Nat} (h : i < l.length) (h2 : p (byteAt l i) = false) : l.all p = false := by
  rw [List.all_eq_false]
  refine ⟨byteAt l i, ?_, by simp [h2]⟩
  have := byteAt_some h
  exact List.mem_of_getElem? this

theorem u8eq (c d : UInt8) : (((c.toNat : Int) == (d.toNat : Int)) = (c == d)) := by
  rw [Bool.eq_iff_iff]
  simp only [beq_iff_eq]
  constructor
  · intro h
    exact UInt8.toNat_inj.1 (by omega)
  · rintro rfl; rfl
theorem digits_c (s : ByteArray) (hs : s.size ≤ 140737488355328) (w : World) :
    Calls Tryd.prog 71 #[.string s] w fun e w' => e = .returned (.bool (digitsB s.data.toList)) ∧ Below w.heap.size w w' := by
  have hsz := str_len s
  have hemp := str_eq s #[]
  generalize hl : s.data.toList = l at *
  refine calls_of_vc seat Tryd.func71 rfl rfl (Nat.le_of_ble_eq_true rfl) (N := 32) (args := [.val (.string s)]) (Nat.le_of_ble_eq_true rfl) rfl (A.start w) ?_
  refine ⟨Nat, fun i => [(3, .val (.int .i64 i)), (0, .val (.string s))], fun _ => [], fun _ => [(w, fun _ => False)], fun i => i ≤ l.length ∧ (l.take i).all digitB = true, fun i => l.length - i, ?_, ?_⟩
  · intro w1 hA
    exact ⟨0, ⟨by omega, rfl⟩, ⟨⟨_, rfl, rfl⟩, ⟨_, rfl, rfl⟩, trivial⟩, hA⟩
  rintro i ⟨hi, hall⟩
  refine ⟨fun h => ?_, fun h => ?_⟩
  · have h : i < l.length := by have := of_decide_eq_true h; omega
    have hc := byteAt_some h
    rw [← hl] at hc
    have hbad : digitB (byteAt l i) = false → digitsB l = false := fun e => by simp [digitsB, all_false h e]
    have hgood : digitB (byteAt l i) = true → (l.take (i + 1)).all digitB = true := fun e => by rw [take_all h, hall, e]; rfl
    rw [hl] at hc
    have hdg : digitB (byteAt l i) = !(decide (((byteAt l i).toNat : Int) < 48) || decide (57 < ((byteAt l i).toNat : Int))) := rfl
    generalize byteAt l i = c at *
    refine ⟨i, c, rfl, by rw [hl]; exact hc, ?_⟩
    refine ⟨fun h1 => ?_, fun h1 => ?_⟩
    · refine ⟨i, c, rfl, by rw [hl]; exact hc, ?_⟩
      refine ⟨fun h2 => ?_, fun h2 => ?_⟩
      · intro w' hA
        refine ⟨ret_bool ?_, hA.bel (by simp)⟩
        rw [hbad (by rw [hdg, h2]; simp)]
      · refine ⟨((i + 1 : Nat) : Int), wrap_in _ (by omega) (by omega), ?_⟩
        intro w' hA
        exact ⟨i + 1, ⟨by omega, hgood (by rw [hdg, h1, h2]; rfl)⟩, by show l.length - (i + 1) < l.length - i; omega, ⟨⟨_, rfl, rfl⟩, ⟨_, rfl, rfl⟩, trivial⟩, hA⟩
    · (repeat (first | refine ⟨fun _ => ?_, fun h => Bool.noConfusion h⟩ | refine ⟨fun h => Bool.noConfusion h, fun _ => ?_⟩ | refine ⟨_, wrap_in _ (by omega) (by omega), ?_⟩ | refine ⟨_, wrapu_in _ (by omega) (by omega), ?_⟩ | refine ⟨_, wrap8_in _ (by omega) (by omega), ?_⟩ | refine ⟨_, rfl, ?_⟩ | refine ⟨rfl, ?_⟩))
      intro w' hA
      refine ⟨ret_bool ?_, hA.bel (by simp)⟩
      rw [hbad (by rw [hdg, h1]; simp)]
  · have h : ¬ i < l.length := by have := of_decide_eq_false h; omega
    have hall : l.all digitB = true := by rw [List.take_of_length_le (by omega)] at hall; exact hall
    refine ⟨fun h1 => ?_, fun h1 => ?_⟩
    · have h1 : l ≠ [] := by rw [hemp] at h1; simpa using h1
      refine ⟨fun h2 => ?_, fun h2 => ?_⟩
      · have hp : 0 < l.length := List.length_pos_iff.2 h1
        refine ⟨0, _, rfl, by rw [hl]; exact byteAt_some hp, ?_⟩
        have h2 : l.length ≠ 1 := by have := ne_of_beq_false h2; omega
        intro w' hA
        refine ⟨ret_bool ?_, hA.bel (by simp)⟩
        have : l.isEmpty = false := by simpa using h1
        have h3 : (l.length == 1) = false := by simpa using h2
        have e := u8eq (byteAt l 0) 48
        have e2 : (((byteAt l 0).toNat : Int) != 48) = !((byteAt l 0) == 48) := by rw [← e]; rfl
        rw [e2]
        simp only [digitsB, hall, this, h3]
        simp
      · have h2 : l.length = 1 := by have := eq_of_beq h2; omega
        (repeat (first | refine ⟨fun _ => ?_, fun h => Bool.noConfusion h⟩ | refine ⟨fun h => Bool.noConfusion h, fun _ => ?_⟩ | refine ⟨_, wrap_in _ (by omega) (by omega), ?_⟩ | refine ⟨_, wrapu_in _ (by omega) (by omega), ?_⟩ | refine ⟨_, wrap8_in _ (by omega) (by omega), ?_⟩ | refine ⟨_, rfl, ?_⟩ | refine ⟨rfl, ?_⟩))
        intro w' hA
        refine ⟨ret_bool ?_, hA.bel (by simp)⟩
        have : l.isEmpty = false := by simpa using h1
        simp [digitsB, hall, this, h2]
    · have h1 : l = [] := by rw [hemp] at h1; simpa using h1
      (repeat (first | refine ⟨fun _ => ?_, fun h => Bool.noConfusion h⟩ | refine ⟨fun h => Bool.noConfusion h, fun _ => ?_⟩ | refine ⟨_, wrap_in _ (by omega) (by omega), ?_⟩ | refine ⟨_, wrapu_in _ (by omega) (by omega), ?_⟩ | refine ⟨_, wrap8_in _ (by omega) (by omega), ?_⟩ | refine ⟨_, rfl, ?_⟩ | refine ⟨rfl, ?_⟩))
      intro w' hA
      refine ⟨ret_bool ?_, hA.bel (by simp)⟩
      simp [digitsB, h1]

theorem ba_beq {x y : ByteArray} (h : (x == y) = true) : x = y := by
  rw [beq_toListBytes, ByteArray.toList_eq, ByteArray.toList_eq] at h
  have h := eq_of_beq h
  apply ByteArray.ext
  exact Array.toList_inj.1 h
theorem ba_refl (x : ByteArray) : (x == x) = true := by
  rw [beq_toListBytes]; simp
theorem index_c (a : Option Addr) (c : Nat) (xs : List ByteArray) (s : ByteArray) (w : World) {S : Fp} (hL : Sl Rp.str w S a xs) :
    Calls Tryd.prog 57 #[.slice a xs.length c, .string s] w fun e w' => ∃ r : Int, e = .returned (.int .i64 r) ∧ ((r = -1 ∧ ∀ k : Nat, xs[k]? ≠ some s) ∨ ∃ k : Nat, r = k ∧ k < xs.length ∧ xs[k]? = some s ∧ ∀ j : Nat, j < k → xs[j]? ≠ some s) ∧ Below w.heap.size w w' := by
  have hle := hL.1
  refine calls_of_vc seat Tryd.func57 rfl rfl (Nat.le_of_ble_eq_true rfl) (N := 19) (args := [.val (.slice a xs.length c), .val (.string s)]) (Nat.le_of_ble_eq_true rfl) rfl (A.start w) ?_
  refine ⟨Nat, fun k => [(9, .val (.int .i64 k)), (8, .val (.int .i64 xs.length)), (7, .val (.slice a xs.length c)), (1, .val (.string s))], fun _ => [], fun _ => [(w, fun _ => False)], fun k => k ≤ xs.length ∧ ∀ j : Nat, j < k → xs[j]? ≠ some s, fun k => xs.length - k, ?_, ?_⟩
  · intro w1 hA
    exact ⟨0, ⟨by omega, fun j hj => by omega⟩, ⟨⟨_, rfl, rfl⟩, ⟨_, rfl, rfl⟩, ⟨_, rfl, rfl⟩, ⟨_, rfl, rfl⟩, trivial⟩, hA⟩
  rintro k ⟨hk, hno⟩
  refine ⟨fun h => ?_, fun h => ?_⟩
  · have h : k < xs.length := by have := of_decide_eq_true h; omega
    obtain ⟨b, o, cs, rfl, _, hr, hat, _, _⟩ := hL.get 1 rfl (i := k) h
    obtain ⟨hc, _⟩ : cs = [.string xs[k]] ∧ _ := hr
    subst hc
    have hx := List.getElem?_eq_getElem h
    generalize xs[k] = x at hx hat
    refine ⟨b, o, k, rfl, rfl, h, ?_⟩
    refine ⟨.string x, fun w' hA => ld1 seat.tab rfl rfl hat (j := 0) rfl (by omega) (hA.bel (by simp)), ?_⟩
    refine ⟨fun h1 => ?_, fun h1 => ?_⟩
    · rw [← beq_toListBytes] at h1
      have h1 := ba_beq h1
      intro w' hA
      exact ⟨k, rfl, .inr ⟨k, rfl, h, by rw [hx, h1], hno⟩, hA.bel (by simp)⟩
    · rw [← beq_toListBytes] at h1
      have h1 : x ≠ s := by rintro rfl; simp [ba_refl] at h1
      refine ⟨((k + 1 : Nat) : Int), wrap_in _ (by omega) (by omega), ?_⟩
      intro w' hA
      refine ⟨k + 1, ⟨by omega, fun j hj => ?_⟩, by show xs.length - (k + 1) < xs.length - k; omega, ⟨⟨_, rfl, rfl⟩, ⟨_, rfl, rfl⟩, ⟨_, rfl, rfl⟩, ⟨_, rfl, rfl⟩, trivial⟩, hA⟩
      by_cases e : j = k
      · subst e; rw [hx]; intro e; exact h1 (Option.some.inj e)
      · exact hno j (by omega)
  · have h : ¬ k < xs.length := by have := of_decide_eq_false h; omega
    intro w' hA
    refine ⟨-1, rfl, .inl ⟨rfl, fun j => ?_⟩, hA.bel (by simp)⟩
    by_cases e : j < k
    · exact hno j e
    · rw [List.getElem?_eq_none (by omega)]; simp

theorem add_c (a b : Int) (ha : InU64 a) (hb0 : InU64 b) (w : World) :
    Calls Tryd.prog 86 #[.int .u64 a, .int .u64 b] w fun e w' => e = .returned (.tuple (if a + b < 18446744073709551616 then #[.int .u64 (a + b), .bool true] else #[.int .u64 0, .bool false])) ∧ Below w.heap.size w w' := by
  obtain ⟨a0, a1⟩ := ha
  obtain ⟨b0, b1⟩ := hb0
  refine calls_of_vc seat Tryd.func86 rfl rfl (Nat.le_of_ble_eq_true rfl) (N := 13) (args := [.val (.int .u64 a), .val (.int .u64 b)]) (Nat.le_of_ble_eq_true rfl) rfl (A.start w) ?_
  refine ⟨_, wrapu_in _ (by omega) (by omega), ?_⟩
  refine ⟨fun h => ?_, fun h => ?_⟩
  · have h := of_decide_eq_true h
    intro w' hA
    refine ⟨?_, hA.bel (by simp)⟩
    rw [if_neg (by omega)]; rfl
  · have h := of_decide_eq_false h
    refine ⟨_, wrapu_in _ (by omega) (by omega), ?_⟩
    intro w' hA
    refine ⟨?_, hA.bel (by simp)⟩
    rw [if_pos (by omega)]; rfl

theorem mul10_c (a : Int) (ha : InU64 a) (w : World) :
    Calls Tryd.prog 85 #[.int .u64 a, .int .u64 10] w fun e w' => e = .returned (.tuple (if a * 10 < 18446744073709551616 then #[.int .u64 (a * 10), .bool true] else #[.int .u64 0, .bool false])) ∧ Below w.heap.size w w' := by
  obtain ⟨a0, a1⟩ := ha
  refine calls_of_vc seat Tryd.func85 rfl rfl (Nat.le_of_ble_eq_true rfl) (N := 17) (args := [.val (.int .u64 a), .val (.int .u64 10)]) (Nat.le_of_ble_eq_true rfl) rfl (A.start w) ?_
  refine ⟨fun h => ?_, fun h => ?_⟩
  · have h : a ≠ 0 := by simpa using h
    have hd : (18446744073709551615 : Int).tdiv a = 18446744073709551615 / a := Int.tdiv_eq_ediv_of_nonneg (by decide)
    have hq : 10 ≤ 18446744073709551615 / a ↔ 10 * a ≤ 18446744073709551615 := Int.le_ediv_iff_mul_le (by omega)
    have hq0 : 0 ≤ 18446744073709551615 / a := Int.ediv_nonneg (by decide) a0
    have hq1 : 18446744073709551615 / a ≤ 18446744073709551615 := Int.ediv_le_self _ (by decide)
    refine ⟨h, 18446744073709551615 / a, by rw [hd]; exact wrapu_in _ hq0 (by omega), ?_⟩
    generalize 18446744073709551615 / a = q at *
    refine ⟨fun h1 => ?_, fun h1 => ?_⟩
    · have h1 := of_decide_eq_true h1
      intro w' hA
      refine ⟨?_, hA.bel (by simp)⟩
      rw [if_neg (by omega)]; rfl
    · have h1 := of_decide_eq_false h1
      refine ⟨_, wrapu_in _ (by omega) (by omega), ?_⟩
      intro w' hA
      refine ⟨?_, hA.bel (by simp)⟩
      rw [if_pos (by omega)]; rfl
  · have h : a = 0 := by simpa using h
    subst h
    (repeat (first | refine ⟨fun _ => ?_, fun h => Bool.noConfusion h⟩ | refine ⟨fun h => Bool.noConfusion h, fun _ => ?_⟩ | refine ⟨_, wrap_in _ (by omega) (by omega), ?_⟩ | refine ⟨_, wrapu_in _ (by omega) (by omega), ?_⟩ | refine ⟨_, wrap8_in _ (by omega) (by omega), ?_⟩ | refine ⟨_, rfl, ?_⟩ | refine ⟨rfl, ?_⟩))
    intro w' hA
    exact ⟨rfl, hA.bel (by simp)⟩
end Go.Proofs.YtllepnadffndnaaDoor
