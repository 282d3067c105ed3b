/- The reference's numbers, and how it sets a key. -/
import Derived.Test.YtllepnadffndnaaDoorRuneB
namespace Go.Proofs.YtllepnadffndnaaDoor
open Go.RowKit

theorem decVal_snoc (l : Bs) (c : UInt8) : decVal (l ++ [c]) = decVal l * 10 + (c.toNat - 48) := by simp [decVal]
theorem take_snoc {l : Bs} {i : Nat} (h : i < l.length) : l.take (i + 1) = l.take i ++ [byteAt l i] := by
  rw [List.take_add_one, byteAt_some h]; rfl
theorem decVal_mono (l r : Bs) : decVal l ≤ decVal (l ++ r) := by
  have key : ∀ (r : Bs) (a b : Nat), a ≤ b → a ≤ r.foldl (fun a c => a * 10 + (c.toNat - 48)) b := by
    intro r
    induction r with
    | nil => intro a b h; exact h
    | cons c r ih => intro a b h; exact ih a _ (show a ≤ b * 10 + (c.toNat - 48) by omega)
  unfold decVal
  rw [List.foldl_append]
  exact key r _ _ (Nat.le_refl _)
theorem decVal_take (l : Bs) (i : Nat) : decVal (l.take i) ≤ decVal l := by
  have := decVal_mono (l.take i) (l.drop i)
  rwa [List.take_append_drop] at this

def numTup : Option Nat → Array Value
  | some n => #[.int .u64 n, .bool true]
  | none => #[.int .u64 0, .bool false]

set_option maxHeartbeats 1000000 in
theorem number16_c (s : ByteArray) (hs : s.size ≤ 140737488355328) (w : World) :
    Calls Tryd.prog 70 #[.string s, .int .u64 18446744073709551615] w fun e w' => e = .returned (.tuple (numTup (numberB s.data.toList))) ∧ Below w.heap.size w w' := by
  have hsz := str_len s
  have hemp := str_eq s #[]
  generalize hl : s.data.toList = l at *
  have bad : digitsB l = false → numberB l = none := fun h => by simp [numberB, h]
  have big : 18446744073709551616 ≤ decVal l → numberB l = none := fun h => by
    have : ¬ decVal l < 18446744073709551616 := by omega
    simp [numberB, this]
  refine calls_of_vc seat Tryd.func70 rfl rfl (Nat.le_of_ble_eq_true rfl) (N := 66) (args := [.val (.string s), .val (.int .u64 18446744073709551615)]) (Nat.le_of_ble_eq_true rfl) rfl (A.start w) ?_
  have start : (s.toList == (⟨#[]⟩ : ByteArray).toList) = true ∨ (s.toList == (⟨#[]⟩ : ByteArray).toList) = false := by cases (s.toList == (⟨#[]⟩ : ByteArray).toList) <;> simp
  refine ⟨fun h1 => ?_, fun h1 => ?_⟩
  · have h1 : l ≠ [] := by rw [hemp] at h1; simpa using h1
    have hp : 0 < l.length := List.length_pos_iff.2 h1
    have hie : l.isEmpty = false := by simpa using h1
    have main : ¬ (1 < l.length ∧ byteAt l 0 = 48) → (l.all digitB = true → digitsB l = true) := by
      intro h h2
      have : l.length = 1 ∨ byteAt l 0 ≠ 48 := by
        by_cases e : l.length = 1
        · exact .inl e
        · exact .inr fun e2 => h ⟨by omega, e2⟩
      rcases this with e | e
      · simp [digitsB, h2, hie, e]
      · simp [digitsB, h2, hie, e]
    have rest : ∀ (E : Env), ¬ (1 < l.length ∧ byteAt l 0 = 48) → True := fun _ _ => trivial
    have loop : ¬ (1 < l.length ∧ byteAt l 0 = 48) → True := fun _ => trivial
    refine ⟨fun h2 => ?_, fun h2 => ?_⟩
    · have h2 : 1 < l.length := by have := of_decide_eq_true h2; omega
      refine ⟨0, _, rfl, by rw [hl]; exact byteAt_some hp, ?_⟩
      have e := u8eq (byteAt l 0) 48
      refine ⟨fun h3 => ?_, fun h3 => ?_⟩
      · have h3 : byteAt l 0 = 48 := eq_of_beq (e.symm.trans h3)
        intro w' hA
        refine ⟨?_, hA.bel (by simp)⟩
        have : (l.length == 1) = false := by simp; omega
        rw [bad (by simp [digitsB, this, h3])]; rfl
      · have h3 : byteAt l 0 ≠ 48 := ne_of_beq_false (e.symm.trans h3)
        have hm := main (by rintro ⟨_, e⟩; exact h3 e)
        clear e h3 h2
        refine ⟨Nat × Int, fun x => [(7, .val (.int .i64 x.1)), (6, .val (.int .u64 x.2)), (0, .val (.string s)), (1, .val (.int .u64 18446744073709551615))], fun _ => [], fun _ => [(w, fun _ => False)], fun x => x.1 ≤ l.length ∧ (l.take x.1).all digitB = true ∧ x.2 = decVal (l.take x.1) ∧ InU64 x.2, fun x => l.length - x.1, ?_, ?_⟩
        · intro w1 hA
          exact ⟨(0, 0), ⟨by omega, rfl, rfl, by unfold InU64; omega⟩, ⟨⟨_, rfl, rfl⟩, ⟨_, rfl, rfl⟩, ⟨_, rfl, rfl⟩, ⟨_, rfl, rfl⟩, trivial⟩, hA⟩
        rintro ⟨i, n⟩ ⟨hi, hall, hn, hnr⟩
        have hi : i ≤ l.length := hi
        have hall : (l.take i).all digitB = true := hall
        have hn : n = decVal (l.take i) := hn
        have hnr : InU64 n := hnr
        refine ⟨fun h => ?_, fun h => ?_⟩
        · have h : i < l.length := by have := of_decide_eq_true h; omega
          have hc : s.data.toList[i]? = some (byteAt l i) := by rw [hl]; exact byteAt_some h
          have hbad : digitB (byteAt l i) = false → numberB l = none := fun e => bad (by simp [digitsB, all_false h e])
          have hgood : digitB (byteAt l i) = true → (l.take (i + 1)).all digitB = true := fun e => by rw [take_all h, hall, e]; rfl
          have hdg : digitB (byteAt l i) = !(decide (((byteAt l i).toNat : Int) < 48) || decide (57 < ((byteAt l i).toNat : Int))) := rfl
          have hval : decVal (l.take (i + 1)) = decVal (l.take i) * 10 + ((byteAt l i).toNat - 48) := by rw [take_snoc h, decVal_snoc]
          have hle := decVal_take l (i + 1)
          have h256 := (byteAt l i).toNat_lt
          generalize byteAt l i = c at *
          refine ⟨i, c, rfl, hc, ?_⟩
          refine ⟨fun g1 => ?_, fun g1 => ?_⟩
          · refine ⟨i, c, rfl, hc, ?_⟩
            refine ⟨fun g2 => ?_, fun g2 => ?_⟩
            · intro w' hA
              refine ⟨?_, hA.bel (by simp)⟩
              rw [hbad (by rw [hdg, g2]; simp)]; rfl
            · have k1 := of_decide_eq_false g1
              have k2 := of_decide_eq_false g2
              have hgd := hgood (by rw [hdg, g1, g2]; rfl)
              clear hgood hbad hdg g1 g2
              have hm10 := mul10_c n hnr
              obtain ⟨m0, m1⟩ := hnr
              by_cases q1 : n * 10 < 18446744073709551616
              · rw [if_pos q1] at hm10
                intro w1 hA
                refine (hm10 w1).mono ?_
                rintro e w2 ⟨rfl, hb⟩
                refine ⟨.val _, _, _, rfl, hA.below' hb, ?_⟩
                clear hA hb
                refine ⟨_, rfl, _, rfl, ?_⟩
                refine ⟨i, c, rfl, hc, ?_⟩
                refine ⟨((c.toNat - 48 : Nat) : Int), by rw [wrap8_in _ (by omega) (by omega)]; omega, ?_⟩
                refine ⟨((c.toNat - 48 : Nat) : Int), wrapu_in _ (by omega) (by omega), ?_⟩
                have ha := add_c (n * 10) ((c.toNat - 48 : Nat) : Int) ⟨by omega, q1⟩ ⟨by omega, by omega⟩
                by_cases q2 : n * 10 + ((c.toNat - 48 : Nat) : Int) < 18446744073709551616
                · rw [if_pos q2] at ha
                  intro w1 hA
                  refine (ha w1).mono ?_
                  rintro e w2 ⟨rfl, hb⟩
                  refine ⟨.val _, _, _, rfl, hA.below' hb, ?_⟩
                  clear hA hb
                  refine ⟨_, rfl, _, rfl, ?_⟩
                  (repeat (first | refine ⟨fun _ => ?_, fun h => Bool.noConfusion h⟩ | refine ⟨fun h => Bool.noConfusion h, fun _ => ?_⟩ | refine ⟨_, wrap_in _ (by omega) (by omega), ?_⟩ | refine ⟨_, wrapu_in _ (by omega) (by omega), ?_⟩ | refine ⟨_, wrap8_in _ (by omega) (by omega), ?_⟩ | refine ⟨_, rfl, ?_⟩ | refine ⟨rfl, ?_⟩))
                  intro w' hA
                  exact ⟨(i + 1, n * 10 + ((c.toNat - 48 : Nat) : Int)), ⟨by show i + 1 ≤ _; omega, hgd, by show n * 10 + ((c.toNat - 48 : Nat) : Int) = ((decVal (l.take (i + 1)) : Nat) : Int); omega, by show 0 ≤ n * 10 + _; omega, q2⟩, by show l.length - (i + 1) < l.length - i; omega, ⟨⟨_, rfl, rfl⟩, ⟨_, rfl, rfl⟩, ⟨_, rfl, rfl⟩, ⟨_, rfl, rfl⟩, trivial⟩, hA⟩
                · rw [if_neg q2] at ha
                  intro w1 hA
                  refine (ha w1).mono ?_
                  rintro e w2 ⟨rfl, hb⟩
                  refine ⟨.val _, _, _, rfl, hA.below' hb, ?_⟩
                  clear hA hb
                  refine ⟨_, rfl, _, rfl, ?_⟩
                  (repeat (first | refine ⟨fun _ => ?_, fun h => Bool.noConfusion h⟩ | refine ⟨fun h => Bool.noConfusion h, fun _ => ?_⟩ | refine ⟨_, wrap_in _ (by omega) (by omega), ?_⟩ | refine ⟨_, wrapu_in _ (by omega) (by omega), ?_⟩ | refine ⟨_, wrap8_in _ (by omega) (by omega), ?_⟩ | refine ⟨_, rfl, ?_⟩ | refine ⟨rfl, ?_⟩))
                  intro w' hA
                  refine ⟨?_, hA.bel (by simp)⟩
                  rw [big (by omega)]; rfl
              · rw [if_neg q1] at hm10
                intro w1 hA
                refine (hm10 w1).mono ?_
                rintro e w2 ⟨rfl, hb⟩
                refine ⟨.val _, _, _, rfl, hA.below' hb, ?_⟩
                clear hA hb
                refine ⟨_, rfl, _, rfl, ?_⟩
                refine ⟨i, c, rfl, hc, ?_⟩
                refine ⟨((c.toNat - 48 : Nat) : Int), by rw [wrap8_in _ (by omega) (by omega)]; omega, ?_⟩
                refine ⟨((c.toNat - 48 : Nat) : Int), wrapu_in _ (by omega) (by omega), ?_⟩
                have ha := add_c 0 ((c.toNat - 48 : Nat) : Int) ⟨by omega, by omega⟩ ⟨by omega, by omega⟩
                rw [if_pos (by omega)] at ha
                intro w1 hA
                refine (ha w1).mono ?_
                rintro e w2 ⟨rfl, hb⟩
                refine ⟨.val _, _, _, rfl, hA.below' hb, ?_⟩
                clear hA hb
                refine ⟨_, rfl, _, rfl, ?_⟩
                (repeat (first | refine ⟨fun _ => ?_, fun h => Bool.noConfusion h⟩ | refine ⟨fun h => Bool.noConfusion h, fun _ => ?_⟩ | refine ⟨_, wrap_in _ (by omega) (by omega), ?_⟩ | refine ⟨_, wrapu_in _ (by omega) (by omega), ?_⟩ | refine ⟨_, wrap8_in _ (by omega) (by omega), ?_⟩ | refine ⟨_, rfl, ?_⟩ | refine ⟨rfl, ?_⟩))
                intro w' hA
                refine ⟨?_, hA.bel (by simp)⟩
                rw [big (by omega)]; rfl
          · (repeat (first | refine ⟨fun _ => ?_, fun h => Bool.noConfusion h⟩ | refine ⟨fun h => Bool.noConfusion h, fun _ => ?_⟩ | refine ⟨_, wrap_in _ (by omega) (by omega), ?_⟩ | refine ⟨_, wrapu_in _ (by omega) (by omega), ?_⟩ | refine ⟨_, wrap8_in _ (by omega) (by omega), ?_⟩ | refine ⟨_, rfl, ?_⟩ | refine ⟨rfl, ?_⟩))
            intro w' hA
            refine ⟨?_, hA.bel (by simp)⟩
            rw [hbad (by rw [hdg, g1]; simp)]; rfl
        · have h : ¬ i < l.length := by have := of_decide_eq_false h; omega
          rw [List.take_of_length_le (by omega)] at hall hn
          obtain ⟨m0, m1⟩ := hnr
          intro w' hA
          refine ⟨?_, hA.bel (by simp)⟩
          have hd := hm hall
          have hlt : decVal l < 18446744073709551616 := by omega
          have e : numberB l = some (decVal l) := by simp [numberB, hd, hlt]
          rw [e, ← hl, hl]
          subst hn
          have : decide (((decVal l : Nat) : Int) ≤ 18446744073709551615) = true := by simp; omega
          simp only [numTup, tup, SV.den, this]
    · have h2 : ¬ 1 < l.length := by have := of_decide_eq_false h2; omega
      have hm := main (by rintro ⟨e, _⟩; exact h2 e)
      (repeat (first | refine ⟨fun _ => ?_, fun h => Bool.noConfusion h⟩ | refine ⟨fun h => Bool.noConfusion h, fun _ => ?_⟩ | refine ⟨_, wrap_in _ (by omega) (by omega), ?_⟩ | refine ⟨_, wrapu_in _ (by omega) (by omega), ?_⟩ | refine ⟨_, wrap8_in _ (by omega) (by omega), ?_⟩ | refine ⟨_, rfl, ?_⟩ | refine ⟨rfl, ?_⟩))
      clear h2
      refine ⟨Nat × Int, fun x => [(7, .val (.int .i64 x.1)), (6, .val (.int .u64 x.2)), (0, .val (.string s)), (1, .val (.int .u64 18446744073709551615))], fun _ => [], fun _ => [(w, fun _ => False)], fun x => x.1 ≤ l.length ∧ (l.take x.1).all digitB = true ∧ x.2 = decVal (l.take x.1) ∧ InU64 x.2, fun x => l.length - x.1, ?_, ?_⟩
      · intro w1 hA
        exact ⟨(0, 0), ⟨by omega, rfl, rfl, by unfold InU64; omega⟩, ⟨⟨_, rfl, rfl⟩, ⟨_, rfl, rfl⟩, ⟨_, rfl, rfl⟩, ⟨_, rfl, rfl⟩, trivial⟩, hA⟩
      rintro ⟨i, n⟩ ⟨hi, hall, hn, hnr⟩
      have hi : i ≤ l.length := hi
      have hall : (l.take i).all digitB = true := hall
      have hn : n = decVal (l.take i) := hn
      have hnr : InU64 n := hnr
      refine ⟨fun h => ?_, fun h => ?_⟩
      · have h : i < l.length := by have := of_decide_eq_true h; omega
        have hc : s.data.toList[i]? = some (byteAt l i) := by rw [hl]; exact byteAt_some h
        have hbad : digitB (byteAt l i) = false → numberB l = none := fun e => bad (by simp [digitsB, all_false h e])
        have hgood : digitB (byteAt l i) = true → (l.take (i + 1)).all digitB = true := fun e => by rw [take_all h, hall, e]; rfl
        have hdg : digitB (byteAt l i) = !(decide (((byteAt l i).toNat : Int) < 48) || decide (57 < ((byteAt l i).toNat : Int))) := rfl
        have hval : decVal (l.take (i + 1)) = decVal (l.take i) * 10 + ((byteAt l i).toNat - 48) := by rw [take_snoc h, decVal_snoc]
        have hle := decVal_take l (i + 1)
        have h256 := (byteAt l i).toNat_lt
        generalize byteAt l i = c at *
        refine ⟨i, c, rfl, hc, ?_⟩
        refine ⟨fun g1 => ?_, fun g1 => ?_⟩
        · refine ⟨i, c, rfl, hc, ?_⟩
          refine ⟨fun g2 => ?_, fun g2 => ?_⟩
          · intro w' hA
            refine ⟨?_, hA.bel (by simp)⟩
            rw [hbad (by rw [hdg, g2]; simp)]; rfl
          · have k1 := of_decide_eq_false g1
            have k2 := of_decide_eq_false g2
            have hgd := hgood (by rw [hdg, g1, g2]; rfl)
            clear hgood hbad hdg g1 g2
            have hm10 := mul10_c n hnr
            obtain ⟨m0, m1⟩ := hnr
            by_cases q1 : n * 10 < 18446744073709551616
            · rw [if_pos q1] at hm10
              intro w1 hA
              refine (hm10 w1).mono ?_
              rintro e w2 ⟨rfl, hb⟩
              refine ⟨.val _, _, _, rfl, hA.below' hb, ?_⟩
              clear hA hb
              refine ⟨_, rfl, _, rfl, ?_⟩
              refine ⟨i, c, rfl, hc, ?_⟩
              refine ⟨((c.toNat - 48 : Nat) : Int), by rw [wrap8_in _ (by omega) (by omega)]; omega, ?_⟩
              refine ⟨((c.toNat - 48 : Nat) : Int), wrapu_in _ (by omega) (by omega), ?_⟩
              have ha := add_c (n * 10) ((c.toNat - 48 : Nat) : Int) ⟨by omega, q1⟩ ⟨by omega, by omega⟩
              by_cases q2 : n * 10 + ((c.toNat - 48 : Nat) : Int) < 18446744073709551616
              · rw [if_pos q2] at ha
                intro w1 hA
                refine (ha w1).mono ?_
                rintro e w2 ⟨rfl, hb⟩
                refine ⟨.val _, _, _, rfl, hA.below' hb, ?_⟩
                clear hA hb
                refine ⟨_, rfl, _, rfl, ?_⟩
                (repeat (first | refine ⟨fun _ => ?_, fun h => Bool.noConfusion h⟩ | refine ⟨fun h => Bool.noConfusion h, fun _ => ?_⟩ | refine ⟨_, wrap_in _ (by omega) (by omega), ?_⟩ | refine ⟨_, wrapu_in _ (by omega) (by omega), ?_⟩ | refine ⟨_, wrap8_in _ (by omega) (by omega), ?_⟩ | refine ⟨_, rfl, ?_⟩ | refine ⟨rfl, ?_⟩))
                intro w' hA
                exact ⟨(i + 1, n * 10 + ((c.toNat - 48 : Nat) : Int)), ⟨by show i + 1 ≤ _; omega, hgd, by show n * 10 + ((c.toNat - 48 : Nat) : Int) = ((decVal (l.take (i + 1)) : Nat) : Int); omega, by show 0 ≤ n * 10 + _; omega, q2⟩, by show l.length - (i + 1) < l.length - i; omega, ⟨⟨_, rfl, rfl⟩, ⟨_, rfl, rfl⟩, ⟨_, rfl, rfl⟩, ⟨_, rfl, rfl⟩, trivial⟩, hA⟩
              · rw [if_neg q2] at ha
                intro w1 hA
                refine (ha w1).mono ?_
                rintro e w2 ⟨rfl, hb⟩
                refine ⟨.val _, _, _, rfl, hA.below' hb, ?_⟩
                clear hA hb
                refine ⟨_, rfl, _, rfl, ?_⟩
                (repeat (first | refine ⟨fun _ => ?_, fun h => Bool.noConfusion h⟩ | refine ⟨fun h => Bool.noConfusion h, fun _ => ?_⟩ | refine ⟨_, wrap_in _ (by omega) (by omega), ?_⟩ | refine ⟨_, wrapu_in _ (by omega) (by omega), ?_⟩ | refine ⟨_, wrap8_in _ (by omega) (by omega), ?_⟩ | refine ⟨_, rfl, ?_⟩ | refine ⟨rfl, ?_⟩))
                intro w' hA
                refine ⟨?_, hA.bel (by simp)⟩
                rw [big (by omega)]; rfl
            · rw [if_neg q1] at hm10
              intro w1 hA
              refine (hm10 w1).mono ?_
              rintro e w2 ⟨rfl, hb⟩
              refine ⟨.val _, _, _, rfl, hA.below' hb, ?_⟩
              clear hA hb
              refine ⟨_, rfl, _, rfl, ?_⟩
              refine ⟨i, c, rfl, hc, ?_⟩
              refine ⟨((c.toNat - 48 : Nat) : Int), by rw [wrap8_in _ (by omega) (by omega)]; omega, ?_⟩
              refine ⟨((c.toNat - 48 : Nat) : Int), wrapu_in _ (by omega) (by omega), ?_⟩
              have ha := add_c 0 ((c.toNat - 48 : Nat) : Int) ⟨by omega, by omega⟩ ⟨by omega, by omega⟩
              rw [if_pos (by omega)] at ha
              intro w1 hA
              refine (ha w1).mono ?_
              rintro e w2 ⟨rfl, hb⟩
              refine ⟨.val _, _, _, rfl, hA.below' hb, ?_⟩
              clear hA hb
              refine ⟨_, rfl, _, rfl, ?_⟩
              (repeat (first | refine ⟨fun _ => ?_, fun h => Bool.noConfusion h⟩ | refine ⟨fun h => Bool.noConfusion h, fun _ => ?_⟩ | refine ⟨_, wrap_in _ (by omega) (by omega), ?_⟩ | refine ⟨_, wrapu_in _ (by omega) (by omega), ?_⟩ | refine ⟨_, wrap8_in _ (by omega) (by omega), ?_⟩ | refine ⟨_, rfl, ?_⟩ | refine ⟨rfl, ?_⟩))
              intro w' hA
              refine ⟨?_, hA.bel (by simp)⟩
              rw [big (by omega)]; rfl
        · (repeat (first | refine ⟨fun _ => ?_, fun h => Bool.noConfusion h⟩ | refine ⟨fun h => Bool.noConfusion h, fun _ => ?_⟩ | refine ⟨_, wrap_in _ (by omega) (by omega), ?_⟩ | refine ⟨_, wrapu_in _ (by omega) (by omega), ?_⟩ | refine ⟨_, wrap8_in _ (by omega) (by omega), ?_⟩ | refine ⟨_, rfl, ?_⟩ | refine ⟨rfl, ?_⟩))
          intro w' hA
          refine ⟨?_, hA.bel (by simp)⟩
          rw [hbad (by rw [hdg, g1]; simp)]; rfl
      · have h : ¬ i < l.length := by have := of_decide_eq_false h; omega
        rw [List.take_of_length_le (by omega)] at hall hn
        obtain ⟨m0, m1⟩ := hnr
        intro w' hA
        refine ⟨?_, hA.bel (by simp)⟩
        have hd := hm hall
        have hlt : decVal l < 18446744073709551616 := by omega
        have e : numberB l = some (decVal l) := by simp [numberB, hd, hlt]
        rw [e, ← hl, hl]
        subst hn
        have : decide (((decVal l : Nat) : Int) ≤ 18446744073709551615) = true := by simp; omega
        simp only [numTup, tup, SV.den, this]
  · have h1 : l = [] := by rw [hemp] at h1; simpa using h1
    (repeat (first | refine ⟨fun _ => ?_, fun h => Bool.noConfusion h⟩ | refine ⟨fun h => Bool.noConfusion h, fun _ => ?_⟩ | refine ⟨_, wrap_in _ (by omega) (by omega), ?_⟩ | refine ⟨_, wrapu_in _ (by omega) (by omega), ?_⟩ | refine ⟨_, wrap8_in _ (by omega) (by omega), ?_⟩ | refine ⟨_, rfl, ?_⟩ | refine ⟨rfl, ?_⟩))
    intro w' hA
    refine ⟨?_, hA.bel (by simp)⟩
    rw [bad (by simp [digitsB, h1])]; rfl
end Go.Proofs.YtllepnadffndnaaDoor
