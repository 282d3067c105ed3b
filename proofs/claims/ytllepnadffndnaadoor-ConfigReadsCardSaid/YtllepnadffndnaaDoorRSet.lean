/- How the reference sets a key. -/
import Derived.Test.YtllepnadffndnaaDoorPSpec
import Derived.Test.YtllepnadffndnaaDoorNum
namespace Go.Proofs.YtllepnadffndnaaDoor
open Go.RowKit

set_option maxRecDepth 100000 in
set_option maxHeartbeats 2000000 in
theorem rset_c (c : MConfig) (k : Nat) (hk : k < 12) (s : ByteArray) (hs : s.size ≤ 140737488355328) (w : World) :
    Calls Tryd.prog 58 #[.agg ⟨cfgV c⟩, .int .i64 k, .string s] w fun e w' => e = .returned (.tuple #[.agg ⟨cfgV (setSpec c k s.data.toList).1⟩, .int .i64 (setSpec c k s.data.toList).2]) ∧ Below w.heap.size w w' := by
  have hm1 := str_eq s #[45, 49]
  have hnum := number16_c s hs
  have hdig := digits_c s hs
  have hlt := @numberB_lt s.data.toList
  have hg := greatI_pos k
  have hl := leastI_range k
  have hwith := with_c c k hk
  generalize hb : s.data.toList = b at *
  have q1 := @setSpec_m1 c k b
  have q2 := @setSpec_big c k b
  have q3 := @setSpec_syn c k b
  have q4 := @setSpec_price c k b
  have q5 := @setSpec_out c k b
  have q6 := @setSpec_ok c k b
  generalize setSpec c k b = sp at q1 q2 q3 q4 q5 q6 ⊢
  obtain ⟨c0, c1, c2, c3, c4, c5, c6, c7, c8, c9, c10, c11⟩ := c
  refine calls_of_vc seat Tryd.func58 rfl rfl (Nat.le_of_ble_eq_true rfl) (N := 61) (args := [.val (.agg ⟨cfgV ⟨c0, c1, c2, c3, c4, c5, c6, c7, c8, c9, c10, c11⟩⟩), .val (.int .i64 k), .val (.string s)]) (Nat.le_of_ble_eq_true rfl) rfl (A.start w) ?_
  intro g0 _
  intro g1 _
  refine ⟨fun h8 => ?_, fun h8 => ?_⟩
  · have h8 : k = 8 := by have := eq_of_beq h8; omega
    refine ⟨fun h1 => ?_, fun h1 => ?_⟩
    · have h1 : b = [45, 49] := by rw [hm1] at h1; simpa using h1
      have spec := q1 h8 h1
      refine ⟨_, rfl, rfl, rfl, ?_⟩
      refine ⟨rfl, rfl, ?_⟩
      refine ⟨rfl, rfl, rfl, rfl, ?_⟩
      refine ⟨rfl, rfl, ?_⟩
      intro w' hA
      refine ⟨?_, hA.bel (by simp)⟩
      rw [spec]; rfl
    · have h1 : b ≠ [45, 49] := by rw [hm1] at h1; simpa using h1
      have hno : ¬ (k = 8 ∧ b = [45, 49]) := fun h => h1 h.2
      (repeat (first | refine ⟨fun _ => ?_, fun h => Bool.noConfusion h⟩ | refine ⟨fun h => Bool.noConfusion h, fun _ => ?_⟩ | refine ⟨_, wrap_in _ (by omega) (by omega), ?_⟩ | refine ⟨_, wrapu_in _ (by omega) (by omega), ?_⟩ | refine ⟨_, wrap8_in _ (by omega) (by omega), ?_⟩ | refine ⟨_, rfl, ?_⟩ | refine ⟨rfl, ?_⟩))
      cases hn : numberB b with
      | none =>
        rw [hn] at hnum
        (intro w1 hA; refine (hnum w1).mono ?_; rintro e w2 ⟨rfl, hb⟩; refine ⟨.val _, _, _, rfl, hA.below' hb, ?_⟩)
        refine ⟨_, rfl, _, rfl, ?_⟩
        refine ⟨fun _ => ?_, fun h => Bool.noConfusion h⟩
        (intro w1 hA; refine (hdig w1).mono ?_; rintro e w2 ⟨rfl, hb⟩; refine ⟨.val _, _, _, rfl, hA.below' hb, ?_⟩)
        refine ⟨fun hd => ?_, fun hd => ?_⟩
        · have hd : digitsB b = false := by simpa using hd
          have spec := q3 hno hn hd
          refine ⟨rfl, rfl, ?_⟩
          refine ⟨rfl, rfl, rfl, rfl, ?_⟩
          refine ⟨rfl, rfl, ?_⟩
          intro w' hA
          refine ⟨?_, hA.bel (by simp)⟩
          rw [spec]; rfl
        · have hd : digitsB b = true := by simpa using hd
          have spec := q2 hno hn hd
          refine ⟨fun h9 => ?_, fun h9 => ?_⟩
          · (repeat (first | refine ⟨fun _ => ?_, fun h => Bool.noConfusion h⟩ | refine ⟨fun h => Bool.noConfusion h, fun _ => ?_⟩ | refine ⟨_, wrap_in _ (by omega) (by omega), ?_⟩ | refine ⟨_, wrapu_in _ (by omega) (by omega), ?_⟩ | refine ⟨_, wrap8_in _ (by omega) (by omega), ?_⟩ | refine ⟨_, rfl, ?_⟩ | refine ⟨rfl, ?_⟩))
            intro w' hA
            refine ⟨?_, hA.bel (by simp)⟩
            rw [spec]; rfl
          · (repeat (first | refine ⟨fun _ => ?_, fun h => Bool.noConfusion h⟩ | refine ⟨fun h => Bool.noConfusion h, fun _ => ?_⟩ | refine ⟨_, wrap_in _ (by omega) (by omega), ?_⟩ | refine ⟨_, wrapu_in _ (by omega) (by omega), ?_⟩ | refine ⟨_, wrap8_in _ (by omega) (by omega), ?_⟩ | refine ⟨_, rfl, ?_⟩ | refine ⟨rfl, ?_⟩))
            intro w' hA
            refine ⟨?_, hA.bel (by simp)⟩
            rw [spec]; rfl
      | some n =>
        rw [hn] at hnum
        obtain ⟨hn2, hd⟩ := hlt hn
        (intro w1 hA; refine (hnum w1).mono ?_; rintro e w2 ⟨rfl, hb⟩; refine ⟨.val _, _, _, rfl, hA.below' hb, ?_⟩)
        refine ⟨_, rfl, _, rfl, ?_⟩
        refine ⟨fun h => Bool.noConfusion h, fun _ => ?_⟩
        refine ⟨fun h => Bool.noConfusion h, fun _ => ?_⟩
        refine ⟨fun h9 => ?_, fun h9 => ?_⟩
        · have h9 : k = 9 := by have := eq_of_beq h9; omega
          have spec := q4 hno hn h9
          refine ⟨fun _ => ?_, fun h => Bool.noConfusion h⟩
          refine ⟨_, rfl, rfl, rfl, ?_⟩
          refine ⟨rfl, rfl, ?_⟩
          refine ⟨rfl, rfl, rfl, rfl, ?_⟩
          refine ⟨rfl, rfl, ?_⟩
          intro w' hA
          refine ⟨?_, hA.bel (by simp)⟩
          rw [spec]; rfl
        · have h9 : k ≠ 9 := by have := ne_of_beq_false h9; omega
          refine ⟨fun h => Bool.noConfusion h, fun _ => ?_⟩
          refine ⟨fun _ => ?_, fun h => Bool.noConfusion h⟩
          (intro w1 hA; refine (greatest_c k hk w1).mono ?_; rintro e w2 ⟨rfl, hb⟩; refine ⟨.val _, _, _, rfl, hA.below' hb, ?_⟩)
          refine ⟨_, wrapu_in _ (by omega) (by omega), ?_⟩
          refine ⟨fun hgt => ?_, fun hgt => ?_⟩
          · have hgt := of_decide_eq_false hgt
            refine ⟨(n : Int), wrap_in _ (by omega) (by omega), ?_⟩
            (intro w1 hA; refine (least_c k hk w1).mono ?_; rintro e w2 ⟨rfl, hb⟩; refine ⟨.val _, _, _, rfl, hA.below' hb, ?_⟩)
            refine ⟨fun hls => ?_, fun hls => ?_⟩
            · have hls := of_decide_eq_true hls
              have spec := q5 hno hn h9 (.inr hls)
              refine ⟨rfl, rfl, ?_⟩
              refine ⟨rfl, rfl, rfl, rfl, ?_⟩
              refine ⟨rfl, rfl, ?_⟩
              intro w' hA
              refine ⟨?_, hA.bel (by simp)⟩
              rw [spec]; rfl
            · have hls := of_decide_eq_false hls
              have spec := q6 hno hn h9 (by omega)
              refine ⟨rfl, rfl, ?_⟩
              refine ⟨(n : Int), wrap_in _ (by omega) (by omega), ?_⟩
              intro w1 hA
              refine (hwith (n : Int) w1).mono ?_
              rintro e w2 ⟨rfl, hb⟩
              refine ⟨.val _, _, _, rfl, hA.below' hb, ?_⟩
              clear hA hb
              generalize setI ⟨c0, c1, c2, c3, c4, c5, c6, c7, c8, c9, c10, c11⟩ k n = cd at spec ⊢
              obtain ⟨d0, d1, d2, d3, d4, d5, d6, d7, d8, d9, d10, d11⟩ := cd
              refine ⟨rfl, rfl, rfl, rfl, ?_⟩
              refine ⟨rfl, rfl, ?_⟩
              intro w' hA
              refine ⟨?_, hA.bel (by simp)⟩
              rw [spec]; rfl
          · have hgt := of_decide_eq_true hgt
            have spec := q5 hno hn h9 (.inl hgt)
            (repeat (first | refine ⟨fun _ => ?_, fun h => Bool.noConfusion h⟩ | refine ⟨fun h => Bool.noConfusion h, fun _ => ?_⟩ | refine ⟨_, wrap_in _ (by omega) (by omega), ?_⟩ | refine ⟨_, wrapu_in _ (by omega) (by omega), ?_⟩ | refine ⟨_, wrap8_in _ (by omega) (by omega), ?_⟩ | refine ⟨_, rfl, ?_⟩ | refine ⟨rfl, ?_⟩))
            intro w' hA
            refine ⟨?_, hA.bel (by simp)⟩
            rw [spec]; rfl
  · have h8 : k ≠ 8 := by have := ne_of_beq_false h8; omega
    have hno : ¬ (k = 8 ∧ b = [45, 49]) := fun h => h8 h.1
    (repeat (first | refine ⟨fun _ => ?_, fun h => Bool.noConfusion h⟩ | refine ⟨fun h => Bool.noConfusion h, fun _ => ?_⟩ | refine ⟨_, wrap_in _ (by omega) (by omega), ?_⟩ | refine ⟨_, wrapu_in _ (by omega) (by omega), ?_⟩ | refine ⟨_, wrap8_in _ (by omega) (by omega), ?_⟩ | refine ⟨_, rfl, ?_⟩ | refine ⟨rfl, ?_⟩))
    cases hn : numberB b with
    | none =>
      rw [hn] at hnum
      (intro w1 hA; refine (hnum w1).mono ?_; rintro e w2 ⟨rfl, hb⟩; refine ⟨.val _, _, _, rfl, hA.below' hb, ?_⟩)
      refine ⟨_, rfl, _, rfl, ?_⟩
      refine ⟨fun _ => ?_, fun h => Bool.noConfusion h⟩
      (intro w1 hA; refine (hdig w1).mono ?_; rintro e w2 ⟨rfl, hb⟩; refine ⟨.val _, _, _, rfl, hA.below' hb, ?_⟩)
      refine ⟨fun hd => ?_, fun hd => ?_⟩
      · have hd : digitsB b = false := by simpa using hd
        have spec := q3 hno hn hd
        refine ⟨rfl, rfl, ?_⟩
        refine ⟨rfl, rfl, rfl, rfl, ?_⟩
        refine ⟨rfl, rfl, ?_⟩
        intro w' hA
        refine ⟨?_, hA.bel (by simp)⟩
        rw [spec]; rfl
      · have hd : digitsB b = true := by simpa using hd
        have spec := q2 hno hn hd
        refine ⟨fun h9 => ?_, fun h9 => ?_⟩
        · (repeat (first | refine ⟨fun _ => ?_, fun h => Bool.noConfusion h⟩ | refine ⟨fun h => Bool.noConfusion h, fun _ => ?_⟩ | refine ⟨_, wrap_in _ (by omega) (by omega), ?_⟩ | refine ⟨_, wrapu_in _ (by omega) (by omega), ?_⟩ | refine ⟨_, wrap8_in _ (by omega) (by omega), ?_⟩ | refine ⟨_, rfl, ?_⟩ | refine ⟨rfl, ?_⟩))
          intro w' hA
          refine ⟨?_, hA.bel (by simp)⟩
          rw [spec]; rfl
        · (repeat (first | refine ⟨fun _ => ?_, fun h => Bool.noConfusion h⟩ | refine ⟨fun h => Bool.noConfusion h, fun _ => ?_⟩ | refine ⟨_, wrap_in _ (by omega) (by omega), ?_⟩ | refine ⟨_, wrapu_in _ (by omega) (by omega), ?_⟩ | refine ⟨_, wrap8_in _ (by omega) (by omega), ?_⟩ | refine ⟨_, rfl, ?_⟩ | refine ⟨rfl, ?_⟩))
          intro w' hA
          refine ⟨?_, hA.bel (by simp)⟩
          rw [spec]; rfl
    | some n =>
      rw [hn] at hnum
      obtain ⟨hn2, hd⟩ := hlt hn
      (intro w1 hA; refine (hnum w1).mono ?_; rintro e w2 ⟨rfl, hb⟩; refine ⟨.val _, _, _, rfl, hA.below' hb, ?_⟩)
      refine ⟨_, rfl, _, rfl, ?_⟩
      refine ⟨fun h => Bool.noConfusion h, fun _ => ?_⟩
      refine ⟨fun h => Bool.noConfusion h, fun _ => ?_⟩
      refine ⟨fun h9 => ?_, fun h9 => ?_⟩
      · have h9 : k = 9 := by have := eq_of_beq h9; omega
        have spec := q4 hno hn h9
        refine ⟨fun _ => ?_, fun h => Bool.noConfusion h⟩
        refine ⟨_, rfl, rfl, rfl, ?_⟩
        refine ⟨rfl, rfl, ?_⟩
        refine ⟨rfl, rfl, rfl, rfl, ?_⟩
        refine ⟨rfl, rfl, ?_⟩
        intro w' hA
        refine ⟨?_, hA.bel (by simp)⟩
        rw [spec]; rfl
      · have h9 : k ≠ 9 := by have := ne_of_beq_false h9; omega
        refine ⟨fun h => Bool.noConfusion h, fun _ => ?_⟩
        refine ⟨fun _ => ?_, fun h => Bool.noConfusion h⟩
        (intro w1 hA; refine (greatest_c k hk w1).mono ?_; rintro e w2 ⟨rfl, hb⟩; refine ⟨.val _, _, _, rfl, hA.below' hb, ?_⟩)
        refine ⟨_, wrapu_in _ (by omega) (by omega), ?_⟩
        refine ⟨fun hgt => ?_, fun hgt => ?_⟩
        · have hgt := of_decide_eq_false hgt
          refine ⟨(n : Int), wrap_in _ (by omega) (by omega), ?_⟩
          (intro w1 hA; refine (least_c k hk w1).mono ?_; rintro e w2 ⟨rfl, hb⟩; refine ⟨.val _, _, _, rfl, hA.below' hb, ?_⟩)
          refine ⟨fun hls => ?_, fun hls => ?_⟩
          · have hls := of_decide_eq_true hls
            have spec := q5 hno hn h9 (.inr hls)
            refine ⟨rfl, rfl, ?_⟩
            refine ⟨rfl, rfl, rfl, rfl, ?_⟩
            refine ⟨rfl, rfl, ?_⟩
            intro w' hA
            refine ⟨?_, hA.bel (by simp)⟩
            rw [spec]; rfl
          · have hls := of_decide_eq_false hls
            have spec := q6 hno hn h9 (by omega)
            refine ⟨rfl, rfl, ?_⟩
            refine ⟨(n : Int), wrap_in _ (by omega) (by omega), ?_⟩
            intro w1 hA
            refine (hwith (n : Int) w1).mono ?_
            rintro e w2 ⟨rfl, hb⟩
            refine ⟨.val _, _, _, rfl, hA.below' hb, ?_⟩
            clear hA hb
            generalize setI ⟨c0, c1, c2, c3, c4, c5, c6, c7, c8, c9, c10, c11⟩ k n = cd at spec ⊢
            obtain ⟨d0, d1, d2, d3, d4, d5, d6, d7, d8, d9, d10, d11⟩ := cd
            refine ⟨rfl, rfl, rfl, rfl, ?_⟩
            refine ⟨rfl, rfl, ?_⟩
            intro w' hA
            refine ⟨?_, hA.bel (by simp)⟩
            rw [spec]; rfl
        · have hgt := of_decide_eq_true hgt
          have spec := q5 hno hn h9 (.inl hgt)
          (repeat (first | refine ⟨fun _ => ?_, fun h => Bool.noConfusion h⟩ | refine ⟨fun h => Bool.noConfusion h, fun _ => ?_⟩ | refine ⟨_, wrap_in _ (by omega) (by omega), ?_⟩ | refine ⟨_, wrapu_in _ (by omega) (by omega), ?_⟩ | refine ⟨_, wrap8_in _ (by omega) (by omega), ?_⟩ | refine ⟨_, rfl, ?_⟩ | refine ⟨rfl, ?_⟩))
          intro w' hA
          refine ⟨?_, hA.bel (by simp)⟩
          rw [spec]; rfl
end Go.Proofs.YtllepnadffndnaaDoor
