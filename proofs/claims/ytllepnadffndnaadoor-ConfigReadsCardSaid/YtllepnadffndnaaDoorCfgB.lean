/- The values of a configuration's keys. -/
import Derived.Test.YtllepnadffndnaaDoorCfgA
namespace Go.Proofs.YtllepnadffndnaaDoor
open Go.RowKit

def cfgV : MConfig → List Value
  | ⟨a, b, c, d, e, f, g, h, i, j, k, l⟩ => [.int .i64 a, .int .i64 b, .int .i64 c, .int .i64 d, .int .i64 e, .int .i64 f, .bool g, .int .i64 h, .int .i64 i, .int .u64 j, .int .i64 k, .int .i64 l]
def cfgS : MConfig → List SV
  | ⟨a, b, c, d, e, f, g, h, i, j, k, l⟩ => [.val (.int .i64 a), .val (.int .i64 b), .val (.int .i64 c), .val (.int .i64 d), .val (.int .i64 e), .val (.int .i64 f), .val (.bool g), .val (.int .i64 h), .val (.int .i64 i), .val (.int .u64 j), .val (.int .i64 k), .val (.int .i64 l)]
def ptrsV (g : Nat) : List Value := [.pointer (some ⟨g, 0, none⟩), .pointer (some ⟨g, 1, none⟩), .pointer (some ⟨g, 2, none⟩), .pointer (some ⟨g, 3, none⟩), .pointer (some ⟨g, 4, none⟩), .pointer (some ⟨g, 5, none⟩), .pointer none, .pointer (some ⟨g, 7, none⟩), .pointer (some ⟨g, 8, none⟩), .pointer none, .pointer (some ⟨g, 10, none⟩), .pointer (some ⟨g, 11, none⟩)]

set_option maxRecDepth 100000 in
theorem ints_c (g : Nat) (w : World) : Calls Tryd.prog 46 #[.pointer (some ⟨g, 0, none⟩)] w fun e w' => e = .returned (.agg ⟨ptrsV g⟩) ∧ Below w.heap.size w w' := by
  refine calls_of_vc seat Tryd.func46 rfl rfl (Nat.le_of_ble_eq_true rfl) (N := 34) (args := [.val (.pointer (some ⟨g, 0, none⟩))]) (Nat.le_of_ble_eq_true rfl) rfl (A.start w) ?_
  intro g0 _
  refine ⟨_, [], [], [], .inr rfl, .inl trivial, nofun, (.take 0 (.take 1 (.take 2 (.take 3 (.take 4 (.take 5 (.take 6 (.take 7 (.take 8 (.take 9 (.take 10 (.take 11 (.take 12 (.take 13 (.take 14 (.take 15 (.take 16 (.take 17 (.take 18 (.take 19 (.take 20 (.take 21 (.take 22 (.take 23 (.take 24 (.take 25 (.take 26 (.take 27 (.take 28 (.take 29 (.take 30 (.alt 31 .done .stop)))))))))))))))))))))))))))))))), by kernel_rfl, ?_⟩
  refine ⟨⟨rfl, rfl, rfl, rfl, rfl, rfl, rfl, rfl, rfl, rfl, rfl, rfl, trivial⟩, ?_⟩
  refine ⟨rfl, rfl, rfl, rfl, ?_⟩
  refine ⟨rfl, rfl, ?_⟩
  (intro w' hA; exact ⟨rfl, hA.bel (by simp)⟩)

def intF (c : MConfig) : Nat → Int
  | 0 => c.maxTxs
  | 1 => c.maxBytes
  | 2 => c.maxTxBytes
  | 3 => c.cacheSize
  | 4 => c.ttlBlocks
  | 5 => c.ttlTime
  | 7 => c.blockBytes
  | 8 => c.blockGas
  | 10 => c.self
  | _ => c.nodes
def valInt (p : Int) : Wide × Bool := if p < -1 then (⟨0, false⟩, false) else if p = -1 then (⟨0, true⟩, true) else (numW p, true)
def valueF (c : MConfig) : Nat → Wide × Bool
  | 6 => (if c.keepInvalid then ⟨1, false⟩ else ⟨0, false⟩, true)
  | 9 => (⟨c.price, false⟩, true)
  | i => valInt (intF c i)
theorem twelve {p : Nat → Prop} {k : Nat} (hk : k < 12) (h0 : p 0) (h1 : p 1) (h2 : p 2) (h3 : p 3) (h4 : p 4) (h5 : p 5) (h6 : p 6) (h7 : p 7) (h8 : p 8) (h9 : p 9) (h10 : p 10) (h11 : p 11) : p k := by
  have h : k = 0 ∨ k = 1 ∨ k = 2 ∨ k = 3 ∨ k = 4 ∨ k = 5 ∨ k = 6 ∨ k = 7 ∨ k = 8 ∨ k = 9 ∨ k = 10 ∨ k = 11 := by omega
  rcases h with rfl | rfl | rfl | rfl | rfl | rfl | rfl | rfl | rfl | rfl | rfl | rfl <;> assumption

set_option maxHeartbeats 2000000 in
theorem value_c (c : MConfig) (i : Nat) (hi : i < 12) (w : World) : Calls Tryd.prog 28 #[.agg ⟨cfgV c⟩, .int .i64 i] w fun e w' => e = .returned (.tuple #[.agg ⟨wideV (valueF c i).1⟩, .bool (valueF c i).2]) ∧ Below w.heap.size w w' := by
  obtain ⟨c0, c1, c2, c3, c4, c5, c6, c7, c8, c9, c10, c11⟩ := c
  have h : i = 0 ∨ i = 1 ∨ i = 2 ∨ i = 3 ∨ i = 4 ∨ i = 5 ∨ i = 7 ∨ i = 8 ∨ i = 10 ∨ i = 11 ∨ i = 6 ∨ i = 9 := by omega
  rcases h with rfl | rfl | rfl | rfl | rfl | rfl | rfl | rfl | rfl | rfl | rfl | rfl
  case inr.inr.inr.inr.inr.inr.inr.inr.inr.inr.inl =>
    cases c6 <;>
    · refine calls_of_vc seat Tryd.func28 rfl rfl (Nat.le_of_ble_eq_true rfl) (N := 48) (args := [.val (.agg ⟨cfgV ⟨c0, c1, c2, c3, c4, c5, _, c7, c8, c9, c10, c11⟩⟩), .val (.int .i64 (6 : Nat))]) (Nat.le_of_ble_eq_true rfl) rfl (A.start w) ?_
      intro g0 _
      intro g1 _
      (intro w1 hA; refine (ints_c g0 w1).mono ?_; rintro e w2 ⟨rfl, hb⟩; refine ⟨.val _, _, _, rfl, hA.below' hb, ?_⟩)
      refine ⟨6, rfl, by decide, _, rfl, ?_⟩
      (repeat (first | refine ⟨fun _ => ?_, fun h => Bool.noConfusion h⟩ | refine ⟨fun h => Bool.noConfusion h, fun _ => ?_⟩ | refine ⟨_, wrap_in _ (by omega) (by omega), ?_⟩ | refine ⟨_, wrapu_in _ (by omega) (by omega), ?_⟩ | refine ⟨_, wrap8_in _ (by omega) (by omega), ?_⟩ | refine ⟨_, rfl, ?_⟩ | refine ⟨rfl, ?_⟩))
      (intro w1 hA; refine (number_c _ w1).mono ?_; rintro e w2 ⟨rfl, hb⟩; refine ⟨.val _, _, _, rfl, hA.below' hb, ?_⟩)
      (repeat (first | refine ⟨fun _ => ?_, fun h => Bool.noConfusion h⟩ | refine ⟨fun h => Bool.noConfusion h, fun _ => ?_⟩ | refine ⟨_, wrap_in _ (by omega) (by omega), ?_⟩ | refine ⟨_, wrapu_in _ (by omega) (by omega), ?_⟩ | refine ⟨_, wrap8_in _ (by omega) (by omega), ?_⟩ | refine ⟨_, rfl, ?_⟩ | refine ⟨rfl, ?_⟩))
      (intro w' hA; exact ⟨rfl, hA.bel (by simp)⟩)
  case inr.inr.inr.inr.inr.inr.inr.inr.inr.inr.inr =>
    refine calls_of_vc seat Tryd.func28 rfl rfl (Nat.le_of_ble_eq_true rfl) (N := 48) (args := [.val (.agg ⟨cfgV ⟨c0, c1, c2, c3, c4, c5, c6, c7, c8, c9, c10, c11⟩⟩), .val (.int .i64 (9 : Nat))]) (Nat.le_of_ble_eq_true rfl) rfl (A.start w) ?_
    intro g0 _
    intro g1 _
    (intro w1 hA; refine (ints_c g0 w1).mono ?_; rintro e w2 ⟨rfl, hb⟩; refine ⟨.val _, _, _, rfl, hA.below' hb, ?_⟩)
    refine ⟨9, rfl, by decide, _, rfl, ?_⟩
    (repeat (first | refine ⟨fun _ => ?_, fun h => Bool.noConfusion h⟩ | refine ⟨fun h => Bool.noConfusion h, fun _ => ?_⟩ | refine ⟨_, wrap_in _ (by omega) (by omega), ?_⟩ | refine ⟨_, wrapu_in _ (by omega) (by omega), ?_⟩ | refine ⟨_, wrap8_in _ (by omega) (by omega), ?_⟩ | refine ⟨_, rfl, ?_⟩ | refine ⟨rfl, ?_⟩))
    refine ⟨⟨rfl, trivial⟩, ?_⟩
    (repeat (first | refine ⟨fun _ => ?_, fun h => Bool.noConfusion h⟩ | refine ⟨fun h => Bool.noConfusion h, fun _ => ?_⟩ | refine ⟨_, wrap_in _ (by omega) (by omega), ?_⟩ | refine ⟨_, wrapu_in _ (by omega) (by omega), ?_⟩ | refine ⟨_, wrap8_in _ (by omega) (by omega), ?_⟩ | refine ⟨_, rfl, ?_⟩ | refine ⟨rfl, ?_⟩))
    (intro w' hA; exact ⟨rfl, hA.bel (by simp)⟩)
  all_goals
    refine calls_of_vc seat Tryd.func28 rfl rfl (Nat.le_of_ble_eq_true rfl) (N := 48) (args := [.val (.agg ⟨cfgV ⟨c0, c1, c2, c3, c4, c5, c6, c7, c8, c9, c10, c11⟩⟩), .val (.int .i64 (_ : Nat))]) (Nat.le_of_ble_eq_true rfl) rfl (A.start w) ?_
    intro g0 _
    intro g1 _
    (intro w1 hA; refine (ints_c g0 w1).mono ?_; rintro e w2 ⟨rfl, hb⟩; refine ⟨.val _, _, _, rfl, hA.below' hb, ?_⟩)
    refine ⟨_, rfl, by decide, _, rfl, ?_⟩
    refine ⟨_, fun w' hA => ldk seat.tab rfl rfl (i := 0) rfl rfl rfl hA, ?_⟩
    refine ⟨fun h0 => ?_, fun h0 => ?_⟩
    · refine ⟨trivial, ?_⟩
      (repeat (first | refine ⟨fun _ => ?_, fun h => Bool.noConfusion h⟩ | refine ⟨fun h => Bool.noConfusion h, fun _ => ?_⟩ | refine ⟨_, wrap_in _ (by omega) (by omega), ?_⟩ | refine ⟨_, wrapu_in _ (by omega) (by omega), ?_⟩ | refine ⟨_, wrap8_in _ (by omega) (by omega), ?_⟩ | refine ⟨_, rfl, ?_⟩ | refine ⟨rfl, ?_⟩))
      intro w' hA
      have h0 := of_decide_eq_true h0
      refine ⟨?_, hA.bel (by simp)⟩
      simp [tup, valueF, valInt, intF, h0, wideV, SV.den]
    · have h0 := of_decide_eq_false h0
      refine ⟨_, fun w' hA => ldk seat.tab rfl rfl (i := 0) rfl rfl rfl hA, ?_⟩
      refine ⟨fun h1 => ?_, fun h1 => ?_⟩
      · refine ⟨⟨rfl, trivial⟩, ?_⟩
        (repeat (first | refine ⟨fun _ => ?_, fun h => Bool.noConfusion h⟩ | refine ⟨fun h => Bool.noConfusion h, fun _ => ?_⟩ | refine ⟨_, wrap_in _ (by omega) (by omega), ?_⟩ | refine ⟨_, wrapu_in _ (by omega) (by omega), ?_⟩ | refine ⟨_, wrap8_in _ (by omega) (by omega), ?_⟩ | refine ⟨_, rfl, ?_⟩ | refine ⟨rfl, ?_⟩))
        intro w' hA
        have h1 := eq_of_beq h1
        refine ⟨?_, hA.bel (by simp)⟩
        simp [tup, valueF, valInt, intF, h1, wideV, SV.den]
      · refine ⟨_, fun w' hA => ldk seat.tab rfl rfl (i := 0) rfl rfl rfl hA, ?_⟩
        (intro w1 hA; refine (number_c _ w1).mono ?_; rintro e w2 ⟨rfl, hb⟩; refine ⟨.val _, _, _, rfl, hA.below' hb, ?_⟩)
        (repeat (first | refine ⟨fun _ => ?_, fun h => Bool.noConfusion h⟩ | refine ⟨fun h => Bool.noConfusion h, fun _ => ?_⟩ | refine ⟨_, wrap_in _ (by omega) (by omega), ?_⟩ | refine ⟨_, wrapu_in _ (by omega) (by omega), ?_⟩ | refine ⟨_, wrap8_in _ (by omega) (by omega), ?_⟩ | refine ⟨_, rfl, ?_⟩ | refine ⟨rfl, ?_⟩))
        intro w' hA
        have h1 := ne_of_beq_false h1
        refine ⟨?_, hA.bel (by simp)⟩
        simp [tup, valueF, valInt, intF, h0, h1, wideV, SV.den, numW]
end Go.Proofs.YtllepnadffndnaaDoor
