/- The small functions of the configurations. -/
import Derived.Test.YtllepnadffndnaaDoorSeat
import Derived.Test.YtllepnadffndnaaDoorEq
import Derived.Test.YtllepnadffndnaaDoorData
namespace Go.Proofs.YtllepnadffndnaaDoor
open Go.RowKit

structure Wide where
  n : Int
  minus : Bool
  deriving DecidableEq
def wideV : Wide → List Value
  | ⟨n, m⟩ => [.int .u64 n, .bool m]
def numW (n : Int) : Wide := ⟨IntKind.u64.wrap n, false⟩
def lessW (a b : Wide) : Bool := if a.minus || b.minus then a.minus && !b.minus else decide (a.n < b.n)

theorem number_c (n : Int) (w : World) : Calls Tryd.prog 45 #[.int .i64 n] w fun e w' => e = .returned (.agg ⟨wideV (numW n)⟩) ∧ Below w.heap.size w w' := by
  refine calls_of_vc seat Tryd.func45 rfl rfl (Nat.le_of_ble_eq_true rfl) (N := 6) (args := [.val (.int .i64 n)]) (Nat.le_of_ble_eq_true rfl) rfl (A.start w) ?_
  intro g _
  refine ⟨_, rfl, ?_⟩
  refine ⟨⟨rfl, trivial⟩, ?_⟩
  refine ⟨rfl, rfl, rfl, rfl, ?_⟩
  refine ⟨rfl, rfl, ?_⟩
  (intro w' hA; exact ⟨rfl, hA.bel (by simp)⟩)

theorem less_c (a b : Wide) (w : World) : Calls Tryd.prog 47 #[.agg ⟨wideV a⟩, .agg ⟨wideV b⟩] w fun e w' => e = .returned (.bool (lessW a b)) ∧ Below w.heap.size w w' := by
  obtain ⟨n, m⟩ := a
  obtain ⟨n', m'⟩ := b
  cases m <;> cases m' <;>
  · refine calls_of_vc seat Tryd.func47 rfl rfl (Nat.le_of_ble_eq_true rfl) (N := 23) (args := [.val (.agg ⟨wideV ⟨n, _⟩⟩), .val (.agg ⟨wideV ⟨n', _⟩⟩)]) (Nat.le_of_ble_eq_true rfl) rfl (A.start w) ?_
    intro g0 _
    intro g1 _
    (repeat (first | refine ⟨fun _ => ?_, fun h => Bool.noConfusion h⟩ | refine ⟨fun h => Bool.noConfusion h, fun _ => ?_⟩ | refine ⟨_, wrap_in _ (by omega) (by omega), ?_⟩ | refine ⟨_, wrapu_in _ (by omega) (by omega), ?_⟩ | refine ⟨_, wrap8_in _ (by omega) (by omega), ?_⟩ | refine ⟨_, rfl, ?_⟩ | refine ⟨rfl, ?_⟩))
    (intro w' hA; exact ⟨rfl, hA.bel (by simp)⟩)

def nameL : Nat → List UInt8
  | 0 => [109, 97, 120, 45, 116, 120, 115]
  | 1 => [109, 97, 120, 45, 98, 121, 116, 101, 115]
  | 2 => [109, 97, 120, 45, 116, 120, 45, 98, 121, 116, 101, 115]
  | 3 => [99, 97, 99, 104, 101, 45, 115, 105, 122, 101]
  | 4 => [116, 116, 108, 45, 98, 108, 111, 99, 107, 115]
  | 5 => [116, 116, 108, 45, 116, 105, 109, 101]
  | 6 => [107, 101, 101, 112, 45, 105, 110, 118, 97, 108, 105, 100]
  | 7 => [98, 108, 111, 99, 107, 45, 98, 121, 116, 101, 115]
  | 8 => [98, 108, 111, 99, 107, 45, 103, 97, 115]
  | 9 => [112, 114, 105, 99, 101]
  | 10 => [115, 101, 108, 102]
  | _ => [110, 111, 100, 101, 115]
def leastW : Nat → Wide
  | 0 | 1 | 2 | 7 | 11 => ⟨1, false⟩
  | 8 => ⟨0, true⟩
  | _ => ⟨0, false⟩
def mostW : Nat → Wide
  | 0 => ⟨512, false⟩
  | 1 | 7 => ⟨1048576, false⟩
  | 2 => ⟨4096, false⟩
  | 3 => ⟨1024, false⟩
  | 4 | 5 => ⟨1073741824, false⟩
  | 6 => ⟨1, false⟩
  | 8 => ⟨1125899906842624, false⟩
  | 9 => ⟨18446744073709551615, false⟩
  | 10 => ⟨7, false⟩
  | _ => ⟨8, false⟩
def defW : Nat → Wide
  | 0 => ⟨100, false⟩
  | 1 => ⟨65536, false⟩
  | 2 => ⟨1024, false⟩
  | 3 => ⟨200, false⟩
  | 7 => ⟨32768, false⟩
  | 8 => ⟨0, true⟩
  | 9 | 11 => ⟨1, false⟩
  | _ => ⟨0, false⟩
def rowV (k : Nat) : List Value := .string ⟨(nameL k).toArray⟩ :: (wideV (leastW k) ++ wideV (mostW k) ++ wideV (defW k))
def rowsV : List Value := rowV 0 ++ (rowV 1 ++ (rowV 2 ++ (rowV 3 ++ (rowV 4 ++ (rowV 5 ++ (rowV 6 ++ (rowV 7 ++ (rowV 8 ++ (rowV 9 ++ (rowV 10 ++ (rowV 11 ++ [])))))))))))
theorem rowsV_at (k : Nat) (hk : k < 12) : (rowsV.drop (k * 7)).take 7 = rowV k := by
  have h : k = 0 ∨ k = 1 ∨ k = 2 ∨ k = 3 ∨ k = 4 ∨ k = 5 ∨ k = 6 ∨ k = 7 ∨ k = 8 ∨ k = 9 ∨ k = 10 ∨ k = 11 := by omega
  rcases h with rfl | rfl | rfl | rfl | rfl | rfl | rfl | rfl | rfl | rfl | rfl | rfl <;> rfl

set_option maxRecDepth 100000 in
theorem rows_c (w : World) : Calls Tryd.prog 27 #[] w fun e w' => e = .returned (.agg ⟨rowsV⟩) ∧ Below w.heap.size w w' := by
  refine calls_of_vc seat Tryd.func27 rfl rfl (Nat.le_of_ble_eq_true rfl) (N := 54) (args := []) (Nat.le_of_ble_eq_true rfl) rfl (A.start w) ?_
  intro g0 _
  refine ⟨⟨rfl, trivial⟩, ?_⟩
  intro g1 _
  refine ⟨rfl, rfl, rfl, rfl, ?_⟩
  refine ⟨⟨rfl, trivial⟩, ?_⟩
  intro g2 _
  refine ⟨rfl, rfl, rfl, rfl, ?_⟩
  refine ⟨_, [(2, ⟨g2, 57, [.val (.int .u64 0), .val (.bool true)]⟩), (1, ⟨g1, 57, [.val (.int .u64 18446744073709551615), .val (.bool false)]⟩)], [], [], .inr rfl, .inl ⟨rfl, rfl, trivial⟩, nofun, (.take 32 (.take 34 (.take 37 (.alt 0 (.alt 1 (.alt 2 (.take 3 (.alt 4 (.alt 5 (.alt 6 (.take 7 (.alt 8 (.alt 9 (.alt 10 (.take 11 (.alt 12 (.alt 13 (.alt 14 (.take 15 (.alt 16 (.alt 17 (.alt 18 (.take 19 (.alt 20 (.alt 21 (.alt 22 (.take 23 (.alt 24 (.alt 25 (.alt 26 (.take 27 (.alt 28 (.alt 29 (.alt 30 (.take 31 (.alt 33 (.take 35 (.alt 36 (.alt 38 (.take 39 (.alt 40 (.alt 41 (.alt 42 (.take 43 (.alt 44 (.alt 45 (.alt 46 (.take 47 (.take 48 (.alt 49 .done .stop))) .stop) .stop) .stop)) .stop) .stop) .stop)) .stop) .stop)) .stop)) .stop) .stop) .stop)) .stop) .stop) .stop)) .stop) .stop) .stop)) .stop) .stop) .stop)) .stop) .stop) .stop)) .stop) .stop) .stop)) .stop) .stop) .stop)) .stop) .stop) .stop)))), by kernel_rfl, ?_⟩
  refine ⟨rfl, rfl, rfl, rfl, rfl, rfl, ?_⟩
  iterate 8
    (intro w1 hA; refine (number_c _ w1).mono ?_; rintro e w2 ⟨rfl, hb⟩; refine ⟨.val _, _, _, rfl, hA.below' hb, ?_⟩)
    refine ⟨rfl, rfl, ?_⟩
    (intro w1 hA; refine (number_c _ w1).mono ?_; rintro e w2 ⟨rfl, hb⟩; refine ⟨.val _, _, _, rfl, hA.below' hb, ?_⟩)
    refine ⟨rfl, rfl, ?_⟩
    (intro w1 hA; refine (number_c _ w1).mono ?_; rintro e w2 ⟨rfl, hb⟩; refine ⟨.val _, _, _, rfl, hA.below' hb, ?_⟩)
    refine ⟨rfl, rfl, ?_⟩
    refine ⟨⟨rfl, rfl, rfl, rfl, trivial⟩, ?_⟩
  (intro w1 hA; refine (number_c _ w1).mono ?_; rintro e w2 ⟨rfl, hb⟩; refine ⟨.val _, _, _, rfl, hA.below' hb, ?_⟩)
  refine ⟨rfl, rfl, ?_⟩
  refine ⟨⟨rfl, rfl, rfl, rfl, trivial⟩, ?_⟩
  iterate 2
    (intro w1 hA; refine (number_c _ w1).mono ?_; rintro e w2 ⟨rfl, hb⟩; refine ⟨.val _, _, _, rfl, hA.below' hb, ?_⟩)
    refine ⟨rfl, rfl, ?_⟩
  refine ⟨⟨rfl, rfl, rfl, rfl, trivial⟩, ?_⟩
  iterate 2
    (intro w1 hA; refine (number_c _ w1).mono ?_; rintro e w2 ⟨rfl, hb⟩; refine ⟨.val _, _, _, rfl, hA.below' hb, ?_⟩)
    refine ⟨rfl, rfl, ?_⟩
    (intro w1 hA; refine (number_c _ w1).mono ?_; rintro e w2 ⟨rfl, hb⟩; refine ⟨.val _, _, _, rfl, hA.below' hb, ?_⟩)
    refine ⟨rfl, rfl, ?_⟩
    (intro w1 hA; refine (number_c _ w1).mono ?_; rintro e w2 ⟨rfl, hb⟩; refine ⟨.val _, _, _, rfl, hA.below' hb, ?_⟩)
    refine ⟨rfl, rfl, ?_⟩
    refine ⟨⟨rfl, rfl, rfl, rfl, trivial⟩, ?_⟩
  refine ⟨⟨rfl, rfl, rfl, rfl, rfl, rfl, rfl, rfl, rfl, rfl, rfl, rfl, trivial⟩, ?_⟩
  refine ⟨rfl, rfl, rfl, rfl, ?_⟩
  refine ⟨rfl, rfl, ?_⟩
  refine ⟨rfl, rfl, ?_⟩
  (intro w' hA; exact ⟨rfl, hA.bel (by simp)⟩)
end Go.Proofs.YtllepnadffndnaaDoor
