/- Changed configurations; how many numbers there are. -/
import Derived.Test.YtllepnadffndnaaDoorMakeC
namespace Go.Proofs.YtllepnadffndnaaDoor
open Go.RowKit

def In64 (n : Int) : Prop := -9223372036854775808 ≤ n ∧ n < 9223372036854775808
def InU64 (n : Int) : Prop := 0 ≤ n ∧ n < 18446744073709551616
theorem cfgOK_mk {a b c d e f h i j k l : Int} {g : Bool} (h0 : In64 a) (h1 : In64 b) (h2 : In64 c) (h3 : In64 d) (h4 : In64 e) (h5 : In64 f) (h6 : In64 h) (h7 : In64 i) (h8 : InU64 j) (h9 : In64 k) (h10 : In64 l) : CfgOK ⟨a, b, c, d, e, f, g, h, i, j, k, l⟩ := by
  refine ⟨fun n => ?_, h8⟩
  match n with
  | 0 => exact h0
  | 1 => exact h1
  | 2 => exact h2
  | 3 => exact h3
  | 4 => exact h4
  | 5 => exact h5
  | 6 => exact h10
  | 7 => exact h6
  | 8 => exact h7
  | 9 => exact h10
  | 10 => exact h9
  | n + 11 => exact h10
theorem wrapu_range (n : Int) : InU64 (IntKind.u64.wrap n) := by
  simp only [IntKind.wrap, IntKind.bits, IntKind.signed, InU64]
  simp
  omega
theorem wrap_range (n : Int) : In64 (IntKind.i64.wrap n) := by
  rw [IntKind.wrap_i64]; unfold In64; omega
theorem wrap8_range (n : Int) : 0 ≤ IntKind.u8.wrap n ∧ IntKind.u8.wrap n < 256 := by
  simp only [IntKind.wrap, IntKind.bits, IntKind.signed]
  simp
  omega

set_option maxHeartbeats 1000000 in
theorem changed_c (a : Option Addr) (c : Nat) (L : List Int) (fd n : Int) (hn : In64 n) (w : World) (hL : Sl (Rp.int .i64) w (Lt w.heap.size) a L) :
    Calls Tryd.prog 12 #[.slice a L.length c, .int .i64 fd, .int .i64 n] w fun e w' => ∃ x : MConfig, CfgOK x ∧ e = .returned (.agg ⟨cfgV x⟩) ∧ Below w.heap.size w w' := by
  refine calls_of_vc seat Tryd.func12 rfl rfl (Nat.le_of_ble_eq_true rfl) (N := 57) (args := [.val (.slice a L.length c), .val (.int .i64 fd), .val (.int .i64 n)]) (Nat.le_of_ble_eq_true rfl) rfl (A.start w) ?_
  intro g0 _
  intro w1 hA
  refine (from_c a c L w1).mono ?_
  rintro e w2 ⟨g1, rfl, hg1, hk1, hb⟩
  have hS : ∀ b, Lt w.heap.size b → b ≠ g1 := by
    have := (hA.bel (w := w) (by simp)).size
    intro b hb e
    subst e
    have : b < w.heap.size := hb
    omega
  refine ⟨.val (.pointer (some ⟨g1, 0, none⟩)), [(1, ⟨g1, 84, numsV a L c 0⟩), (0, ⟨g0, 24, cfgS zeroC⟩)], [(w, fun _ => False)], rfl, (hA.adopt hb hg1 hk1).sub ⟨rfl, rfl, trivial⟩, ?_⟩
  clear hA hb hk1
  intro w1 hA
  refine (mconfig_c g1 a c L 0 w1 hS (by decide) (hA.blk 1 _ rfl) (hL.below (hA.bel (by simp)))).mono ?_
  rintro e w2 ⟨⟨c0, c1, c2, c3, c4, c5, c6, c7, c8, c9, c10, c11⟩, N', hx, _, rfl, hb2, hs2⟩
  refine ⟨.val (.agg ⟨cfgV ⟨c0, c1, c2, c3, c4, c5, c6, c7, c8, c9, c10, c11⟩⟩), [(1, ⟨g1, 84, numsV a L c N'⟩), (0, ⟨g0, 24, cfgS zeroC⟩)], [(w, fun _ => False)], rfl, (hA.wrote (i := 1) rfl hs2 hb2).sub ⟨rfl, rfl, trivial⟩, ?_⟩
  clear hA hb2 hs2
  have hok := hx.ok
  have i0 : In64 c0 := hok.int 0
  have i1 : In64 c1 := hok.int 1
  have i2 : In64 c2 := hok.int 2
  have i3 : In64 c3 := hok.int 3
  have i4 : In64 c4 := hok.int 4
  have i5 : In64 c5 := hok.int 5
  have i7 : In64 c7 := hok.int 7
  have i8 : In64 c8 := hok.int 8
  have i9 : InU64 c9 := hok.price
  have i10 : In64 c10 := hok.int 10
  have i11 : In64 c11 := hok.int 11
  have iu := wrapu_range n
  intro g2 _
  refine ⟨rfl, rfl, rfl, rfl, ?_⟩
  intro w1 hA
  refine (place_c fd 11 w1 (by decide) (by decide)).mono ?_
  rintro e w2 ⟨rfl, hb⟩
  refine ⟨.val _, _, _, rfl, hA.below' hb, ?_⟩
  clear hA hb
  iterate 10
    refine ⟨fun _ => ?_, fun _ => ?_⟩
    · refine ⟨_, rfl, rfl, rfl, ?_⟩
      refine ⟨rfl, rfl, ?_⟩
      refine ⟨rfl, rfl, rfl, rfl, ?_⟩
      refine ⟨rfl, rfl, ?_⟩
      intro w' hA
      exact ⟨⟨_, _, _, _, _, _, _, _, _, _, _, _⟩, cfgOK_mk (by assumption) (by assumption) (by assumption) (by assumption) (by assumption) (by assumption) (by assumption) (by assumption) (by assumption) (by assumption) (by assumption), rfl, hA.bel (by simp)⟩
  refine ⟨_, rfl, ?_⟩
  refine ⟨_, rfl, rfl, rfl, ?_⟩
  refine ⟨rfl, rfl, ?_⟩
  refine ⟨rfl, rfl, rfl, rfl, ?_⟩
  refine ⟨rfl, rfl, ?_⟩
  intro w' hA
  exact ⟨⟨_, _, _, _, _, _, _, _, _, _, _, _⟩, cfgOK_mk (by assumption) (by assumption) (by assumption) (by assumption) (by assumption) (by assumption) (by assumption) (by assumption) (by assumption) (by assumption) (by assumption), rfl, hA.bel (by simp)⟩
end Go.Proofs.YtllepnadffndnaaDoor
