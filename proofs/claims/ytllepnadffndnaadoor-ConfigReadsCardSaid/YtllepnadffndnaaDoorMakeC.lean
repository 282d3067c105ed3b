/- The configurations that the statements make. -/
import Derived.Test.YtllepnadffndnaaDoorMake
import Derived.Test.YtllepnadffndnaaDoorCfgD
namespace Go.Proofs.YtllepnadffndnaaDoor
open Go.RowKit

/-- What is known of a configuration that was made from numbers. -/
structure GoodC (c : MConfig) : Prop where
  maxTxs : 1 ≤ c.maxTxs ∧ c.maxTxs < 8
  maxBytes : 250 ≤ c.maxBytes ∧ c.maxBytes < 650
  maxTxBytes : 40 ≤ c.maxTxBytes ∧ c.maxTxBytes < 200
  cacheSize : 0 ≤ c.cacheSize ∧ c.cacheSize < 12
  ttlBlocks : 0 ≤ c.ttlBlocks ∧ c.ttlBlocks < 4
  ttlTime : 0 ≤ c.ttlTime ∧ c.ttlTime < 60
  blockBytes : 100 ≤ c.blockBytes ∧ c.blockBytes < 500
  blockGas : c.blockGas = -1 ∨ 200 ≤ c.blockGas ∧ c.blockGas < 1100
  price : 0 ≤ c.price ∧ c.price < 3
  self : c.self = 0
  nodes : c.nodes = 1
theorem goodC_mk {a b c d e f h i j k l : Int} {g : Bool} (h0 : 1 ≤ a ∧ a < 8) (h1 : 250 ≤ b ∧ b < 650) (h2 : 40 ≤ c ∧ c < 200) (h3 : 0 ≤ d ∧ d < 12) (h4 : 0 ≤ e ∧ e < 4) (h5 : 0 ≤ f ∧ f < 60) (h6 : 100 ≤ h ∧ h < 500) (h7 : i = -1 ∨ 200 ≤ i ∧ i < 1100) (h8 : 0 ≤ j ∧ j < 3) (h9 : k = 0) (h10 : l = 1) :
    GoodC ⟨a, b, c, d, e, f, g, h, i, j, k, l⟩ := ⟨h0, h1, h2, h3, h4, h5, h6, h7, h8, h9, h10⟩
theorem GoodC.ok {c : MConfig} (h : GoodC c) : CfgOK c := by
  obtain ⟨h0, h1, h2, h3, h4, h5, h6, h7, h8, h9, h10⟩ := h
  refine ⟨fun k => ?_, by omega⟩
  match k with
  | 0 | 1 | 2 | 3 | 4 | 5 | 7 | 8 | 10 | 11 | 6 | 9 => simp only [intF]; omega
  | k + 12 => simp only [intF]; omega
theorem GoodC.valid {c : MConfig} (h : GoodC c) : validC c = 0 := by
  have hok := h.ok
  obtain ⟨h0, h1, h2, h3, h4, h5, h6, h7, h8, h9, h10⟩ := h
  have hk : ∀ k, k < 12 → okK c k = true := by
    intro k hk
    rw [ok16_eq hok hk]
    have h : k = 0 ∨ k = 1 ∨ k = 2 ∨ k = 3 ∨ k = 4 ∨ k = 5 ∨ k = 7 ∨ k = 8 ∨ k = 10 ∨ k = 11 ∨ k = 6 ∨ k = 9 := by omega
    rcases h with rfl | rfl | rfl | rfl | rfl | rfl | rfl | rfl | rfl | rfl | rfl | rfl
    case inr.inr.inr.inr.inr.inr.inr.inr.inr.inr.inl => cases hkk : c.keepInvalid <;> simp [ok16, value16, leastI, greatI, hkk]
    all_goals simp [ok16, value16, leastI, greatI, intF]
    all_goals omega
  have hto : ∀ n, n ≤ 12 → okTo c n = true := by
    intro n
    induction n with
    | zero => intro _; rfl
    | succ n ih => intro hn; simp [okTo, ih (by omega), hk n (by omega)]
  unfold validC
  rw [if_pos ⟨hto 12 (by omega), by omega⟩]

set_option maxHeartbeats 1000000 in
theorem mconfig_c (g : Nat) (a : Option Addr) (c : Nat) (L : List Int) (N : Nat) (w : World) {S : Fp} (hS : ∀ b, S b → b ≠ g) (hN : N < 2305843009213693952)
    (hb : Blk w g 84 ((numsV a L c N).map SV.den).toArray) (hL : Sl (Rp.int .i64) w S a L) :
    Calls Tryd.prog 21 #[.pointer (some ⟨g, 0, none⟩)] w fun e w' => ∃ (x : MConfig) (N' : Nat), GoodC x ∧ N' ≤ N + 14 ∧ e = .returned (.agg ⟨cfgV x⟩) ∧ Blk w' g 84 ((numsV a L c N').map SV.den).toArray ∧ Since (fun b => b = g) w w' := by
  refine calls_of_vc seat Tryd.func21 rfl rfl (Nat.le_of_ble_eq_true rfl) (N := 47) (args := [.ptr 0 g 0]) (Nat.le_of_ble_eq_true rfl) rfl (A.start1 hb) ?_
  intro g1 _
  (intro w1 hA; refine (next_e g a c L (N) 7 w1 hS (by decide) (by decide) (by omega) (hA.blk 0 _ rfl) (hL.since (hA.since (w, _) (List.Mem.head _)) hS)).mono ?_; rintro e w2 ⟨x0, hrx0, rfl, hb2, hs2⟩; refine ⟨.val (.int .i64 x0), [(1, ⟨g1, 24, cfgS zeroC⟩), (0, ⟨g, 84, numsV a L c (N + 1)⟩)], _, rfl, (hA.wrote (i := 0) rfl hs2 hb2).sub ⟨rfl, rfl, trivial⟩, ?_⟩; clear hA hb2 hs2)
  refine ⟨_, wrap_in _ (by omega) (by omega), ?_⟩
  (intro w1 hA; refine (next_e g a c L (N + 1) 400 w1 hS (by decide) (by decide) (by omega) (hA.blk 0 _ rfl) (hL.since (hA.since (w, _) (List.Mem.head _)) hS)).mono ?_; rintro e w2 ⟨x1, hrx1, rfl, hb2, hs2⟩; refine ⟨.val (.int .i64 x1), [(1, ⟨g1, 24, cfgS zeroC⟩), (0, ⟨g, 84, numsV a L c (N + 2)⟩)], _, rfl, (hA.wrote (i := 0) rfl hs2 hb2).sub ⟨rfl, rfl, trivial⟩, ?_⟩; clear hA hb2 hs2)
  refine ⟨_, wrap_in _ (by omega) (by omega), ?_⟩
  (intro w1 hA; refine (next_e g a c L (N + 2) 140 w1 hS (by decide) (by decide) (by omega) (hA.blk 0 _ rfl) (hL.since (hA.since (w, _) (List.Mem.head _)) hS)).mono ?_; rintro e w2 ⟨x2, hrx2, rfl, hb2, hs2⟩; refine ⟨.val (.int .i64 x2), [(1, ⟨g1, 24, cfgS zeroC⟩), (0, ⟨g, 84, numsV a L c (N + 3)⟩)], _, rfl, (hA.wrote (i := 0) rfl hs2 hb2).sub ⟨rfl, rfl, trivial⟩, ?_⟩; clear hA hb2 hs2)
  refine ⟨_, wrap_in _ (by omega) (by omega), ?_⟩
  (intro w1 hA; refine (next_e g a c L (N + 3) 12 w1 hS (by decide) (by decide) (by omega) (hA.blk 0 _ rfl) (hL.since (hA.since (w, _) (List.Mem.head _)) hS)).mono ?_; rintro e w2 ⟨x3, hrx3, rfl, hb2, hs2⟩; refine ⟨.val (.int .i64 x3), [(1, ⟨g1, 24, cfgS zeroC⟩), (0, ⟨g, 84, numsV a L c (N + 4)⟩)], _, rfl, (hA.wrote (i := 0) rfl hs2 hb2).sub ⟨rfl, rfl, trivial⟩, ?_⟩; clear hA hb2 hs2)
  (intro w1 hA; refine (next_e g a c L (N + 4) 4 w1 hS (by decide) (by decide) (by omega) (hA.blk 0 _ rfl) (hL.since (hA.since (w, _) (List.Mem.head _)) hS)).mono ?_; rintro e w2 ⟨x4, hrx4, rfl, hb2, hs2⟩; refine ⟨.val (.int .i64 x4), [(1, ⟨g1, 24, cfgS zeroC⟩), (0, ⟨g, 84, numsV a L c (N + 5)⟩)], _, rfl, (hA.wrote (i := 0) rfl hs2 hb2).sub ⟨rfl, rfl, trivial⟩, ?_⟩; clear hA hb2 hs2)
  (intro w1 hA; refine (next_e g a c L (N + 5) 3 w1 hS (by decide) (by decide) (by omega) (hA.blk 0 _ rfl) (hL.since (hA.since (w, _) (List.Mem.head _)) hS)).mono ?_; rintro e w2 ⟨x5, hrx5, rfl, hb2, hs2⟩; refine ⟨.val (.int .i64 x5), [(1, ⟨g1, 24, cfgS zeroC⟩), (0, ⟨g, 84, numsV a L c (N + 6)⟩)], _, rfl, (hA.wrote (i := 0) rfl hs2 hb2).sub ⟨rfl, rfl, trivial⟩, ?_⟩; clear hA hb2 hs2)
  (intro w1 hA; refine (next_e g a c L (N + 6) 20 w1 hS (by decide) (by decide) (by omega) (hA.blk 0 _ rfl) (hL.since (hA.since (w, _) (List.Mem.head _)) hS)).mono ?_; rintro e w2 ⟨x6, hrx6, rfl, hb2, hs2⟩; refine ⟨.val (.int .i64 x6), [(1, ⟨g1, 24, cfgS zeroC⟩), (0, ⟨g, 84, numsV a L c (N + 7)⟩)], _, rfl, (hA.wrote (i := 0) rfl hs2 hb2).sub ⟨rfl, rfl, trivial⟩, ?_⟩; clear hA hb2 hs2)
  have hm : 0 ≤ x5 * x6 ∧ x5 * x6 < 60 := by
    have e : x5 = 0 ∨ x5 = 1 ∨ x5 = 2 := by omega
    rcases e with rfl | rfl | rfl <;> omega
  refine ⟨_, wrap_in _ (by omega) (by omega), ?_⟩
  (intro w1 hA; refine (next_e g a c L (N + 7) 3 w1 hS (by decide) (by decide) (by omega) (hA.blk 0 _ rfl) (hL.since (hA.since (w, _) (List.Mem.head _)) hS)).mono ?_; rintro e w2 ⟨x7, hrx7, rfl, hb2, hs2⟩; refine ⟨.val (.int .i64 x7), [(1, ⟨g1, 24, cfgS zeroC⟩), (0, ⟨g, 84, numsV a L c (N + 8)⟩)], _, rfl, (hA.wrote (i := 0) rfl hs2 hb2).sub ⟨rfl, rfl, trivial⟩, ?_⟩; clear hA hb2 hs2)
  (intro w1 hA; refine (next_e g a c L (N + 8) 400 w1 hS (by decide) (by decide) (by omega) (hA.blk 0 _ rfl) (hL.since (hA.since (w, _) (List.Mem.head _)) hS)).mono ?_; rintro e w2 ⟨x8, hrx8, rfl, hb2, hs2⟩; refine ⟨.val (.int .i64 x8), [(1, ⟨g1, 24, cfgS zeroC⟩), (0, ⟨g, 84, numsV a L c (N + 9)⟩)], _, rfl, (hA.wrote (i := 0) rfl hs2 hb2).sub ⟨rfl, rfl, trivial⟩, ?_⟩; clear hA hb2 hs2)
  refine ⟨_, wrap_in _ (by omega) (by omega), ?_⟩
  (intro w1 hA; refine (next_e g a c L (N + 9) 3 w1 hS (by decide) (by decide) (by omega) (hA.blk 0 _ rfl) (hL.since (hA.since (w, _) (List.Mem.head _)) hS)).mono ?_; rintro e w2 ⟨x9, hrx9, rfl, hb2, hs2⟩; refine ⟨.val (.int .i64 x9), [(1, ⟨g1, 24, cfgS zeroC⟩), (0, ⟨g, 84, numsV a L c (N + 10)⟩)], _, rfl, (hA.wrote (i := 0) rfl hs2 hb2).sub ⟨rfl, rfl, trivial⟩, ?_⟩; clear hA hb2 hs2)
  refine ⟨_, wrapu_in _ (by omega) (by omega), ?_⟩
  generalize x5 * x6 = x56 at hm ⊢
  refine ⟨⟨rfl, rfl, rfl, rfl, rfl, rfl, rfl, rfl, rfl, rfl, rfl, trivial⟩, ?_⟩
  intro g2 _
  refine ⟨rfl, rfl, rfl, rfl, ?_⟩
  (intro w1 hA; refine (next_e g a c L (N + 10) 3 w1 hS (by decide) (by decide) (by omega) (hA.blk 0 _ rfl) (hL.since (hA.since (w, _) (List.Mem.head _)) hS)).mono ?_; rintro e w2 ⟨x10, hrx10, rfl, hb2, hs2⟩; refine ⟨.val (.int .i64 x10), [(2, ⟨g2, 24, cfgS ⟨1 + x0, 250 + x1, 60 + x2, x3, x4, x56, x7 == 0, 100 + x8, -1, x9, 0, 1⟩⟩), (1, ⟨g1, 24, cfgS zeroC⟩), (0, ⟨g, 84, numsV a L c (N + 11)⟩)], _, rfl, (hA.wrote (i := 0) rfl hs2 hb2).sub ⟨rfl, rfl, rfl, trivial⟩, ?_⟩; clear hA hb2 hs2)
  refine ⟨fun _ => ?_, fun _ => ?_⟩
  · (intro w1 hA; refine (next_e g a c L (N + 11) 900 w1 hS (by decide) (by decide) (by omega) (hA.blk 0 _ rfl) (hL.since (hA.since (w, _) (List.Mem.head _)) hS)).mono ?_; rintro e w2 ⟨x11, hrx11, rfl, hb2, hs2⟩; refine ⟨.val (.int .i64 x11), [(2, ⟨g2, 24, cfgS ⟨1 + x0, 250 + x1, 60 + x2, x3, x4, x56, x7 == 0, 100 + x8, -1, x9, 0, 1⟩⟩), (1, ⟨g1, 24, cfgS zeroC⟩), (0, ⟨g, 84, numsV a L c (N + 12)⟩)], _, rfl, (hA.wrote (i := 0) rfl hs2 hb2).sub ⟨rfl, rfl, rfl, trivial⟩, ?_⟩; clear hA hb2 hs2)
    refine ⟨_, wrap_in _ (by omega) (by omega), ?_⟩
    refine ⟨_, rfl, rfl, rfl, ?_⟩
    (intro w1 hA; refine (next_e g a c L (N + 12) 6 w1 hS (by decide) (by decide) (by omega) (hA.blk 0 _ rfl) (hL.since (hA.since (w, _) (List.Mem.head _)) hS)).mono ?_; rintro e w2 ⟨x12, hrx12, rfl, hb2, hs2⟩; refine ⟨.val (.int .i64 x12), [(2, ⟨g2, 24, cfgS ⟨1 + x0, 250 + x1, 60 + x2, x3, x4, x56, x7 == 0, 100 + x8, 200 + x11, x9, 0, 1⟩⟩), (1, ⟨g1, 24, cfgS zeroC⟩), (0, ⟨g, 84, numsV a L c (N + 13)⟩)], _, rfl, (hA.wrote (i := 0) rfl hs2 hb2).sub ⟨rfl, rfl, rfl, trivial⟩, ?_⟩; clear hA hb2 hs2)
    refine ⟨fun _ => ?_, fun _ => ?_⟩
    · (intro w1 hA; refine (next_e g a c L (N + 13) 40 w1 hS (by decide) (by decide) (by omega) (hA.blk 0 _ rfl) (hL.since (hA.since (w, _) (List.Mem.head _)) hS)).mono ?_; rintro e w2 ⟨x13, hrx13, rfl, hb2, hs2⟩; refine ⟨.val (.int .i64 x13), [(2, ⟨g2, 24, cfgS ⟨1 + x0, 250 + x1, 60 + x2, x3, x4, x56, x7 == 0, 100 + x8, 200 + x11, x9, 0, 1⟩⟩), (1, ⟨g1, 24, cfgS zeroC⟩), (0, ⟨g, 84, numsV a L c (N + 14)⟩)], _, rfl, (hA.wrote (i := 0) rfl hs2 hb2).sub ⟨rfl, rfl, rfl, trivial⟩, ?_⟩; clear hA hb2 hs2)
      refine ⟨_, wrap_in _ (by omega) (by omega), ?_⟩
      refine ⟨_, rfl, rfl, rfl, ?_⟩
      refine ⟨rfl, rfl, ?_⟩
      refine ⟨rfl, rfl, rfl, rfl, ?_⟩
      refine ⟨rfl, rfl, ?_⟩
      intro w' hA
      exact ⟨⟨1 + x0, 250 + x1, 40 + x13, x3, x4, x56, x7 == 0, 100 + x8, 200 + x11, x9, 0, 1⟩, N + 14, goodC_mk (by omega) (by omega) (by omega) (by omega) (by omega) (by omega) (by omega) (by omega) (by omega) rfl rfl, by omega, rfl, hA.blk 0 _ rfl, hA.since (w, _) (List.Mem.head _)⟩
    · refine ⟨rfl, rfl, ?_⟩
      refine ⟨rfl, rfl, rfl, rfl, ?_⟩
      refine ⟨rfl, rfl, ?_⟩
      intro w' hA
      exact ⟨⟨1 + x0, 250 + x1, 60 + x2, x3, x4, x56, x7 == 0, 100 + x8, 200 + x11, x9, 0, 1⟩, N + 13, goodC_mk (by omega) (by omega) (by omega) (by omega) (by omega) (by omega) (by omega) (by omega) (by omega) rfl rfl, by omega, rfl, hA.blk 0 _ rfl, hA.since (w, _) (List.Mem.head _)⟩
  · (intro w1 hA; refine (next_e g a c L (N + 11) 6 w1 hS (by decide) (by decide) (by omega) (hA.blk 0 _ rfl) (hL.since (hA.since (w, _) (List.Mem.head _)) hS)).mono ?_; rintro e w2 ⟨x12, hrx12, rfl, hb2, hs2⟩; refine ⟨.val (.int .i64 x12), [(2, ⟨g2, 24, cfgS ⟨1 + x0, 250 + x1, 60 + x2, x3, x4, x56, x7 == 0, 100 + x8, -1, x9, 0, 1⟩⟩), (1, ⟨g1, 24, cfgS zeroC⟩), (0, ⟨g, 84, numsV a L c (N + 12)⟩)], _, rfl, (hA.wrote (i := 0) rfl hs2 hb2).sub ⟨rfl, rfl, rfl, trivial⟩, ?_⟩; clear hA hb2 hs2)
    refine ⟨fun _ => ?_, fun _ => ?_⟩
    · (intro w1 hA; refine (next_e g a c L (N + 12) 40 w1 hS (by decide) (by decide) (by omega) (hA.blk 0 _ rfl) (hL.since (hA.since (w, _) (List.Mem.head _)) hS)).mono ?_; rintro e w2 ⟨x13, hrx13, rfl, hb2, hs2⟩; refine ⟨.val (.int .i64 x13), [(2, ⟨g2, 24, cfgS ⟨1 + x0, 250 + x1, 60 + x2, x3, x4, x56, x7 == 0, 100 + x8, -1, x9, 0, 1⟩⟩), (1, ⟨g1, 24, cfgS zeroC⟩), (0, ⟨g, 84, numsV a L c (N + 13)⟩)], _, rfl, (hA.wrote (i := 0) rfl hs2 hb2).sub ⟨rfl, rfl, rfl, trivial⟩, ?_⟩; clear hA hb2 hs2)
      refine ⟨_, wrap_in _ (by omega) (by omega), ?_⟩
      refine ⟨_, rfl, rfl, rfl, ?_⟩
      refine ⟨rfl, rfl, ?_⟩
      refine ⟨rfl, rfl, rfl, rfl, ?_⟩
      refine ⟨rfl, rfl, ?_⟩
      intro w' hA
      exact ⟨⟨1 + x0, 250 + x1, 40 + x13, x3, x4, x56, x7 == 0, 100 + x8, -1, x9, 0, 1⟩, N + 13, goodC_mk (by omega) (by omega) (by omega) (by omega) (by omega) (by omega) (by omega) (.inl rfl) (by omega) rfl rfl, by omega, rfl, hA.blk 0 _ rfl, hA.since (w, _) (List.Mem.head _)⟩
    · refine ⟨rfl, rfl, ?_⟩
      refine ⟨rfl, rfl, rfl, rfl, ?_⟩
      refine ⟨rfl, rfl, ?_⟩
      intro w' hA
      exact ⟨⟨1 + x0, 250 + x1, 60 + x2, x3, x4, x56, x7 == 0, 100 + x8, -1, x9, 0, 1⟩, N + 12, goodC_mk (by omega) (by omega) (by omega) (by omega) (by omega) (by omega) (by omega) (.inl rfl) (by omega) rfl rfl, by omega, rfl, hA.blk 0 _ rfl, hA.since (w, _) (List.Mem.head _)⟩
end Go.Proofs.YtllepnadffndnaaDoor
