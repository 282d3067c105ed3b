/- ConfigParses: the walk. -/
import Derived.Test.YtllepnadffndnaaDoorLawB
namespace Go.Proofs.YtllepnadffndnaaDoor
open Go.RowKit

def w30 : List ByteArray := [⟨#[109, 97, 120, 45, 116, 120, 115]⟩, ⟨#[112, 114, 105, 99, 101]⟩, ⟨#[98, 108, 111, 99, 107, 45, 103, 97, 115]⟩, ⟨#[110, 111, 100, 101, 115]⟩, ⟨#[115, 101, 108, 102]⟩, ⟨#[107, 101, 101, 112, 45, 105, 110, 118, 97, 108, 105, 100]⟩, ⟨#[116, 116, 108, 45, 116, 105, 109, 101]⟩, ⟨#[109, 97, 120, 45, 99, 97, 99, 104, 101]⟩, ⟨#[32]⟩, ⟨#[32]⟩, ⟨#[9]⟩, ⟨#[194, 160]⟩, ⟨#[226, 128, 131]⟩, ⟨#[227, 128, 128]⟩, ⟨#[10]⟩, ⟨#[10]⟩, ⟨#[35]⟩, ⟨#[49]⟩, ⟨#[50]⟩, ⟨#[48]⟩, ⟨#[45, 49]⟩, ⟨#[55]⟩, ⟨#[57, 57, 57, 57, 57, 57, 57, 57, 57, 57, 57, 57, 57, 57, 57, 57, 57, 57, 57, 57]⟩, ⟨#[49, 56, 52, 52, 54, 55, 52, 52, 48, 55, 51, 55, 48, 57, 53, 53, 49, 54, 49, 53]⟩, ⟨#[53, 49, 50]⟩, ⟨#[53, 49, 51]⟩, ⟨#[13]⟩, ⟨#[195, 169]⟩, ⟨#[255]⟩, ⟨#[120]⟩]
theorem w30_at {k : Nat} (h : k < 30) : ∃ s : ByteArray, s.size ≤ 20 ∧ nth ((w30.map Value.string).map SV.val) (0 + k * 1) = some (.val (.string s)) := by
  have hs : ∀ s ∈ w30, s.size ≤ 20 := by decide +kernel
  refine ⟨w30[k], hs _ (List.getElem_mem h), ?_⟩
  rw [nth_eq, Nat.zero_add, Nat.mul_one, List.getElem?_map, List.getElem?_map, List.getElem?_eq_getElem h]
  rfl

theorem wf8 {n : Int} (h : (Lit.int .u8 n).wf = true) : 0 ≤ n ∧ n < 256 := by
  simp [Lit.wf, IntKind.min, IntKind.max, IntKind.bits, IntKind.signed] at h
  omega
set_option maxRecDepth 100000 in
set_option maxHeartbeats 1000000 in
theorem configParses_core (s : ByteArray) (hs : s.size ≤ 140737488355328) (a : Option Addr) (cap : Nat) (xs : List Int) (S : Fp) (w : World) (hsl : Sl (Rp.int .u8) w S a xs) (hlib : ∀ w', Below w.heap.size w w' → LibOK w') :
    Calls Tryd.prog 5 #[.string s, .slice a xs.length cap] w fun e w' => e = .returned (.bool true) ∧ Below w.heap.size w w' := by
  refine calls_of_vc seat Tryd.func5 rfl rfl (Nat.le_of_ble_eq_true rfl) (N := 45) (args := [.val (.string s), .val (.slice a xs.length cap)]) (Nat.le_of_ble_eq_true rfl) rfl (A.start w) ?_
  refine ⟨fun h => ?_, fun h => ?_⟩
  · skip
    refine ⟨fun h2 => ?_, fun h2 => ?_⟩
    · skip
      intro w1 hA
      refine (known_c w1 (fun w' hb => hlib w' ((hA.below' hb).bel (by simp)))).mono ?_
      rintro e w2 ⟨rfl, hb⟩
      refine ⟨.val _, _, _, rfl, hA.below' hb, ?_⟩
      clear hA hb
      intro w' hA
      exact ⟨rfl, hA.bel (by simp)⟩
    have hn : xs.length ≤ 40 := by have := of_decide_eq_false h2; omega
    refine ⟨Nat × ByteArray, fun x => [(19, .val (.int .i64 x.1)), (18, .val (.int .i64 xs.length)), (17, .val (.slice a xs.length cap)), (5, .val (.string x.2)), (0, .val (.string s))], fun _ => [], fun _ => [(w, fun _ => False)], fun x => x.1 ≤ xs.length ∧ x.2.size ≤ 20 * x.1, fun x => xs.length - x.1, ?_, ?_⟩
    · intro w1 hA
      exact ⟨(0, ⟨#[]⟩), ⟨by omega, by decide⟩, ⟨⟨_, rfl, rfl⟩, ⟨_, rfl, rfl⟩, ⟨_, rfl, rfl⟩, ⟨_, rfl, rfl⟩, ⟨_, rfl, rfl⟩, trivial⟩, hA⟩
    rintro ⟨i, t⟩ ⟨hi, ht⟩
    replace hi : i ≤ xs.length := hi
    replace ht : t.size ≤ 20 * i := ht
    refine ⟨fun h => ?_, fun h => ?_⟩
    · have hlt : i < xs.length := by have := of_decide_eq_true h; omega
      obtain ⟨b, o, cs, rfl, hSb, hr, hat, _, _⟩ := hsl.get 1 rfl (i := i) hlt
      obtain ⟨hcs, hwf⟩ : cs = [.int .u8 xs[i]] ∧ (Lit.int .u8 xs[i]).wf = true := hr
      subst hcs
      have hx : 0 ≤ xs[i] ∧ xs[i] < 256 := wf8 hwf
      generalize xs[i] = x at *
      obtain ⟨k, hk, hk30⟩ : ∃ k : Nat, Int.tmod x 30 = k ∧ k < 30 := by
        rw [Int.tmod_eq_emod_of_nonneg hx.1]
        exact ⟨(x % 30).toNat, by omega, by omega⟩
      obtain ⟨u, hu, hnu⟩ := w30_at hk30
      refine ⟨b, o, i, rfl, rfl, hlt, ?_⟩
      refine ⟨.int .u8 x, fun w' hA => ldS seat.tab rfl rfl hat (j := 0) rfl (by omega) (hA.since (w, _) (List.Mem.head _)) (fun h => h), ?_⟩
      refine ⟨⟨rfl, rfl, rfl, rfl, rfl, rfl, rfl, rfl, rfl, rfl, rfl, rfl, rfl, rfl, rfl, rfl, rfl, rfl, rfl, rfl, rfl, rfl, rfl, rfl, rfl, rfl, rfl, rfl, rfl, rfl, trivial⟩, ?_⟩
      intro g0 _
      refine ⟨by decide, (k : Int), by rw [hk], ?_⟩
      refine ⟨_, _, k, rfl, rfl, hk30, ?_⟩
      refine ⟨.string u, fun w' hA => ldk seat.tab rfl rfl (i := 0) rfl rfl hnu hA, ?_⟩
      refine ⟨by show t.size + u.size ≤ _; omega, ?_⟩
      refine ⟨((i + 1 : Nat) : Int), wrap_in _ (by omega) (by omega), ?_⟩
      intro w' hA
      exact ⟨(i + 1, t ++ u), ⟨by show i + 1 ≤ _; omega, by show (t ++ u).size ≤ 20 * (i + 1); rw [ByteArray.size_append]; omega⟩, by show xs.length - (i + 1) < xs.length - i; omega, ⟨⟨_, rfl, rfl⟩, ⟨_, rfl, rfl⟩, ⟨_, rfl, rfl⟩, ⟨_, rfl, rfl⟩, ⟨_, rfl, rfl⟩, trivial⟩, hA.sub trivial⟩
    · have ht : t.size ≤ 800 := by omega
      intro w1 hA
      refine (parses_c s hs w1 (fun w' hb => hlib w' ((hA.below' hb).bel (by simp)))).mono ?_
      rintro e w2 ⟨rfl, hb⟩
      refine ⟨.val _, _, _, rfl, hA.below' hb, ?_⟩
      clear hA hb
      refine ⟨fun _ => ?_, fun h => Bool.noConfusion h⟩
      intro w1 hA
      refine (parses_c t (by omega) w1 (fun w' hb => hlib w' ((hA.below' hb).bel (by simp)))).mono ?_
      rintro e w2 ⟨rfl, hb⟩
      refine ⟨.val _, _, _, rfl, hA.below' hb, ?_⟩
      clear hA hb
      refine ⟨fun _ => ?_, fun h => Bool.noConfusion h⟩
      refine ⟨Nat.le_trans (Nat.add_le_add_left ht _) (by decide), ?_⟩
      intro w1 hA
      refine (parses_c _ (by rw [ByteArray.size_append]; exact Nat.le_trans (Nat.add_le_add_left ht _) (by decide)) w1 (fun w' hb => hlib w' ((hA.below' hb).bel (by simp)))).mono ?_
      rintro e w2 ⟨rfl, hb⟩
      refine ⟨.val _, _, _, rfl, hA.below' hb, ?_⟩
      clear hA hb
      refine ⟨fun _ => ?_, fun h => Bool.noConfusion h⟩
      intro w1 hA
      refine (known_c w1 (fun w' hb => hlib w' ((hA.below' hb).bel (by simp)))).mono ?_
      rintro e w2 ⟨rfl, hb⟩
      refine ⟨.val _, _, _, rfl, hA.below' hb, ?_⟩
      clear hA hb
      intro w' hA
      exact ⟨rfl, hA.bel (by simp)⟩
  · (repeat (first | refine ⟨fun _ => ?_, fun h => Bool.noConfusion h⟩ | refine ⟨fun h => Bool.noConfusion h, fun _ => ?_⟩ | refine ⟨_, wrap_in _ (by omega) (by omega), ?_⟩ | refine ⟨_, wrapu_in _ (by omega) (by omega), ?_⟩ | refine ⟨_, wrap8_in _ (by omega) (by omega), ?_⟩ | refine ⟨_, rfl, ?_⟩ | refine ⟨rfl, ?_⟩))
    intro w1 hA
    refine (known_c w1 (fun w' hb => hlib w' ((hA.below' hb).bel (by simp)))).mono ?_
    rintro e w2 ⟨rfl, hb⟩
    refine ⟨.val _, _, _, rfl, hA.below' hb, ?_⟩
    clear hA hb
    intro w' hA
    exact ⟨rfl, hA.bel (by simp)⟩
end Go.Proofs.YtllepnadffndnaaDoor
