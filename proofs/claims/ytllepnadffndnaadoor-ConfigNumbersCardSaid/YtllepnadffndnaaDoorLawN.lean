/- ConfigNumbers: the walk. -/
import Derived.Test.YtllepnadffndnaaDoorLawB
import Derived.Test.YtllepnadffndnaaDoorMake
import Derived.Test.YtllepnadffndnaaDoorDec
namespace Go.Proofs.YtllepnadffndnaaDoor
open Go.RowKit

def names12 : List Value := (List.range 12).map fun k => strV (nameL k)
theorem names12_at {k : Nat} (h : k < 12) : ∃ s : ByteArray, s.size ≤ 12 ∧ nth (names12.map SV.val) (0 + k * 1) = some (.val (.string s)) := by
  refine ⟨⟨(nameL k).toArray⟩, by have := nameL_sh k; simpa [ByteArray.size] using this, ?_⟩
  rw [nth_eq, Nat.zero_add, Nat.mul_one, names12, List.getElem?_map, List.getElem?_map, List.getElem?_range h]
  rfl
def nums6 (N : Nat) : List Nat := [N, N % 3, N / 1125899906842624, N / 8796093022208, N / 8589934592, N / 8192]
theorem nums6_at {N : Nat} (hN : N < 18446744073709551616) {i : Nat} (h : i < 6) : ∃ x : Nat, x < 18446744073709551616 ∧ nth (((nums6 N).map fun x : Nat => Value.int .u64 (x : Int)).map SV.val) (0 + i * 1) = some (.val (.int .u64 (x : Int))) := by
  have hs : ∀ x ∈ nums6 N, x < 18446744073709551616 := by
    intro x hx
    simp only [nums6, List.mem_cons, List.mem_nil_iff, or_false] at hx
    omega
  refine ⟨(nums6 N)[i], hs _ (List.getElem_mem h), ?_⟩
  rw [nth_eq, Nat.zero_add, Nat.mul_one, List.getElem?_map, List.getElem?_map, List.getElem?_eq_getElem h]
  rfl
theorem dig_sz {x : Nat} (h : x < 18446744073709551616) : (⟨(Lib.decDigits x).toArray⟩ : ByteArray).size ≤ 20 := by
  have := dd_len 19 x (by omega)
  simpa [ByteArray.size] using this
theorem shr_nat (N : Nat) (s : Int) (c : Nat) (h : (2 : Int) ^ min s.toNat IntKind.u64.bits = (c : Int)) : (N : Int).fdiv (2 ^ min s.toNat IntKind.u64.bits) = ((N / c : Nat) : Int) := by
  rw [h, Int.fdiv_eq_ediv_of_nonneg _ (by omega)]
  omega
theorem unsigned_e {x : Nat} (h : x < 18446744073709551616) : ∃ D : ByteArray, D.size ≤ 20 ∧ ∀ w, Calls Tryd.prog 26 #[.int .u64 x] w fun e w' => e = .returned (.string D) ∧ Below w.heap.size w w' :=
  ⟨_, dig_sz h, unsigned_c x h⟩
set_option maxRecDepth 100000 in
set_option maxHeartbeats 4000000 in
theorem configNumbers_core (n : Int) (hn : (Lit.int .u64 n).wf = true) (fd : Int) (_ : (Lit.int .i64 fd).wf = true) (z : Int) (hz : (Lit.int .u8 z).wf = true) (s : ByteArray) (_ : s.size ≤ 140737488355328) (w : World) (hlib : ∀ w', Below w.heap.size w w' → LibOK w') :
    Calls Tryd.prog 8 #[.int .u64 n, .int .i64 fd, .int .u8 z, .string s] w fun e w' => e = .returned (.bool true) ∧ Below w.heap.size w w' := by
  have hz : 0 ≤ z ∧ z < 256 := by
    simp [Lit.wf, IntKind.min, IntKind.max, IntKind.bits, IntKind.signed] at hz
    omega
  have hn : 0 ≤ n ∧ n < 18446744073709551616 := by
    simp [Lit.wf, IntKind.min, IntKind.max, IntKind.bits, IntKind.signed] at hn
    omega
  obtain ⟨N, rfl⟩ : ∃ N : Nat, n = N := ⟨n.toNat, by omega⟩
  have hN : N < 18446744073709551616 := by omega
  obtain ⟨zk, hzk, hzk4⟩ : ∃ k : Nat, Int.tmod z 4 = k ∧ k < 4 := by
    rw [Int.tmod_eq_emod_of_nonneg hz.1]
    exact ⟨(z % 4).toNat, by omega, by omega⟩
  refine calls_of_vc seat Tryd.func8 rfl rfl (Nat.le_of_ble_eq_true rfl) (N := 85) (args := [.val (.int .u64 (N : Nat)), .val (.int .i64 fd), .val (.int .u8 z), .val (.string s)]) (Nat.le_of_ble_eq_true rfl) rfl (A.start w) ?_
  refine ⟨fun _ => ?_, fun h => ?_⟩
  · skip
    intro w1 hA
    refine (known_c w1 (fun w' hb => hlib w' ((hA.below' hb).bel (by simp)))).mono ?_
    rintro e w2 ⟨rfl, hb⟩
    refine ⟨.val _, _, _, rfl, hA.below' hb, ?_⟩
    clear hA hb
    intro w' hA
    exact ⟨rfl, hA.bel (by simp)⟩
  have hs : s.size ≤ 40 := by have := of_decide_eq_false h; omega
  refine ⟨⟨rfl, rfl, rfl, rfl, rfl, rfl, rfl, rfl, rfl, rfl, rfl, rfl, trivial⟩, ?_⟩
  intro g0 _
  intro w1 hA
  refine (place_c fd 12 w1 (by decide) (by decide)).mono ?_
  rintro e w2 ⟨rfl, hb⟩
  refine ⟨.val _, _, _, rfl, hA.below' hb, ?_⟩
  clear hA hb
  obtain ⟨k, hk, hk12⟩ : ∃ k : Nat, fd % 12 = k ∧ k < 12 := ⟨(fd % 12).toNat, by omega, by omega⟩
  obtain ⟨nm, hnm, hnn⟩ := names12_at hk12
  refine ⟨_, _, k, rfl, hk, hk12, ?_⟩
  refine ⟨.string nm, fun w' hA => ldk seat.tab rfl rfl (i := 0) rfl rfl hnn hA, ?_⟩
  refine ⟨by decide, ((N % 3 : Nat) : Int), by rw [Int.tmod_eq_emod_of_nonneg (by omega)]; omega, ?_⟩
  refine ⟨by decide, _, shr_nat N 50 1125899906842624 (by decide), ?_⟩
  refine ⟨by decide, _, shr_nat N 43 8796093022208 (by decide), ?_⟩
  refine ⟨by decide, _, shr_nat N 33 8589934592 (by decide), ?_⟩
  refine ⟨by decide, _, shr_nat N 13 8192 (by decide), ?_⟩
  refine ⟨⟨rfl, rfl, rfl, rfl, rfl, rfl, trivial⟩, ?_⟩
  intro g1 _
  have hsp : (⟨#[32]⟩ : ByteArray).size = 1 := rfl
  have hsm : (⟨#[32, 45]⟩ : ByteArray).size = 2 := rfl
  have hno : (⟨#[10, 110, 111, 100, 101, 115, 32, 56]⟩ : ByteArray).size = 8 := rfl
  obtain ⟨u, hu, hu3⟩ : ∃ u, (⟨#[48, 48, 48]⟩ : ByteArray).extract 0 zk = u ∧ u.size ≤ 3 := by
    refine ⟨_, rfl, ?_⟩
    rw [ByteArray.size_extract]
    have : (⟨#[48, 48, 48]⟩ : ByteArray).size = 3 := rfl
    omega
  refine ⟨Nat, fun i => [(38, .val (.int .i64 i)), (37, .val (.int .i64 (6 : Nat))), (36, .val (.slice (some ⟨g1, 0, none⟩) 6 6)), (10, .val (.string nm)), (2, .val (.int .u8 z)), (3, .val (.string s))],
    fun _ => [(1, ⟨g1, 22, ((nums6 N).map fun x : Nat => Value.int .u64 (x : Int)).map SV.val⟩)], fun _ => [(w, fun _ => False)], fun i => i ≤ 6, fun i => 6 - i, ?_, ?_⟩
  · intro w1 hA
    exact ⟨0, by omega, ⟨⟨_, rfl, rfl⟩, ⟨_, rfl, rfl⟩, ⟨_, rfl, rfl⟩, ⟨_, rfl, rfl⟩, ⟨_, rfl, rfl⟩, ⟨_, rfl, rfl⟩, trivial⟩, hA.sub ⟨rfl, trivial⟩⟩
  intro i hi
  refine ⟨fun h => ?_, fun h => ?_⟩
  · have hlt : i < 6 := by have := of_decide_eq_true h; omega
    obtain ⟨x, hx, hnx⟩ := nums6_at hN hlt
    obtain ⟨D, hD, hun⟩ := unsigned_e hx
    refine ⟨_, _, i, rfl, rfl, hlt, ?_⟩
    refine ⟨.int .u64 x, fun w' hA => ldk seat.tab rfl rfl (i := 1) rfl rfl hnx hA, ?_⟩
    refine ⟨_, [], [(w, fun _ => False)], [], .inr rfl, .inl trivial, fun _ h => h, (.take 0 (.take 1 (.take 2 (.alt 3 (.take 4 (.take 5 (.alt 6 (.take 7 (.take 8 (.take 9 (.take 10 (.take 11 (.take 12 (.take 13 (.take 14 (.take 15 (.alt 16 (.take 17 (.alt 18 (.take 19 (.take 20 (.take 21 (.take 22 (.take 23 (.take 24 (.take 27 (.alt 25 (.take 26 (.take 28 (.alt 29 (.take 30 (.take 31 (.take 32 (.take 33 (.take 34 (.take 35 (.alt 36 (.take 37 (.alt 38 (.take 39 (.take 40 .done)) .stop)) .stop))))))) .stop))) .stop)))))))) .stop)) .stop)))))))))) .stop))) .stop)))), by kernel_rfl, ?_⟩
    refine ⟨(by first | omega | (simp only [ByteArray.size_append]; omega)), ?_⟩
    intro w1 hA
    refine (hun w1).mono ?_
    rintro e w2 ⟨rfl, hb⟩
    refine ⟨.val _, _, _, rfl, hA.below' hb, List.Mem.head _, ?_⟩
    clear hA hb
    refine ⟨(by first | omega | (simp only [ByteArray.size_append]; omega)), ?_⟩
    refine ⟨(by first | omega | (simp only [ByteArray.size_append]; omega)), ?_⟩
    intro w1 hA
    refine (parses_c _ (by first | omega | (simp only [ByteArray.size_append]; omega)) w1 (fun w' hb => hlib w' ((hA.below' hb).bel (by simp)))).mono ?_
    rintro e w2 ⟨rfl, hb⟩
    refine ⟨.val _, _, _, rfl, hA.below' hb, List.Mem.head _, ?_⟩
    clear hA hb
    refine ⟨fun _ => ?_, fun h => Bool.noConfusion h⟩
    refine ⟨(by first | omega | (simp only [ByteArray.size_append]; omega)), ?_⟩
    refine ⟨by decide, (zk : Int), hzk, ?_⟩
    refine ⟨zk, rfl, by omega, by show zk ≤ 3; omega, u, hu, ?_⟩
    refine ⟨(by first | omega | (simp only [ByteArray.size_append]; omega)), ?_⟩
    intro w1 hA
    refine (hun w1).mono ?_
    rintro e w2 ⟨rfl, hb⟩
    refine ⟨.val _, _, _, rfl, hA.below' hb, List.Mem.head _, ?_⟩
    clear hA hb
    refine ⟨(by first | omega | (simp only [ByteArray.size_append]; omega)), ?_⟩
    intro w1 hA
    refine (parses_c _ (by first | omega | (simp only [ByteArray.size_append]; omega)) w1 (fun w' hb => hlib w' ((hA.below' hb).bel (by simp)))).mono ?_
    rintro e w2 ⟨rfl, hb⟩
    refine ⟨.val _, _, _, rfl, hA.below' hb, List.Mem.head _, ?_⟩
    clear hA hb
    refine ⟨fun _ => ?_, fun h => Bool.noConfusion h⟩
    refine ⟨(by first | omega | (simp only [ByteArray.size_append]; omega)), ?_⟩
    intro w1 hA
    refine (hun w1).mono ?_
    rintro e w2 ⟨rfl, hb⟩
    refine ⟨.val _, _, _, rfl, hA.below' hb, List.Mem.head _, ?_⟩
    clear hA hb
    refine ⟨(by first | omega | (simp only [ByteArray.size_append]; omega)), ?_⟩
    refine ⟨(by first | omega | (simp only [ByteArray.size_append]; omega)), ?_⟩
    intro w1 hA
    refine (parses_c _ (by first | omega | (simp only [ByteArray.size_append]; omega)) w1 (fun w' hb => hlib w' ((hA.below' hb).bel (by simp)))).mono ?_
    rintro e w2 ⟨rfl, hb⟩
    refine ⟨.val _, _, _, rfl, hA.below' hb, List.Mem.head _, ?_⟩
    clear hA hb
    refine ⟨fun _ => ?_, fun h => Bool.noConfusion h⟩
    refine ⟨(by first | omega | (simp only [ByteArray.size_append]; omega)), ?_⟩
    intro w1 hA
    refine (hun w1).mono ?_
    rintro e w2 ⟨rfl, hb⟩
    refine ⟨.val _, _, _, rfl, hA.below' hb, List.Mem.head _, ?_⟩
    clear hA hb
    refine ⟨(by first | omega | (simp only [ByteArray.size_append]; omega)), ?_⟩
    intro w1 hA
    refine (parses_c _ (by first | omega | (simp only [ByteArray.size_append]; omega)) w1 (fun w' hb => hlib w' ((hA.below' hb).bel (by simp)))).mono ?_
    rintro e w2 ⟨rfl, hb⟩
    refine ⟨.val _, _, _, rfl, hA.below' hb, List.Mem.head _, ?_⟩
    clear hA hb
    refine ⟨fun h => Bool.noConfusion h, fun _ => ?_⟩
    refine ⟨((i + 1 : Nat) : Int), wrap_in _ (by omega) (by omega), ?_⟩
    intro w' hA
    exact ⟨i + 1, by omega, by show 6 - (i + 1) < 6 - i; omega, ⟨⟨_, rfl, rfl⟩, ⟨_, rfl, rfl⟩, ⟨_, rfl, rfl⟩, ⟨_, rfl, rfl⟩, ⟨_, rfl, rfl⟩, ⟨_, rfl, rfl⟩, trivial⟩, hA.sub ⟨rfl, trivial⟩⟩
  · skip
    intro w1 hA
    refine (known_c w1 (fun w' hb => hlib w' ((hA.below' hb).bel (by simp)))).mono ?_
    rintro e w2 ⟨rfl, hb⟩
    refine ⟨.val _, _, _, rfl, hA.below' hb, ?_⟩
    clear hA hb
    intro w' hA
    exact ⟨rfl, hA.bel (by simp)⟩
end Go.Proofs.YtllepnadffndnaaDoor
