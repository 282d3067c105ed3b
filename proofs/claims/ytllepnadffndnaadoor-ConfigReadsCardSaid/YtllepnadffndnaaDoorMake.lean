/- The numbers from which the statements make their inputs. -/
import Derived.Test.YtllepnadffndnaaDoorSeat
import Derived.Test.YtllepnadffndnaaDoorSlice
namespace Go.Proofs.YtllepnadffndnaaDoor
open Go.RowKit

theorem emod_of (x n : Int) (hn : 0 < n) : (if x.tmod n < 0 then x.tmod n + n else x.tmod n) = x % n := by
  rw [Int.tmod_eq_emod]
  have h1 := Int.emod_nonneg x (show n ≠ 0 by omega)
  have h2 := Int.emod_lt_of_pos x hn
  have e : (n.natAbs : Int) = n := by omega
  split <;> split at * <;> omega

theorem place_c (x n : Int) (w : World) (hn : 0 < n) (hn2 : n < 9223372036854775808) :
    Calls Tryd.prog 23 #[.int .i64 x, .int .i64 n] w fun e w' => e = .returned (.int .i64 (x % n)) ∧ Below w.heap.size w w' := by
  have he := emod_of x n hn
  have hlt := Int.tmod_lt_of_pos x hn
  refine calls_of_vc seat Tryd.func23 rfl rfl (Nat.le_of_ble_eq_true rfl) (N := 14) (args := [.val (.int .i64 x), .val (.int .i64 n)]) (Nat.le_of_ble_eq_true rfl) rfl (A.start w) ?_
  refine ⟨by omega, _, rfl, ?_⟩
  refine ⟨fun h => ?_, fun h => ?_⟩
  · refine ⟨_, rfl, ?_⟩
    intro w' hA
    refine ⟨?_, hA.bel (by simp)⟩
    have h0 : x.tmod n < 0 := by simpa using h
    rw [if_pos h0] at he
    show Ending.returned (.int .i64 _) = _
    have := Int.emod_nonneg x (show n ≠ 0 by omega)
    have := Int.emod_lt_of_pos x hn
    rw [he, wrap_in _ (by omega) (by omega)]
  · intro w' hA
    refine ⟨?_, hA.bel (by simp)⟩
    have h0 : ¬ x.tmod n < 0 := by simpa using h
    rw [if_neg h0] at he
    show Ending.returned (.int .i64 _) = _
    rw [he]


/-- What the N-th number is, placed below n. -/
def nextV (L : List Int) (N : Nat) (n : Int) : Int := (L[N]?.getD 0) % n
def numsV (a : Option Addr) (L : List Int) (c N : Nat) : List SV := [.val (.slice a L.length c), .val (.int .i64 N)]
theorem next_c (g : Nat) (a : Option Addr) (c : Nat) (L : List Int) (N : Nat) (n : Int) (w : World) {S : Fp} (hS : ∀ b, S b → b ≠ g) (hn : 0 < n) (hn2 : n < 9223372036854775808) (hN : N < 4611686018427387904)
    (hb : Blk w g 84 ((numsV a L c N).map SV.den).toArray) (hL : Sl (Rp.int .i64) w S a L) :
    Calls Tryd.prog 44 #[.pointer (some ⟨g, 0, none⟩), .int .i64 n] w fun e w' => e = .returned (.int .i64 (nextV L N n)) ∧ Blk w' g 84 ((numsV a L c (N + 1)).map SV.den).toArray ∧ Since (fun b => b = g) w w' := by
  have l0 := hL.1
  have hNN : IntKind.i64.wrap ((N : Int) + 1) = ((N + 1 : Nat) : Int) := by rw [wrap_in _ (by omega) (by omega)]; rfl
  refine calls_of_vc seat Tryd.func44 rfl rfl (Nat.le_of_ble_eq_true rfl) (N := 36) (args := [.ptr 0 g 0, .val (.int .i64 n)]) (Nat.le_of_ble_eq_true rfl) rfl (A.start1 hb) ?_
  refine ⟨[(0, .ptr 0 g 0), (1, .val (.int .i64 n)), (5, .val (.int .i64 0))], [(0, ⟨g, 84, numsV a L c N⟩)], [], [], .inl ⟨⟨_, rfl, rfl⟩, ⟨_, rfl, rfl⟩, ⟨_, rfl, rfl⟩, trivial⟩, .inl ⟨rfl, trivial⟩, nofun, (.take 0 (.take 1 (.take 2 (.take 3 (.take 4 (.take 5 (.take 6 (.take 7 (.take 8 (.take 9 .done)))))))))), by kernel_rfl, ?_⟩
  refine ⟨_, rfl, rfl, _, rfl, rfl, ?_⟩
  refine ⟨fun h => ?_, fun h => ?_⟩
  · have hlt : N < L.length := by have : (N : Int) < L.length := by simpa using h
                                  omega
    obtain ⟨b, o, cs, rfl, hSb, hr, hat, _, _⟩ := hL.get 1 rfl hlt
    have hc : cs = [.int .i64 L[N]] := hr.1
    subst hc
    refine ⟨[(0, .ptr 0 g 0), (1, .val (.int .i64 n)), (5, .val (.int .i64 0))], [(0, ⟨g, 84, numsV (some ⟨b, o, none⟩) L c N⟩)], [(w, fun b => b = g)], [], .inl ⟨⟨_, rfl, rfl⟩, ⟨_, rfl, rfl⟩, ⟨_, rfl, rfl⟩, trivial⟩, .inl ⟨rfl, trivial⟩, fun _ h => h, (.take 0 (.take 1 (.take 2 (.take 3 (.take 4 (.take 5 (.take 6 (.take 7 (.take 8 (.take 9 (.take 10 .done))))))))))), by kernel_rfl, ?_⟩
    refine ⟨_, rfl, rfl, _, rfl, rfl, b, o, N, rfl, rfl, hlt, ?_⟩
    refine ⟨.int .i64 L[N], fun w' hA => ?_, ?_⟩
    · exact ldS seat.tab rfl rfl hat (j := 0) rfl (by omega) (hA.since (w, _) (List.Mem.head _)) (hS b hSb)
    refine ⟨_, rfl, rfl, _, hNN, _, rfl, rfl, rfl, ?_⟩
    intro w1 hA
    refine (place_c L[N] n w1 hn hn2).mono ?_
    rintro e w2 ⟨rfl, hb⟩
    refine ⟨.val _, _, _, rfl, hA.below' hb, ?_⟩
    intro w' hA
    refine ⟨?_, hA.blk 0 _ rfl, hA.since (w, _) (List.Mem.head _)⟩
    simp [nextV, hlt, tup, SV.den]
  · have hge : L[N]? = none := by
      have : ¬ (N : Int) < L.length := by simpa using h
      exact List.getElem?_eq_none (by omega)
    refine ⟨_, rfl, rfl, _, hNN, _, rfl, rfl, rfl, ?_⟩
    intro w1 hA
    refine (place_c 0 n w1 hn hn2).mono ?_
    rintro e w2 ⟨rfl, hb⟩
    refine ⟨.val _, _, _, rfl, hA.below' hb, ?_⟩
    intro w' hA
    refine ⟨?_, hA.blk 0 _ rfl, hA.since (w, _) (List.Mem.head _)⟩
    simp [nextV, hge, tup, SV.den]

theorem from_c (a : Option Addr) (c : Nat) (L : List Int) (w : World) :
    Calls Tryd.prog 22 #[.slice a L.length c] w fun e w' => ∃ g, e = .returned (.pointer (some ⟨g, 0, none⟩)) ∧ w.heap.size ≤ g ∧ Blk w' g 84 ((numsV a L c 0).map SV.den).toArray ∧ Below w.heap.size w w' := by
  refine calls_of_vc seat Tryd.func22 rfl rfl (Nat.le_of_ble_eq_true rfl) (N := 6) (args := [.val (.slice a L.length c)]) (Nat.le_of_ble_eq_true rfl) rfl (A.start w) ?_
  refine ⟨⟨rfl, trivial⟩, ?_⟩
  intro g _
  intro w' hA
  exact ⟨g, rfl, hA.at_start (p := (w, fun _ => False)) (by simp) 0 rfl (fun h => h), hA.blk 0 _ rfl, hA.bel (by simp)⟩

theorem nextV_range (L : List Int) (N : Nat) (n : Int) (hn : 0 < n) : 0 ≤ nextV L N n ∧ nextV L N n < n := ⟨Int.emod_nonneg _ (by omega), Int.emod_lt_of_pos _ hn⟩
theorem next_e (g : Nat) (a : Option Addr) (c : Nat) (L : List Int) (N : Nat) (n : Int) (w : World) {S : Fp} (hS : ∀ b, S b → b ≠ g) (hn : 0 < n) (hn2 : n < 9223372036854775808) (hN : N < 4611686018427387904)
    (hb : Blk w g 84 ((numsV a L c N).map SV.den).toArray) (hL : Sl (Rp.int .i64) w S a L) :
    Calls Tryd.prog 44 #[.pointer (some ⟨g, 0, none⟩), .int .i64 n] w fun e w' => ∃ x : Int, (0 ≤ x ∧ x < n) ∧ e = .returned (.int .i64 x) ∧ Blk w' g 84 ((numsV a L c (N + 1)).map SV.den).toArray ∧ Since (fun b => b = g) w w' :=
  (next_c g a c L N n w hS hn hn2 hN hb hL).mono fun _ _ h => ⟨_, nextV_range L N n hn, h⟩
/-- The lengths of the first k lists, together. -/
def lensTo (ls : List (List Int)) : Nat → Int
  | 0 => 0
  | k + 1 => wrap64 (lensTo ls k + ((ls[k]?.map List.length).getD 0 : Nat))
end Go.Proofs.YtllepnadffndnaaDoor
