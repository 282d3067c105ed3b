/- long; ConfigValidates and ConfigFormats: the walks. -/
import Derived.Test.YtllepnadffndnaaDoorLawB
import Derived.Test.YtllepnadffndnaaDoorCfgE
namespace Go.Proofs.YtllepnadffndnaaDoor
open Go.RowKit

theorem Sl.grow {α : Type} {r : Rp α} {w w' : World} {a : Option Addr} {xs : List α} (h : Sl r w (Lt w.heap.size) a xs) (hb : Below w.heap.size w w') : Sl r w' (Lt w'.heap.size) a xs :=
  h.keep (fun _ hb' => Nat.lt_of_lt_of_le hb' hb.size) (fun b _ h => hb.block b h)
/-- What a row of slices lies as. -/
def slV (x : Option Addr × Nat × Nat) : Value := .slice x.1 x.2.1 x.2.2
def sumN : List (Option Addr × Nat × Nat) → Nat
  | [] => 0
  | x :: l => x.2.1 + sumN l
theorem sumN_take {l : List (Option Addr × Nat × Nat)} {i : Nat} (h : i < l.length) : sumN (l.take (i + 1)) = sumN (l.take i) + l[i].2.1 := by
  induction l generalizing i with
  | nil => simp at h
  | cons x l ih =>
    cases i with
    | zero => simp [sumN]
    | succ i =>
      have := ih (i := i) (by simpa using h)
      simp only [List.take_succ_cons, sumN, List.getElem_cons_succ]
      omega
set_option maxHeartbeats 1000000 in
theorem long_c (g : Nat) (ls : List (Option Addr × Nat × Nat)) (cp : Nat) (hl : ls.length ≤ 4) (hn : ∀ x ∈ ls, x.2.1 ≤ 140737488355328) (w : World) (hb : Blk w g 25 ((ls.map slV).map SV.val |>.map SV.den).toArray) :
    Calls Tryd.prog 10 #[.slice (some ⟨g, 0, none⟩) ls.length cp] w fun e w' => e = .returned (.bool (decide ((160 : Int) < (sumN ls : Nat)))) ∧ Below w.heap.size w w' := by
  have hrg := hb.range
  have hsum : ∀ i, i ≤ ls.length → sumN (ls.take i) ≤ i * 140737488355328 := by
    intro i hi
    induction i with
    | zero => simp [sumN]
    | succ i ih =>
      rw [sumN_take (by omega)]
      have := ih (by omega)
      have := hn ls[i] (List.getElem_mem _)
      omega
  refine calls_of_vc seat Tryd.func10 rfl rfl (Nat.le_of_ble_eq_true rfl) (N := 19) (args := [.val (.slice (some ⟨g, 0, none⟩) ls.length cp)]) (Nat.le_of_ble_eq_true rfl) rfl (A.start w) ?_
  refine ⟨Nat, fun i => [(8, .val (.int .i64 i)), (7, .val (.int .i64 ls.length)), (6, .val (.slice (some ⟨g, 0, none⟩) ls.length cp)), (3, .val (.int .i64 (sumN (ls.take i))))], fun _ => [], fun _ => [(w, fun _ => False)], fun i => i ≤ ls.length, fun i => ls.length - i, ?_, ?_⟩
  · intro w1 hA
    exact ⟨0, by omega, ⟨⟨_, rfl, rfl⟩, ⟨_, rfl, rfl⟩, ⟨_, rfl, rfl⟩, ⟨_, rfl, rfl⟩, trivial⟩, hA⟩
  intro i hi
  have hs := hsum i hi
  refine ⟨fun h => ?_, fun h => ?_⟩
  · have hlt : i < ls.length := by have := of_decide_eq_true h; omega
    have hs2 := hsum (i + 1) (by omega)
    have ht := sumN_take hlt
    have hat : w.rangeAt g (0 + i * 1) [slV ls[i]] := fun j v hj => by
      match j, hj with
      | 0, hj =>
        injection hj with hj
        subst hj
        have := hrg i (slV ls[i]) (by simp [hlt]; rfl)
        simpa using this
    generalize ls[i] = x at *
    obtain ⟨a, n, c⟩ := x
    have ht : sumN (ls.take (i + 1)) = sumN (ls.take i) + n := ht
    refine ⟨g, 0, i, rfl, rfl, hlt, ?_⟩
    refine ⟨.slice a n c, fun w' hA => ldS seat.tab rfl rfl hat (j := 0) rfl (by omega) (hA.since (w, _) (List.Mem.head _)) (fun h => h), ?_⟩
    refine ⟨((sumN (ls.take (i + 1)) : Nat) : Int), by rw [ht]; exact wrap_in _ (by omega) (by omega), ?_⟩
    refine ⟨((i + 1 : Nat) : Int), wrap_in _ (by omega) (by omega), ?_⟩
    intro w' hA
    exact ⟨i + 1, by omega, by show ls.length - (i + 1) < ls.length - i; omega, ⟨⟨_, rfl, rfl⟩, ⟨_, rfl, rfl⟩, ⟨_, rfl, rfl⟩, ⟨_, rfl, rfl⟩, trivial⟩, hA⟩
  · have e : i = ls.length := by have := of_decide_eq_false h; omega
    subst e
    intro w' hA
    refine ⟨?_, hA.bel (by simp)⟩
    rw [List.take_length]; rfl

def l20 (n : Int) : List Int := [n, -2, -1, 0, 1, 2, 512, 513, 1048576, 1048577, 4096, 4097, 1024, 1025, 1073741824, 1073741825, 1125899906842624, 1125899906842625, 8, 9]
theorem l20_at {n : Int} (hn : In64 n) {i : Nat} (h : i < 20) : ∃ x, In64 x ∧ nth (((l20 n).map (Value.int .i64)).map SV.val) (0 + i * 1) = some (.val (.int .i64 x)) := by
  have hs : ∀ x ∈ l20 n, In64 x := by
    intro x hx
    simp only [l20, List.mem_cons, List.mem_nil_iff, or_false] at hx
    unfold In64 at hn ⊢
    omega
  refine ⟨(l20 n)[i], hs _ (List.getElem_mem h), ?_⟩
  rw [nth_eq, Nat.zero_add, Nat.mul_one, List.getElem?_map, List.getElem?_map, List.getElem?_eq_getElem h]
  rfl
set_option maxRecDepth 100000 in
set_option maxHeartbeats 2000000 in
theorem configValidates_core (raw : MConfig) (hraw : CfgOK raw) (a : Option Addr) (cap : Nat) (xs : List Int) (fd : Int) (_ : (Lit.int .i64 fd).wf = true) (n : Int) (hn : (Lit.int .i64 n).wf = true) (w : World) (hsl : Sl (Rp.int .i64) w (Lt w.heap.size) a xs) (hlib : ∀ w', Below w.heap.size w w' → LibOK w') :
    Calls Tryd.prog 3 #[.agg ⟨cfgV raw⟩, .slice a xs.length cap, .int .i64 fd, .int .i64 n] w fun e w' => e = .returned (.bool true) ∧ Below w.heap.size w w' := by
  have hn : In64 n := by
    simp [Lit.wf, IntKind.min, IntKind.max, IntKind.bits, IntKind.signed] at hn
    unfold In64
    omega
  have hvr := validate_c raw
  have hrr := rvalidate_c raw hraw
  generalize validC raw = vraw at hvr hrr
  obtain ⟨c0, c1, c2, c3, c4, c5, c6, c7, c8, c9, c10, c11⟩ := raw
  refine calls_of_vc seat Tryd.func3 rfl rfl (Nat.le_of_ble_eq_true rfl) (N := 46) (args := [.val (.agg ⟨cfgV ⟨c0, c1, c2, c3, c4, c5, c6, c7, c8, c9, c10, c11⟩⟩), .val (.slice a xs.length cap), .val (.int .i64 fd), .val (.int .i64 n)]) (Nat.le_of_ble_eq_true rfl) rfl (A.start w) ?_
  intro g0 _
  refine ⟨⟨rfl, trivial⟩, ?_⟩
  intro g1 _
  intro w1 hA
  refine (long_c g1 [(a, xs.length, cap)] 1 (by simp) (by intro x hx; simp at hx; subst hx; exact hsl.1) w1 (hA.blk 1 _ rfl)).mono ?_
  rintro e w2 ⟨rfl, hb⟩
  refine ⟨.val _, _, _, rfl, hA.below' hb, ?_⟩
  clear hA hb
  refine ⟨fun _ => ?_, fun _ => ?_⟩
  · skip
    intro w1 hA
    refine (known_c w1 (fun w' hb => hlib w' ((hA.below' hb).bel (by simp)))).mono ?_
    rintro e w2 ⟨rfl, hb⟩
    refine ⟨.val _, _, _, rfl, hA.below' hb, ?_⟩
    clear hA hb
    intro w' hA
    exact ⟨rfl, hA.bel (by simp)⟩
  refine ⟨⟨rfl, rfl, rfl, rfl, rfl, rfl, rfl, rfl, rfl, rfl, rfl, rfl, rfl, rfl, rfl, rfl, rfl, rfl, rfl, rfl, trivial⟩, ?_⟩
  intro g2 _
  refine ⟨Nat, fun i => [(19, .val (.int .i64 i)), (18, .val (.int .i64 (20 : Nat))), (17, .val (.slice (some ⟨g2, 0, none⟩) 20 20)), (1, .val (.slice a xs.length cap)), (2, .val (.int .i64 fd)), (3, .val (.int .i64 n)), (4, .ptr 0 g0 0)],
    fun _ => [(2, ⟨g2, 3, ((l20 n).map (Value.int .i64)).map SV.val⟩), (0, ⟨g0, 24, cfgS ⟨c0, c1, c2, c3, c4, c5, c6, c7, c8, c9, c10, c11⟩⟩)], fun _ => [(w, fun _ => False)], fun i => i ≤ 20, fun i => 20 - i, ?_, ?_⟩
  · intro w1 hA
    exact ⟨0, by omega, ⟨⟨_, rfl, rfl⟩, ⟨_, rfl, rfl⟩, ⟨_, rfl, rfl⟩, ⟨_, rfl, rfl⟩, ⟨_, rfl, rfl⟩, ⟨_, rfl, rfl⟩, ⟨_, rfl, rfl⟩, trivial⟩, hA.sub ⟨rfl, rfl, trivial⟩⟩
  intro i hi
  refine ⟨fun h => ?_, fun h => ?_⟩
  · have hlt : i < 20 := by have := of_decide_eq_true h; omega
    obtain ⟨x, hx, hnx⟩ := l20_at hn hlt
    refine ⟨_, _, i, rfl, rfl, hlt, ?_⟩
    refine ⟨.int .i64 x, fun w' hA => ldk seat.tab rfl rfl (i := 2) rfl rfl hnx hA, ?_⟩
    intro w1 hA
    refine (changed_c a cap xs fd x hx w1 (hsl.grow (hA.bel (by simp)))).mono ?_
    rintro e w2 ⟨⟨d0, d1, d2, d3, d4, d5, d6, d7, d8, d9, d10, d11⟩, hok, rfl, hb⟩
    refine ⟨.val _, _, _, rfl, hA.below' hb, ?_⟩
    clear hA hb
    intro g3 _
    refine ⟨rfl, rfl, rfl, rfl, ?_⟩
    have hv := validate_c ⟨d0, d1, d2, d3, d4, d5, d6, d7, d8, d9, d10, d11⟩
    have hr := rvalidate_c ⟨d0, d1, d2, d3, d4, d5, d6, d7, d8, d9, d10, d11⟩ hok
    generalize validC ⟨d0, d1, d2, d3, d4, d5, d6, d7, d8, d9, d10, d11⟩ = vx at hv hr
    refine ⟨_, [(3, ⟨g3, 24, cfgS ⟨d0, d1, d2, d3, d4, d5, d6, d7, d8, d9, d10, d11⟩⟩)], [], [], .inr rfl, .inl ⟨rfl, trivial⟩, fun p hp => (by simp at hp), (.take 0 (.take 2 (.alt 1 (.alt 3 (.take 4 .done) .stop) .stop))), by kernel_rfl, ?_⟩
    refine ⟨rfl, rfl, ?_⟩
    refine ⟨rfl, rfl, ?_⟩
    intro w1 hA
    refine (hv w1).mono ?_
    rintro e w2 ⟨rfl, hb⟩
    refine ⟨.val _, _, _, rfl, hA.below' hb, rfl, ?_⟩
    clear hA hb
    intro w1 hA
    refine (hr w1).mono ?_
    rintro e w2 ⟨rfl, hb⟩
    refine ⟨.val _, _, _, rfl, hA.below' hb, rfl, ?_⟩
    clear hA hb
    refine ⟨fun h => absurd h (by simp), fun _ => ?_⟩
    refine ⟨((i + 1 : Nat) : Int), wrap_in _ (by omega) (by omega), ?_⟩
    intro w' hA
    exact ⟨i + 1, by omega, by show 20 - (i + 1) < 20 - i; omega, ⟨⟨_, rfl, rfl⟩, ⟨_, rfl, rfl⟩, ⟨_, rfl, rfl⟩, ⟨_, rfl, rfl⟩, ⟨_, rfl, rfl⟩, ⟨_, rfl, rfl⟩, ⟨_, rfl, rfl⟩, trivial⟩, hA.sub ⟨rfl, rfl, trivial⟩⟩
  · refine ⟨_, [(0, ⟨g0, 24, cfgS ⟨c0, c1, c2, c3, c4, c5, c6, c7, c8, c9, c10, c11⟩⟩)], [(w, fun _ => False)], [], .inr rfl, .inl ⟨rfl, trivial⟩, fun _ h => h, (.take 0 (.take 2 (.alt 1 (.alt 3 (.take 4 (.take 5 (.alt 6 (.alt 7 (.alt 8 (.take 9 (.take 10 (.alt 11 (.take 12 (.take 13 .done)) .stop))) .stop) .stop) .stop))) .stop) .stop))), by kernel_rfl, ?_⟩
    refine ⟨rfl, rfl, ?_⟩
    refine ⟨rfl, rfl, ?_⟩
    intro w1 hA
    refine (hvr w1).mono ?_
    rintro e w2 ⟨rfl, hb⟩
    refine ⟨.val _, _, _, rfl, hA.below' hb, rfl, List.Mem.head _, ?_⟩
    clear hA hb
    intro w1 hA
    refine (hrr w1).mono ?_
    rintro e w2 ⟨rfl, hb⟩
    refine ⟨.val _, _, _, rfl, hA.below' hb, rfl, List.Mem.head _, ?_⟩
    clear hA hb
    refine ⟨fun _ => ?_, fun h => absurd ((beq_self_eq_true vraw).symm.trans h) (by decide)⟩
    intro w1 hA
    refine (default_c w1).mono ?_
    rintro e w2 ⟨rfl, hb⟩
    refine ⟨.val _, _, _, rfl, hA.below' hb, rfl, List.Mem.head _, ?_⟩
    clear hA hb
    intro w1 hA
    refine (rdefault_c w1).mono ?_
    rintro e w2 ⟨rfl, hb⟩
    refine ⟨.val _, _, _, rfl, hA.below' hb, rfl, List.Mem.head _, ?_⟩
    clear hA hb
    refine ⟨.bool true, fun w' _ => cfg_same defC _ _ w', rfl, List.Mem.head _, ?_⟩
    refine ⟨fun _ => ?_, fun h => Bool.noConfusion h⟩
    intro w1 hA
    refine (known_c w1 (fun w' hb => hlib w' ((hA.below' hb).bel (by simp)))).mono ?_
    rintro e w2 ⟨rfl, hb⟩
    refine ⟨.val _, _, _, rfl, hA.below' hb, rfl, List.Mem.head _, ?_⟩
    clear hA hb
    intro w' hA
    exact ⟨rfl, hA.bel (by simp)⟩
end Go.Proofs.YtllepnadffndnaaDoor
