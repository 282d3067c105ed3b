/- The small functions of seat D: Place, Balanced, Tally. -/
import Derived.Test.YtepdhipcepmpiaaDoorSeat
import Derived.Test.YtepdhipcepmpiaaDoorReportSpec
namespace Go.Proofs.YtepdhipcepmpiaaDoor
open Go.RowKit

theorem wrap_in (n : Int) (h1 : -9223372036854775808 ≤ n) (h2 : n < 9223372036854775808) : IntKind.i64.wrap n = n := by
  rw [IntKind.wrap_i64]; omega
theorem emod_of (x n : Int) (hn : 0 < n) : (if x.tmod n < 0 then x.tmod n + n else x.tmod n) = x % n := by
  rw [Int.tmod_eq_emod]
  have h1 := Int.emod_nonneg x (show n ≠ 0 by omega)
  have h2 := Int.emod_lt_of_pos x hn
  have e : (n.natAbs : Int) = n := by omega
  split <;> split at * <;> omega

theorem place_c (x n : Int) (w : World) (hn : 0 < n) (hn2 : n < 9223372036854775808) :
    Calls Tryd.prog 9 #[.int .i64 x, .int .i64 n] w fun e w' => e = .returned (.int .i64 (x % n)) ∧ Below w.heap.size w w' := by
  have he := emod_of x n hn
  have hlt := Int.tmod_lt_of_pos x hn
  refine calls_of_vc seat Tryd.func9 rfl rfl (Nat.le_of_ble_eq_true rfl) (N := 14) (args := [.val (.int .i64 x), .val (.int .i64 n)]) (Nat.le_of_ble_eq_true rfl) rfl (A.start w) ?_
  refine ⟨by omega, _, rfl, ?_⟩
  refine ⟨fun h => ?_, fun h => ?_⟩
  · refine ⟨_, rfl, ?_⟩
    intro w' hA
    refine ⟨?_, hA.bel (by simp)⟩
    have h0 : x.tmod n < 0 := by simpa using h
    rw [if_pos h0] at he
    show Ending.returned (.int .i64 _) = _
    have := Int.emod_nonneg x (show n ≠ 0 by omega)
    have := Int.emod_lt_of_pos x hn
    rw [he, wrap_in _ (by omega) (by omega)]
  · intro w' hA
    refine ⟨?_, hA.bel (by simp)⟩
    have h0 : ¬ x.tmod n < 0 := by simpa using h
    rw [if_neg h0] at he
    show Ending.returned (.int .i64 _) = _
    rw [he]

theorem tally_round_reply {w : World} {S : Fp} {cs : List Value} {r : MReply} (h : Rp.reply.rel w S cs r) : ∃ A1 A2 A3 A4 A5 c1 c2 c3 c4 c5, cs[0]? = some (.int .i64 r.err) ∧ cs[34]? = some (.slice A1 r.evicted.length c1) ∧ cs[35]? = some (.slice A2 r.expired.length c2) ∧ cs[36]? = some (.slice A3 r.invalid.length c3) ∧ cs[37]? = some (.slice A4 r.done.length c4) ∧ cs[38]? = some (.slice A5 r.flushed.length c5) := by
  obtain ⟨h0, _, _, h3, h4, h5, h6, h7, _⟩ := Rp.reply_fields h
  obtain ⟨A1, c1, e1, _⟩ := cellL h3
  obtain ⟨A2, c2, e2, _⟩ := cellL h4
  obtain ⟨A3, c3, e3, _⟩ := cellL h5
  obtain ⟨A4, c4, e4, _⟩ := cellL h6
  obtain ⟨A5, c5, e5, _⟩ := cellL h7
  exact ⟨A1, A2, A3, A4, A5, c1, c2, c3, c4, c5, (cellI h0).1, e1, e2, e3, e4, e5⟩
def cntS : MCounts → List SV
  | ⟨a, b, c, d, e, f, g, h, i⟩ => [.val (.int .i64 a), .val (.int .i64 b), .val (.int .i64 c), .val (.int .i64 d), .val (.int .i64 e), .val (.int .i64 f), .val (.int .i64 g), .val (.int .i64 h), .val (.int .i64 i)]

theorem tally_c (A1 A2 : Option Addr) (c1 c2 : Nat) (p : Int) (os : List MOp) (rs : List MReply) (w : World) (S : Fp) (h1 : Sl Rp.op w S A1 os) (h2 : Sl Rp.reply w S A2 rs) :
    Calls Tryd.prog 7 #[.slice A1 os.length c1, .slice A2 rs.length c2, .int .i64 p] w fun e w' => e = .returned (.agg (cntV (tally os rs p))) ∧ Below w.heap.size w w' := by
  refine calls_of_vc seat Tryd.func7 rfl rfl (Nat.le_of_ble_eq_true rfl) (N := 90) (args := [.val (.slice A1 os.length c1), .val (.slice A2 rs.length c2), .val (.int .i64 p)]) (Nat.le_of_ble_eq_true rfl) rfl (A.start w) ?_
  intro g0 _
  refine ⟨⟨rfl, trivial⟩, ?_⟩
  intro g1 _
  refine ⟨rfl, rfl, rfl, rfl, ?_⟩
  refine ⟨_, rfl, ?_⟩
  refine ⟨Nat × MCounts, fun x => [(17, .val (.int .i64 x.1)), (16, .val (.int .i64 (if (rs.length : Int) < os.length then (rs.length : Int) else os.length))), (7, .ptr 1 g1 0), (6, .ptr 0 g0 0), (0, .val (.slice A1 os.length c1)), (1, .val (.slice A2 rs.length c2))],
    fun x => [(1, ⟨g1, 29, cntS x.2⟩), (0, ⟨g0, 29, cntS ⟨0, 0, 0, 0, 0, 0, 0, 0, 0⟩⟩)], fun _ => [(w, fun _ => False)], fun x => x.1 ≤ min os.length rs.length ∧ x.2 = tallyTo os rs p x.1, fun x => min os.length rs.length - x.1, ?_, ?_⟩
  · intro w1 hA
    exact ⟨(0, zeroCounts p), ⟨by omega, rfl⟩, ⟨⟨_, rfl, rfl⟩, ⟨_, rfl, rfl⟩, ⟨_, rfl, rfl⟩, ⟨_, rfl, rfl⟩, ⟨_, rfl, rfl⟩, ⟨_, rfl, rfl⟩, trivial⟩, hA.sub ⟨rfl, rfl, trivial⟩⟩
  rintro ⟨k, ⟨d0, d1, d2, d3, d4, d5, d6, d7, d8⟩⟩ ⟨hk, hc⟩
  refine ⟨fun h => ?_, fun h => ?_⟩
  · have hkn : (k : Int) < (if (rs.length : Int) < os.length then (rs.length : Int) else os.length) := by simpa using h
    have hk1 : k < os.length := by split at hkn <;> omega
    have hk2 : k < rs.length := by split at hkn <;> omega
    obtain ⟨b1, o1, cs1, rfl, _, hr1, hat1, _, _⟩ := h1.get 5 rfl hk1
    obtain ⟨b2, o2, cs2, rfl, _, hr2, hat2, hlen, hone⟩ := h2.get 73 rfl hk2
    obtain ⟨B1, B2, B3, B4, B5, e1, e2, e3, e4, e5, q0, q1, q2, q3, q4, q5⟩ := tally_round_reply hr2
    have hop := (cellI (Rp.op_fields hr1).1).1
    refine ⟨b2, o2, k, rfl, rfl, hk2, ?_⟩
    refine ⟨_, fun w' hA => ldn seat.tab rfl rfl hlen hat2 (hA.bel (by simp)), ?_⟩
    intro g2 _
    refine ⟨hlen, rfl, rfl, List.all_eq_true.2 hone, ?_⟩
    refine ⟨b1, o1, k, rfl, rfl, hk1, ?_⟩
    refine ⟨_, fun w' hA => ld1 seat.tab rfl rfl hat1 hop (by omega) (hA.bel (by simp)), ?_⟩
    have fin : tallyTo os rs p (k + 1) = tallyStep ⟨d0, d1, d2, d3, d4, d5, d6, d7, d8⟩ os[k].kind rs[k] := by
      have hc : _ = tallyTo os rs p k := hc
      have e := tallyTo_succ (os := os) (rs := rs) (p := p) (List.getElem?_eq_getElem hk1) (List.getElem?_eq_getElem hk2)
      rw [← hc] at e
      exact e
    have hd8 : d8 = p := by
      have := tallyTo_pending os rs p k
      rw [← show _ = tallyTo os rs p k from hc] at this
      exact this
    have hkk : IntKind.i64.wrap ((k : Int) + 1) = ((k + 1 : Nat) : Int) := by
      have := h1.1
      rw [wrap_in _ (by omega) (by omega)]; rfl
    refine ⟨fun t1 => ?_, fun t1 => ?_⟩
    · refine ⟨b1, o1, k, rfl, rfl, hk1, ?_⟩
      refine ⟨_, fun w' hA => ld1 seat.tab rfl rfl hat1 hop (by omega) (hA.bel (by simp)), ?_⟩
      refine ⟨fun t2 => ?yes, fun t2 => ?no⟩
      case' yes =>
        refine ⟨_, rfl, rfl, _, rfl, _, rfl, rfl, rfl, ?_⟩
        refine ⟨_, nth_val q0, rfl, ?_⟩
        refine ⟨fun t3 => ?_, fun t3 => ?_⟩
        all_goals refine ⟨_, rfl, rfl, _, rfl, _, rfl, rfl, rfl, ?_⟩
      all_goals
        refine ⟨_, rfl, rfl, _, nth_val q4, rfl, _, rfl, _, rfl, rfl, rfl, ?_⟩
        refine ⟨_, rfl, rfl, _, nth_val q1, rfl, _, rfl, _, rfl, rfl, rfl, ?_⟩
        refine ⟨_, rfl, rfl, _, nth_val q2, rfl, _, rfl, _, rfl, rfl, rfl, ?_⟩
        refine ⟨_, rfl, rfl, _, nth_val q3, rfl, _, rfl, _, rfl, rfl, rfl, ?_⟩
        refine ⟨_, rfl, rfl, _, nth_val q5, rfl, _, rfl, _, rfl, rfl, rfl, ?_⟩
        refine ⟨_, hkk, ?_⟩
        intro w' hA
        refine ⟨(k + 1, ⟨_, _, _, _, _, _, _, _, _⟩), ⟨?_, ?_⟩, ?_, ⟨⟨_, rfl, rfl⟩, ⟨_, rfl, rfl⟩, ⟨_, rfl, rfl⟩, ⟨_, rfl, rfl⟩, ⟨_, rfl, rfl⟩, ⟨_, rfl, rfl⟩, trivial⟩, hA.sub ⟨rfl, rfl, trivial⟩⟩
        · show k + 1 ≤ _; omega
        · clear hA
          refine Eq.trans ?_ fin.symm
          simp at t1 t2
          try simp at t3
          simp [tallyStep, wrap64, IntKind.wrap_i64, *]
        · show min _ _ - (k + 1) < min _ _ - k; omega
    · refine ⟨fun t2 => ?_, nofun⟩
      refine ⟨_, rfl, rfl, _, rfl, _, rfl, rfl, rfl, ?_⟩
      refine ⟨_, nth_val q0, rfl, ?_⟩
      refine ⟨fun t3 => ?_, fun t3 => ?_⟩
      all_goals
        refine ⟨_, rfl, rfl, _, rfl, _, rfl, rfl, rfl, ?_⟩
        refine ⟨_, rfl, rfl, _, nth_val q4, rfl, _, rfl, _, rfl, rfl, rfl, ?_⟩
        refine ⟨_, rfl, rfl, _, nth_val q1, rfl, _, rfl, _, rfl, rfl, rfl, ?_⟩
        refine ⟨_, rfl, rfl, _, nth_val q2, rfl, _, rfl, _, rfl, rfl, rfl, ?_⟩
        refine ⟨_, rfl, rfl, _, nth_val q3, rfl, _, rfl, _, rfl, rfl, rfl, ?_⟩
        refine ⟨_, rfl, rfl, _, nth_val q5, rfl, _, rfl, _, rfl, rfl, rfl, ?_⟩
        refine ⟨_, hkk, ?_⟩
        intro w' hA
        refine ⟨(k + 1, ⟨_, _, _, _, _, _, _, _, _⟩), ⟨?_, ?_⟩, ?_, ⟨⟨_, rfl, rfl⟩, ⟨_, rfl, rfl⟩, ⟨_, rfl, rfl⟩, ⟨_, rfl, rfl⟩, ⟨_, rfl, rfl⟩, ⟨_, rfl, rfl⟩, trivial⟩, hA.sub ⟨rfl, rfl, trivial⟩⟩
        · show k + 1 ≤ _; omega
        · clear hA
          refine Eq.trans ?_ fin.symm
          simp at t1 t3
          simp [tallyStep, wrap64, IntKind.wrap_i64, *]
        · show min _ _ - (k + 1) < min _ _ - k; omega
  · refine ⟨rfl, rfl, ?_⟩
    refine ⟨rfl, rfl, rfl, rfl, ?_⟩
    refine ⟨rfl, rfl, ?_⟩
    intro w' hA
    have hkn : ¬ (k : Int) < (if (rs.length : Int) < os.length then (rs.length : Int) else os.length) := by simpa using h
    have hk' : k ≤ min os.length rs.length := hk
    have e : k = min os.length rs.length := by split at hkn <;> omega
    have hc : _ = tallyTo os rs p k := hc
    refine ⟨?_, hA.bel (by simp)⟩
    rw [tally, ← e, ← hc]
    rfl
end Go.Proofs.YtepdhipcepmpiaaDoor
