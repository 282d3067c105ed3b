/- The reference's Tally; Balanced (the program's and the reference's). -/
import Derived.Test.YtepdhipcepmpiaaDoorRepA
namespace Go.Proofs.YtepdhipcepmpiaaDoor
open Go.RowKit

theorem tallyRef_c (A1 A2 : Option Addr) (c1 c2 : Nat) (p : Int) (os : List MOp) (rs : List MReply) (w : World) (S : Fp) (h1 : Sl Rp.op w S A1 os) (h2 : Sl Rp.reply w S A2 rs) :
    Calls Tryd.prog 8 #[.slice A1 os.length c1, .slice A2 rs.length c2, .int .i64 p] w fun e w' => e = .returned (.agg (cntV (tally os rs p))) ∧ Below w.heap.size w w' := by
  refine calls_of_vc seat Tryd.func8 rfl rfl (Nat.le_of_ble_eq_true rfl) (N := 93) (args := [.val (.slice A1 os.length c1), .val (.slice A2 rs.length c2), .val (.int .i64 p)]) (Nat.le_of_ble_eq_true rfl) rfl (A.start w) ?_
  intro g0 _
  refine ⟨⟨rfl, trivial⟩, ?_⟩
  intro g1 _
  refine ⟨rfl, rfl, rfl, rfl, ?_⟩
  refine ⟨Nat × MCounts, fun x => [(8, .val (.int .i64 x.1)), (7, .ptr 1 g1 0), (6, .ptr 0 g0 0), (0, .val (.slice A1 os.length c1)), (1, .val (.slice A2 rs.length c2))],
    fun x => [(1, ⟨g1, 29, cntS x.2⟩), (0, ⟨g0, 29, cntS ⟨0, 0, 0, 0, 0, 0, 0, 0, 0⟩⟩)], fun _ => [(w, fun _ => False)], fun x => x.1 ≤ min os.length rs.length ∧ x.2 = tallyTo os rs p x.1, fun x => min os.length rs.length - x.1, ?_, ?_⟩
  · intro w1 hA
    exact ⟨(0, zeroCounts p), ⟨by omega, rfl⟩, ⟨⟨_, rfl, rfl⟩, ⟨_, rfl, rfl⟩, ⟨_, rfl, rfl⟩, ⟨_, rfl, rfl⟩, ⟨_, rfl, rfl⟩, trivial⟩, hA.sub ⟨rfl, rfl, trivial⟩⟩
  rintro ⟨k, ⟨d0, d1, d2, d3, d4, d5, d6, d7, d8⟩⟩ ⟨hk, hc⟩
  have stop : ¬ k < min os.length rs.length → k = min os.length rs.length := fun hn => by
    have hk : k ≤ min os.length rs.length := hk
    omega
  refine ⟨fun ha => ⟨fun hb => ?go, fun hb => ?end1⟩, fun ha => ⟨nofun, fun _ => ?end2⟩⟩
  case go =>
    have hk1 : k < os.length := by have : (k : Int) < os.length := by simpa using ha
                                   omega
    have hk2 : k < rs.length := by have : (k : Int) < rs.length := by simpa using hb
                                   omega
    obtain ⟨b1, o1, cs1, rfl, _, hr1, hat1, _, _⟩ := h1.get 5 rfl hk1
    obtain ⟨b2, o2, cs2, rfl, _, hr2, hat2, hlen, hone⟩ := h2.get 73 rfl hk2
    obtain ⟨B1, B2, B3, B4, B5, e1, e2, e3, e4, e5, q0, q1, q2, q3, q4, q5⟩ := tally_round_reply hr2
    have hop := (cellI (Rp.op_fields hr1).1).1
    refine ⟨b2, o2, k, rfl, rfl, hk2, ?_⟩
    refine ⟨_, fun w' hA => ldn seat.tab rfl rfl hlen hat2 (hA.bel (by simp)), ?_⟩
    intro g2 _
    refine ⟨hlen, rfl, rfl, List.all_eq_true.2 hone, ?_⟩
    refine ⟨b1, o1, k, rfl, rfl, hk1, ?_⟩
    refine ⟨_, fun w' hA => ld1 seat.tab rfl rfl hat1 hop (by omega) (hA.bel (by simp)), ?_⟩
    have fin : tallyTo os rs p (k + 1) = tallyStep ⟨d0, d1, d2, d3, d4, d5, d6, d7, d8⟩ os[k].kind rs[k] := by
      have hc : _ = tallyTo os rs p k := hc
      have e := tallyTo_succ (os := os) (rs := rs) (p := p) (List.getElem?_eq_getElem hk1) (List.getElem?_eq_getElem hk2)
      rw [← hc] at e
      exact e
    have hd8 : d8 = p := by
      have := tallyTo_pending os rs p k
      rw [← show _ = tallyTo os rs p k from hc] at this
      exact this
    have hkk : IntKind.i64.wrap ((k : Int) + 1) = ((k + 1 : Nat) : Int) := by
      have := h1.1
      rw [wrap_in _ (by omega) (by omega)]; rfl
    refine ⟨fun t1 => ?_, fun t1 => ?_⟩
    · refine ⟨b1, o1, k, rfl, rfl, hk1, ?_⟩
      refine ⟨_, fun w' hA => ld1 seat.tab rfl rfl hat1 hop (by omega) (hA.bel (by simp)), ?_⟩
      refine ⟨fun t2 => ?yes, fun t2 => ?no⟩
      case' yes =>
        refine ⟨_, rfl, rfl, _, rfl, _, rfl, rfl, rfl, ?_⟩
        refine ⟨_, nth_val q0, rfl, ?_⟩
        refine ⟨fun t3 => ?_, fun t3 => ?_⟩
        all_goals refine ⟨_, rfl, rfl, _, rfl, _, rfl, rfl, rfl, ?_⟩
      all_goals
        refine ⟨_, rfl, rfl, _, nth_val q4, rfl, _, rfl, _, rfl, rfl, rfl, ?_⟩
        refine ⟨_, rfl, rfl, _, nth_val q1, rfl, _, rfl, _, rfl, rfl, rfl, ?_⟩
        refine ⟨_, rfl, rfl, _, nth_val q2, rfl, _, rfl, _, rfl, rfl, rfl, ?_⟩
        refine ⟨_, rfl, rfl, _, nth_val q3, rfl, _, rfl, _, rfl, rfl, rfl, ?_⟩
        refine ⟨_, rfl, rfl, _, nth_val q5, rfl, _, rfl, _, rfl, rfl, rfl, ?_⟩
        refine ⟨_, hkk, ?_⟩
        intro w' hA
        refine ⟨(k + 1, ⟨_, _, _, _, _, _, _, _, _⟩), ⟨?_, ?_⟩, ?_, ⟨⟨_, rfl, rfl⟩, ⟨_, rfl, rfl⟩, ⟨_, rfl, rfl⟩, ⟨_, rfl, rfl⟩, ⟨_, rfl, rfl⟩, trivial⟩, hA.sub ⟨rfl, rfl, trivial⟩⟩
        · show k + 1 ≤ _; omega
        · clear hA
          refine Eq.trans ?_ fin.symm
          simp at t1 t2
          try simp at t3
          simp [tallyStep, wrap64, IntKind.wrap_i64, *]
        · show min _ _ - (k + 1) < min _ _ - k; omega
    · refine ⟨fun t2 => ?_, nofun⟩
      refine ⟨_, rfl, rfl, _, rfl, _, rfl, rfl, rfl, ?_⟩
      refine ⟨_, nth_val q0, rfl, ?_⟩
      refine ⟨fun t3 => ?_, fun t3 => ?_⟩
      all_goals
        refine ⟨_, rfl, rfl, _, rfl, _, rfl, rfl, rfl, ?_⟩
        refine ⟨_, rfl, rfl, _, nth_val q4, rfl, _, rfl, _, rfl, rfl, rfl, ?_⟩
        refine ⟨_, rfl, rfl, _, nth_val q1, rfl, _, rfl, _, rfl, rfl, rfl, ?_⟩
        refine ⟨_, rfl, rfl, _, nth_val q2, rfl, _, rfl, _, rfl, rfl, rfl, ?_⟩
        refine ⟨_, rfl, rfl, _, nth_val q3, rfl, _, rfl, _, rfl, rfl, rfl, ?_⟩
        refine ⟨_, rfl, rfl, _, nth_val q5, rfl, _, rfl, _, rfl, rfl, rfl, ?_⟩
        refine ⟨_, hkk, ?_⟩
        intro w' hA
        refine ⟨(k + 1, ⟨_, _, _, _, _, _, _, _, _⟩), ⟨?_, ?_⟩, ?_, ⟨⟨_, rfl, rfl⟩, ⟨_, rfl, rfl⟩, ⟨_, rfl, rfl⟩, ⟨_, rfl, rfl⟩, ⟨_, rfl, rfl⟩, trivial⟩, hA.sub ⟨rfl, rfl, trivial⟩⟩
        · show k + 1 ≤ _; omega
        · clear hA
          refine Eq.trans ?_ fin.symm
          simp at t1 t3
          simp [tallyStep, wrap64, IntKind.wrap_i64, *]
        · show min _ _ - (k + 1) < min _ _ - k; omega
  all_goals
    refine ⟨rfl, rfl, ?_⟩
    refine ⟨rfl, rfl, rfl, rfl, ?_⟩
    refine ⟨rfl, rfl, ?_⟩
    intro w' hA
    have e : k = min os.length rs.length := stop (by
      intro hlt
      have hx : (k : Int) < os.length := by omega
      have hy : (k : Int) < rs.length := by omega
      first | (simp [hy] at hb; done) | (simp [hx] at ha; done))
    have hc : _ = tallyTo os rs p k := hc
    refine ⟨?_, hA.bel (by simp)⟩
    rw [tally, ← e, ← hc]
    rfl

/-- No transaction was lost or counted twice. -/
def balB (c : MCounts) : Bool := c.submitted == wrap64 (c.refused + c.admitted) && c.admitted == wrap64 (wrap64 (wrap64 (wrap64 (wrap64 (c.committed + c.evicted) + c.expired) + c.invalid) + c.flushed) + c.pending)
theorem balanced_c (c : MCounts) (w : World) : Calls Tryd.prog 10 #[.agg (cntV c)] w fun e w' => e = .returned (.bool (balB c)) ∧ Below w.heap.size w w' := by
  obtain ⟨d0, d1, d2, d3, d4, d5, d6, d7, d8⟩ := c
  refine calls_of_vc seat Tryd.func10 rfl rfl (Nat.le_of_ble_eq_true rfl) (N := 33) (args := [.val (.agg (cntV ⟨d0, d1, d2, d3, d4, d5, d6, d7, d8⟩))]) (Nat.le_of_ble_eq_true rfl) rfl (A.start w) ?_
  intro g0 _
  refine ⟨_, rfl, rfl, _, rfl, rfl, _, rfl, rfl, _, rfl, ?_⟩
  refine ⟨fun h => ?_, fun h => ?_⟩
  · refine ⟨_, rfl, rfl, _, rfl, rfl, _, rfl, rfl, _, rfl, _, rfl, rfl, _, rfl, _, rfl, rfl, _, rfl, _, rfl, rfl, _, rfl, _, rfl, rfl, _, rfl, ?_⟩
    intro w' hA
    refine ⟨ret_bool ?_, hA.bel (by simp)⟩
    simp at h
    simp [balB, wrap64, IntKind.wrap_i64] at h ⊢
    simp [h]
  · intro w' hA
    refine ⟨ret_bool ?_, hA.bel (by simp)⟩
    simp at h
    simp [balB, wrap64, IntKind.wrap_i64] at h ⊢
    intro h'
    exact absurd h' h

theorem balancedRef_c (c : MCounts) (w : World) : Calls Tryd.prog 11 #[.agg (cntV c)] w fun e w' => e = .returned (.bool (balB c)) ∧ Below w.heap.size w w' := by
  obtain ⟨d0, d1, d2, d3, d4, d5, d6, d7, d8⟩ := c
  refine calls_of_vc seat Tryd.func11 rfl rfl (Nat.le_of_ble_eq_true rfl) (N := 33) (args := [.val (.agg (cntV ⟨d0, d1, d2, d3, d4, d5, d6, d7, d8⟩))]) (Nat.le_of_ble_eq_true rfl) rfl (A.start w) ?_
  intro g0 _
  refine ⟨_, rfl, rfl, _, rfl, rfl, _, rfl, rfl, _, rfl, ?_⟩
  refine ⟨fun h => ?_, fun h => ?_⟩
  · refine ⟨_, rfl, rfl, _, rfl, rfl, _, rfl, rfl, _, rfl, _, rfl, rfl, _, rfl, _, rfl, rfl, _, rfl, _, rfl, rfl, _, rfl, _, rfl, rfl, _, rfl, ?_⟩
    intro w' hA
    refine ⟨ret_bool ?_, hA.bel (by simp)⟩
    simp at h
    simp [balB, wrap64, IntKind.wrap_i64] at h ⊢
    simp [h]
  · intro w' hA
    refine ⟨ret_bool ?_, hA.bel (by simp)⟩
    simp at h
    simp [balB, wrap64, IntKind.wrap_i64] at h ⊢
    intro h'
    exact absurd h' h

end Go.Proofs.YtepdhipcepmpiaaDoor
