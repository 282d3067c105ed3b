/- The program's Parse. -/
import Derived.Test.YtllepnadffndnaaDoorLine
import Derived.Test.YtllepnadffndnaaDoorSplit
namespace Go.Proofs.YtllepnadffndnaaDoor
open Go.RowKit

theorem gs_two2 (g0 g1 : Nat) (t1 t0 : TypeId) (kb1 kb0 : List SV) : ∀ b, Mem.gs [(1, (⟨g1, t1, kb1⟩ : KB)), (0, ⟨g0, t0, kb0⟩)] b → b = g0 ∨ b = g1 := by
  rintro b ⟨i, kb, hi, rfl⟩
  simp only [Mem.find_cons] at hi
  split at hi
  · injection hi with hi; subst hi; exact .inr rfl
  · split at hi
    · injection hi with hi; subst hi; exact .inl rfl
    · simp [Mem.find] at hi
set_option maxRecDepth 100000 in
set_option maxHeartbeats 4000000 in
theorem parse_c (hvalid : ∀ (s : ByteArray) (w : World), s.size ≤ 4096 → LibOK w → Calls Tryd.prog 39 #[.string s] w fun e w' => e = .returned (.bool (validS s.data.toList)) ∧ Below w.heap.size w w')
    (s : ByteArray) (w : World) (hlib : ∀ w', Below w.heap.size w w' → LibOK w') :
    Calls Tryd.prog 19 #[.string s] w fun e w' => e = .returned (triV (parseSpec s.data.toList)) ∧ Below w.heap.size w w' := by
  have hsz := str_len s
  have q1 := @parse_long s.data.toList
  have q2 := @parse_bad s.data.toList
  have q3 := @parse_go s.data.toList
  generalize parseSpec s.data.toList = res at q1 q2 q3 ⊢
  refine calls_of_vc seat Tryd.func19 rfl rfl (Nat.le_of_ble_eq_true rfl) (N := 48) (args := [.val (.string s)]) (Nat.le_of_ble_eq_true rfl) rfl (A.start w) ?_
  intro g0 hg0
  refine ⟨fun h => ?_, fun h => ?_⟩
  · have h : 4096 < s.data.toList.length := by have := of_decide_eq_true h; omega
    refine ⟨trivial, ?_⟩
    refine ⟨rfl, rfl, rfl, rfl, ?_⟩
    refine ⟨rfl, rfl, ?_⟩
    intro w' hA
    refine ⟨?_, hA.bel (by simp)⟩
    rw [q1 h]; rfl
  have hlen : ¬ 4096 < s.data.toList.length := by have := of_decide_eq_false h; omega
  replace q2 := q2 hlen
  replace q3 := q3 hlen
  clear q1 h
  intro w1 hA
  refine (hvalid s w1 (by omega) (hlib w1 (hA.bel (by simp)))).mono ?_
  rintro e w2 ⟨rfl, hb⟩
  refine ⟨.val _, _, _, rfl, hA.below' hb, ?_⟩
  clear hA hb
  cases hv : validS s.data.toList with
  | false =>
    refine ⟨fun _ => ?_, fun h => Bool.noConfusion h⟩
    refine ⟨trivial, ?_⟩
    refine ⟨rfl, rfl, rfl, rfl, ?_⟩
    refine ⟨rfl, rfl, ?_⟩
    intro w' hA
    refine ⟨?_, hA.bel (by simp)⟩
    rw [q2 hv]; rfl
  | true =>
  replace q3 := q3 hv
  clear q2
  refine ⟨fun h => Bool.noConfusion h, fun _ => ?_⟩
  (intro w1 hA; refine (default_c w1).mono ?_; rintro e w2 ⟨rfl, hb⟩; refine ⟨.val _, _, _, rfl, hA.below' hb, ?_⟩)
  refine ⟨rfl, rfl, rfl, rfl, ?_⟩
  intro g1 hg1
  intro w1 hA
  have hne : g0 ≠ g1 := hA.apart 0 1 _ _ rfl rfl (by decide)
  have hg0w : w.heap.size ≤ g0 := hA.from_start (by simp) 0 rfl
  have hg1w : w.heap.size ≤ g1 := hA.from_start (by simp) 1 rfl
  refine (split_c s (by omega) w1 (hlib w1 (hA.bel (by simp)))).mono ?_
  rintro e wL ⟨vL, rfl, hwL, hb⟩
  obtain ⟨aL, cL, rfl, hsl⟩ := hwL
  have hgs : ∀ b, w1.heap.size ≤ b → ¬ (b = g0 ∨ b = g1) := by
    have h0 := (hA.blk 0 _ rfl).lt
    have h1 := (hA.blk 1 _ rfl).lt
    intro b hb hor
    have h0 : g0 < w1.heap.size := h0
    have h1 : g1 < w1.heap.size := h1
    omega
  have hvl : ∀ x ∈ linesOf s.data.toList, validS x = true := lines_valid _ _ (Nat.le_refl _) hv
  have hll : ∀ x ∈ linesOf s.data.toList, x.length ≤ s.data.toList.length := (lines_len _).2
  have hnl : (linesOf s.data.toList).length ≤ s.data.toList.length + 1 := (lines_len _).1
  refine ⟨.val _, [(1, ⟨g1, 79, seenS []⟩), (0, ⟨g0, 24, cfgS defC⟩)], [(wL, fun b => b = g0 ∨ b = g1), (w, fun _ => False)], rfl, ((hA.below' hb).sub (M' := [(1, (⟨g1, 79, seenS []⟩ : KB)), (0, ⟨g0, 24, cfgS defC⟩)]) ⟨rfl, rfl, trivial⟩).remember _ (gs_two2 g0 g1 _ _ _ _), ?_⟩
  clear hA hb
  generalize linesOf s.data.toList = ls at *
  refine ⟨Nat × MConfig × List Nat, fun x => [(22, .val (.int .i64 x.1)), (21, .val (.int .i64 ls.length)), (20, .val (.slice aL ls.length cL)), (5, .ptr 1 g1 0), (2, .ptr 0 g0 0)],
    fun x => [(1, ⟨g1, 79, seenS x.2.2⟩), (0, ⟨g0, 24, cfgS x.2.1⟩)], fun _ => [(wL, fun b => b = g0 ∨ b = g1), (w, fun _ => False)],
    fun x => x.1 ≤ ls.length ∧ goSpec (ls.drop x.1) x.1 x.2.1 x.2.2 = res, fun x => ls.length - x.1, ?_, ?_⟩
  · intro w1 hA
    exact ⟨(0, defC, []), ⟨by omega, q3.symm⟩, ⟨⟨_, rfl, rfl⟩, ⟨_, rfl, rfl⟩, ⟨_, rfl, rfl⟩, ⟨_, rfl, rfl⟩, ⟨_, rfl, rfl⟩, trivial⟩, hA⟩
  rintro ⟨i, c, seen⟩ ⟨hi, hgo⟩
  replace hi : i ≤ ls.length := hi
  replace hgo : goSpec (ls.drop i) i c seen = res := hgo
  obtain ⟨c0, c1, c2, c3, c4, c5, c6, c7, c8, c9, c10, c11⟩ := c
  refine ⟨fun h => ?_, fun h => ?_⟩
  · have hlt : i < ls.length := by have := of_decide_eq_true h; omega
    have hlt2 : i < (ls.map fun l => (⟨l.toArray⟩ : ByteArray)).length := by simpa using hlt
    obtain ⟨b, o, cs, rfl, hSb, hr, hat, _, _⟩ := hsl.get 1 rfl (i := i) hlt2
    obtain ⟨hcs, _⟩ : cs = [.string ((ls.map fun l => (⟨l.toArray⟩ : ByteArray))[i])] ∧ _ := hr
    subst hcs
    have hx : (ls.map fun l => (⟨l.toArray⟩ : ByteArray))[i] = strB ls[i] := by simp [strB]
    rw [hx] at hat
    have hvx := hvl ls[i] (List.getElem_mem hlt)
    have hlx := hll ls[i] (List.getElem_mem hlt)
    have hdr := List.drop_eq_getElem_cons hlt
    rw [hdr] at hgo
    generalize ls[i] = x at *
    rw [goSpec] at hgo
    refine ⟨b, o, i, rfl, rfl, hlt, ?_⟩
    refine ⟨.string (strB x), fun w' hA => ldS seat.tab rfl rfl hat (j := 0) rfl (by omega) (hA.since (wL, _) (List.Mem.head _)) (hgs b hSb), ?_⟩
    have hwc := words_c (strB x) (by simp [strB, ByteArray.size]; omega) (by rw [strB_list]; exact hvx)
    rw [strB_list] at hwc
    generalize wordsOf x = ws at hwc hgo
    intro w1 hA
    refine (hwc w1).mono ?_
    rintro e wW ⟨vW, rfl, hwW, hb⟩
    obtain ⟨aW, cW, rfl, hslW⟩ := hwW
    have hgsW : ∀ b, w1.heap.size ≤ b → ¬ (b = g0 ∨ b = g1) := by
      have h0 := (hA.blk 0 _ rfl).lt
      have h1 := (hA.blk 1 _ rfl).lt
      intro b hb hor
      have h0 : g0 < w1.heap.size := h0
      have h1 : g1 < w1.heap.size := h1
      omega
    refine ⟨.val _, _, (wW, fun b => b = g0 ∨ b = g1) :: [(wL, fun b => b = g0 ∨ b = g1), (w, fun _ => False)], rfl, (hA.below' hb).remember _ (gs_two2 g0 g1 _ _ _ _), ?_⟩
    clear hA hb
    refine ⟨fun h0 => ?_, fun h0 => ?_⟩
    · have h0 : ws = [] := List.length_eq_zero_iff.1 (by have := eq_of_beq h0; omega)
      rw [if_pos h0] at hgo
      refine ⟨((i + 1 : Nat) : Int), wrap_in _ (by omega) (by omega), ?_⟩
      intro w' hA
      exact ⟨(i + 1, ⟨c0, c1, c2, c3, c4, c5, c6, c7, c8, c9, c10, c11⟩, seen), ⟨by show i + 1 ≤ _; omega, hgo⟩, by show ls.length - (i + 1) < ls.length - i; omega, ⟨⟨_, rfl, rfl⟩, ⟨_, rfl, rfl⟩, ⟨_, rfl, rfl⟩, ⟨_, rfl, rfl⟩, ⟨_, rfl, rfl⟩, trivial⟩, hA.hist (fun p hp => List.mem_cons_of_mem _ hp)⟩
    have h0 : ws ≠ [] := by intro e; rw [e] at h0; simp at h0
    rw [if_neg h0] at hgo
    intro w2 hA
    refine (line_c g0 g1 hne ⟨c0, c1, c2, c3, c4, c5, c6, c7, c8, c9, c10, c11⟩ seen ws aW cW _ w2 (hA.blk 0 _ rfl) (hA.blk 1 _ rfl) (hslW.since (hA.since (wW, _) (List.Mem.head _)) hgsW) hgsW
      (fun w' hs => hlib w' ((hA.since (w, _) (by simp)).step hs (fun b e => by rcases e with rfl | rfl <;> exact .inr ‹_›)).below)).mono ?_
    rintro e w3 ⟨rfl, hb0, hb1, hs⟩
    generalize lineSpec ⟨c0, c1, c2, c3, c4, c5, c6, c7, c8, c9, c10, c11⟩ seen ws = ln at *
    obtain ⟨er, ⟨d0, d1, d2, d3, d4, d5, d6, d7, d8, d9, d10, d11⟩, sn⟩ := ln
    have hA2 := (hA.wrote2 (i := 0) (j := 1) (by decide) rfl rfl hs hb0 hb1).sub (M' := [(1, (⟨g1, 79, seenS sn⟩ : KB)), (0, ⟨g0, 24, cfgS ⟨d0, d1, d2, d3, d4, d5, d6, d7, d8, d9, d10, d11⟩⟩)]) ⟨rfl, rfl, trivial⟩
    refine ⟨.val _, _, _, rfl, hA2, ?_⟩
    clear hA hA2 hb0 hb1 hs
    refine ⟨fun h => ?_, fun h => ?_⟩
    · have h : er ≠ 0 := by intro e; rw [e] at h; simp at h
      rw [if_pos h] at hgo
      refine ⟨trivial, ?_⟩
      refine ⟨((i : Int) + 1), wrap_in _ (by omega) (by omega), ?_⟩
      refine ⟨rfl, rfl, rfl, rfl, ?_⟩
      refine ⟨rfl, rfl, ?_⟩
      intro w' hA
      refine ⟨?_, hA.bel (by simp)⟩
      rw [← hgo]; rfl
    have h : er = 0 := by simpa using h
    rw [if_neg (by simp [h])] at hgo
    refine ⟨((i + 1 : Nat) : Int), wrap_in _ (by omega) (by omega), ?_⟩
    intro w' hA
    exact ⟨(i + 1, ⟨d0, d1, d2, d3, d4, d5, d6, d7, d8, d9, d10, d11⟩, sn), ⟨by show i + 1 ≤ _; omega, hgo⟩, by show ls.length - (i + 1) < ls.length - i; omega, ⟨⟨_, rfl, rfl⟩, ⟨_, rfl, rfl⟩, ⟨_, rfl, rfl⟩, ⟨_, rfl, rfl⟩, ⟨_, rfl, rfl⟩, trivial⟩, hA.hist (fun p hp => List.mem_cons_of_mem _ hp)⟩
  · have hge : i = ls.length := by have := of_decide_eq_false h; omega
    rw [List.drop_of_length_le (by omega), goSpec] at hgo
    refine ⟨_, rfl, rfl, _, rfl, rfl, ?_⟩
    refine ⟨fun h => ?_, fun h => ?_⟩
    · rw [if_pos (of_decide_eq_true h)] at hgo
      refine ⟨trivial, ?_⟩
      refine ⟨rfl, rfl, rfl, rfl, ?_⟩
      refine ⟨rfl, rfl, ?_⟩
      intro w' hA
      refine ⟨?_, hA.bel (by simp)⟩
      rw [← hgo]; rfl
    · rw [if_neg (of_decide_eq_false h)] at hgo
      refine ⟨rfl, rfl, ?_⟩
      refine ⟨rfl, rfl, rfl, rfl, ?_⟩
      refine ⟨rfl, rfl, ?_⟩
      intro w' hA
      refine ⟨?_, hA.bel (by simp)⟩
      rw [← hgo]; rfl
end Go.Proofs.YtllepnadffndnaaDoor
