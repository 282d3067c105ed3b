/- The reference's ParseConfig. -/
import Derived.Test.YtllepnadffndnaaDoorRSet
import Derived.Test.YtllepnadffndnaaDoorRWords
import Derived.Test.YtllepnadffndnaaDoorLines
namespace Go.Proofs.YtllepnadffndnaaDoor
open Go.RowKit

def strB (l : Bs) : ByteArray := ⟨l.toArray⟩
theorem strB_list (l : Bs) : (strB l).data.toList = l := by simp [strB]
theorem strB_inj {a b : Bs} (h : strB a = strB b) : a = b := by rw [← strB_list a, h, strB_list]
def triV (r : MConfig × Int × Int) : Value := .tuple #[.agg ⟨cfgV r.1⟩, .int .i64 r.2.1, .int .i64 r.2.2]
theorem parse_long {t : Bs} (h : 4096 < t.length) : parseSpec t = (zeroC, 0, 3) := by unfold parseSpec; rw [if_pos h]
theorem parse_bad {t : Bs} (h : ¬ 4096 < t.length) (h2 : validS t = false) : parseSpec t = (zeroC, 0, 4) := by unfold parseSpec; rw [if_neg h, if_pos h2]
theorem parse_go {t : Bs} (h : ¬ 4096 < t.length) (h2 : validS t = true) : parseSpec t = goSpec (linesOf t) 0 defC [] := by unfold parseSpec; rw [if_neg h, if_neg (by simp [h2])]
/-- The first name that fits. -/
theorem key_of_index {a : Bs} {r : Int} (h : (r = -1 ∧ ∀ k : Nat, ((List.range 12).map fun k => strB (nameL k))[k]? ≠ some (strB a)) ∨ ∃ k : Nat, r = k ∧ k < ((List.range 12).map fun k => strB (nameL k)).length ∧ ((List.range 12).map fun k => strB (nameL k))[k]? = some (strB a) ∧ ∀ j : Nat, j < k → ((List.range 12).map fun k => strB (nameL k))[j]? ≠ some (strB a)) :
    (r = -1 ∧ keyIdx a = none) ∨ ∃ k : Nat, r = k ∧ k < 12 ∧ keyIdx a = some k := by
  have hg : ∀ k, k < 12 → ((List.range 12).map fun k => strB (nameL k))[k]? = some (strB (nameL k)) := by
    intro k hk
    rw [List.getElem?_map, List.getElem?_range hk]; rfl
  rcases h with ⟨hr, hn⟩ | ⟨k, hr, hlt, hk, _⟩
  · refine .inl ⟨hr, ?_⟩
    cases hx : keyIdx a with
    | none => rfl
    | some k =>
      obtain ⟨h1, h2⟩ := keyIdx_lt hx
      exact absurd (by rw [hg k h1, h2]) (hn k)
  · have hlt : k < 12 := by simpa using hlt
    refine .inr ⟨k, hr, hlt, ?_⟩
    rw [hg k hlt] at hk
    exact keyIdx_of hlt (strB_inj (Option.some.inj hk))
theorem gs_two (g0 g1 : Nat) (t : TypeId) (kb1 kb0 : List SV) : ∀ b, Mem.gs [(1, (⟨g1, t, kb1⟩ : KB)), (0, ⟨g0, t, kb0⟩)] b → b = g0 ∨ b = g1 := by
  rintro b ⟨i, kb, hi, rfl⟩
  simp only [Mem.find_cons] at hi
  split at hi
  · injection hi with hi; subst hi; exact .inr rfl
  · split at hi
    · injection hi with hi; subst hi; exact .inl rfl
    · simp [Mem.find] at hi
theorem keysV_eq : keysV = (List.range 12).map fun k => strV (nameL k) := rfl

set_option maxRecDepth 100000 in
set_option maxHeartbeats 4000000 in
theorem rparse_c (s : ByteArray) (hs : s.size ≤ 140737488355328) (w : World) :
    Calls Tryd.prog 43 #[.string s] w fun e w' => e = .returned (triV (parseSpec s.data.toList)) ∧ Below w.heap.size w w' := by
  have hsz := str_len s
  have q1 := @parse_long s.data.toList
  have q2 := @parse_bad s.data.toList
  have q3 := @parse_go s.data.toList
  have hrunes := runes_c s hs
  generalize parseSpec s.data.toList = res at q1 q2 q3 ⊢
  refine calls_of_vc seat Tryd.func43 rfl rfl (Nat.le_of_ble_eq_true rfl) (N := 96) (args := [.val (.string s)]) (Nat.le_of_ble_eq_true rfl) rfl (A.start w) ?_
  intro g0 hg0
  refine ⟨fun h => ?_, fun h => ?_⟩
  · have h : 4096 < s.data.toList.length := by have := of_decide_eq_true h; omega
    refine ⟨trivial, ?_⟩
    refine ⟨rfl, rfl, rfl, rfl, ?_⟩
    refine ⟨rfl, rfl, ?_⟩
    intro w' hA
    refine ⟨?_, hA.bel (by simp)⟩
    rw [q1 h]; rfl
  have hlen : ¬ 4096 < s.data.toList.length := by have := of_decide_eq_false h; omega
  replace q2 := q2 hlen
  replace q3 := q3 hlen
  clear q1 h
  intro w1 hA
  refine (hrunes w1).mono ?_
  rintro e w2 ⟨n, rfl, hb⟩
  refine ⟨.val _, _, _, rfl, hA.below' hb, ?_⟩
  clear hA hb
  refine ⟨_, rfl, _, rfl, ?_⟩
  cases hv : validS s.data.toList with
  | false =>
    refine ⟨fun _ => ?_, fun h => Bool.noConfusion h⟩
    refine ⟨trivial, ?_⟩
    refine ⟨rfl, rfl, rfl, rfl, ?_⟩
    refine ⟨rfl, rfl, ?_⟩
    intro w' hA
    refine ⟨?_, hA.bel (by simp)⟩
    rw [q2 hv]; rfl
  | true =>
  replace q3 := q3 hv
  clear q2
  refine ⟨fun h => Bool.noConfusion h, fun _ => ?_⟩
  (intro w1 hA; refine (rdefault_c w1).mono ?_; rintro e w2 ⟨rfl, hb⟩; refine ⟨.val _, _, _, rfl, hA.below' hb, ?_⟩)
  intro g1 hg1
  refine ⟨rfl, rfl, rfl, rfl, ?_⟩
  intro w1 hA
  refine (lines_c s (by omega) w1).mono ?_
  rintro e wL ⟨vL, rfl, hwL, hb⟩
  obtain ⟨aL, cL, rfl, hsl⟩ := hwL
  have hgs : ∀ b, w1.heap.size ≤ b → ¬ (b = g0 ∨ b = g1) := by
    have h0 := (hA.blk 0 _ rfl).lt
    have h1 := (hA.blk 1 _ rfl).lt
    intro b hb hor
    have h0 : g0 < w1.heap.size := h0
    have h1 : g1 < w1.heap.size := h1
    omega
  have hbase : w.heap.size ≤ wL.heap.size := Nat.le_trans (hA.bel (w := w) (by simp)).size hb.size
  have hgL : ∀ b, wL.heap.size ≤ b → ¬ (b = g0 ∨ b = g1) := fun b h => hgs b (Nat.le_trans hb.size h)
  have hvl : ∀ x ∈ linesOf s.data.toList, validS x = true := lines_valid _ _ (Nat.le_refl _) hv
  have hll : ∀ x ∈ linesOf s.data.toList, x.length ≤ s.data.toList.length := (lines_len _).2
  have hnl : (linesOf s.data.toList).length ≤ s.data.toList.length + 1 := (lines_len _).1
  refine ⟨.val _, [(1, ⟨g1, 24, cfgS defC⟩), (0, ⟨g0, 24, cfgS zeroC⟩)], [(wL, fun b => b = g0 ∨ b = g1), (w, fun _ => False)], rfl, ((hA.below' hb).sub (M' := [(1, (⟨g1, 24, cfgS defC⟩ : KB)), (0, ⟨g0, 24, cfgS zeroC⟩)]) ⟨rfl, rfl, trivial⟩).remember _ (gs_two g0 g1 _ _ _), ?_⟩
  clear hA hb
  generalize linesOf s.data.toList = ls at *
  refine ⟨Nat × MConfig × List Nat × Value × World, fun x => [(31, .val (.int .i64 x.1)), (30, .val (.int .i64 ls.length)), (29, .val (.slice aL ls.length cL)), (7, .ptr 1 g1 0), (2, .ptr 0 g0 0), (8, .val x.2.2.2.1)],
    fun x => [(1, ⟨g1, 24, cfgS x.2.1⟩), (0, ⟨g0, 24, cfgS zeroC⟩)], fun x => [(x.2.2.2.2, fun b => b = g0 ∨ b = g1), (wL, fun b => b = g0 ∨ b = g1), (w, fun _ => False)],
    fun x => x.1 ≤ ls.length ∧ goSpec (ls.drop x.1) x.1 x.2.1 x.2.2.1 = res ∧ x.2.2.2.2.ownsRow wL.heap.size 9 1 x.2.2.2.1 x.2.2.1.length (x.2.2.1.reverse.map fun k => strV (nameL k)) ∧ x.2.2.1.length ≤ x.1 ∧ wL.heap.size ≤ x.2.2.2.2.heap.size ∧ ∀ k ∈ x.2.2.1, k < 12, fun x => ls.length - x.1, ?_, ?_⟩
  · intro w1 hA
    exact ⟨(0, defC, [], .slice none 0 0, w1), ⟨by omega, q3.symm, World.ownsRow_nil _ _ _ _, Nat.le_refl _, (hA.since (wL, _) (List.Mem.head _)).size, by simp⟩, ⟨⟨_, rfl, rfl⟩, ⟨_, rfl, rfl⟩, ⟨_, rfl, rfl⟩, ⟨_, rfl, rfl⟩, ⟨_, rfl, rfl⟩, ⟨_, rfl, rfl⟩, trivial⟩, hA.remember _ (gs_two g0 g1 _ _ _)⟩
  rintro ⟨i, c, seen, v, wk⟩ ⟨hi, hgo, hown, hse, hwk, hs12⟩
  replace hi : i ≤ ls.length := hi
  replace hgo : goSpec (ls.drop i) i c seen = res := hgo
  replace hown : wk.ownsRow wL.heap.size 9 1 v seen.length (seen.reverse.map fun k => strV (nameL k)) := hown
  replace hse : seen.length ≤ i := hse
  replace hwk : wL.heap.size ≤ wk.heap.size := hwk
  replace hs12 : ∀ k ∈ seen, k < 12 := hs12
  obtain ⟨aS, cS, hvS, hslS⟩ := Sl.of_own (r := Rp.str) (S := fun b => wL.heap.size ≤ b) (ys := seen.reverse.map fun k => strB (nameL k)) hown (fun b hb _ => hb)
    (by have := SlL_strs wk (fun b => wL.heap.size ≤ b) (seen.reverse.map nameL) (fun x hx => by obtain ⟨k, _, rfl⟩ := List.mem_map.1 hx; have := nameL_sh k; omega)
        simpa [List.map_map, Function.comp_def, strB] using this) (by simp) (by omega)
  subst hvS
  have hno : ∀ g, (Value.slice aS (seen.reverse.map fun k => strB (nameL k)).length cS).ownBlock = some g → ¬ (g = g0 ∨ g = g1) := fun g hg => hgL g (hown.lt g hg).1
  obtain ⟨c0, c1, c2, c3, c4, c5, c6, c7, c8, c9, c10, c11⟩ := c
  refine ⟨fun h => ?_, fun h => ?_⟩
  · have hlt : i < ls.length := by have := of_decide_eq_true h; omega
    have hlt2 : i < (ls.map fun l => (⟨l.toArray⟩ : ByteArray)).length := by simpa using hlt
    obtain ⟨b, o, cs, rfl, hSb, hr, hat, _, _⟩ := hsl.get 1 rfl (i := i) hlt2
    obtain ⟨hcs, _⟩ : cs = [.string ((ls.map fun l => (⟨l.toArray⟩ : ByteArray))[i])] ∧ _ := hr
    subst hcs
    have hx : (ls.map fun l => (⟨l.toArray⟩ : ByteArray))[i] = strB ls[i] := by simp [strB]
    rw [hx] at hat
    have hvx := hvl ls[i] (List.getElem_mem hlt)
    have hlx := hll ls[i] (List.getElem_mem hlt)
    have hdr := List.drop_eq_getElem_cons hlt
    rw [hdr] at hgo
    generalize ls[i] = x at *
    rw [goSpec] at hgo
    refine ⟨b, o, i, rfl, rfl, hlt, ?_⟩
    refine ⟨.string (strB x), fun w' hA => ldS seat.tab rfl rfl hat (j := 0) rfl (by omega) (hA.since (wL, _) (List.Mem.tail _ (List.Mem.head _))) (hgs b hSb), ?_⟩
    have hwc := rwords_c (strB x) (by simp [strB, ByteArray.size]; omega) (by rw [strB_list]; exact hvx)
    rw [strB_list] at hwc
    generalize wordsOf x = ws at hwc hgo
    intro w1 hA
    refine (hwc w1).mono ?_
    rintro e wW ⟨vW, rfl, hwW, hb⟩
    obtain ⟨aW, cW, rfl, hslW⟩ := hwW
    have hW1 : wL.heap.size ≤ w1.heap.size := (hA.since (wL, _) (List.Mem.tail _ (List.Mem.head _))).size
    have hgsW : ∀ b, w1.heap.size ≤ b → ¬ (b = g0 ∨ b = g1) := by
      have h0 := (hA.blk 0 _ rfl).lt
      have h1 := (hA.blk 1 _ rfl).lt
      intro b hb hor
      have h0 : g0 < w1.heap.size := h0
      have h1 : g1 < w1.heap.size := h1
      omega
    refine ⟨.val _, _, (wW, fun b => b = g0 ∨ b = g1) :: [(wk, fun b => b = g0 ∨ b = g1), (wL, fun b => b = g0 ∨ b = g1), (w, fun _ => False)], rfl, (hA.below' hb).remember _ (gs_two g0 g1 _ _ _), ?_⟩
    clear hA hb
    refine ⟨fun h0 => ?_, fun h0 => ?_⟩
    · have h0 : ws = [] := List.length_eq_zero_iff.1 (by have := eq_of_beq h0; omega)
      rw [if_pos h0] at hgo
      refine ⟨((i + 1 : Nat) : Int), wrap_in _ (by omega) (by omega), ?_⟩
      intro w' hA
      refine ⟨(i + 1, ⟨c0, c1, c2, c3, c4, c5, c6, c7, c8, c9, c10, c11⟩, seen, _, wk), ⟨by show i + 1 ≤ _; omega, hgo, hown, by show seen.length ≤ i + 1; omega, hwk, hs12⟩, by show ls.length - (i + 1) < ls.length - i; omega, ⟨⟨_, rfl, rfl⟩, ⟨_, rfl, rfl⟩, ⟨_, rfl, rfl⟩, ⟨_, rfl, rfl⟩, ⟨_, rfl, rfl⟩, ⟨_, rfl, rfl⟩, trivial⟩, hA.hist (fun p hp => List.mem_cons_of_mem _ hp)⟩
    have h0 : ws ≠ [] := by intro e; rw [e] at h0; simp at h0
    rw [if_neg h0] at hgo
    refine ⟨fun h2 => ?_, fun h2 => ?_⟩
    · have h2 : ws.length ≠ 2 := by intro e; rw [e] at h2; simp at h2
      have hls : lineSpec ⟨c0, c1, c2, c3, c4, c5, c6, c7, c8, c9, c10, c11⟩ seen ws = (2, ⟨c0, c1, c2, c3, c4, c5, c6, c7, c8, c9, c10, c11⟩, seen) := by
        match ws, h2 with
        | [], _ => rfl
        | [_], _ => rfl
        | [_, _], h => exact absurd rfl h
        | _ :: _ :: _ :: _, _ => rfl
      rw [hls] at hgo
      refine ⟨trivial, ?_⟩
      rw [if_pos (by simp)] at hgo
      refine ⟨_, wrap_in _ (by omega) (by omega), ?_⟩
      refine ⟨rfl, rfl, rfl, rfl, ?_⟩
      refine ⟨rfl, rfl, ?_⟩
      intro w' hA
      refine ⟨?_, hA.bel (by simp)⟩
      rw [← hgo]; rfl
    have h2 : ws.length = 2 := by
      have := of_decide_eq_false (by simpa using h2 : decide ((ws.length : Int) ≠ 2) = false)
      omega
    obtain ⟨a, b2, rfl⟩ : ∃ a b2, ws = [a, b2] := by
      match ws, h2 with
      | [a, b2], _ => exact ⟨a, b2, rfl⟩
    have sl0 : ∃ bb oo, aW = some ⟨bb, oo, none⟩ ∧ w1.heap.size ≤ bb ∧ wW.rangeAt bb (oo + 0 * 1) [.string (strB a)] := by
      obtain ⟨b, o, cs, h1, h2, hr, hat, _, _⟩ := hslW.get 1 rfl (i := 0) (by simp)
      obtain ⟨hcs, _⟩ : cs = [.string (strB a)] ∧ _ := hr
      subst hcs
      exact ⟨b, o, h1, h2, hat⟩
    have sl1 : ∃ bb oo, aW = some ⟨bb, oo, none⟩ ∧ w1.heap.size ≤ bb ∧ wW.rangeAt bb (oo + 1 * 1) [.string (strB b2)] ∧ (strB b2).size ≤ 140737488355328 := by
      obtain ⟨b, o, cs, h1, h2, hr, hat, _, _⟩ := hslW.get 1 rfl (i := 1) (by simp)
      obtain ⟨hcs, hsz2⟩ : cs = [.string (strB b2)] ∧ (strB b2).size ≤ 140737488355328 := hr
      subst hcs
      exact ⟨b, o, h1, h2, hat, hsz2⟩
    obtain ⟨bb, oo, rfl, hbb, hat0⟩ := sl0
    obtain ⟨_, _, e1, _, hat1, hb2l⟩ := sl1
    cases e1
    have ld0 : ∀ {M : Mem} {H : Hist} (w' : World), A M H w' → (wW, fun b => b = g0 ∨ b = g1) ∈ H → (loadVar 9 ⟨bb, oo + 0 * 1, none⟩).run Tryd.prog w' = .ok (.string (strB a)) w' :=
      fun w' hA hm => ldS seat.tab rfl rfl hat0 (j := 0) rfl (by omega) (hA.since _ hm) (hgsW bb hbb)
    have ld1' : ∀ {M : Mem} {H : Hist} (w' : World), A M H w' → (wW, fun b => b = g0 ∨ b = g1) ∈ H → (loadVar 9 ⟨bb, oo + 1 * 1, none⟩).run Tryd.prog w' = .ok (.string (strB b2)) w' :=
      fun w' hA hm => ldS seat.tab rfl rfl hat1 (j := 0) rfl (by omega) (hA.since _ hm) (hgsW bb hbb)
    refine ⟨_, [], [(wW, fun b => b = g0 ∨ b = g1)], [], .inr rfl, .inl trivial, fun p hp => by (simp at hp; subst hp; exact List.mem_cons_self), (.take 1 (.take 2 (.take 3 (.alt 0 (.alt 4 (.take 5 .done) .stop) .stop)))), by kernel_rfl, ?_⟩
    refine ⟨bb, oo, 0, rfl, rfl, by simp, ?_⟩
    refine ⟨.string (strB a), fun w' hA => ld0 w' hA (List.Mem.head _), ?_⟩
    intro w2 hA
    refine (keys_c w2).mono ?_
    rintro e w3 ⟨gk, rfl, hb, hgk, hbk⟩
    refine ⟨.val _, [(2, ⟨gk, 9, keysV.map SV.val⟩), (1, ⟨g1, 24, cfgS ⟨c0, c1, c2, c3, c4, c5, c6, c7, c8, c9, c10, c11⟩⟩), (0, ⟨g0, 24, cfgS zeroC⟩)], _, rfl, hA.adopt hb hgk hbk, List.Mem.head _, ?_⟩
    clear hA hb hbk
    intro w2 hA
    refine (index_c (some ⟨gk, 0, none⟩) 12 ((List.range 12).map fun k => strB (nameL k)) (strB a) w2 (S := Every) (Sl.of_blk (cells := keysV) (hA.blk 2 _ rfl) trivial (SlL_strs w2 Every ((List.range 12).map nameL) (fun x hx => by obtain ⟨k, _, rfl⟩ := List.mem_map.1 hx; have := nameL_sh k; omega)) (by decide))).mono ?_
    rintro e w3 ⟨r, rfl, hr, hb⟩
    refine ⟨.val _, _, _, rfl, hA.below' hb, List.Mem.head _, ?_⟩
    clear hA hb
    rcases key_of_index hr with ⟨rfl, hk⟩ | ⟨k, rfl, hk12, hk⟩
    · have hls : lineSpec ⟨c0, c1, c2, c3, c4, c5, c6, c7, c8, c9, c10, c11⟩ seen [a, b2] = (10, ⟨c0, c1, c2, c3, c4, c5, c6, c7, c8, c9, c10, c11⟩, seen) := by
        simp only [lineSpec, hk]
      rw [hls] at hgo
      refine ⟨fun _ => ?_, fun h => absurd h (by decide)⟩
      refine ⟨trivial, ?_⟩
      rw [if_pos (by simp)] at hgo
      refine ⟨_, wrap_in _ (by omega) (by omega), ?_⟩
      refine ⟨rfl, rfl, rfl, rfl, ?_⟩
      refine ⟨rfl, rfl, ?_⟩
      intro w' hA
      refine ⟨?_, hA.bel (by simp)⟩
      rw [← hgo]; rfl
    clear hr
    refine ⟨fun h => absurd (of_decide_eq_true h) (by omega), fun _ => ?_⟩
    refine ⟨bb, oo, 0, rfl, rfl, by simp, ?_⟩
    refine ⟨.string (strB a), fun w' hA => ld0 w' hA (List.Mem.head _), ?_⟩
    intro w2 hA
    refine (index_c aS cS (seen.reverse.map fun k => strB (nameL k)) (strB a) w2 (hslS.since (hA.since (wk, _) (List.Mem.tail _ (List.Mem.head _))) hgL)).mono ?_
    rintro e w3 ⟨r, rfl, hr, hb⟩
    refine ⟨.val _, _, _, rfl, hA.below' hb, ?_⟩
    clear hA hb
    have hname : nameL k = a := (keyIdx_lt hk).2
    refine ⟨fun h => ?_, fun h => ?_⟩
    · have h := of_decide_eq_true h
      have hmem : k ∈ seen := by
        rcases hr with ⟨rfl, _⟩ | ⟨j, rfl, hj, hj2, _⟩
        · exact absurd h (by decide)
        · have := List.mem_of_getElem? hj2
          obtain ⟨k', hk', e⟩ := List.mem_map.1 this
          have e := strB_inj e
          have hk' := List.mem_reverse.1 hk'
          have : k' = k := name_inj (hs12 k' hk') hk12 (e.trans hname.symm)
          rw [← this]; exact hk'
      have hls : lineSpec ⟨c0, c1, c2, c3, c4, c5, c6, c7, c8, c9, c10, c11⟩ seen [a, b2] = (8, ⟨c0, c1, c2, c3, c4, c5, c6, c7, c8, c9, c10, c11⟩, seen) := by
        simp only [lineSpec, hk, if_pos hmem]
      rw [hls] at hgo
      refine ⟨trivial, ?_⟩
      rw [if_pos (by simp)] at hgo
      refine ⟨_, wrap_in _ (by omega) (by omega), ?_⟩
      refine ⟨rfl, rfl, rfl, rfl, ?_⟩
      refine ⟨rfl, rfl, ?_⟩
      intro w' hA
      refine ⟨?_, hA.bel (by simp)⟩
      rw [← hgo]; rfl
    have h := of_decide_eq_false h
    have hmem : k ∉ seen := by
      intro hm
      rcases hr with ⟨rfl, hn⟩ | ⟨j, rfl, _⟩
      · obtain ⟨j, hj⟩ := List.getElem?_of_mem (List.mem_map.2 ⟨k, List.mem_reverse.2 hm, rfl⟩ : strB (nameL k) ∈ seen.reverse.map fun k => strB (nameL k))
        rw [hname] at hj
        exact hn j hj
      · omega
    clear hr
    have hset := rset_c ⟨c0, c1, c2, c3, c4, c5, c6, c7, c8, c9, c10, c11⟩ k hk12 (strB b2)
    rw [strB_list] at hset
    have hls : lineSpec ⟨c0, c1, c2, c3, c4, c5, c6, c7, c8, c9, c10, c11⟩ seen [a, b2] = ((setSpec ⟨c0, c1, c2, c3, c4, c5, c6, c7, c8, c9, c10, c11⟩ k b2).2, (setSpec ⟨c0, c1, c2, c3, c4, c5, c6, c7, c8, c9, c10, c11⟩ k b2).1, k :: seen) := by
      simp only [lineSpec, hk, if_neg hmem]
    rw [hls] at hgo
    replace hset := hset hb2l
    generalize setSpec ⟨c0, c1, c2, c3, c4, c5, c6, c7, c8, c9, c10, c11⟩ k b2 = sp at hset hgo
    obtain ⟨⟨d0, d1, d2, d3, d4, d5, d6, d7, d8, d9, d10, d11⟩, er⟩ := sp
    refine ⟨_, [(1, ⟨g1, 24, cfgS ⟨c0, c1, c2, c3, c4, c5, c6, c7, c8, c9, c10, c11⟩⟩)], [(wW, fun b => b = g0 ∨ b = g1)], [], .inr rfl, .inl ⟨rfl, trivial⟩, fun p hp => by (simp at hp; subst hp; exact List.mem_cons_self), (.take 0 (.take 1 (.take 2 (.take 3 (.take 4 (.alt 5 (.take 6 (.take 7 (.take 8 (.alt 9 (.alt 10 (.take 11 .done) .stop) .stop)))) (.alt 9 (.alt 5 (.take 6 (.take 7 (.take 8 (.alt 10 (.take 11 .done) .stop)))) .stop) .stop))))))), by kernel_rfl, ?_⟩
    refine ⟨rfl, rfl, ?_⟩
    refine ⟨bb, oo, 1, rfl, rfl, by simp, ?_⟩
    refine ⟨.string (strB b2), fun w' hA => ld1' w' hA (List.Mem.head _), ?_⟩
    refine ⟨?_, ?_⟩
    · intro w2 hA
      refine (hset w2).mono ?_
      rintro e w3 ⟨rfl, hb⟩
      refine ⟨.val _, _, _, rfl, hA.below' hb, rfl, List.Mem.head _, ?_⟩
      clear hA hb
      refine ⟨_, rfl, _, rfl, ?_⟩
      intro g2 _
      refine ⟨rfl, List.Mem.head _, ?_⟩
      refine ⟨rfl, rfl, rfl, rfl, ?_⟩
      refine ⟨rfl, List.Mem.head _, ?_⟩
      refine ⟨fun h => ?_, fun h => ?_⟩
      · have h : er ≠ 0 := by intro e; rw [e] at h; simp at h
        rw [if_pos h] at hgo
        refine ⟨trivial, ?_⟩
        refine ⟨_, wrap_in _ (by omega) (by omega), ?_⟩
        refine ⟨rfl, rfl, rfl, rfl, ?_⟩
        refine ⟨rfl, rfl, ?_⟩
        intro w' hA
        refine ⟨?_, hA.bel (by simp)⟩
        rw [← hgo]; rfl
      have h : er = 0 := by simpa using h
      rw [if_neg (by simp [h])] at hgo
      refine ⟨rfl, rfl, ?_⟩
      refine ⟨rfl, rfl, rfl, rfl, ?_⟩
      refine ⟨bb, oo, 0, rfl, rfl, by simp, ?_⟩
      refine ⟨.string (strB a), fun w' hA => ld0 w' hA (List.Mem.head _), ?_⟩
      refine ⟨⟨rfl, trivial⟩, ?_⟩
      intro g5 _
      refine append_mem2 seat (M' := [(1, ⟨g1, 24, cfgS ⟨d0, d1, d2, d3, d4, d5, d6, d7, d8, d9, d10, d11⟩⟩), (0, ⟨g0, 24, cfgS zeroC⟩)]) (es := 1) (n := seen.length) (m := 1) (base := wL.heap.size) (a := ⟨g5, 0, none⟩) ⟨rfl, rfl, trivial⟩ (by_ := 16) rfl (by kernel_rfl) rfl rfl (by decide) (List.Mem.tail _ (List.Mem.head _)) hown hno (H' := [(wL, fun b => b = g0 ∨ b = g1), (w, fun _ => False)]) (fun p hp => by
        simp at hp
        rcases hp with rfl | rfl
        · exact ⟨by simp, Nat.le_refl _⟩
        · exact ⟨by simp, hbase⟩) hwk (news := [strV a]) rfl (fun w' hA j u hj => ?_) (fun u hu => ?_) (by unfold maxLen; omega) (by omega) ?_
      · rw [Addr.add_mid]
        refine (hA.blk 4 _ rfl).range j u ?_
        exact hj
      · simp at hu; subst hu; rfl
      intro wp v' w' hAp _ hsz' hown'
      refine ⟨_, wrap_in _ (by omega) (by omega), ?_⟩
      intro w4 hA4
      refine ⟨(i + 1, ⟨d0, d1, d2, d3, d4, d5, d6, d7, d8, d9, d10, d11⟩, k :: seen, v', w4), ⟨by show i + 1 ≤ _; omega, hgo, ?_, by show seen.length + 1 ≤ i + 1; omega, ?_, ?_⟩, by show ls.length - (i + 1) < ls.length - i; omega, ⟨⟨_, rfl, rfl⟩, ⟨_, rfl, rfl⟩, ⟨_, rfl, rfl⟩, ⟨_, rfl, rfl⟩, ⟨_, rfl, rfl⟩, ⟨_, rfl, rfl⟩, trivial⟩, (hA4.hist (fun p hp => List.mem_cons_of_mem _ hp)).remember _ (gs_two g0 g1 _ _ _)⟩
      · have := ownsRow_since hown' (hA4.since (w', _) (List.Mem.head _)) (fun g hg hgs2 => by
          have h1 := gs_two g0 g1 _ _ _ g hgs2
          exact hgL g (hown'.lt g hg).1 h1)
        simpa [hname] using this
      · exact (hA4.since (wL, _) (List.Mem.tail _ (List.Mem.head _))).size
      · intro k' hk'
        rcases List.mem_cons.1 hk' with rfl | hk'
        · exact hk12
        · exact hs12 k' hk'
    · intro g2 _
      refine ⟨rfl, List.Mem.head _, ?_⟩
      intro w2 hA
      refine (hset w2).mono ?_
      rintro e w3 ⟨rfl, hb⟩
      refine ⟨.val _, _, _, rfl, hA.below' hb, rfl, List.Mem.head _, ?_⟩
      clear hA hb
      refine ⟨_, rfl, _, rfl, ?_⟩
      refine ⟨rfl, rfl, rfl, rfl, ?_⟩
      refine ⟨rfl, List.Mem.head _, ?_⟩
      refine ⟨fun h => ?_, fun h => ?_⟩
      · have h : er ≠ 0 := by intro e; rw [e] at h; simp at h
        rw [if_pos h] at hgo
        refine ⟨trivial, ?_⟩
        refine ⟨_, wrap_in _ (by omega) (by omega), ?_⟩
        refine ⟨rfl, rfl, rfl, rfl, ?_⟩
        refine ⟨rfl, rfl, ?_⟩
        intro w' hA
        refine ⟨?_, hA.bel (by simp)⟩
        rw [← hgo]; rfl
      have h : er = 0 := by simpa using h
      rw [if_neg (by simp [h])] at hgo
      refine ⟨rfl, rfl, ?_⟩
      refine ⟨rfl, rfl, rfl, rfl, ?_⟩
      refine ⟨bb, oo, 0, rfl, rfl, by simp, ?_⟩
      refine ⟨.string (strB a), fun w' hA => ld0 w' hA (List.Mem.head _), ?_⟩
      refine ⟨⟨rfl, trivial⟩, ?_⟩
      intro g5 _
      refine append_mem2 seat (M' := [(1, ⟨g1, 24, cfgS ⟨d0, d1, d2, d3, d4, d5, d6, d7, d8, d9, d10, d11⟩⟩), (0, ⟨g0, 24, cfgS zeroC⟩)]) (es := 1) (n := seen.length) (m := 1) (base := wL.heap.size) (a := ⟨g5, 0, none⟩) ⟨rfl, rfl, trivial⟩ (by_ := 16) rfl (by kernel_rfl) rfl rfl (by decide) (List.Mem.tail _ (List.Mem.head _)) hown hno (H' := [(wL, fun b => b = g0 ∨ b = g1), (w, fun _ => False)]) (fun p hp => by
        simp at hp
        rcases hp with rfl | rfl
        · exact ⟨by simp, Nat.le_refl _⟩
        · exact ⟨by simp, hbase⟩) hwk (news := [strV a]) rfl (fun w' hA j u hj => ?_) (fun u hu => ?_) (by unfold maxLen; omega) (by omega) ?_
      · rw [Addr.add_mid]
        refine (hA.blk 4 _ rfl).range j u ?_
        exact hj
      · simp at hu; subst hu; rfl
      intro wp v' w' hAp _ hsz' hown'
      refine ⟨_, wrap_in _ (by omega) (by omega), ?_⟩
      intro w4 hA4
      refine ⟨(i + 1, ⟨d0, d1, d2, d3, d4, d5, d6, d7, d8, d9, d10, d11⟩, k :: seen, v', w4), ⟨by show i + 1 ≤ _; omega, hgo, ?_, by show seen.length + 1 ≤ i + 1; omega, ?_, ?_⟩, by show ls.length - (i + 1) < ls.length - i; omega, ⟨⟨_, rfl, rfl⟩, ⟨_, rfl, rfl⟩, ⟨_, rfl, rfl⟩, ⟨_, rfl, rfl⟩, ⟨_, rfl, rfl⟩, ⟨_, rfl, rfl⟩, trivial⟩, (hA4.hist (fun p hp => List.mem_cons_of_mem _ hp)).remember _ (gs_two g0 g1 _ _ _)⟩
      · have := ownsRow_since hown' (hA4.since (w', _) (List.Mem.head _)) (fun g hg hgs2 => by
          have h1 := gs_two g0 g1 _ _ _ g hgs2
          exact hgL g (hown'.lt g hg).1 h1)
        simpa [hname] using this
      · exact (hA4.since (wL, _) (List.Mem.tail _ (List.Mem.head _))).size
      · intro k' hk'
        rcases List.mem_cons.1 hk' with rfl | hk'
        · exact hk12
        · exact hs12 k' hk'
  · have hge : i = ls.length := by have := of_decide_eq_false h; omega
    rw [List.drop_of_length_le (by omega), goSpec] at hgo
    refine ⟨_, rfl, rfl, _, rfl, rfl, ?_⟩
    refine ⟨fun h => ?_, fun h => ?_⟩
    · rw [if_pos (of_decide_eq_true h)] at hgo
      refine ⟨trivial, ?_⟩
      refine ⟨rfl, rfl, rfl, rfl, ?_⟩
      refine ⟨rfl, rfl, ?_⟩
      intro w' hA
      refine ⟨?_, hA.bel (by simp)⟩
      rw [← hgo]; rfl
    · rw [if_neg (of_decide_eq_false h)] at hgo
      refine ⟨rfl, rfl, ?_⟩
      refine ⟨rfl, rfl, rfl, rfl, ?_⟩
      refine ⟨rfl, rfl, ?_⟩
      intro w' hA
      refine ⟨?_, hA.bel (by simp)⟩
      rw [← hgo]; rfl
end Go.Proofs.YtllepnadffndnaaDoor
