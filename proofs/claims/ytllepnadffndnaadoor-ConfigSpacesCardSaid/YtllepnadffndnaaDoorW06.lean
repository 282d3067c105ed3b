/- Parts of a proof, one behind the other: Parse, Utf, Shelf2, Valid, Fmt, Str, Form, Form2, LawB, TextB, PRead, M33, M34, M35, S0, S2, U32. -/
import Derived.Lib.ValidLaws
import Derived.Lib.TrimUEq
import Derived.Shelf.Unicode.ValidAny
import Derived.Test.YtllepnadffndnaaDoorProg
import Derived.Lib.AppendIntMem
import Derived.Lib.Walk
import Derived.WalkKit
import Derived.BigCall
import Derived.BigGuard
import Derived.Lib.Builder
import Derived.Lib.AppendStr
import Derived.Lib.UnsafeStr
import Derived.Lib.Strings
import Derived.Lib.Slices
import Derived.Laws.Externs
import Derived.Laws.IdiomCopy
import Derived.Lib.ItoaNum
import Derived.Test.YtllepnadffndnaaDoorW05
namespace Go.Proofs.YtllepnadffndnaaDoor
open Go.RowKit
theorem gs_two2 (g0 g1 : Nat) (t1 t0 : TypeId) (kb1 kb0 : List SV) : ∀ b, Mem.gs [(1, (⟨g1, t1, kb1⟩ : KB)), (0, ⟨g0, t0, kb0⟩)] b → b = g0 ∨ b = g1 := by
  rintro b ⟨i, kb, hi, rfl⟩
  simp only [Mem.find_cons] at hi
  split at hi
  · injection hi with hi; subst hi; exact .inr rfl
  · split at hi
    · injection hi with hi; subst hi; exact .inl rfl
    · simp [Mem.find] at hi
set_option maxRecDepth 100000 in
set_option maxHeartbeats 4000000 in
theorem parse_c (hvalid : ∀ (s : ByteArray) (w : World), s.size ≤ 4096 → LibOK w → Calls Tryd.prog 39 #[.string s] w fun e w' => e = .returned (.bool (validS s.data.toList)) ∧ Below w.heap.size w w')
    (s : ByteArray) (w : World) (hlib : ∀ w', Below w.heap.size w w' → LibOK w') :
    Calls Tryd.prog 19 #[.string s] w fun e w' => e = .returned (triV (parseSpec s.data.toList)) ∧ Below w.heap.size w w' := by
  have hsz := str_len s
  have q1 := @parse_long s.data.toList
  have q2 := @parse_bad s.data.toList
  have q3 := @parse_go s.data.toList
  generalize parseSpec s.data.toList = res at q1 q2 q3 ⊢
  refine calls_of_vc seat Tryd.func19 rfl rfl (Nat.le_of_ble_eq_true rfl) (N := 48) (args := [.val (.string s)]) (Nat.le_of_ble_eq_true rfl) rfl (A.start w) ?_
  intro g0 hg0
  refine ⟨fun h => ?_, fun h => ?_⟩
  · have h : 4096 < s.data.toList.length := by have := of_decide_eq_true h; omega
    refine ⟨trivial, ?_⟩
    refine ⟨rfl, rfl, rfl, rfl, ?_⟩
    refine ⟨rfl, rfl, ?_⟩
    intro w' hA
    refine ⟨?_, hA.bel (by simp)⟩
    rw [q1 h]; rfl
  have hlen : ¬ 4096 < s.data.toList.length := by have := of_decide_eq_false h; omega
  replace q2 := q2 hlen
  replace q3 := q3 hlen
  clear q1 h
  intro w1 hA
  refine (hvalid s w1 (by omega) (hlib w1 (hA.bel (by simp)))).mono ?_
  rintro e w2 ⟨rfl, hb⟩
  refine ⟨.val _, _, _, rfl, hA.below' hb, ?_⟩
  clear hA hb
  cases hv : validS s.data.toList with
  | false =>
    refine ⟨fun _ => ?_, fun h => Bool.noConfusion h⟩
    refine ⟨trivial, ?_⟩
    refine ⟨rfl, rfl, rfl, rfl, ?_⟩
    refine ⟨rfl, rfl, ?_⟩
    intro w' hA
    refine ⟨?_, hA.bel (by simp)⟩
    rw [q2 hv]; rfl
  | true =>
  replace q3 := q3 hv
  clear q2
  refine ⟨fun h => Bool.noConfusion h, fun _ => ?_⟩
  (intro w1 hA; refine (default_c w1).mono ?_; rintro e w2 ⟨rfl, hb⟩; refine ⟨.val _, _, _, rfl, hA.below' hb, ?_⟩)
  refine ⟨rfl, rfl, rfl, rfl, ?_⟩
  intro g1 hg1
  intro w1 hA
  have hne : g0 ≠ g1 := hA.apart 0 1 _ _ rfl rfl (by decide)
  have hg0w : w.heap.size ≤ g0 := hA.from_start (by simp) 0 rfl
  have hg1w : w.heap.size ≤ g1 := hA.from_start (by simp) 1 rfl
  refine (split_c s (by omega) w1 (hlib w1 (hA.bel (by simp)))).mono ?_
  rintro e wL ⟨vL, rfl, hwL, hb⟩
  obtain ⟨aL, cL, rfl, hsl⟩ := hwL
  have hgs : ∀ b, w1.heap.size ≤ b → ¬ (b = g0 ∨ b = g1) := by
    have h0 := (hA.blk 0 _ rfl).lt
    have h1 := (hA.blk 1 _ rfl).lt
    intro b hb hor
    have h0 : g0 < w1.heap.size := h0
    have h1 : g1 < w1.heap.size := h1
    omega
  have hvl : ∀ x ∈ linesOf s.data.toList, validS x = true := lines_valid _ _ (Nat.le_refl _) hv
  have hll : ∀ x ∈ linesOf s.data.toList, x.length ≤ s.data.toList.length := (lines_len _).2
  have hnl : (linesOf s.data.toList).length ≤ s.data.toList.length + 1 := (lines_len _).1
  refine ⟨.val _, [(1, ⟨g1, 79, seenS []⟩), (0, ⟨g0, 24, cfgS defC⟩)], [(wL, fun b => b = g0 ∨ b = g1), (w, fun _ => False)], rfl, ((hA.below' hb).sub (M' := [(1, (⟨g1, 79, seenS []⟩ : KB)), (0, ⟨g0, 24, cfgS defC⟩)]) ⟨rfl, rfl, trivial⟩).remember _ (gs_two2 g0 g1 _ _ _ _), ?_⟩
  clear hA hb
  generalize linesOf s.data.toList = ls at *
  refine ⟨Nat × MConfig × List Nat, fun x => [(22, .val (.int .i64 x.1)), (21, .val (.int .i64 ls.length)), (20, .val (.slice aL ls.length cL)), (5, .ptr 1 g1 0), (2, .ptr 0 g0 0)],
    fun x => [(1, ⟨g1, 79, seenS x.2.2⟩), (0, ⟨g0, 24, cfgS x.2.1⟩)], fun _ => [(wL, fun b => b = g0 ∨ b = g1), (w, fun _ => False)],
    fun x => x.1 ≤ ls.length ∧ goSpec (ls.drop x.1) x.1 x.2.1 x.2.2 = res, fun x => ls.length - x.1, ?_, ?_⟩
  · intro w1 hA
    exact ⟨(0, defC, []), ⟨by omega, q3.symm⟩, ⟨⟨_, rfl, rfl⟩, ⟨_, rfl, rfl⟩, ⟨_, rfl, rfl⟩, ⟨_, rfl, rfl⟩, ⟨_, rfl, rfl⟩, trivial⟩, hA⟩
  rintro ⟨i, c, seen⟩ ⟨hi, hgo⟩
  replace hi : i ≤ ls.length := hi
  replace hgo : goSpec (ls.drop i) i c seen = res := hgo
  obtain ⟨c0, c1, c2, c3, c4, c5, c6, c7, c8, c9, c10, c11⟩ := c
  refine ⟨fun h => ?_, fun h => ?_⟩
  · have hlt : i < ls.length := by have := of_decide_eq_true h; omega
    have hlt2 : i < (ls.map fun l => (⟨l.toArray⟩ : ByteArray)).length := by simpa using hlt
    obtain ⟨b, o, cs, rfl, hSb, hr, hat, _, _⟩ := hsl.get 1 rfl (i := i) hlt2
    obtain ⟨hcs, _⟩ : cs = [.string ((ls.map fun l => (⟨l.toArray⟩ : ByteArray))[i])] ∧ _ := hr
    subst hcs
    have hx : (ls.map fun l => (⟨l.toArray⟩ : ByteArray))[i] = strB ls[i] := by simp [strB]
    rw [hx] at hat
    have hvx := hvl ls[i] (List.getElem_mem hlt)
    have hlx := hll ls[i] (List.getElem_mem hlt)
    have hdr := List.drop_eq_getElem_cons hlt
    rw [hdr] at hgo
    generalize ls[i] = x at *
    rw [goSpec] at hgo
    refine ⟨b, o, i, rfl, rfl, hlt, ?_⟩
    refine ⟨.string (strB x), fun w' hA => ldS seat.tab rfl rfl hat (j := 0) rfl (by omega) (hA.since (wL, _) (List.Mem.head _)) (hgs b hSb), ?_⟩
    have hwc := words_c (strB x) (by simp [strB, ByteArray.size]; omega) (by rw [strB_list]; exact hvx)
    rw [strB_list] at hwc
    generalize wordsOf x = ws at hwc hgo
    intro w1 hA
    refine (hwc w1).mono ?_
    rintro e wW ⟨vW, rfl, hwW, hb⟩
    obtain ⟨aW, cW, rfl, hslW⟩ := hwW
    have hgsW : ∀ b, w1.heap.size ≤ b → ¬ (b = g0 ∨ b = g1) := by
      have h0 := (hA.blk 0 _ rfl).lt
      have h1 := (hA.blk 1 _ rfl).lt
      intro b hb hor
      have h0 : g0 < w1.heap.size := h0
      have h1 : g1 < w1.heap.size := h1
      omega
    refine ⟨.val _, _, (wW, fun b => b = g0 ∨ b = g1) :: [(wL, fun b => b = g0 ∨ b = g1), (w, fun _ => False)], rfl, (hA.below' hb).remember _ (gs_two2 g0 g1 _ _ _ _), ?_⟩
    clear hA hb
    refine ⟨fun h0 => ?_, fun h0 => ?_⟩
    · have h0 : ws = [] := List.length_eq_zero_iff.1 (by have := eq_of_beq h0; omega)
      rw [if_pos h0] at hgo
      refine ⟨((i + 1 : Nat) : Int), wrap_in _ (by omega) (by omega), ?_⟩
      intro w' hA
      exact ⟨(i + 1, ⟨c0, c1, c2, c3, c4, c5, c6, c7, c8, c9, c10, c11⟩, seen), ⟨by show i + 1 ≤ _; omega, hgo⟩, by show ls.length - (i + 1) < ls.length - i; omega, ⟨⟨_, rfl, rfl⟩, ⟨_, rfl, rfl⟩, ⟨_, rfl, rfl⟩, ⟨_, rfl, rfl⟩, ⟨_, rfl, rfl⟩, trivial⟩, hA.hist (fun p hp => List.mem_cons_of_mem _ hp)⟩
    have h0 : ws ≠ [] := by intro e; rw [e] at h0; simp at h0
    rw [if_neg h0] at hgo
    intro w2 hA
    refine (line_c g0 g1 hne ⟨c0, c1, c2, c3, c4, c5, c6, c7, c8, c9, c10, c11⟩ seen ws aW cW _ w2 (hA.blk 0 _ rfl) (hA.blk 1 _ rfl) (hslW.since (hA.since (wW, _) (List.Mem.head _)) hgsW) hgsW
      (fun w' hs => hlib w' ((hA.since (w, _) (by simp)).step hs (fun b e => by rcases e with rfl | rfl <;> exact .inr ‹_›)).below)).mono ?_
    rintro e w3 ⟨rfl, hb0, hb1, hs⟩
    generalize lineSpec ⟨c0, c1, c2, c3, c4, c5, c6, c7, c8, c9, c10, c11⟩ seen ws = ln at *
    obtain ⟨er, ⟨d0, d1, d2, d3, d4, d5, d6, d7, d8, d9, d10, d11⟩, sn⟩ := ln
    have hA2 := (hA.wrote2 (i := 0) (j := 1) (by decide) rfl rfl hs hb0 hb1).sub (M' := [(1, (⟨g1, 79, seenS sn⟩ : KB)), (0, ⟨g0, 24, cfgS ⟨d0, d1, d2, d3, d4, d5, d6, d7, d8, d9, d10, d11⟩⟩)]) ⟨rfl, rfl, trivial⟩
    refine ⟨.val _, _, _, rfl, hA2, ?_⟩
    clear hA hA2 hb0 hb1 hs
    refine ⟨fun h => ?_, fun h => ?_⟩
    · have h : er ≠ 0 := by intro e; rw [e] at h; simp at h
      rw [if_pos h] at hgo
      refine ⟨trivial, ?_⟩
      refine ⟨((i : Int) + 1), wrap_in _ (by omega) (by omega), ?_⟩
      refine ⟨rfl, rfl, rfl, rfl, ?_⟩
      refine ⟨rfl, rfl, ?_⟩
      intro w' hA
      refine ⟨?_, hA.bel (by simp)⟩
      rw [← hgo]; rfl
    have h : er = 0 := by simpa using h
    rw [if_neg (by simp [h])] at hgo
    refine ⟨((i + 1 : Nat) : Int), wrap_in _ (by omega) (by omega), ?_⟩
    intro w' hA
    exact ⟨(i + 1, ⟨d0, d1, d2, d3, d4, d5, d6, d7, d8, d9, d10, d11⟩, sn), ⟨by show i + 1 ≤ _; omega, hgo⟩, by show ls.length - (i + 1) < ls.length - i; omega, ⟨⟨_, rfl, rfl⟩, ⟨_, rfl, rfl⟩, ⟨_, rfl, rfl⟩, ⟨_, rfl, rfl⟩, ⟨_, rfl, rfl⟩, trivial⟩, hA.hist (fun p hp => List.mem_cons_of_mem _ hp)⟩
  · have hge : i = ls.length := by have := of_decide_eq_false h; omega
    rw [List.drop_of_length_le (by omega), goSpec] at hgo
    refine ⟨_, rfl, rfl, _, rfl, rfl, ?_⟩
    refine ⟨fun h => ?_, fun h => ?_⟩
    · rw [if_pos (of_decide_eq_true h)] at hgo
      refine ⟨trivial, ?_⟩
      refine ⟨rfl, rfl, rfl, rfl, ?_⟩
      refine ⟨rfl, rfl, ?_⟩
      intro w' hA
      refine ⟨?_, hA.bel (by simp)⟩
      rw [← hgo]; rfl
    · rw [if_neg (of_decide_eq_false h)] at hgo
      refine ⟨rfl, rfl, ?_⟩
      refine ⟨rfl, rfl, rfl, rfl, ?_⟩
      refine ⟨rfl, rfl, ?_⟩
      intro w' hA
      refine ⟨?_, hA.bel (by simp)⟩
      rw [← hgo]; rfl
end Go.Proofs.YtllepnadffndnaaDoor
namespace Go.Proofs.YtllepnadffndnaaDoor
section
variable {c d : Int} {f1 f2 f3 : Bool}
theorem runeI_2 (h1 : 194 ≤ c) (h2 : c < 224) (h3 : f1 = true) : runeI c d f1 f2 f3 = 2 := by
  unfold runeI
  rw [if_neg (by simp; omega), if_pos (by simp [h1, h2, h3])]
theorem runeI_3 (h1 : 224 ≤ c) (h2 : c < 240) (h3 : f1 = true) (h4 : f2 = true) (h5 : ¬ (c = 224 ∧ d < 160)) (h6 : ¬ (c = 237 ∧ 160 ≤ d)) : runeI c d f1 f2 f3 = 3 := by
  unfold runeI
  rw [if_neg (by simp; omega), if_neg (by simp; omega), if_pos (by simp [h1, h2, h3, h4]), if_neg (by
    simp only [Bool.or_eq_true, Bool.and_eq_true, beq_iff_eq, decide_eq_true_eq]
    rintro (h | h)
    · exact h5 h
    · exact h6 h)]
theorem runeI_4 (h1 : 240 ≤ c) (h2 : c < 245) (h3 : f1 = true) (h4 : f2 = true) (h4' : f3 = true) (h5 : ¬ (c = 240 ∧ d < 144)) (h6 : ¬ (c = 244 ∧ 144 ≤ d)) : runeI c d f1 f2 f3 = 4 := by
  unfold runeI
  rw [if_neg (by simp; omega), if_neg (by simp; omega), if_neg (by simp; omega), if_pos (by simp [h1, h2, h3, h4, h4']), if_neg (by
    simp only [Bool.or_eq_true, Bool.and_eq_true, beq_iff_eq, decide_eq_true_eq]
    rintro (h | h)
    · exact h5 h
    · exact h6 h)]
end
theorem follow_of {l : Bs} {i : Nat} (h1 : i < l.length) (h2 : (byteAt l i).toNat / 64 = 2) : followB l i = true := by
  unfold followB
  simp only [Bool.and_eq_true, decide_eq_true_eq]
  omega
theorem bad_decode {l : Bs} (_ : l ≠ []) (h0 : runeLen l = 0) : Lib.decodeL l = (65533, 1) := by
  have hr := runeAt_nat l 0
  simp only [List.drop_zero, h0] at hr
  unfold runeAt at hr
  rw [Lib.decodeL_N]
  have eq : ∀ i, l.getD i 0 = byteAt l i := fun i => by unfold byteAt; rw [List.getD_eq_getElem?_getD]
  simp only [eq]
  have t0 := (byteAt l 0).toNat_lt
  have t1 := (byteAt l 1).toNat_lt
  have t2 := (byteAt l 2).toNat_lt
  have t3 := (byteAt l 3).toNat_lt
  have F1 := @follow_of l 1
  have F2 := @follow_of l 2
  have F3 := @follow_of l 3
  have hc : ¬ (byteAt l 0).toNat < 128 := by
    intro hc
    unfold runeI at hr
    rw [if_pos (by simp; omega)] at hr
    exact absurd hr (by decide)
  have R2 := @runeI_2 (byteAt l 0).toNat (byteAt l 1).toNat (followB l 1) (followB l 2) (followB l 3)
  have R3 := @runeI_3 (byteAt l 0).toNat (byteAt l 1).toNat (followB l 1) (followB l 2) (followB l 3)
  have R4 := @runeI_4 (byteAt l 0).toNat (byteAt l 1).toNat (followB l 1) (followB l 2) (followB l 3)
  have hr : runeI (byteAt l 0).toNat (byteAt l 1).toNat (followB l 1) (followB l 2) (followB l 3) = 0 := hr
  generalize runeI (byteAt l 0).toNat (byteAt l 1).toNat (followB l 1) (followB l 2) (followB l 3) = R at *
  generalize (byteAt l 0).toNat = b0 at *
  generalize (byteAt l 1).toNat = b1 at *
  generalize (byteAt l 2).toNat = b2 at *
  generalize (byteAt l 3).toNat = b3 at *
  unfold Lib.decodeN
  rw [if_neg hc]
  split
  · rename_i h2
    split
    · have := R2 (by omega) (by omega) (F1 h2.2.1 h2.2.2)
      omega
    · rfl
  split
  · rename_i h2 h3
    split
    · have := R3 (by omega) (by omega) (F1 h3.2.1.1 h3.2.1.2) (F2 h3.2.2.1 h3.2.2.2) (by omega) (by omega)
      omega
    · rfl
  split
  · rename_i h2 h3 h4
    split
    · have := R4 (by omega) (by omega) (F1 h4.2.1.1 h4.2.1.2) (F2 h4.2.2.1.1 h4.2.2.1.2) (F3 h4.2.2.2.1 h4.2.2.2.2) (by omega) (by omega)
      omega
    · rfl
  · rfl
theorem good_decode {l : Bs} (h : l ≠ []) (h0 : runeLen l ≠ 0) : (Lib.decodeL l).2 = runeLen l ∧ ¬ ((Lib.decodeL l).1 = 65533 ∧ (Lib.decodeL l).2 = 1) := by
  have hp : 0 < l.length := List.length_pos_iff.2 h
  obtain ⟨cp, hd, _, _⟩ := decode_rune ⟨l.toArray⟩ 0 hp (by simpa using h0)
  have hd : Lib.decodeL l = (cp, runeLen l) := by simpa [Lib.decodeL] using hd
  have d1 : (Lib.decodeL l).1 = cp := by rw [hd]
  have d2 : (Lib.decodeL l).2 = runeLen l := by rw [hd]
  refine ⟨d2, ?_⟩
  rw [d1, d2]
  rintro ⟨h1, h2⟩
  have hr := runeAt_nat l 0
  simp only [List.drop_zero, h2] at hr
  unfold runeAt at hr
  by_cases hc : (byteAt l 0).toNat < 128
  · have e : l = byteAt l 0 :: l.drop 1 := by
      cases l with
      | nil => exact absurd rfl h
      | cons a t => simp [byteAt]
    have := Lib.decodeL_ascii (byteAt l 0) (l.drop 1) hc
    rw [← e] at this
    have e2 : (Lib.decodeL l).1 = (byteAt l 0).toNat := by rw [this]
    omega
  · unfold runeI at hr
    rw [if_neg (by simp; omega)] at hr
    repeat' split at hr
    all_goals omega
theorem valid_eq : ∀ (n : Nat) (l : Bs), l.length ≤ n → Lib.validD l = validS l
  | n, [], _ => by rw [validS_nil]; rfl
  | 0, _ :: _, h => by simp at h
  | n + 1, c :: r, h => by
    rw [Lib.validD_step _ (List.cons_ne_nil _ _)]
    by_cases h0 : runeLen (c :: r) = 0
    · rw [validS_bad (List.cons_ne_nil _ _) h0, bad_decode (List.cons_ne_nil _ _) h0]
      simp
    · obtain ⟨h1, h2⟩ := good_decode (List.cons_ne_nil c r) h0
      rw [validS_step (List.cons_ne_nil _ _) h0, if_neg h2, h1]
      refine valid_eq n _ ?_
      rw [List.length_drop]
      simp only [List.length_cons] at h ⊢
      omega
end Go.Proofs.YtllepnadffndnaaDoor
/-
  DERIVED: THE SHELF's CONTRACTS AT THIS DUMP, IN PLAIN WORDS (tools/lay-plain.mjs out of 'YtllepnadffndnaaDoorShelf2.lean', which tools/lay-shelf.mjs wrote): THE SAME DECLARATIONS UNDER THE SAME NAMES: 'import', 'namespace', 'open', 'def', 'theorem' AND NOTHING ELSE: no command of the shelf's: FOR A HAND-IN. Each laying: the table of numbers ('.._ren') and one theorem, a field a fact of the dump's own or the kernel's comparison; each contract: ONE APPLICATION.
-/
namespace Go.Proofs
open Go.Shelf
def Tryd.laysValid_ren : Go.Shelf.Ren := ⟨fun | 196 => 39 | 259 => 50 | n => n, fun | 9 => 9 | 4 => 4 | 3 => 3 | 5 => 5 | 12 => 12 | 119 => 92 | 0 => 0 | 46 => 50 | 139 => 95 | 138 => 94 | 53 => 22 | n => n, fun | 3 => 0 | 4 => 1 | n => n⟩
theorem Tryd.laysValid : Go.Proofs.Lays.n196 Tryd.prog Tryd.laysValid_ren := {
  mixed := by kernel_rfl
  f196 := Tryd.func39.trans (congrArg some (by kernel_rfl))
  f259 := Tryd.func50.trans (congrArg some (by kernel_rfl))
  t0 := Tryd.underlying0
  a0 := Tryd.isAgg0
  z0 := Tryd.sizeOf0
  v0 := Tryd.zeroValue0
  t3 := Tryd.underlying3
  a3 := Tryd.isAgg3
  z3 := Tryd.sizeOf3
  v3 := Tryd.zeroValue3
  t4 := Tryd.underlying4
  a4 := Tryd.isAgg4
  z4 := Tryd.sizeOf4
  v4 := Tryd.zeroValue4
  t5 := Tryd.underlying5
  a5 := Tryd.isAgg5
  z5 := Tryd.sizeOf5
  v5 := Tryd.zeroValue5
  t9 := Tryd.underlying9
  a9 := Tryd.isAgg9
  z9 := Tryd.sizeOf9
  v9 := Tryd.zeroValue9
  t12 := Tryd.underlying12
  a12 := Tryd.isAgg12
  z12 := Tryd.sizeOf12
  v12 := Tryd.zeroValue12
  t46 := Tryd.underlying50
  a46 := Tryd.isAgg50
  z46 := Tryd.sizeOf50
  v46 := Tryd.zeroValue50
  t53 := Tryd.underlying22
  a53 := Tryd.isAgg22
  z53 := Tryd.sizeOf22
  v53 := Tryd.zeroValue22
  t119 := Tryd.underlying92
  a119 := Tryd.isAgg92
  z119 := Tryd.sizeOf92
  t138 := Tryd.underlying94
  a138 := Tryd.isAgg94
  z138 := Tryd.sizeOf94
  v138 := Tryd.zeroValue94
  t139 := Tryd.underlying95
  a139 := Tryd.isAgg95
  z139 := Tryd.sizeOf95
  v139 := Tryd.zeroValue95
  g3 := by kernel_rfl
  g4 := by kernel_rfl }
end Go.Proofs
namespace Go.Proofs.YtllepnadffndnaaDoor
open Go.RowKit
theorem valid_c (s : ByteArray) (w : World) (hs : s.size ≤ 4096) (hlib : LibOK w) : Calls Tryd.prog 39 #[.string s] w fun e w' => e = .returned (.bool (validS s.data.toList)) ∧ Below w.heap.size w w' := by
  have h := Any.utf8_ValidString Tryd.laysValid s w (by omega) hlib.utf8
  rw [valid_eq _ _ (Nat.le_refl _)] at h
  exact h
theorem pparse_c (s : ByteArray) (w : World) (hlib : ∀ w', Below w.heap.size w w' → LibOK w') :
    Calls Tryd.prog 19 #[.string s] w fun e w' => e = .returned (triV (parseSpec s.data.toList)) ∧ Below w.heap.size w w' := parse_c valid_c s w hlib
end Go.Proofs.YtllepnadffndnaaDoor
namespace Go.Proofs.YtllepnadffndnaaDoor
open Go.RowKit Go.Sort Go.Lib
theorem e59 : ∀ args w, (callFunc 59 args).run Tryd.prog w = .ok (.enter 59 args) w := enters_of Tryd.func59 (by kernel_rfl) rfl
theorem e60 : ∀ args w, (callFunc 60 args).run Tryd.prog w = .ok (.enter 60 args) w := enters_of Tryd.func60 (by kernel_rfl) rfl
theorem e61 : ∀ args w, (callFunc 61 args).run Tryd.prog w = .ok (.enter 61 args) w := enters_of Tryd.func61 (by kernel_rfl) rfl
theorem e48 : ∀ args w, (callFunc 48 args).run Tryd.prog w = .ok (.enter 48 args) w := enters_of Tryd.func48 (by kernel_rfl) rfl
set_option maxHeartbeats 6400000 in
set_option maxRecDepth 100000 in
theorem formatUint_in (u : Nat) (hu64 : u < 18446744073709551616) (w : World) (htab : Lib.TabIs Tryd.prog w "internal/strconv.uint64pow10" .u64 Lib.pow10Tab) :
    Calls Tryd.prog 48 #[.int .u64 u, .int .i64 10] w fun e w' => e = .returned (.string ⟨(Lib.decDigits u).toArray⟩) ∧ Below w.heap.size w w' := by
  have h59 := e59
  have h60 := e60
  have h61 := e61
  by_cases hs : u < 100
  · go_enter Tryd.func48, Tryd.ntmps48
    go_wp2_with (go_at_fn (59); refine (Tryd.internal_strconv_small u hs _).mono ?_; rintro e w' ⟨rfl, rfl⟩)
    go_ret
    exact ⟨rfl, Below.refl _ _⟩
  · have hu1 : 1 ≤ u := by omega
    have hnd20 : Lib.nDigits u ≤ 20 := by have := Lib.numDigits_eq u hu1 hu64; split at this <;> omega
    have hal : Tryd.prog.arrayLen 106 = 24 := by simp [Program.arrayLen, Tryd.underlying106]
    have hsl1 : ∀ W, (Instr.sliceAt 106 (.pointer (some ⟨w.heap.size, 0, none⟩)) none (some (.int .i64 (Lib.nDigits u : Int))) none).run Tryd.prog W = .ok (.slice (some ⟨w.heap.size, 0, none⟩) (Lib.nDigits u) 24) W := fun W => by
      rw [run_sliceAt_array_h W 106 ⟨w.heap.size, 0, none⟩ (by simp [Program.arrayLen, Program.elem, Tryd.underlying106]) .i64 (Lib.nDigits u : Int) (by omega) (by rw [hal]; omega)]
      go_simp
    have hH0 := Lib.holds_zero0 w 106 (Lib.nDigits u) (by omega)
    have hfmt := Tryd.internal_strconv_formatBase10 w.heap.size 0 24 u (Array.replicate (Lib.nDigits u) 0) (w.alloc (.cells Lib.zeros24 106)) hH0 (by rw [Array.size_replicate]; exact Lib.lt_pow_nDigits u) hu64 (by rw [Array.size_replicate]; omega)
    rw [Array.size_replicate] at hfmt
    have HH0 := Lib.hid hH0
    clear hH0 hal
    go_enter Tryd.func48, Tryd.ntmps48
    go_wp2_with (first
      | (go_at_fn (60); refine (Tryd.internal_strconv_numDigits u hu1 hu64 _ (Lib.tabIs_alloc htab _)).mono ?_; rintro e w' ⟨rfl, rfl⟩))
    go_at_fn (61)
    refine hfmt.mono ?_
    rintro e w' ⟨rfl, k, v', dk, rfl, hF⟩
    have hcv : (convert 38 9 (.slice (some ⟨w.heap.size, 0, none⟩) (Lib.nDigits u) 24)).run Tryd.prog ((putRow (fun (b : UInt8) => Value.int .u8 (b.toNat : Int)) (w.alloc (.cells Lib.zeros24 106)) w.heap.size 0 dk).drewN k) = .ok (.string ⟨(Lib.decDigits u).toArray⟩) ((putRow (fun (b : UInt8) => Value.int .u8 (b.toNat : Int)) (w.alloc (.cells Lib.zeros24 106)) w.heap.size 0 dk).drewN k) := by
      have h := run_convert_bytes_back (P := Tryd.prog) ((putRow (fun (b : UInt8) => Value.int .u8 (b.toNat : Int)) (w.alloc (.cells Lib.zeros24 106)) w.heap.size 0 dk).drewN k) 38 9 5 ⟨w.heap.size, 0, none⟩ 24 (Lib.decDigits u) Tryd.underlying38 Tryd.underlying5 Tryd.underlying9 (fun j hj => by
        rw [Lib.row_is_numeral hF j hj, Lib.add_plain, World.cell?_drewN]
        exact cell?_putRow (fun (b : UInt8) => Value.int .u8 (b.toNat : Int)) _ w.heap.size 0 _ dk HH0.out (by rw [hF.size, Array.size_replicate]) j (by rw [hF.size]; rw [Lib.decDigits_length] at hj; exact hj))
      rw [Lib.decDigits_length] at h
      exact h
    go_wp2
    go_ret
    obtain ⟨os, eo⟩ := Lib.fin_at w (.cells Lib.zeros24 106) dk k 0
    refine ⟨rfl, ?_⟩
    rw [eo]
    exact Lib.below_grow _ w (Nat.le_refl _) k os
set_option maxRecDepth 100000 in
theorem formatUint_c (u : Nat) (hu64 : u < 18446744073709551616) (w : World) (htab : Lib.TabIs Tryd.prog w "internal/strconv.uint64pow10" .u64 Lib.pow10Tab) :
    Calls Tryd.prog 35 #[.int .u64 u, .int .i64 10] w fun e w' => e = .returned (.string ⟨(Lib.decDigits u).toArray⟩) ∧ Below w.heap.size w w' := by
  have h48 := e48
  go_enter Tryd.func35, Tryd.ntmps35
  go_wp2_with (go_at_fn (48); refine (formatUint_in u hu64 _ htab).mono ?_; rintro e w' ⟨rfl, hb⟩)
  go_ret
  exact ⟨rfl, hb⟩
end Go.Proofs.YtllepnadffndnaaDoor
namespace Go.Proofs.YtllepnadffndnaaDoor
open Go.RowKit
theorem builder_size : (Tryd.prog.info? 72).map (·.size) = some 2 := by kernel_rfl
theorem builder_lies : liesAt Tryd.prog Tryd.prog.depth 72 (2 / Tryd.prog.cellsOf 72) 0 72 1 = true := by kernel_rfl
theorem byte_info : (Tryd.prog.info? 5).map (fun i => (i.zero, i.size, i.bytes)) = some (some (.int .u8 0), 1, 1) := by kernel_rfl
theorem enters_copyCheck : ∀ args w, (callFunc 49 args).run Tryd.prog w = .ok (.enter 49 args) w := enters_of Tryd.func49 (by kernel_rfl) rfl
set_option maxRecDepth 100000 in
set_option maxHeartbeats 1000000 in
theorem copyCheck_used (b : Nat) (w : World) (h0 : w.cell? ⟨b, 0, none⟩ = some (.pointer (some ⟨b, 0, none⟩))) :
    Calls Tryd.prog 49 #[.pointer (some ⟨b, 0, none⟩)] w fun e w' => e = .returned (.tuple #[]) ∧ w' = w := by
  obtain ⟨j, hj, _⟩ := Option.map_eq_some_iff.1 builder_size
  go_enter Tryd.func49, Tryd.ntmps49
  go_wp2
  rw [Lib.run_neq_ptr_same w _ Tryd.underlying70 hj]
  go_wp2
  go_end0
  exact ⟨rfl, rfl⟩
set_option maxRecDepth 100000 in
set_option maxHeartbeats 1000000 in
theorem copyCheck_fresh (b : Nat) (w : World) (h0 : w.cell? ⟨b, 0, none⟩ = some (.pointer none)) (hsh : w.shape? b = some (72, 2)) (hfz : w.frozen? ⟨b, 0, none⟩ = false) :
    Calls Tryd.prog 49 #[.pointer (some ⟨b, 0, none⟩)] w fun e w' => e = .returned (.tuple #[]) ∧ w' = w.setCell ⟨b, 0, none⟩ (.pointer (some ⟨b, 0, none⟩)) := by
  obtain ⟨j, hj, hjs⟩ := Option.map_eq_some_iff.1 builder_size
  go_enter Tryd.func49, Tryd.ntmps49
  go_wp2
  rw [Lib.run_to_unsafe w ⟨b, 0, none⟩ Tryd.underlying70 Tryd.underlying111 hj (by rw [hjs]; decide) hsh (Nat.zero_lt_succ 1)]
  simp only [Result.andThen]
  rw [Oper.upon_value]
  go_wp2
  rw [run_callFunc_extern Tryd.func63 (by kernel_rfl) (by kernel_rfl) (by kernel_rfl) (e := Extern.AbiNoEscape.same) (by kernel_rfl)]
  rw [Lib.run_noEscape]
  simp only [Result.andThen]
  rw [Oper.upon_value]
  go_wp2
  rw [Lib.run_from_unsafe w ⟨b, 0, none⟩ Tryd.underlying111 Tryd.underlying70 hj hsh builder_lies]
  simp only [Result.andThen]
  rw [Oper.upon_value]
  go_wp2
  go_end0
  exact ⟨rfl, rfl⟩
theorem copyCheck_any (B b : Nat) (bs : List Value) (w : World) (h : Lib.IsBuilder 72 5 B b bs w) :
    Calls Tryd.prog 49 #[.pointer (some ⟨b, 0, none⟩)] w fun e w' => e = .returned (.tuple #[]) ∧ (Lib.BuilderAt 72 5 B b (.pointer (some ⟨b, 0, none⟩)) bs w' ∧ Below B w w' ∧ w'.heap.size = w.heap.size) := by
  rcases h with h | h
  · refine (copyCheck_fresh b w h.cell0 h.shape h.frozen0).mono ?_
    rintro e w' ⟨rfl, rfl⟩
    exact ⟨rfl, h.used _, (Below.refl B w).setCell (p := ⟨b, 0, none⟩) h.1 _, by simp⟩
  · refine (copyCheck_used b w h.cell0).mono ?_
    rintro e w' ⟨rfl, rfl⟩
    exact ⟨rfl, h, Below.refl B _, rfl⟩
set_option maxRecDepth 100000 in
set_option maxHeartbeats 2000000 in
theorem writeString_any (B b : Nat) (bs : List Value) (s : ByteArray) (w : World) (h : Lib.IsBuilder 72 5 B b bs w) (hlen : bs.length + s.size ≤ 140737488355328) (hBw : B ≤ w.heap.size) :
    Calls Tryd.prog 36 #[.pointer (some ⟨b, 0, none⟩), .string s] w fun e w' => e = .returned (.tuple #[.int .i64 s.size, .nilIface]) ∧ (Lib.BuilderAt 72 5 B b (.pointer (some ⟨b, 0, none⟩)) (bs ++ Lib.strCells s) w' ∧ Below B w w') := by
  obtain ⟨i0, hi, hz0, hz1, hz2⟩ := info_parts byte_info
  have e240 := enters_copyCheck
  go_enter Tryd.func36, Tryd.ntmps36
  go_wp2_with (go_at_call 49; refine (copyCheck_any B b bs _ h).mono ?_)
  rintro e w1 ⟨rfl, h1, hb1, _⟩
  obtain ⟨hB, v, hbk, hown, hne⟩ := h1
  have c0 : w1.cell? ⟨b, 0, none⟩ = some (.pointer (some ⟨b, 0, none⟩)) := by rw [Lib.cell_of_heap hbk]; rfl
  have c1 : w1.cell? ⟨b, 1, none⟩ = some v := by rw [Lib.cell_of_heap hbk]; rfl
  go_wp2_with (at_builtin; refine Lib.wpList_append_own_string _ rfl _ _ 38 9 rfl B 5 i0 Tryd.underlying38 Tryd.underlying9 hi hz0 hz1 hz2 _ _ _ rfl hown s rfl ?c3 ?c4 ?c5 ?_)
  case c3 => unfold maxLen; omega
  case c4 => omega
  case c5 => have := hb1.size; omega
  intro v' w2 hown' hgrow _
  have hlt : b < w1.heap.size := by
    rcases Nat.lt_or_ge b w1.heap.size with h' | h'
    · exact h'
    · simp [Array.getElem?_eq_none h'] at hbk
  have hb2 : w2.heap[b]? = some (.cells #[.pointer (some ⟨b, 0, none⟩), v] 72 (0, 0)) := by
    rw [hgrow.block b hlt (fun e => hne e.symm)]
    exact hbk
  have d0 : w2.cell? ⟨b, 0, none⟩ = some (.pointer (some ⟨b, 0, none⟩)) := by rw [Lib.cell_of_heap hb2]; rfl
  have d1 : w2.cell? ⟨b, 1, none⟩ = some v := by rw [Lib.cell_of_heap hb2]; rfl
  have f1 : w2.frozen? ⟨b, 1, none⟩ = false := Lib.frozen_of_heap hb2 1
  obtain ⟨ao, n', cap, rfl⟩ : ∃ ao n' cap, v' = .slice ao n' cap := by
    rcases hown'.2 with ⟨hv, _⟩ | ⟨g, cap, cur, hv, _⟩
    · exact ⟨_, _, _, hv⟩
    · exact ⟨_, _, _, hv⟩
  go_wp2
  go_ret2
  refine ⟨rfl, ?_, ?_⟩
  · exact Lib.BuilderAt.put (T := 72) (e := 5) hB hb2 (bs' := bs ++ Lib.strCells s) (by simpa [Lib.strCells_length] using hown') (by decide)
  · exact (hb1.grown hgrow (by have := hb1.size; omega) (fun k hk => (hown.lt k hk).1)).setCell (p := ⟨b, 1, none⟩) hB _
end Go.Proofs.YtllepnadffndnaaDoor
namespace Go.Proofs.YtllepnadffndnaaDoor
open Go.RowKit
def wideT (v : Wide) : Bs := if v.minus then [45, 49] else Lib.decDigits v.n.toNat
def valT (c : MConfig) (k : Nat) : Bs := wideT (valueF c k).1
def lineT (c : MConfig) (k : Nat) : Bs := nameL k ++ [32] ++ valT c k ++ [10]
def textTo (c : MConfig) : Nat → Bs
  | 0 => []
  | k + 1 => textTo c k ++ lineT c k
def formT (c : MConfig) : Bs := if validC c = 0 then textTo c 12 else []
theorem nameL_short (k : Nat) : (nameL k).length ≤ 12 := by
  unfold nameL
  split <;> decide
theorem wideT_len (v : Wide) (h : v.n.toNat < 18446744073709551616) : (wideT v).length ≤ 20 := by
  unfold wideT
  split
  · decide
  · exact dd_len 19 _ (by omega)
theorem valueF_range {c : MConfig} (hc : CfgOK c) (k : Nat) : 0 ≤ (valueF c k).1.n ∧ (valueF c k).1.n < 18446744073709551616 := by
  have key : ∀ p, 0 ≤ (valInt p).1.n ∧ (valInt p).1.n < 18446744073709551616 := by
    intro p
    unfold valInt
    split
    · decide
    · split
      · decide
      · exact wrapu_range p
  unfold valueF
  split
  · cases c.keepInvalid <;> decide
  · exact hc.price
  · exact key _
theorem lineT_len {c : MConfig} (hc : CfgOK c) (k : Nat) : (lineT c k).length ≤ 34 := by
  have h1 := nameL_short k
  have h2 := wideT_len (valueF c k).1 (by have := valueF_range hc k; omega)
  simp only [lineT, valT, List.length_append, List.length_cons, List.length_nil]
  omega
theorem textTo_len {c : MConfig} (hc : CfgOK c) : ∀ k, (textTo c k).length ≤ 34 * k
  | 0 => by simp [textTo]
  | k + 1 => by
    have h1 := textTo_len hc k
    have h2 := lineT_len hc k
    simp only [textTo, List.length_append]
    omega
theorem line_app (c : MConfig) (k : Nat) : (⟨(textTo c k).toArray⟩ ++ (⟨(nameL k).toArray⟩ ++ ⟨#[32]⟩ ++ ⟨(valT c k).toArray⟩ ++ ⟨#[10]⟩) : ByteArray) = ⟨(textTo c (k + 1)).toArray⟩ := by
  rw [show (⟨#[32]⟩ : ByteArray) = ⟨[32].toArray⟩ from rfl, show (⟨#[10]⟩ : ByteArray) = ⟨[10].toArray⟩ from rfl, ba_app, ba_app, ba_app, ba_app]
  rfl
set_option maxRecDepth 100000 in
set_option maxHeartbeats 1000000 in
theorem cformat_c (c : MConfig) (hcok : CfgOK c) (w : World) (htab : Lib.TabIs Tryd.prog w "internal/strconv.uint64pow10" .u64 Lib.pow10Tab) :
    Calls Tryd.prog 17 #[.agg ⟨cfgV c⟩] w fun e w' => e = .returned (.tuple #[.string ⟨(formT c).toArray⟩, .int .i64 (validC c)]) ∧ Below w.heap.size w w' := by
  have htabB := Lib.tabBelow_of_tabIs htab
  have hval := value_c c
  have hvd := validate_c c
  have htl := textTo_len hcok
  have hvr := valueF_range hcok
  have hll := lineT_len hcok
  have hform : validC c = 0 → formT c = textTo c 12 := fun h => by rw [formT, if_pos h]
  have hform1 : validC c ≠ 0 → formT c = [] := fun h => by rw [formT, if_neg h]
  have hla := line_app c
  have hvt : ∀ k, valT c k = wideT (valueF c k).1 := fun _ => rfl
  have hlt : ∀ k, textTo c (k + 1) = textTo c k ++ (nameL k ++ [32] ++ valT c k ++ [10]) := fun _ => rfl
  have hl0 : ∀ k, lineT c k = nameL k ++ [32] ++ valT c k ++ [10] := fun _ => rfl
  have h00 : textTo c 0 = [] := rfl
  generalize hv0 : validC c = v0 at *
  generalize hT : textTo c = T at *
  generalize hF : formT c = F at *
  generalize hV : valT c = V at *
  generalize hLL : lineT c = LL at *
  generalize hW : valueF c = W at *
  clear hv0 hT hF hV hLL hW hcok
  obtain ⟨c0, c1, c2, c3, c4, c5, c6, c7, c8, c9, c10, c11⟩ := c
  refine calls_of_vc seat Tryd.func17 rfl rfl (Nat.le_of_ble_eq_true rfl) (N := 42) (args := [.val (.agg ⟨cfgV ⟨c0, c1, c2, c3, c4, c5, c6, c7, c8, c9, c10, c11⟩⟩)]) (Nat.le_of_ble_eq_true rfl) rfl (A.start w) ?_
  intro g0 _
  refine ⟨rfl, rfl, ?_⟩
  (intro w1 hA; refine (hvd w1).mono ?_; rintro e w2 ⟨rfl, hb⟩; refine ⟨.val _, _, _, rfl, hA.below' hb, ?_⟩)
  refine ⟨fun h => ?_, fun h => ?_⟩
  · have h : v0 ≠ 0 := by simpa using h
    intro w' hA
    refine ⟨?_, hA.bel (by simp)⟩
    rw [hform1 h]; rfl
  have h : v0 = 0 := by simpa using h
  intro g3 hg3
  (intro w1 hA; refine (rows_c w1).mono ?_; rintro e w2 ⟨rfl, hb⟩; refine ⟨.val _, _, _, rfl, hA.below' hb, ?_⟩)
  have hab : Above [(0, (⟨g0, 24, cfgS ⟨c0, c1, c2, c3, c4, c5, c6, c7, c8, c9, c10, c11⟩⟩ : KB))] g3 := fun i kb hi => hg3 i kb (MSub.find (M' := [(0, (⟨g0, 24, cfgS ⟨c0, c1, c2, c3, c4, c5, c6, c7, c8, c9, c10, c11⟩⟩ : KB))]) ⟨rfl, trivial⟩ i kb hi)
  refine ⟨Nat × World, fun x => [(17, .val (.int .i64 x.1)), (16, .val (.agg ⟨rowsV⟩)), (1, .ptr 0 g0 0), (5, .val (.pointer (some ⟨g3, 0, none⟩)))],
    fun _ => [(0, ⟨g0, 24, cfgS ⟨c0, c1, c2, c3, c4, c5, c6, c7, c8, c9, c10, c11⟩⟩)], fun x => [(x.2, Mem.gs [(0, ⟨g0, 24, cfgS ⟨c0, c1, c2, c3, c4, c5, c6, c7, c8, c9, c10, c11⟩⟩)]), (w, fun _ => False)],
    fun x => x.1 ≤ 12 ∧ Lib.IsBuilder 72 5 g3 g3 (Lib.byteCells (T x.1)) x.2 ∧ w.heap.size ≤ g3, fun x => 12 - x.1, ?_, ?_⟩
  · intro w1 hA
    have hb := hA.blk 1 _ rfl
    refine ⟨(0, w1), ⟨by omega, .inl ⟨Nat.le_refl _, .slice none 0 0, ?_, ?_, by simp [Value.ownBlock]⟩, hA.from_start (by simp) 1 rfl⟩, ⟨⟨_, rfl, rfl⟩, ⟨_, rfl, rfl⟩, ⟨_, rfl, rfl⟩, ⟨_, rfl, rfl⟩, trivial⟩, (hA.sub (M' := [(0, (⟨g0, 24, cfgS ⟨c0, c1, c2, c3, c4, c5, c6, c7, c8, c9, c10, c11⟩⟩ : KB))]) ⟨rfl, trivial⟩).now⟩
    · exact hb.heap
    · rw [h00]; exact World.ownsRow_nil _ _ _ _
  rintro ⟨k, wk⟩ ⟨hk, hbu, hg3w⟩
  have hk : k ≤ 12 := hk
  have hbu : Lib.IsBuilder 72 5 g3 g3 (Lib.byteCells (T k)) wk := hbu
  refine ⟨fun hx => ?_, fun hx => ?_⟩
  · have hk12 : k < 12 := by have : (k : Int) < 12 := of_decide_eq_true hx
                             omega
    have hl1 := nameL_short k
    have hl3 := htl k
    have hl4 := hll k
    have hv := hval k hk12
    have hr := hvr k
    rw [hl0] at hl4
    have hlt := hlt k
    rw [hvt] at hl4 hlt
    generalize W k = r at hv hr hl4 hlt
    obtain ⟨⟨xn, xm⟩, ok⟩ := r
    refine ⟨k, rfl, hk12, _, rowsV_at k hk12, ?_⟩
    intro g4 hg4
    refine ⟨rfl, rfl, rfl, rfl, ?_⟩
    refine ⟨rfl, rfl, ?_⟩
    (intro w1 hA; refine (hv w1).mono ?_; rintro e w2 ⟨rfl, hb⟩; refine ⟨.val _, _, _, rfl, hA.below' hb, ?_⟩)
    refine ⟨_, rfl, _, rfl, ?_⟩
    intro g5 hg5
    refine ⟨rfl, rfl, rfl, rfl, ?_⟩
    refine ⟨_, rfl, rfl, ?_⟩
    have hr0 : 0 ≤ xn := hr.1
    have hr1 : xn < 18446744073709551616 := hr.2
    cases xm
    · refine ⟨fun _ => ?_, fun h => Bool.noConfusion h⟩
      refine ⟨_, rfl, rfl, ?_⟩
      obtain ⟨u, rfl⟩ : ∃ u : Nat, xn = u := ⟨xn.toNat, by omega⟩
      intro w1 hA
      refine (formatUint_c u (by omega) w1 (htabB _ (hA.bel (by simp)))).mono ?_
      rintro e w2 ⟨rfl, hb⟩
      refine ⟨.val _, _, _, rfl, hA.below' hb, ?_⟩
      have hd : wideT (⟨(u : Int), false⟩, ok).1 = Lib.decDigits u := by simp [wideT]
      rw [hd] at hl4 hlt
      generalize Lib.decDigits u = D at *
      simp only [List.length_append, List.length_cons, List.length_nil] at hl4
      clear hA hb
      refine ⟨_, rfl, rfl, ?_⟩
      refine ⟨by simp [ByteArray.size]; omega, by simp [ByteArray.size]; omega, by simp [ByteArray.size]; omega, ?_⟩
      intro w3 hA3
      have hA3 := hA3.sub (M' := [(0, (⟨g0, 24, cfgS ⟨c0, c1, c2, c3, c4, c5, c6, c7, c8, c9, c10, c11⟩⟩ : KB))]) ⟨rfl, trivial⟩
      have hbu3 := isBuilder_since hbu (hA3.since (wk, _) (List.Mem.head _)) (fun x hx => Mem.gs_above hab hx)
      have hlt3 : g3 ≤ w3.heap.size := by rcases hbu3 with h | h <;> exact Nat.le_of_lt h.lt
      refine (writeString_any g3 g3 _ _ w3 hbu3 (by rw [Lib.byteCells_length]; simp [ByteArray.size]; omega) hlt3).mono ?_
      rintro e w4 ⟨rfl, hbu4, hb4⟩
      refine ⟨.val _, _, (w4, Mem.gs [(0, ⟨g0, 24, cfgS ⟨c0, c1, c2, c3, c4, c5, c6, c7, c8, c9, c10, c11⟩⟩)]) :: [(w, fun _ => False)], rfl, hA3.belowB hb4 hab (by intro p hp; simp at hp; subst hp; exact ⟨by simp, hg3w⟩), ?_⟩
      refine ⟨_, wrap_in _ (by omega) (by omega), ?_⟩
      intro w' hA
      have hbu' : Lib.IsBuilder 72 5 g3 g3 (Lib.byteCells (T (k + 1))) w4 := by
        refine .inr ?_
        rw [Lib.strCells_eq, ← Lib.byteCells_append] at hbu4
        rw [hlt]
        have e : (⟨(nameL k).toArray⟩ ++ ⟨#[32]⟩ ++ ⟨D.toArray⟩ ++ ⟨#[10]⟩ : ByteArray).data.toList = nameL k ++ [32] ++ D ++ [10] := by simp
        rw [← e]
        exact hbu4
      exact ⟨(k + 1, w4), ⟨by show k + 1 ≤ 12; omega, hbu', hg3w⟩, by show 12 - (k + 1) < 12 - k; omega, ⟨⟨_, rfl, rfl⟩, ⟨_, rfl, rfl⟩, ⟨_, rfl, rfl⟩, ⟨_, rfl, rfl⟩, trivial⟩, hA⟩
    · refine ⟨fun h => Bool.noConfusion h, fun _ => ?_⟩
      have hd : wideT (⟨xn, true⟩, ok).1 = [45, 49] := rfl
      rw [hd] at hl4 hlt
      obtain ⟨D, hD⟩ : ∃ D : Bs, D = [45, 49] := ⟨_, rfl⟩
      rw [← hD] at hl4 hlt
      simp only [List.length_append, List.length_cons, List.length_nil] at hl4
      rw [show (⟨#[45, 49]⟩ : ByteArray) = ⟨D.toArray⟩ by rw [hD]]
      refine ⟨_, rfl, rfl, ?_⟩
      refine ⟨by simp [ByteArray.size]; omega, by simp [ByteArray.size]; omega, by simp [ByteArray.size]; omega, ?_⟩
      intro w3 hA3
      have hA3 := hA3.sub (M' := [(0, (⟨g0, 24, cfgS ⟨c0, c1, c2, c3, c4, c5, c6, c7, c8, c9, c10, c11⟩⟩ : KB))]) ⟨rfl, trivial⟩
      have hbu3 := isBuilder_since hbu (hA3.since (wk, _) (List.Mem.head _)) (fun x hx => Mem.gs_above hab hx)
      have hlt3 : g3 ≤ w3.heap.size := by rcases hbu3 with h | h <;> exact Nat.le_of_lt h.lt
      refine (writeString_any g3 g3 _ _ w3 hbu3 (by rw [Lib.byteCells_length]; simp [ByteArray.size]; omega) hlt3).mono ?_
      rintro e w4 ⟨rfl, hbu4, hb4⟩
      refine ⟨.val _, _, (w4, Mem.gs [(0, ⟨g0, 24, cfgS ⟨c0, c1, c2, c3, c4, c5, c6, c7, c8, c9, c10, c11⟩⟩)]) :: [(w, fun _ => False)], rfl, hA3.belowB hb4 hab (by intro p hp; simp at hp; subst hp; exact ⟨by simp, hg3w⟩), ?_⟩
      refine ⟨_, wrap_in _ (by omega) (by omega), ?_⟩
      intro w' hA
      have hbu' : Lib.IsBuilder 72 5 g3 g3 (Lib.byteCells (T (k + 1))) w4 := by
        refine .inr ?_
        rw [Lib.strCells_eq, ← Lib.byteCells_append] at hbu4
        rw [hlt]
        have e : (⟨(nameL k).toArray⟩ ++ ⟨#[32]⟩ ++ ⟨D.toArray⟩ ++ ⟨#[10]⟩ : ByteArray).data.toList = nameL k ++ [32] ++ D ++ [10] := by simp
        rw [← e]
        exact hbu4
      exact ⟨(k + 1, w4), ⟨by show k + 1 ≤ 12; omega, hbu', hg3w⟩, by show 12 - (k + 1) < 12 - k; omega, ⟨⟨_, rfl, rfl⟩, ⟨_, rfl, rfl⟩, ⟨_, rfl, rfl⟩, ⟨_, rfl, rfl⟩, trivial⟩, hA⟩
  · have e : k = 12 := by have : ¬ (k : Int) < 12 := of_decide_eq_false hx
                          omega
    subst e
    intro w1 hA
    have hbu1 := isBuilder_since hbu (hA.since (wk, _) (List.Mem.head _)) (fun x hx => Mem.gs_above hab hx)
    have hlt1 : g3 ≤ w1.heap.size := by rcases hbu1 with h | h <;> exact Nat.le_of_lt h.lt
    refine (Tryd.Builder_String_any g3 g3 _ w1 hbu1 hlt1).mono ?_
    rintro e w2 ⟨rfl, hb⟩
    refine ⟨.val _, _, [(w2, Mem.gs [(0, ⟨g0, 24, cfgS ⟨c0, c1, c2, c3, c4, c5, c6, c7, c8, c9, c10, c11⟩⟩)]), (w, fun _ => False)], rfl, hA.belowB hb hab (by intro p hp; simp at hp; subst hp; exact ⟨by simp, hg3w⟩), ?_⟩
    intro w' hA
    refine ⟨?_, hA.bel (by simp)⟩
    rw [hform h, h]; rfl
end Go.Proofs.YtllepnadffndnaaDoor
namespace Go.Proofs.YtllepnadffndnaaDoor
open Go.RowKit
theorem okTo_le {c : MConfig} : ∀ {n k : Nat}, okTo c n = true → k < n → okK c k = true
  | 0, k, _, hk => by omega
  | n + 1, k, h, hk => by
    simp only [okTo, Bool.and_eq_true] at h
    by_cases e : k = n
    · subst e; exact h.2
    · exact okTo_le h.1 (by omega)
theorem valid_ok {c : MConfig} (h : validC c = 0) {k : Nat} (hk : k < 12) : okK c k = true := by
  unfold validC at h
  split at h
  · rename_i h2; exact okTo_le h2.1 hk
  · cases h
theorem decDigits_1 : Lib.decDigits 1 = [49] := by simp [Lib.decDigits]
theorem decDigits_0 : Lib.decDigits 0 = [48] := by simp [Lib.decDigits]
theorem rval_eq {c : MConfig} (hc : CfgOK c) {k : Nat} (hk : k < 12) (h9 : k ≠ 9) (hok : okK c k = true) : Lib.itoa (value16 c k) = valT c k := by
  have int : ∀ p : Int, -9223372036854775808 ≤ p → p < 9223372036854775808 → (valInt p).2 = true → Lib.itoa p = wideT (valInt p).1 := by
    intro p h1 h2 h3
    unfold valInt at h3 ⊢
    by_cases hp : p < -1
    · rw [if_pos hp] at h3; cases h3
    · rw [if_neg hp] at h3 ⊢
      by_cases hp2 : p = -1
      · rw [if_pos hp2]
        subst hp2
        simp [Lib.itoa, wideT, decDigits_1]
      · rw [if_neg hp2]
        have hw : IntKind.u64.wrap p = p := wrapu_in _ (by omega) (by omega)
        have hneg : ¬ p < 0 := by omega
        simp [Lib.itoa, wideT, numW, hw, hneg]
  unfold okK at hok
  simp only [Bool.and_eq_true] at hok
  have h : k = 6 ∨ k = 0 ∨ k = 1 ∨ k = 2 ∨ k = 3 ∨ k = 4 ∨ k = 5 ∨ k = 7 ∨ k = 8 ∨ k = 10 ∨ k = 11 := by omega
  rcases h with rfl | h
  · unfold value16 valT valueF
    cases c.keepInvalid <;> simp [Lib.itoa, wideT]
  · have i := hc.int k
    rcases h with rfl | rfl | rfl | rfl | rfl | rfl | rfl | rfl | rfl | rfl
    all_goals exact int _ i.1 i.2 hok.1
set_option maxRecDepth 100000 in
set_option maxHeartbeats 1000000 in
theorem rformat_c (c : MConfig) (hcok : CfgOK c) (w : World) :
    Calls Tryd.prog 18 #[.agg ⟨cfgV c⟩] w fun e w' => e = .returned (.tuple #[.string ⟨(formT c).toArray⟩, .int .i64 (validC c)]) ∧ Below w.heap.size w w' := by
  have hval := rvalue_c c
  have hvd := rvalidate_c c hcok
  have htl := textTo_len hcok
  have hll := lineT_len hcok
  have hform : validC c = 0 → formT c = textTo c 12 := fun h => by rw [formT, if_pos h]
  have hform1 : validC c ≠ 0 → formT c = [] := fun h => by rw [formT, if_neg h]
  have hla := line_app c
  have hl0 : ∀ k, lineT c k = nameL k ++ [32] ++ valT c k ++ [10] := fun _ => rfl
  have h00 : textTo c 0 = [] := rfl
  have hrv : validC c = 0 → ∀ k, k < 12 → k ≠ 9 → Lib.itoa (value16 c k) = valT c k := fun h k hk h9 => rval_eq hcok hk h9 (valid_ok h hk)
  have hr9 : valT c 9 = Lib.decDigits c.price.toNat := rfl
  have hpr := hcok.price
  have hin : ∀ k, In64 (value16 c k) := by
    intro k
    unfold value16
    split
    · cases c.keepInvalid <;> (unfold In64; decide)
    · unfold In64; decide
    · exact hcok.int _
  have hitl : ∀ k, (Lib.itoa (value16 c k)).length ≤ 20 := fun k => itoa_len _ (hin k).1 (hin k).2
  generalize hv0 : validC c = v0 at *
  generalize hT : textTo c = T at *
  generalize hF : formT c = F at *
  generalize hV : valT c = V at *
  generalize hLL : lineT c = LL at *
  generalize hW : value16 c = W at *
  clear hv0 hT hF hV hLL hW hcok
  obtain ⟨c0, c1, c2, c3, c4, c5, c6, c7, c8, c9, c10, c11⟩ := c
  have hpr0 : 0 ≤ c9 := hpr.1
  have hpr1 : c9 < 18446744073709551616 := hpr.2
  have hr9 : V 9 = Lib.decDigits c9.toNat := hr9
  refine calls_of_vc seat Tryd.func18 rfl rfl (Nat.le_of_ble_eq_true rfl) (N := 39) (args := [.val (.agg ⟨cfgV ⟨c0, c1, c2, c3, c4, c5, c6, c7, c8, c9, c10, c11⟩⟩)]) (Nat.le_of_ble_eq_true rfl) rfl (A.start w) ?_
  intro g0 _
  refine ⟨rfl, rfl, ?_⟩
  (intro w1 hA; refine (hvd w1).mono ?_; rintro e w2 ⟨rfl, hb⟩; refine ⟨.val _, _, _, rfl, hA.below' hb, ?_⟩)
  refine ⟨fun h => ?_, fun h => ?_⟩
  · have h : v0 ≠ 0 := by simpa using h
    intro w' hA
    refine ⟨?_, hA.bel (by simp)⟩
    rw [hform1 h]; rfl
  have h : v0 = 0 := by simpa using h
  have hrv := hrv h
  intro w1 hA
  refine (keys_c w1).mono ?_
  rintro e w2 ⟨gk, rfl, hb, hgk, hbk⟩
  refine ⟨.val _, [(1, ⟨gk, 9, keysV.map SV.val⟩), (0, ⟨g0, 24, cfgS ⟨c0, c1, c2, c3, c4, c5, c6, c7, c8, c9, c10, c11⟩⟩)], _, rfl, (hA.adopt hb hgk hbk).sub ⟨rfl, rfl, trivial⟩, ?_⟩
  refine ⟨Nat, fun k => [(16, .val (.int .i64 k)), (15, .val (.int .i64 (12 : Nat))), (14, .val (.slice (some ⟨gk, 0, none⟩) 12 12)), (1, .ptr 0 g0 0), (5, .val (.string ⟨(T k).toArray⟩))],
    fun _ => [(1, ⟨gk, 9, keysV.map SV.val⟩), (0, ⟨g0, 24, cfgS ⟨c0, c1, c2, c3, c4, c5, c6, c7, c8, c9, c10, c11⟩⟩)], fun _ => [(w, fun _ => False)], fun k => k ≤ 12, fun k => 12 - k, ?_, ?_⟩
  · intro w1 hA
    exact ⟨0, by omega, ⟨⟨_, rfl, rfl⟩, ⟨_, rfl, rfl⟩, ⟨_, rfl, rfl⟩, ⟨_, rfl, rfl⟩, ⟨_, rfl, by rw [h00]⟩, trivial⟩, hA.sub ⟨rfl, rfl, trivial⟩⟩
  clear hA hb hbk
  intro k hk
  have hk : k ≤ 12 := hk
  refine ⟨fun hx => ?_, fun hx => ?_⟩
  · have hk12 : k < 12 := by have : (k : Int) < (12 : Nat) := of_decide_eq_true hx
                             omega
    have hl1 := nameL_short k
    have hl3 := htl k
    have hl4 := hll k
    rw [hl0] at hl4
    have hlak := hla k
    refine ⟨gk, 0, k, rfl, rfl, hk12, ?_⟩
    refine ⟨.string ⟨(nameL k).toArray⟩, fun w' hA => ldk seat.tab rfl rfl (i := 1) rfl rfl (nth_val (n := 0 + k * 1) ?_) hA, ?_⟩
    · rw [Nat.zero_add, Nat.mul_one]
      (have h12 : k = 0 ∨ k = 1 ∨ k = 2 ∨ k = 3 ∨ k = 4 ∨ k = 5 ∨ k = 6 ∨ k = 7 ∨ k = 8 ∨ k = 9 ∨ k = 10 ∨ k = 11 := (by omega); rcases h12 with rfl | rfl | rfl | rfl | rfl | rfl | rfl | rfl | rfl | rfl | rfl | rfl <;> rfl)
    refine ⟨rfl, rfl, ?_⟩
    (intro w1 hA; refine (hval k hk12 w1).mono ?_; rintro e w2 ⟨rfl, hb⟩; refine ⟨.val _, _, _, rfl, hA.below' hb, ?_⟩)
    (intro w1 hA; refine (decimal_c (W k) (hin k).1 (hin k).2 w1).mono ?_; rintro e w2 ⟨rfl, hb⟩; refine ⟨.val _, _, _, rfl, hA.below' hb, ?_⟩)
    refine ⟨fun h9 => ?_, fun h9 => ?_⟩
    · have h9 : k = 9 := by have := eq_of_beq h9; omega
      subst h9
      refine ⟨_, rfl, rfl, ?_⟩
      obtain ⟨u, rfl⟩ : ∃ u : Nat, c9 = u := ⟨c9.toNat, by omega⟩
      (intro w1 hA; refine (unsigned_c u (by omega) w1).mono ?_; rintro e w2 ⟨rfl, hb⟩; refine ⟨.val _, _, _, rfl, hA.below' hb, ?_⟩)
      rw [Int.toNat_natCast] at hr9
      rw [hr9] at hl4 hlak
      generalize Lib.decDigits u = D at *
      simp only [List.length_append, List.length_cons, List.length_nil] at hl4
      refine ⟨by simp [ByteArray.size]; omega, by simp [ByteArray.size]; omega, by simp [ByteArray.size]; omega, by simp [ByteArray.size]; omega, ?_⟩
      refine ⟨_, wrap_in _ (by omega) (by omega), ?_⟩
      intro w' hA
      exact ⟨9 + 1, by show 9 + 1 ≤ 12; omega, by show 12 - (9 + 1) < 12 - 9; omega, ⟨⟨_, rfl, rfl⟩, ⟨_, rfl, rfl⟩, ⟨_, rfl, rfl⟩, ⟨_, rfl, rfl⟩, ⟨_, rfl, congrArg Value.string hlak⟩, trivial⟩, hA.sub ⟨rfl, rfl, trivial⟩⟩
    · have h9 : k ≠ 9 := by have := ne_of_beq_false h9; omega
      rw [← hrv k hk12 h9] at hl4 hlak
      generalize Lib.itoa (W k) = D at *
      simp only [List.length_append, List.length_cons, List.length_nil] at hl4
      refine ⟨by simp [ByteArray.size]; omega, by simp [ByteArray.size]; omega, by simp [ByteArray.size]; omega, by simp [ByteArray.size]; omega, ?_⟩
      refine ⟨_, wrap_in _ (by omega) (by omega), ?_⟩
      intro w' hA
      exact ⟨k + 1, by show k + 1 ≤ 12; omega, by show 12 - (k + 1) < 12 - k; omega, ⟨⟨_, rfl, rfl⟩, ⟨_, rfl, rfl⟩, ⟨_, rfl, rfl⟩, ⟨_, rfl, rfl⟩, ⟨_, rfl, congrArg Value.string hlak⟩, trivial⟩, hA.sub ⟨rfl, rfl, trivial⟩⟩
  · have e : k = 12 := by have : ¬ (k : Int) < (12 : Nat) := of_decide_eq_false hx
                          omega
    subst e
    intro w' hA
    refine ⟨?_, hA.bel (by simp)⟩
    rw [hform h, h]; rfl
end Go.Proofs.YtllepnadffndnaaDoor
namespace Go.Proofs.YtllepnadffndnaaDoor
open Go.RowKit
def t1L : Bs := [109, 97, 120, 45, 116, 120, 115, 32, 53, 32, 35, 32, 102, 101, 119, 10, 227, 128, 128, 112, 114, 105, 99, 101, 194, 160, 55, 10]
def t2L : Bs := [35, 32, 120, 10, 112, 114, 105, 99, 101, 32, 48, 49]
theorem known1 : parseSpec t1L = ({ defC with maxTxs := 5, price := 7 }, 0, 0) := by decide +kernel
theorem known2 : parseSpec t2L = (zeroC, 2, 2) := by decide +kernel
theorem known3 : validC defC = 0 := by decide +kernel
theorem known4 : 100 < (formT defC).length := by decide +kernel
theorem known5 : (formT defC).take 12 = [109, 97, 120, 45, 116, 120, 115, 32, 49, 48, 48, 10] := by decide +kernel
theorem ba_ext {a b : ByteArray} (h : a.data.toList = b.data.toList) : a = b := by
  cases a; cases b
  simpa using Array.toList_inj.1 h
theorem defC_ok : CfgOK defC := by
  refine ⟨fun k => ?_, by decide⟩
  unfold intF
  split <;> decide
theorem fmt_def : ∃ fb : ByteArray, 100 < fb.size ∧ fb.extract 0 12 = ⟨#[109, 97, 120, 45, 116, 120, 115, 32, 49, 48, 48, 10]⟩ ∧ ∀ (w : World), Lib.TabIs Tryd.prog w "internal/strconv.uint64pow10" .u64 Lib.pow10Tab →
    Calls Tryd.prog 17 #[.agg ⟨cfgV defC⟩] w fun e w' => e = .returned (.tuple #[.string fb, .int .i64 0]) ∧ Below w.heap.size w w' := by
  refine ⟨⟨(formT defC).toArray⟩, ?_, ?_, ?_⟩
  · have := known4
    simpa [ByteArray.size] using this
  · refine ba_ext ?_
    rw [Lib.extract_from_zero]
    exact known5
  · have hf := cformat_c defC defC_ok
    rw [known3] at hf
    exact hf
theorem parse1 (w : World) (hlib : ∀ w', Below w.heap.size w w' → LibOK w') : Calls Tryd.prog 19 #[.string ⟨#[109, 97, 120, 45, 116, 120, 115, 32, 53, 32, 35, 32, 102, 101, 119, 10, 227, 128, 128, 112, 114, 105, 99, 101, 194, 160, 55, 10]⟩] w fun e w' => e = .returned (.tuple #[.agg ⟨cfgV ⟨5, 65536, 1024, 200, 0, 0, false, 32768, -1, 7, 0, 1⟩⟩, .int .i64 0, .int .i64 0]) ∧ Below w.heap.size w w' := by
  have hp1 := pparse_c ⟨t1L.toArray⟩ w hlib
  rw [show (⟨t1L.toArray⟩ : ByteArray).data.toList = t1L from rfl, known1] at hp1
  exact hp1
theorem parse2 (w : World) (hlib : ∀ w', Below w.heap.size w w' → LibOK w') : Calls Tryd.prog 19 #[.string ⟨#[35, 32, 120, 10, 112, 114, 105, 99, 101, 32, 48, 49]⟩] w fun e w' => e = .returned (.tuple #[.agg ⟨cfgV ⟨0, 0, 0, 0, 0, 0, false, 0, 0, 0, 0, 0⟩⟩, .int .i64 2, .int .i64 2]) ∧ Below w.heap.size w w' := by
  have hp1 := pparse_c ⟨t2L.toArray⟩ w hlib
  rw [show (⟨t2L.toArray⟩ : ByteArray).data.toList = t2L from rfl, known2] at hp1
  exact hp1
set_option maxRecDepth 100000 in
set_option maxHeartbeats 1000000 in
theorem known_c (w : World) (hlib : ∀ w', Below w.heap.size w w' → LibOK w') : Calls Tryd.prog 11 #[] w fun e w' => e = .returned (.bool true) ∧ Below w.heap.size w w' := by
  obtain ⟨fb, k1, k2, hf⟩ := fmt_def
  have k1' : decide ((100 : Int) < (fb.size : Int)) = true := decide_eq_true (by omega)
  refine calls_of_vc seat Tryd.func11 rfl rfl (Nat.le_of_ble_eq_true rfl) (N := 67) (args := []) (Nat.le_of_ble_eq_true rfl) rfl (A.start w) ?_
  intro w1 hA
  refine (parse1 w1 (fun w' hb => hlib w' ((hA.below' hb).bel (by simp)))).mono ?_
  rintro e w2 ⟨rfl, hb⟩
  refine ⟨.val _, _, _, rfl, hA.below' hb, ?_⟩
  clear hA hb
  refine ⟨_, rfl, _, rfl, _, rfl, ?_⟩
  intro g0 _
  refine ⟨rfl, rfl, rfl, rfl, ?_⟩
  intro w1 hA
  refine (parse2 w1 (fun w' hb => hlib w' ((hA.below' hb).bel (by simp)))).mono ?_
  rintro e w2 ⟨rfl, hb⟩
  refine ⟨.val _, _, _, rfl, hA.below' hb, ?_⟩
  clear hA hb
  refine ⟨_, rfl, _, rfl, _, rfl, ?_⟩
  intro g1 _
  refine ⟨rfl, rfl, rfl, rfl, ?_⟩
  (intro w1 hA; refine (default_c w1).mono ?_; rintro e w2 ⟨rfl, hb⟩; refine ⟨.val _, _, _, rfl, hA.below' hb, ?_⟩)
  intro w1 hA
  refine (hf w1 (hlib w1 (hA.bel (by simp))).pow10).mono ?_
  rintro e w2 ⟨rfl, hb⟩
  refine ⟨.val _, _, _, rfl, hA.below' hb, ?_⟩
  clear hA hb
  refine ⟨_, rfl, _, rfl, ?_⟩
  repeat (first | refine ⟨fun _ => ?_, fun h => absurd h (by decide)⟩ | refine ⟨_, rfl, rfl, ?_⟩)
  refine ⟨fun _ => ?_, fun h => absurd (k1'.symm.trans h) (by decide)⟩
  refine ⟨12, rfl, by omega, by omega, _, k2, ?_⟩
  intro w' hA
  exact ⟨congrArg (fun b => Ending.returned (Value.bool b)) (beq_self_eq_true _), hA.bel (by simp)⟩
theorem cfg_inj {c d : MConfig} (h : cfgV c = cfgV d) : c = d := by
  obtain ⟨c0, c1, c2, c3, c4, c5, c6, c7, c8, c9, c10, c11⟩ := c
  obtain ⟨d0, d1, d2, d3, d4, d5, d6, d7, d8, d9, d10, d11⟩ := d
  simpa [cfgV] using h
set_option maxRecDepth 100000 in
theorem cfg_conf (c : MConfig) : confT tab 9 24 (cfgV c) := by
  obtain ⟨c0, c1, c2, c3, c4, c5, c6, c7, c8, c9, c10, c11⟩ := c
  exact confB_out rfl
set_option maxRecDepth 100000 in
theorem cfg_cmp (c d : MConfig) (x y : Operand) (w : World) : (do eqGuard .eql 24 x y (.agg ⟨cfgV c⟩) (.agg ⟨cfgV d⟩); binOp .eql 24 (.agg ⟨cfgV c⟩) (.agg ⟨cfgV d⟩) : Sem Value).run Tryd.prog w = .ok (.bool (decide (c = d))) w ∧
    (do eqGuard .neq 24 x y (.agg ⟨cfgV c⟩) (.agg ⟨cfgV d⟩); binOp .neq 24 (.agg ⟨cfgV c⟩) (.agg ⟨cfgV d⟩) : Sem Value).run Tryd.prog w = .ok (.bool (!decide (c = d))) w := by
  obtain ⟨b, h1, h2, h3⟩ := run_eq_flat (P := Tryd.prog) (T := tab) seat.tab (t := 24) rfl rfl (by kernel_rfl) (by kernel_rfl) x y (cfg_conf c) (cfg_conf d)
  have : b = decide (c = d) := by
    rw [Bool.eq_iff_iff, h3, decide_eq_true_eq]
    exact ⟨cfg_inj, fun e => by rw [e]⟩
  rw [← this]
  exact ⟨h1 w, h2 w⟩
theorem cfg_same (c : MConfig) (x y : Operand) (w : World) : (do eqGuard .eql 24 x y (.agg ⟨cfgV c⟩) (.agg ⟨cfgV c⟩); binOp .eql 24 (.agg ⟨cfgV c⟩) (.agg ⟨cfgV c⟩) : Sem Value).run Tryd.prog w = .ok (.bool true) w := by
  have := (cfg_cmp c c x y w).1
  rw [this]; simp
theorem cfg_same' (c : MConfig) (x y : Operand) (w : World) : (do eqGuard .neq 24 x y (.agg ⟨cfgV c⟩) (.agg ⟨cfgV c⟩); binOp .neq 24 (.agg ⟨cfgV c⟩) (.agg ⟨cfgV c⟩) : Sem Value).run Tryd.prog w = .ok (.bool false) w := by
  have := (cfg_cmp c c x y w).2
  rw [this]; simp
set_option maxRecDepth 100000 in
theorem parses_c (s : ByteArray) (hs : s.size ≤ 140737488355328) (w : World) (hlib : ∀ w', Below w.heap.size w w' → LibOK w') : Calls Tryd.prog 20 #[.string s] w fun e w' => e = .returned (.bool true) ∧ Below w.heap.size w w' := by
  have hp := pparse_c s
  have hr := rparse_c s hs
  generalize parseSpec s.data.toList = res at hp hr
  obtain ⟨⟨c0, c1, c2, c3, c4, c5, c6, c7, c8, c9, c10, c11⟩, i, e⟩ := res
  refine calls_of_vc seat Tryd.func20 rfl rfl (Nat.le_of_ble_eq_true rfl) (N := 34) (args := [.val (.string s)]) (Nat.le_of_ble_eq_true rfl) rfl (A.start w) ?_
  intro w1 hA
  refine (hp w1 (fun w' hb => hlib w' ((hA.below' hb).bel (by simp)))).mono ?_
  rintro e w2 ⟨rfl, hb⟩
  refine ⟨.val _, _, _, rfl, hA.below' hb, ?_⟩
  clear hA hb
  refine ⟨_, rfl, _, rfl, _, rfl, ?_⟩
  intro g0 _
  refine ⟨rfl, rfl, rfl, rfl, ?_⟩
  (intro w1 hA; refine (hr w1).mono ?_; rintro e w2 ⟨rfl, hb⟩; refine ⟨.val _, _, _, rfl, hA.below' hb, ?_⟩)
  refine ⟨_, rfl, _, rfl, _, rfl, ?_⟩
  intro g1 _
  refine ⟨rfl, rfl, rfl, rfl, ?_⟩
  refine ⟨rfl, rfl, ?_⟩
  refine ⟨rfl, rfl, ?_⟩
  refine ⟨.bool true, fun w' _ => cfg_same ⟨c0, c1, c2, c3, c4, c5, c6, c7, c8, c9, c10, c11⟩ _ _ w', ?_⟩
  refine ⟨fun _ => ?_, fun h => Bool.noConfusion h⟩
  refine ⟨fun _ => ?_, fun h => absurd ((beq_self_eq_true i).symm.trans h) (by decide)⟩
  intro w' hA
  exact ⟨congrArg (fun b => Ending.returned (Value.bool b)) (beq_self_eq_true _), hA.bel (by simp)⟩
def sumLen (ls : List (List Int)) : Nat := ls.foldl (fun n l => n + l.length) 0
end Go.Proofs.YtllepnadffndnaaDoor
namespace Go.Proofs.YtllepnadffndnaaDoor
theorem validS_app2 : ∀ (n : Nat) (a b : Bs), a.length ≤ n → validS a = true → validS (a ++ b) = validS b
  | n, [], b, _, _ => rfl
  | 0, x :: a, b, h, _ => by simp at h
  | n + 1, x :: a, b, h, hv => by
    have hne : (x :: a : Bs) ≠ [] := by simp
    have h0 : runeLen (x :: a) ≠ 0 := by intro h0; rw [validS_bad hne h0] at hv; cases hv
    have hle := runeLen_le hne
    generalize hl : (x :: a : Bs) = l at *
    have e : l ++ b = l.take (runeLen l) ++ (l.drop (runeLen l) ++ b) := by rw [← List.append_assoc, List.take_append_drop]
    rw [e, validS_app hne h0]
    rw [validS_step hne h0] at hv
    exact validS_app2 n _ b (by rw [List.length_drop]; omega) hv
theorem runesOf_app : ∀ (n : Nat) (a b : Bs), a.length ≤ n → validS a = true → runesOf (a ++ b) = runesOf a ++ runesOf b
  | n, [], b, _, _ => by rw [runesOf_nil]; rfl
  | 0, x :: a, b, h, _ => by simp at h
  | n + 1, x :: a, b, h, hv => by
    have hne : (x :: a : Bs) ≠ [] := by simp
    have h0 : runeLen (x :: a) ≠ 0 := by intro h0; rw [validS_bad hne h0] at hv; cases hv
    have hle := runeLen_le hne
    generalize hl : (x :: a : Bs) = l at *
    have e : l ++ b = l.take (runeLen l) ++ (l.drop (runeLen l) ++ b) := by rw [← List.append_assoc, List.take_append_drop]
    have hr : runeLen (l ++ b) = runeLen l := by rw [e]; exact runeLen_app hne h0 _
    have hne2 : l ++ b ≠ [] := by simp [hne]
    rw [runesOf_step hne h0, runesOf_step hne2 (by rw [hr]; exact h0), hr, List.take_append_of_le_length hle, List.drop_append_of_le_length hle]
    rw [validS_step hne h0] at hv
    rw [runesOf_app n _ b (by rw [List.length_drop]; omega) hv]
    rfl
theorem runeLen_ascii {x : UInt8} (l : Bs) (h : x.toNat < 128) : runeLen (x :: l) = 1 := by
  have e := runeLen_int (x :: l)
  have hb : byteAt (x :: l) 0 = x := rfl
  rw [hb] at e
  have : runeI (x.toNat : Int) (byteAt (x :: l) 1).toNat (followB (x :: l) 1) (followB (x :: l) 2) (followB (x :: l) 3) = 1 := by
    unfold runeI
    rw [if_pos (by simp; omega)]
  rw [this] at e
  omega
theorem valid_ascii : ∀ (l : Bs), (∀ x ∈ l, x.toNat < 128) → validS l = true
  | [], _ => validS_nil
  | x :: l, h => by
    have h1 := runeLen_ascii l (h x (by simp))
    rw [validS_step (by simp) (by omega), h1]
    exact valid_ascii l fun y hy => h y (by simp [hy])
theorem runes_ascii : ∀ (l : Bs), (∀ x ∈ l, x.toNat < 128) → runesOf l = l.map fun x => [x]
  | [], _ => runesOf_nil
  | x :: l, h => by
    have h1 := runeLen_ascii l (h x (by simp))
    rw [runesOf_step (by simp) (by omega), h1]
    simp only [List.take_succ_cons, List.take_zero, List.drop_succ_cons, List.drop_zero, List.map_cons]
    rw [runes_ascii l fun y hy => h y (by simp [hy])]
def wordB (x : UInt8) : Bool := decide (x.toNat < 128) && !(x == 35) && !(x == 32) && !(x == 9)
theorem wordB_out {x : UInt8} (h : wordB x = true) : x.toNat < 128 ∧ ([x] : Bs) ≠ [35] ∧ spaceB [x] = false := by
  unfold wordB at h
  simp only [Bool.and_eq_true, Bool.not_eq_true', decide_eq_true_eq, beq_eq_false_iff_ne] at h
  obtain ⟨⟨⟨h1, h2⟩, h3⟩, h4⟩ := h
  refine ⟨h1, by simpa using h2, ?_⟩
  simp [spaceB, h3, h4]
theorem wordsGo_word : ∀ (t : Bs) (rs : List Bs) (w : Bs) (acc : List Bs), (∀ x ∈ t, wordB x = true) → wordsGo ((t.map fun x => [x]) ++ rs) w acc = wordsGo rs (w ++ t) acc
  | [], rs, w, acc, _ => by simp
  | x :: t, rs, w, acc, h => by
    obtain ⟨h1, h2, h3⟩ := wordB_out (h x (by simp))
    show wordsGo ([x] :: ((t.map fun x => [x]) ++ rs)) w acc = _
    rw [wordsGo, if_neg h2, if_neg (by rw [h3]; simp), wordsGo_word t rs _ acc fun y hy => h y (by simp [hy])]
    simp
theorem wordsGo_spaces : ∀ (t : List Bs) (rs : List Bs) (acc : List Bs), (∀ x ∈ t, x ≠ [35] ∧ spaceB x = true) → wordsGo (t ++ rs) [] acc = wordsGo rs [] acc
  | [], rs, acc, _ => rfl
  | x :: t, rs, acc, h => by
    obtain ⟨h2, h3⟩ := h x (by simp)
    show wordsGo (x :: (t ++ rs)) [] acc = _
    rw [wordsGo, if_neg h2, if_pos h3, if_pos rfl]
    exact wordsGo_spaces t rs acc fun y hy => h y (by simp [hy])
def endK : List Bs → Bool
  | [] => true
  | r :: rs => r == [35] || (spaceB r && endK rs)
theorem wordsGo_end : ∀ (rs : List Bs) (w : Bs) (acc : List Bs), endK rs = true → wordsGo rs w acc = if w = [] then acc else acc ++ [w]
  | [], w, acc, _ => rfl
  | r :: rs, w, acc, h => by
    by_cases h1 : r = [35]
    · subst h1; simp [wordsGo]
    · have h2 : spaceB r = true ∧ endK rs = true := by simpa [endK, h1] using h
      rw [wordsGo, if_neg h1, if_pos h2.1]
      split
      · rename_i hw
        rw [wordsGo_end rs [] acc h2.2]; simp
      · rename_i hw
        rw [wordsGo_end rs [] _ h2.2]; simp
def pads6 : List Bs := [[], [32], [9, 9], [194, 160], [226, 128, 131, 32], [227, 128, 128]]
def coms3 : List Bs := [[], [35, 32, 120], [32, 35, 195, 169, 35]]
theorem pads_ok : ∀ p ∈ pads6, validS p = true ∧ (∀ x ∈ runesOf p, x ≠ [35] ∧ spaceB x = true) ∧ endK (runesOf p) = true ∧ (∀ x ∈ p, x ≠ 10) ∧ p.length ≤ 4 := by decide +kernel
theorem ends_ok : ∀ p ∈ pads6, ∀ q ∈ coms3, validS (p ++ q) = true ∧ endK (runesOf (p ++ q)) = true ∧ (∀ x ∈ p ++ q, x ≠ 10) ∧ (p ++ q).length ≤ 9 := by decide +kernel
theorem words_pad {p a b e : Bs} (hpv : validS p = true) (hps : ∀ x ∈ runesOf p, x ≠ [35] ∧ spaceB x = true) (ha : ∀ x ∈ a, wordB x = true) (hb : ∀ x ∈ b, wordB x = true) (hane : a ≠ []) (hbne : b ≠ []) (he : endK (runesOf e) = true) :
    wordsOf (p ++ (a ++ [32] ++ b) ++ e) = [a, b] := by
  have haA : ∀ x ∈ a ++ [32] ++ b, x.toNat < 128 := by
    intro x hx
    simp only [List.mem_append, List.mem_singleton] at hx
    rcases hx with (h | h) | h
    · exact (wordB_out (ha x h)).1
    · subst h; decide
    · exact (wordB_out (hb x h)).1
  unfold wordsOf
  rw [List.append_assoc, runesOf_app _ p _ (Nat.le_refl _) hpv, runesOf_app _ _ e (Nat.le_refl _) (valid_ascii _ haA), runes_ascii _ haA, wordsGo_spaces _ _ _ hps]
  rw [List.map_append, List.map_append, List.append_assoc, List.append_assoc, wordsGo_word a _ _ _ ha]
  show wordsGo ([32] :: (b.map (fun x => [x]) ++ runesOf e)) ([] ++ a) [] = _
  rw [wordsGo, if_neg (by decide), if_pos (by decide), if_neg (by simpa using hane), wordsGo_word b _ _ _ hb, wordsGo_end _ _ _ he]
  simp [hbne]
theorem words_blank {e : Bs} (he : endK (runesOf e) = true) : wordsOf e = [] := by
  unfold wordsOf
  rw [wordsGo_end _ _ _ he, if_pos rfl]
theorem valid_pad {p a b e : Bs} (hpv : validS p = true) (ha : ∀ x ∈ a, wordB x = true) (hb : ∀ x ∈ b, wordB x = true) (he : validS e = true) : validS (p ++ (a ++ [32] ++ b) ++ e) = true := by
  have haA : ∀ x ∈ a ++ [32] ++ b, x.toNat < 128 := by
    intro x hx
    simp only [List.mem_append, List.mem_singleton] at hx
    rcases hx with (h | h) | h
    · exact (wordB_out (ha x h)).1
    · subst h; decide
    · exact (wordB_out (hb x h)).1
  rw [List.append_assoc, validS_app2 _ p _ (Nat.le_refl _) hpv, validS_app2 _ _ e (Nat.le_refl _) (valid_ascii _ haA), he]
theorem linesOf_cut : ∀ (x r : Bs), (∀ y ∈ x, y ≠ 10) → linesOf (x ++ 10 :: r) = x :: linesOf r
  | [], r, _ => by simp [linesOf]
  | c :: x, r, h => by
    have ih := linesOf_cut x r fun y hy => h y (by simp [hy])
    have hc : c ≠ 10 := h c (by simp)
    show linesOf (c :: (x ++ 10 :: r)) = _
    rw [linesOf, if_neg hc, ih]
def joinL : List Bs → Bs
  | [] => []
  | x :: l => x ++ 10 :: joinL l
theorem joinL_app (a b : List Bs) : joinL (a ++ b) = joinL a ++ joinL b := by
  induction a with
  | nil => rfl
  | cons x a ih => simp [joinL, ih]
theorem lines_join : ∀ (l : List Bs), (∀ x ∈ l, ∀ y ∈ x, y ≠ 10) → linesOf (joinL l) = l ++ [[]]
  | [], _ => rfl
  | x :: l, h => by
    rw [joinL, linesOf_cut _ _ (h x (by simp)), lines_join l fun y hy => h y (by simp [hy])]
    rfl
theorem valid_join : ∀ (l : List Bs), (∀ x ∈ l, validS x = true) → validS (joinL l) = true
  | [], _ => validS_nil
  | x :: l, h => by
    rw [joinL, validS_app2 _ x _ (Nat.le_refl _) (h x (by simp))]
    have := runeLen_ascii (x := 10) (joinL l) (by decide)
    rw [validS_step (by simp) (by omega), this]
    exact valid_join l fun y hy => h y (by simp [hy])
theorem ofNat_toNat {n : Nat} (h : n < 256) : (UInt8.ofNat n).toNat = n := by simp [Nat.mod_eq_of_lt h]
theorem digit_ofNat {d : Nat} (h : d < 10) : digitB (UInt8.ofNat (48 + d)) = true := by
  unfold digitB
  rw [ofNat_toNat (by omega)]
  simp; omega
theorem dec_all : ∀ (n u : Nat), u ≤ n → ∀ x ∈ Lib.decDigits u, digitB x = true
  | n, u, h, x, hx => by
    rw [Lib.decDigits] at hx
    split at hx
    · rename_i h10
      rw [List.mem_singleton] at hx; subst hx; exact digit_ofNat (d := u) h10
    · rw [List.mem_append] at hx
      rcases hx with hx | hx
      · cases n with
        | zero => omega
        | succ n => exact dec_all n _ (by omega) x hx
      · rw [List.mem_singleton] at hx; subst hx; exact digit_ofNat (d := u % 10) (by omega)
theorem decVal_app (a : Bs) (x : UInt8) : decVal (a ++ [x]) = decVal a * 10 + (x.toNat - 48) := by simp [decVal, List.foldl_append]
theorem dec_val : ∀ (n u : Nat), u ≤ n → decVal (Lib.decDigits u) = u
  | n, u, h => by
    rw [Lib.decDigits]
    split
    · show 0 * 10 + ((UInt8.ofNat (48 + u)).toNat - 48) = u
      rw [ofNat_toNat (by omega)]; omega
    · cases n with
      | zero => omega
      | succ n => rw [decVal_app, dec_val n _ (by omega), ofNat_toNat (by omega)]; omega
theorem dec_ne (u : Nat) : Lib.decDigits u ≠ [] := by
  rw [Lib.decDigits]
  split <;> simp
theorem dec_head : ∀ (n u : Nat), u ≤ n → 10 ≤ u → byteAt (Lib.decDigits u) 0 ≠ 48
  | n, u, h, h10 => by
    rw [Lib.decDigits, dif_neg (by omega)]
    have e : byteAt (Lib.decDigits (u / 10) ++ [UInt8.ofNat (48 + u % 10)]) 0 = byteAt (Lib.decDigits (u / 10)) 0 := by
      have := List.length_pos_iff.2 (dec_ne (u / 10))
      unfold byteAt
      rw [List.getElem?_append_left this]
    rw [e]
    by_cases h2 : 10 ≤ u / 10
    · cases n with
      | zero => omega
      | succ n => exact dec_head n _ (by omega) h2
    · rw [Lib.decDigits, dif_pos (by omega)]
      show UInt8.ofNat (48 + u / 10) ≠ 48
      intro e
      have := congrArg UInt8.toNat e
      rw [ofNat_toNat (by omega)] at this
      simp at this
      omega
theorem dec_digits (u : Nat) : digitsB (Lib.decDigits u) = true := by
  unfold digitsB
  have h1 : (Lib.decDigits u).all digitB = true := List.all_eq_true.2 (dec_all u u (Nat.le_refl _))
  have h2 := dec_ne u
  rw [h1]
  by_cases h : 10 ≤ u
  · have := dec_head u u (Nat.le_refl _) h
    simp [h2, this]
  · rw [Lib.decDigits, dif_pos (by omega)]
    simp
theorem dec_number {u : Nat} (h : u < 18446744073709551616) : numberB (Lib.decDigits u) = some u := by
  unfold numberB
  rw [dec_digits, dec_val u u (Nat.le_refl _)]
  simp [h]
theorem digit_word {x : UInt8} (h : digitB x = true) : wordB x = true := by
  unfold digitB at h
  simp at h
  unfold wordB
  simp only [Bool.and_eq_true, Bool.not_eq_true', decide_eq_true_eq, beq_eq_false_iff_ne]
  refine ⟨⟨⟨by omega, ?_⟩, ?_⟩, ?_⟩ <;> (intro e; subst e; simp at h)
end Go.Proofs.YtllepnadffndnaaDoor
namespace Go.Proofs.YtllepnadffndnaaDoor
def fieldI (c : MConfig) : Nat → Int
  | 6 => if c.keepInvalid then 1 else 0
  | 9 => c.price
  | i => intF c i
theorem cfg_ext {c d : MConfig} (h : ∀ k, k < 12 → fieldI c k = fieldI d k) : c = d := by
  obtain ⟨a0, a1, a2, a3, a4, a5, a6, a7, a8, a9, a10, a11⟩ := c
  obtain ⟨b0, b1, b2, b3, b4, b5, b6, b7, b8, b9, b10, b11⟩ := d
  have h0 := h 0 (by decide)
  have h1 := h 1 (by decide)
  have h2 := h 2 (by decide)
  have h3 := h 3 (by decide)
  have h4 := h 4 (by decide)
  have h5 := h 5 (by decide)
  have h6 := h 6 (by decide)
  have h7 := h 7 (by decide)
  have h8 := h 8 (by decide)
  have h9 := h 9 (by decide)
  have h10 := h 10 (by decide)
  have h11 := h 11 (by decide)
  simp only [fieldI, intF] at h0 h1 h2 h3 h4 h5 h6 h7 h8 h9 h10 h11
  have h6' : a6 = b6 := by cases a6 <;> cases b6 <;> simp_all
  subst h0 h1 h2 h3 h4 h5 h6' h7 h8 h9 h10 h11
  rfl
def putC (c d : MConfig) (k : Nat) : MConfig := if k = 9 then setP d c.price else setI d k (value16 c k)
theorem putC_field (c d : MConfig) {k j : Nat} (hk : k < 12) (hj : j < 12) : fieldI (putC c d k) j = if j = k then fieldI c j else fieldI d j := by
  obtain ⟨b0, b1, b2, b3, b4, b5, b6, b7, b8, b9, b10, b11⟩ := d
  obtain ⟨a0, a1, a2, a3, a4, a5, a6, a7, a8, a9, a10, a11⟩ := c
  have h : k = 0 ∨ k = 1 ∨ k = 2 ∨ k = 3 ∨ k = 4 ∨ k = 5 ∨ k = 6 ∨ k = 7 ∨ k = 8 ∨ k = 9 ∨ k = 10 ∨ k = 11 := by omega
  have h' : j = 0 ∨ j = 1 ∨ j = 2 ∨ j = 3 ∨ j = 4 ∨ j = 5 ∨ j = 6 ∨ j = 7 ∨ j = 8 ∨ j = 9 ∨ j = 10 ∨ j = 11 := by omega
  rcases h with rfl | rfl | rfl | rfl | rfl | rfl | rfl | rfl | rfl | rfl | rfl | rfl <;> rcases h' with rfl | rfl | rfl | rfl | rfl | rfl | rfl | rfl | rfl | rfl | rfl | rfl <;> first | rfl | (cases a6 <;> rfl)
theorem okTo_true {c : MConfig} : ∀ {n k : Nat}, okTo c n = true → k < n → okK c k = true
  | n + 1, k, h, hk => by
    simp only [okTo, Bool.and_eq_true] at h
    by_cases e : k = n
    · subst e; exact h.2
    · exact okTo_true h.1 (by omega)
theorem validC_out {c : MConfig} (h : validC c = 0) : (∀ k, k < 12 → okK c k = true) ∧ ¬ c.self ≥ c.nodes := by
  unfold validC at h
  split at h
  · rename_i h1
    exact ⟨fun k hk => okTo_true h1.1 hk, h1.2⟩
  · cases h
theorem numW_n {p : Int} (h1 : 0 ≤ p) (h2 : p < 18446744073709551616) : wideT (numW p) = Lib.decDigits p.toNat := by
  simp [wideT, numW, wrap_u64 p h1 h2]
theorem valT_num {c : MConfig} (hok : CfgOK c) {k : Nat} (hk : k < 12) (h9 : k ≠ 9) (h0 : 0 ≤ value16 c k) : valT c k = Lib.decDigits (value16 c k).toNat := by
  have key : k ≠ 6 → valT c k = wideT (valInt (intF c k)).1 ∧ value16 c k = intF c k := by
    intro h6
    refine twelve (p := fun k => k ≠ 6 → k ≠ 9 → valT c k = wideT (valInt (intF c k)).1 ∧ value16 c k = intF c k) hk ?_ ?_ ?_ ?_ ?_ ?_ ?_ ?_ ?_ ?_ ?_ ?_ h6 h9 <;> intro h6 h9 <;> first | exact ⟨rfl, rfl⟩ | exact absurd rfl h6 | exact absurd rfl h9
  by_cases h6 : k = 6
  · subst h6
    show wideT (if c.keepInvalid then ⟨1, false⟩ else ⟨0, false⟩) = Lib.decDigits (if c.keepInvalid then (1 : Int) else 0).toNat
    cases c.keepInvalid <;> rfl
  · obtain ⟨h1, h2⟩ := key h6
    rw [h1, h2]
    rw [h2] at h0
    have := hok.int k
    unfold valInt
    rw [if_neg (by omega), if_neg (by omega)]
    exact numW_n h0 (by omega)
theorem valT_m1 {c : MConfig} {k : Nat} (h8 : k = 8) (h : value16 c k = -1) : valT c k = [45, 49] := by
  subst h8
  have h' : c.blockGas = -1 := h
  show wideT (valInt c.blockGas).1 = _
  rw [h']; rfl
theorem inRange {c : MConfig} (hok : CfgOK c) {k : Nat} (hk : k < 12) (h9 : k ≠ 9) (h : okK c k = true) : leastI k ≤ value16 c k ∧ value16 c k ≤ greatI k := by
  rw [ok16_eq hok hk] at h
  unfold ok16 at h
  simp [h9] at h
  omega
theorem least_nn {k : Nat} (h8 : k ≠ 8) : 0 ≤ leastI k := by
  unfold leastI
  split <;> first | omega | exact absurd rfl h8
theorem set_putC {c : MConfig} (hok : CfgOK c) {k : Nat} (hk : k < 12) (h : okK c k = true) (d : MConfig) : setSpec d k (valT c k) = (putC c d k, 0) := by
  by_cases h9 : k = 9
  · have hp := hok.price
    have e : valT c k = Lib.decDigits c.price.toNat := by subst h9; rfl
    rw [e, setSpec_price (by rintro ⟨h8, _⟩; omega) (dec_number (by omega)) h9]
    unfold putC
    rw [if_pos h9]
    congr 2
    omega
  · obtain ⟨h1, h2⟩ := inRange hok hk h9 h
    have hp : putC c d k = setI d k (value16 c k) := by unfold putC; rw [if_neg h9]
    by_cases hm : value16 c k = -1
    · have h8 : k = 8 := by
        rcases Nat.decEq k 8 with h8 | h8
        · have := least_nn h8; omega
        · exact h8
      rw [valT_m1 h8 hm, setSpec_m1 h8 rfl, hp, hm, h8]
    · have hl := leastI_range k
      have h0 : 0 ≤ value16 c k := by omega
      have hg := greatI_pos k
      rw [valT_num hok hk h9 h0]
      have hne : ¬ (k = 8 ∧ Lib.decDigits (value16 c k).toNat = [45, 49]) := by
        rintro ⟨_, e⟩
        have := dec_digits (value16 c k).toNat
        rw [e] at this
        exact absurd this (by decide)
      rw [setSpec_ok hne (dec_number (by omega)) h9 (by omega), hp]
      congr 2
      omega
theorem name_word {k : Nat} (hk : k < 12) : nameL k ≠ [] ∧ ∀ x ∈ nameL k, wordB x = true := by
  have key : ∀ k, k < 12 → nameL k ≠ [] ∧ ∀ x ∈ nameL k, wordB x = true := by decide
  exact key k hk
theorem val_word (c : MConfig) (k : Nat) : valT c k ≠ [] ∧ ∀ x ∈ valT c k, wordB x = true := by
  unfold valT wideT
  split
  · decide
  · exact ⟨dec_ne _, fun x hx => digit_word (dec_all _ _ (Nat.le_refl _) x hx)⟩
theorem word_no10 {l : Bs} (h : ∀ x ∈ l, wordB x = true) : ∀ x ∈ l, wordB x = true := h
theorem val_no10 (c : MConfig) (k : Nat) : ∀ x ∈ valT c k, x ≠ 10 := by
  unfold valT wideT
  split
  · decide
  · intro x hx e
    have := dec_all _ _ (Nat.le_refl _) x hx
    subst e
    exact absurd this (by decide)
theorem name_no10 {k : Nat} (hk : k < 12) : ∀ x ∈ nameL k, x ≠ 10 := by
  have key : ∀ k, k < 12 → ∀ x ∈ nameL k, x ≠ 10 := by decide
  exact key k hk
theorem goSpec_run {c : MConfig} (hok : CfgOK c) (hv : validC c = 0) : ∀ (ls : List Bs) (ks : List Nat) (i : Nat) (d : MConfig) (seen : List Nat),
    (ls.map wordsOf).filter (fun w => !w.isEmpty) = ks.map (fun k => [nameL k, valT c k]) → (∀ k ∈ ks, k < 12 ∧ k ∉ seen) → ks.Nodup → (∀ k, k < 12 → k ∈ ks ∨ k ∈ seen) → (∀ k ∈ seen, k < 12 ∧ fieldI d k = fieldI c k) → goSpec ls i d seen = (c, 0, 0)
  | [], ks, i, d, seen, hw, _, _, hall, hs => by
    have hk : ks = [] := by
      cases ks with
      | nil => rfl
      | cons a r => simp at hw
    subst hk
    have e : d = c := cfg_ext fun k hk => by
      rcases hall k hk with h | h
      · cases h
      · exact (hs k h).2
    subst e
    unfold goSpec
    rw [if_neg (validC_out hv).2]
  | l :: ls, ks, i, d, seen, hw, hks, hnd, hall, hs => by
    by_cases he : wordsOf l = []
    · unfold goSpec
      rw [if_pos he]
      refine goSpec_run hok hv ls ks _ d seen ?_ hks hnd hall hs
      simpa [he] using hw
    · have hw' : wordsOf l :: (ls.map wordsOf).filter (fun w => !w.isEmpty) = ks.map (fun k => [nameL k, valT c k]) := by
        rw [← hw]
        simp [he]
      cases ks with
      | nil => cases hw'
      | cons k ks =>
        rw [List.map_cons] at hw'
        injection hw' with h1 h2
        obtain ⟨hk, hns⟩ := hks k (by simp)
        have hl : lineSpec d seen (wordsOf l) = (0, putC c d k, k :: seen) := by
          rw [h1]
          show (match keyIdx (nameL k) with | none => _ | some k => _) = _
          rw [keyIdx_name hk]
          show (if k ∈ seen then _ else _) = _
          rw [if_neg hns, set_putC hok hk ((validC_out hv).1 k hk)]
        unfold goSpec
        rw [if_neg he, hl, if_neg (by simp)]
        rw [List.nodup_cons] at hnd
        refine goSpec_run hok hv ls ks _ _ _ h2 ?_ hnd.2 ?_ ?_
        · intro j hj
          refine ⟨(hks j (by simp [hj])).1, ?_⟩
          rw [List.mem_cons]
          rintro (rfl | h)
          · exact hnd.1 hj
          · exact (hks j (by simp [hj])).2 h
        · intro j hj
          rcases hall j hj with h | h
          · rcases List.mem_cons.1 h with rfl | h
            · exact .inr (by simp)
            · exact .inl h
          · exact .inr (by simp [h])
        · intro j hj
          rcases List.mem_cons.1 hj with rfl | h
          · exact ⟨hk, by rw [putC_field _ _ hk hk, if_pos rfl]⟩
          · obtain ⟨hj12, hf⟩ := hs j h
            refine ⟨hj12, ?_⟩
            rw [putC_field _ _ hk hj12]
            split
            · rfl
            · exact hf
theorem parse_lines {c : MConfig} (hok : CfgOK c) (hv : validC c = 0) (L : List Bs) (ks : List Nat) (hw : (L.map wordsOf).filter (fun w => !w.isEmpty) = ks.map (fun k => [nameL k, valT c k])) (hks : ∀ k ∈ ks, k < 12) (hnd : ks.Nodup) (hall : ∀ k, k < 12 → k ∈ ks)
    (hval : ∀ x ∈ L, validS x = true) (h10 : ∀ x ∈ L, ∀ y ∈ x, y ≠ 10) (hlen : (joinL L).length ≤ 4096) : parseSpec (joinL L) = (c, 0, 0) := by
  unfold parseSpec
  rw [if_neg (by omega), if_neg (by rw [valid_join L hval]; simp), lines_join L h10]
  refine goSpec_run hok hv _ ks 0 defC [] ?_ (fun k hk => ⟨hks k hk, by simp⟩) hnd (fun k hk => .inl (hall k hk)) (by simp)
  rw [List.map_append, List.filter_append, hw]
  simp [show wordsOf [] = [] from by unfold wordsOf; rw [runesOf_nil]; rfl]
def lineK (c : MConfig) (k : Nat) : Bs := nameL k ++ [32] ++ valT c k
theorem textTo_join (c : MConfig) : ∀ n, textTo c n = joinL ((List.range n).map (lineK c))
  | 0 => rfl
  | n + 1 => by
    rw [textTo, textTo_join c n, List.range_succ, List.map_append, joinL_app]
    simp [joinL, lineT, lineK]
theorem parse_form {c : MConfig} (hok : CfgOK c) (hv : validC c = 0) : parseSpec (formT c) = (c, 0, 0) := by
  have hl := textTo_len hok 12
  unfold formT
  rw [if_pos hv]
  rw [textTo_join] at hl ⊢
  refine parse_lines hok hv _ (List.range 12) ?_ (fun k hk => List.mem_range.1 hk) List.nodup_range (fun k hk => List.mem_range.2 hk) ?_ ?_ (by omega)
  · rw [List.map_map]
    have : ∀ ks : List Nat, (∀ k ∈ ks, k < 12) → (ks.map (wordsOf ∘ lineK c)).filter (fun w => !w.isEmpty) = ks.map (fun k => [nameL k, valT c k]) := by
      intro ks
      induction ks with
      | nil => intro _; rfl
      | cons k ks ih =>
        intro h
        have hw := words_pad (p := []) (e := []) (a := nameL k) (b := valT c k) validS_nil (by rw [runesOf_nil]; simp) (name_word (h k (by simp))).2 (val_word c k).2 (name_word (h k (by simp))).1 (val_word c k).1 (by rw [runesOf_nil]; rfl)
        simp only [List.nil_append, List.append_nil] at hw
        simp only [List.map_cons, Function.comp, lineK]
        rw [List.filter_cons, hw]
        simp only [List.isEmpty_cons, Bool.not_false, if_true]
        congr 1
        exact ih fun j hj => h j (by simp [hj])
    exact this _ fun k hk => List.mem_range.1 hk
  · intro x hx
    obtain ⟨k, hk, rfl⟩ := List.mem_map.1 hx
    have hv := valid_pad (p := []) (e := []) (a := nameL k) (b := valT c k) validS_nil (name_word (List.mem_range.1 hk)).2 (val_word c k).2 validS_nil
    simpa [lineK] using hv
  · intro x hx y hy
    obtain ⟨k, hk, rfl⟩ := List.mem_map.1 hx
    simp only [lineK, List.mem_append, List.mem_singleton] at hy
    rcases hy with (h | h) | h
    · exact name_no10 (List.mem_range.1 hk) y h
    · subst h; decide
    · exact val_no10 c k y h
end Go.Proofs.YtllepnadffndnaaDoor
namespace Go.Proofs.YtllepnadffndnaaDoor
open Go.RowKit
section
variable {Pg : Program} {T : Tab} {N : Nat} {ents : List FuncId} {G : GS} {n0 : Nat}
def SeqQ (Pg : Program) (T : Tab) (N : Nat) (ents : List FuncId) (G : GS) (n0 : Nat) (y : Code) (Q : Exit → VK) : Exit → VK := fun e E M n => match e with | .normal => vC Pg T N ents G n0 y Q E M n | e => Q e E M n
def BlockQ (id : Nat) (Q : Exit → VK) : Exit → VK := fun e E M n => match e with | .exit i => (bif Nat.beq i id then Q .normal E M n else Q (.exit i) E M n) | e => Q e E M n
def LoopQ (n0 : Nat) {X : Type} (E' : X → VE) (M' : X → VM) (n' : Nat) (I : X → Prop) (μ : X → Nat) (x : X) (Q : Exit → VK) : Exit → VK := fun e E1 M1 n1 => match e with | .normal => ∃ x', I x' ∧ μ x' < μ x ∧ VMatch n0 (E' x') (M' x') n' E1 M1 | e => Q e E1 M1 n1
variable {Q : Exit → VK} {E : VE} {M : VM} {n : Nat} {x y c : Code} {id i : Nat}
theorem c_seq (h : vC Pg T N ents G n0 x (SeqQ Pg T N ents G n0 y Q) E M n) : vC Pg T N ents G n0 (.seq x y) Q E M n := h
theorem c_skip (h : Q .normal E M n) : vC Pg T N ents G n0 .skip Q E M n := h
theorem c_label {l : Nat} (h : Q .normal E M n) : vC Pg T N ents G n0 (.label l) Q E M n := h
theorem c_exit (h : Q (.exit id) E M n) : vC Pg T N ents G n0 (.exit id) Q E M n := h
theorem c_ret (h : Q .ret E M n) : vC Pg T N ents G n0 .ret Q E M n := h
theorem c_block (h : vC Pg T N ents G n0 c (BlockQ id Q) E M n) : vC Pg T N ents G n0 (.block id c) Q E M n := h
theorem c_region {l : List Oper} (h : vOpsN Pg T N ents G (List.toArray l) l (Q .normal) E M n) : vC Pg T N ents G n0 (.region id (List.toArray l) false) Q E M n := h
theorem c_draw {ops : Array Oper} (L : List (Nat × Bool)) (h : vOpsD Pg T N ents G ops L [] (Q .normal) E M n) : vC Pg T N ents G n0 (.region id ops true) Q E M n := ⟨L, h⟩
theorem c_cond {o : Operand} {t : Bool} (he : evM (VE.get E) o = some (.bool t)) (h1 : t = true → vC Pg T N ents G n0 x Q E M n) (h2 : t = false → vC Pg T N ents G n0 y Q E M n) : vC Pg T N ents G n0 (.cond o x y) Q E M n := by
  unfold vC; rw [he]; exact ⟨h1, h2⟩
theorem c_condT {o : Operand} (he : evM (VE.get E) o = some (.bool true)) (h : vC Pg T N ents G n0 x Q E M n) : vC Pg T N ents G n0 (.cond o x y) Q E M n := c_cond he (fun _ => h) (fun h => Bool.noConfusion h)
theorem c_condF {o : Operand} (he : evM (VE.get E) o = some (.bool false)) (h : vC Pg T N ents G n0 y Q E M n) : vC Pg T N ents G n0 (.cond o x y) Q E M n := c_cond he (fun h => Bool.noConfusion h) (fun _ => h)
theorem c_loop (X : Type) (E' : X → VE) (M' : X → VM) (n' : Nat) (I : X → Prop) (μ : X → Nat) (x0 : X) (hI : I x0) (hm : VMatch n0 (E' x0) (M' x0) n' E M) (h : ∀ x, I x → vC Pg T N ents G n0 c (LoopQ n0 E' M' n' I μ x Q) (E' x) (M' x) n') : vC Pg T N ents G n0 (.loop c) Q E M n := ⟨X, E', M', n', I, μ, ⟨x0, hI, hm⟩, h⟩
theorem seqQ_n (h : vC Pg T N ents G n0 y Q E M n) : SeqQ Pg T N ents G n0 y Q .normal E M n := h
theorem seqQ_x (h : Q (.exit i) E M n) : SeqQ Pg T N ents G n0 y Q (.exit i) E M n := h
theorem seqQ_r (h : Q .ret E M n) : SeqQ Pg T N ents G n0 y Q .ret E M n := h
theorem blockQ_n (h : Q .normal E M n) : BlockQ id Q .normal E M n := h
theorem blockQ_r (h : Q .ret E M n) : BlockQ id Q .ret E M n := h
theorem blockQ_x (hb : Nat.beq i id = true) (h : Q .normal E M n) : BlockQ id Q (.exit i) E M n := by
  show (bif Nat.beq i id then _ else _); rw [hb]; exact h
theorem blockQ_y (hb : Nat.beq i id = false) (h : Q (.exit i) E M n) : BlockQ id Q (.exit i) E M n := by
  show (bif Nat.beq i id then _ else _); rw [hb]; exact h
theorem loopQ_x {X : Type} {E' : X → VE} {M' : X → VM} {n' : Nat} {I : X → Prop} {μ : X → Nat} {x : X} (h : Q (.exit i) E M n) : LoopQ n0 E' M' n' I μ x Q (.exit i) E M n := h
theorem loopQ_r {X : Type} {E' : X → VE} {M' : X → VM} {n' : Nat} {I : X → Prop} {μ : X → Nat} {x : X} (h : Q .ret E M n) : LoopQ n0 E' M' n' I μ x Q .ret E M n := h
theorem loopQ_n {X : Type} {E' : X → VE} {M' : X → VM} {n' : Nat} {I : X → Prop} {μ : X → Nat} {x : X} (x' : X) (hI : I x') (hμ : μ x' < μ x) (hm : VMatch n0 (E' x') (M' x') n' E M) : LoopQ n0 E' M' n' I μ x Q .normal E M n := ⟨x', hI, hμ, hm⟩
def vOpsG (Pg : Program) (T : Tab) (N : Nat) (ents : List FuncId) (G : GS) (ops : Array Oper) (o : Oper) (rest : List Oper) (K : VK) (E : VE) (M : VM) (n : Nat) : Prop :=
  vRunN Pg T ents G o E M n fun r M n => vPut N o.dst r E fun E => vOpsN Pg T N ents G ops rest K E M n
def plainO : Op → Bool
  | .call c => match c.callee with
    | .value _ => false
    | _ => true
  | _ => true
variable {ops : Array Oper} {dst : Option Tmp} {d : Tmp} {op : Op} {ty : TypeId} {pos : String} {after : Array Edge} {g : Option (Nat × Bool)} {rest : List Oper} {K : VK} {r : MV} {δ : Dl} {o : Oper} {j s : Nat} {want t : Bool}
theorem n_nil (h : K E M n) : vOpsN Pg T N ents G ops [] K E M n := h
theorem n_go (h : vOpsG Pg T N ents G ops ⟨dst, op, ty, pos, after, none⟩ rest K E M n) : vOpsN Pg T N ents G ops (⟨dst, op, ty, pos, after, none⟩ :: rest) K E M n := h
theorem n_guard (hs : (ops[j]?).bind (·.dst) = some s) (hv : VE.get E s = some (.bool t)) (h1 : t = want → vOpsG Pg T N ents G ops ⟨some d, op, ty, pos, after, some (j, want)⟩ rest K ((s, .bool want) :: E) M n) (hd : Nat.blt d N = true)
    (h2 : t = !want → vOpsN Pg T N ents G ops rest K ((d, .undef) :: (s, .bool (!want)) :: E) M (n + 1)) : vOpsN Pg T N ents G ops (⟨some d, op, ty, pos, after, some (j, want)⟩ :: rest) K E M n := by
  unfold vOpsN vOpN
  simp only [hs, hv]
  refine ⟨h1, fun ht => ?_⟩
  unfold vPut
  simp only [hd]
  exact h2 ht
theorem n_guardY (hs : (ops[j]?).bind (·.dst) = some s) (hv : VE.get E s = some (.bool want)) (h : vOpsG Pg T N ents G ops ⟨dst, op, ty, pos, after, some (j, want)⟩ rest K ((s, .bool want) :: E) M n) : vOpsN Pg T N ents G ops (⟨dst, op, ty, pos, after, some (j, want)⟩ :: rest) K E M n := by
  unfold vOpsN vOpN
  simp only [hs, hv]
  exact ⟨fun _ => h, fun ht => by cases want <;> cases ht⟩
theorem n_guardN (hs : (ops[j]?).bind (·.dst) = some s) (hv : VE.get E s = some (.bool (!want))) (hd : Nat.blt d N = true) (h : vOpsN Pg T N ents G ops rest K ((d, .undef) :: (s, .bool (!want)) :: E) M (n + 1)) : vOpsN Pg T N ents G ops (⟨some d, op, ty, pos, after, some (j, want)⟩ :: rest) K E M n :=
  n_guard hs hv (fun ht => by cases want <;> cases ht) hd (fun _ => h)
theorem n_guardU (hs : (ops[j]?).bind (·.dst) = some s) (hv : VE.get E s = some .undef) (hd : Nat.blt d N = true) (h : vOpsN Pg T N ents G ops rest K ((d, .undef) :: E) M (n + 1)) : vOpsN Pg T N ents G ops (⟨some d, op, ty, pos, after, some (j, want)⟩ :: rest) K E M n := by
  unfold vOpsN vOpN
  simp only [hs, hv]
  unfold vPut
  simp only [hd]
  exact h
theorem n_app {l1 l2 : List Oper} (h : vOpsN Pg T N ents G ops (o :: List.append l1 l2) K E M n) : vOpsN Pg T N ents G ops (List.append (o :: l1) l2) K E M n := h
theorem n_app0 {l2 : List Oper} (h : vOpsN Pg T N ents G ops l2 K E M n) : vOpsN Pg T N ents G ops (List.append [] l2) K E M n := h
theorem g_run (hq : nilQ T E ⟨dst, op, ty, pos, after, g⟩ = none) (hv : plainO op = true) (he : ∀ R : MV × Dl → Prop, R (r, δ) → (eOp Pg T (VE.get E) (VM.get M) n ⟨dst, op, ty, pos, after, g⟩).runP R)
    (h : vPut N dst r E fun E => vOpsN Pg T N ents G ops rest K E (δ.app n M) (n + 1)) : vOpsG Pg T N ents G ops ⟨dst, op, ty, pos, after, g⟩ rest K E M n := by
  unfold vOpsG vRunN
  rw [hq]
  show vRunP Pg T ents G _ E M n _
  cases op with
  | call c =>
    obtain ⟨callee, args, ats⟩ := c
    cases callee with
    | value f => cases hv
    | builtin b => exact he _ h
    | invoke r n => exact he _ h
  | _ => exact he _ h
theorem g_val (hq : nilQ T E ⟨some d, op, ty, pos, after, g⟩ = none) (hv : plainO op = true) (he : ∀ R : MV × Dl → Prop, R (r, .none) → (eOp Pg T (VE.get E) (VM.get M) n ⟨some d, op, ty, pos, after, g⟩).runP R) (hd : Nat.blt d N = true)
    (h : vOpsN Pg T N ents G ops rest K ((d, r) :: E) M (n + 1)) : vOpsG Pg T N ents G ops ⟨some d, op, ty, pos, after, g⟩ rest K E M n := by
  refine g_run hq hv he ?_
  unfold vPut
  simp only [hd]
  exact h
theorem g_mem (hq : nilQ T E ⟨some d, op, ty, pos, after, g⟩ = none) (hv : plainO op = true) (he : ∀ R : MV × Dl → Prop, R (r, δ) → (eOp Pg T (VE.get E) (VM.get M) n ⟨some d, op, ty, pos, after, g⟩).runP R) (hd : Nat.blt d N = true)
    (h : vOpsN Pg T N ents G ops rest K ((d, r) :: E) (δ.app n M) (n + 1)) : vOpsG Pg T N ents G ops ⟨some d, op, ty, pos, after, g⟩ rest K E M n := by
  refine g_run hq hv he ?_
  unfold vPut
  simp only [hd]
  exact h
theorem g_none (hq : nilQ T E ⟨none, op, ty, pos, after, g⟩ = none) (hv : plainO op = true) (he : ∀ R : MV × Dl → Prop, R (r, δ) → (eOp Pg T (VE.get E) (VM.get M) n ⟨none, op, ty, pos, after, g⟩).runP R)
    (h : vOpsN Pg T N ents G ops rest K E (δ.app n M) (n + 1)) : vOpsG Pg T N ents G ops ⟨none, op, ty, pos, after, g⟩ rest K E M n := g_run hq hv he h
theorem g_nil {k : Nat} {neg : Bool} (hq : nilQ T E ⟨some d, op, ty, pos, after, g⟩ = some (k, neg)) (hd : Nat.blt d N = true) (h : ∀ b : Bool, (b = true → k = 0) → vOpsN Pg T N ents G ops rest K ((d, .bool (bif neg then !b else b)) :: E) M (n + 1)) : vOpsG Pg T N ents G ops ⟨some d, op, ty, pos, after, g⟩ rest K E M n := by
  unfold vOpsG vRunN
  rw [hq]
  intro b hb
  unfold vPut
  simp only [hd]
  have := h b hb
  cases neg <;> exact this
section
variable {f : Operand} {args : Array Operand} {ats : Array TypeId} {f0 : FuncId} {vs : List MV} {bs : List (Nat × Nat)} {res : MV}
theorem g_callV (hd : ∀ d, dst = some d → Nat.blt d N = true) (h1 : ∀ R : FuncId × List MV × List (Nat × Nat) → Prop, R (f0, vs, bs) → (vCall E M f args.toList).runP R) (h2 : ents.contains f0 = true) (hc : SemC Pg G f0 vs res)
    (h : vOpsN Pg T N ents G ops rest K (match dst with | some d => (d, res) :: E | none => E) (VM.bump M bs) (n + 1)) : vOpsG Pg T N ents G ops ⟨dst, .call ⟨.value f, args, ats⟩, ty, pos, after, g⟩ rest K E M n := by
  show (vRun Pg T ents G _ E M n _) ∨ _
  refine .inl ?_
  show (vCall E M f args.toList).runP _
  refine h1 _ ?_
  show (match ents.contains f0 with | true => ∃ res, SemC Pg G f0 vs res ∧ _ | false => False)
  rw [h2]
  refine ⟨res, hc, ?_⟩
  unfold vPut
  cases dst with
  | none => exact h
  | some d =>
    simp only [hd d rfl]
    exact h
theorem g_callR (hd : ∀ d, dst = some d → Nat.blt d N = true) (h1 : ∀ R : FuncId × List MV → Prop, R (f0, vs) → (vArgs E f args.toList).runP R) (h2 : ents.contains f0 = true) {args' : List MV} {M0 : VM} {n0 : Nat} {M1 : VM} {n1 : Nat} (hc : SemR Pg G f0 args' M0 n0 res M1 n1) (σ bs : List (Nat × Nat))
    (hm : LMatch 0 args' M0 n0 vs M σ bs) (h3 : allIn M σ = true) (h4 : M1.all (fun x => Nat.blt x.1 n1) = true) (h : vOpsN Pg T N ents G ops rest K (match dst with | some d => (d, renV (rho n σ) res) :: E | none => E) (renM (rho n σ) M1 ++ delM (VM.bump M bs) σ) (n + n1)) :
    vOpsG Pg T N ents G ops ⟨dst, .call ⟨.value f, args, ats⟩, ty, pos, after, g⟩ rest K E M n := by
  show (vRun Pg T ents G _ E M n _) ∨ (vArgs E f args.toList).runP _
  refine .inr (h1 _ ?_)
  show (match ents.contains f0 with | true => vCallR Pg G SemR M n f0 vs _ | false => vCallR Pg G SemP M n f0 vs _)
  rw [h2]
  refine ⟨args', M0, n0, res, M1, n1, hc, σ, bs, hm, h3, h4, ?_⟩
  unfold vPut
  cases dst with
  | none => exact h
  | some d =>
    simp only [hd d rfl]
    exact h
theorem g_callP (hd : ∀ d, dst = some d → Nat.blt d N = true) (h1 : ∀ R : FuncId × List MV → Prop, R (f0, vs) → (vArgs E f args.toList).runP R) (h2 : ents.contains f0 = false) {args' : List MV} {M0 : VM} {n0 : Nat} {M1 : VM} {n1 : Nat} (hc : SemP Pg G f0 args' M0 n0 res M1 n1) (σ bs : List (Nat × Nat))
    (hm : LMatch 0 args' M0 n0 vs M σ bs) (h3 : allIn M σ = true) (h4 : M1.all (fun x => Nat.blt x.1 n1) = true) (h : vOpsN Pg T N ents G ops rest K (match dst with | some d => (d, renV (rho n σ) res) :: E | none => E) (renM (rho n σ) M1 ++ delM (VM.bump M bs) σ) (n + n1)) :
    vOpsG Pg T N ents G ops ⟨dst, .call ⟨.value f, args, ats⟩, ty, pos, after, g⟩ rest K E M n := by
  show (vRun Pg T ents G _ E M n _) ∨ (vArgs E f args.toList).runP _
  refine .inr (h1 _ ?_)
  show (match ents.contains f0 with | true => vCallR Pg G SemR M n f0 vs _ | false => vCallR Pg G SemP M n f0 vs _)
  rw [h2]
  refine ⟨args', M0, n0, res, M1, n1, hc, σ, bs, hm, h3, h4, ?_⟩
  unfold vPut
  cases dst with
  | none => exact h
  | some d =>
    simp only [hd d rfl]
    exact h
end
def okO (T : Tab) (N : Nat) (E : VE) (o : Oper) : Bool := (match nilQ T E o with | none => true | some _ => false) && (plainO o.op && (match o.dst with | some d => Nat.blt d N | none => true))
theorem okO_out (h : okO T N E o = true) : nilQ T E o = none ∧ plainO o.op = true ∧ ∀ d, o.dst = some d → Nat.blt d N = true := by
  unfold okO at h
  simp only [Bool.and_eq_true] at h
  obtain ⟨h1, h2, h3⟩ := h
  refine ⟨?_, h2, fun d hd => ?_⟩
  · split at h1
    · assumption
    · cases h1
  · rw [hd] at h3; exact h3
theorem n_val (hb : okO T N E ⟨some d, op, ty, pos, after, none⟩ = true) (he : ∀ R : MV × Dl → Prop, R (r, .none) → (eOp Pg T (VE.get E) (VM.get M) n ⟨some d, op, ty, pos, after, none⟩).runP R) (h : vOpsN Pg T N ents G ops rest K ((d, r) :: E) M (n + 1)) : vOpsN Pg T N ents G ops (⟨some d, op, ty, pos, after, none⟩ :: rest) K E M n :=
  n_go (g_val (okO_out hb).1 (okO_out hb).2.1 he ((okO_out hb).2.2 d rfl) h)
theorem n_mem (hb : okO T N E ⟨some d, op, ty, pos, after, none⟩ = true) (he : ∀ R : MV × Dl → Prop, R (r, δ) → (eOp Pg T (VE.get E) (VM.get M) n ⟨some d, op, ty, pos, after, none⟩).runP R) (h : vOpsN Pg T N ents G ops rest K ((d, r) :: E) (δ.app n M) (n + 1)) : vOpsN Pg T N ents G ops (⟨some d, op, ty, pos, after, none⟩ :: rest) K E M n :=
  n_go (g_mem (okO_out hb).1 (okO_out hb).2.1 he ((okO_out hb).2.2 d rfl) h)
theorem n_none (hb : okO T N E ⟨none, op, ty, pos, after, none⟩ = true) (he : ∀ R : MV × Dl → Prop, R (r, δ) → (eOp Pg T (VE.get E) (VM.get M) n ⟨none, op, ty, pos, after, none⟩).runP R) (h : vOpsN Pg T N ents G ops rest K E (δ.app n M) (n + 1)) : vOpsN Pg T N ents G ops (⟨none, op, ty, pos, after, none⟩ :: rest) K E M n :=
  n_go (g_none (okO_out hb).1 (okO_out hb).2.1 he h)
theorem n_valY (hs : (ops[j]?).bind (·.dst) = some s) (hv : VE.get E s = some (.bool want)) (hb : okO T N ((s, .bool want) :: E) ⟨some d, op, ty, pos, after, some (j, want)⟩ = true) (he : ∀ R : MV × Dl → Prop, R (r, .none) → (eOp Pg T (VE.get ((s, .bool want) :: E)) (VM.get M) n ⟨some d, op, ty, pos, after, some (j, want)⟩).runP R)
    (h : vOpsN Pg T N ents G ops rest K ((d, r) :: (s, .bool want) :: E) M (n + 1)) : vOpsN Pg T N ents G ops (⟨some d, op, ty, pos, after, some (j, want)⟩ :: rest) K E M n :=
  n_guardY hs hv (g_val (okO_out hb).1 (okO_out hb).2.1 he ((okO_out hb).2.2 d rfl) h)
theorem c_seqR {l : List Oper} (h : vOpsN Pg T N ents G (List.toArray l) l (SeqQ Pg T N ents G n0 y Q .normal) E M n) : vC Pg T N ents G n0 (.seq (.region id (List.toArray l) false) y) Q E M n := h
theorem n_nilS (h : vC Pg T N ents G n0 y Q E M n) : vOpsN Pg T N ents G ops [] (SeqQ Pg T N ents G n0 y Q .normal) E M n := h
section
variable {f : Operand} {args : Array Operand} {ats : Array TypeId} {f0 : FuncId} {vs : List MV} {bs : List (Nat × Nat)} {res : MV}
theorem g_callV1 (hd : Nat.blt d N = true) (h1 : ∀ R : FuncId × List MV × List (Nat × Nat) → Prop, R (f0, vs, bs) → (vCall E M f args.toList).runP R) (h2 : ents.contains f0 = true) (hc : SemC Pg G f0 vs res)
    (h : vOpsN Pg T N ents G ops rest K ((d, res) :: E) (VM.bump M bs) (n + 1)) : vOpsG Pg T N ents G ops ⟨some d, .call ⟨.value f, args, ats⟩, ty, pos, after, g⟩ rest K E M n := g_callV (fun d' e => by injection e with e; subst e; exact hd) h1 h2 hc h
theorem g_callV0 (h1 : ∀ R : FuncId × List MV × List (Nat × Nat) → Prop, R (f0, vs, bs) → (vCall E M f args.toList).runP R) (h2 : ents.contains f0 = true) (hc : SemC Pg G f0 vs res)
    (h : vOpsN Pg T N ents G ops rest K E (VM.bump M bs) (n + 1)) : vOpsG Pg T N ents G ops ⟨none, .call ⟨.value f, args, ats⟩, ty, pos, after, g⟩ rest K E M n := g_callV (fun _ e => nomatch e) h1 h2 hc h
theorem g_callR1 (hd : Nat.blt d N = true) (h1 : ∀ R : FuncId × List MV → Prop, R (f0, vs) → (vArgs E f args.toList).runP R) (h2 : ents.contains f0 = true) {args' : List MV} {M0 : VM} {n0 : Nat} {M1 : VM} {n1 : Nat} (hc : SemR Pg G f0 args' M0 n0 res M1 n1) (σ bs : List (Nat × Nat))
    (hm : LMatch 0 args' M0 n0 vs M σ bs) (h3 : allIn M σ = true) (h4 : M1.all (fun x => Nat.blt x.1 n1) = true) (h : vOpsN Pg T N ents G ops rest K ((d, renV (rho n σ) res) :: E) (renM (rho n σ) M1 ++ delM (VM.bump M bs) σ) (n + n1)) :
    vOpsG Pg T N ents G ops ⟨some d, .call ⟨.value f, args, ats⟩, ty, pos, after, g⟩ rest K E M n := g_callR (fun d' e => by injection e with e; subst e; exact hd) h1 h2 hc σ bs hm h3 h4 h
theorem g_callR0 (h1 : ∀ R : FuncId × List MV → Prop, R (f0, vs) → (vArgs E f args.toList).runP R) (h2 : ents.contains f0 = true) {args' : List MV} {M0 : VM} {n0 : Nat} {M1 : VM} {n1 : Nat} (hc : SemR Pg G f0 args' M0 n0 res M1 n1) (σ bs : List (Nat × Nat))
    (hm : LMatch 0 args' M0 n0 vs M σ bs) (h3 : allIn M σ = true) (h4 : M1.all (fun x => Nat.blt x.1 n1) = true) (h : vOpsN Pg T N ents G ops rest K E (renM (rho n σ) M1 ++ delM (VM.bump M bs) σ) (n + n1)) :
    vOpsG Pg T N ents G ops ⟨none, .call ⟨.value f, args, ats⟩, ty, pos, after, g⟩ rest K E M n := g_callR (fun _ e => nomatch e) h1 h2 hc σ bs hm h3 h4 h
theorem g_callP1 (hd : Nat.blt d N = true) (h1 : ∀ R : FuncId × List MV → Prop, R (f0, vs) → (vArgs E f args.toList).runP R) (h2 : ents.contains f0 = false) {args' : List MV} {M0 : VM} {n0 : Nat} {M1 : VM} {n1 : Nat} (hc : SemP Pg G f0 args' M0 n0 res M1 n1) (σ bs : List (Nat × Nat))
    (hm : LMatch 0 args' M0 n0 vs M σ bs) (h3 : allIn M σ = true) (h4 : M1.all (fun x => Nat.blt x.1 n1) = true) (h : vOpsN Pg T N ents G ops rest K ((d, renV (rho n σ) res) :: E) (renM (rho n σ) M1 ++ delM (VM.bump M bs) σ) (n + n1)) :
    vOpsG Pg T N ents G ops ⟨some d, .call ⟨.value f, args, ats⟩, ty, pos, after, g⟩ rest K E M n := g_callP (fun d' e => by injection e with e; subst e; exact hd) h1 h2 hc σ bs hm h3 h4 h
theorem g_callP0 (h1 : ∀ R : FuncId × List MV → Prop, R (f0, vs) → (vArgs E f args.toList).runP R) (h2 : ents.contains f0 = false) {args' : List MV} {M0 : VM} {n0 : Nat} {M1 : VM} {n1 : Nat} (hc : SemP Pg G f0 args' M0 n0 res M1 n1) (σ bs : List (Nat × Nat))
    (hm : LMatch 0 args' M0 n0 vs M σ bs) (h3 : allIn M σ = true) (h4 : M1.all (fun x => Nat.blt x.1 n1) = true) (h : vOpsN Pg T N ents G ops rest K E (renM (rho n σ) M1 ++ delM (VM.bump M bs) σ) (n + n1)) :
    vOpsG Pg T N ents G ops ⟨none, .call ⟨.value f, args, ats⟩, ty, pos, after, g⟩ rest K E M n := g_callP (fun _ e => nomatch e) h1 h2 hc σ bs hm h3 h4 h
end
theorem vOpsN_callR {f : Operand} {args : Array Operand} {ats : Array TypeId} {f0 : FuncId} {vs : List MV}
    (h1 : ∀ R : FuncId × List MV → Prop, R (f0, vs) → (vArgs E f args.toList).runP R) (h2 : ents.contains f0 = true) {args' : List MV} {M0 : VM} {n0 : Nat} {res : MV} {M1 : VM} {n1 : Nat} (hc : SemR Pg G f0 args' M0 n0 res M1 n1) (σ bs : List (Nat × Nat))
    (hm : LMatch 0 args' M0 n0 vs M σ bs) (h3 : allIn M σ = true) (h4 : M1.all (fun x => Nat.blt x.1 n1) = true) (hk : vPut N dst (renV (rho n σ) res) E fun E => vOpsN Pg T N ents G ops rest K E (renM (rho n σ) M1 ++ delM (VM.bump M bs) σ) (n + n1)) :
    vOpsN Pg T N ents G ops (⟨dst, .call ⟨.value f, args, ats⟩, ty, pos, after, none⟩ :: rest) K E M n := by
  show (vRun Pg T ents G _ E M n _) ∨ (vArgs E f args.toList).runP _
  refine .inr (h1 _ ?_)
  show (match ents.contains f0 with | true => vCallR Pg G SemR M n f0 vs _ | false => vCallR Pg G SemP M n f0 vs _)
  rw [h2]
  exact ⟨args', M0, n0, res, M1, n1, hc, σ, bs, hm, h3, h4, hk⟩
end
end Go.Proofs.YtllepnadffndnaaDoor
namespace Go.Proofs.YtllepnadffndnaaDoor
open Go.RowKit
section
variable {Pg : Program} {T : Tab} {N : Nat} {ents : List FuncId} {G : GS} {ops : Array Oper} {dst : Option Tmp} {d : Tmp} {op : Op} {ty : TypeId} {pos : String} {after : Array Edge} {g : Option (Nat × Bool)} {K : VK} {r : MV} {δ : Dl} {o : Oper} {j s k : Nat} {want t rf : Bool}
  {E : VE} {M : VM} {n : Nat} {J : List Nat → VE → VM → Prop} {L : List (Nat × Bool)} {A : List Dop} {fp : List Nat}
def NextD (Pg : Program) (T : Tab) (N : Nat) (ents : List FuncId) (G : GS) (ops : Array Oper) (L : List (Nat × Bool)) (A : List Dop) (K : VK) (k n : Nat) (rf : Bool) : List Nat → VE → VM → Prop := fun fp E M => vOpsD Pg T N ents G ops L (⟨k, n, rf, fp⟩ :: A) K E M (n + 1)
theorem d_end (ho : okDraw ops A.reverse = true) (h : K E M n) : vOpsD Pg T N ents G ops [] A K E M n := ⟨ho, h⟩
def nthO : List Oper → Nat → Option Oper
  | [], _ => none
  | o :: _, 0 => some o
  | _ :: l, k + 1 => nthO l k
theorem nthO_eq : ∀ (l : List Oper) (k : Nat), l[k]? = nthO l k
  | [], _ => by simp [nthO]
  | o :: _, 0 => rfl
  | o :: l, k + 1 => by simp [nthO, nthO_eq l k]
theorem d_step {l : List Oper} (ho : nthO l k = some o) (h : vOpD Pg T N ents G (List.toArray l) rf o (NextD Pg T N ents G (List.toArray l) L A K k n rf) E M n) : vOpsD Pg T N ents G (List.toArray l) ((k, rf) :: L) A K E M n := by
  unfold vOpsD
  have e : (List.toArray l)[k]? = some o := by rw [← ho, ← nthO_eq]; simp
  simp only [e]
  exact h
theorem d_next (h : vOpsD Pg T N ents G ops L (⟨k, n, rf, fp⟩ :: A) K E M (n + 1)) : NextD Pg T N ents G ops L A K k n rf fp E M := h
def vOpGD (Pg : Program) (T : Tab) (N : Nat) (ents : List FuncId) (G : GS) (rf : Bool) (o : Oper) (J : List Nat → VE → VM → Prop) (E : VE) (M : VM) (n : Nat) : Prop := vRunD Pg T ents G rf o E M n fun r M fp => vPut N o.dst r E fun E => J fp E M
theorem d_go (h : vOpGD Pg T N ents G rf ⟨dst, op, ty, pos, after, none⟩ J E M n) : vOpD Pg T N ents G ops rf ⟨dst, op, ty, pos, after, none⟩ J E M n := h
theorem d_guard (hs : (ops[j]?).bind (·.dst) = some s) (hv : VE.get E s = some (.bool t)) (h1 : t = want → vOpGD Pg T N ents G rf ⟨some d, op, ty, pos, after, some (j, want)⟩ J ((s, .bool want) :: E) M n) (hd : Nat.blt d N = true)
    (h2 : t = !want → J (bif rf then [] else numsO (VE.get E) op.operands.toList) ((d, .undef) :: (s, .bool (!want)) :: E) M) : vOpD Pg T N ents G ops rf ⟨some d, op, ty, pos, after, some (j, want)⟩ J E M n := by
  unfold vOpD
  simp only [hs, hv]
  refine ⟨h1, fun ht => ?_⟩
  unfold vPut
  simp only [hd]
  exact h2 ht
theorem d_guardY (hs : (ops[j]?).bind (·.dst) = some s) (hv : VE.get E s = some (.bool want)) (h : vOpGD Pg T N ents G rf ⟨dst, op, ty, pos, after, some (j, want)⟩ J ((s, .bool want) :: E) M n) : vOpD Pg T N ents G ops rf ⟨dst, op, ty, pos, after, some (j, want)⟩ J E M n := by
  unfold vOpD
  simp only [hs, hv]
  exact ⟨fun _ => h, fun ht => by cases want <;> cases ht⟩
theorem d_guardN (hs : (ops[j]?).bind (·.dst) = some s) (hv : VE.get E s = some (.bool (!want))) (hd : Nat.blt d N = true) (h : J (bif rf then [] else numsO (VE.get E) op.operands.toList) ((d, .undef) :: (s, .bool (!want)) :: E) M) : vOpD Pg T N ents G ops rf ⟨some d, op, ty, pos, after, some (j, want)⟩ J E M n :=
  d_guard hs hv (fun ht => by cases want <;> cases ht) hd (fun _ => h)
theorem d_guardU (hs : (ops[j]?).bind (·.dst) = some s) (hv : VE.get E s = some .undef) (hd : Nat.blt d N = true) (h : J (bif rf then [] else numsO (VE.get E) op.operands.toList) ((d, .undef) :: E) M) : vOpD Pg T N ents G ops rf ⟨some d, op, ty, pos, after, some (j, want)⟩ J E M n := by
  unfold vOpD
  simp only [hs, hv]
  unfold vPut
  simp only [hd]
  exact h
theorem gd_run (hv : plainO op = true) (he : ∀ R : MV × Dl → Prop, R (r, δ) → (eOp Pg T (VE.get E) (VM.get M) n ⟨dst, op, ty, pos, after, g⟩).runP R)
    (h : vPut N dst r E fun E2 => J (numsO (VE.get E) op.operands.toList) E2 (δ.app n M)) : vOpGD Pg T N ents G false ⟨dst, op, ty, pos, after, g⟩ J E M n := by
  unfold vOpGD vRunD vRun
  dsimp only
  cases op with
  | call c =>
    obtain ⟨callee, args, ats⟩ := c
    cases callee with
    | value f => cases hv
    | builtin b => exact he _ h
    | invoke r n => exact he _ h
  | _ => exact he _ h
theorem gd_val (hv : plainO op = true) (he : ∀ R : MV × Dl → Prop, R (r, .none) → (eOp Pg T (VE.get E) (VM.get M) n ⟨some d, op, ty, pos, after, g⟩).runP R) (hd : Nat.blt d N = true)
    (h : J (numsO (VE.get E) op.operands.toList) ((d, r) :: E) M) : vOpGD Pg T N ents G false ⟨some d, op, ty, pos, after, g⟩ J E M n := by
  refine gd_run hv he ?_
  unfold vPut
  simp only [hd]
  exact h
theorem gd_mem (hv : plainO op = true) (he : ∀ R : MV × Dl → Prop, R (r, δ) → (eOp Pg T (VE.get E) (VM.get M) n ⟨some d, op, ty, pos, after, g⟩).runP R) (hd : Nat.blt d N = true)
    (h : J (numsO (VE.get E) op.operands.toList) ((d, r) :: E) (δ.app n M)) : vOpGD Pg T N ents G false ⟨some d, op, ty, pos, after, g⟩ J E M n := by
  refine gd_run hv he ?_
  unfold vPut
  simp only [hd]
  exact h
theorem gd_none (hv : plainO op = true) (he : ∀ R : MV × Dl → Prop, R (r, δ) → (eOp Pg T (VE.get E) (VM.get M) n ⟨none, op, ty, pos, after, g⟩).runP R)
    (h : J (numsO (VE.get E) op.operands.toList) E (δ.app n M)) : vOpGD Pg T N ents G false ⟨none, op, ty, pos, after, g⟩ J E M n := gd_run hv he h
theorem e_val {l : List Oper} (ho : nthO l k = some ⟨some d, op, ty, pos, after, none⟩) (hb : (plainO op && Nat.blt d N) = true) (he : ∀ R : MV × Dl → Prop, R (r, .none) → (eOp Pg T (VE.get E) (VM.get M) n ⟨some d, op, ty, pos, after, none⟩).runP R)
    (h : vOpsD Pg T N ents G (List.toArray l) L (⟨k, n, false, numsO (VE.get E) op.operands.toList⟩ :: A) K ((d, r) :: E) M (n + 1)) : vOpsD Pg T N ents G (List.toArray l) ((k, false) :: L) A K E M n := by
  rw [Bool.and_eq_true] at hb
  exact d_step ho (d_go (gd_val hb.1 he hb.2 h))
theorem e_mem {l : List Oper} (ho : nthO l k = some ⟨some d, op, ty, pos, after, none⟩) (hb : (plainO op && Nat.blt d N) = true) (he : ∀ R : MV × Dl → Prop, R (r, δ) → (eOp Pg T (VE.get E) (VM.get M) n ⟨some d, op, ty, pos, after, none⟩).runP R)
    (h : vOpsD Pg T N ents G (List.toArray l) L (⟨k, n, false, numsO (VE.get E) op.operands.toList⟩ :: A) K ((d, r) :: E) (δ.app n M) (n + 1)) : vOpsD Pg T N ents G (List.toArray l) ((k, false) :: L) A K E M n := by
  rw [Bool.and_eq_true] at hb
  exact d_step ho (d_go (gd_mem hb.1 he hb.2 h))
theorem e_none {l : List Oper} (ho : nthO l k = some ⟨none, op, ty, pos, after, none⟩) (hb : plainO op = true) (he : ∀ R : MV × Dl → Prop, R (r, δ) → (eOp Pg T (VE.get E) (VM.get M) n ⟨none, op, ty, pos, after, none⟩).runP R)
    (h : vOpsD Pg T N ents G (List.toArray l) L (⟨k, n, false, numsO (VE.get E) op.operands.toList⟩ :: A) K E (δ.app n M) (n + 1)) : vOpsD Pg T N ents G (List.toArray l) ((k, false) :: L) A K E M n :=
  d_step ho (d_go (gd_none hb he h))
theorem e_valY {l : List Oper} (ho : nthO l k = some ⟨some d, op, ty, pos, after, some (j, want)⟩) (hs : ((List.toArray l)[j]?).bind (·.dst) = some s) (hv : VE.get E s = some (.bool want)) (hb : (plainO op && Nat.blt d N) = true) (he : ∀ R : MV × Dl → Prop, R (r, .none) → (eOp Pg T (VE.get ((s, .bool want) :: E)) (VM.get M) n ⟨some d, op, ty, pos, after, some (j, want)⟩).runP R)
    (h : vOpsD Pg T N ents G (List.toArray l) L (⟨k, n, false, numsO (VE.get ((s, .bool want) :: E)) op.operands.toList⟩ :: A) K ((d, r) :: (s, .bool want) :: E) M (n + 1)) : vOpsD Pg T N ents G (List.toArray l) ((k, false) :: L) A K E M n := by
  rw [Bool.and_eq_true] at hb
  exact d_step ho (d_guardY hs hv (gd_val hb.1 he hb.2 h))
section
variable {f : Operand} {args : Array Operand} {ats : Array TypeId} {f0 : FuncId} {vs : List MV} {bs : List (Nat × Nat)} {res : MV}
theorem gd_callV (hd : ∀ d, dst = some d → Nat.blt d N = true) (h1 : ∀ R : FuncId × List MV × List (Nat × Nat) → Prop, R (f0, vs, bs) → (vCall E M f args.toList).runP R) (h2 : ents.contains f0 = true) (hc : SemC Pg G f0 vs res)
    (h : J (numsO (VE.get E) (Op.call ⟨.value f, args, ats⟩).operands.toList) (match dst with | some d => (d, res) :: E | none => E) (VM.bump M bs)) : vOpGD Pg T N ents G false ⟨dst, .call ⟨.value f, args, ats⟩, ty, pos, after, g⟩ J E M n := by
  show (vCall E M f args.toList).runP _
  refine h1 _ ?_
  show (match ents.contains f0 with | true => ∃ res, SemC Pg G f0 vs res ∧ _ | false => False)
  rw [h2]
  refine ⟨res, hc, ?_⟩
  unfold vPut
  cases dst with
  | none => exact h
  | some d =>
    simp only [hd d rfl]
    exact h
theorem gd_callR (hd : ∀ d, dst = some d → Nat.blt d N = true) (h1 : ∀ R : FuncId × List MV → Prop, R (f0, vs) → (vArgs E f args.toList).runP R) (h2 : ents.contains f0 = true) (fp : List Nat) {args' : List MV} {M0 : VM} {n0 : Nat} {M1 : VM} {n1 : Nat} (hc : SemR Pg G f0 args' M0 n0 res M1 n1) (σ bs : List (Nat × Nat))
    (hm : LMatch 0 args' M0 n0 vs M σ bs) (h3 : allIn M σ = true) (h4 : okNew σ n0 n1 M1 = true) (h5 : subN (σ.map (·.2)) fp = true) (h6 : subN (bs.map (·.1)) fp = true)
    (h : J fp (match dst with | some d => (d, renV (rhoZ n σ) res) :: E | none => E) (renM (rhoZ n σ) M1 ++ delM (VM.bump M bs) σ)) : vOpGD Pg T N ents G true ⟨dst, .call ⟨.value f, args, ats⟩, ty, pos, after, g⟩ J E M n := by
  show (vArgs E f args.toList).runP _
  refine h1 _ ?_
  show (match ents.contains f0 with | true => ∃ fp, vCallZ Pg G M n f0 vs fp _ | false => False)
  rw [h2]
  refine ⟨fp, args', M0, n0, res, M1, n1, hc, σ, bs, hm, h3, h4, h5, h6, ?_⟩
  unfold vPut
  cases dst with
  | none => exact h
  | some d =>
    simp only [hd d rfl]
    exact h
theorem gd_callV1 (hd : Nat.blt d N = true) (h1 : ∀ R : FuncId × List MV × List (Nat × Nat) → Prop, R (f0, vs, bs) → (vCall E M f args.toList).runP R) (h2 : ents.contains f0 = true) (hc : SemC Pg G f0 vs res)
    (h : J (numsO (VE.get E) (Op.call ⟨.value f, args, ats⟩).operands.toList) ((d, res) :: E) (VM.bump M bs)) : vOpGD Pg T N ents G false ⟨some d, .call ⟨.value f, args, ats⟩, ty, pos, after, g⟩ J E M n := gd_callV (fun d' e => by injection e with e; subst e; exact hd) h1 h2 hc h
theorem gd_callR1 (hd : Nat.blt d N = true) (h1 : ∀ R : FuncId × List MV → Prop, R (f0, vs) → (vArgs E f args.toList).runP R) (h2 : ents.contains f0 = true) (fp : List Nat) {args' : List MV} {M0 : VM} {n0 : Nat} {M1 : VM} {n1 : Nat} (hc : SemR Pg G f0 args' M0 n0 res M1 n1) (σ bs : List (Nat × Nat))
    (hm : LMatch 0 args' M0 n0 vs M σ bs) (h3 : allIn M σ = true) (h4 : okNew σ n0 n1 M1 = true) (h5 : subN (σ.map (·.2)) fp = true) (h6 : subN (bs.map (·.1)) fp = true)
    (h : J fp ((d, renV (rhoZ n σ) res) :: E) (renM (rhoZ n σ) M1 ++ delM (VM.bump M bs) σ)) : vOpGD Pg T N ents G true ⟨some d, .call ⟨.value f, args, ats⟩, ty, pos, after, g⟩ J E M n := gd_callR (fun d' e => by injection e with e; subst e; exact hd) h1 h2 fp hc σ bs hm h3 h4 h5 h6 h
end
end
end Go.Proofs.YtllepnadffndnaaDoor
namespace Go.Proofs.YtllepnadffndnaaDoor
open Go.RowKit
mutual
def nfree : MV → Bool
  | .tup l => nfrees l
  | .undef => true
  | m => m.idFree
def nfrees : List MV → Bool
  | [] => true
  | m :: l => nfree m && nfrees l
end
theorem renV_free {ρ : Nat → Nat} : ∀ m : MV, m.idFree = true → renV ρ m = m
  | .st l, h => by
    have h : MV.idFrees l = true := h
    simp only [renV, h, cond_true]
  | .fn f l, h => by
    have h : MV.idFrees l = true := h
    simp only [renV, h, cond_true]
  | .ifc t v, h => by
    have h : MV.idFree v = true := h
    simp only [renV, h, cond_true]
  | .ptr .., h => by cases h
  | .ms .., h => by cases h
  | .tup .., h => by cases h
  | .undef, h => by cases h
  | .int .., _ => by simp only [renV]
  | .bool .., _ => by simp only [renV]
  | .str .., _ => by simp only [renV]
  | .nilp, _ => by simp only [renV]
  | .gp .., _ => by simp only [renV]
  | .ep .., _ => by simp only [renV]
  | .sl .., _ => by simp only [renV]
  | .nils, _ => by simp only [renV]
  | .nilf, _ => by simp only [renV]
  | .nili, _ => by simp only [renV]
  | .arr .., _ => by simp only [renV]
mutual
theorem renV_nfree {ρ : Nat → Nat} : ∀ m : MV, nfree m = true → renV ρ m = m
  | .tup l, h => by
    simp only [nfree] at h
    simp only [renV, renVs_nfree l h]
  | .undef, _ => by simp only [renV]
  | .st l, h => renV_free _ (by simpa only [nfree] using h)
  | .fn f l, h => renV_free _ (by simpa only [nfree] using h)
  | .ifc t v, h => renV_free _ (by simpa only [nfree] using h)
  | .ptr .., h => by simp only [nfree] at h; cases h
  | .ms .., h => by simp only [nfree] at h; cases h
  | .int .., _ => by simp only [renV]
  | .bool .., _ => by simp only [renV]
  | .str .., _ => by simp only [renV]
  | .nilp, _ => by simp only [renV]
  | .gp .., _ => by simp only [renV]
  | .ep .., _ => by simp only [renV]
  | .sl .., _ => by simp only [renV]
  | .nils, _ => by simp only [renV]
  | .nilf, _ => by simp only [renV]
  | .nili, _ => by simp only [renV]
  | .arr .., _ => by simp only [renV]
theorem renVs_nfree {ρ : Nat → Nat} : ∀ l : List MV, nfrees l = true → renVs ρ l = l
  | [], _ => by simp only [renVs]
  | m :: l, h => by
    simp only [nfrees, Bool.and_eq_true] at h
    simp only [renVs, renV_nfree m h.1, renVs_nfree l h.2]
end
section
variable {Pg : Program} {T : Tab} {N : Nat} {ents : List FuncId} {G : GS} {ops : Array Oper} {d : Tmp} {ty : TypeId} {pos : String} {after : Array Edge} {g : Option (Nat × Bool)} {rest : List Oper} {K : VK} {E : VE} {M : VM} {n : Nat}
  {f : Operand} {args : Array Operand} {ats : Array TypeId} {f0 : FuncId} {vs : List MV} {res : MV} {J : List Nat → VE → VM → Prop}
theorem LMatch_nil {args' l : List MV} {_σ' : List (Nat × Nat)} {bs : List (Nat × Nat)} (hb : okB M bs) (h : relV.relVs (sigA 0 []) (fzb M bs) args' l) : LMatch 0 args' [] 0 l M [] bs := ⟨rfl, hb, rfl, h, trivial⟩
theorem g_call1 (hd : Nat.blt d N = true) (h1 : ∀ R : FuncId × List MV → Prop, R (f0, vs) → (vArgs E f args.toList).runP R) (h2 : ents.contains f0 = true) {args' : List MV} (hc : SemR Pg G f0 args' [] 0 res [] 0) (hf : nfree res = true) (bs : List (Nat × Nat)) (hb : okB M bs)
    (hm : relV.relVs (sigA 0 []) (fzb M bs) args' vs) (h : vOpsN Pg T N ents G ops rest K ((d, res) :: E) (VM.bump M bs) n) : vOpsG Pg T N ents G ops ⟨some d, .call ⟨.value f, args, ats⟩, ty, pos, after, g⟩ rest K E M n := by
  refine g_callR1 hd h1 h2 hc [] bs ⟨rfl, hb, rfl, hm, trivial⟩ rfl rfl ?_
  rw [renV_nfree res hf]
  exact h
theorem g_call2 (hd : Nat.blt d N = true) (h1 : ∀ R : FuncId × List MV → Prop, R (f0, vs) → (vArgs E f args.toList).runP R) (h2 : ents.contains f0 = true) {args' : List MV} (hc : SemR Pg G f0 args' [] 0 res [] 0) (hf : nfree res = true)
    (hm : relV.relVs (sigA 0 []) (fzb M []) args' vs) (h : vOpsN Pg T N ents G ops rest K ((d, res) :: E) M n) : vOpsG Pg T N ents G ops ⟨some d, .call ⟨.value f, args, ats⟩, ty, pos, after, g⟩ rest K E M n :=
  g_call1 hd h1 h2 hc hf [] trivial hm h
theorem gd_call1 (hd : Nat.blt d N = true) (h1 : ∀ R : FuncId × List MV → Prop, R (f0, vs) → (vArgs E f args.toList).runP R) (h2 : ents.contains f0 = true) (fp : List Nat) {args' : List MV} (hc : SemR Pg G f0 args' [] 0 res [] 0) (hf : nfree res = true) (bs : List (Nat × Nat)) (hb : okB M bs)
    (hm : relV.relVs (sigA 0 []) (fzb M bs) args' vs) (h6 : subN (bs.map (·.1)) fp = true) (h : J fp ((d, res) :: E) (VM.bump M bs)) : vOpGD Pg T N ents G true ⟨some d, .call ⟨.value f, args, ats⟩, ty, pos, after, g⟩ J E M n := by
  refine gd_callR1 hd h1 h2 fp hc [] bs ⟨rfl, hb, rfl, hm, trivial⟩ rfl rfl rfl h6 ?_
  rw [renV_nfree res hf]
  exact h
end
end Go.Proofs.YtllepnadffndnaaDoor
namespace Go.Proofs.YtllepnadffndnaaDoor
open Go.RowKit
theorem sv {α : Type} {a b : α} (h : a = b) : some a = some b := congrArg some h
theorem VMatch.of {n0 : Nat} {E' : VE} {M' : VM} {n' : Nat} {E : VE} {M : VM} (σ bs : List (Nat × Nat)) (h1 : mE (sigA n0 σ) (fzb M bs) E' E) (h2 : mM (sigA n0 σ) (fzb M bs) M' (VM.bump M bs)) (h3 : okSg n0 n' σ = true) (h4 : okB M bs) (h5 : M'.all (fun x => Nat.blt x.1 n') = true) : VMatch n0 E' M' n' E M := ⟨σ, bs, h3, h4, h5, h1, h2⟩
theorem emod_of (x n : Int) (hn : 0 < n) : (if x.tmod n < 0 then x.tmod n + n else x.tmod n) = x % n := by
  rw [Int.tmod_eq_emod]
  have h1 := Int.emod_nonneg x (show n ≠ 0 by omega)
  have h2 := Int.emod_lt_of_pos x hn
  have e : (n.natAbs : Int) = n := by omega
  split <;> split at * <;> omega
theorem index_at {l : List MV} {n k : Nat} {x : MV} (hk : k < n) (hx : l[k]? = some x) : idxL l n (k : Int) = some x := by
  unfold idxL
  rw [if_pos (by omega)]
  simpa using hx
theorem idx_at {n k : Nat} (hk : k < n) : idx n (k : Int) = some k := by
  unfold idx
  rw [if_pos (by omega)]
  simp
theorem cut_all {α : Type} (f : α → MV) (l : List α) : cutL (l.map f) 0 (0 + l.length) = l.map f := by simp [cutL, List.take_of_length_le]
theorem app_ok {n m k : Nat} (hb : Nat.ble k 4096 = true) (h : n + m ≤ 2000000000) : (n + m) * k ≤ 140737488355328 ∧ n + m ≤ maxLen := by
  have hb := Nat.le_of_ble_eq_true hb
  have := Nat.mul_le_mul h hb
  have e : maxLen = 9223372036854775807 := rfl
  omega
theorem app_ok1 {m k : Nat} (hb : Nat.ble k 4096 = true) (h : m ≤ 2000000000) : m * k ≤ 140737488355328 ∧ m ≤ maxLen := by
  have := app_ok (n := 0) (m := m) hb (by omega)
  rw [Nat.zero_add] at this
  exact this
def intsM (l : List Int) : MV := .sl l.length (l.map (.int .i64))
theorem intsM_at {l : List Int} {k : Nat} (hk : k < l.length) : idxL (l.map (MV.int .i64)) l.length (k : Int) = some (.int .i64 l[k]) := index_at hk (by simp [hk])
end Go.Proofs.YtllepnadffndnaaDoor
namespace Go.Proofs.YtllepnadffndnaaDoor
open Go.RowKit
variable {R : MV × Dl → Prop}
theorem eqs_i {x : Int} (h : R (.bool true, .none)) : R (.bool (x == x), .none) := by rw [beq_self_eq_true]; exact h
theorem nes_i {x : Int} (h : R (.bool false, .none)) : R (.bool (x != x), .none) := by rw [bne_self_eq_false]; exact h
theorem eqs_s {x : List UInt8} (h : R (.bool true, .none)) : R (.bool (x == x), .none) := by rw [beq_self_eq_true]; exact h
theorem nes_s {x : List UInt8} (h : R (.bool false, .none)) : R (.bool (!(x == x)), .none) := by rw [beq_self_eq_true]; exact h
theorem bytesM_u8 : ∀ l : List UInt8, bytesM (u8s l) = some l
  | [] => rfl
  | a :: l => by
    show (if 0 ≤ (a.toNat : Int) ∧ (a.toNat : Int) < 256 then (match bytesM (u8s l) with | some r => some (UInt8.ofNat (Int.toNat (a.toNat : Int)) :: r) | none => none) else none) = _
    have := a.toNat_lt
    rw [if_pos (by omega), bytesM_u8 l]
    simp
end Go.Proofs.YtllepnadffndnaaDoor
namespace Go.Proofs.YtllepnadffndnaaDoor
open Go.RowKit
theorem w32 (n : Int) : IntKind.u32.wrap n = n % 4294967296 := by
  simp only [IntKind.wrap, IntKind.bits, IntKind.signed]; simp
theorem w8 (n : Int) : IntKind.u8.wrap n = n % 256 := by
  simp only [IntKind.wrap, IntKind.bits, IntKind.signed]; simp
theorem wu64 (n : Int) : IntKind.u64.wrap n = n % 18446744073709551616 := by
  simp only [IntKind.wrap, IntKind.bits, IntKind.signed]; simp
abbrev u32M (x : UInt32) : MV := .int .u32 x.toNat
abbrev u8M (x : UInt8) : MV := .int .u8 x.toNat
abbrev u64M (x : UInt64) : MV := .int .u64 x.toNat
theorem bv_of (n m : Nat) (h : m < 2 ^ n) : (BitVec.ofInt n (m : Int)).toNat = m := by
  rw [BitVec.toNat_ofInt]
  have e : ((2 ^ n : Nat) : Int) = (2 : Int) ^ n := by simp
  have : ((m : Int) % ((2 ^ n : Nat) : Int)).toNat = m := by
    rw [← Int.natCast_emod, Int.toNat_natCast, Nat.mod_eq_of_lt h]
  exact this
theorem t32 (x : UInt32) : x.toNat < 4294967296 := x.toNat_lt
theorem t8 (x : UInt8) : x.toNat < 256 := x.toNat_lt
theorem t64 (x : UInt64) : x.toNat < 18446744073709551616 := x.toNat_lt
theorem add32 (x y : UInt32) : IntKind.u32.wrap ((x.toNat : Int) + (y.toNat : Int)) = ((x + y).toNat : Int) := by
  rw [w32, UInt32.toNat_add]; omega
theorem add64 (x y : UInt64) : IntKind.u64.wrap ((x.toNat : Int) + (y.toNat : Int)) = ((x + y).toNat : Int) := by
  rw [wu64, UInt64.toNat_add]; omega
theorem and32 (x y : UInt32) : IntKind.u32.wrap ((BitVec.ofInt IntKind.u32.bits (x.toNat : Int) &&& BitVec.ofInt IntKind.u32.bits (y.toNat : Int)).toNat : Int) = ((x &&& y).toNat : Int) := by
  have h := t32 (x &&& y)
  rw [BitVec.toNat_and, bv_of _ _ (t32 x), bv_of _ _ (t32 y), ← UInt32.toNat_and, w32]; omega
theorem or32 (x y : UInt32) : IntKind.u32.wrap ((BitVec.ofInt IntKind.u32.bits (x.toNat : Int) ||| BitVec.ofInt IntKind.u32.bits (y.toNat : Int)).toNat : Int) = ((x ||| y).toNat : Int) := by
  have h := t32 (x ||| y)
  rw [BitVec.toNat_or, bv_of _ _ (t32 x), bv_of _ _ (t32 y), ← UInt32.toNat_or, w32]; omega
theorem xor32 (x y : UInt32) : IntKind.u32.wrap ((BitVec.ofInt IntKind.u32.bits (x.toNat : Int) ^^^ BitVec.ofInt IntKind.u32.bits (y.toNat : Int)).toNat : Int) = ((x ^^^ y).toNat : Int) := by
  have h := t32 (x ^^^ y)
  rw [BitVec.toNat_xor, bv_of _ _ (t32 x), bv_of _ _ (t32 y), ← UInt32.toNat_xor, w32]; omega
theorem not32 (y : UInt32) : IntKind.u32.wrap ((BitVec.ofInt IntKind.u32.bits (if IntKind.u32.signed then -1 else IntKind.u32.max) ^^^ BitVec.ofInt IntKind.u32.bits (y.toNat : Int)).toNat : Int) = ((~~~y).toNat : Int) := by
  have e : (if IntKind.u32.signed then (-1 : Int) else IntKind.u32.max) = (((-1 : UInt32)).toNat : Int) := by rfl
  rw [e, xor32]
  have h : (-1 : UInt32) ^^^ y = ~~~y := by
    apply UInt32.toBitVec_inj.1
    rw [UInt32.toBitVec_xor, UInt32.toBitVec_not]
    exact BitVec.allOnes_xor
  rw [h]
theorem shl32 (x : UInt32) (k : Nat) (hk : k < 32) : IntKind.u32.wrap ((x.toNat : Int) * 2 ^ (min (k : Int).toNat IntKind.u32.bits)) = ((x <<< UInt32.ofNat k).toNat : Int) := by
  have e : min (k : Int).toNat IntKind.u32.bits = k := by simp [IntKind.bits]; omega
  rw [e, w32, UInt32.toNat_shiftLeft, UInt32.toNat_ofNat', Nat.mod_eq_of_lt (show k < 2 ^ 32 by omega), Nat.mod_eq_of_lt hk, Nat.shiftLeft_eq]
  rw [show (x.toNat : Int) * 2 ^ k = ((x.toNat * 2 ^ k : Nat) : Int) by rw [Int.natCast_mul, Int.natCast_pow]; rfl]
  exact (Int.natCast_emod (x.toNat * 2 ^ k) 4294967296).symm
theorem shr32 (x : UInt32) (k : Nat) (hk : k < 32) : ((x.toNat : Int).fdiv (2 ^ (min (k : Int).toNat IntKind.u32.bits))) = ((x >>> UInt32.ofNat k).toNat : Int) := by
  have e : min (k : Int).toNat IntKind.u32.bits = k := by simp [IntKind.bits]; omega
  rw [e, UInt32.toNat_shiftRight, UInt32.toNat_ofNat', Nat.mod_eq_of_lt (show k < 2 ^ 32 by omega), Nat.mod_eq_of_lt hk, Nat.shiftRight_eq_div_pow, Int.fdiv_eq_ediv_of_nonneg _ (Int.le_of_lt (Int.pow_pos (by omega)))]
  rw [Int.natCast_ediv, Int.natCast_pow]; rfl
theorem shlI (x : UInt32) (j : Int) (h0 : 0 ≤ j) (h1 : j < 32) : IntKind.u32.wrap ((x.toNat : Int) * 2 ^ (min j.toNat IntKind.u32.bits)) = ((x <<< UInt32.ofNat j.toNat).toNat : Int) := by
  have := shl32 x j.toNat (by omega)
  rwa [Int.toNat_of_nonneg h0] at this
theorem shrI (x : UInt32) (j : Int) (h0 : 0 ≤ j) (h1 : j < 32) : ((x.toNat : Int).fdiv (2 ^ (min j.toNat IntKind.u32.bits))) = ((x >>> UInt32.ofNat j.toNat).toNat : Int) := by
  have := shr32 x j.toNat (by omega)
  rwa [Int.toNat_of_nonneg h0] at this
theorem conv832 (x : UInt8) : IntKind.u32.wrap (x.toNat : Int) = ((x.toUInt32).toNat : Int) := by
  have := t8 x
  rw [w32, UInt8.toNat_toUInt32]; omega
theorem conv328 (x : UInt32) : IntKind.u8.wrap (x.toNat : Int) = ((x.toUInt8).toNat : Int) := by
  rw [w8, UInt32.toNat_toUInt8]; omega
end Go.Proofs.YtllepnadffndnaaDoor
