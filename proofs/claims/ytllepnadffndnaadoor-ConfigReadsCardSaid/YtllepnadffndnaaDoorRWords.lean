/- The reference's words and lines. -/
import Derived.Test.YtllepnadffndnaaDoorWords
import Derived.Test.YtllepnadffndnaaDoorDec
namespace Go.Proofs.YtllepnadffndnaaDoor
open Go.RowKit

theorem ne_str (w : Bs) : (!((⟨w.toArray⟩ : ByteArray).toList == (⟨#[]⟩ : ByteArray).toList)) = decide (w ≠ []) := by
  rw [str_eq]
  cases w <;> simp

set_option maxHeartbeats 2000000 in
theorem rwords_c (s : ByteArray) (hs : s.size ≤ 1048576) (hv0 : validS s.data.toList = true) (w : World) :
    Calls Tryd.prog 56 #[.string s] w fun e w' => ∃ v, e = .returned v ∧ WordsAt w w' v (wordsOf s.data.toList) ∧ Below w.heap.size w w' := by
  have hsz := str_len s
  have hext := extract_eq s
  have hrune := rune_c s
  generalize hl : s.data.toList = l at *
  refine calls_of_vc seat Tryd.func56 rfl rfl (Nat.le_of_ble_eq_true rfl) (N := 45) (args := [.val (.string s)]) (Nat.le_of_ble_eq_true rfl) rfl (A.start w) ?_
  refine ⟨Nat × Bs × List Bs × Value × World, fun x => [(5, .val (.int .i64 x.1)), (4, .val (.string ⟨x.2.1.toArray⟩)), (3, .val x.2.2.2.1), (0, .val (.string s))], fun _ => [], fun x => [(x.2.2.2.2, Mem.gs []), (w, fun _ => False)],
    fun x => x.1 ≤ l.length ∧ validS (l.drop x.1) = true ∧ wordsGo (runesOf (l.drop x.1)) x.2.1 x.2.2.1 = wordsOf l ∧ x.2.1.length ≤ x.1 ∧ x.2.2.2.2.ownsRow w.heap.size 9 1 x.2.2.2.1 x.2.2.1.length (x.2.2.1.map strV) ∧ (x.2.2.1.length ≤ x.1 ∧ (∀ y ∈ x.2.2.1, y.length ≤ l.length)) ∧ w.heap.size ≤ x.2.2.2.2.heap.size, fun x => l.length - x.1, ?_, ?_⟩
  · intro w1 hA
    exact ⟨(0, [], [], .slice none 0 0, w1), ⟨by omega, by rw [List.drop_zero]; exact hv0, rfl, Nat.le_refl _, World.ownsRow_nil _ _ _ _, ⟨Nat.le_refl _, by simp⟩, (hA.bel (by simp)).size⟩, ⟨⟨_, rfl, rfl⟩, ⟨_, rfl, rfl⟩, ⟨_, rfl, rfl⟩, ⟨_, rfl, rfl⟩, trivial⟩, hA.now⟩
  rintro ⟨i, wd, acc, v, wk⟩ ⟨hi, hv, hgo, hwd, hown, ⟨hacc, haccl⟩, hwk⟩
  replace hi : i ≤ l.length := hi
  replace hv : validS (l.drop i) = true := hv
  replace hgo : wordsGo (runesOf (l.drop i)) wd acc = wordsOf l := hgo
  replace hwd : wd.length ≤ i := hwd
  replace hown : wk.ownsRow w.heap.size 9 1 v acc.length (acc.map strV) := hown
  replace hacc : acc.length ≤ i := hacc
  replace haccl : ∀ y ∈ acc, y.length ≤ l.length := haccl
  replace hwk : w.heap.size ≤ wk.heap.size := hwk
  refine ⟨fun h => ?_, fun h => ?_⟩
  · have hlt : i < l.length := by have := of_decide_eq_true h; omega
    have hz : runeLen (l.drop i) ≠ 0 := by
      intro h0
      rw [validS_bad (drop_ne hlt) h0] at hv
      cases hv
    have hle := runeLen_le (drop_ne hlt)
    rw [List.length_drop] at hle
    rw [validS_step (drop_ne hlt) hz, List.drop_drop] at hv
    rw [runesOf_step (drop_ne hlt) hz, List.drop_drop] at hgo
    have hrc := hrune i (by omega) hlt
    rw [runeAt_nat] at hrc
    have hrl : ((l.drop i).take (runeLen (l.drop i))).length = runeLen (l.drop i) := by
      rw [List.length_take, List.length_drop]; omega
    have he := hext i (i + runeLen (l.drop i))
    rw [show i + runeLen (l.drop i) - i = runeLen (l.drop i) by omega] at he
    generalize runeLen (l.drop i) = k at *
    generalize hr : (l.drop i).take k = r at *
    have hk0 : 0 < k := by omega
    (intro w1 hA; refine (hrc w1).mono ?_; rintro e w2 ⟨rfl, hb⟩; refine ⟨.val _, _, _, rfl, hA.below' hb, ?_⟩)
    refine ⟨((i + k : Nat) : Int), wrap_in _ (by omega) (by omega), ?_⟩
    refine ⟨i + k, rfl, i, rfl, by omega, by omega, _, he, ?_⟩
    refine ⟨((i + k : Nat) : Int), wrap_in _ (by omega) (by omega), ?_⟩
    refine ⟨fun h35 => ?_, fun h35 => ?_⟩
    · have h35 : r = [35] := by rw [str_eq] at h35; simpa using h35
      rw [h35, wordsGo_hash] at hgo
      have hown2 := hown
      have hw2 := hwk
      obtain ⟨wq, hwq⟩ : ∃ wq, wq = wk := ⟨_, rfl⟩
      subst hwq
      refine ⟨fun hne => ?_, fun hne => ?_⟩
      · have hne : wd ≠ [] := by rw [ne_str] at hne; exact of_decide_eq_true hne
        rw [outW, if_neg hne] at hgo
        refine ⟨⟨rfl, trivial⟩, ?_⟩
        intro g _
        refine append_mem2 seat (M' := []) (es := 1) (n := acc.length) (m := 1) (base := w.heap.size) (a := ⟨g, 0, none⟩) trivial (by_ := 16) rfl (by kernel_rfl) rfl rfl (by decide) (List.Mem.head _) hown2 (fun g _ h => gs_nil g h) (H' := [(w, fun _ => False)]) (fun p hp => by simp at hp; subst hp; exact ⟨by simp, Nat.le_refl _⟩) hw2 (news := [strV wd]) rfl (fun w' hA j u hj => ?_) (fun u hu => ?_) (by unfold maxLen; omega) (by omega) ?_
        · rw [Addr.add_mid]
          refine (hA.blk 0 _ rfl).range j u ?_
          exact hj
        · simp at hu; subst hu; rfl
        intro wp' v' w' hAp hoth hsz' hown'
        intro w4 hA4
        have hown4 := ownsRow_since hown' (hA4.since (w', _) (List.Mem.head _)) (fun g _ h => gs_nil g h)
        refine ⟨v', rfl, ?_, hA4.bel (by simp)⟩
        rw [← hgo]
        refine wordsAt_of_own (by simpa using hown4) (fun x hx => ?_) (by simp; omega)
        rcases List.mem_append.1 hx with hx | hx
        · have := haccl x hx; omega
        · simp at hx; subst hx; omega
      · have hne : wd = [] := by rw [ne_str] at hne; simpa using hne
        rw [outW, if_pos hne] at hgo
        intro w4 hA4
        have hown4 := ownsRow_since hown2 (hA4.since (wq, _) (List.Mem.head _)) (fun g _ h => gs_nil g h)
        refine ⟨v, rfl, ?_, hA4.bel (by simp)⟩
        rw [← hgo]
        exact wordsAt_of_own hown4 (fun x hx => by have := haccl x hx; omega) (by omega)
    · have h35 : r ≠ [35] := by rw [str_eq] at h35; simpa using h35
      have hsc := space_c ⟨r.toArray⟩
      rw [show (⟨r.toArray⟩ : ByteArray).data.toList = r by simp] at hsc
      cases hspr : spaceB r with
      | true =>
        rw [hspr] at hsc
        rw [wordsGo_space _ _ _ h35 hspr] at hgo
        (intro w1 hA; refine (hsc w1).mono ?_; rintro e w2 ⟨rfl, hb⟩; refine ⟨.val _, _, _, rfl, hA.below' hb, ?_⟩)
        refine ⟨fun h => Bool.noConfusion h, fun _ => ?_⟩
        refine ⟨fun hne => ?_, fun hne => ?_⟩
        · have hne : wd ≠ [] := by rw [ne_str] at hne; exact of_decide_eq_true hne
          rw [outW, if_neg hne] at hgo
          refine ⟨⟨rfl, trivial⟩, ?_⟩
          intro g _
          refine append_mem2 seat (M' := []) (es := 1) (n := acc.length) (m := 1) (base := w.heap.size) (a := ⟨g, 0, none⟩) trivial (by_ := 16) rfl (by kernel_rfl) rfl rfl (by decide) (List.Mem.head _) hown (fun g _ h => gs_nil g h) (H' := [(w, fun _ => False)]) (fun p hp => by simp at hp; subst hp; exact ⟨by simp, Nat.le_refl _⟩) hwk (news := [strV wd]) rfl (fun w' hA j u hj => ?_) (fun u hu => ?_) (by unfold maxLen; omega) (by omega) ?_
          · rw [Addr.add_mid]
            refine (hA.blk 0 _ rfl).range j u ?_
            exact hj
          · simp at hu; subst hu; rfl
          intro wp v' w' hAp _ hsz' hown'
          intro w4 hA4
          refine ⟨(i + k, [], acc ++ [wd], v', w'), ⟨by show i + k ≤ _; omega, hv, hgo, Nat.zero_le _, ?_, ⟨by simp; omega, ?_⟩, ?_⟩, by show l.length - (i + k) < l.length - i; omega, ⟨⟨_, rfl, rfl⟩, ⟨_, rfl, rfl⟩, ⟨_, rfl, rfl⟩, ⟨_, rfl, rfl⟩, trivial⟩, hA4⟩
          · simpa using hown'
          · intro y hy
            rcases List.mem_append.1 hy with hy | hy
            · exact haccl y hy
            · simp at hy; subst hy; omega
          · exact Nat.le_trans (hAp.bel (w := w) (by simp)).size hsz'
        · have hne : wd = [] := by rw [ne_str] at hne; simpa using hne
          rw [outW, if_pos hne] at hgo
          subst hne
          intro w4 hA4
          exact ⟨(i + k, [], acc, v, wk), ⟨by show i + k ≤ _; omega, hv, hgo, Nat.zero_le _, hown, ⟨by show acc.length ≤ i + k; omega, haccl⟩, hwk⟩, by show l.length - (i + k) < l.length - i; omega, ⟨⟨_, rfl, rfl⟩, ⟨_, rfl, rfl⟩, ⟨_, rfl, rfl⟩, ⟨_, rfl, rfl⟩, trivial⟩, hA4⟩
      | false =>
        rw [hspr] at hsc
        rw [wordsGo_text _ _ _ h35 hspr] at hgo
        (intro w1 hA; refine (hsc w1).mono ?_; rintro e w2 ⟨rfl, hb⟩; refine ⟨.val _, _, _, rfl, hA.below' hb, ?_⟩)
        refine ⟨fun _ => ?_, fun h => Bool.noConfusion h⟩
        refine ⟨by simp [ByteArray.size]; omega, ?_⟩
        intro w4 hA4
        exact ⟨(i + k, wd ++ r, acc, v, wk), ⟨by show i + k ≤ _; omega, hv, hgo, by simp; omega, hown, ⟨by show acc.length ≤ i + k; omega, haccl⟩, hwk⟩, by show l.length - (i + k) < l.length - i; omega, ⟨⟨_, rfl, rfl⟩, ⟨_, rfl, congrArg Value.string (ba_app wd r)⟩, ⟨_, rfl, rfl⟩, ⟨_, rfl, rfl⟩, trivial⟩, hA4⟩
  · have hi2 : ¬ i < l.length := by have := of_decide_eq_false h; omega
    rw [List.drop_of_length_le (by omega), runesOf_nil, wordsGo_nil] at hgo
    have hown2 := hown
    have hw2 := hwk
    obtain ⟨wq, hwq⟩ : ∃ wq, wq = wk := ⟨_, rfl⟩
    subst hwq
    refine ⟨fun hne => ?_, fun hne => ?_⟩
    · have hne : wd ≠ [] := by rw [ne_str] at hne; exact of_decide_eq_true hne
      rw [outW, if_neg hne] at hgo
      refine ⟨⟨rfl, trivial⟩, ?_⟩
      intro g _
      refine append_mem2 seat (M' := []) (es := 1) (n := acc.length) (m := 1) (base := w.heap.size) (a := ⟨g, 0, none⟩) trivial (by_ := 16) rfl (by kernel_rfl) rfl rfl (by decide) (List.Mem.head _) hown2 (fun g _ h => gs_nil g h) (H' := [(w, fun _ => False)]) (fun p hp => by simp at hp; subst hp; exact ⟨by simp, Nat.le_refl _⟩) hw2 (news := [strV wd]) rfl (fun w' hA j u hj => ?_) (fun u hu => ?_) (by unfold maxLen; omega) (by omega) ?_
      · rw [Addr.add_mid]
        refine (hA.blk 0 _ rfl).range j u ?_
        exact hj
      · simp at hu; subst hu; rfl
      intro wp' v' w' hAp hoth hsz' hown'
      intro w4 hA4
      have hown4 := ownsRow_since hown' (hA4.since (w', _) (List.Mem.head _)) (fun g _ h => gs_nil g h)
      refine ⟨v', rfl, ?_, hA4.bel (by simp)⟩
      rw [← hgo]
      refine wordsAt_of_own (by simpa using hown4) (fun x hx => ?_) (by simp; omega)
      rcases List.mem_append.1 hx with hx | hx
      · have := haccl x hx; omega
      · simp at hx; subst hx; omega
    · have hne : wd = [] := by rw [ne_str] at hne; simpa using hne
      rw [outW, if_pos hne] at hgo
      intro w4 hA4
      have hown4 := ownsRow_since hown2 (hA4.since (wq, _) (List.Mem.head _)) (fun g _ h => gs_nil g h)
      refine ⟨v, rfl, ?_, hA4.bel (by simp)⟩
      rw [← hgo]
      exact wordsAt_of_own hown4 (fun x hx => by have := haccl x hx; omega) (by omega)

/-- The lines behind some that were found, and the beginning of one. -/
def linesGo (acc : List Bs) (h : Bs) : List Bs → List Bs
  | [] => acc
  | x :: r => acc ++ (h ++ x) :: r
theorem linesOf_nl (r : Bs) : linesOf (10 :: r) = [] :: linesOf r := by simp [linesOf]
theorem linesOf_other {c : UInt8} (r : Bs) (h : c ≠ 10) (acc : List Bs) (p : Bs) : linesGo acc p (linesOf (c :: r)) = linesGo acc (p ++ [c]) (linesOf r) := by
  have hn := linesOf_ne r
  cases hr : linesOf r with
  | nil => exact absurd hr hn
  | cons x t => simp [linesOf, if_neg h, hr, linesGo]
set_option maxHeartbeats 2000000 in
theorem lines_c (s : ByteArray) (hs : s.size ≤ 1048576) (w : World) :
    Calls Tryd.prog 24 #[.string s] w fun e w' => ∃ v, e = .returned v ∧ WordsAt w w' v (linesOf s.data.toList) ∧ Below w.heap.size w w' := by
  have hsz := str_len s
  have hext := extract_eq s
  generalize hl : s.data.toList = l at *
  refine calls_of_vc seat Tryd.func24 rfl rfl (Nat.le_of_ble_eq_true rfl) (N := 32) (args := [.val (.string s)]) (Nat.le_of_ble_eq_true rfl) rfl (A.start w) ?_
  refine ⟨Nat × Nat × List Bs × Value × World, fun x => [(5, .val (.int .i64 x.1)), (4, .val (.int .i64 x.2.1)), (3, .val x.2.2.2.1), (0, .val (.string s))], fun _ => [], fun x => [(x.2.2.2.2, Mem.gs []), (w, fun _ => False)],
    fun x => x.1 ≤ l.length + 1 ∧ x.2.1 ≤ x.1 ∧ (x.1 ≤ l.length → linesGo x.2.2.1 (wordAt l (some x.2.1) x.1) (linesOf (l.drop x.1)) = linesOf l) ∧ (x.1 = l.length + 1 → x.2.2.1 = linesOf l) ∧ x.2.2.2.2.ownsRow w.heap.size 9 1 x.2.2.2.1 x.2.2.1.length (x.2.2.1.map strV) ∧ (x.2.2.1.length ≤ x.1 ∧ (∀ y ∈ x.2.2.1, y.length ≤ l.length)) ∧ w.heap.size ≤ x.2.2.2.2.heap.size, fun x => l.length + 1 - x.1, ?_, ?_⟩
  · intro w1 hA
    refine ⟨(0, 0, [], .slice none 0 0, w1), ⟨by omega, Nat.le_refl _, fun _ => ?_, by simp, World.ownsRow_nil _ _ _ _, ⟨Nat.le_refl _, by simp⟩, (hA.bel (by simp)).size⟩, ⟨⟨_, rfl, rfl⟩, ⟨_, rfl, rfl⟩, ⟨_, rfl, rfl⟩, ⟨_, rfl, rfl⟩, trivial⟩, hA.now⟩
    have hn := linesOf_ne l
    show linesGo [] (wordAt l (some 0) 0) (linesOf (l.drop 0)) = linesOf l
    rw [List.drop_zero]
    cases hlo : linesOf l with
    | nil => exact absurd hlo hn
    | cons x t => simp [linesGo, wordAt]
  rintro ⟨i, fr, acc, v, wk⟩ ⟨hi, hfr, hgo, hdone, hown, ⟨hacc, haccl⟩, hwk⟩
  replace hi : i ≤ l.length + 1 := hi
  replace hfr : fr ≤ i := hfr
  replace hgo : i ≤ l.length → linesGo acc (wordAt l (some fr) i) (linesOf (l.drop i)) = linesOf l := hgo
  replace hdone : i = l.length + 1 → acc = linesOf l := hdone
  replace hown : wk.ownsRow w.heap.size 9 1 v acc.length (acc.map strV) := hown
  replace hacc : acc.length ≤ i := hacc
  replace haccl : ∀ y ∈ acc, y.length ≤ l.length := haccl
  replace hwk : w.heap.size ≤ wk.heap.size := hwk
  refine ⟨fun h => ?_, fun h => ?_⟩
  · have hlt : i ≤ l.length := by have := of_decide_eq_true h; omega
    replace hgo := hgo hlt
    have hwl : (wordAt l (some fr) i).length ≤ l.length := by simp only [wordAt, List.length_take, List.length_drop]; omega
    refine ⟨fun he => ?_, fun he => ?_⟩
    · have he : i < l.length := by have := ne_of_beq_false he; omega
      have hd : l.drop i = byteAt l i :: l.drop (i + 1) := by
        rw [List.drop_eq_getElem_cons he]
        congr 1
        have := byteAt_some he
        rw [List.getElem?_eq_getElem he] at this
        exact Option.some.inj this
      have hb := byteAt_some he
      have hu := u8eq (byteAt l i) 10
      refine ⟨i, _, rfl, by rw [hl]; exact hb, ?_⟩
      refine ⟨fun h10 => ?_, fun h10 => ?_⟩
      · have h10 : byteAt l i = 10 := eq_of_beq (hu.symm.trans h10)
        rw [hd, h10, linesOf_nl] at hgo
        refine ⟨i, rfl, fr, rfl, by omega, by omega, _, hext fr i, ?_⟩
        refine ⟨⟨rfl, trivial⟩, ?_⟩
        intro g _
        refine append_mem2 seat (M' := []) (es := 1) (n := acc.length) (m := 1) (base := w.heap.size) (a := ⟨g, 0, none⟩) trivial (by_ := 16) rfl (by kernel_rfl) rfl rfl (by decide) (List.Mem.head _) hown (fun g _ h => gs_nil g h) (H' := [(w, fun _ => False)]) (fun p hp => by simp at hp; subst hp; exact ⟨by simp, Nat.le_refl _⟩) hwk (news := [strV (wordAt l (some fr) i)]) rfl (fun w' hA j u hj => ?_) (fun u hu => ?_) (by unfold maxLen; omega) (by omega) ?_
        · rw [Addr.add_mid]
          refine (hA.blk 0 _ rfl).range j u ?_
          exact hj
        · simp at hu; subst hu; rfl
        intro wp v' w' hAp _ hsz' hown'
        refine ⟨((i + 1 : Nat) : Int), wrap_in _ (by omega) (by omega), ?_⟩
        refine ⟨((i + 1 : Nat) : Int), wrap_in _ (by omega) (by omega), ?_⟩
        intro w4 hA4
        refine ⟨(i + 1, i + 1, acc ++ [wordAt l (some fr) i], v', w'), ⟨by show i + 1 ≤ _; omega, Nat.le_refl _, ?_, ?_, by simpa using hown', ⟨by simp; omega, fun y hy => by rcases List.mem_append.1 hy with hy | hy; exact haccl y hy; simp at hy; subst hy; exact hwl⟩, Nat.le_trans (hAp.bel (w := w) (by simp)).size hsz'⟩, by show l.length + 1 - (i + 1) < l.length + 1 - i; omega, ⟨⟨_, rfl, rfl⟩, ⟨_, rfl, rfl⟩, ⟨_, rfl, rfl⟩, ⟨_, rfl, rfl⟩, trivial⟩, hA4⟩
        · intro _
          rw [show wordAt l (some (i + 1)) (i + 1) = [] by simp [wordAt]]
          have hn := linesOf_ne (l.drop (i + 1))
          rw [← hgo]
          cases hlo : linesOf (l.drop (i + 1)) with
          | nil => exact absurd hlo hn
          | cons x t => simp [linesGo]
        · intro e; exact absurd e (by show ¬ i + 1 = l.length + 1; omega)
      · have h10 : byteAt l i ≠ 10 := ne_of_beq_false (hu.symm.trans h10)
        rw [hd, linesOf_other _ h10] at hgo
        have hwn := wordAt_next (l := l) (f := fr) (i := i) (k := 1) hfr
        rw [show (l.drop i).take 1 = [byteAt l i] by rw [hd]; rfl] at hwn
        rw [← hwn] at hgo
        refine ⟨((i + 1 : Nat) : Int), wrap_in _ (by omega) (by omega), ?_⟩
        intro w4 hA4
        exact ⟨(i + 1, fr, acc, v, wk), ⟨by show i + 1 ≤ _; omega, by show fr ≤ i + 1; omega, fun _ => hgo, fun e => absurd e (by show ¬ i + 1 = l.length + 1; omega), hown, ⟨by show acc.length ≤ i + 1; omega, haccl⟩, hwk⟩, by show l.length + 1 - (i + 1) < l.length + 1 - i; omega, ⟨⟨_, rfl, rfl⟩, ⟨_, rfl, rfl⟩, ⟨_, rfl, rfl⟩, ⟨_, rfl, rfl⟩, trivial⟩, hA4⟩
    · have he : i = l.length := by have := eq_of_beq he; omega
      rw [List.drop_of_length_le (by omega)] at hgo
      refine ⟨fun _ => ?_, fun h => Bool.noConfusion h⟩
      refine ⟨i, rfl, fr, rfl, by omega, by omega, _, hext fr i, ?_⟩
      refine ⟨⟨rfl, trivial⟩, ?_⟩
      intro g _
      refine append_mem2 seat (M' := []) (es := 1) (n := acc.length) (m := 1) (base := w.heap.size) (a := ⟨g, 0, none⟩) trivial (by_ := 16) rfl (by kernel_rfl) rfl rfl (by decide) (List.Mem.head _) hown (fun g _ h => gs_nil g h) (H' := [(w, fun _ => False)]) (fun p hp => by simp at hp; subst hp; exact ⟨by simp, Nat.le_refl _⟩) hwk (news := [strV (wordAt l (some fr) i)]) rfl (fun w' hA j u hj => ?_) (fun u hu => ?_) (by unfold maxLen; omega) (by omega) ?_
      · rw [Addr.add_mid]
        refine (hA.blk 0 _ rfl).range j u ?_
        exact hj
      · simp at hu; subst hu; rfl
      intro wp v' w' hAp _ hsz' hown'
      refine ⟨((i + 1 : Nat) : Int), wrap_in _ (by omega) (by omega), ?_⟩
      refine ⟨((i + 1 : Nat) : Int), wrap_in _ (by omega) (by omega), ?_⟩
      intro w4 hA4
      refine ⟨(i + 1, i + 1, acc ++ [wordAt l (some fr) i], v', w'), ⟨by show i + 1 ≤ _; omega, Nat.le_refl _, ?_, ?_, by simpa using hown', ⟨by simp; omega, fun y hy => by rcases List.mem_append.1 hy with hy | hy; exact haccl y hy; simp at hy; subst hy; exact hwl⟩, Nat.le_trans (hAp.bel (w := w) (by simp)).size hsz'⟩, by show l.length + 1 - (i + 1) < l.length + 1 - i; omega, ⟨⟨_, rfl, rfl⟩, ⟨_, rfl, rfl⟩, ⟨_, rfl, rfl⟩, ⟨_, rfl, rfl⟩, trivial⟩, hA4⟩
      · intro e; exact absurd e (by show ¬ i + 1 ≤ l.length; omega)
      · intro _
        rw [← hgo]
        simp [linesGo, linesOf]
  · have hi2 : ¬ i ≤ l.length := by have := of_decide_eq_false h; omega
    have hd := hdone (by omega)
    intro w4 hA4
    have hown4 := ownsRow_since hown (hA4.since (wk, _) (List.Mem.head _)) (fun g _ h => gs_nil g h)
    refine ⟨v, rfl, ?_, hA4.bel (by simp)⟩
    rw [← hd]
    exact wordsAt_of_own hown4 (fun x hx => by have := haccl x hx; omega) (by omega)
end Go.Proofs.YtllepnadffndnaaDoor
