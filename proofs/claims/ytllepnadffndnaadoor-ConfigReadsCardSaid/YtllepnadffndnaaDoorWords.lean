/- The program's words of a line. -/
import Derived.Test.YtllepnadffndnaaDoorIter
import Derived.Test.YtllepnadffndnaaDoorSeat
import Derived.Test.YtllepnadffndnaaDoorDecode
import Derived.Test.YtllepnadffndnaaDoorRuneB
namespace Go.Proofs.YtllepnadffndnaaDoor
open Go.RowKit

theorem isSpace_c (r : Int) (w : World) : Calls Tryd.prog 52 #[.int .i32 r] w fun e w' => e = .returned (.bool (isSp r)) ∧ Below w.heap.size w w' := by
  have cls : r = 9 ∨ r = 32 ∨ r = 160 ∨ r = 8195 ∨ r = 12288 ∨ (r ≠ 9 ∧ r ≠ 32 ∧ r ≠ 160 ∧ r ≠ 8195 ∧ r ≠ 12288) := by omega
  rcases cls with rfl | rfl | rfl | rfl | rfl | ⟨n1, n2, n3, n4, n5⟩
  case inr.inr.inr.inr.inr =>
    have e : isSp r = false := by simp [isSp, n1, n2, n3, n4, n5]
    rw [e]
    refine calls_of_vc seat Tryd.func52 rfl rfl (Nat.le_of_ble_eq_true rfl) (N := 10) (args := [.val (.int .i32 r)]) (Nat.le_of_ble_eq_true rfl) rfl (A.start w) ?_
    refine ⟨fun h => absurd h (by simp [n1]), fun _ => ?_⟩
    refine ⟨fun h => absurd h (by simp [n2]), fun _ => ?_⟩
    refine ⟨fun h => absurd h (by simp [n3]), fun _ => ?_⟩
    refine ⟨fun h => absurd h (by simp [n4]), fun _ => ?_⟩
    refine ⟨fun h => absurd h (by simp [n5]), fun _ => ?_⟩
    (intro w' hA; exact ⟨rfl, hA.bel (by simp)⟩)
  all_goals
    refine calls_of_vc seat Tryd.func52 rfl rfl (Nat.le_of_ble_eq_true rfl) (N := 10) (args := [.val (.int .i32 _)]) (Nat.le_of_ble_eq_true rfl) rfl (A.start w) ?_
    (repeat (first | refine ⟨fun _ => ?_, fun h => Bool.noConfusion h⟩ | refine ⟨fun h => Bool.noConfusion h, fun _ => ?_⟩ | refine ⟨_, wrap_in _ (by omega) (by omega), ?_⟩ | refine ⟨_, wrapu_in _ (by omega) (by omega), ?_⟩ | refine ⟨_, wrap8_in _ (by omega) (by omega), ?_⟩ | refine ⟨_, rfl, ?_⟩ | refine ⟨rfl, ?_⟩))
    (intro w' hA; exact ⟨rfl, hA.bel (by simp)⟩)

def strV (l : Bs) : Value := .string ⟨l.toArray⟩
theorem extract_eq (s : ByteArray) (a b : Nat) : s.extract a b = ⟨((s.data.toList.drop a).take (b - a)).toArray⟩ := by
  apply ByteArray.ext
  rw [ByteArray.data_extract]
  apply Array.toList_inj.1
  simp [Array.toList_extract, List.extract_eq_take_drop]
theorem gs_nil (b : Nat) : ¬ Mem.gs [] b := fun h => by obtain ⟨_, _, h, _⟩ := h; cases h
def wordAt (l : Bs) (fr : Option Nat) (i : Nat) : Bs := match fr with | none => [] | some f => (l.drop f).take (i - f)
def frI : Option Nat → Int | none => -1 | some f => f
theorem wordAt_next {l : Bs} {f i k : Nat} (h : f ≤ i) : wordAt l (some f) (i + k) = wordAt l (some f) i ++ (l.drop i).take k := by
  simp only [wordAt]
  rw [show i + k - f = (i - f) + k by omega, List.take_add, List.drop_drop, show f + (i - f) = i by omega]
theorem wordAt_ne {l : Bs} {f i : Nat} (h : f < i) (hi : i ≤ l.length) : wordAt l (some f) i ≠ [] := by
  intro e
  have := congrArg List.length e
  simp [wordAt] at this
  omega
def outW (w : Bs) (acc : List Bs) : List Bs := if w = [] then acc else acc ++ [w]
theorem wordsGo_nil (w : Bs) (acc : List Bs) : wordsGo [] w acc = outW w acc := rfl
theorem wordsGo_hash (rs : List Bs) (w : Bs) (acc : List Bs) : wordsGo ([35] :: rs) w acc = outW w acc := by simp [wordsGo, outW]
theorem wordsGo_space {r : Bs} (rs : List Bs) (w : Bs) (acc : List Bs) (h1 : r ≠ [35]) (h2 : spaceB r = true) : wordsGo (r :: rs) w acc = wordsGo rs [] (outW w acc) := by
  rw [wordsGo, if_neg h1, if_pos h2]
  unfold outW
  split <;> rfl
theorem wordsGo_text {r : Bs} (rs : List Bs) (w : Bs) (acc : List Bs) (h1 : r ≠ [35]) (h2 : spaceB r = false) : wordsGo (r :: rs) w acc = wordsGo rs (w ++ r) acc := by
  rw [wordsGo, if_neg h1, if_neg (by simp [h2])]

/-- What a function that returns own words leaves. -/
def WordsAt (w w' : World) (v : Value) (ws : List Bs) : Prop := ∃ a c, v = .slice a ws.length c ∧ Sl Rp.str w' (fun b => w.heap.size ≤ b) a (ws.map fun l => (⟨l.toArray⟩ : ByteArray))
theorem SlL_strs (w : World) (S : Fp) : ∀ (ws : List Bs), (∀ x ∈ ws, x.length ≤ 140737488355328) → SlL Rp.str w S (ws.map strV) (ws.map fun l => (⟨l.toArray⟩ : ByteArray))
  | [], _ => rfl
  | x :: ws, h => ⟨[strV x], ws.map strV, rfl, ⟨rfl, by have := h x List.mem_cons_self; simpa [ByteArray.size] using this⟩, SlL_strs w S ws (fun y hy => h y (List.mem_cons_of_mem _ hy))⟩
theorem wordsAt_of_own {w w' : World} {v : Value} {ws : List Bs} (ho : w'.ownsRow w.heap.size 9 1 v ws.length (ws.map strV)) (hl : ∀ x ∈ ws, x.length ≤ 140737488355328) (hn : ws.length ≤ 140737488355328) : WordsAt w w' v ws := by
  obtain ⟨a, c, h1, h2⟩ := Sl.of_own (r := Rp.str) (S := fun b => w.heap.size ≤ b) (ys := ws.map fun l => (⟨l.toArray⟩ : ByteArray)) ho (fun b hb _ => hb) (SlL_strs _ _ ws hl) (by simp) hn
  exact ⟨a, c, by rw [h1]; simp, h2⟩

set_option maxHeartbeats 2000000 in
theorem words_c (s : ByteArray) (hs : s.size ≤ 1048576) (hv0 : validS s.data.toList = true) (w : World) :
    Calls Tryd.prog 41 #[.string s] w fun e w' => ∃ v, e = .returned v ∧ WordsAt w w' v (wordsOf s.data.toList) ∧ Below w.heap.size w w' := by
  have hsz := str_len s
  have hdec := decode_rune s
  have hext := extract_eq s
  generalize hl : s.data.toList = l at *
  refine calls_of_vc seat Tryd.func41 rfl rfl (Nat.le_of_ble_eq_true rfl) (N := 52) (args := [.val (.string s)]) (Nat.le_of_ble_eq_true rfl) rfl (A.start w) ?_
  refine range_mem seat.tab (H' := [(w, fun _ => False)]) rfl (fun _ h => h) ?_
  intro wp w0 hAp hbp hit0
  have hgw : w.heap.size ≤ wp.heap.size := (hAp.bel (w := w) (by simp)).size
  generalize wp.heap.size = git at hit0 hgw ⊢
  clear hAp hbp
  refine ⟨Nat × Option Nat × List Bs × Value × World, fun x => [(11, .val (.pointer (some ⟨git, 0, none⟩))), (4, .val (.int .i64 (frI x.2.1))), (3, .val x.2.2.2.1), (0, .val (.string s)), (5, .val (.int .i64 s.size))], fun _ => [], fun x => [(x.2.2.2.2, Mem.gs []), (w, fun _ => False)],
    fun x => x.1 ≤ l.length ∧ validS (l.drop x.1) = true ∧ wordsGo (runesOf (l.drop x.1)) (wordAt l x.2.1 x.1) x.2.2.1 = wordsOf l ∧ (∀ f, x.2.1 = some f → f < x.1) ∧ x.2.2.2.2.heap[git]? = some (.stringIter s x.1) ∧ x.2.2.2.2.ownsRow w.heap.size 9 1 x.2.2.2.1 x.2.2.1.length (x.2.2.1.map strV) ∧ (x.2.2.1.length ≤ x.1 ∧ (∀ y ∈ x.2.2.1, y.length ≤ l.length)) ∧ w.heap.size ≤ x.2.2.2.2.heap.size, fun x => l.length - x.1, ?_, ?_⟩
  · intro w1 hA
    refine ⟨(0, none, [], .slice none 0 0, w0), ⟨by omega, by rw [List.drop_zero]; exact hv0, rfl, by simp, hit0, World.ownsRow_nil _ _ _ _, ⟨Nat.le_refl _, by simp⟩, ?_⟩, ⟨⟨_, rfl, rfl⟩, ⟨_, rfl, rfl⟩, ⟨_, rfl, rfl⟩, ⟨_, rfl, rfl⟩, ⟨_, rfl, rfl⟩, trivial⟩, hA⟩
    have := (Array.getElem?_eq_some_iff.1 hit0).1
    show w.heap.size ≤ w0.heap.size
    omega
  rintro ⟨i, fr, acc, v, wk⟩ ⟨hi, hv, hgo, hfr, hit, hown, ⟨hacc, haccl⟩, hwk⟩
  replace hi : i ≤ l.length := hi
  replace hv : validS (l.drop i) = true := hv
  replace hgo : wordsGo (runesOf (l.drop i)) (wordAt l fr i) acc = wordsOf l := hgo
  replace hfr : ∀ f, fr = some f → f < i := hfr
  replace hit : wk.heap[git]? = some (.stringIter s i) := hit
  replace hown : wk.ownsRow w.heap.size 9 1 v acc.length (acc.map strV) := hown
  replace hacc : acc.length ≤ i := hacc
  replace haccl : ∀ y ∈ acc, y.length ≤ l.length := haccl
  replace hwk : w.heap.size ≤ wk.heap.size := hwk
  have hne : v.ownBlock ≠ some git := own_ne_iter hown hit
  refine next_mem (H' := [(w, fun _ => False)]) (List.Mem.head _) hit (gs_nil _) (fun p hp => by simp at hp; subst hp; exact ⟨by simp, .inr hgw⟩) (fun hlt cp' k' wp w2 hdc hAp hs2 hit2 => ?_) (fun hge wp hAp => ?_)
  · have hlt : i < l.length := by omega
    have hz : runeLen (l.drop i) ≠ 0 := by
      intro h0
      rw [validS_bad (drop_ne hlt) h0] at hv
      cases hv
    obtain ⟨cp, hd, hsp, hh⟩ := hdec i hlt hz
    rw [hdc] at hd
    injection hd with hd1 hd2
    subst hd1
    have hle := runeLen_le (drop_ne hlt)
    rw [List.length_drop] at hle
    rw [validS_step (drop_ne hlt) hz, List.drop_drop] at hv
    rw [runesOf_step (drop_ne hlt) hz, List.drop_drop] at hgo
    rw [hd2] at hit2
    have hwn : ∀ f, f ≤ i → wordAt l (some f) (i + runeLen (l.drop i)) = wordAt l (some f) i ++ (l.drop i).take (runeLen (l.drop i)) := fun f hf => wordAt_next hf
    have hown2 : w2.ownsRow w.heap.size 9 1 v acc.length (acc.map strV) :=
      ownsRow_since (ownsRow_since hown (hAp.since (wk, _) (List.Mem.head _)) (fun g _ h => gs_nil g h)) hs2 (fun g hg e => hne (by rw [hg, e]))
    have hw2 : w.heap.size ≤ w2.heap.size := Nat.le_trans (hAp.bel (w := w) (by simp)).size hs2.size
    generalize runeLen (l.drop i) = k at *
    generalize hr : (l.drop i).take k = r at *
    have hk0 : 0 < k := by omega
    clear hAp hs2 hown hit hdec hdc
    refine ⟨_, rfl, ?_⟩
    refine ⟨fun _ => ?_, fun h => Bool.noConfusion h⟩
    refine ⟨_, rfl, _, rfl, ?_⟩
    refine ⟨fun h35 => ?_, fun h35 => ?_⟩
    · have h35 : r = [35] := hh.1 (by simpa using h35)
      rw [h35, wordsGo_hash] at hgo
      clear h35 hh hsp
      obtain ⟨wq, hwq⟩ : ∃ wq, wq = w2 := ⟨_, rfl⟩
      subst hwq
      cases fr with
      | none =>
        refine ⟨fun h => absurd h (by simp [frI]), fun _ => ?_⟩
        rw [show wordAt l none i = [] from rfl, outW, if_pos rfl] at hgo
        intro w4 hA4
        have hown4 := ownsRow_since hown2 (hA4.since (wq, _) (List.Mem.head _)) (fun g _ h => gs_nil g h)
        refine ⟨_, rfl, ?_, hA4.bel (by simp)⟩
        rw [← hgo]
        exact wordsAt_of_own hown4 (fun x hx => by have := haccl x hx; omega) (by omega)
      | some f =>
        have hf := hfr f rfl
        refine ⟨fun _ => ?_, fun h => absurd h (by simp [frI])⟩
        have hwne := wordAt_ne hf hi
        rw [outW, if_neg hwne] at hgo
        refine ⟨i, rfl, f, rfl, by omega, by omega, _, hext f i, ?_⟩
        refine ⟨⟨rfl, trivial⟩, ?_⟩
        intro g _
        have hwl : (wordAt l (some f) i).length ≤ l.length := by simp only [wordAt, List.length_take, List.length_drop]; omega
        refine append_mem2 seat (M' := []) (es := 1) (n := acc.length) (m := 1) (base := w.heap.size) (a := ⟨g, 0, none⟩) trivial (by_ := 16) rfl (by kernel_rfl) rfl rfl (by decide) (List.Mem.head _) hown2 (fun g _ h => gs_nil g h) (H' := [(w, fun _ => False)]) (fun p hp => by simp at hp; subst hp; exact ⟨by simp, Nat.le_refl _⟩) hw2 (news := [strV (wordAt l (some f) i)]) rfl (fun w' hA j u hj => ?_) (fun u hu => ?_) (by unfold maxLen; omega) (by omega) ?_
        · rw [Addr.add_mid]
          refine (hA.blk 0 _ rfl).range j u ?_
          exact hj
        · simp at hu; subst hu; rfl
        intro wp' v' w' hAp hoth hsz' hown'
        intro w4 hA4
        have hown4 := ownsRow_since hown' (hA4.since (w', _) (List.Mem.head _)) (fun g _ h => gs_nil g h)
        refine ⟨v', rfl, ?_, hA4.bel (by simp)⟩
        rw [← hgo]
        refine wordsAt_of_own (by simpa using hown4) (fun x hx => ?_) (by simp; omega)
        rcases List.mem_append.1 hx with hx | hx
        · have := haccl x hx; omega
        · simp at hx; subst hx; omega
    · have h35 : r ≠ [35] := fun e => by have := hh.2 e; simp [this] at h35
      clear hh
      have hispc := isSpace_c (cp' : Int)
      rw [hsp] at hispc
      cases hspr : spaceB r with
      | true =>
        rw [hspr] at hispc
        rw [wordsGo_space _ _ _ h35 hspr] at hgo
        intro w1 hA
        refine (hispc w1).mono ?_
        rintro e w3 ⟨rfl, hb⟩
        refine ⟨.val _, _, _, rfl, hA.below' hb, ?_⟩
        clear hA hb
        refine ⟨fun _ => ?_, fun h => Bool.noConfusion h⟩
        cases fr with
        | some f =>
          have hf := hfr f rfl
          refine ⟨fun _ => ?_, fun h => absurd h (by simp [frI])⟩
          have hwne := wordAt_ne hf hi
          rw [outW, if_neg hwne] at hgo
          refine ⟨i, rfl, f, rfl, by omega, by omega, _, hext f i, ?_⟩
          refine ⟨⟨rfl, trivial⟩, ?_⟩
          intro g _
          have hwl : (wordAt l (some f) i).length ≤ l.length := by simp only [wordAt, List.length_take, List.length_drop]; omega
          refine append_mem2 seat (M' := []) (es := 1) (n := acc.length) (m := 1) (base := w.heap.size) (a := ⟨g, 0, none⟩) trivial (by_ := 16) rfl (by kernel_rfl) rfl rfl (by decide) (List.Mem.head _) hown2 (fun g _ h => gs_nil g h) (H' := [(w, fun _ => False)]) (fun p hp => by simp at hp; subst hp; exact ⟨by simp, Nat.le_refl _⟩) hw2 (news := [strV (wordAt l (some f) i)]) rfl (fun w' hA j u hj => ?_) (fun u hu => ?_) (by unfold maxLen; omega) (by omega) ?_
          · rw [Addr.add_mid]
            refine (hA.blk 0 _ rfl).range j u ?_
            exact hj
          · simp at hu; subst hu; rfl
          intro wp v' w' hAp hoth hsz' hown'
          have hit' : w'.heap[git]? = some (.stringIter s (i + k)) := by
            have hlt2 := (Array.getElem?_eq_some_iff.1 hit2).1
            have e := (hAp.since (w2, _) (List.Mem.head _)).block git hlt2 (gs_nil _)
            have hlt3 : git < wp.heap.size := by
              have := e.trans hit2
              exact (Array.getElem?_eq_some_iff.1 this).1
            rw [hoth git hlt3 hne, e]
            exact hit2
          intro w4 hA4
          refine ⟨(i + k, none, acc ++ [wordAt l (some f) i], v', w'), ⟨by show i + k ≤ _; omega, hv, hgo, by simp, hit', ?_, ⟨by simp; omega, ?_⟩, ?_⟩, by show l.length - (i + k) < l.length - i; omega, ⟨⟨_, rfl, rfl⟩, ⟨_, rfl, rfl⟩, ⟨_, rfl, rfl⟩, ⟨_, rfl, rfl⟩, ⟨_, rfl, rfl⟩, trivial⟩, hA4⟩
          · simpa using hown'
          · intro y hy
            rcases List.mem_append.1 hy with hy | hy
            · exact haccl y hy
            · simp at hy; subst hy; exact hwl
          · exact Nat.le_trans (hAp.bel (w := w) (by simp)).size hsz'
        | none =>
          refine ⟨fun h => absurd h (by simp [frI]), fun _ => ?_⟩
          rw [show wordAt l none i = [] from rfl, outW, if_pos rfl] at hgo
          intro w1 hA
          refine (hispc w1).mono ?_
          rintro e w3 ⟨rfl, hb⟩
          refine ⟨.val _, _, _, rfl, hA.below' hb, ?_⟩
          clear hA hb
          (repeat (first | refine ⟨fun _ => ?_, fun h => Bool.noConfusion h⟩ | refine ⟨fun h => Bool.noConfusion h, fun _ => ?_⟩ | refine ⟨_, wrap_in _ (by omega) (by omega), ?_⟩ | refine ⟨_, wrapu_in _ (by omega) (by omega), ?_⟩ | refine ⟨_, wrap8_in _ (by omega) (by omega), ?_⟩ | refine ⟨_, rfl, ?_⟩ | refine ⟨rfl, ?_⟩))
          intro w4 hA4
          exact ⟨(i + k, none, acc, v, w2), ⟨by show i + k ≤ _; omega, hv, hgo, by simp, hit2, hown2, ⟨by show acc.length ≤ i + k; omega, haccl⟩, hw2⟩, by show l.length - (i + k) < l.length - i; omega, ⟨⟨_, rfl, rfl⟩, ⟨_, rfl, rfl⟩, ⟨_, rfl, rfl⟩, ⟨_, rfl, rfl⟩, ⟨_, rfl, rfl⟩, trivial⟩, hA4⟩
      | false =>
        rw [hspr] at hispc
        rw [wordsGo_text _ _ _ h35 hspr] at hgo
        intro w1 hA
        refine (hispc w1).mono ?_
        rintro e w3 ⟨rfl, hb⟩
        refine ⟨.val _, _, _, rfl, hA.below' hb, ?_⟩
        clear hA hb
        (repeat (first | refine ⟨fun _ => ?_, fun h => Bool.noConfusion h⟩ | refine ⟨fun h => Bool.noConfusion h, fun _ => ?_⟩ | refine ⟨_, wrap_in _ (by omega) (by omega), ?_⟩ | refine ⟨_, wrapu_in _ (by omega) (by omega), ?_⟩ | refine ⟨_, wrap8_in _ (by omega) (by omega), ?_⟩ | refine ⟨_, rfl, ?_⟩ | refine ⟨rfl, ?_⟩))
        intro w1 hA
        refine (hispc w1).mono ?_
        rintro e w3 ⟨rfl, hb⟩
        refine ⟨.val _, _, _, rfl, hA.below' hb, ?_⟩
        clear hA hb
        refine ⟨fun _ => ?_, fun h => Bool.noConfusion h⟩
        cases fr with
        | some f =>
          have hf := hfr f rfl
          refine ⟨fun h => absurd h (by show ¬ decide ((f : Int) < 0) = true; rw [decide_eq_true_eq]; omega), fun _ => ?_⟩
          rw [← hwn f (by omega)] at hgo
          intro w4 hA4
          exact ⟨(i + k, some f, acc, v, w2), ⟨by show i + k ≤ _; omega, hv, hgo, fun f' e => by injection e with e; subst e; show f < i + k; omega, hit2, hown2, ⟨by show acc.length ≤ i + k; omega, haccl⟩, hw2⟩, by show l.length - (i + k) < l.length - i; omega, ⟨⟨_, rfl, rfl⟩, ⟨_, rfl, rfl⟩, ⟨_, rfl, rfl⟩, ⟨_, rfl, rfl⟩, ⟨_, rfl, rfl⟩, trivial⟩, hA4⟩
        | none =>
          refine ⟨fun _ => ?_, fun h => absurd h (by simp [frI])⟩
          have e1 : wordAt l (some i) (i + k) = r := by rw [hwn i (Nat.le_refl _)]; simp [wordAt]
          rw [show wordAt l none i = [] from rfl, List.nil_append, ← e1] at hgo
          intro w4 hA4
          exact ⟨(i + k, some i, acc, v, w2), ⟨by show i + k ≤ _; omega, hv, hgo, fun f' e => by injection e with e; subst e; show i < i + k; omega, hit2, hown2, ⟨by show acc.length ≤ i + k; omega, haccl⟩, hw2⟩, by show l.length - (i + k) < l.length - i; omega, ⟨⟨_, rfl, rfl⟩, ⟨_, rfl, rfl⟩, ⟨_, rfl, rfl⟩, ⟨_, rfl, rfl⟩, ⟨_, rfl, rfl⟩, trivial⟩, hA4⟩
  · have hi2 : i = l.length := by omega
    rw [List.drop_of_length_le (by omega), runesOf_nil, wordsGo_nil] at hgo
    have hown2 : wp.ownsRow w.heap.size 9 1 v acc.length (acc.map strV) :=
      ownsRow_since hown (hAp.since (wk, _) (List.Mem.head _)) (fun g _ h => gs_nil g h)
    have hw2 : w.heap.size ≤ wp.heap.size := (hAp.bel (w := w) (by simp)).size
    have hse : (s.size : Int) = (i : Int) := by omega
    clear hAp
    refine ⟨_, rfl, ?_⟩
    refine ⟨fun h => Bool.noConfusion h, fun _ => ?_⟩
    obtain ⟨wq, hwq⟩ : ∃ wq, wq = wp := ⟨_, rfl⟩
    subst hwq
    rw [hse]
    cases fr with
    | none =>
      refine ⟨fun h => absurd h (by simp [frI]), fun _ => ?_⟩
      rw [show wordAt l none i = [] from rfl, outW, if_pos rfl] at hgo
      intro w4 hA4
      have hown4 := ownsRow_since hown2 (hA4.since (wq, _) (List.Mem.head _)) (fun g _ h => gs_nil g h)
      refine ⟨_, rfl, ?_, hA4.bel (by simp)⟩
      rw [← hgo]
      exact wordsAt_of_own hown4 (fun x hx => by have := haccl x hx; omega) (by omega)
    | some f =>
      have hf := hfr f rfl
      refine ⟨fun _ => ?_, fun h => absurd h (by simp [frI])⟩
      have hwne := wordAt_ne hf hi
      rw [outW, if_neg hwne] at hgo
      refine ⟨i, rfl, f, rfl, by omega, by omega, _, hext f i, ?_⟩
      refine ⟨⟨rfl, trivial⟩, ?_⟩
      intro g _
      have hwl : (wordAt l (some f) i).length ≤ l.length := by simp only [wordAt, List.length_take, List.length_drop]; omega
      refine append_mem2 seat (M' := []) (es := 1) (n := acc.length) (m := 1) (base := w.heap.size) (a := ⟨g, 0, none⟩) trivial (by_ := 16) rfl (by kernel_rfl) rfl rfl (by decide) (List.Mem.head _) hown2 (fun g _ h => gs_nil g h) (H' := [(w, fun _ => False)]) (fun p hp => by simp at hp; subst hp; exact ⟨by simp, Nat.le_refl _⟩) hw2 (news := [strV (wordAt l (some f) i)]) rfl (fun w' hA j u hj => ?_) (fun u hu => ?_) (by unfold maxLen; omega) (by omega) ?_
      · rw [Addr.add_mid]
        refine (hA.blk 0 _ rfl).range j u ?_
        exact hj
      · simp at hu; subst hu; rfl
      intro wp' v' w' hAp hoth hsz' hown'
      intro w4 hA4
      have hown4 := ownsRow_since hown' (hA4.since (w', _) (List.Mem.head _)) (fun g _ h => gs_nil g h)
      refine ⟨v', rfl, ?_, hA4.bel (by simp)⟩
      rw [← hgo]
      refine wordsAt_of_own (by simpa using hown4) (fun x hx => ?_) (by simp; omega)
      rcases List.mem_append.1 hx with hx | hx
      · have := haccl x hx; omega
      · simp at hx; subst hx; omega
end Go.Proofs.YtllepnadffndnaaDoor
