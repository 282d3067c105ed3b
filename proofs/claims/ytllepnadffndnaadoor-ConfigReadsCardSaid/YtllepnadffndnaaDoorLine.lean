/- The program's line. -/
import Derived.Test.YtllepnadffndnaaDoorRead
namespace Go.Proofs.YtllepnadffndnaaDoor
open Go.RowKit

section
variable {M : Mem} {H : Hist} {w w' : World}
/-- The beginning, with two blocks of the caller's that the call may write. -/
theorem A.start2 {g g' : Nat} {t t' : TypeId} {cs cs' : List SV} (hne : g ≠ g') (hb : Blk w g t (cs.map SV.den).toArray) (hb' : Blk w g' t' (cs'.map SV.den).toArray) : A [(1, ⟨g', t', cs'⟩), (0, ⟨g, t, cs⟩)] [(w, fun b => b = g ∨ b = g')] w := by
  have two : ∀ i kb, Mem.find [(1, (⟨g', t', cs'⟩ : KB)), (0, ⟨g, t, cs⟩)] i = some kb → (kb = ⟨g', t', cs'⟩ ∧ i = 1) ∨ (kb = ⟨g, t, cs⟩ ∧ i = 0) := by
    intro i kb hi
    rw [Mem.find_cons] at hi
    split at hi
    · rename_i e; injection hi with hi; exact .inl ⟨hi.symm, e.symm⟩
    · rw [Mem.find_cons] at hi
      split at hi
      · rename_i e; injection hi with hi; exact .inr ⟨hi.symm, e.symm⟩
      · simp [Mem.find] at hi
  refine ⟨fun i kb hi => ?_, fun i j ki kj hi hj hn => ?_, fun p hp => ?_, fun p hp i kb hi => ?_⟩
  · rcases two i kb hi with ⟨rfl, _⟩ | ⟨rfl, _⟩
    · exact hb'
    · exact hb
  · rcases two i ki hi with ⟨rfl, rfl⟩ | ⟨rfl, rfl⟩ <;> rcases two j kj hj with ⟨rfl, rfl⟩ | ⟨rfl, rfl⟩
    · exact absurd rfl hn
    · exact fun e => hne e.symm
    · exact hne
    · exact absurd rfl hn
  · simp at hp; subst hp; exact Since.refl _ _
  · simp at hp; subst hp
    rcases two i kb hi with ⟨rfl, _⟩ | ⟨rfl, _⟩
    · exact .inl (.inr rfl)
    · exact .inl (.inl rfl)
theorem Mem.find_one {i : Nat} {kb : KB} (hi : M.find i = some kb) (cs : List SV) (j : Nat) : (M.upd i cs).find j = if i = j then some { kb with cs := cs } else M.find j := by
  rw [Mem.find_upd]
  split
  · rename_i e; subst e; rw [hi]; rfl
  · rfl
/-- Behind a call that has written two known blocks (and else only what is new). -/
theorem A.wrote2 (h : A M H w) {i j : Nat} {ki kj : KB} (hij : i ≠ j) (hi : M.find i = some ki) (hj : M.find j = some kj) {ci cj : List SV} (hs : Since (fun b => b = ki.g ∨ b = kj.g) w w') (hbi : Blk w' ki.g ki.t (ci.map SV.den).toArray) (hbj : Blk w' kj.g kj.t (cj.map SV.den).toArray) : A ((M.upd i ci).upd j cj) H w' := by
  have key : ∀ {k : Nat} {kk : KB}, ((M.upd i ci).upd j cj).find k = some kk → (k = j ∧ kk = { kj with cs := cj }) ∨ (k = i ∧ kk = { ki with cs := ci }) ∨ (k ≠ i ∧ k ≠ j ∧ M.find k = some kk) := by
    intro k kk hk
    have hj' : (M.upd i ci).find j = some kj := by rw [Mem.find_one hi, if_neg hij]; exact hj
    rw [Mem.find_one hj'] at hk
    split at hk
    · rename_i e; injection hk with hk; exact .inl ⟨e.symm, hk.symm⟩
    · rename_i e1
      rw [Mem.find_one hi] at hk
      split at hk
      · rename_i e; injection hk with hk; exact .inr (.inl ⟨e.symm, hk.symm⟩)
      · rename_i e2; exact .inr (.inr ⟨fun e => e2 e.symm, fun e => e1 e.symm, hk⟩)
  have old : ∀ {k : Nat} {kk : KB}, ((M.upd i ci).upd j cj).find k = some kk → ∃ kk', M.find k = some kk' ∧ kk'.g = kk.g := by
    intro k kk hk
    rcases key hk with ⟨rfl, rfl⟩ | ⟨rfl, rfl⟩ | ⟨_, _, h⟩
    · exact ⟨kj, hj, rfl⟩
    · exact ⟨ki, hi, rfl⟩
    · exact ⟨kk, h, rfl⟩
  refine ⟨fun k kk hk => ?_, fun k l kk kl hk hl hne => ?_, fun p hp => ?_, fun p hp k kk hk => ?_⟩
  · rcases key hk with ⟨rfl, rfl⟩ | ⟨rfl, rfl⟩ | ⟨n1, n2, h2⟩
    · exact hbj
    · exact hbi
    · have hb := h.blk k kk h2
      show w'.heap[kk.g]? = _
      rw [hs.block kk.g hb.lt (by
        rintro (e | e)
        · exact h.apart k i kk ki h2 hi n1 e
        · exact h.apart k j kk kj h2 hj n2 e)]
      exact hb
  · obtain ⟨a, ha, hag⟩ := old hk
    obtain ⟨b, hb', hbg⟩ := old hl
    rw [← hag, ← hbg]
    exact h.apart k l a b ha hb' hne
  · exact (h.since p hp).step hs (fun b e => by
      rcases e with e | e
      · subst e; exact h.fresh p hp i ki hi
      · subst e; exact h.fresh p hp j kj hj)
  · obtain ⟨a, ha, hag⟩ := old hk
    rw [← hag]
    exact h.fresh p hp k a ha
end

/-- The row of what was seen. -/
def seenS (l : List Nat) : List SV := (List.range 12).map fun k => .val (.bool (l.contains k))
theorem nth_seen (l : List Nat) {k i : Nat} (hk : k < 12) (e : i = k) : nth (seenS l) i = some (.val (.bool (l.contains k))) := by
  subst e
  rw [nth_eq, seenS, List.getElem?_map, List.getElem?_range hk]; rfl
theorem setN_seen (l : List Nat) {k i : Nat} (hk : k < 12) (e : i = k) : setN (seenS l) i (.val (.bool true)) = some (seenS (k :: l)) := by
  subst e
  rw [setN_some _ (by simpa [seenS] using hk)]
  refine congrArg some (List.ext_getElem? fun j => ?_)
  unfold seenS
  by_cases hj : j < 12
  · rw [List.getElem?_set, List.getElem?_map, List.getElem?_map, List.getElem?_range hj]
    by_cases e : i = j
    · subst e; simp [hk]
    · have e' : ¬ j = i := fun h => e h.symm
      simp [e, e']
  · rw [List.getElem?_eq_none (by simp; omega), List.getElem?_eq_none (by simp; omega)]

/-- What follows of what was read. -/
theorem set_rel (c : MConfig) {k : Nat} (hk : k < 12) (b : Bs) : ∃ v la ok, readT b (leastW k).minus = (v, la, ok) ∧
    (ok = false → setSpec c k b = (c, 2)) ∧ (ok = true → la = true → setSpec c k b = (c, 1)) ∧
    (ok = true → la = false → withinW (leastW k) (mostW k) v = false → setSpec c k b = (c, 1)) ∧
    (ok = true → la = false → withinW (leastW k) (mostW k) v = true → setSpec c k b = (setF c k v, 0)) := by
  have hmin : (leastW k).minus = true ↔ k = 8 := by
    have : ∀ k, k < 12 → ((leastW k).minus = true ↔ k = 8) := by decide
    exact this k hk
  by_cases h : b = [45, 49] ∧ (leastW k).minus = true
  · have h8 := hmin.1 h.2
    refine ⟨_, _, _, readT_m1 h.1 h.2, fun h => Bool.noConfusion h, fun _ h => Bool.noConfusion h, fun _ _ h => ?_, fun _ _ _ => ?_⟩
    · subst h8; exact absurd h (by decide)
    · subst h8; rw [setSpec_m1 rfl h.1]
      obtain ⟨c0, c1, c2, c3, c4, c5, c6, c7, c8, c9, c10, c11⟩ := c
      rfl
  · have hno : ¬ (k = 8 ∧ b = [45, 49]) := fun e => h ⟨e.2, hmin.2 e.1⟩
    cases hn : numberB b with
    | none =>
      cases hd : digitsB b with
      | true => exact ⟨_, _, _, readT_big h hn hd, fun h => Bool.noConfusion h, fun _ _ => setSpec_big hno hn hd, fun _ h => Bool.noConfusion h, fun _ h => Bool.noConfusion h⟩
      | false => exact ⟨_, _, _, readT_bad h hn hd, fun _ => setSpec_syn hno hn hd, fun h => Bool.noConfusion h, fun h => Bool.noConfusion h, fun h => Bool.noConfusion h⟩
    | some n =>
      have hlt := (numberB_lt hn).1
      by_cases h9 : k = 9
      · refine ⟨_, _, _, readT_num h hn, fun h => Bool.noConfusion h, fun _ h => Bool.noConfusion h, fun _ _ hw => ?_, fun _ _ _ => ?_⟩
        · subst h9
          simp [withinW, lessW, leastW, mostW] at hw
          omega
        · rw [setSpec_price hno hn h9]
          subst h9
          obtain ⟨c0, c1, c2, c3, c4, c5, c6, c7, c8, c9, c10, c11⟩ := c
          rfl
      · have hw : withinW (leastW k) (mostW k) ⟨n, false⟩ = (!decide ((n : Int) < leastI k) && !decide (greatI k < n)) := by
          have h : k = 8 ∨ k = 0 ∨ k = 1 ∨ k = 2 ∨ k = 3 ∨ k = 4 ∨ k = 5 ∨ k = 6 ∨ k = 7 ∨ k = 10 ∨ k = 11 := by omega
          rcases h with rfl | h
          · have : ¬ (n : Int) < -1 := by omega
            simp [withinW, lessW, leastW, mostW, greatI, leastI, this]
          · rcases h with rfl | rfl | rfl | rfl | rfl | rfl | rfl | rfl | rfl | rfl <;> rfl
        refine ⟨_, _, _, readT_num h hn, fun h => Bool.noConfusion h, fun _ h => Bool.noConfusion h, fun _ _ e => ?_, fun _ _ e => ?_⟩
        · rw [hw] at e
          refine setSpec_out hno hn h9 ?_
          by_cases e1 : (n : Int) < leastI k
          · exact .inr e1
          · by_cases e2 : greatI k < n
            · exact .inl e2
            · simp [e1, e2] at e
        · rw [hw] at e
          have hr : ¬ (greatI k < n ∨ (n : Int) < leastI k) := by
            rintro (e1 | e1) <;> simp [e1] at e
          rw [setSpec_ok hno hn h9 hr]
          have hg := greatI_pos k
          have hwr : IntKind.i64.wrap (n : Int) = n := wrap_in _ (by omega) (by omega)
          obtain ⟨c0, c1, c2, c3, c4, c5, c6, c7, c8, c9, c10, c11⟩ := c
          have h : k = 0 ∨ k = 1 ∨ k = 2 ∨ k = 3 ∨ k = 4 ∨ k = 5 ∨ k = 6 ∨ k = 7 ∨ k = 8 ∨ k = 10 ∨ k = 11 := by omega
          rcases h with rfl | rfl | rfl | rfl | rfl | rfl | rfl | rfl | rfl | rfl | rfl <;> simp [setI, setF, wInt, hwr]
theorem lineSpec_len {c : MConfig} {seen : List Nat} {ws : List Bs} (h2 : ws.length ≠ 2) : lineSpec c seen ws = (2, c, seen) := by
  match ws, h2 with
  | [], _ => rfl
  | [_], _ => rfl
  | [_, _], h => exact absurd rfl h
  | _ :: _ :: _ :: _, _ => rfl

set_option maxRecDepth 100000 in
set_option maxHeartbeats 4000000 in
theorem line_c (g1 g2 : Nat) (hne : g1 ≠ g2) (c : MConfig) (seen : List Nat) (ws : List Bs) (a : Option Addr) (cp : Nat) (S : Fp) (w : World) (hb1 : Blk w g1 24 ((cfgS c).map SV.den).toArray) (hb2 : Blk w g2 79 ((seenS seen).map SV.den).toArray)
    (hsl : Sl Rp.str w S a (ws.map strB)) (hS : ∀ b, S b → ¬ (b = g1 ∨ b = g2)) (hlib : ∀ w', Since (fun b => b = g1 ∨ b = g2) w w' → LibOK w') :
    Calls Tryd.prog 42 #[.pointer (some ⟨g1, 0, none⟩), .pointer (some ⟨g2, 0, none⟩), .slice a ws.length cp] w fun e w' => e = .returned (.int .i64 (lineSpec c seen ws).1) ∧ Blk w' g1 24 ((cfgS (lineSpec c seen ws).2.1).map SV.den).toArray ∧ Blk w' g2 79 ((seenS (lineSpec c seen ws).2.2).map SV.den).toArray ∧ Since (fun b => b = g1 ∨ b = g2) w w' := by
  obtain ⟨c0, c1, c2, c3, c4, c5, c6, c7, c8, c9, c10, c11⟩ := c
  refine calls_of_vc seat Tryd.func42 rfl rfl (Nat.le_of_ble_eq_true rfl) (N := 59) (args := [.ptr 0 g1 0, .ptr 1 g2 0, .val (.slice a ws.length cp)]) (Nat.le_of_ble_eq_true rfl) rfl (A.start2 hne hb1 hb2) ?_
  refine ⟨fun h2 => ?_, fun h2 => ?_⟩
  · have h2 : ws.length ≠ 2 := by intro e; rw [e] at h2; simp at h2
    rw [lineSpec_len h2]
    intro w' hA
    exact ⟨rfl, hA.blk 0 _ rfl, hA.blk 1 _ rfl, hA.since (w, _) (List.Mem.head _)⟩
  have h2 : ws.length = 2 := by
    have := of_decide_eq_false (by simpa using h2 : decide ((ws.length : Int) ≠ 2) = false)
    omega
  obtain ⟨x, b2, rfl⟩ : ∃ a b2, ws = [a, b2] := by
    match ws, h2 with
    | [a, b2], _ => exact ⟨a, b2, rfl⟩
  have sl0 : ∃ bb oo, a = some ⟨bb, oo, none⟩ ∧ S bb ∧ w.rangeAt bb (oo + 0 * 1) [.string (strB x)] := by
    obtain ⟨b, o, cs, h1, h2, hr, hat, _, _⟩ := hsl.get 1 rfl (i := 0) (by simp)
    obtain ⟨hcs, _⟩ : cs = [.string (strB x)] ∧ _ := hr
    subst hcs
    exact ⟨b, o, h1, h2, hat⟩
  have sl1 : ∃ bb oo, a = some ⟨bb, oo, none⟩ ∧ S bb ∧ w.rangeAt bb (oo + 1 * 1) [.string (strB b2)] ∧ (strB b2).size ≤ 140737488355328 := by
    obtain ⟨b, o, cs, h1, h2, hr, hat, _, _⟩ := hsl.get 1 rfl (i := 1) (by simp)
    obtain ⟨hcs, hsz2⟩ : cs = [.string (strB b2)] ∧ (strB b2).size ≤ 140737488355328 := hr
    subst hcs
    exact ⟨b, o, h1, h2, hat, hsz2⟩
  obtain ⟨bb, oo, rfl, hbb, hat0⟩ := sl0
  obtain ⟨_, _, e1, _, hat1, hb2l⟩ := sl1
  cases e1
  have ld0 : ∀ {M : Mem} {H : Hist} (w' : World), A M H w' → (w, fun b => b = g1 ∨ b = g2) ∈ H → (loadVar 9 ⟨bb, oo + 0 * 1, none⟩).run Tryd.prog w' = .ok (.string (strB x)) w' :=
    fun w' hA hm => ldS seat.tab rfl rfl hat0 (j := 0) rfl (by omega) (hA.since _ hm) (hS bb hbb)
  have ld1' : ∀ {M : Mem} {H : Hist} (w' : World), A M H w' → (w, fun b => b = g1 ∨ b = g2) ∈ H → (loadVar 9 ⟨bb, oo + 1 * 1, none⟩).run Tryd.prog w' = .ok (.string (strB b2)) w' :=
    fun w' hA hm => ldS seat.tab rfl rfl hat1 (j := 0) rfl (by omega) (hA.since _ hm) (hS bb hbb)
  refine ⟨bb, oo, 0, rfl, rfl, by simp, ?_⟩
  refine ⟨.string (strB x), fun w' hA => ld0 w' hA (List.Mem.head _), ?_⟩
  have hfind := find_c (strB x)
  rw [strB_list] at hfind
  cases hk : keyIdx x with
  | none =>
    rw [findF_none hk] at hfind
    (intro w1 hA; refine (hfind w1).mono ?_; rintro e w2 ⟨rfl, hb⟩; refine ⟨.val _, _, _, rfl, hA.below' hb, ?_⟩)
    refine ⟨fun _ => ?_, fun h => absurd h (by decide)⟩
    have hls : lineSpec ⟨c0, c1, c2, c3, c4, c5, c6, c7, c8, c9, c10, c11⟩ seen [x, b2] = (10, ⟨c0, c1, c2, c3, c4, c5, c6, c7, c8, c9, c10, c11⟩, seen) := by simp only [lineSpec, hk]
    rw [hls]
    intro w' hA
    exact ⟨rfl, hA.blk 0 _ rfl, hA.blk 1 _ rfl, hA.since (w, _) (List.Mem.head _)⟩
  | some k =>
  rw [findF_some hk] at hfind
  have hk12 := (keyIdx_lt hk).1
  (intro w1 hA; refine (hfind w1).mono ?_; rintro e w2 ⟨rfl, hb⟩; refine ⟨.val _, _, _, rfl, hA.below' hb, ?_⟩)
  refine ⟨fun h => absurd (of_decide_eq_true h) (by omega), fun _ => ?_⟩
  refine ⟨k, rfl, hk12, ?_⟩
  refine ⟨_, nth_seen seen hk12 (by omega), rfl, ?_⟩
  refine ⟨fun h => ?_, fun h => ?_⟩
  · have hmem : k ∈ seen := by simpa using h
    have hls : lineSpec ⟨c0, c1, c2, c3, c4, c5, c6, c7, c8, c9, c10, c11⟩ seen [x, b2] = (8, ⟨c0, c1, c2, c3, c4, c5, c6, c7, c8, c9, c10, c11⟩, seen) := by simp only [lineSpec, hk, if_pos hmem]
    rw [hls]
    intro w' hA
    exact ⟨rfl, hA.blk 0 _ rfl, hA.blk 1 _ rfl, hA.since (w, _) (List.Mem.head _)⟩
  have hmem : k ∉ seen := by simpa using h
  have hls : lineSpec ⟨c0, c1, c2, c3, c4, c5, c6, c7, c8, c9, c10, c11⟩ seen [x, b2] = ((setSpec ⟨c0, c1, c2, c3, c4, c5, c6, c7, c8, c9, c10, c11⟩ k b2).2, (setSpec ⟨c0, c1, c2, c3, c4, c5, c6, c7, c8, c9, c10, c11⟩ k b2).1, k :: seen) := by
    simp only [lineSpec, hk, if_neg hmem]
  rw [hls]
  clear h hls
  refine ⟨k, rfl, hk12, ?_⟩
  refine ⟨_, setN_seen seen hk12 (by omega), rfl, rfl, ?_⟩
  obtain ⟨v, la, ok, hr, s1, s2, s3, s4⟩ := set_rel ⟨c0, c1, c2, c3, c4, c5, c6, c7, c8, c9, c10, c11⟩ hk12 b2
  have hread := read_c (strB b2) hb2l (leastW k).minus
  rw [strB_list, hr] at hread
  have hrow := rowsV_at k hk12
  unfold rowV at hrow
  clear hr
  generalize leastW k = lw at *
  generalize mostW k = mw at *
  generalize defW k = dw at *
  obtain ⟨ln, lm⟩ := lw
  obtain ⟨mn, mm⟩ := mw
  obtain ⟨dn, dm⟩ := dw
  obtain ⟨vn, vm⟩ := v
  have hwi := within_c ⟨(nameL k).toArray⟩ ⟨ln, lm⟩ ⟨mn, mm⟩ ⟨dn, dm⟩ ⟨vn, vm⟩
  generalize withinW ⟨ln, lm⟩ ⟨mn, mm⟩ ⟨vn, vm⟩ = wi at *
  intro w1 hA
  refine (rows_c w1).mono ?_
  rintro e w2 ⟨rfl, hb⟩
  refine ⟨.val _, [(1, ⟨g2, 79, seenS (k :: seen)⟩), (0, ⟨g1, 24, cfgS ⟨c0, c1, c2, c3, c4, c5, c6, c7, c8, c9, c10, c11⟩⟩)], [(w, fun b => b = g1 ∨ b = g2)], rfl, hA.below' hb, ?_⟩
  clear hA hb
  refine ⟨k, rfl, hk12, _, hrow, ?_⟩
  intro g3 _
  refine ⟨rfl, rfl, rfl, rfl, ?_⟩
  refine ⟨_, [(2, ⟨g3, 59, .val (.string ⟨(nameL k).toArray⟩) :: (wideV ⟨ln, lm⟩ ++ wideV ⟨mn, mm⟩ ++ wideV ⟨dn, dm⟩).map SV.val⟩)], [(w, fun b => b = g1 ∨ b = g2)], [], .inr rfl, .inl ⟨rfl, trivial⟩, fun _ h => h, (.take 0 (.take 1 (.take 2 (.take 3 (.take 4 (.take 5 (.alt 6 (.take 7 (.take 8 (.take 9 (.take 10 (.alt 11 (.alt 12 (.take 13 (.take 14 .done)) .stop) .stop))))) (.alt 11 (.alt 6 (.take 7 (.take 8 (.take 9 (.take 10 (.alt 12 (.take 13 (.take 14 .done)) .stop))))) .stop) .stop)))))))), by kernel_rfl, ?_⟩
  refine ⟨bb, oo, 1, rfl, rfl, by simp, ?_⟩
  refine ⟨.string (strB b2), fun w' hA => ld1' w' hA (List.Mem.head _), ?_⟩
  refine ⟨_, rfl, rfl, ?_⟩
  refine ⟨?_, ?_⟩
  · intro w2 hA
    refine (hread w2 (fun w' hb => hlib w' ((hA.below' hb).since (w, _) (List.Mem.head _)))).mono ?_
    rintro e w3 ⟨rfl, hb⟩
    refine ⟨.val _, _, _, rfl, hA.below' hb, rfl, List.Mem.head _, ?_⟩
    clear hA hb
    refine ⟨_, rfl, _, rfl, _, rfl, ?_⟩
    intro g4 _
    refine ⟨rfl, List.Mem.head _, ?_⟩
    refine ⟨rfl, rfl, rfl, rfl, ?_⟩
    refine ⟨rfl, List.Mem.head _, ?_⟩
    refine ⟨fun h => ?_, fun h => ?_⟩
    · have h : ok = false := by simpa using h
      rw [s1 h]
      intro w' hA
      exact ⟨rfl, hA.blk 0 _ rfl, hA.blk 1 _ rfl, hA.since (w, _) (List.Mem.head _)⟩
    have h : ok = true := by simpa using h
    replace s2 := s2 h
    replace s3 := s3 h
    replace s4 := s4 h
    clear s1 h
    refine ⟨fun hla => ?_, fun hla => ?_⟩
    · have hla : la = false := hla
      replace s3 := s3 hla
      replace s4 := s4 hla
      refine ⟨rfl, rfl, ?_⟩
      refine ⟨rfl, rfl, ?_⟩
      intro w1 hA
      refine (hwi w1).mono ?_
      rintro e w2 ⟨rfl, hb⟩
      refine ⟨.val _, _, _, rfl, hA.below' hb, ?_⟩
      clear hA hb
      refine ⟨fun h => ?_, fun h => ?_⟩
      · have h : wi = false := by simpa using h
        rw [s3 h]
        intro w' hA
        exact ⟨rfl, hA.blk 0 _ rfl, hA.blk 1 _ rfl, hA.since (w, _) (List.Mem.head _)⟩
      have h : wi = true := by simpa using h
      rw [s4 h]
      refine ⟨rfl, rfl, ?_⟩
      intro w1 hA
      refine (set_c g1 ⟨c0, c1, c2, c3, c4, c5, c6, c7, c8, c9, c10, c11⟩ k hk12 ⟨vn, vm⟩ w1 (hA.blk 0 _ rfl)).mono ?_
      rintro e w2 ⟨rfl, hb2', hs2⟩
      generalize setF ⟨c0, c1, c2, c3, c4, c5, c6, c7, c8, c9, c10, c11⟩ k ⟨vn, vm⟩ = d at *
      have hA2 := (hA.wrote (i := 0) rfl hs2 hb2').sub (M' := [(1, ⟨g2, 79, seenS (k :: seen)⟩), (0, ⟨g1, 24, cfgS d⟩)]) ⟨rfl, rfl, trivial⟩
      refine ⟨.val _, _, _, rfl, hA2, ?_⟩
      clear hA hA2 hb2' hs2
      intro w' hA
      exact ⟨rfl, hA.blk 0 _ rfl, hA.blk 1 _ rfl, hA.since (w, _) (List.Mem.head _)⟩
    · have hla : la = true := by simpa using hla
      rw [s2 hla]
      (repeat (first | refine ⟨fun _ => ?_, fun h => Bool.noConfusion h⟩ | refine ⟨fun h => Bool.noConfusion h, fun _ => ?_⟩ | refine ⟨_, wrap_in _ (by omega) (by omega), ?_⟩ | refine ⟨_, wrapu_in _ (by omega) (by omega), ?_⟩ | refine ⟨_, wrap8_in _ (by omega) (by omega), ?_⟩ | refine ⟨_, rfl, ?_⟩ | refine ⟨rfl, ?_⟩))
      intro w' hA
      exact ⟨rfl, hA.blk 0 _ rfl, hA.blk 1 _ rfl, hA.since (w, _) (List.Mem.head _)⟩
  · intro g4 _
    refine ⟨rfl, List.Mem.head _, ?_⟩
    intro w2 hA
    refine (hread w2 (fun w' hb => hlib w' ((hA.below' hb).since (w, _) (List.Mem.head _)))).mono ?_
    rintro e w3 ⟨rfl, hb⟩
    refine ⟨.val _, _, _, rfl, hA.below' hb, rfl, List.Mem.head _, ?_⟩
    clear hA hb
    refine ⟨_, rfl, _, rfl, _, rfl, ?_⟩
    refine ⟨rfl, rfl, rfl, rfl, ?_⟩
    refine ⟨rfl, List.Mem.head _, ?_⟩
    refine ⟨fun h => ?_, fun h => ?_⟩
    · have h : ok = false := by simpa using h
      rw [s1 h]
      intro w' hA
      exact ⟨rfl, hA.blk 0 _ rfl, hA.blk 1 _ rfl, hA.since (w, _) (List.Mem.head _)⟩
    have h : ok = true := by simpa using h
    replace s2 := s2 h
    replace s3 := s3 h
    replace s4 := s4 h
    clear s1 h
    refine ⟨fun hla => ?_, fun hla => ?_⟩
    · have hla : la = false := hla
      replace s3 := s3 hla
      replace s4 := s4 hla
      refine ⟨rfl, rfl, ?_⟩
      refine ⟨rfl, rfl, ?_⟩
      intro w1 hA
      refine (hwi w1).mono ?_
      rintro e w2 ⟨rfl, hb⟩
      refine ⟨.val _, _, _, rfl, hA.below' hb, ?_⟩
      clear hA hb
      refine ⟨fun h => ?_, fun h => ?_⟩
      · have h : wi = false := by simpa using h
        rw [s3 h]
        intro w' hA
        exact ⟨rfl, hA.blk 0 _ rfl, hA.blk 1 _ rfl, hA.since (w, _) (List.Mem.head _)⟩
      have h : wi = true := by simpa using h
      rw [s4 h]
      refine ⟨rfl, rfl, ?_⟩
      intro w1 hA
      refine (set_c g1 ⟨c0, c1, c2, c3, c4, c5, c6, c7, c8, c9, c10, c11⟩ k hk12 ⟨vn, vm⟩ w1 (hA.blk 0 _ rfl)).mono ?_
      rintro e w2 ⟨rfl, hb2', hs2⟩
      generalize setF ⟨c0, c1, c2, c3, c4, c5, c6, c7, c8, c9, c10, c11⟩ k ⟨vn, vm⟩ = d at *
      have hA2 := (hA.wrote (i := 0) rfl hs2 hb2').sub (M' := [(1, ⟨g2, 79, seenS (k :: seen)⟩), (0, ⟨g1, 24, cfgS d⟩)]) ⟨rfl, rfl, trivial⟩
      refine ⟨.val _, _, _, rfl, hA2, ?_⟩
      clear hA hA2 hb2' hs2
      intro w' hA
      exact ⟨rfl, hA.blk 0 _ rfl, hA.blk 1 _ rfl, hA.since (w, _) (List.Mem.head _)⟩
    · have hla : la = true := by simpa using hla
      rw [s2 hla]
      (repeat (first | refine ⟨fun _ => ?_, fun h => Bool.noConfusion h⟩ | refine ⟨fun h => Bool.noConfusion h, fun _ => ?_⟩ | refine ⟨_, wrap_in _ (by omega) (by omega), ?_⟩ | refine ⟨_, wrapu_in _ (by omega) (by omega), ?_⟩ | refine ⟨_, wrap8_in _ (by omega) (by omega), ?_⟩ | refine ⟨_, rfl, ?_⟩ | refine ⟨rfl, ?_⟩))
      intro w' hA
      exact ⟨rfl, hA.blk 0 _ rfl, hA.blk 1 _ rfl, hA.since (w, _) (List.Mem.head _)⟩
end Go.Proofs.YtllepnadffndnaaDoor
