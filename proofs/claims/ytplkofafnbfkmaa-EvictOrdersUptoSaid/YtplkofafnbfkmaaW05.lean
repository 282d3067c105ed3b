/- Parts of a proof, one behind the other: O4, O5, O6, O7, O8, O9, OA, OB, OC, OD, OG, OI, Data. -/
import Derived.Test.YtplkofafnbfkmaaW04
/- Rotations, and the insertion sort. -/
namespace Go.Proofs.Ytplkofafnbfkmaa
open Go.RowKit
variable {G : GS}
structure Rot where
  P : List TE
  L : List TE
  R : List TE
  S : List TE
set_option maxHeartbeats 1000000 in
theorem rotate_r (n : Nat) (hN : n < 2305843009213693952) (P L R S : List TE) (a m b : Nat) (hP : P.length = a) (hL : a + L.length = m) (hR : m + R.length = b) (hS : b + S.length = n) (hl : 0 < L.length) (hr : 0 < R.length) :
    SemR Try.prog G 55 [dataM n, .int .i64 a, .int .i64 m, .int .i64 b] (sortB n (P ++ (L ++ (R ++ S)))) 2 (.tup []) (sortB n (P ++ (R ++ (L ++ S)))) 2 := by
  unfold dataM
  refine semR_of_vc seat Try.func55 rfl rfl (Nat.le_of_ble_eq_true rfl) (Nat.le_of_ble_eq_true rfl) (N := 53) rfl rfl ?_
  refine go0 ?_
  refine ⟨Rot, fun x => [(9, .int .i64 x.R.length), (8, .int .i64 x.L.length), (4, .ptr 2 2 0 0 []), (2, .int .i64 m)], fun x => sortB n (x.P ++ (x.L ++ (x.R ++ x.S))) ++ [(2, ⟨76, 2, false, 0, [dataM n]⟩)], 3,
    fun x => x.P ++ (x.R ++ (x.L ++ x.S)) = P ++ (R ++ (L ++ S)) ∧ x.P.length + x.L.length = m ∧ m + x.R.length + x.S.length = n ∧ 0 < x.L.length ∧ 0 < x.R.length, fun x => x.L.length + x.R.length, ⟨⟨P, L, R, S⟩, ⟨rfl, by show P.length + L.length = m; omega, by show m + R.length + S.length = n; omega, hl, hr⟩, (by dsimp only; exact (vm [(2, _)] []))⟩, ?_⟩
  rintro ⟨P1, L1, R1, S1⟩ ⟨hT, h1, h2, h3, h4⟩
  dsimp only at hT h1 h2 h3 h4 ⊢
  rw [← hT]
  clear hT hP hL hR hS hl hr
  generalize hi : L1.length = i at *
  generalize hj : R1.length = j at *
  refine ⟨fun hd => ?_, fun hd => ?_⟩
  · have hne : i ≠ j := by have : ¬ ((i : Int) = j) := (by simpa using hd)
                           omega
    refine go0 ?_
    refine ⟨fun hd => ?_, fun hd => ?_⟩
    · have hlt : j < i := by have := of_decide_eq_true hd; omega
      obtain ⟨A, B, rfl, hA⟩ := cut2 L1 (k := j) (by omega)
      rw [List.length_append] at hi
      refine go0 ?_
      refine .inr ⟨_, _, _, _, _, _, swapRange_r (G := G) n (by omega) P1 A B R1 S1 (by omega) P1.length m j rfl (by omega) hA (by omega), [(0, 0), (1, 1)], [], ⟨rfl, trivial, rfl, lm, mm⟩, rfl, rfl, ?_⟩
      refine go0 ?_
      refine ⟨⟨P1 ++ R1, B, A, S1⟩, ⟨by simp, by show (P1 ++ R1).length + B.length = m; rw [List.length_append]; omega, by show m + A.length + S1.length = n; omega, by show 0 < B.length; omega, by show 0 < A.length; omega⟩, by show B.length + A.length < i + j; omega, ?_⟩
      dsimp only
      rw [List.append_assoc]
      exact (vm [(2, _)] [])
    · have hlt : i < j := by have := of_decide_eq_false hd; omega
      obtain ⟨A, B, rfl, hA⟩ := cut2 R1 (k := j - i) (by omega)
      rw [List.length_append] at hj
      refine go0 ?_
      refine .inr ⟨_, _, _, _, _, _, swapRange_r (G := G) n (by omega) P1 L1 A B S1 (by omega) P1.length (m + j - i) i rfl (by omega) (by omega) (by omega), [(0, 0), (1, 1)], [], ⟨rfl, trivial, rfl, lm, mm⟩, rfl, rfl, ?_⟩
      refine go0 ?_
      refine ⟨⟨P1, B, A, L1 ++ S1⟩, ⟨by simp, by show P1.length + B.length = m; omega, by show m + A.length + (L1 ++ S1).length = n; rw [List.length_append]; omega, by show 0 < B.length; omega, by show 0 < A.length; omega⟩, by show B.length + A.length < i + j; omega, ?_⟩
      exact (by dsimp only; exact (vm [(2, _)] []))
  · have hne : i = j := by have : (i : Int) = j := (by simpa using hd)
                           omega
    subst hne
    refine go0 ?_
    refine .inr ⟨_, _, _, _, _, _, swapRange_r (G := G) n (by omega) P1 L1 [] R1 S1 (by omega) P1.length m i rfl (by show P1.length + i + 0 = m; omega) hi (by omega), [(0, 0), (1, 1)], [], ⟨rfl, trivial, rfl, lm, mm⟩, rfl, rfl, ?_⟩
    refine go0 ?_
    refine ⟨[], [], [], rfl, rfl, trivial, rfl, trivial, ?_⟩
    · exact mm
end Go.Proofs.Ytplkofafnbfkmaa
/- The insertion sort. -/
namespace Go.Proofs.Ytplkofafnbfkmaa
open Go.RowKit
variable {G : GS}
abbrev TagsLt (l : List TE) : Prop := l.Pairwise fun x y => x.2 < y.2
theorem pw_app {R : TE → TE → Prop} {l1 l2 : List TE} : (l1 ++ l2).Pairwise R ↔ l1.Pairwise R ∧ l2.Pairwise R ∧ ∀ x ∈ l1, ∀ y ∈ l2, R x y := List.pairwise_append
/-- Behind a round of the insertion sort. -/
theorem ins_done {A L R : List TE} {e : TE} {k : Nat} (hk : k < A.length) (he : A[k] = e) (hA : TagsLt A) (hS : srt (A.take k) = L ++ R) (hR : ∀ r ∈ R, ltT e r) (hL : ∀ L' z, L = L' ++ [z] → befE e.1 z.1 = false) :
    L ++ e :: R = srt (A.take (k + 1)) := by
  have e1 := List.take_succ_eq_append_getElem hk
  rw [he] at e1
  have htk : TagsLt (A.take (k + 1)) := hA.sublist (List.take_sublist _ _)
  have hs := srt_srt (A.take k) (ne_of_lt (hA.sublist (List.take_sublist _ _)))
  rw [hS] at hs
  obtain ⟨s1, s2, s3⟩ := pw_app.1 hs
  have hp : (L ++ e :: R).Perm (A.take (k + 1)) := by
    have h1 : (L ++ R).Perm (A.take k) := hS ▸ srt_perm _
    have h2 : (L ++ e :: R).Perm (e :: (L ++ R)) := List.perm_middle
    rw [e1]
    exact (h2.trans (h1.cons e)).trans (List.perm_append_singleton e _).symm
  refine srt_of hp (pw_app.2 ⟨s1, List.pairwise_cons.2 ⟨hR, s2⟩, fun x hx y hy => ?_⟩) (ne_of_lt htk)
  have hxe : ltT x e := by
    rcases List.eq_nil_or_concat L with rfl | ⟨L', z, rfl⟩
    · cases hx
    · rw [List.concat_eq_append] at *
      have hz : ltT z e := by
        refine befE_f (hL L' z rfl) ?_
        have hm : z ∈ A.take k := (srt_perm _).mem_iff.1 (hS ▸ by simp)
        rw [e1] at htk
        exact (pw_app.1 htk).2.2 z hm e (by simp)
      rcases List.mem_append.1 hx with h | h
      · exact ltT_trans ((pw_app.1 s1).2.2 x h z (by simp)) hz
      · rw [List.mem_singleton.1 h]; exact hz
  rcases List.mem_cons.1 hy with rfl | hy
  · exact hxe
  · exact ltT_trans hxe (hR y hy)
theorem srt_one {A : List TE} (h : A.length ≤ 1) : srt A = A := by
  match A, h with
  | [], _ => rfl
  | [x], _ => rfl
  | _ :: _ :: _, h => simp at h
theorem less_at (n : Nat) (t : List TE) (ht : t.length = n) (i j : Nat) {x y : TE} (hx : t[i]? = some x) (hy : t[j]? = some y) : SemR Try.prog G 27 [.int .i64 i, .int .i64 j, .ptr 0 1 0 0 []] (sortB n t) 2 (.bool (befE x.1 y.1)) (sortB n t) 2 := by
  obtain ⟨h1, rfl⟩ := List.getElem?_eq_some_iff.1 hx
  obtain ⟨h2, rfl⟩ := List.getElem?_eq_some_iff.1 hy
  exact less_r n t ht i j (by omega) (by omega)
theorem at_mid {X Z : List TE} {a : TE} {i : Nat} (hi : X.length = i) : (X ++ a :: Z)[i]? = some a := by subst hi; simp
set_option maxHeartbeats 2000000 in
theorem insertion_r (n : Nat) (hN : n < 2305843009213693952) (P A S : List TE) (a b : Nat) (hP : P.length = a) (hb : a + A.length = b) (hS : b + S.length = n) (hA : TagsLt A) :
    SemR Try.prog G 51 [dataM n, .int .i64 a, .int .i64 b] (sortB n (P ++ (A ++ S))) 2 (.tup []) (sortB n (P ++ (srt A ++ S))) 2 := by
  have h0 : P ++ (A ++ S) = P ++ (srt (A.take 1) ++ (A.drop 1 ++ S)) := by
    rw [srt_one (A := A.take 1) (by simp; omega), ← List.append_assoc (A.take 1), List.take_append_drop]
  rw [h0]
  unfold dataM
  refine semR_of_vc seat Try.func51 rfl rfl (Nat.le_of_ble_eq_true rfl) (Nat.le_of_ble_eq_true rfl) (N := 35) rfl rfl ?_
  refine go0 ?_
  refine ⟨Nat, fun k => [(6, .int .i64 ((a : Int) + k)), (3, .ptr 2 2 0 0 []), (2, .int .i64 b), (1, .int .i64 a)], fun k => sortB n (P ++ (srt (A.take k) ++ (A.drop k ++ S))) ++ [(2, ⟨76, 2, false, 0, [dataM n]⟩)], 3, fun k => 1 ≤ k ∧ (k ≤ A.length ∨ k = 1), fun k => A.length - k, ⟨1, ⟨by omega, .inr rfl⟩, (by dsimp only; exact (vm [(2, _)] []))⟩, ?_⟩
  rintro k ⟨hk1, hk2⟩
  refine ⟨fun hd => ?_, fun hd => ?_⟩
  · have hk : k < A.length := by have := of_decide_eq_true hd; omega
    dsimp only
    rw [List.drop_eq_getElem_cons hk]
    refine go0 ?_
    refine ⟨List TE × List TE, fun x => [(7, .int .i64 ((a : Int) + x.1.length)), (6, .int .i64 ((a : Int) + k)), (3, .ptr 2 2 0 0 []), (2, .int .i64 b), (1, .int .i64 a)], fun x => sortB n (P ++ (x.1 ++ (A[k] :: (x.2 ++ (A.drop (k + 1) ++ S))))) ++ [(2, ⟨76, 2, false, 0, [dataM n]⟩)], 3, fun x => srt (A.take k) = x.1 ++ x.2 ∧ ∀ r ∈ x.2, ltT A[k] r, fun x => x.1.length, ⟨(srt (A.take k), []), ⟨by simp, by simp⟩, ?_⟩, ?_⟩
    · have hl : (srt (A.take k)).length = k := by rw [(srt_perm _).length_eq]; simp; omega
      dsimp only
      rw [hl, List.nil_append]
      exact (vm [(2, _)] [])
    rintro ⟨L, R⟩ ⟨hs, hR⟩
    dsimp only at hs hR ⊢
    have hlen : L.length + R.length = k := by
      have := congrArg List.length hs
      rw [(srt_perm _).length_eq, List.length_append] at this
      simp at this; omega
    have hlt : (P ++ (L ++ (A[k] :: (R ++ (A.drop (k + 1) ++ S))))).length = n := by simp; omega
    generalize hE : A[k] = e at *
    rcases List.eq_nil_or_concat L with rfl | ⟨L, z, rfl⟩
    · have hd := ins_done hk hE hA hs hR (fun L' z h => by simp at h)
      have hc : P ++ ([] ++ (e :: (R ++ (A.drop (k + 1) ++ S)))) = P ++ (srt (A.take (k + 1)) ++ (A.drop (k + 1) ++ S)) := by rw [← hd]; simp
      rw [hc]
      refine go0 ?_
      refine ⟨fun h => ?_, fun h => ?_⟩
      · exfalso
        have := of_decide_eq_true h
        simp at this
      · refine go0 ?_
        refine go0 ?_
        exact ⟨k + 1, ⟨by omega, .inl hk⟩, by show A.length - (k + 1) < A.length - k; omega, (by dsimp only; exact (vm [(2, _)] []))⟩
    · rw [List.concat_eq_append] at *
      have hj : (L ++ [z]).length = L.length + 1 := by simp
      rw [hj] at hlen ⊢
      have hx1 : (P ++ ((L ++ [z]) ++ (e :: (R ++ (A.drop (k + 1) ++ S)))))[a + (L.length + 1)]? = some e := by
        rw [← List.append_assoc]; exact at_mid (by simp; omega)
      have hx2 : (P ++ ((L ++ [z]) ++ (e :: (R ++ (A.drop (k + 1) ++ S)))))[a + L.length]? = some z := by
        rw [List.append_assoc, ← List.append_assoc]; exact at_mid (by simp; omega)
      have hsw : swp (P ++ ((L ++ [z]) ++ (e :: (R ++ (A.drop (k + 1) ++ S))))) (a + (L.length + 1)) (a + L.length) = P ++ (L ++ (e :: ((z :: R) ++ (A.drop (k + 1) ++ S)))) := by
        rw [swp_comm]
        have := swp_app' (X := P ++ L) (Y := []) (Z := R ++ (A.drop (k + 1) ++ S)) (a := z) (b := e) (i := a + L.length) (j := a + (L.length + 1)) (by simp; omega) (by simp; omega)
        simpa using this
      have hless := less_at (G := G) n _ hlt _ _ hx1 hx2
      have hswap := swap_p (G := G) n _ hlt (a + (L.length + 1)) (a + L.length) (by omega) (by omega)
      rw [hsw] at hswap
      refine go0 ?_
      refine ⟨fun h => ?_, fun h => ?_⟩
      · refine go0 ?_
        refine .inr ⟨_, _, _, _, _, _, hless, [(0, 0), (1, 1)], [], ⟨rfl, trivial, rfl, lm, mm⟩, rfl, rfl, ?_⟩
        refine go0 ?_
        refine ⟨fun h => ?_, fun h => ?_⟩
        · refine go0 ?_
          refine .inr ⟨_, _, _, _, _, _, hswap, [(0, 0), (1, 1)], [], ⟨rfl, trivial, rfl, lm, mm⟩, rfl, rfl, ?_⟩
          refine go0 ?_
          exact ⟨(L, z :: R), ⟨by rw [hs]; simp, fun r hr => by
            rcases List.mem_cons.1 hr with rfl | hr
            · exact befE_t h
            · exact hR r hr⟩, by show L.length < L.length + 1; omega, (by dsimp only; exact (vm [(2, _)] []))⟩
        · have hd := ins_done hk hE hA hs hR (fun L' z' hz => by
            have := List.append_inj_right' hz rfl
            injection this with this
            subst this
            exact h)
          have hc : P ++ ((L ++ [z]) ++ (e :: (R ++ (A.drop (k + 1) ++ S)))) = P ++ (srt (A.take (k + 1)) ++ (A.drop (k + 1) ++ S)) := by rw [← hd]; simp
          rw [hc]
          refine go0 ?_
          refine go0 ?_
          exact ⟨k + 1, ⟨by omega, .inl hk⟩, by show A.length - (k + 1) < A.length - k; omega, (by dsimp only; exact (vm [(2, _)] []))⟩
      · exfalso
        have := of_decide_eq_false h
        omega
  · have hk : A.length ≤ k := by have := of_decide_eq_false hd; omega
    dsimp only
    rw [List.take_of_length_le hk, List.drop_eq_nil_of_le hk, List.nil_append]
    refine go0 ?_
    refine ⟨[], [], [], rfl, rfl, trivial, rfl, trivial, ?_⟩
    · exact mm
end Go.Proofs.Ytplkofafnbfkmaa
/- The merging of two sorted ranges, in plain words. -/
namespace Go.Proofs.Ytplkofafnbfkmaa
theorem srt_app {A B : List TE} (h : ∀ x ∈ A, ∀ y ∈ B, ltT x y) (hn : TagsNe (A ++ B)) : srt (A ++ B) = srt A ++ srt B := by
  have hn' := hn
  obtain ⟨n1, n2, _⟩ := List.pairwise_append.1 hn
  refine (srt_of ((srt_perm A).append (srt_perm B)) (pw_app.2 ⟨srt_srt A n1, srt_srt B n2, fun x hx y hy => h x ((srt_perm A).mem_iff.1 hx) y ((srt_perm B).mem_iff.1 hy)⟩) hn').symm
theorem srt_id {A : List TE} (h : SrtT A) (hn : TagsNe A) : srt A = A := (srt_of (.refl _) h hn).symm
theorem pw_get {R : TE → TE → Prop} {l : List TE} (h : l.Pairwise R) {i j : Nat} {x y : TE} (hx : l[i]? = some x) (hy : l[j]? = some y) (hij : i < j) : R x y := by
  obtain ⟨h1, rfl⟩ := List.getElem?_eq_some_iff.1 hx
  obtain ⟨h2, rfl⟩ := List.getElem?_eq_some_iff.1 hy
  exact List.pairwise_iff_getElem.1 h i j h1 h2 hij
theorem pw_le {l : List TE} (h : SrtT l) {i j : Nat} {x y : TE} (hx : l[i]? = some x) (hy : l[j]? = some y) (hij : i ≤ j) : x = y ∨ ltT x y := by
  rcases Nat.lt_or_ge i j with h1 | h1
  · exact .inr (pw_get h hx hy h1)
  · have : i = j := by omega
    subst this
    rw [hx] at hy
    injection hy with hy
    exact .inl hy
theorem at_some {l : List TE} {i : Nat} (h : i < l.length) : ∃ x, l[i]? = some x := ⟨l[i], by simp [h]⟩
theorem mem_at {l : List TE} {i : Nat} {x : TE} (h : l[i]? = some x) : x ∈ l := List.mem_of_getElem? h
/-- Whether the element of the right range comes ahead of that of the left one. -/
def gB (A B : List TE) (u v : Nat) : Bool := match A[u]?, B[v]? with
  | some x, some y => befE y.1 x.1
  | _, _ => false
theorem gB_at {A B : List TE} {u v : Nat} {x y : TE} (hx : A[u]? = some x) (hy : B[v]? = some y) : gB A B u v = befE y.1 x.1 := by unfold gB; rw [hx, hy]
theorem gB_mono {A B : List TE} (hA : SrtT A) (hB : SrtT B) (ht : ∀ x ∈ A, ∀ y ∈ B, x.2 < y.2) {u v u' v' : Nat} (hu : u ≤ u') (hv : v' ≤ v) (h1 : u' < A.length) (h2 : v < B.length) (hg : gB A B u v = true) : gB A B u' v' = true := by
  obtain ⟨x, hx⟩ := at_some (l := A) (i := u) (by omega)
  obtain ⟨x', hx'⟩ := at_some h1
  obtain ⟨y, hy⟩ := at_some h2
  obtain ⟨y', hy'⟩ := at_some (l := B) (i := v') (by omega)
  rw [gB_at hx hy] at hg
  rw [gB_at hx' hy']
  have h3 := befE_t hg
  have h4 : ltT y' x' := by
    have h5 : ltT y' x := by
      rcases pw_le hB hy' hy hv with rfl | h
      · exact h3
      · exact ltT_trans h h3
    rcases pw_le hA hx hx' hu with rfl | h
    · exact h5
    · exact ltT_trans h5 h
  exact (befE_iff (ht _ (mem_at hx') _ (mem_at hy'))).2 h4
/-- Where the ranges are cut: behind the cut nothing comes that has to stand ahead of it. -/
theorem sym_cut {A B : List TE} (hA : SrtT A) (hB : SrtT B) (ht : ∀ x ∈ A, ∀ y ∈ B, x.2 < y.2) {u v : Nat} (hu : u ≤ A.length) (hv : v ≤ B.length)
    (h1 : 0 < u → v < B.length → gB A B (u - 1) v = false) (h2 : u < A.length → 0 < v → gB A B u (v - 1) = true) :
    ∀ x ∈ A.take u ++ B.take v, ∀ y ∈ A.drop u ++ B.drop v, ltT x y := by
  have sA := (List.take_append_drop u A).symm
  have sB := (List.take_append_drop v B).symm
  have pA := hA
  rw [sA] at pA
  have pB := hB
  rw [sB] at pB
  intro x hx y hy
  rcases List.mem_append.1 hx with hx | hx <;> rcases List.mem_append.1 hy with hy | hy
  · exact (pw_app.1 pA).2.2 x hx y hy
  · obtain ⟨i, hi, hxi⟩ := List.mem_iff_getElem.1 hx
    obtain ⟨j, hj, hyj⟩ := List.mem_iff_getElem.1 hy
    simp at hi hj
    obtain ⟨x1, hx1⟩ := at_some (l := A) (i := u - 1) (by omega)
    obtain ⟨y1, hy1⟩ := at_some (l := B) (i := v) (by omega)
    have hg := h1 (by omega) (by omega)
    rw [gB_at hx1 hy1] at hg
    have hlt : ltT x1 y1 := befE_f hg (ht _ (mem_at hx1) _ (mem_at hy1))
    have ex : A[i]? = some x := by rw [← hxi]; simp
    have ey : B[v + j]? = some y := by rw [← hyj]; simp
    have q1 : x = x1 ∨ ltT x x1 := pw_le hA ex hx1 (by omega)
    have q2 : y1 = y ∨ ltT y1 y := pw_le hB hy1 ey (by omega)
    have q3 : ltT x y1 := by
      rcases q1 with rfl | h
      · exact hlt
      · exact ltT_trans h hlt
    rcases q2 with rfl | h
    · exact q3
    · exact ltT_trans q3 h
  · obtain ⟨i, hi, hxi⟩ := List.mem_iff_getElem.1 hx
    obtain ⟨j, hj, hyj⟩ := List.mem_iff_getElem.1 hy
    simp at hi hj
    obtain ⟨x1, hx1⟩ := at_some (l := A) (i := u) (by omega)
    obtain ⟨y1, hy1⟩ := at_some (l := B) (i := v - 1) (by omega)
    have hg := h2 (by omega) (by omega)
    rw [gB_at hx1 hy1] at hg
    have hlt : ltT y1 x1 := befE_t hg
    have ex : B[i]? = some x := by rw [← hxi]; simp
    have ey : A[u + j]? = some y := by rw [← hyj]; simp
    have q1 : x = y1 ∨ ltT x y1 := pw_le hB ex hy1 (by omega)
    have q2 : x1 = y ∨ ltT x1 y := pw_le hA hx1 ey (by omega)
    have q3 : ltT x x1 := by
      rcases q1 with rfl | h
      · exact hlt
      · exact ltT_trans h hlt
    rcases q2 with rfl | h
    · exact q3
    · exact ltT_trans q3 h
  · exact (pw_app.1 pB).2.2 x hx y hy
theorem app4_perm {α : Type} (a b c d : List α) : ((a ++ c) ++ (b ++ d)).Perm ((a ++ b) ++ (c ++ d)) := by
  simp only [List.append_assoc]
  refine List.Perm.append_left a ?_
  rw [← List.append_assoc, ← List.append_assoc]
  exact List.Perm.append_right d List.perm_append_comm
theorem sym_srt {A B : List TE} (hA : SrtT A) (hB : SrtT B) (ht : ∀ x ∈ A, ∀ y ∈ B, x.2 < y.2) (hn : TagsNe (A ++ B)) {u v : Nat} (hu : u ≤ A.length) (hv : v ≤ B.length)
    (h1 : 0 < u → v < B.length → gB A B (u - 1) v = false) (h2 : u < A.length → 0 < v → gB A B u (v - 1) = true) :
    srt (A ++ B) = srt (A.take u ++ B.take v) ++ srt (A.drop u ++ B.drop v) := by
  have hp : ((A.take u ++ B.take v) ++ (A.drop u ++ B.drop v)).Perm (A ++ B) := by
    have := app4_perm (A.take u) (A.drop u) (B.take v) (B.drop v)
    rwa [List.take_append_drop, List.take_append_drop] at this
  rw [← srt_congr hp hn]
  exact srt_app (sym_cut hA hB ht hu hv h1 h2) (hn.perm hp.symm)
end Go.Proofs.Ytplkofafnbfkmaa
/- The merging of two sorted ranges, where one has one element. -/
namespace Go.Proofs.Ytplkofafnbfkmaa
open Go.RowKit
variable {G : GS}
/-- Ahead of a list of elements that come before it. -/
theorem one_left {x : TE} {B : List TE} (hB : SrtT B) (ht : ∀ y ∈ B, x.2 < y.2) (hn : TagsNe B) {k : Nat} (h1 : ∀ q y, B[q]? = some y → q < k → befE y.1 x.1 = true) (h2 : ∀ q y, B[q]? = some y → k ≤ q → befE y.1 x.1 = false) :
    B.take k ++ x :: B.drop k = srt (x :: B) := by
  have hn' : TagsNe (x :: B) := List.pairwise_cons.2 ⟨fun y hy => Nat.ne_of_lt (ht y hy), hn⟩
  have hp : (B.take k ++ x :: B.drop k).Perm (x :: B) := by
    have := (List.perm_middle (a := x) (l₁ := B.take k) (l₂ := B.drop k))
    rwa [List.take_append_drop] at this
  have hB' := hB
  rw [← List.take_append_drop k B] at hB'
  obtain ⟨s1, s2, s3⟩ := pw_app.1 hB'
  have lx : ∀ y ∈ B.take k, ltT y x := fun y hy => by
    obtain ⟨i, hi, rfl⟩ := List.mem_iff_getElem.1 hy
    simp at hi
    exact befE_t (h1 i _ (by simp) (by omega))
  have rx : ∀ y ∈ B.drop k, ltT x y := fun y hy => by
    have hm := List.mem_of_mem_drop hy
    obtain ⟨i, hi, rfl⟩ := List.mem_iff_getElem.1 hy
    simp at hi
    exact befE_f (h2 (k + i) _ (by simp) (by omega)) (ht _ hm)
  exact srt_of hp (pw_app.2 ⟨s1, List.pairwise_cons.2 ⟨rx, s2⟩, fun z hz y hy => by
    rcases List.mem_cons.1 hy with rfl | hy
    · exact lx z hz
    · exact s3 z hz y hy⟩) hn'
theorem one_right {y : TE} {A : List TE} (hA : SrtT A) (ht : ∀ z ∈ A, z.2 < y.2) (hn : TagsNe A) {k : Nat} (h1 : ∀ q z, A[q]? = some z → q < k → befE y.1 z.1 = false) (h2 : ∀ q z, A[q]? = some z → k ≤ q → befE y.1 z.1 = true) :
    A.take k ++ y :: A.drop k = srt (A ++ [y]) := by
  have hn' : TagsNe (A ++ [y]) := List.pairwise_append.2 ⟨hn, by simp, fun z hz w hw => by rw [List.mem_singleton.1 hw]; exact Nat.ne_of_lt (ht z hz)⟩
  have hp : (A.take k ++ y :: A.drop k).Perm (A ++ [y]) := by
    have := (List.perm_middle (a := y) (l₁ := A.take k) (l₂ := A.drop k))
    rw [List.take_append_drop] at this
    exact this.trans (List.perm_append_singleton y A).symm
  have hA' := hA
  rw [← List.take_append_drop k A] at hA'
  obtain ⟨s1, s2, s3⟩ := pw_app.1 hA'
  have lx : ∀ z ∈ A.take k, ltT z y := fun z hz => by
    have hm := List.mem_of_mem_take hz
    obtain ⟨i, hi, rfl⟩ := List.mem_iff_getElem.1 hz
    simp at hi
    exact befE_f (h1 i _ (by simp) (by omega)) (ht _ hm)
  have rx : ∀ z ∈ A.drop k, ltT y z := fun z hz => by
    obtain ⟨i, hi, rfl⟩ := List.mem_iff_getElem.1 hz
    simp at hi
    exact befE_t (h2 (k + i) _ (by simp) (by omega))
  exact srt_of hp (pw_app.2 ⟨s1, List.pairwise_cons.2 ⟨rx, s2⟩, fun z hz w hw => by
    rcases List.mem_cons.1 hw with rfl | hw
    · exact lx z hz
    · exact s3 z hz w hw⟩) hn'
theorem half_w (p q : Nat) (h : p + q < 4611686018427387904) : IntKind.i64.wrap (((p : Int) + (q : Int)).fdiv (2 ^ min (Int.toNat 1) IntKind.u64.bits)) = (((p + q) / 2 : Nat) : Int) := by
  have e : (2 : Int) ^ min (Int.toNat 1) IntKind.u64.bits = 2 := by decide
  rw [e, Int.fdiv_eq_ediv_of_nonneg _ (by omega)]
  refine (wrap_in _ (by omega) (by omega)).trans ?_
  omega
set_option maxHeartbeats 2000000 in
theorem sym1_r (n : Nat) (hN : n < 1152921504606846976) (P B S : List TE) (x : TE) (a b : Nat) (hP : P.length = a) (hb : a + 1 + B.length = b) (hS : b + S.length = n) (hB : SrtT B) (ht : ∀ y ∈ B, x.2 < y.2) (hn : TagsNe B) :
    SemR Try.prog G 52 [dataM n, .int .i64 a, .int .i64 ((a + 1 : Nat) : Int), .int .i64 b] (sortB n (P ++ (x :: (B ++ S)))) 2 (.tup []) (sortB n (P ++ (srt (x :: B) ++ S))) 2 := by
  have hlen : (P ++ (x :: (B ++ S))).length = n := by simp; omega
  unfold dataM
  refine semR_of_vc seat Try.func52 rfl rfl (Nat.le_of_ble_eq_true rfl) (Nat.le_of_ble_eq_true rfl) (N := 177) rfl rfl ?_
  refine go0 ?_
  refine ⟨fun hd => ?_, fun hd => ?_⟩
  · refine go0 ?_
    refine ⟨Nat × Nat, fun q => [(9, .int .i64 ((a + 1 + q.2 : Nat) : Int)), (8, .int .i64 ((a + 1 + q.1 : Nat) : Int)), (4, .ptr 2 2 0 0 []), (1, .int .i64 a)], fun q => sortB n (P ++ (x :: (B ++ S))) ++ [(2, ⟨76, 2, false, 0, [dataM n]⟩)], 3,
      fun q => q.1 ≤ q.2 ∧ q.2 ≤ B.length ∧ (∀ k y, B[k]? = some y → k < q.1 → befE y.1 x.1 = true) ∧ (∀ k y, B[k]? = some y → q.2 ≤ k → befE y.1 x.1 = false), fun q => q.2 - q.1, ⟨(0, B.length), ⟨by omega, by omega, fun _ _ _ h => absurd h (Nat.not_lt_zero _), fun k y h1 h2 => by
        have := (List.getElem?_eq_some_iff.1 h1).1; omega⟩, (by dsimp only; exact (vm [(2, _)] []))⟩, ?_⟩
    rintro ⟨i, j⟩ ⟨h1, h2, h3, h4⟩
    dsimp only at h1 h2 h3 h4 ⊢
    refine ⟨fun hd => ?_, fun hd => ?_⟩
    · have hij : i < j := by have := of_decide_eq_true hd; omega
      obtain ⟨c, hc⟩ : ∃ c, c = (i + j) / 2 := ⟨_, rfl⟩
      obtain ⟨y, hy⟩ := at_some (l := B) (i := c) (by omega)
      have hx1 : (P ++ (x :: (B ++ S)))[a + 1 + c]? = some y := by
        rw [List.getElem?_append_right (by omega), show a + 1 + c - P.length = c + 1 by omega, List.getElem?_cons_succ, List.getElem?_append_left (List.getElem?_eq_some_iff.1 hy).1]; exact hy
      have hx2 : (P ++ (x :: (B ++ S)))[a]? = some x := at_mid hP
      have hless := less_at (G := G) n _ hlen _ _ hx1 hx2
      (repeat ((try conv => whnf); first | (with_reducible refine ⟨_, sv (half_w _ _ (by omega)), ?_⟩) | (with_reducible refine And.intro (Nat.zero_le _) ?_) | (with_reducible refine And.intro rfl ?_) | (with_reducible refine ⟨fun _ => ?_, fun h => Bool.noConfusion h⟩) | (with_reducible refine ⟨fun h => Bool.noConfusion h, fun _ => ?_⟩) | (with_reducible refine ⟨_, sv (add32 _ _), ?_⟩) | (with_reducible refine ⟨_, sv (xor32 _ _), ?_⟩) | (with_reducible refine ⟨_, sv (and32 _ _), ?_⟩) | (with_reducible refine ⟨_, sv (or32 _ _), ?_⟩) | (with_reducible refine ⟨_, sv (not32 _), ?_⟩) | (with_reducible refine ⟨_, sv (shlI _ _ (by omega) (by omega)), ?_⟩) | (with_reducible refine ⟨_, sv (shrI _ _ (by omega) (by omega)), ?_⟩) | (with_reducible refine ⟨_, sv (conv832 _), ?_⟩) | (with_reducible refine ⟨_, sv (conv328 _), ?_⟩) | (with_reducible refine ⟨_, sv (wrap_in _ (by omega) (by omega)), ?_⟩) | (with_reducible refine ⟨_, sv (wrapu_in _ (by omega) (by omega)), ?_⟩) | (with_reducible refine ⟨_, sv (wrap8_in _ (by omega) (by omega)), ?_⟩) | refine ⟨_, rfl, ?_⟩ | refine And.intro (show okDraw _ _ = true by kernel_rfl) ?_ | refine And.intro (by omega) ?_))
      refine .inr ⟨_, _, _, _, _, _, hless, [(0, 0), (1, 1)], [], ⟨rfl, trivial, rfl, lm, mm⟩, rfl, rfl, ?_⟩
      refine go0 ?_
      refine ⟨fun hb => ?_, fun hb => ?_⟩
      · refine go0 ?_
        exact ⟨(c + 1, j), ⟨by omega, h2, fun k z hz hk => by
          have h5 := befE_t hb
          have hm := ht z (mem_at hz)
          rcases pw_le hB hz hy (by omega) with rfl | h
          · exact hb
          · exact (befE_iff hm).2 (ltT_trans h h5), h4⟩, by show j - (c + 1) < j - i; omega, (by dsimp only; exact (vm [(2, _)] []))⟩
      · refine go0 ?_
        exact ⟨(i, c), ⟨by omega, by omega, h3, fun k z hz hk => by
          have h5 := befE_f hb (ht y (mem_at hy))
          cases hq : befE z.1 x.1 with
          | false => rfl
          | true =>
            exfalso
            have h6 := befE_t hq
            rcases pw_le hB hy hz (by omega) with rfl | h
            · exact ltT_asymm h5 h6
            · exact ltT_asymm (ltT_trans h5 h) h6⟩, by show c - i < j - i; omega, (by dsimp only; exact (vm [(2, _)] []))⟩
    · have hij : i = j := by have := of_decide_eq_false hd; omega
      subst hij
      have hfin := one_left hB ht hn h3 h4
      rw [← hfin]
      refine go0 ?_
      refine ⟨Nat, fun q => [(11, .int .i64 ((a + q : Nat) : Int)), (8, .int .i64 ((a + 1 + i : Nat) : Int)), (4, .ptr 2 2 0 0 [])], fun q => sortB n (P ++ (B.take q ++ (x :: (B.drop q ++ S)))) ++ [(2, ⟨76, 2, false, 0, [dataM n]⟩)], 3, fun q => q ≤ i, fun q => i - q, ⟨0, Nat.zero_le _, (by dsimp only; exact (vm [(2, _)] []))⟩, ?_⟩
      intro q hq
      refine go0 ?_
      refine ⟨fun hd => ?_, fun hd => ?_⟩
      · have hqi : q < i := by have := of_decide_eq_true hd; omega
        obtain ⟨y, hy⟩ := at_some (l := B) (i := q) (by omega)
        obtain ⟨hq2, hy2⟩ := List.getElem?_eq_some_iff.1 hy
        have hsw : swp (P ++ (B.take q ++ (x :: (B.drop q ++ S)))) (a + q) (a + (q + 1)) = P ++ (B.take (q + 1) ++ (x :: (B.drop (q + 1) ++ S))) := by
          have := swp_app' (X := P ++ B.take q) (Y := []) (Z := B.drop (q + 1) ++ S) (a := x) (b := y) (i := a + q) (j := a + (q + 1)) (by simp; omega) (by simp; omega)
          rw [List.drop_eq_getElem_cons hq2, hy2, List.take_succ_eq_append_getElem hq2, hy2]
          simpa using this
        have hlen2 : (P ++ (B.take q ++ (x :: (B.drop q ++ S)))).length = n := by simp; omega
        have hswap := swap_p (G := G) n _ hlen2 (a + q) (a + (q + 1)) (by omega) (by omega)
        rw [hsw] at hswap
        refine go0 ?_
        refine .inr ⟨_, _, _, _, _, _, hswap, [(0, 0), (1, 1)], [], ⟨rfl, trivial, rfl, lm, mm⟩, rfl, rfl, ?_⟩
        refine go0 ?_
        exact ⟨q + 1, by show q + 1 ≤ i; omega, by show i - (q + 1) < i - q; omega, (by dsimp only; exact (vm [(2, _)] []))⟩
      · have hqi : q = i := by have := of_decide_eq_false hd; omega
        subst hqi
        dsimp only
        rw [show P ++ ((B.take q ++ x :: B.drop q) ++ S) = P ++ (B.take q ++ (x :: (B.drop q ++ S))) by simp]
        refine go0 ?_
        refine ⟨[], [], [], rfl, rfl, trivial, rfl, trivial, ?_⟩
        · exact mm
  · exfalso
    have := of_decide_eq_false hd
    omega
set_option maxHeartbeats 2000000 in
theorem sym2_r (n : Nat) (hN : n < 1152921504606846976) (P A S : List TE) (y : TE) (a m : Nat) (hP : P.length = a) (hm : a + A.length = m) (hS : m + 1 + S.length = n) (hA1 : A.length ≠ 1) (hA : SrtT A) (ht : ∀ z ∈ A, z.2 < y.2) (hn : TagsNe A) :
    SemR Try.prog G 52 [dataM n, .int .i64 a, .int .i64 m, .int .i64 ((m + 1 : Nat) : Int)] (sortB n (P ++ (A ++ (y :: S)))) 2 (.tup []) (sortB n (P ++ (srt (A ++ [y]) ++ S))) 2 := by
  have hlen : (P ++ (A ++ (y :: S))).length = n := by simp; omega
  unfold dataM
  refine semR_of_vc seat Try.func52 rfl rfl (Nat.le_of_ble_eq_true rfl) (Nat.le_of_ble_eq_true rfl) (N := 177) rfl rfl ?_
  refine go0 ?_
  refine ⟨fun hd => ?_, fun hd => ?_⟩
  · exfalso
    have := of_decide_eq_true hd
    omega
  refine go0 ?_
  refine ⟨fun hd => ?_, fun hd => ?_⟩
  · refine go0 ?_
    refine ⟨Nat × Nat, fun q => [(13, .int .i64 ((a + q.2 : Nat) : Int)), (12, .int .i64 ((a + q.1 : Nat) : Int)), (4, .ptr 2 2 0 0 []), (2, .int .i64 m)], fun q => sortB n (P ++ (A ++ (y :: S))) ++ [(2, ⟨76, 2, false, 0, [dataM n]⟩)], 3,
      fun q => q.1 ≤ q.2 ∧ q.2 ≤ A.length ∧ (∀ k z, A[k]? = some z → k < q.1 → befE y.1 z.1 = false) ∧ (∀ k z, A[k]? = some z → q.2 ≤ k → befE y.1 z.1 = true), fun q => q.2 - q.1, ⟨(0, A.length), ⟨by omega, by omega, fun _ _ _ h => absurd h (Nat.not_lt_zero _), fun k y h1 h2 => by
        have := (List.getElem?_eq_some_iff.1 h1).1; omega⟩, (by dsimp only; exact (vm [(2, _)] []))⟩, ?_⟩
    rintro ⟨i, j⟩ ⟨h1, h2, h3, h4⟩
    dsimp only at h1 h2 h3 h4 ⊢
    refine ⟨fun hd => ?_, fun hd => ?_⟩
    · have hij : i < j := by have := of_decide_eq_true hd; omega
      obtain ⟨c, hc⟩ : ∃ c, c = (i + j) / 2 := ⟨_, rfl⟩
      obtain ⟨z, hz⟩ := at_some (l := A) (i := c) (by omega)
      have hx1 : (P ++ (A ++ (y :: S)))[m]? = some y := by
        rw [← List.append_assoc]; exact at_mid (by simp; omega)
      have hx2 : (P ++ (A ++ (y :: S)))[a + c]? = some z := by
        rw [List.getElem?_append_right (by omega), show a + c - P.length = c by omega, List.getElem?_append_left (List.getElem?_eq_some_iff.1 hz).1]; exact hz
      have hless := less_at (G := G) n _ hlen _ _ hx1 hx2
      (repeat ((try conv => whnf); first | (with_reducible refine ⟨_, sv (half_w _ _ (by omega)), ?_⟩) | (with_reducible refine And.intro (Nat.zero_le _) ?_) | (with_reducible refine And.intro rfl ?_) | (with_reducible refine ⟨fun _ => ?_, fun h => Bool.noConfusion h⟩) | (with_reducible refine ⟨fun h => Bool.noConfusion h, fun _ => ?_⟩) | (with_reducible refine ⟨_, sv (add32 _ _), ?_⟩) | (with_reducible refine ⟨_, sv (xor32 _ _), ?_⟩) | (with_reducible refine ⟨_, sv (and32 _ _), ?_⟩) | (with_reducible refine ⟨_, sv (or32 _ _), ?_⟩) | (with_reducible refine ⟨_, sv (not32 _), ?_⟩) | (with_reducible refine ⟨_, sv (shlI _ _ (by omega) (by omega)), ?_⟩) | (with_reducible refine ⟨_, sv (shrI _ _ (by omega) (by omega)), ?_⟩) | (with_reducible refine ⟨_, sv (conv832 _), ?_⟩) | (with_reducible refine ⟨_, sv (conv328 _), ?_⟩) | (with_reducible refine ⟨_, sv (wrap_in _ (by omega) (by omega)), ?_⟩) | (with_reducible refine ⟨_, sv (wrapu_in _ (by omega) (by omega)), ?_⟩) | (with_reducible refine ⟨_, sv (wrap8_in _ (by omega) (by omega)), ?_⟩) | refine ⟨_, rfl, ?_⟩ | refine And.intro (show okDraw _ _ = true by kernel_rfl) ?_ | refine And.intro (by omega) ?_))
      refine .inr ⟨_, _, _, _, _, _, hless, [(0, 0), (1, 1)], [], ⟨rfl, trivial, rfl, lm, mm⟩, rfl, rfl, ?_⟩
      refine go0 ?_
      refine ⟨fun hb => ?_, fun hb => ?_⟩
      · have hb : befE y.1 z.1 = false := by simpa using hb
        refine go0 ?_
        exact ⟨(c + 1, j), ⟨by omega, h2, fun k w hw hk => by
          have h5 := befE_f hb (ht z (mem_at hz))
          cases hq : befE y.1 w.1 with
          | false => rfl
          | true =>
            exfalso
            have h6 := befE_t hq
            rcases pw_le hA hw hz (by omega) with rfl | h
            · exact ltT_asymm h5 h6
            · exact ltT_asymm (ltT_trans h h5) h6, h4⟩, by show j - (c + 1) < j - i; omega, (by dsimp only; exact (vm [(2, _)] []))⟩
      · have hb : befE y.1 z.1 = true := by simpa using hb
        refine go0 ?_
        exact ⟨(i, c), ⟨by omega, by omega, h3, fun k w hw hk => by
          have h5 := befE_t hb
          have hmm := ht w (mem_at hw)
          rcases pw_le hA hz hw (by omega) with rfl | h
          · exact hb
          · exact (befE_iff hmm).2 (ltT_trans h5 h)⟩, by show c - i < j - i; omega, (by dsimp only; exact (vm [(2, _)] []))⟩
    · have hij : i = j := by have := of_decide_eq_false hd; omega
      subst hij
      have hfin := one_right hA ht hn h3 h4
      rw [← hfin]
      refine go0 ?_
      refine ⟨Nat, fun q => [(15, .int .i64 ((a + q : Nat) : Int)), (12, .int .i64 ((a + i : Nat) : Int)), (4, .ptr 2 2 0 0 [])], fun q => sortB n (P ++ (A.take q ++ (y :: (A.drop q ++ S)))) ++ [(2, ⟨76, 2, false, 0, [dataM n]⟩)], 3, fun q => i ≤ q ∧ q ≤ A.length, fun q => q, ⟨A.length, ⟨h2, Nat.le_refl _⟩, ?_⟩, ?_⟩
      · dsimp only
        rw [List.take_length, List.drop_length, List.nil_append]
        exact (vm [(2, _)] [])
      rintro q ⟨hq, hqA⟩
      refine go0 ?_
      refine ⟨fun hd => ?_, fun hd => ?_⟩
      · have hqi : i < q := by have := of_decide_eq_true hd; omega
        obtain ⟨r, rfl⟩ : ∃ r, q = r + 1 := ⟨q - 1, by omega⟩
        obtain ⟨z, hz⟩ := at_some (l := A) (i := r) (by omega)
        obtain ⟨hq2, hy2⟩ := List.getElem?_eq_some_iff.1 hz
        have hsw : swp (P ++ (A.take (r + 1) ++ (y :: (A.drop (r + 1) ++ S)))) (a + (r + 1)) (a + r) = P ++ (A.take r ++ (y :: (A.drop r ++ S))) := by
          rw [swp_comm]
          have := swp_app' (X := P ++ A.take r) (Y := []) (Z := A.drop (r + 1) ++ S) (a := z) (b := y) (i := a + r) (j := a + (r + 1)) (by simp; omega) (by simp; omega)
          rw [List.drop_eq_getElem_cons hq2, hy2, List.take_succ_eq_append_getElem hq2, hy2]
          simpa using this
        have hlen2 : (P ++ (A.take (r + 1) ++ (y :: (A.drop (r + 1) ++ S)))).length = n := by simp; omega
        have hswap := swap_p (G := G) n _ hlen2 (a + (r + 1)) (a + r) (by omega) (by omega)
        rw [hsw] at hswap
        refine go0 ?_
        refine .inr ⟨_, _, _, _, _, _, hswap, [(0, 0), (1, 1)], [], ⟨rfl, trivial, rfl, lm, mm⟩, rfl, rfl, ?_⟩
        refine go0 ?_
        exact ⟨r, ⟨by show i ≤ r; omega, by show r ≤ A.length; omega⟩, by show r < r + 1; omega, (by dsimp only; exact (vm [(2, _)] []))⟩
      · have hqi : q = i := by have := of_decide_eq_false hd; omega
        subst hqi
        dsimp only
        rw [show P ++ ((A.take q ++ y :: A.drop q) ++ S) = P ++ (A.take q ++ (y :: (A.drop q ++ S))) by simp]
        refine go0 ?_
        refine ⟨[], [], [], rfl, rfl, trivial, rfl, trivial, ?_⟩
        · exact mm
  · exfalso
    have := of_decide_eq_false hd
    omega
end Go.Proofs.Ytplkofafnbfkmaa
/- The merging of two sorted ranges. -/
namespace Go.Proofs.Ytplkofafnbfkmaa
open Go.RowKit
variable {G : GS}
/-- What the parts of a merge do. -/
def SymRest (G : GS) (n a m b mid st : Nat) (T0 T3 : List TE) : Prop := ∃ T1 T2 : List TE,
  (st < m → m < mid + m - st → SemR Try.prog G 55 [dataM n, .int .i64 st, .int .i64 m, .int .i64 ((mid + m - st : Nat) : Int)] (sortB n T0) 2 (.tup []) (sortB n T1) 2) ∧ (¬ (st < m ∧ m < mid + m - st) → T0 = T1) ∧
  (a < st → st < mid → SemR Try.prog G 52 [dataM n, .int .i64 a, .int .i64 st, .int .i64 mid] (sortB n T1) 2 (.tup []) (sortB n T2) 2) ∧ (¬ (a < st ∧ st < mid) → T1 = T2) ∧
  (mid < mid + m - st → mid + m - st < b → SemR Try.prog G 52 [dataM n, .int .i64 mid, .int .i64 ((mid + m - st : Nat) : Int), .int .i64 b] (sortB n T2) 2 (.tup []) (sortB n T3) 2) ∧ (¬ (mid < mid + m - st ∧ mid + m - st < b) → T2 = T3)
theorem sym_rest (n : Nat) (hN : n < 1152921504606846976) (P A B S : List TE) (a m b mid st : Nat) (hP : P.length = a) (hm : a + A.length = m) (hb : m + B.length = b) (hS : b + S.length = n) (hA : SrtT A) (hB : SrtT B) (ht : ∀ x ∈ A, ∀ y ∈ B, x.2 < y.2) (hn : TagsNe (A ++ B))
    (k1 : a ≤ st) (k2 : st ≤ m) (k3 : st ≤ mid) (k4 : mid ≤ st + B.length) (g1 : 0 < st - a → mid - st < B.length → gB A B (st - 1 - a) (mid - 1 - (st - 1)) = false) (g2 : st - a < A.length → 0 < mid - st → gB A B (st - a) (mid - 1 - st) = true)
    (ih : ∀ (P A B S : List TE) (a' m' b' : Nat), b' - a' < b - a → P.length = a' → a' + A.length = m' → m' + B.length = b' → b' + S.length = n → 0 < A.length → 0 < B.length → SrtT A → SrtT B → (∀ x ∈ A, ∀ y ∈ B, x.2 < y.2) → TagsNe (A ++ B) →
      SemR Try.prog G 52 [dataM n, .int .i64 a', .int .i64 m', .int .i64 b'] (sortB n (P ++ (A ++ (B ++ S)))) 2 (.tup []) (sortB n (P ++ (srt (A ++ B) ++ S))) 2)
    (hmid : mid < b) (hmid2 : a < mid) :
    SymRest G n a m b mid st (P ++ (A ++ (B ++ S))) (P ++ (srt (A ++ B) ++ S)) := by
  obtain ⟨u, hu⟩ : ∃ u, u = st - a := ⟨_, rfl⟩
  obtain ⟨v, hv⟩ : ∃ v, v = mid - st := ⟨_, rfl⟩
  have hs := sym_srt hA hB ht hn (u := u) (v := v) (by omega) (by omega) (fun h1 h2 => by have := g1 (by omega) (by omega); rwa [show st - 1 - a = u - 1 by omega, show mid - 1 - (st - 1) = v by omega] at this) (fun h1 h2 => by have := g2 (by omega) (by omega); rwa [show st - a = u by omega, show mid - 1 - st = v - 1 by omega] at this)
  obtain ⟨A1, A2, eA, l1⟩ := cut2 A (k := u) (by omega)
  obtain ⟨B1, B2, eB, l2⟩ := cut2 B (k := v) (by omega)
  have tA : A.take u = A1 := by rw [eA, ← l1]; simp
  have dA : A.drop u = A2 := by rw [eA, ← l1]; simp
  have tB : B.take v = B1 := by rw [eB, ← l2]; simp
  have dB : B.drop v = B2 := by rw [eB, ← l2]; simp
  rw [tA, dA, tB, dB] at hs
  have la : A1.length + A2.length = A.length := by rw [eA]; simp
  have lb : B1.length + B2.length = B.length := by rw [eB]; simp
  rw [hs]
  have hA' := hA
  have hB' := hB
  have hn' := hn
  rw [eA] at hA'
  rw [eB] at hB'
  rw [eA, eB] at hn'
  obtain ⟨sA1, sA2, _⟩ := pw_app.1 hA'
  obtain ⟨sB1, sB2, _⟩ := pw_app.1 hB'
  have hp := app4_perm A1 A2 B1 B2
  have hn2 : TagsNe ((A1 ++ B1) ++ (A2 ++ B2)) := hn'.perm hp.symm
  obtain ⟨n1, n2, _⟩ := List.pairwise_append.1 hn2
  have t1 : ∀ x ∈ A1, ∀ y ∈ B1, x.2 < y.2 := fun x hx y hy => ht x (by rw [eA]; simp [hx]) y (by rw [eB]; simp [hy])
  have t2 : ∀ x ∈ A2, ∀ y ∈ B2, x.2 < y.2 := fun x hx y hy => ht x (by rw [eA]; simp [hx]) y (by rw [eB]; simp [hy])
  have p1 : (srt (A1 ++ B1)).length = A1.length + B1.length := by rw [(srt_perm _).length_eq, List.length_append]
  clear tA dA tB dB hs g1 g2
  subst eA eB
  refine ⟨P ++ ((A1 ++ B1) ++ ((A2 ++ B2) ++ S)), P ++ (srt (A1 ++ B1) ++ ((A2 ++ B2) ++ S)), fun h1 h2 => ?_, fun h => ?_, fun h1 h2 => ?_, fun h => ?_, fun h1 h2 => ?_, fun h => ?_⟩
  · have := rotate_r (G := G) n (by omega) (P ++ A1) A2 B1 (B2 ++ S) st m (mid + m - st) (by simp; omega) (by omega) (by omega) (by simp at hS ⊢; omega) (by omega) (by omega)
    simpa using this
  · have : A2 = [] ∨ B1 = [] := by
      rcases Nat.eq_zero_or_pos A2.length with h3 | h3
      · exact .inl (List.length_eq_zero_iff.1 h3)
      · exact .inr (List.length_eq_zero_iff.1 (by omega))
    rcases this with rfl | rfl <;> simp
  · have := ih P A1 B1 ((A2 ++ B2) ++ S) a st mid (by omega) hP (by omega) (by omega) (by simp at *; omega) (by omega) (by omega) sA1 sB1 t1 n1
    simpa using this
  · have : A1 = [] ∨ B1 = [] := by
      rcases Nat.eq_zero_or_pos A1.length with h3 | h3
      · exact .inl (List.length_eq_zero_iff.1 h3)
      · exact .inr (List.length_eq_zero_iff.1 (by omega))
    rcases this with rfl | rfl
    · simp only [List.nil_append] at *; rw [srt_id sB1 n1]
    · simp only [List.append_nil] at *; rw [srt_id sA1 n1]
  · have := ih (P ++ srt (A1 ++ B1)) A2 B2 S mid (mid + m - st) b (by omega) (by simp [p1]; omega) (by omega) (by simp at hb; omega) hS (by omega) (by simp at hb; omega) sA2 sB2 t2 n2
    simpa using this
  · have : A2 = [] ∨ B2 = [] := by
      rcases Nat.eq_zero_or_pos A2.length with h3 | h3
      · exact .inl (List.length_eq_zero_iff.1 h3)
      · exact .inr (List.length_eq_zero_iff.1 (by simp at hb; omega))
    rcases this with rfl | rfl
    · simp only [List.nil_append] at *; rw [srt_id sB2 n2]; simp
    · simp only [List.append_nil] at *; rw [srt_id sA2 n2]; simp
set_option maxHeartbeats 8000000 in
theorem sym_r (n : Nat) (hN : n < 1152921504606846976) : ∀ (s : Nat) (P A B S : List TE) (a m b : Nat), b - a ≤ s → P.length = a → a + A.length = m → m + B.length = b → b + S.length = n → 0 < A.length → 0 < B.length → SrtT A → SrtT B → (∀ x ∈ A, ∀ y ∈ B, x.2 < y.2) → TagsNe (A ++ B) →
    SemR Try.prog G 52 [dataM n, .int .i64 a, .int .i64 m, .int .i64 b] (sortB n (P ++ (A ++ (B ++ S)))) 2 (.tup []) (sortB n (P ++ (srt (A ++ B) ++ S))) 2 := by
  intro s
  induction s with
  | zero => intro P A B S a m b h1 h2 h3 h4 h5 h6 h7; omega
  | succ s ihs =>
    intro P A B S a m b hs hP hm hb hS hA0 hB0 hA hB ht hn
    have ih : ∀ (P A B S : List TE) (a' m' b' : Nat), b' - a' < b - a → P.length = a' → a' + A.length = m' → m' + B.length = b' → b' + S.length = n → 0 < A.length → 0 < B.length → SrtT A → SrtT B → (∀ x ∈ A, ∀ y ∈ B, x.2 < y.2) → TagsNe (A ++ B) →
        SemR Try.prog G 52 [dataM n, .int .i64 a', .int .i64 m', .int .i64 b'] (sortB n (P ++ (A ++ (B ++ S)))) 2 (.tup []) (sortB n (P ++ (srt (A ++ B) ++ S))) 2 := fun P A B S a' m' b' h => ihs P A B S a' m' b' (by omega)
    by_cases h1 : A.length = 1
    · match A, h1 with
      | [x], _ =>
        have := sym1_r (G := G) n hN P B S x a b hP (by simp at hm; omega) hS hB (fun y hy => ht x (by simp) y hy) (List.pairwise_append.1 hn).2.1
        rw [show a + 1 = m by simpa using hm] at this
        simpa using this
    by_cases h2 : B.length = 1
    · match B, h2 with
      | [y], _ =>
        have := sym2_r (G := G) n hN P A S y a m hP hm (by simp at hb; omega) h1 hA (fun z hz => ht z hz y (by simp)) (List.pairwise_append.1 hn).1
        rw [show m + 1 = b by simpa using hb] at this
        simpa using this
    obtain ⟨mid, hmid⟩ : ∃ mid, mid = (a + b) / 2 := ⟨_, rfl⟩
    have hrest : ∀ st, a ≤ st → st ≤ m → st ≤ mid → mid ≤ st + B.length → (0 < st - a → mid - st < B.length → gB A B (st - 1 - a) (mid - 1 - (st - 1)) = false) → (st - a < A.length → 0 < mid - st → gB A B (st - a) (mid - 1 - st) = true) → SymRest G n a m b mid st (P ++ (A ++ (B ++ S))) (P ++ (srt (A ++ B) ++ S)) :=
      fun st k1 k2 k3 k4 g1 g2 => sym_rest n hN P A B S a m b mid st hP hm hb hS hA hB ht hn k1 k2 k3 k4 g1 g2 ih (by omega) (by omega)
    have hlen : (P ++ (A ++ (B ++ S))).length = n := by simp; omega
    have hTx : ∀ {k : Nat} {x : TE}, A[k]? = some x → (P ++ (A ++ (B ++ S)))[a + k]? = some x := fun {k x} h => by
      rw [List.getElem?_append_right (by omega), show a + k - P.length = k by omega, List.getElem?_append_left (List.getElem?_eq_some_iff.1 h).1]; exact h
    have hTy : ∀ {k : Nat} {y : TE}, B[k]? = some y → (P ++ (A ++ (B ++ S)))[m + k]? = some y := fun {k y} h => by
      rw [List.getElem?_append_right (by omega), List.getElem?_append_right (by omega), show m + k - P.length - A.length = k by omega, List.getElem?_append_left (List.getElem?_eq_some_iff.1 h).1]; exact h
    clear ih ihs
    generalize hT0 : P ++ (A ++ (B ++ S)) = T0 at *
    generalize hT3 : P ++ (srt (A ++ B) ++ S) = T3 at *
    clear hT0 hT3
    unfold dataM
    refine semR_of_vc seat Try.func52 rfl rfl (Nat.le_of_ble_eq_true rfl) (Nat.le_of_ble_eq_true rfl) (N := 177) rfl rfl ?_
    refine go0 ?_
    refine ⟨fun hd => ?_, fun hd => ?_⟩
    · exfalso
      have := of_decide_eq_true hd
      omega
    refine go0 ?_
    refine ⟨fun hd => ?_, fun hd => ?_⟩
    · exfalso
      have := of_decide_eq_true hd
      omega
    clear hd
    (repeat ((try conv => whnf); first | (with_reducible refine ⟨_, sv (half_w _ _ (by omega)), ?_⟩) | (with_reducible refine And.intro (Nat.zero_le _) ?_) | (with_reducible refine And.intro rfl ?_) | (with_reducible refine ⟨fun _ => ?_, fun h => Bool.noConfusion h⟩) | (with_reducible refine ⟨fun h => Bool.noConfusion h, fun _ => ?_⟩) | (with_reducible refine ⟨_, sv (add32 _ _), ?_⟩) | (with_reducible refine ⟨_, sv (xor32 _ _), ?_⟩) | (with_reducible refine ⟨_, sv (and32 _ _), ?_⟩) | (with_reducible refine ⟨_, sv (or32 _ _), ?_⟩) | (with_reducible refine ⟨_, sv (not32 _), ?_⟩) | (with_reducible refine ⟨_, sv (shlI _ _ (by omega) (by omega)), ?_⟩) | (with_reducible refine ⟨_, sv (shrI _ _ (by omega) (by omega)), ?_⟩) | (with_reducible refine ⟨_, sv (conv832 _), ?_⟩) | (with_reducible refine ⟨_, sv (conv328 _), ?_⟩) | (with_reducible refine ⟨_, sv (wrap_in _ (by omega) (by omega)), ?_⟩) | (with_reducible refine ⟨_, sv (wrapu_in _ (by omega) (by omega)), ?_⟩) | (with_reducible refine ⟨_, sv (wrap8_in _ (by omega) (by omega)), ?_⟩) | refine ⟨_, rfl, ?_⟩ | refine And.intro (show okDraw _ _ = true by kernel_rfl) ?_ | refine And.intro (by omega) ?_))
    refine ⟨fun hd => ?_, fun hd => ?_⟩
    · have hgt := of_decide_eq_true hd
      have hgt : mid < m := by omega
      obtain ⟨lo, hlo⟩ : ∃ lo, lo = mid + m - b := ⟨_, rfl⟩
      obtain ⟨hi, hhi⟩ : ∃ hi, hi = mid := ⟨_, rfl⟩
      refine go0 ?_
      refine ⟨Nat × Nat, fun q => [(19, .int .i64 q.2), (18, .int .i64 q.1), (20, .int .i64 ((mid : Int) + m - 1)), (17, .int .i64 ((mid : Int) + m)), (16, .int .i64 mid), (4, .ptr 2 2 0 0 []), (3, .int .i64 b), (2, .int .i64 m), (1, .int .i64 a)], fun q => sortB n T0 ++ [(2, ⟨76, 2, false, 0, [dataM n]⟩)], 3,
        fun q => lo ≤ q.1 ∧ q.1 ≤ q.2 ∧ q.2 ≤ hi ∧ (∀ c, lo ≤ c → c < q.1 → gB A B (c - a) (mid - 1 - c) = false) ∧ (∀ c, q.2 ≤ c → c < hi → gB A B (c - a) (mid - 1 - c) = true), fun q => q.2 - q.1, ⟨(lo, hi), ⟨Nat.le_refl _, by omega, Nat.le_refl _, fun c h1 h2 => absurd h2 (by show ¬ c < lo; omega), fun c h1 h2 => absurd h2 (by have h1 : hi ≤ c := h1; omega)⟩, (by dsimp only; exact (vm [(2, _)] []))⟩, ?_⟩
      rintro ⟨st, r⟩ ⟨i1, i2, i3, i4, i5⟩
      dsimp only at i1 i2 i3 i4 i5 ⊢
      refine ⟨fun hd => ?_, fun hd => ?_⟩
      · have hlt : st < r := by have := of_decide_eq_true hd; omega
        obtain ⟨c, hc⟩ : ∃ c, c = (st + r) / 2 := ⟨_, rfl⟩
        obtain ⟨x, hx⟩ := at_some (l := A) (i := c - a) (by omega)
        obtain ⟨y, hy⟩ := at_some (l := B) (i := mid - 1 - c) (by omega)
        have hless := less_at (G := G) n T0 hlen (m + (mid - 1 - c)) c (hTy hy) (by have := hTx hx; rwa [show a + (c - a) = c by omega] at this)
        have hg := gB_at hx hy
        (repeat ((try conv => whnf); first | (with_reducible refine ⟨_, sv (half_w _ _ (by omega)), ?_⟩) | (with_reducible refine And.intro (Nat.zero_le _) ?_) | (with_reducible refine And.intro rfl ?_) | (with_reducible refine ⟨fun _ => ?_, fun h => Bool.noConfusion h⟩) | (with_reducible refine ⟨fun h => Bool.noConfusion h, fun _ => ?_⟩) | (with_reducible refine ⟨_, sv (add32 _ _), ?_⟩) | (with_reducible refine ⟨_, sv (xor32 _ _), ?_⟩) | (with_reducible refine ⟨_, sv (and32 _ _), ?_⟩) | (with_reducible refine ⟨_, sv (or32 _ _), ?_⟩) | (with_reducible refine ⟨_, sv (not32 _), ?_⟩) | (with_reducible refine ⟨_, sv (shlI _ _ (by omega) (by omega)), ?_⟩) | (with_reducible refine ⟨_, sv (shrI _ _ (by omega) (by omega)), ?_⟩) | (with_reducible refine ⟨_, sv (conv832 _), ?_⟩) | (with_reducible refine ⟨_, sv (conv328 _), ?_⟩) | (with_reducible refine ⟨_, sv (wrap_in _ (by omega) (by omega)), ?_⟩) | (with_reducible refine ⟨_, sv (wrapu_in _ (by omega) (by omega)), ?_⟩) | (with_reducible refine ⟨_, sv (wrap8_in _ (by omega) (by omega)), ?_⟩) | refine ⟨_, rfl, ?_⟩ | refine And.intro (show okDraw _ _ = true by kernel_rfl) ?_ | refine And.intro (by omega) ?_))
        refine .inr ⟨_, _, _, _, _, _, hless, [(0, 0), (1, 1)], [], ⟨rfl, trivial, rfl, lm, mm⟩, rfl, rfl, ?_⟩
        refine go0 ?_
        refine ⟨fun hb => ?_, fun hb => ?_⟩
        · have hb : befE y.1 x.1 = false := by simpa using hb
          refine go0 ?_
          refine ⟨(c + 1, r), ⟨by show lo ≤ c + 1; omega, by show c + 1 ≤ r; omega, i3, fun k h1 h2 => ?_, i5⟩, by show r - (c + 1) < r - st; omega, (by dsimp only; exact (vm [(2, _)] []))⟩
          have h2 : k < c + 1 := h2
          cases hq : gB A B (k - a) (mid - 1 - k) with
          | false => rfl
          | true =>
            have := gB_mono hA hB ht (u' := c - a) (v' := mid - 1 - c) (by omega) (by omega) (by omega) (by omega) hq
            rw [hg, hb] at this
            cases this
        · have hb : befE y.1 x.1 = true := by simpa using hb
          refine go0 ?_
          refine ⟨(st, c), ⟨i1, by show st ≤ c; omega, by show c ≤ hi; omega, i4, fun k h1 h2 => ?_⟩, by show c - st < r - st; omega, (by dsimp only; exact (vm [(2, _)] []))⟩
          have h1 : c ≤ k := h1
          exact gB_mono hA hB ht (u := c - a) (v := mid - 1 - c) (by omega) (by omega) (by omega) (by omega) (by rw [hg]; exact hb)
      · have hlt : st = r := by have := of_decide_eq_false hd; omega
        subst hlt
        obtain ⟨T1, T2, R1, N1, R2, N2, R3, N3⟩ := hrest st (by omega) (by omega) (by omega) (by omega) (fun h1 h2 => i4 (st - 1) (by omega) (by omega)) (fun h1 h2 => i5 st (Nat.le_refl _) (by omega))
        refine go0 ?_
        refine ⟨fun g1 => ?_, fun g1 => ?_⟩
        · have g1 := of_decide_eq_true g1
          refine go0 ?_
          refine ⟨fun d1 => ?_, fun d1 => ?_⟩
          · have d1 := of_decide_eq_true d1
            refine go0 ?_
            refine .inr ⟨_, _, _, _, _, _, R1 (by omega) (by omega), [(0, 0), (1, 1)], [], ⟨rfl, trivial, rfl, lm, mm⟩, rfl, rfl, ?_⟩
            try (exfalso; omega)
            all_goals
              refine go0 ?_
              refine ⟨fun g2 => ?_, fun g2 => ?_⟩
              · have g2 := of_decide_eq_true g2
                refine go0 ?_
                refine ⟨fun d2 => ?_, fun d2 => ?_⟩
                · have d2 := of_decide_eq_true d2
                  refine go0 ?_
                  refine .inr ⟨_, _, _, _, _, _, R2 (by omega) (by omega), [(0, 0), (1, 1)], [], ⟨rfl, trivial, rfl, lm, mm⟩, rfl, rfl, ?_⟩
                  try (exfalso; omega)
                  all_goals
                    refine go0 ?_
                    refine ⟨fun g3 => ?_, fun g3 => ?_⟩
                    · have g3 := of_decide_eq_true g3
                      try (exfalso; omega)
                      all_goals
                        refine go0 ?_
                        refine ⟨fun d3 => ?_, fun d3 => ?_⟩
                        · have d3 := of_decide_eq_true d3
                          refine go0 ?_
                          refine .inr ⟨_, _, _, _, _, _, R3 (by omega) (by omega), [(0, 0), (1, 1)], [], ⟨rfl, trivial, rfl, lm, mm⟩, rfl, rfl, ?_⟩
                          refine go0 ?_
                          refine ⟨[], [], [], rfl, rfl, trivial, rfl, trivial, ?_⟩
                          · exact mm
                        · have d3 := of_decide_eq_false d3
                          rw [N3 (by omega)]
                          refine go0 ?_
                          refine ⟨[], [], [], rfl, rfl, trivial, rfl, trivial, ?_⟩
                          · exact mm
                    · have g3 := of_decide_eq_false g3
                      rw [N3 (by omega)]
                      refine go0 ?_
                      refine ⟨[], [], [], rfl, rfl, trivial, rfl, trivial, ?_⟩
                      · exact mm
                · have d2 := of_decide_eq_false d2
                  rw [N2 (by omega)]
                  try (exfalso; omega)
                  all_goals
                    refine go0 ?_
                    refine ⟨fun g3 => ?_, fun g3 => ?_⟩
                    · have g3 := of_decide_eq_true g3
                      try (exfalso; omega)
                      all_goals
                        refine go0 ?_
                        refine ⟨fun d3 => ?_, fun d3 => ?_⟩
                        · have d3 := of_decide_eq_true d3
                          refine go0 ?_
                          refine .inr ⟨_, _, _, _, _, _, R3 (by omega) (by omega), [(0, 0), (1, 1)], [], ⟨rfl, trivial, rfl, lm, mm⟩, rfl, rfl, ?_⟩
                          refine go0 ?_
                          refine ⟨[], [], [], rfl, rfl, trivial, rfl, trivial, ?_⟩
                          · exact mm
                        · have d3 := of_decide_eq_false d3
                          rw [N3 (by omega)]
                          refine go0 ?_
                          refine ⟨[], [], [], rfl, rfl, trivial, rfl, trivial, ?_⟩
                          · exact mm
                    · have g3 := of_decide_eq_false g3
                      rw [N3 (by omega)]
                      refine go0 ?_
                      refine ⟨[], [], [], rfl, rfl, trivial, rfl, trivial, ?_⟩
                      · exact mm
              · have g2 := of_decide_eq_false g2
                rw [N2 (by omega)]
                try (exfalso; omega)
                all_goals
                  refine go0 ?_
                  refine ⟨fun g3 => ?_, fun g3 => ?_⟩
                  · have g3 := of_decide_eq_true g3
                    try (exfalso; omega)
                    all_goals
                      refine go0 ?_
                      refine ⟨fun d3 => ?_, fun d3 => ?_⟩
                      · have d3 := of_decide_eq_true d3
                        refine go0 ?_
                        refine .inr ⟨_, _, _, _, _, _, R3 (by omega) (by omega), [(0, 0), (1, 1)], [], ⟨rfl, trivial, rfl, lm, mm⟩, rfl, rfl, ?_⟩
                        refine go0 ?_
                        refine ⟨[], [], [], rfl, rfl, trivial, rfl, trivial, ?_⟩
                        · exact mm
                      · have d3 := of_decide_eq_false d3
                        rw [N3 (by omega)]
                        refine go0 ?_
                        refine ⟨[], [], [], rfl, rfl, trivial, rfl, trivial, ?_⟩
                        · exact mm
                  · have g3 := of_decide_eq_false g3
                    rw [N3 (by omega)]
                    refine go0 ?_
                    refine ⟨[], [], [], rfl, rfl, trivial, rfl, trivial, ?_⟩
                    · exact mm
          · have d1 := of_decide_eq_false d1
            rw [N1 (by omega)]
            try (exfalso; omega)
            all_goals
              refine go0 ?_
              refine ⟨fun g2 => ?_, fun g2 => ?_⟩
              · have g2 := of_decide_eq_true g2
                refine go0 ?_
                refine ⟨fun d2 => ?_, fun d2 => ?_⟩
                · have d2 := of_decide_eq_true d2
                  refine go0 ?_
                  refine .inr ⟨_, _, _, _, _, _, R2 (by omega) (by omega), [(0, 0), (1, 1)], [], ⟨rfl, trivial, rfl, lm, mm⟩, rfl, rfl, ?_⟩
                  try (exfalso; omega)
                  all_goals
                    refine go0 ?_
                    refine ⟨fun g3 => ?_, fun g3 => ?_⟩
                    · have g3 := of_decide_eq_true g3
                      try (exfalso; omega)
                      all_goals
                        refine go0 ?_
                        refine ⟨fun d3 => ?_, fun d3 => ?_⟩
                        · have d3 := of_decide_eq_true d3
                          refine go0 ?_
                          refine .inr ⟨_, _, _, _, _, _, R3 (by omega) (by omega), [(0, 0), (1, 1)], [], ⟨rfl, trivial, rfl, lm, mm⟩, rfl, rfl, ?_⟩
                          refine go0 ?_
                          refine ⟨[], [], [], rfl, rfl, trivial, rfl, trivial, ?_⟩
                          · exact mm
                        · have d3 := of_decide_eq_false d3
                          rw [N3 (by omega)]
                          refine go0 ?_
                          refine ⟨[], [], [], rfl, rfl, trivial, rfl, trivial, ?_⟩
                          · exact mm
                    · have g3 := of_decide_eq_false g3
                      rw [N3 (by omega)]
                      refine go0 ?_
                      refine ⟨[], [], [], rfl, rfl, trivial, rfl, trivial, ?_⟩
                      · exact mm
                · have d2 := of_decide_eq_false d2
                  rw [N2 (by omega)]
                  try (exfalso; omega)
                  all_goals
                    refine go0 ?_
                    refine ⟨fun g3 => ?_, fun g3 => ?_⟩
                    · have g3 := of_decide_eq_true g3
                      try (exfalso; omega)
                      all_goals
                        refine go0 ?_
                        refine ⟨fun d3 => ?_, fun d3 => ?_⟩
                        · have d3 := of_decide_eq_true d3
                          refine go0 ?_
                          refine .inr ⟨_, _, _, _, _, _, R3 (by omega) (by omega), [(0, 0), (1, 1)], [], ⟨rfl, trivial, rfl, lm, mm⟩, rfl, rfl, ?_⟩
                          refine go0 ?_
                          refine ⟨[], [], [], rfl, rfl, trivial, rfl, trivial, ?_⟩
                          · exact mm
                        · have d3 := of_decide_eq_false d3
                          rw [N3 (by omega)]
                          refine go0 ?_
                          refine ⟨[], [], [], rfl, rfl, trivial, rfl, trivial, ?_⟩
                          · exact mm
                    · have g3 := of_decide_eq_false g3
                      rw [N3 (by omega)]
                      refine go0 ?_
                      refine ⟨[], [], [], rfl, rfl, trivial, rfl, trivial, ?_⟩
                      · exact mm
              · have g2 := of_decide_eq_false g2
                rw [N2 (by omega)]
                try (exfalso; omega)
                all_goals
                  refine go0 ?_
                  refine ⟨fun g3 => ?_, fun g3 => ?_⟩
                  · have g3 := of_decide_eq_true g3
                    try (exfalso; omega)
                    all_goals
                      refine go0 ?_
                      refine ⟨fun d3 => ?_, fun d3 => ?_⟩
                      · have d3 := of_decide_eq_true d3
                        refine go0 ?_
                        refine .inr ⟨_, _, _, _, _, _, R3 (by omega) (by omega), [(0, 0), (1, 1)], [], ⟨rfl, trivial, rfl, lm, mm⟩, rfl, rfl, ?_⟩
                        refine go0 ?_
                        refine ⟨[], [], [], rfl, rfl, trivial, rfl, trivial, ?_⟩
                        · exact mm
                      · have d3 := of_decide_eq_false d3
                        rw [N3 (by omega)]
                        refine go0 ?_
                        refine ⟨[], [], [], rfl, rfl, trivial, rfl, trivial, ?_⟩
                        · exact mm
                  · have g3 := of_decide_eq_false g3
                    rw [N3 (by omega)]
                    refine go0 ?_
                    refine ⟨[], [], [], rfl, rfl, trivial, rfl, trivial, ?_⟩
                    · exact mm
        · have g1 := of_decide_eq_false g1
          rw [N1 (by omega)]
          try (exfalso; omega)
          all_goals
            refine go0 ?_
            refine ⟨fun g2 => ?_, fun g2 => ?_⟩
            · have g2 := of_decide_eq_true g2
              refine go0 ?_
              refine ⟨fun d2 => ?_, fun d2 => ?_⟩
              · have d2 := of_decide_eq_true d2
                refine go0 ?_
                refine .inr ⟨_, _, _, _, _, _, R2 (by omega) (by omega), [(0, 0), (1, 1)], [], ⟨rfl, trivial, rfl, lm, mm⟩, rfl, rfl, ?_⟩
                try (exfalso; omega)
                all_goals
                  refine go0 ?_
                  refine ⟨fun g3 => ?_, fun g3 => ?_⟩
                  · have g3 := of_decide_eq_true g3
                    try (exfalso; omega)
                    all_goals
                      refine go0 ?_
                      refine ⟨fun d3 => ?_, fun d3 => ?_⟩
                      · have d3 := of_decide_eq_true d3
                        refine go0 ?_
                        refine .inr ⟨_, _, _, _, _, _, R3 (by omega) (by omega), [(0, 0), (1, 1)], [], ⟨rfl, trivial, rfl, lm, mm⟩, rfl, rfl, ?_⟩
                        refine go0 ?_
                        refine ⟨[], [], [], rfl, rfl, trivial, rfl, trivial, ?_⟩
                        · exact mm
                      · have d3 := of_decide_eq_false d3
                        rw [N3 (by omega)]
                        refine go0 ?_
                        refine ⟨[], [], [], rfl, rfl, trivial, rfl, trivial, ?_⟩
                        · exact mm
                  · have g3 := of_decide_eq_false g3
                    rw [N3 (by omega)]
                    refine go0 ?_
                    refine ⟨[], [], [], rfl, rfl, trivial, rfl, trivial, ?_⟩
                    · exact mm
              · have d2 := of_decide_eq_false d2
                rw [N2 (by omega)]
                try (exfalso; omega)
                all_goals
                  refine go0 ?_
                  refine ⟨fun g3 => ?_, fun g3 => ?_⟩
                  · have g3 := of_decide_eq_true g3
                    try (exfalso; omega)
                    all_goals
                      refine go0 ?_
                      refine ⟨fun d3 => ?_, fun d3 => ?_⟩
                      · have d3 := of_decide_eq_true d3
                        refine go0 ?_
                        refine .inr ⟨_, _, _, _, _, _, R3 (by omega) (by omega), [(0, 0), (1, 1)], [], ⟨rfl, trivial, rfl, lm, mm⟩, rfl, rfl, ?_⟩
                        refine go0 ?_
                        refine ⟨[], [], [], rfl, rfl, trivial, rfl, trivial, ?_⟩
                        · exact mm
                      · have d3 := of_decide_eq_false d3
                        rw [N3 (by omega)]
                        refine go0 ?_
                        refine ⟨[], [], [], rfl, rfl, trivial, rfl, trivial, ?_⟩
                        · exact mm
                  · have g3 := of_decide_eq_false g3
                    rw [N3 (by omega)]
                    refine go0 ?_
                    refine ⟨[], [], [], rfl, rfl, trivial, rfl, trivial, ?_⟩
                    · exact mm
            · have g2 := of_decide_eq_false g2
              rw [N2 (by omega)]
              try (exfalso; omega)
              all_goals
                refine go0 ?_
                refine ⟨fun g3 => ?_, fun g3 => ?_⟩
                · have g3 := of_decide_eq_true g3
                  try (exfalso; omega)
                  all_goals
                    refine go0 ?_
                    refine ⟨fun d3 => ?_, fun d3 => ?_⟩
                    · have d3 := of_decide_eq_true d3
                      refine go0 ?_
                      refine .inr ⟨_, _, _, _, _, _, R3 (by omega) (by omega), [(0, 0), (1, 1)], [], ⟨rfl, trivial, rfl, lm, mm⟩, rfl, rfl, ?_⟩
                      refine go0 ?_
                      refine ⟨[], [], [], rfl, rfl, trivial, rfl, trivial, ?_⟩
                      · exact mm
                    · have d3 := of_decide_eq_false d3
                      rw [N3 (by omega)]
                      refine go0 ?_
                      refine ⟨[], [], [], rfl, rfl, trivial, rfl, trivial, ?_⟩
                      · exact mm
                · have g3 := of_decide_eq_false g3
                  rw [N3 (by omega)]
                  refine go0 ?_
                  refine ⟨[], [], [], rfl, rfl, trivial, rfl, trivial, ?_⟩
                  · exact mm
    · have hgt := of_decide_eq_false hd
      have hgt : m ≤ mid := by omega
      obtain ⟨lo, hlo⟩ : ∃ lo, lo = a := ⟨_, rfl⟩
      obtain ⟨hi, hhi⟩ : ∃ hi, hi = m := ⟨_, rfl⟩
      refine go0 ?_
      refine ⟨Nat × Nat, fun q => [(19, .int .i64 q.2), (18, .int .i64 q.1), (20, .int .i64 ((mid : Int) + m - 1)), (17, .int .i64 ((mid : Int) + m)), (16, .int .i64 mid), (4, .ptr 2 2 0 0 []), (3, .int .i64 b), (2, .int .i64 m), (1, .int .i64 a)], fun q => sortB n T0 ++ [(2, ⟨76, 2, false, 0, [dataM n]⟩)], 3,
        fun q => lo ≤ q.1 ∧ q.1 ≤ q.2 ∧ q.2 ≤ hi ∧ (∀ c, lo ≤ c → c < q.1 → gB A B (c - a) (mid - 1 - c) = false) ∧ (∀ c, q.2 ≤ c → c < hi → gB A B (c - a) (mid - 1 - c) = true), fun q => q.2 - q.1, ⟨(lo, hi), ⟨Nat.le_refl _, by omega, Nat.le_refl _, fun c h1 h2 => absurd h2 (by show ¬ c < lo; omega), fun c h1 h2 => absurd h2 (by have h1 : hi ≤ c := h1; omega)⟩, (by dsimp only; exact (vm [(2, _)] []))⟩, ?_⟩
      rintro ⟨st, r⟩ ⟨i1, i2, i3, i4, i5⟩
      dsimp only at i1 i2 i3 i4 i5 ⊢
      refine ⟨fun hd => ?_, fun hd => ?_⟩
      · have hlt : st < r := by have := of_decide_eq_true hd; omega
        obtain ⟨c, hc⟩ : ∃ c, c = (st + r) / 2 := ⟨_, rfl⟩
        obtain ⟨x, hx⟩ := at_some (l := A) (i := c - a) (by omega)
        obtain ⟨y, hy⟩ := at_some (l := B) (i := mid - 1 - c) (by omega)
        have hless := less_at (G := G) n T0 hlen (m + (mid - 1 - c)) c (hTy hy) (by have := hTx hx; rwa [show a + (c - a) = c by omega] at this)
        have hg := gB_at hx hy
        (repeat ((try conv => whnf); first | (with_reducible refine ⟨_, sv (half_w _ _ (by omega)), ?_⟩) | (with_reducible refine And.intro (Nat.zero_le _) ?_) | (with_reducible refine And.intro rfl ?_) | (with_reducible refine ⟨fun _ => ?_, fun h => Bool.noConfusion h⟩) | (with_reducible refine ⟨fun h => Bool.noConfusion h, fun _ => ?_⟩) | (with_reducible refine ⟨_, sv (add32 _ _), ?_⟩) | (with_reducible refine ⟨_, sv (xor32 _ _), ?_⟩) | (with_reducible refine ⟨_, sv (and32 _ _), ?_⟩) | (with_reducible refine ⟨_, sv (or32 _ _), ?_⟩) | (with_reducible refine ⟨_, sv (not32 _), ?_⟩) | (with_reducible refine ⟨_, sv (shlI _ _ (by omega) (by omega)), ?_⟩) | (with_reducible refine ⟨_, sv (shrI _ _ (by omega) (by omega)), ?_⟩) | (with_reducible refine ⟨_, sv (conv832 _), ?_⟩) | (with_reducible refine ⟨_, sv (conv328 _), ?_⟩) | (with_reducible refine ⟨_, sv (wrap_in _ (by omega) (by omega)), ?_⟩) | (with_reducible refine ⟨_, sv (wrapu_in _ (by omega) (by omega)), ?_⟩) | (with_reducible refine ⟨_, sv (wrap8_in _ (by omega) (by omega)), ?_⟩) | refine ⟨_, rfl, ?_⟩ | refine And.intro (show okDraw _ _ = true by kernel_rfl) ?_ | refine And.intro (by omega) ?_))
        refine .inr ⟨_, _, _, _, _, _, hless, [(0, 0), (1, 1)], [], ⟨rfl, trivial, rfl, lm, mm⟩, rfl, rfl, ?_⟩
        refine go0 ?_
        refine ⟨fun hb => ?_, fun hb => ?_⟩
        · have hb : befE y.1 x.1 = false := by simpa using hb
          refine go0 ?_
          refine ⟨(c + 1, r), ⟨by show lo ≤ c + 1; omega, by show c + 1 ≤ r; omega, i3, fun k h1 h2 => ?_, i5⟩, by show r - (c + 1) < r - st; omega, (by dsimp only; exact (vm [(2, _)] []))⟩
          have h2 : k < c + 1 := h2
          cases hq : gB A B (k - a) (mid - 1 - k) with
          | false => rfl
          | true =>
            have := gB_mono hA hB ht (u' := c - a) (v' := mid - 1 - c) (by omega) (by omega) (by omega) (by omega) hq
            rw [hg, hb] at this
            cases this
        · have hb : befE y.1 x.1 = true := by simpa using hb
          refine go0 ?_
          refine ⟨(st, c), ⟨i1, by show st ≤ c; omega, by show c ≤ hi; omega, i4, fun k h1 h2 => ?_⟩, by show c - st < r - st; omega, (by dsimp only; exact (vm [(2, _)] []))⟩
          have h1 : c ≤ k := h1
          exact gB_mono hA hB ht (u := c - a) (v := mid - 1 - c) (by omega) (by omega) (by omega) (by omega) (by rw [hg]; exact hb)
      · have hlt : st = r := by have := of_decide_eq_false hd; omega
        subst hlt
        obtain ⟨T1, T2, R1, N1, R2, N2, R3, N3⟩ := hrest st (by omega) (by omega) (by omega) (by omega) (fun h1 h2 => i4 (st - 1) (by omega) (by omega)) (fun h1 h2 => i5 st (Nat.le_refl _) (by omega))
        refine go0 ?_
        refine ⟨fun g1 => ?_, fun g1 => ?_⟩
        · have g1 := of_decide_eq_true g1
          refine go0 ?_
          refine ⟨fun d1 => ?_, fun d1 => ?_⟩
          · have d1 := of_decide_eq_true d1
            refine go0 ?_
            refine .inr ⟨_, _, _, _, _, _, R1 (by omega) (by omega), [(0, 0), (1, 1)], [], ⟨rfl, trivial, rfl, lm, mm⟩, rfl, rfl, ?_⟩
            try (exfalso; omega)
            all_goals
              refine go0 ?_
              refine ⟨fun g2 => ?_, fun g2 => ?_⟩
              · have g2 := of_decide_eq_true g2
                refine go0 ?_
                refine ⟨fun d2 => ?_, fun d2 => ?_⟩
                · have d2 := of_decide_eq_true d2
                  refine go0 ?_
                  refine .inr ⟨_, _, _, _, _, _, R2 (by omega) (by omega), [(0, 0), (1, 1)], [], ⟨rfl, trivial, rfl, lm, mm⟩, rfl, rfl, ?_⟩
                  try (exfalso; omega)
                  all_goals
                    refine go0 ?_
                    refine ⟨fun g3 => ?_, fun g3 => ?_⟩
                    · have g3 := of_decide_eq_true g3
                      try (exfalso; omega)
                      all_goals
                        refine go0 ?_
                        refine ⟨fun d3 => ?_, fun d3 => ?_⟩
                        · have d3 := of_decide_eq_true d3
                          refine go0 ?_
                          refine .inr ⟨_, _, _, _, _, _, R3 (by omega) (by omega), [(0, 0), (1, 1)], [], ⟨rfl, trivial, rfl, lm, mm⟩, rfl, rfl, ?_⟩
                          refine go0 ?_
                          refine ⟨[], [], [], rfl, rfl, trivial, rfl, trivial, ?_⟩
                          · exact mm
                        · have d3 := of_decide_eq_false d3
                          rw [N3 (by omega)]
                          refine go0 ?_
                          refine ⟨[], [], [], rfl, rfl, trivial, rfl, trivial, ?_⟩
                          · exact mm
                    · have g3 := of_decide_eq_false g3
                      rw [N3 (by omega)]
                      refine go0 ?_
                      refine ⟨[], [], [], rfl, rfl, trivial, rfl, trivial, ?_⟩
                      · exact mm
                · have d2 := of_decide_eq_false d2
                  rw [N2 (by omega)]
                  try (exfalso; omega)
                  all_goals
                    refine go0 ?_
                    refine ⟨fun g3 => ?_, fun g3 => ?_⟩
                    · have g3 := of_decide_eq_true g3
                      try (exfalso; omega)
                      all_goals
                        refine go0 ?_
                        refine ⟨fun d3 => ?_, fun d3 => ?_⟩
                        · have d3 := of_decide_eq_true d3
                          refine go0 ?_
                          refine .inr ⟨_, _, _, _, _, _, R3 (by omega) (by omega), [(0, 0), (1, 1)], [], ⟨rfl, trivial, rfl, lm, mm⟩, rfl, rfl, ?_⟩
                          refine go0 ?_
                          refine ⟨[], [], [], rfl, rfl, trivial, rfl, trivial, ?_⟩
                          · exact mm
                        · have d3 := of_decide_eq_false d3
                          rw [N3 (by omega)]
                          refine go0 ?_
                          refine ⟨[], [], [], rfl, rfl, trivial, rfl, trivial, ?_⟩
                          · exact mm
                    · have g3 := of_decide_eq_false g3
                      rw [N3 (by omega)]
                      refine go0 ?_
                      refine ⟨[], [], [], rfl, rfl, trivial, rfl, trivial, ?_⟩
                      · exact mm
              · have g2 := of_decide_eq_false g2
                rw [N2 (by omega)]
                try (exfalso; omega)
                all_goals
                  refine go0 ?_
                  refine ⟨fun g3 => ?_, fun g3 => ?_⟩
                  · have g3 := of_decide_eq_true g3
                    try (exfalso; omega)
                    all_goals
                      refine go0 ?_
                      refine ⟨fun d3 => ?_, fun d3 => ?_⟩
                      · have d3 := of_decide_eq_true d3
                        refine go0 ?_
                        refine .inr ⟨_, _, _, _, _, _, R3 (by omega) (by omega), [(0, 0), (1, 1)], [], ⟨rfl, trivial, rfl, lm, mm⟩, rfl, rfl, ?_⟩
                        refine go0 ?_
                        refine ⟨[], [], [], rfl, rfl, trivial, rfl, trivial, ?_⟩
                        · exact mm
                      · have d3 := of_decide_eq_false d3
                        rw [N3 (by omega)]
                        refine go0 ?_
                        refine ⟨[], [], [], rfl, rfl, trivial, rfl, trivial, ?_⟩
                        · exact mm
                  · have g3 := of_decide_eq_false g3
                    rw [N3 (by omega)]
                    refine go0 ?_
                    refine ⟨[], [], [], rfl, rfl, trivial, rfl, trivial, ?_⟩
                    · exact mm
          · have d1 := of_decide_eq_false d1
            rw [N1 (by omega)]
            try (exfalso; omega)
            all_goals
              refine go0 ?_
              refine ⟨fun g2 => ?_, fun g2 => ?_⟩
              · have g2 := of_decide_eq_true g2
                refine go0 ?_
                refine ⟨fun d2 => ?_, fun d2 => ?_⟩
                · have d2 := of_decide_eq_true d2
                  refine go0 ?_
                  refine .inr ⟨_, _, _, _, _, _, R2 (by omega) (by omega), [(0, 0), (1, 1)], [], ⟨rfl, trivial, rfl, lm, mm⟩, rfl, rfl, ?_⟩
                  try (exfalso; omega)
                  all_goals
                    refine go0 ?_
                    refine ⟨fun g3 => ?_, fun g3 => ?_⟩
                    · have g3 := of_decide_eq_true g3
                      try (exfalso; omega)
                      all_goals
                        refine go0 ?_
                        refine ⟨fun d3 => ?_, fun d3 => ?_⟩
                        · have d3 := of_decide_eq_true d3
                          refine go0 ?_
                          refine .inr ⟨_, _, _, _, _, _, R3 (by omega) (by omega), [(0, 0), (1, 1)], [], ⟨rfl, trivial, rfl, lm, mm⟩, rfl, rfl, ?_⟩
                          refine go0 ?_
                          refine ⟨[], [], [], rfl, rfl, trivial, rfl, trivial, ?_⟩
                          · exact mm
                        · have d3 := of_decide_eq_false d3
                          rw [N3 (by omega)]
                          refine go0 ?_
                          refine ⟨[], [], [], rfl, rfl, trivial, rfl, trivial, ?_⟩
                          · exact mm
                    · have g3 := of_decide_eq_false g3
                      rw [N3 (by omega)]
                      refine go0 ?_
                      refine ⟨[], [], [], rfl, rfl, trivial, rfl, trivial, ?_⟩
                      · exact mm
                · have d2 := of_decide_eq_false d2
                  rw [N2 (by omega)]
                  try (exfalso; omega)
                  all_goals
                    refine go0 ?_
                    refine ⟨fun g3 => ?_, fun g3 => ?_⟩
                    · have g3 := of_decide_eq_true g3
                      try (exfalso; omega)
                      all_goals
                        refine go0 ?_
                        refine ⟨fun d3 => ?_, fun d3 => ?_⟩
                        · have d3 := of_decide_eq_true d3
                          refine go0 ?_
                          refine .inr ⟨_, _, _, _, _, _, R3 (by omega) (by omega), [(0, 0), (1, 1)], [], ⟨rfl, trivial, rfl, lm, mm⟩, rfl, rfl, ?_⟩
                          refine go0 ?_
                          refine ⟨[], [], [], rfl, rfl, trivial, rfl, trivial, ?_⟩
                          · exact mm
                        · have d3 := of_decide_eq_false d3
                          rw [N3 (by omega)]
                          refine go0 ?_
                          refine ⟨[], [], [], rfl, rfl, trivial, rfl, trivial, ?_⟩
                          · exact mm
                    · have g3 := of_decide_eq_false g3
                      rw [N3 (by omega)]
                      refine go0 ?_
                      refine ⟨[], [], [], rfl, rfl, trivial, rfl, trivial, ?_⟩
                      · exact mm
              · have g2 := of_decide_eq_false g2
                rw [N2 (by omega)]
                try (exfalso; omega)
                all_goals
                  refine go0 ?_
                  refine ⟨fun g3 => ?_, fun g3 => ?_⟩
                  · have g3 := of_decide_eq_true g3
                    try (exfalso; omega)
                    all_goals
                      refine go0 ?_
                      refine ⟨fun d3 => ?_, fun d3 => ?_⟩
                      · have d3 := of_decide_eq_true d3
                        refine go0 ?_
                        refine .inr ⟨_, _, _, _, _, _, R3 (by omega) (by omega), [(0, 0), (1, 1)], [], ⟨rfl, trivial, rfl, lm, mm⟩, rfl, rfl, ?_⟩
                        refine go0 ?_
                        refine ⟨[], [], [], rfl, rfl, trivial, rfl, trivial, ?_⟩
                        · exact mm
                      · have d3 := of_decide_eq_false d3
                        rw [N3 (by omega)]
                        refine go0 ?_
                        refine ⟨[], [], [], rfl, rfl, trivial, rfl, trivial, ?_⟩
                        · exact mm
                  · have g3 := of_decide_eq_false g3
                    rw [N3 (by omega)]
                    refine go0 ?_
                    refine ⟨[], [], [], rfl, rfl, trivial, rfl, trivial, ?_⟩
                    · exact mm
        · have g1 := of_decide_eq_false g1
          rw [N1 (by omega)]
          try (exfalso; omega)
          all_goals
            refine go0 ?_
            refine ⟨fun g2 => ?_, fun g2 => ?_⟩
            · have g2 := of_decide_eq_true g2
              refine go0 ?_
              refine ⟨fun d2 => ?_, fun d2 => ?_⟩
              · have d2 := of_decide_eq_true d2
                refine go0 ?_
                refine .inr ⟨_, _, _, _, _, _, R2 (by omega) (by omega), [(0, 0), (1, 1)], [], ⟨rfl, trivial, rfl, lm, mm⟩, rfl, rfl, ?_⟩
                try (exfalso; omega)
                all_goals
                  refine go0 ?_
                  refine ⟨fun g3 => ?_, fun g3 => ?_⟩
                  · have g3 := of_decide_eq_true g3
                    try (exfalso; omega)
                    all_goals
                      refine go0 ?_
                      refine ⟨fun d3 => ?_, fun d3 => ?_⟩
                      · have d3 := of_decide_eq_true d3
                        refine go0 ?_
                        refine .inr ⟨_, _, _, _, _, _, R3 (by omega) (by omega), [(0, 0), (1, 1)], [], ⟨rfl, trivial, rfl, lm, mm⟩, rfl, rfl, ?_⟩
                        refine go0 ?_
                        refine ⟨[], [], [], rfl, rfl, trivial, rfl, trivial, ?_⟩
                        · exact mm
                      · have d3 := of_decide_eq_false d3
                        rw [N3 (by omega)]
                        refine go0 ?_
                        refine ⟨[], [], [], rfl, rfl, trivial, rfl, trivial, ?_⟩
                        · exact mm
                  · have g3 := of_decide_eq_false g3
                    rw [N3 (by omega)]
                    refine go0 ?_
                    refine ⟨[], [], [], rfl, rfl, trivial, rfl, trivial, ?_⟩
                    · exact mm
              · have d2 := of_decide_eq_false d2
                rw [N2 (by omega)]
                try (exfalso; omega)
                all_goals
                  refine go0 ?_
                  refine ⟨fun g3 => ?_, fun g3 => ?_⟩
                  · have g3 := of_decide_eq_true g3
                    try (exfalso; omega)
                    all_goals
                      refine go0 ?_
                      refine ⟨fun d3 => ?_, fun d3 => ?_⟩
                      · have d3 := of_decide_eq_true d3
                        refine go0 ?_
                        refine .inr ⟨_, _, _, _, _, _, R3 (by omega) (by omega), [(0, 0), (1, 1)], [], ⟨rfl, trivial, rfl, lm, mm⟩, rfl, rfl, ?_⟩
                        refine go0 ?_
                        refine ⟨[], [], [], rfl, rfl, trivial, rfl, trivial, ?_⟩
                        · exact mm
                      · have d3 := of_decide_eq_false d3
                        rw [N3 (by omega)]
                        refine go0 ?_
                        refine ⟨[], [], [], rfl, rfl, trivial, rfl, trivial, ?_⟩
                        · exact mm
                  · have g3 := of_decide_eq_false g3
                    rw [N3 (by omega)]
                    refine go0 ?_
                    refine ⟨[], [], [], rfl, rfl, trivial, rfl, trivial, ?_⟩
                    · exact mm
            · have g2 := of_decide_eq_false g2
              rw [N2 (by omega)]
              try (exfalso; omega)
              all_goals
                refine go0 ?_
                refine ⟨fun g3 => ?_, fun g3 => ?_⟩
                · have g3 := of_decide_eq_true g3
                  try (exfalso; omega)
                  all_goals
                    refine go0 ?_
                    refine ⟨fun d3 => ?_, fun d3 => ?_⟩
                    · have d3 := of_decide_eq_true d3
                      refine go0 ?_
                      refine .inr ⟨_, _, _, _, _, _, R3 (by omega) (by omega), [(0, 0), (1, 1)], [], ⟨rfl, trivial, rfl, lm, mm⟩, rfl, rfl, ?_⟩
                      refine go0 ?_
                      refine ⟨[], [], [], rfl, rfl, trivial, rfl, trivial, ?_⟩
                      · exact mm
                    · have d3 := of_decide_eq_false d3
                      rw [N3 (by omega)]
                      refine go0 ?_
                      refine ⟨[], [], [], rfl, rfl, trivial, rfl, trivial, ?_⟩
                      · exact mm
                · have g3 := of_decide_eq_false g3
                  rw [N3 (by omega)]
                  refine go0 ?_
                  refine ⟨[], [], [], rfl, rfl, trivial, rfl, trivial, ?_⟩
                  · exact mm
end Go.Proofs.Ytplkofafnbfkmaa
/- The stable sort of entries. -/
namespace Go.Proofs.Ytplkofafnbfkmaa
open Go.RowKit Go.Lib
variable {G : GS} {w : World} {P : Prot} {adr : Adr}
/-- What stands behind a round: each block of B elements is sorted. -/
def cs (B : Nat) (l : List TE) : List TE := if 0 < B ∧ B < l.length then srt (l.take B) ++ cs B (l.drop B) else srt l
termination_by l.length
decreasing_by simp; omega
theorem cs_short {B : Nat} {l : List TE} (h : l.length ≤ B) : cs B l = srt l := by rw [cs, if_neg (by omega)]
theorem cs_step {B : Nat} {l : List TE} (hB : 0 < B) (h : B ≤ l.length) : cs B l = srt (l.take B) ++ cs B (l.drop B) := by
  by_cases h1 : B < l.length
  · rw [cs, if_pos ⟨hB, h1⟩]
  · have h2 : l.length = B := by omega
    rw [cs_short (by omega), cs_short (by simp; omega), List.take_of_length_le (by omega), List.drop_eq_nil_of_le (by omega)]
    simp [srt]
theorem cs_len (B : Nat) (l : List TE) : (cs B l).length = l.length := by
  induction l using cs.induct B with
  | case1 l h ih => rw [cs, if_pos h, List.length_append, ih, (srt_perm _).length_eq]; simp; omega
  | case2 l h => rw [cs, if_neg h, (srt_perm _).length_eq]
structure Two (A B l : List TE) : Prop where
  a : SrtT A
  b : SrtT B
  t : ∀ x ∈ A, ∀ y ∈ B, x.2 < y.2
  n : TagsNe (A ++ B)
  s : srt (A ++ B) = srt l
theorem two_of {U V l : List TE} (h : U ++ V = l) (hl : TagsLt l) : Two (srt U) (srt V) l := by
  subst h
  obtain ⟨h1, h2, h3⟩ := List.pairwise_append.1 hl
  have hp : (srt U ++ srt V).Perm (U ++ V) := (srt_perm U).append (srt_perm V)
  have hn : TagsNe (srt U ++ srt V) := (ne_of_lt hl).perm hp.symm
  exact ⟨srt_srt U (ne_of_lt h1), srt_srt V (ne_of_lt h2), fun x hx y hy => h3 x ((srt_perm U).mem_iff.1 hx) y ((srt_perm V).mem_iff.1 hy), hn, srt_congr hp (ne_of_lt hl)⟩
set_option maxHeartbeats 4000000 in
theorem stable_r (n : Nat) (hN : n < 288230376151711744) (t : List TE) (hn : t.length = n) (ht : TagsLt t) : SemR Try.prog G 37 [dataM n, .int .i64 n] (sortB n t) 2 (.tup []) (sortB n (srt t)) 2 := by
  obtain ⟨cs, cs_step, cs_short, cs_len⟩ : ∃ cs : Nat → List TE → List TE, (∀ {B : Nat} {l : List TE}, 0 < B → B ≤ l.length → cs B l = srt (l.take B) ++ cs B (l.drop B)) ∧ (∀ {B : Nat} {l : List TE}, l.length ≤ B → cs B l = srt l) ∧ ∀ (B : Nat) (l : List TE), (cs B l).length = l.length := ⟨cs, cs_step, cs_short, cs_len⟩
  unfold dataM
  refine semR_of_vc seat Try.func37 rfl rfl (Nat.le_of_ble_eq_true rfl) (Nat.le_of_ble_eq_true rfl) (N := 57) rfl rfl ?_
  refine go0 ?_
  refine ⟨Nat × List TE, fun x => [(6, .int .i64 ((x.1 + 20 : Nat) : Int)), (5, .int .i64 x.1), (4, .int .i64 20), (2, .ptr 2 2 0 0 []), (1, .int .i64 n)], fun x => sortB n (x.2 ++ t.drop x.1) ++ [(2, ⟨76, 2, false, 0, [dataM n]⟩)], 3,
    fun x => x.1 ≤ n ∧ x.2.length = x.1 ∧ cs 20 t = x.2 ++ cs 20 (t.drop x.1), fun x => n - x.1, ⟨(0, []), ⟨Nat.zero_le _, rfl, rfl⟩, (by dsimp only; exact (vm [(2, _)] []))⟩, ?_⟩
  rintro ⟨a, D⟩ ⟨h1, h2, h3⟩
  dsimp only at h1 h2 h3 ⊢
  refine ⟨fun hd => ?_, fun hd => ?_⟩
  · have hle : a + 20 ≤ n := by have := of_decide_eq_true hd; omega
    have hst := cs_step (B := 20) (l := t.drop a) (by omega) (by simp; omega)
    have hcut : t.drop a = (t.drop a).take 20 ++ t.drop (a + 20) := by rw [← List.drop_drop, List.take_append_drop]
    rw [List.drop_drop] at hst
    have hA : TagsLt ((t.drop a).take 20) := ht.sublist ((List.take_sublist _ _).trans (List.drop_sublist _ _))
    have hl : ((t.drop a).take 20).length = 20 := by simp; omega
    rw [hcut]
    generalize hseg : (t.drop a).take 20 = A at *
    refine go0 ?_
    refine vOpsN_callR (fun _ h => h) rfl (insertion_r (G := G) n (by omega) D A (t.drop (a + 20)) a (a + 20) h2 (by omega) (by simp; omega) hA) [(0, 0), (1, 1)] [] ⟨rfl, trivial, rfl, lm, mm⟩ rfl rfl ?_
    refine go0 ?_
    refine ⟨(a + 20, D ++ srt A), ⟨hle, by show (D ++ srt A).length = a + 20; rw [List.length_append, (srt_perm A).length_eq]; omega, by show cs 20 t = (D ++ srt A) ++ cs 20 (t.drop (a + 20)); rw [h3, hst, List.append_assoc]⟩, by show n - (a + 20) < n - a; omega, ?_⟩
    dsimp only
    rw [List.append_assoc]
    exact (vm [(2, _)] [])
  · have hle : n < a + 20 := by have := of_decide_eq_false hd; omega
    have hst := cs_short (B := 20) (l := t.drop a) (by simp; omega)
    have hA : TagsLt (t.drop a) := ht.sublist (List.drop_sublist _ _)
    have hlA : a + (t.drop a).length = n := by simp; omega
    have hins := insertion_r (G := G) n (by omega) D (t.drop a) [] a n h2 hlA (by simp) hA
    rw [List.append_nil, List.append_nil, ← hst, ← h3] at hins
    refine go0 ?_
    refine vOpsN_callR (fun _ h => h) rfl (hins) [(0, 0), (1, 1)] [] ⟨rfl, trivial, rfl, lm, mm⟩ rfl rfl ?_
    clear hins hst hA hlA hle hd h1 h2 h3
    refine go0 ?_
    refine ⟨Nat, fun B => [(4, .int .i64 B), (2, .ptr 2 2 0 0 []), (1, .int .i64 n)], fun B => sortB n (cs B t) ++ [(2, ⟨76, 2, false, 0, [dataM n]⟩)], 3, fun B => 0 < B ∧ (B = 20 ∨ B < 2 * n), fun B => n - B, ⟨20, ⟨by omega, .inl rfl⟩, (by dsimp only; exact (vm [(2, _)] []))⟩, ?_⟩
    rintro B ⟨hB0, hB2⟩
    refine ⟨fun hd => ?_, fun hd => ?_⟩
    · have hBn : B < n := by have := of_decide_eq_true hd; omega
      refine go0 ?_
      refine ⟨Nat × List TE, fun x => [(6, .int .i64 ((x.1 + 2 * B : Nat) : Int)), (5, .int .i64 x.1), (4, .int .i64 B), (2, .ptr 2 2 0 0 []), (1, .int .i64 n)], fun x => sortB n (x.2 ++ cs B (t.drop x.1)) ++ [(2, ⟨76, 2, false, 0, [dataM n]⟩)], 3,
        fun x => x.1 ≤ n ∧ x.2.length = x.1 ∧ cs (2 * B) t = x.2 ++ cs (2 * B) (t.drop x.1), fun x => n - x.1, ⟨(0, []), ⟨Nat.zero_le _, rfl, rfl⟩, (by dsimp only; exact (vm [(2, _)] []))⟩, ?_⟩
      rintro ⟨a, D⟩ ⟨h1, h2, h3⟩
      dsimp only at h1 h2 h3 ⊢
      have hl : TagsLt (t.drop a) := ht.sublist (List.drop_sublist _ _)
      have hll : (t.drop a).length = n - a := by simp [hn]
      refine ⟨fun hd => ?_, fun hd => ?_⟩
      · have hle : a + 2 * B ≤ n := by have := of_decide_eq_true hd; omega
        have e1 := cs_step (B := B) (l := t.drop a) hB0 (by omega)
        have e2 := cs_step (B := B) (l := (t.drop a).drop B) hB0 (by simp; omega)
        have e3 := cs_step (B := 2 * B) (l := t.drop a) (by omega) (by omega)
        have hU : (t.drop a).take B ++ ((t.drop a).drop B).take B = (t.drop a).take (2 * B) := by
          rw [show 2 * B = B + B by omega, List.take_add]
        have h2' := two_of hU (hl.sublist (List.take_sublist _ _))
        have l1 : (srt ((t.drop a).take B)).length = B := by rw [(srt_perm _).length_eq]; simp; omega
        have l2 : (srt (((t.drop a).drop B).take B)).length = B := by rw [(srt_perm _).length_eq]; simp; omega
        rw [List.drop_drop, List.drop_drop, show a + B + B = a + 2 * B by omega] at e2
        rw [List.drop_drop] at h2' l2 e1
        rw [List.drop_drop] at e3
        rw [e1, e2]
        rw [e3] at h3
        rw [← h2'.s] at h3
        have l3 : (cs B (t.drop (a + 2 * B))).length = n - (a + 2 * B) := by rw [cs_len]; simp [hn]
        clear e1 e2 e3 hU
        generalize srt ((t.drop a).take B) = U at *
        generalize srt ((t.drop (a + B)).take B) = V at *
        have lUV : (srt (U ++ V)).length = 2 * B := by rw [(srt_perm _).length_eq, List.length_append]; omega
        refine go0 ?_
        refine vOpsN_callR (fun _ h => h) rfl (sym_r (G := G) n (by omega) (2 * B) D U V (cs B (t.drop (a + 2 * B))) a (a + B) (a + 2 * B) (by omega) h2 (by omega) (by omega) (by omega) (by omega) (by omega) h2'.a h2'.b h2'.t h2'.n) [(0, 0), (1, 1)] [] ⟨rfl, trivial, rfl, lm, mm⟩ rfl rfl ?_
        refine go0 ?_
        refine ⟨(a + 2 * B, D ++ srt (U ++ V)), ⟨hle, by show (D ++ srt (U ++ V)).length = a + 2 * B; rw [List.length_append]; omega, by show cs (2 * B) t = (D ++ srt (U ++ V)) ++ cs (2 * B) (t.drop (a + 2 * B)); rw [h3, List.append_assoc]⟩, by show n - (a + 2 * B) < n - a; omega, ?_⟩
        dsimp only
        rw [List.append_assoc]
        exact (vm [(2, _)] [])
      · have hle : n < a + 2 * B := by have := of_decide_eq_false hd; omega
        have e3 := cs_short (B := 2 * B) (l := t.drop a) (by omega)
        refine go0 ?_
        refine ⟨fun hd => ?_, fun hd => ?_⟩
        · have hlt : a + B < n := by have := of_decide_eq_true hd; omega
          have e1 := cs_step (B := B) (l := t.drop a) hB0 (by omega)
          have e2 := cs_short (B := B) (l := (t.drop a).drop B) (by simp; omega)
          have h2' := two_of (List.take_append_drop B (t.drop a)) hl
          have l1 : (srt ((t.drop a).take B)).length = B := by rw [(srt_perm _).length_eq]; simp; omega
          have l2 : (srt ((t.drop a).drop B)).length = n - (a + B) := by rw [(srt_perm _).length_eq]; simp; omega
          rw [e1, e2]
          rw [e3, ← h2'.s] at h3
          generalize srt ((t.drop a).take B) = U at *
          generalize srt ((t.drop a).drop B) = V at *
          have hsym := sym_r (G := G) n (by omega) n D U V [] a (a + B) n (by omega) h2 (by omega) (by omega) (by simp) (by omega) (by omega) h2'.a h2'.b h2'.t h2'.n
          rw [List.append_nil, List.append_nil, ← h3] at hsym
          refine go0 ?_
          refine vOpsN_callR (fun _ h => h) rfl (hsym) [(0, 0), (1, 1)] [] ⟨rfl, trivial, rfl, lm, mm⟩ rfl rfl ?_
          refine go0 ?_
          exact ⟨2 * B, ⟨by omega, .inr (by omega)⟩, by show n - 2 * B < n - B; omega, (by dsimp only; exact (vm [(2, _)] []))⟩
        · have hlt : n ≤ a + B := by have := of_decide_eq_false hd; omega
          have e1 := cs_short (B := B) (l := t.drop a) (by omega)
          rw [e1, ← e3, ← h3]
          refine go0 ?_
          exact ⟨2 * B, ⟨by omega, .inr (by omega)⟩, by show n - 2 * B < n - B; omega, (by dsimp only; exact (vm [(2, _)] []))⟩
    · have hBn : n ≤ B := by have := of_decide_eq_false hd; omega
      dsimp only
      rw [cs_short (by omega)]
      refine go0 ?_
      refine ⟨[], [], [], rfl, rfl, trivial, rfl, trivial, ?_⟩
      · exact mm
end Go.Proofs.Ytplkofafnbfkmaa
/- What the library does at once when a slice is sorted. -/
namespace Go.Proofs.Ytplkofafnbfkmaa
open Go.RowKit Go.Lib
variable {G : GS} {w : World} {P : Prot} {adr : Adr}
noncomputable def infS : TypeInfo := (Try.prog.info? 22).get (by kernel_rfl)
noncomputable def infE : TypeInfo := (Try.prog.info? 50).get (by kernel_rfl)
theorem info_S : Try.prog.info? 22 = some infS := by kernel_rfl
theorem info_E : Try.prog.info? 50 = some infE := by kernel_rfl
theorem desc_S : infS.desc = .slice 50 := by kernel_rfl
theorem pack_S : Try.prog.packed 22 = false := by kernel_rfl
theorem kind_E (w : World) : (Extern.Rtype.kind 50).run Try.prog w = .ok 25 w := by kernel_rfl
theorem swK (n : Nat) (h2 : 2 ≤ n) : swapperK n infE 25 = 9 := by
  have a : infE.hasPointers = true := by kernel_rfl
  have b : (infE.bytes == 8) = false := by kernel_rfl
  have c : (n == 0) = false := by simp; omega
  have d : (n == 1) = false := by simp; omega
  simp [swapperK, a, b, c, d]
theorem ms_val {c es off n : Nat} {u : Value} (h : RepV w P adr (.ms c es off n) u) : ∃ p cap, u = .slice p n cap ∧ Rep w P adr (.ms c es off n) [.slice p n cap] := by
  cases h with
  | val cs h =>
    cases h with
    | ms0 => exact ⟨none, 0, rfl, .ms0⟩
    | ms g o cap h1 h2 h3 h4 h5 => exact ⟨_, cap, rfl, .ms g o cap h1 h2 h3 h4 h5⟩
theorem ifc_val {t n es c off : Nat} {u : Value} (h : RepV w P adr (.ifc t (.ms c es off n)) u) : ∃ p cap, u = .iface t (.slice p n cap) ∧ Rep w P adr (.ms c es off n) [.slice p n cap] := by
  cases h with
  | val cs h =>
    cases h with
    | ifc cs hr =>
      obtain ⟨p, cap, h1, h2⟩ := ms_val (.val cs hr)
      exact ⟨p, cap, by rw [← h1]; rfl, h2⟩
theorem valueOf_p (n : Nat) (t : List TE) : SemP Try.prog G 35 [.ifc 22 (.ms 1 41 0 n)] (sortB n t) 2 (.st [hndM 22, .ptr 2 1 0 0 [], .int .u64 151]) ((2, ⟨22, 1, false, 0, [.ms 1 41 0 n]⟩) :: sortB n t) 3 := by
  intro w P adr vals hg hI hn hL hargs
  cases hargs with | cons a1 hargs =>
  cases hargs
  obtain ⟨p, cap, rfl, hr⟩ := ifc_val a1
  have hf : (callFunc 35 #[.iface 22 (.slice p n cap)]).run Try.prog w = _ :=
    run_callFunc_extern Try.func35 (by kernel_rfl) (by kernel_rfl) (by kernel_rfl) (e := fun args => Extern.ReflectliteValue.unpack (args.getD 0 (.tuple #[]))) (by kernel_rfl) _ w
  rw [show (#[.iface 22 (.slice p n cap)] : Array Value).getD 0 (.tuple #[]) = .iface 22 (.slice p n cap) from rfl, run_valueOf_slice _ _ infS info_S desc_S] at hf
  have hb := Below.alloc1 w (.cells #[.slice p n cap] 22)
  obtain ⟨i1, k1⟩ := hI.new (b := ⟨22, 1, false, 0, [.ms 1 41 0 n]⟩) (hn 2 (Nat.le_refl _)) rfl hb (cur := #[.slice p n cap]) (parts := [[.slice p n cap]]) (by show (w.heap.push _)[w.heap.size]? = _; simp) rfl (by simp) (fun j x q hx hq => by
    match j with
    | 0 => simp at hx hq; subst hx hq; exact hr
    | j + 1 => simp at hx) (by simp) (Nat.zero_le _)
  rw [vget_new] at i1
  refine ⟨_, _, hf, _, rfl, P, _, i1, ?_, k1, fun c hc => fput_ne _ _ (by omega), fun c hc => (fput_ne _ _ (by omega)).trans (hn c (by omega)), fun c g hc => ?_, fun b o ho => .inl ho, (Since.of_below hb).weak fun _ e => e.elim⟩
  · exact .val _ (.st [[typeHandle Try.prog 22], [.pointer (some ⟨w.heap.size, 0, none⟩)], [.int .u64 151]] rfl fun j m q hm hq => by
      match j with
      | 0 => simp at hm hq; subst hm hq; exact .gp
      | 1 => simp at hm hq; subst hm hq; exact .ptr (fo := 0) (k := 0) w.heap.size (fput_same _ _ _)
      | 2 => simp at hm hq; subst hm hq; exact .int
      | j + 3 => simp at hm)
  · by_cases h : c = 2
    · subst h; rw [fput_same] at hc; injection hc with hc; exact .inl (by omega)
    · rw [fput_ne _ _ h] at hc; exact .inr ⟨c, hc⟩
/-- The slice that stands in its variable. -/
theorem var_cell (n : Nat) (t : List TE) {g : Nat} (hI : InvM w P adr (VM.get (sortB n t))) (hg : adr 0 = some g) : ∃ p cap, w.cell? ⟨g, 0, none⟩ = some (.slice p n cap) := by
  rcases hI.blk 0 _ rfl with h | ⟨g', h1, h2⟩
  · rw [hg] at h; cases h.2.2.1
  · rw [hg] at h1
    injection h1 with h1
    subst h1
    obtain ⟨cur, parts, q1, q2, q3, q4, q5⟩ := h2.has
    match parts, q2 with
    | [s], _ =>
      have hr := q4 0 _ s rfl rfl
      obtain ⟨p, cap, hu, hv⟩ := ms_val (.val s hr)
      have hs : s.length = 1 := q3 s (by simp)
      match s, hs with
      | [u], _ =>
        have : u = .slice p n cap := hu
        subst this
        refine ⟨p, cap, ?_⟩
        rw [cell_of_row w g 0 cur _ (0, 0) q1]
        have := prefix_get q5 (j := 0) (x := .slice p n cap) (by simp)
        simpa using this
theorem valueLen_p (n : Nat) (t : List TE) : SemP Try.prog G 38 [.st [hndM 22, .ptr 0 1 0 0 [], .int .u64 151]] (sortB n t) 2 (.int .i64 n) (sortB n t) 2 := by
  intro w P adr vals hg hI hn hL hargs
  cases hargs with | cons a1 hargs =>
  cases hargs
  obtain ⟨cs, h1, rfl⟩ := a1.agg_ rfl
  cases h1 with | st parts hp hr =>
  match parts, hp with
  | [c0, c1, c2], _ =>
    have r0 := hr 0 _ c0 rfl rfl
    have r1 := hr 1 _ c1 rfl rfl
    have r2 := hr 2 _ c2 rfl rfl
    cases r0
    cases r2
    cases r1 with | ptr g h1 =>
    obtain ⟨p, cap, hc⟩ := var_cell n t hI h1
    have hf : (callFunc 38 #[.agg #[typeHandle Try.prog 22, .pointer (some ⟨g, 0, none⟩), .int .u64 151]]).run Try.prog w = _ :=
      run_callFunc_extern Try.func38 (by kernel_rfl) (by kernel_rfl) (by kernel_rfl) (e := Extern.ReflectliteValue.method (Extern.ReflectliteValue.valueError "reflectlite.Value.Len" 0) Extern.ReflectliteValue.len) (by kernel_rfl) _ w
    rw [run_valueLen_slice _ _ infS info_S desc_S pack_S _ _ _ _ _ hc] at hf
    exact ⟨_, _, hf, _, rfl, P, adr, hI, .val [_] .int, Keep.refl _ _ _, fun _ _ => rfl, hn, fun c g hc => .inr ⟨c, hc⟩, fun b o ho => .inl ho, Since.refl _ _⟩
noncomputable def swpM (n : Nat) : MV := if n = 0 then .fn 42 [] else if n = 1 then .fn 43 [] else .fn 50 [.ms 1 41 0 n, hndM 50]
theorem swapper_p (n : Nat) (t : List TE) : SemP Try.prog G 36 [.ifc 22 (.ms 1 41 0 n)] (sortB n t) 2 (swpM n) (sortB n t) 2 := by
  intro w P adr vals hg hI hn hL hargs
  cases hargs with | cons a1 hargs =>
  cases hargs
  obtain ⟨p, cap, rfl, hr⟩ := ifc_val a1
  have hf : (callFunc 36 #[.iface 22 (.slice p n cap)]).run Try.prog w = _ :=
    run_callFunc_extern Try.func36 (by kernel_rfl) (by kernel_rfl) (by kernel_rfl) (e := Extern.ReflectliteSwapper.swapper "internal/reflectlite" (Extern.ReflectliteValue.valueError "Swapper")) (by kernel_rfl) _ w
  have fin : ∀ v, (callFunc 36 #[.iface 22 (.slice p n cap)]).run Try.prog w = .ok (.value v) w → RepV w P adr (swpM n) v → Prims Try.prog 36 #[.iface 22 (.slice p n cap)] w fun e w' => ∃ v, e = .returned v ∧ ∃ P' adr', InvM w' P' adr' (VM.get (sortB n t)) ∧ RepV w' P' adr' (swpM n) v ∧ Keep w w' P P' adr adr' ∧ (∀ c, c < 2 → adr' c = adr c) ∧ (∀ c, 2 ≤ c → adr' c = none) ∧
      (∀ c g, adr' c = some g → w.heap.size ≤ g ∨ ∃ c0, adr c0 = some g) ∧ (∀ b o, P' b o → P b o ∨ w.heap.size ≤ b ∨ ∃ c0, adr c0 = some b) ∧ Since (fun g => ∃ c0, adr c0 = some g) w w' :=
    fun v hv hr => ⟨_, _, hv, _, rfl, P, adr, hI, hr, Keep.refl _ _ _, fun _ _ => rfl, hn, fun c g hc => .inr ⟨c, hc⟩, fun b o ho => .inl ho, Since.refl _ _⟩
  match n with
  | 0 =>
    rw [run_swapper_slice _ _ infS infE info_S desc_S info_E 25 kind_E p 0 cap 42 (by kernel_rfl)] at hf
    exact fin _ hf (.val _ (.fn [] rfl fun j m q h => by simp at h))
  | 1 =>
    rw [run_swapper_slice _ _ infS infE info_S desc_S info_E 25 kind_E p 1 cap 43 (by kernel_rfl)] at hf
    exact fin _ hf (.val _ (.fn [] rfl fun j m q h => by simp at h))
  | k + 2 =>
    have hk := swK (k + 2) (by omega)
    rw [run_swapper_slice _ _ infS infE info_S desc_S info_E 25 kind_E p (k + 2) cap 50 (by rw [hk]; kernel_rfl), hk] at hf
    refine fin _ hf ?_
    have e : swpM (k + 2) = .fn 50 [.ms 1 41 0 (k + 2), hndM 50] := by unfold swpM; rw [if_neg (by omega), if_neg (by omega)]
    rw [e]
    exact .val _ (.fn [[.slice p (k + 2) cap], [typeHandle Try.prog 50]] rfl fun j m q hm hq => by
      match j with
      | 0 => simp at hm hq; subst hm hq; exact hr
      | 1 => simp at hm hq; subst hm hq; exact .gp
      | j + 2 => simp at hm)
end Go.Proofs.Ytplkofafnbfkmaa
/- The order in which entries leave. -/
namespace Go.Proofs.Ytplkofafnbfkmaa
open Go.RowKit
variable {G : GS}
theorem entAt {c : List Ent} {k : Nat} {e : Ent} (h : c[k]? = some e) : nthM (c.map entM) (0 + k) = some (entM e) := by rw [nthM_eq, Nat.zero_add, List.getElem?_map, h]; rfl
theorem entSet (c : List Ent) (k : Nat) (e : Ent) : setL (c.map entM) (0 + k) (entM e) = (c.set k e).map entM := by rw [setL_eq, Nat.zero_add, List.map_set]
set_option maxHeartbeats 1000000 in
theorem reverse_r (l : List Ent) (hl : l.length < 1000000000) : SemR Try.prog G 25 [.ms 0 41 0 l.length] [(0, ⟨50, 41, true, 0, l.map entM⟩)] 1 (.tup []) [(0, ⟨50, 41, true, 0, l.reverse.map entM⟩)] 1 := by
  refine semR_of_vc seat Try.func25 rfl rfl (Nat.le_of_ble_eq_true rfl) (Nat.le_of_ble_eq_true rfl) (N := 28) rfl rfl ?_
  refine go0 ?_
  refine ⟨Nat × List Ent × List Ent × List Ent, fun x => [(3, .int .i64 ((l.length : Int) - 1 - x.1)), (2, .int .i64 x.1), (0, .ms 0 41 0 l.length)], fun x => [(0, ⟨50, 41, true, 0, (x.2.1 ++ (x.2.2.1 ++ x.2.2.2)).map entM⟩)], 1, fun x => x.2.1.length = x.1 ∧ x.2.2.2.length = x.1 ∧ x.1 + x.2.2.1.length + x.1 = l.length ∧ l.reverse = x.2.1 ++ (x.2.2.1.reverse ++ x.2.2.2), fun x => x.2.2.1.length, ⟨(0, [], l, []), ⟨rfl, rfl, by simp, by simp⟩, ?_⟩, ?_⟩
  · dsimp only
    rw [List.nil_append, List.append_nil]
    exact (vm [] [])
  rintro ⟨i, A, M, B⟩ ⟨h1, h2, h3, h4⟩
  dsimp only at h1 h2 h3 h4 ⊢
  refine ⟨fun hd => ?_, fun hd => ?_⟩
  · have hlt : 2 ≤ M.length := by have := of_decide_eq_true hd; omega
    obtain ⟨x, M', rfl⟩ : ∃ x M', M = x :: M' := by cases M with | nil => simp at hlt | cons x M' => exact ⟨x, M', rfl⟩
    obtain ⟨M, y, rfl, hM⟩ := cutL' M' (k := M'.length - 1) (by simp at hlt; omega)
    have hML : (x :: (M ++ [y])).length = M.length + 2 := by simp
    rw [hML] at h3 hlt
    clear hM
    have hc : A ++ ((x :: (M ++ [y])) ++ B) = A ++ x :: (M ++ y :: B) := by simp
    have hsw : swp (A ++ x :: (M ++ y :: B)) i (l.length - 1 - i) = A ++ y :: (M ++ x :: B) := swp_app' h1 (by omega)
    have hlen : (A ++ x :: (M ++ y :: B)).length = l.length := by simp; omega
    have hx : (A ++ x :: (M ++ y :: B))[i]? = some x := by subst h1; simp
    have hy : (A ++ x :: (M ++ y :: B))[l.length - 1 - i]? = some y := by
      have e : A ++ x :: (M ++ y :: B) = (A ++ x :: M) ++ y :: B := by simp
      rw [e, List.getElem?_append_right (by simp; omega), show l.length - 1 - i - (A ++ x :: M).length = 0 by simp; omega]; rfl
    have hset : ((A ++ x :: (M ++ y :: B)).set i y).set (l.length - 1 - i) x = A ++ y :: (M ++ x :: B) := by
      rw [← hsw]; unfold swp; rw [hx, hy]
    rw [hc, show ((l.length : Int) - 1 - i) = ((l.length - 1 - i : Nat) : Int) by omega]
    generalize hC : A ++ x :: (M ++ y :: B) = c at *
    generalize hJ : l.length - 1 - i = j at *
    refine go0 ?_
    refine ⟨[(0, false), (1, false), (2, false), (3, false), (4, false), (5, false), (6, false), (7, false), (8, false), (9, false), (10, false), (11, false), (12, false), (13, false), (14, false), (15, false)], ?_⟩
    refine go0 ?_
    refine ⟨_, entAt hy, ?_⟩
    refine go0 ?_
    refine ⟨_, entAt hx, ?_⟩
    refine go0 ?_
    refine ⟨_, entAt hx, _, rfl, _, sv (entSet _ _ _), ?_⟩
    refine go0 ?_
    refine ⟨_, entAt (c := c.set i y) (e := y) ?_, _, rfl, _, sv (entSet _ _ _), ?_⟩
    · rw [List.getElem?_set_ne (by omega)]; exact hy
    rw [hset]
    refine go0 ?_
    refine ⟨(i + 1, A ++ [y], M, x :: B), ⟨by simp [h1], by simp [h2], by show i + 1 + M.length + (i + 1) = l.length; omega, by rw [h4]; simp⟩, by show M.length < (x :: (M ++ [y])).length; rw [hML]; omega, ?_⟩
    dsimp only
    rw [show (A ++ [y]) ++ (M ++ x :: B) = A ++ y :: (M ++ x :: B) by simp]
    exact (vm [] [])
  · have hlt : M.length ≤ 1 := by have := of_decide_eq_false hd; omega
    have hM : M.reverse = M := by
      match M, hlt with
      | [], _ => rfl
      | [x], _ => rfl
      | _ :: _ :: _, h => simp at h
    rw [hM] at h4
    rw [h4]
    refine go0 ?_
    refine ⟨[], [], [], rfl, rfl, trivial, rfl, trivial, ?_⟩
    · exact mm
end Go.Proofs.Ytplkofafnbfkmaa
/- The order in which entries leave. -/
namespace Go.Proofs.Ytplkofafnbfkmaa
open Go.RowKit
variable {G : GS}
abbrev lessM : MV := .fn 27 [.ptr 0 1 0 0 []]
set_option maxHeartbeats 1000000 in
set_option maxRecDepth 20000 in
theorem tiny_ins (n : Nat) (hn : n ≤ 1) (t : List TE) (f : FuncId) : SemR Try.prog G 51 [.st [lessM, .fn f []], .int .i64 0, .int .i64 n] (sortB n t) 2 (.tup []) (sortB n t) 2 := by
  refine semR_of_vc seat Try.func51 rfl rfl (Nat.le_of_ble_eq_true rfl) (Nat.le_of_ble_eq_true rfl) (N := 35) rfl rfl ?_
  refine go1 ?_
  refine c_loop Unit (fun _ => [(6, .int .i64 1), (2, .int .i64 n)]) (fun _ => sortB n t) 2 (fun _ => True) (fun _ => 0) () trivial (vm [] []) ?_
  intro _ _
  refine go1 ?_
  ((with_reducible apply c_cond); (case he => exact rfl); (all_goals intro h))
  · exfalso
    have := of_decide_eq_true h
    omega
  · refine go1 ?_
    refine ⟨[], [], [], rfl, rfl, trivial, rfl, trivial, ?_⟩
    · exact mm
set_option maxHeartbeats 1000000 in
set_option maxRecDepth 20000 in
theorem tiny_stable (n : Nat) (hn : n ≤ 1) (t : List TE) (f : FuncId) : SemR Try.prog G 37 [.st [lessM, .fn f []], .int .i64 n] (sortB n t) 2 (.tup []) (sortB n t) 2 := by
  refine semR_of_vc seat Try.func37 rfl rfl (Nat.le_of_ble_eq_true rfl) (Nat.le_of_ble_eq_true rfl) (N := 57) rfl rfl ?_
  refine go1 ?_
  refine c_loop Unit (fun _ => [(6, .int .i64 20), (5, .int .i64 0), (4, .int .i64 20), (2, .ptr 2 2 0 0 []), (1, .int .i64 n)]) (fun _ => sortB n t ++ [(2, ⟨76, 2, false, 0, [.st [lessM, .fn f []]]⟩)]) 3 (fun _ => True) (fun _ => 0) () trivial (vm [(2, _)] []) ?_
  intro _ _
  refine go1 ?_
  ((with_reducible apply c_cond); (case he => exact rfl); (all_goals intro h))
  · exfalso
    have := of_decide_eq_true h
    omega
  · refine go1 ?_
    refine g_callR1 rfl (fun _ h => h) rfl (tiny_ins n hn t f) [(0, 0), (1, 1)] [] ⟨rfl, trivial, rfl, lm, mm⟩ rfl rfl ?_
    refine go1 ?_
    refine c_loop Unit (fun _ => [(4, .int .i64 20), (1, .int .i64 n)]) (fun _ => sortB n t) 2 (fun _ => True) (fun _ => 0) () trivial (vm [] []) ?_
    intro _ _
    refine go1 ?_
    ((with_reducible apply c_cond); (case he => exact rfl); (all_goals intro h))
    · exfalso
      have := of_decide_eq_true h
      omega
    · refine go1 ?_
      refine ⟨[], [], [], rfl, rfl, trivial, rfl, trivial, ?_⟩
      · exact mm
set_option maxHeartbeats 1000000 in
set_option maxRecDepth 20000 in
theorem sliceStable_r (n : Nat) (hN : n < 288230376151711744) (t : List TE) (hn : t.length = n) (ht : TagsLt t) : SemR Try.prog G 26 [.ifc 22 (.ms 1 41 0 n), lessM] (sortB n t) 2 (.tup []) (sortB n (srt t)) 2 := by
  have hsw := swapper_p (G := G) n t
  by_cases h0 : n = 0
  · have e : swpM n = .fn 42 [] := by unfold swpM; rw [if_pos h0]
    rw [e] at hsw
    have hst := tiny_stable (G := G) n (by omega) t 42
    rw [srt_one (by omega)]
    refine semR_of_vc seat Try.func26 rfl rfl (Nat.le_of_ble_eq_true rfl) (Nat.le_of_ble_eq_true rfl) (N := 16) rfl rfl ?_
    refine go1 ?_
    refine g_callP1 rfl (fun _ h => h) rfl (valueOf_p n t) [(0, 0), (1, 1)] [] ⟨rfl, trivial, rfl, lm, mm⟩ rfl rfl ?_
    refine go1 ?_
    refine g_callP1 rfl (fun _ h => h) rfl (hsw) [(0, 0), (1, 1)] [] ⟨rfl, trivial, rfl, lm, mm⟩ rfl rfl ?_
    refine go1 ?_
    refine g_callP1 rfl (fun _ h => h) rfl (valueLen_p n t) [(0, _), (1, 1)] [] ⟨rfl, trivial, rfl, lm, mm⟩ rfl rfl ?_
    refine go1 ?_
    refine g_callR1 rfl (fun _ h => h) rfl (hst) [(0, 0), (1, 1)] [] ⟨rfl, trivial, rfl, lm, mm⟩ rfl rfl ?_
    refine go1 ?_
    refine ⟨[], [], [], rfl, rfl, trivial, rfl, trivial, ?_⟩
    · exact mm
  by_cases h1 : n = 1
  · have e : swpM n = .fn 43 [] := by unfold swpM; rw [if_neg h0, if_pos h1]
    rw [e] at hsw
    have hst := tiny_stable (G := G) n (by omega) t 43
    rw [srt_one (by omega)]
    refine semR_of_vc seat Try.func26 rfl rfl (Nat.le_of_ble_eq_true rfl) (Nat.le_of_ble_eq_true rfl) (N := 16) rfl rfl ?_
    refine go1 ?_
    refine g_callP1 rfl (fun _ h => h) rfl (valueOf_p n t) [(0, 0), (1, 1)] [] ⟨rfl, trivial, rfl, lm, mm⟩ rfl rfl ?_
    refine go1 ?_
    refine g_callP1 rfl (fun _ h => h) rfl (hsw) [(0, 0), (1, 1)] [] ⟨rfl, trivial, rfl, lm, mm⟩ rfl rfl ?_
    refine go1 ?_
    refine g_callP1 rfl (fun _ h => h) rfl (valueLen_p n t) [(0, _), (1, 1)] [] ⟨rfl, trivial, rfl, lm, mm⟩ rfl rfl ?_
    refine go1 ?_
    refine g_callR1 rfl (fun _ h => h) rfl (hst) [(0, 0), (1, 1)] [] ⟨rfl, trivial, rfl, lm, mm⟩ rfl rfl ?_
    refine go1 ?_
    refine ⟨[], [], [], rfl, rfl, trivial, rfl, trivial, ?_⟩
    · exact mm
  have e : swpM n = .fn 50 [.ms 1 41 0 n, hndM 50] := by unfold swpM; rw [if_neg h0, if_neg h1]
  rw [e] at hsw
  have hst := stable_r (G := G) n hN t hn ht
  unfold dataM at hst
  refine semR_of_vc seat Try.func26 rfl rfl (Nat.le_of_ble_eq_true rfl) (Nat.le_of_ble_eq_true rfl) (N := 16) rfl rfl ?_
  refine go1 ?_
  refine g_callP1 rfl (fun _ h => h) rfl (valueOf_p n t) [(0, 0), (1, 1)] [] ⟨rfl, trivial, rfl, lm, mm⟩ rfl rfl ?_
  refine go1 ?_
  refine g_callP1 rfl (fun _ h => h) rfl (hsw) [(0, 0), (1, 1)] [] ⟨rfl, trivial, rfl, lm, mm⟩ rfl rfl ?_
  refine go1 ?_
  refine g_callP1 rfl (fun _ h => h) rfl (valueLen_p n t) [(0, _), (1, 1)] [] ⟨rfl, trivial, rfl, lm, mm⟩ rfl rfl ?_
  refine go1 ?_
  refine g_callR1 rfl (fun _ h => h) rfl (hst) [(0, 0), (1, 1)] [] ⟨rfl, trivial, rfl, lm, mm⟩ rfl rfl ?_
  refine go1 ?_
  refine ⟨[], [], [], rfl, rfl, trivial, rfl, trivial, ?_⟩
  · exact mm
/-- The order in which entries leave. -/
def orderS (l : List Ent) : List Ent := ordE l.reverse
set_option maxHeartbeats 2000000 in
set_option maxRecDepth 20000 in
/-- A copy of entries that belongs to the caller. -/
theorem own_entries2 (l : List Ent) (hl : l.length < 1000000) (hok : ∀ e ∈ l, e.raw.length < 536870912 ∧ e.peers.length < 536870912) : SemR Try.prog G 24 [.sl l.length (l.map entM)] [] 0 (.ms 0 41 0 l.length) [(0, ⟨50, 41, true, 0, l.map entM⟩)] 1 := by
  refine semR_of_vc seat Try.func24 rfl rfl (Nat.le_of_ble_eq_true rfl) (Nat.le_of_ble_eq_true rfl) (N := 19) rfl rfl ?_
  refine go1 ?_
  refine c_loop Nat (fun k => [(8, .int .i64 k), (7, .int .i64 l.length), (6, .sl l.length (l.map entM)), (3, .ms 0 41 0 k)]) (fun k => [(0, ⟨50, 41, true, 0, (l.take k).map entM⟩)]) 1 (fun k => k ≤ l.length) (fun k => l.length - k) 0 (Nat.zero_le _) (vm [] []) ?_
  intro k hk
  try dsimp only
  refine go1 ?_
  ((with_reducible apply c_cond); (case he => exact rfl); (all_goals intro h))
  · have hk' : k < l.length := by have := of_decide_eq_true h; omega
    have hke := hok _ (List.getElem_mem hk')
    (have fct := SomF.mk (ents_at hk'); refine go1 ?_)
    refine g_call2 rfl (fun _ h => h) rfl (semR_of_semC (own_entry l[k] hke.1 hke.2)) rfl lm ?_
    refine go1 ?_
    ((with_reducible apply g_mem); (case hq => exact rfl); (case hv => exact rfl); (case he => (intro R hR; refine sms hR ?_; (refine And.intro (Nat.le_refl _) ?_; refine ⟨_, rfl, ?_⟩; refine And.intro ⟨(by simp; omega), app_ok (by kernel_rfl) pf⟩ ?_; refine ⟨(l.take (k + 1)).map entM, sv (by rw [List.take_succ_eq_append_getElem hk', List.map_append]; rfl), k + 1, sv pf, ?_⟩); exact hR)); (case hd => exact rfl))
    refine go1 ?_
    exact ⟨k + 1, by show k + 1 ≤ l.length; omega, by show l.length - (k + 1) < l.length - k; omega, (by dsimp only; exact (vm [(0, _)] []))⟩
  · have hk' : k = l.length := by have := of_decide_eq_false h; omega
    subst hk'
    rw [List.take_length]
    refine go1 ?_
    refine ⟨[_], [(0, 0)], [], rfl, rfl, trivial, rfl, ⟨?_, trivial⟩, ?_⟩
    · exact .inr ⟨_, rfl, rfl⟩
    · exact mm
set_option maxHeartbeats 1000000 in
set_option maxRecDepth 20000 in
theorem order_r (l : List Ent) (hl : l.length < 1000000) (hok : ∀ e ∈ l, e.raw.length < 536870912 ∧ e.peers.length < 536870912) : SemR Try.prog G 13 [.sl l.length (l.map entM)] [] 0 (.sl l.length ((orderS l).map entM)) [] 0 := by
  have hsort := sliceStable_r (G := G) l.length (by omega) (tag 0 l.reverse) (by rw [tag_len]; simp) (tag_lt _ _)
  have e1 : (tag 0 l.reverse).map teM = l.reverse.map entM := by
    have : (tag 0 l.reverse).map teM = ((tag 0 l.reverse).map (·.1)).map entM := by rw [List.map_map]; rfl
    rw [this, tag_fst]
  have e2 : (srt (tag 0 l.reverse)).map teM = (orderS l).map entM := by
    have : (srt (tag 0 l.reverse)).map teM = ((srt (tag 0 l.reverse)).map (·.1)).map entM := by rw [List.map_map]; rfl
    rw [this, srt_tag]; rfl
  have e3 : (orderS l).length = l.length := by
    have := congrArg List.length (srt_tag 0 l.reverse)
    rw [List.length_map, (srt_perm _).length_eq, tag_len, List.length_reverse] at this
    exact this.symm
  unfold sortB rowB at hsort
  rw [e1, e2] at hsort
  have hrev := reverse_r (G := G) l (by omega)
  refine semR_of_vc seat Try.func13 rfl rfl (Nat.le_of_ble_eq_true rfl) (Nat.le_of_ble_eq_true rfl) (N := 13) rfl rfl ?_
  refine go1 ?_
  refine g_callR1 rfl (fun _ h => h) rfl (own_entries2 l hl hok) [] [] ⟨rfl, trivial, rfl, lm, mm⟩ rfl rfl ?_
  refine go1 ?_
  refine g_callR1 rfl (fun _ h => h) rfl (hrev) [(0, _)] [] ⟨rfl, trivial, rfl, lm, mm⟩ rfl rfl ?_
  refine go1 ?_
  refine g_callR1 rfl (fun _ h => h) rfl (hsort) [(0, _), (1, _)] [] ⟨rfl, trivial, rfl, lm, mm⟩ rfl rfl ?_
  refine go1 ?_
  refine ⟨[_], [], [(2, l.length)], rfl, rfl, ?_, rfl, ⟨?_, trivial⟩, ?_⟩
  · exact ⟨by show l.length ≤ ((orderS l).map entM).length; rw [List.length_map, e3]; exact Nat.le_refl _, trivial⟩
  · exact .inr ⟨rfl, rfl, rfl, Nat.le_of_eq (Nat.zero_add _), by rw [← e3]; exact cut_all entM _⟩
  · exact mm
end Go.Proofs.Ytplkofafnbfkmaa
/- Who has to leave for a newcomer. -/
namespace Go.Proofs.Ytplkofafnbfkmaa
open Go.RowKit
variable {G : GS}
theorem maxw (s : Int) (h : s < 9223372036854775808) : IntKind.u64.wrap (if (0 : Int) > s then 0 else s) = max s 0 := by
  by_cases hs : (0 : Int) > s
  · rw [if_pos hs, wrapu_in 0 (by omega) (by omega)]; omega
  · rw [if_neg hs, wrapu_in s (by omega) (by omega)]; omega
/-- Whether there is room for one more. -/
def roomS (c b s t m : Int) : Bool := decide (c < t ∧ 0 ≤ m ∧ b + max s 0 ≤ m)
def intB (x : Int) : MB := ⟨3, 1, false, 0, [.int .i64 x]⟩
def roomB (c b s t m : Int) : VM := [(0, intB c), (1, intB t), (2, intB m), (3, intB b), (4, intB s)]
set_option maxHeartbeats 1000000 in
set_option maxRecDepth 20000 in
theorem room_r (c b s t m : Int) (hb : 0 ≤ b ∧ b < 4611686018427387904) (hs : s < 9223372036854775808) (hm : m < 9223372036854775808) :
    SemR Try.prog G 28 [.ptr 0 1 0 0 [], .ptr 1 1 0 0 [], .ptr 2 1 0 0 [], .ptr 3 1 0 0 [], .ptr 4 1 0 0 []] (roomB c b s t m) 5 (.bool (roomS c b s t m)) (roomB c b s t m) 5 := by
  unfold roomS
  refine semR_of_vc seat Try.func28 rfl rfl (Nat.le_of_ble_eq_true rfl) (Nat.le_of_ble_eq_true rfl) (N := 24) rfl rfl ?_
  refine go1 ?_
  ((with_reducible apply n_guard); (case hs => exact rfl); (case hv => exact rfl); (case hd => exact rfl); (all_goals intro h))
  · have h0 := of_decide_eq_true h
    refine go1 ?_
    ((with_reducible apply n_guard); (case hs => exact rfl); (case hv => exact rfl); (case hd => exact rfl); (all_goals intro h))
    · have h1 := of_decide_eq_true h
      (have fct := EqF.mk (maxw s hs); refine go1 ?_)
      refine ⟨[_], [], [], rfl, rfl, trivial, rfl, ⟨?_, trivial⟩, ?_⟩
      · exact ⟨congrArg MV.bool (decide_eq_decide.2 (by omega)), rfl⟩
      · exact mm
    · have h2 : ¬ 0 ≤ m := of_decide_eq_false (by simpa using h)
      refine go1 ?_
      refine ⟨[_], [], [], rfl, rfl, trivial, rfl, ⟨?_, trivial⟩, ?_⟩
      · exact ⟨congrArg MV.bool (decide_eq_false (by omega)), rfl⟩
      · exact mm
  · have h2 : ¬ c < t := of_decide_eq_false (by simpa using h)
    refine go1 ?_
    refine ⟨[_], [], [], rfl, rfl, trivial, rfl, ⟨?_, trivial⟩, ?_⟩
    · exact ⟨congrArg MV.bool (decide_eq_false (by omega)), rfl⟩
    · exact mm
theorem insE_perm (e : Ent) : ∀ l, (insE e l).Perm (e :: l)
  | [] => .refl _
  | y :: l => by
    unfold insE
    cases befE y e with
    | true => exact ((insE_perm e l).cons y).trans (.swap e y l)
    | false => exact .refl _
theorem ordE_perm : ∀ l, (ordE l).Perm l
  | [] => .refl _
  | e :: l => (insE_perm e (ordE l)).trans ((ordE_perm l).cons e)
theorem order_perm (l : List Ent) : (orderS l).Perm l := (ordE_perm _).trans (List.reverse_perm l)
theorem bytes_perm {a b : List Ent} (h : a.Perm b) : bytesS a = bytesS b := by
  unfold bytesS
  induction h with
  | nil => rfl
  | cons x _ ih => simp [ih]
  | swap x y l => simp; omega
  | trans _ _ h1 h2 => exact h1.trans h2
/-- The victims, and what is left behind them. -/
def selG (p s t m : Int) : List Ent → Int → Int → List Ent × Int × Int
  | [], c, b => ([], c, b)
  | e :: l, c, b => match roomS c b s t m || decide (p ≤ e.prio) with
    | true => ([], c, b)
    | false => match selG p s t m l (c - 1) (b - e.raw.length) with
      | (v, c', b') => (e :: v, c', b')
def selS (p s t m : Int) (l : List Ent) : List (List UInt8) × Bool := match selG p s t m (orderS l) l.length (bytesS l) with
  | (v, c, b) => match roomS c b s t m with
    | true => (v.map (·.key), true)
    | false => ([], false)
theorem ents_at' {O : List Ent} {n k : Nat} (hn : O.length = n) (hk : k < n) : idxL (O.map entM) n (k : Int) = some (entM (O[k]'(by omega))) := by subst hn; exact ents_at hk
theorem bytesS_split (l : List Ent) (k : Nat) : bytesS (l.take k) + bytesS (l.drop k) = bytesS l := by
  unfold bytesS
  rw [← List.sum_append, ← List.map_append, List.take_append_drop]
def selM (x : List (List UInt8) × Bool) : MV := .tup [.sl x.1.length (x.1.map keyM), .bool x.2]
/-- Once k have been chosen. -/
def SelI (p s t m : Int) (O : List Ent) (n B k : Nat) : Prop := ∃ v c b, selG p s t m (O.drop k) ((n : Int) - k) ((B : Int) - bytesS (O.take k)) = (v, c, b) ∧ selG p s t m O n B = (O.take k ++ v, c, b)
theorem selI_step {p s t m : Int} {O : List Ent} {n B k : Nat} (hk : k < O.length) (h : SelI p s t m O n B k) (hr : (roomS ((n : Int) - k) ((B : Int) - bytesS (O.take k)) s t m || decide (p ≤ O[k].prio)) = false) : SelI p s t m O n B (k + 1) := by
  obtain ⟨v, c, b, h1, h2⟩ := h
  rw [List.drop_eq_getElem_cons hk, selG, hr] at h1
  generalize hg : selG p s t m (O.drop (k + 1)) ((n : Int) - k - 1) ((B : Int) - bytesS (O.take k) - O[k].raw.length) = r at h1
  obtain ⟨v', c', b'⟩ := r
  dsimp only at h1
  injection h1 with e1 e2
  injection e2 with e2 e3
  subst e1 e2 e3
  refine ⟨v', c', b', ?_, ?_⟩
  · rw [bytesS_succ O hk]
    rw [← hg]
    congr 1 <;> omega
  · rw [h2, List.take_succ_eq_append_getElem hk, List.append_assoc]; rfl
theorem selI_end {p s t m : Int} {O : List Ent} {n B k : Nat} (h : SelI p s t m O n B k) (hr : k = O.length ∨ ∃ hk : k < O.length, (roomS ((n : Int) - k) ((B : Int) - bytesS (O.take k)) s t m || decide (p ≤ O[k].prio)) = true) :
    selG p s t m O n B = (O.take k, (n : Int) - k, (B : Int) - bytesS (O.take k)) := by
  obtain ⟨v, c, b, h1, h2⟩ := h
  rcases hr with rfl | ⟨hk, hr⟩
  · rw [List.drop_length, selG] at h1
    injection h1 with e1 e2
    injection e2 with e2 e3
    subst e1 e2 e3
    rw [h2, List.append_nil]
  · rw [List.drop_eq_getElem_cons hk, selG, hr] at h1
    injection h1 with e1 e2
    injection e2 with e2 e3
    subst e1 e2 e3
    rw [h2, List.append_nil]
set_option maxHeartbeats 4000000 in
set_option maxRecDepth 20000 in
theorem select_r (l : List Ent) (hl : l.length < 1000000) (hok : ∀ e ∈ l, e.raw.length ≤ 1000000 ∧ e.peers.length < 536870912) (p s t m : Int) (hs : -9223372036854775808 ≤ s ∧ s < 9223372036854775808) (hm : m < 9223372036854775808) :
    SemR Try.prog G 16 [.sl l.length (l.map entM), .int .u64 p, .int .i64 s, .int .i64 t, .int .i64 m] [] 0 (selM (selS p s t m l)) [] 0 := by
  have hOp := order_perm l
  have hOl : (orderS l).length = l.length := hOp.length_eq
  have hOb : bytesS (orderS l) = bytesS l := bytes_perm hOp
  have hord := order_r (G := G) l hl fun e he => ⟨by have := (hok e he).1; omega, (hok e he).2⟩
  unfold selM
  refine semR_of_vc seat Try.func16 rfl rfl (Nat.le_of_ble_eq_true rfl) (Nat.le_of_ble_eq_true rfl) (N := 67) rfl rfl ?_
  refine go1 ?_
  refine c_loop Nat (fun k => [(24, .int .i64 k), (23, .int .i64 l.length), (22, .sl l.length (l.map entM)), (13, .ptr 3 1 0 0 []), (12, .ptr 0 1 0 0 []), (9, .ptr 2 1 0 0 []), (8, .ptr 1 1 0 0 []), (7, .ptr 4 1 0 0 []), (1, .int .u64 p), (0, .sl l.length (l.map entM))]) (fun k => roomB l.length (bytesS (l.take k)) s t m) 5 (fun k => k ≤ l.length) (fun k => l.length - k) 0 (Nat.zero_le _) (vm [(0, _), (1, _), (2, _), (3, _), (4, _)] []) ?_
  intro k hk
  try dsimp only
  refine go1 ?_
  ((with_reducible apply c_cond); (case he => exact rfl); (all_goals intro h))
  · have hk' : k < l.length := by have := of_decide_eq_true h; omega
    have hke := (hok _ (List.getElem_mem hk')).1
    have hb := bytesS_le l 1000000 (fun e he => (hok e he).1) k
    have hs2 := bytesS_succ l hk'
    (have fct := SomF.mk (ents_at hk'); refine go1 ?_)
    refine ⟨k + 1, by show k + 1 ≤ l.length; omega, by show l.length - (k + 1) < l.length - k; omega, ?_⟩
    dsimp only
    rw [hs2]
    exact (vm [(0, _), (1, _), (2, _), (3, _), (4, _)] [])
  · have hk' : k = l.length := by have := of_decide_eq_false h; omega
    subst hk'
    rw [List.take_length]
    refine go1 ?_
    refine g_call2 rfl (fun _ h => h) rfl (hord) rfl lm ?_
    refine go1 ?_
    refine c_loop Nat (fun k => [(38, .int .i64 k), (37, .int .i64 l.length), (36, .sl l.length ((orderS l).map entM)), (17, .ms 5 32 0 k), (16, .fn 28 [.ptr 0 1 0 0 [], .ptr 1 1 0 0 [], .ptr 2 1 0 0 [], .ptr 3 1 0 0 [], .ptr 4 1 0 0 []]), (13, .ptr 3 1 0 0 []), (12, .ptr 0 1 0 0 []), (1, .int .u64 p)]) (fun k => roomB ((l.length : Int) - k) ((bytesS l : Int) - bytesS ((orderS l).take k)) s t m ++ [(5, ⟨47, 32, true, 0, ((orderS l).take k).map fun e => keyM e.key⟩)]) 6 (fun k => k ≤ l.length ∧ SelI p s t m (orderS l) l.length (bytesS l) k) (fun k => l.length - k) 0 ⟨Nat.zero_le _, ?_⟩ ?_ ?_
    · refine ⟨(selG p s t m (orderS l) l.length (bytesS l)).1, (selG p s t m (orderS l) l.length (bytesS l)).2.1, (selG p s t m (orderS l) l.length (bytesS l)).2.2, ?_, rfl⟩
      simp [bytesS]
    · try dsimp only
      rw [show ((bytesS l : Int) - bytesS ((orderS l).take 0)) = bytesS l by simp [bytesS]]
      exact (vm [(0, _), (1, _), (2, _), (3, _), (4, _)] [])
    rintro k ⟨hk1, hI⟩
    try dsimp only
    have hbk : bytesS ((orderS l).take k) ≤ bytesS l := by
      have := bytesS_split (orderS l) k
      omega
    have hB := bytesS_le l 1000000 (fun e he => (hok e he).1) l.length
    rw [List.take_length] at hB
    refine go1 ?_
    ((with_reducible apply c_cond); (case he => exact rfl); (all_goals intro h))
    · have hk' : k < l.length := by have := of_decide_eq_true h; omega
      have hkO : k < (orderS l).length := by omega
      have hs2 := bytesS_succ (orderS l) hkO
      have hbk2 : bytesS ((orderS l).take (k + 1)) ≤ bytesS l := by
        have := bytesS_split (orderS l) (k + 1)
        omega
      have hroom := room_r (G := G) ((l.length : Int) - k) ((bytesS l : Int) - bytesS ((orderS l).take k)) s t m (by omega) hs.2 hm
      cases hr : roomS ((l.length : Int) - k) ((bytesS l : Int) - bytesS ((orderS l).take k)) s t m with
      | true =>
        have hsel := selI_end hI (.inr ⟨hkO, by rw [hr]; rfl⟩)
        rw [hr] at hroom
        (have fct := SomF.mk (ents_at' hOl hk'); refine go1 ?_)
        refine g_callR1 rfl (fun _ h => h) rfl (hroom) [(0, 0), (1, 1), (2, 2), (3, 3), (4, 4)] [] ⟨rfl, trivial, rfl, lm, mm⟩ rfl rfl ?_
        have hcall := room_r (G := G) ((l.length : Int) - k) ((bytesS l : Int) - bytesS ((orderS l).take k)) s t m (by omega) hs.2 hm
        cases hroom : roomS ((l.length : Int) - k) ((bytesS l : Int) - bytesS ((orderS l).take k)) s t m with
        | true =>
          rw [hroom] at hcall
          rw [show selS p s t m l = (((orderS l).take k).map (·.key), true) by unfold selS; rw [hsel]; simp only [hroom]]
          refine go1 ?_
          refine g_callR1 rfl (fun _ h => h) rfl (hcall) [(0, 0), (1, 1), (2, 2), (3, 3), (4, 4)] [] ⟨rfl, trivial, rfl, lm, mm⟩ rfl rfl ?_
          refine go1 ?_
          refine ⟨[_, _], [], [(5, k)], rfl, rfl, ?_, rfl, ⟨?_, ?_, trivial⟩, ?_⟩
          · exact ⟨by show k ≤ (((orderS l).take k).map fun e => keyM e.key).length; simp; omega, trivial⟩
          · exact .inr ⟨rfl, rfl, by simp; omega, by simp; omega, by rw [List.map_map, List.length_map]; exact cut_all (fun e : Ent => keyM e.key) _⟩
          · exact rv
          · exact mm
        | false =>
          rw [hroom] at hcall
          rw [show selS p s t m l = ([], false) by unfold selS; rw [hsel]; simp only [hroom]]
          refine go1 ?_
          refine g_callR1 rfl (fun _ h => h) rfl (hcall) [(0, 0), (1, 1), (2, 2), (3, 3), (4, 4)] [] ⟨rfl, trivial, rfl, lm, mm⟩ rfl rfl ?_
          refine go1 ?_
          refine ⟨[_, _], [], [], rfl, rfl, trivial, rfl, ⟨?_, ?_, trivial⟩, ?_⟩
          · exact .inr ⟨rfl, rfl⟩
          · exact rv
          · exact mm
      | false =>
        rw [hr] at hroom
        (have fct := SomF.mk (ents_at' hOl hk'); refine go1 ?_)
        refine g_callR1 rfl (fun _ h => h) rfl (hroom) [(0, 0), (1, 1), (2, 2), (3, 3), (4, 4)] [] ⟨rfl, trivial, rfl, lm, mm⟩ rfl rfl ?_
        refine go1 ?_
        ((with_reducible apply c_cond); (case he => exact rfl); (all_goals intro h))
        · have hp := of_decide_eq_true h
          have hsel := selI_end hI (.inr ⟨hkO, by rw [hr]; simpa using hp⟩)
          have hcall := room_r (G := G) ((l.length : Int) - k) ((bytesS l : Int) - bytesS ((orderS l).take k)) s t m (by omega) hs.2 hm
          cases hroom : roomS ((l.length : Int) - k) ((bytesS l : Int) - bytesS ((orderS l).take k)) s t m with
          | true =>
            rw [hroom] at hcall
            rw [show selS p s t m l = (((orderS l).take k).map (·.key), true) by unfold selS; rw [hsel]; simp only [hroom]]
            refine go1 ?_
            refine g_callR1 rfl (fun _ h => h) rfl (hcall) [(0, 0), (1, 1), (2, 2), (3, 3), (4, 4)] [] ⟨rfl, trivial, rfl, lm, mm⟩ rfl rfl ?_
            refine go1 ?_
            refine ⟨[_, _], [], [(5, k)], rfl, rfl, ?_, rfl, ⟨?_, ?_, trivial⟩, ?_⟩
            · exact ⟨by show k ≤ (((orderS l).take k).map fun e => keyM e.key).length; simp; omega, trivial⟩
            · exact .inr ⟨rfl, rfl, by simp; omega, by simp; omega, by rw [List.map_map, List.length_map]; exact cut_all (fun e : Ent => keyM e.key) _⟩
            · exact rv
            · exact mm
          | false =>
            rw [hroom] at hcall
            rw [show selS p s t m l = ([], false) by unfold selS; rw [hsel]; simp only [hroom]]
            refine go1 ?_
            refine g_callR1 rfl (fun _ h => h) rfl (hcall) [(0, 0), (1, 1), (2, 2), (3, 3), (4, 4)] [] ⟨rfl, trivial, rfl, lm, mm⟩ rfl rfl ?_
            refine go1 ?_
            refine ⟨[_, _], [], [], rfl, rfl, trivial, rfl, ⟨?_, ?_, trivial⟩, ?_⟩
            · exact .inr ⟨rfl, rfl⟩
            · exact rv
            · exact mm
        · have hp := of_decide_eq_false h
          have hstep := selI_step hkO hI (by rw [hr]; simpa using hp)
          refine go1 ?_
          ((with_reducible apply g_mem); (case hq => exact rfl); (case hv => exact rfl); (case he => (intro R hR; refine sms hR ?_; (refine And.intro (Nat.le_refl _) ?_; refine ⟨_, rfl, ?_⟩; refine And.intro ⟨(by simp; omega), app_ok (by kernel_rfl) pf⟩ ?_; refine ⟨((orderS l).take (k + 1)).map fun e => keyM e.key, sv (by rw [List.take_succ_eq_append_getElem hkO, List.map_append]; rfl), k + 1, sv pf, ?_⟩); exact hR)); (case hd => exact rfl))
          refine go1 ?_
          exact ⟨k + 1, ⟨by omega, hstep⟩, by show l.length - (k + 1) < l.length - k; omega, (by dsimp only; exact (vm [(0, _), (1, _), (2, _), (3, _), (4, _), (5, _)] []))⟩
    · have hk' : k = l.length := by have := of_decide_eq_false h; omega
      have hsel := selI_end hI (.inl (by omega))
      have hcall := room_r (G := G) ((l.length : Int) - k) ((bytesS l : Int) - bytesS ((orderS l).take k)) s t m (by omega) hs.2 hm
      cases hroom : roomS ((l.length : Int) - k) ((bytesS l : Int) - bytesS ((orderS l).take k)) s t m with
      | true =>
        rw [hroom] at hcall
        rw [show selS p s t m l = (((orderS l).take k).map (·.key), true) by unfold selS; rw [hsel]; simp only [hroom]]
        refine go1 ?_
        refine g_callR1 rfl (fun _ h => h) rfl (hcall) [(0, 0), (1, 1), (2, 2), (3, 3), (4, 4)] [] ⟨rfl, trivial, rfl, lm, mm⟩ rfl rfl ?_
        refine go1 ?_
        refine ⟨[_, _], [], [(5, k)], rfl, rfl, ?_, rfl, ⟨?_, ?_, trivial⟩, ?_⟩
        · exact ⟨by show k ≤ (((orderS l).take k).map fun e => keyM e.key).length; simp; omega, trivial⟩
        · exact .inr ⟨rfl, rfl, by simp; omega, by simp; omega, by rw [List.map_map, List.length_map]; exact cut_all (fun e : Ent => keyM e.key) _⟩
        · exact rv
        · exact mm
      | false =>
        rw [hroom] at hcall
        rw [show selS p s t m l = ([], false) by unfold selS; rw [hsel]; simp only [hroom]]
        refine go1 ?_
        refine g_callR1 rfl (fun _ h => h) rfl (hcall) [(0, 0), (1, 1), (2, 2), (3, 3), (4, 4)] [] ⟨rfl, trivial, rfl, lm, mm⟩ rfl rfl ?_
        refine go1 ?_
        refine ⟨[_, _], [], [], rfl, rfl, trivial, rfl, ⟨?_, ?_, trivial⟩, ?_⟩
        · exact .inr ⟨rfl, rfl⟩
        · exact rv
        · exact mm
end Go.Proofs.Ytplkofafnbfkmaa
/- Equal entries are found equal. -/
namespace Go.Proofs.Ytplkofafnbfkmaa
open Go.RowKit
variable {G : GS}
theorem sameBytes_m (a : List UInt8) : SemC Try.prog G 32 [.sl a.length (u8s a), .sl a.length (u8s a)] (.bool true) := by
  refine semC_of_vc seat Try.func32 rfl rfl (Nat.le_of_ble_eq_true rfl) (Nat.le_of_ble_eq_true rfl) (N := 10) rfl ?_
  (have fct := SomF.mk (bytesM_u8 a); refine goe1 ?_)
  refine go0 ?_
  rfl
set_option maxHeartbeats 1000000 in
set_option maxRecDepth 20000 in
theorem sameInts_m (l : List Int) (hl : l.length < 1000000000) : SemC Try.prog G 33 [intsM l, intsM l] (.bool true) := by
  unfold intsM
  refine semC_of_vc seat Try.func33 rfl rfl (Nat.le_of_ble_eq_true rfl) (Nat.le_of_ble_eq_true rfl) (N := 26) rfl ?_
  refine goe1 ?_
  refine c_loop Nat (fun k => [(13, .int .i64 k), (12, .int .i64 l.length), (1, .sl l.length (l.map (.int .i64))), (0, .sl l.length (l.map (.int .i64)))]) (fun _ => []) 0 (fun k => k ≤ l.length) (fun k => l.length - k) 0 (Nat.zero_le _) (vm [] []) ?_
  intro k hk
  try dsimp only
  refine go1 ?_
  ((with_reducible apply c_cond); (case he => exact rfl); (all_goals intro h))
  · have hk' : k < l.length := by have := of_decide_eq_true h; omega
    refine go1 ?_
    refine c_draw [(0, false), (1, false), (2, false), (3, false), (4, false), (5, false), (6, false), (7, false), (8, false)] ?_
    (have fct := SomF.mk (intsM_at hk'); refine goe1 ?_)
    exact ⟨k + 1, by show k + 1 ≤ l.length; omega, by show l.length - (k + 1) < l.length - k; omega, (by dsimp only; exact (vm [] []))⟩
  · refine go1 ?_
    refine go0 ?_
    rfl
set_option maxHeartbeats 2000000 in
set_option maxRecDepth 20000 in
theorem sameEntry_m (e : Ent) (hk : e.key.length = 32) (hp : e.peers.length < 1000000000) : SemC Try.prog G 23 [entM e, entM e] (.bool true) := by
  have eK : eqM (keyM e.key) (keyM e.key) = some true := by rw [eq_key rfl]; simp
  unfold entM
  refine semC_of_vc seat Try.func23 rfl rfl (Nat.le_of_ble_eq_true rfl) (Nat.le_of_ble_eq_true rfl) (N := 73) rfl ?_
  (have fct := SideF.mk (keySide e.key e.key); have fct := SomF.mk (eK); refine goe1 ?_)
  refine g_call2 rfl (fun _ h => h) rfl (semR_of_semC (sameBytes_m e.raw)) rfl lm ?_
  refine goe1 ?_
  refine g_call2 rfl (fun _ h => h) rfl (semR_of_semC (sameInts_m e.peers hp)) rfl lm ?_
  refine goe1 ?_
  refine go0 ?_
  rfl
set_option maxHeartbeats 2000000 in
set_option maxRecDepth 20000 in
theorem sameEntries_m (l : List Ent) (hl : l.length < 1000000000) (hok : ∀ e ∈ l, e.key.length = 32 ∧ e.peers.length < 1000000000) : SemC Try.prog G 12 [.sl l.length (l.map entM), .sl l.length (l.map entM)] (.bool true) := by
  refine semC_of_vc seat Try.func12 rfl rfl (Nat.le_of_ble_eq_true rfl) (Nat.le_of_ble_eq_true rfl) (N := 27) rfl ?_
  refine goe1 ?_
  refine c_loop Nat (fun k => [(13, .int .i64 k), (12, .int .i64 l.length), (1, .sl l.length (l.map entM)), (0, .sl l.length (l.map entM))]) (fun _ => []) 0 (fun k => k ≤ l.length) (fun k => l.length - k) 0 (Nat.zero_le _) (vm [] []) ?_
  intro k hk
  try dsimp only
  refine go1 ?_
  ((with_reducible apply c_cond); (case he => exact rfl); (all_goals intro h))
  · have hk' : k < l.length := by have := of_decide_eq_true h; omega
    have hke := hok _ (List.getElem_mem hk')
    have hel := ents_at hk'
    generalize l[k] = e at *
    refine go1 ?_
    refine c_draw [(0, false), (1, false), (2, false), (3, false), (4, false), (5, false), (6, false), (7, false), (8, true), (9, false)] ?_
    (have fct := SomF.mk (hel); refine go1 ?_)
    refine gd_call1 rfl (fun _ h => h) rfl [] (semR_of_semC (sameEntry_m e hke.1 hke.2)) rfl [] trivial lm rfl ?_
    refine go1 ?_
    exact ⟨k + 1, by show k + 1 ≤ l.length; omega, by show l.length - (k + 1) < l.length - k; omega, (by dsimp only; exact (vm [] []))⟩
  · refine go1 ?_
    refine go0 ?_
    rfl
theorem insE_at (e : Ent) : ∀ (out : List Ent) (k : Nat), k ≤ out.length → (∀ j (hj : j < out.length), j < k → befE out[j] e = true) → (∀ hk : k < out.length, befE out[k] e = false) → insE e out = out.take k ++ e :: out.drop k
  | [], k, _, _, _ => by simp [insE]
  | y :: out, 0, _, _, h2 => by
    have := h2 (by simp)
    unfold insE
    simp at this
    rw [this]; rfl
  | y :: out, k + 1, hk, h1, h2 => by
    have h0 := h1 0 (by simp) (by omega)
    unfold insE
    simp at h0
    rw [h0]
    have := insE_at e out k (by simpa using hk) (fun j hj hjk => by have := h1 (j + 1) (by simpa using hj) (by omega); rwa [List.getElem_cons_succ] at this) (fun hk => by have := h2 (by simpa using hk); rwa [List.getElem_cons_succ] at this)
    rw [this]; rfl
theorem order_take (l : List Ent) {i : Nat} (hi : i < l.length) : orderS (l.take (i + 1)) = insE l[i] (orderS (l.take i)) := by
  unfold orderS
  rw [List.take_succ_eq_append_getElem hi, List.reverse_append]; rfl
theorem order_len (l : List Ent) : (orderS l).length = l.length := (order_perm l).length_eq
theorem bnd_hi {n k : Nat} {κ : IntKind} (h : k ≤ n) : bounds n none (some (.int κ (k : Int))) = some (0, k) := by
  unfold bounds
  dsimp only
  rw [if_pos ⟨by omega, by omega⟩]
  simp
theorem bnd_lo {n k : Nat} {κ : IntKind} (h : k ≤ n) : bounds n (some (.int κ (k : Int))) none = some (k, n) := by
  unfold bounds
  dsimp only
  rw [if_pos ⟨by omega, by omega⟩]
  simp
set_option maxHeartbeats 4000000 in
set_option maxRecDepth 20000 in
theorem rorder_r (l : List Ent) (hl : l.length < 1000000) : SemR Try.prog G 14 [.sl l.length (l.map entM)] [] 0 (.sl l.length ((orderS l).map entM)) [] 0 := by
  refine semR_of_vc seat Try.func14 rfl rfl (Nat.le_of_ble_eq_true rfl) (Nat.le_of_ble_eq_true rfl) (N := 63) rfl rfl ?_
  refine go1 ?_
  refine c_loop Nat (fun i => [(9, .int .i64 i), (8, .int .i64 l.length), (7, .sl l.length (l.map entM)), (3, .ms 0 41 0 i)]) (fun i => [(0, ⟨50, 41, true, 0, (orderS (l.take i)).map entM⟩)]) 1 (fun i => i ≤ l.length) (fun i => l.length - i) 0 (Nat.zero_le _) (vm [] []) ?_
  intro i hi
  try dsimp only
  refine go1 ?_
  ((with_reducible apply c_cond); (case he => exact rfl); (all_goals intro h))
  · have hi' : i < l.length := by have := of_decide_eq_true h; omega
    have hol : (orderS (l.take i)).length = i := by rw [order_len]; simp; omega
    have hnext := order_take l hi'
    generalize orderS (l.take i) = out at *
    generalize he : l[i] = e at *
    have hel : idxL (l.map entM) l.length (i : Int) = some (entM e) := by rw [← he]; exact ents_at hi'
    (have fct := SomF.mk (hel); refine go1 ?_)
    refine c_loop Nat (fun k => [(6, .int .i64 k), (5, .ptr 1 41 0 0 []), (9, .int .i64 i), (8, .int .i64 l.length), (7, .sl l.length (l.map entM)), (3, .ms 0 41 0 i)]) (fun k => [(0, ⟨50, 41, true, 0, out.map entM⟩), (1, ⟨50, 41, false, 0, [entM e]⟩)]) 2 (fun k => k ≤ i ∧ ∀ j (hj : j < out.length), j < k → befE out[j] e = true) (fun k => i - k) 0 ⟨Nat.zero_le _, fun j hj h => absurd h (Nat.not_lt_zero _)⟩ (vm [(0, _), (1, _)] []) ?_
    rintro k ⟨hki, hpre⟩
    try dsimp only
    have step : ∀ hk : k < out.length, befE out[k] e = true → (k + 1 ≤ i ∧ ∀ j (hj : j < out.length), j < k + 1 → befE out[j] e = true) := fun hk hb => ⟨by omega, fun j hj hjk => by
      rcases Nat.lt_or_ge j k with h | h
      · exact hpre j hj h
      · have : j = k := by omega
        subst this; exact hb⟩
    have done : (∀ hk : k < out.length, befE out[k] e = false) → insE e out = out.take k ++ e :: out.drop k := fun h => insE_at e out k (by omega) hpre h
    refine go1 ?_
    refine c_draw [(0, false), (1, false), (2, false), (3, false), (4, false), (5, false), (6, false), (7, false), (8, false), (9, false), (10, false), (11, false), (12, false), (13, false), (14, false), (15, false), (16, false), (17, false), (18, false), (19, false), (20, false), (21, false), (22, false), (23, false), (24, false), (25, false), (26, false), (27, false), (28, false), (29, false), (30, false), (31, false), (32, false), (33, false)] ?_
    refine go1 ?_
    ((with_reducible apply d_guard); (case hs => exact rfl); (case hv => exact rfl); (case hd => exact rfl); (all_goals intro h))
    · have hk : k < out.length := by have := of_decide_eq_true h; omega
      have hrow : nthM (out.map entM) (0 + k) = some (entM out[k]) := entAt (by simp [hk])
      (have fct := SomF.mk (hrow); refine go1 ?_)
      ((with_reducible apply d_guard); (case hs => exact rfl); (case hv => exact rfl); (case hd => exact rfl); (all_goals intro h))
      · have hp1 := of_decide_eq_false h
        (have fct := SomF.mk (hrow); refine go1 ?_)
        ((with_reducible apply d_guard); (case hs => exact rfl); (case hv => exact rfl); (case hd => exact rfl); (all_goals intro h))
        · have hp2 : out[k].prio = e.prio := by simpa using h
          (have fct := SomF.mk (hrow); refine go1 ?_)
          ((with_reducible apply c_cond); (case he => exact rfl); (all_goals intro h))
          · have hp3 := of_decide_eq_true h
            have hb : befE out[k] e = true := by unfold befE; exact decide_eq_true (by omega)
            refine go1 ?_
            exact ⟨k + 1, step hk hb, by show i - (k + 1) < i - k; omega, (by dsimp only; exact (vm [(0, _), (1, _)] []))⟩
          · have hp3 := of_decide_eq_false h
            have hfin := done fun _ => by unfold befE; exact decide_eq_false (by omega)
            refine go1 ?_
            refine c_draw [(0, false), (1, false), (2, false), (3, false), (4, false), (5, false), (6, false), (7, false), (8, false), (9, false), (10, false), (11, false), (12, false)] ?_
            (have fct := SomF.mk (bnd_hi (κ := .i64) hki); refine go1 ?_)
            ((with_reducible apply gd_mem); (case hv => exact rfl); (case hd => exact rfl))
            case he =>
              intro R hR
              refine sms hR ?_
              refine And.intro (by simp; omega) ?_
              refine ⟨(out.take k).map entM, sv (by simp [cutL]), ?_⟩
              refine And.intro ⟨rfl, app_ok (by kernel_rfl) pf⟩ ?_
              refine ⟨(out.take k).map entM, sv (by simp [cutL]), k, sv (by simp <;> omega), ?_⟩
              exact hR
            refine go1 ?_
            ((with_reducible apply gd_mem); (case hv => exact rfl); (case he => (intro R hR; refine sms hR ?_; (refine And.intro (Nat.le_refl _) ?_; refine ⟨_, rfl, ?_⟩; refine And.intro ⟨(by simp <;> omega), app_ok (by kernel_rfl) pf⟩ ?_; refine ⟨(out.take k ++ [e]).map entM, sv (by simp; rfl), k+1, sv pf, ?_⟩); exact hR)); (case hd => exact rfl))
            (have fct := SomF.mk (bnd_lo (κ := .i64) hki); refine go1 ?_)
            ((with_reducible apply gd_mem); (case hv => exact rfl); (case hd => exact rfl))
            case he =>
              intro R hR
              refine sms hR ?_
              refine And.intro (by simp; omega) ?_
              refine ⟨(out.drop k).map entM, sv (by unfold cutL; exact List.take_of_length_le (by simp <;> omega) |>.trans (by simp)), ?_⟩
              refine And.intro ⟨by simp <;> omega, app_ok (by kernel_rfl) pf⟩ ?_
              refine ⟨(insE e out).map entM, sv (by rw [hfin]; simp [cutL]), i + 1, sv (by simp <;> omega), ?_⟩
              exact hR
            refine go1 ?_
            exact ⟨i + 1, by show i + 1 ≤ l.length; omega, by show l.length - (i + 1) < l.length - i; omega, by dsimp only; rw [hnext]; exact (vm [(0, _)] [])⟩
        · have hp2 : out[k].prio ≠ e.prio := by simpa using h
          have hfin := done fun _ => by unfold befE; exact decide_eq_false (by omega)
          refine go1 ?_
          refine c_draw [(0, false), (1, false), (2, false), (3, false), (4, false), (5, false), (6, false), (7, false), (8, false), (9, false), (10, false), (11, false), (12, false)] ?_
          (have fct := SomF.mk (bnd_hi (κ := .i64) hki); refine go1 ?_)
          ((with_reducible apply gd_mem); (case hv => exact rfl); (case hd => exact rfl))
          case he =>
            intro R hR
            refine sms hR ?_
            refine And.intro (by simp; omega) ?_
            refine ⟨(out.take k).map entM, sv (by simp [cutL]), ?_⟩
            refine And.intro ⟨rfl, app_ok (by kernel_rfl) pf⟩ ?_
            refine ⟨(out.take k).map entM, sv (by simp [cutL]), k, sv (by simp <;> omega), ?_⟩
            exact hR
          refine go1 ?_
          ((with_reducible apply gd_mem); (case hv => exact rfl); (case he => (intro R hR; refine sms hR ?_; (refine And.intro (Nat.le_refl _) ?_; refine ⟨_, rfl, ?_⟩; refine And.intro ⟨(by simp <;> omega), app_ok (by kernel_rfl) pf⟩ ?_; refine ⟨(out.take k ++ [e]).map entM, sv (by simp; rfl), k+1, sv pf, ?_⟩); exact hR)); (case hd => exact rfl))
          (have fct := SomF.mk (bnd_lo (κ := .i64) hki); refine go1 ?_)
          ((with_reducible apply gd_mem); (case hv => exact rfl); (case hd => exact rfl))
          case he =>
            intro R hR
            refine sms hR ?_
            refine And.intro (by simp; omega) ?_
            refine ⟨(out.drop k).map entM, sv (by unfold cutL; exact List.take_of_length_le (by simp <;> omega) |>.trans (by simp)), ?_⟩
            refine And.intro ⟨by simp <;> omega, app_ok (by kernel_rfl) pf⟩ ?_
            refine ⟨(insE e out).map entM, sv (by rw [hfin]; simp [cutL]), i + 1, sv (by simp <;> omega), ?_⟩
            exact hR
          refine go1 ?_
          exact ⟨i + 1, by show i + 1 ≤ l.length; omega, by show l.length - (i + 1) < l.length - i; omega, by dsimp only; rw [hnext]; exact (vm [(0, _)] [])⟩
      · have hp1 : out[k].prio < e.prio := by simpa using h
        have hb : befE out[k] e = true := by unfold befE; exact decide_eq_true (by omega)
        refine go1 ?_
        exact ⟨k + 1, step hk hb, by show i - (k + 1) < i - k; omega, (by dsimp only; exact (vm [(0, _), (1, _)] []))⟩
    · have hk : ¬ k < out.length := by have : ¬ ((k : Int) < i) := by simpa using h
                                       omega
      have hfin := done fun h => absurd h hk
      refine go1 ?_
      refine c_draw [(0, false), (1, false), (2, false), (3, false), (4, false), (5, false), (6, false), (7, false), (8, false), (9, false), (10, false), (11, false), (12, false)] ?_
      (have fct := SomF.mk (bnd_hi (κ := .i64) hki); refine go1 ?_)
      ((with_reducible apply gd_mem); (case hv => exact rfl); (case hd => exact rfl))
      case he =>
        intro R hR
        refine sms hR ?_
        refine And.intro (by simp; omega) ?_
        refine ⟨(out.take k).map entM, sv (by simp [cutL]), ?_⟩
        refine And.intro ⟨rfl, app_ok (by kernel_rfl) pf⟩ ?_
        refine ⟨(out.take k).map entM, sv (by simp [cutL]), k, sv (by simp <;> omega), ?_⟩
        exact hR
      refine go1 ?_
      ((with_reducible apply gd_mem); (case hv => exact rfl); (case he => (intro R hR; refine sms hR ?_; (refine And.intro (Nat.le_refl _) ?_; refine ⟨_, rfl, ?_⟩; refine And.intro ⟨(by simp <;> omega), app_ok (by kernel_rfl) pf⟩ ?_; refine ⟨(out.take k ++ [e]).map entM, sv (by simp; rfl), k+1, sv pf, ?_⟩); exact hR)); (case hd => exact rfl))
      (have fct := SomF.mk (bnd_lo (κ := .i64) hki); refine go1 ?_)
      ((with_reducible apply gd_mem); (case hv => exact rfl); (case hd => exact rfl))
      case he =>
        intro R hR
        refine sms hR ?_
        refine And.intro (by simp; omega) ?_
        refine ⟨(out.drop k).map entM, sv (by unfold cutL; exact List.take_of_length_le (by simp <;> omega) |>.trans (by simp)), ?_⟩
        refine And.intro ⟨by simp <;> omega, app_ok (by kernel_rfl) pf⟩ ?_
        refine ⟨(insE e out).map entM, sv (by rw [hfin]; simp [cutL]), i + 1, sv (by simp <;> omega), ?_⟩
        exact hR
      refine go1 ?_
      exact ⟨i + 1, by show i + 1 ≤ l.length; omega, by show l.length - (i + 1) < l.length - i; omega, by dsimp only; rw [hnext]; exact (vm [(0, _)] [])⟩
  · have hi' : i = l.length := by have := of_decide_eq_false h; omega
    subst hi'
    rw [List.take_length]
    refine go1 ?_
    refine ⟨[_], [], [(0, l.length)], rfl, rfl, ?_, rfl, ⟨?_, trivial⟩, ?_⟩
    · exact ⟨by show l.length ≤ ((orderS l).map entM).length; rw [List.length_map, order_len]; exact Nat.le_refl _, trivial⟩
    · exact .inr ⟨rfl, rfl, rfl, Nat.le_of_eq (Nat.zero_add _), by rw [← order_len l]; exact cut_all entM _⟩
    · exact mm
end Go.Proofs.Ytplkofafnbfkmaa
/- The reference's choice of victims. -/
namespace Go.Proofs.Ytplkofafnbfkmaa
open Go.RowKit
variable {G : GS}
set_option maxHeartbeats 1000000 in
set_option maxRecDepth 20000 in
theorem fits_c (a b m : Int) (ha : 0 ≤ a ∧ a < 4611686018427387904) (hb : 0 ≤ b ∧ b < 9223372036854775808) (hm : -9223372036854775808 ≤ m ∧ m < 9223372036854775808) :
    SemC Try.prog G 29 [.int .i64 a, .int .i64 b, .int .i64 m] (.bool (decide (a ≤ m ∧ b ≤ m - a))) := by
  refine semC_of_vc seat Try.func29 rfl rfl (Nat.le_of_ble_eq_true rfl) (Nat.le_of_ble_eq_true rfl) (N := 17) rfl ?_
  refine go1 ?_
  ((with_reducible apply n_guard); (case hs => exact rfl); (case hv => exact rfl); (case hd => exact rfl); (all_goals intro h))
  · have h1 : a ≤ m := by simpa using h
    refine go1 ?_
    refine go0 ?_
    exact congrArg MV.bool (decide_eq_decide.2 (by omega))
  · have h1 : ¬ a ≤ m := by simpa using h
    refine go1 ?_
    refine go0 ?_
    exact congrArg MV.bool (decide_eq_false (by omega)).symm
theorem room_eq {n k B b : Nat} {s t m : Int} {c : Int} (hc : c = (n : Int) - k) (hb : b ≤ B) : roomS c ((B : Int) - b) s t m = decide ((n : Int) + 1 - k ≤ t ∧ ((B : Int) - b ≤ m ∧ max s 0 ≤ m - ((B : Int) - b))) := by
  subst hc
  exact decide_eq_decide.2 (by omega)
theorem max_i (s : Int) : (if (0 : Int) > s then 0 else s) = max s 0 := by
  by_cases hs : (0 : Int) > s
  · rw [if_pos hs]; omega
  · rw [if_neg hs]; omega
set_option maxHeartbeats 4000000 in
set_option maxRecDepth 20000 in
theorem rselect_r (l : List Ent) (hl : l.length < 1000000) (hok : ∀ e ∈ l, e.raw.length ≤ 1000000) (p s t m : Int) (hs : -9223372036854775808 ≤ s ∧ s < 9223372036854775808) (hm : -9223372036854775808 ≤ m ∧ m < 9223372036854775808) :
    SemR Try.prog G 17 [.sl l.length (l.map entM), .int .u64 p, .int .i64 s, .int .i64 t, .int .i64 m] [] 0 (selM (selS p s t m l)) [] 0 := by
  have hOp := order_perm l
  have hOl : (orderS l).length = l.length := hOp.length_eq
  have hOb : bytesS (orderS l) = bytesS l := bytes_perm hOp
  have hord := rorder_r (G := G) l hl
  have hB := bytesS_le l 1000000 hok l.length
  rw [List.take_length] at hB
  unfold selM
  refine semR_of_vc seat Try.func17 rfl rfl (Nat.le_of_ble_eq_true rfl) (Nat.le_of_ble_eq_true rfl) (N := 68) rfl rfl ?_
  (have fct := EqF.mk (max_i s); refine go1 ?_)
  refine g_call2 rfl (fun _ h => h) rfl (semR_of_semC (bytes_m l hl hok)) rfl lm ?_
  refine go1 ?_
  refine g_call2 rfl (fun _ h => h) rfl (hord) rfl lm ?_
  refine go1 ?_
  refine c_loop Nat (fun k => [(27, .int .i64 k), (26, .int .i64 l.length), (25, .sl l.length ((orderS l).map entM)), (14, .ms 0 32 0 k), (13, .int .i64 ((bytesS l : Int) - bytesS ((orderS l).take k))), (12, .int .i64 ((l.length : Int) + 1 - k)), (4, .int .i64 m), (3, .int .i64 t), (2, .int .i64 (max s 0)), (1, .int .u64 p)]) (fun k => [(0, ⟨47, 32, true, 0, ((orderS l).take k).map fun e => keyM e.key⟩)]) 1 (fun k => k ≤ l.length ∧ SelI p s t m (orderS l) l.length (bytesS l) k) (fun k => l.length - k) 0 ⟨Nat.zero_le _, ?_⟩ ?_ ?_
  · refine ⟨(selG p s t m (orderS l) l.length (bytesS l)).1, (selG p s t m (orderS l) l.length (bytesS l)).2.1, (selG p s t m (orderS l) l.length (bytesS l)).2.2, ?_, rfl⟩
    simp [bytesS]
  · try dsimp only
    rw [show ((bytesS l : Int) - bytesS ((orderS l).take 0)) = bytesS l by simp [bytesS]]
    exact (vm [] [])
  rintro k ⟨hk1, hI⟩
  try dsimp only
  have hbk : bytesS ((orderS l).take k) ≤ bytesS l := by
    have := bytesS_split (orderS l) k
    omega
  have hre := room_eq (s := s) (t := t) (m := m) (n := l.length) (k := k) rfl hbk
  refine go1 ?_
  ((with_reducible apply c_cond); (case he => exact rfl); (all_goals intro h))
  · have hk' : k < l.length := by have := of_decide_eq_true h; omega
    have hkO : k < (orderS l).length := by omega
    have hs2 := bytesS_succ (orderS l) hkO
    have hbk2 : bytesS ((orderS l).take (k + 1)) ≤ bytesS l := by
      have := bytesS_split (orderS l) (k + 1)
      omega
    (have fct := SomF.mk (ents_at' hOl hk'); refine go1 ?_)
    ((with_reducible apply n_guard); (case hs => exact rfl); (case hv => exact rfl); (case hd => exact rfl); (all_goals intro h))
    · have h1 := of_decide_eq_true h
      refine go1 ?_
      refine g_call2 rfl (fun _ h => h) rfl (semR_of_semC (fits_c ((bytesS l : Int) - bytesS ((orderS l).take k)) (max s 0) m (by omega) (by omega) hm)) rfl lm ?_
      refine go1 ?_
      ((with_reducible apply c_cond); (case he => exact rfl); (all_goals intro h))
      · have h2 := of_decide_eq_true h
        have hroom := hre.trans (decide_eq_true ⟨h1, h2⟩)
        have hsel := selI_end hI (.inr ⟨hkO, by rw [hroom]; rfl⟩)
        rw [show selS p s t m l = (((orderS l).take k).map (·.key), true) by unfold selS; rw [hsel]; simp only [hroom]]
        refine go1 ?_
        refine ⟨[_, _], [], [(0, k)], rfl, rfl, ?_, rfl, ⟨?_, ?_, trivial⟩, ?_⟩
        · exact ⟨by show k ≤ (((orderS l).take k).map fun e => keyM e.key).length; simp; omega, trivial⟩
        · exact .inr ⟨rfl, rfl, by simp; omega, by simp; omega, by rw [List.map_map, List.length_map]; exact cut_all (fun e : Ent => keyM e.key) _⟩
        · exact rv
        · exact mm
      · have h2 := of_decide_eq_false h
        have hroom := hre.trans (decide_eq_false fun h => h2 h.2)
        refine go1 ?_
        ((with_reducible apply c_cond); (case he => exact rfl); (all_goals intro h))
        · have hp := of_decide_eq_true h
          have hsel := selI_end hI (.inr ⟨hkO, by rw [hroom]; simpa using hp⟩)
          rw [show selS p s t m l = ([], false) by unfold selS; rw [hsel]; simp only [hroom]]
          refine go1 ?_
          refine ⟨[_, _], [], [], rfl, rfl, trivial, rfl, ⟨?_, ?_, trivial⟩, ?_⟩
          · exact .inr ⟨rfl, rfl⟩
          · exact rv
          · exact mm
        · have hp := of_decide_eq_false h
          have hstep := selI_step hkO hI (by rw [hroom]; simpa using hp)
          refine go1 ?_
          ((with_reducible apply g_mem); (case hq => exact rfl); (case hv => exact rfl); (case he => (intro R hR; refine sms hR ?_; (refine And.intro (Nat.le_refl _) ?_; refine ⟨_, rfl, ?_⟩; refine And.intro ⟨(by simp; omega), app_ok (by kernel_rfl) pf⟩ ?_; refine ⟨((orderS l).take (k + 1)).map fun e => keyM e.key, sv (by rw [List.take_succ_eq_append_getElem hkO, List.map_append]; rfl), k + 1, sv pf, ?_⟩); exact hR)); (case hd => exact rfl))
          refine go1 ?_
          exact ⟨k + 1, ⟨by omega, hstep⟩, by show l.length - (k + 1) < l.length - k; omega, (by dsimp only; exact (vm [(0, _)] []))⟩
    · have h1 : ¬ ((l.length : Int) + 1 - k ≤ t) := by simpa using h
      have hroom := hre.trans (decide_eq_false fun h => h1 h.1)
      refine go1 ?_
      ((with_reducible apply c_cond); (case he => exact rfl); (all_goals intro h))
      · have hp := of_decide_eq_true h
        have hsel := selI_end hI (.inr ⟨hkO, by rw [hroom]; simpa using hp⟩)
        rw [show selS p s t m l = ([], false) by unfold selS; rw [hsel]; simp only [hroom]]
        refine go1 ?_
        refine ⟨[_, _], [], [], rfl, rfl, trivial, rfl, ⟨?_, ?_, trivial⟩, ?_⟩
        · exact .inr ⟨rfl, rfl⟩
        · exact rv
        · exact mm
      · have hp := of_decide_eq_false h
        have hstep := selI_step hkO hI (by rw [hroom]; simpa using hp)
        refine go1 ?_
        ((with_reducible apply g_mem); (case hq => exact rfl); (case hv => exact rfl); (case he => (intro R hR; refine sms hR ?_; (refine And.intro (Nat.le_refl _) ?_; refine ⟨_, rfl, ?_⟩; refine And.intro ⟨(by simp; omega), app_ok (by kernel_rfl) pf⟩ ?_; refine ⟨((orderS l).take (k + 1)).map fun e => keyM e.key, sv (by rw [List.take_succ_eq_append_getElem hkO, List.map_append]; rfl), k + 1, sv pf, ?_⟩); exact hR)); (case hd => exact rfl))
        refine go1 ?_
        exact ⟨k + 1, ⟨by omega, hstep⟩, by show l.length - (k + 1) < l.length - k; omega, (by dsimp only; exact (vm [(0, _)] []))⟩
  · have hk' : k = l.length := by have := of_decide_eq_false h; omega
    have hsel := selI_end hI (.inl (by omega))
    refine go1 ?_
    ((with_reducible apply n_guard); (case hs => exact rfl); (case hv => exact rfl); (case hd => exact rfl); (all_goals intro h))
    · have h1 := of_decide_eq_true h
      refine go1 ?_
      refine g_call2 rfl (fun _ h => h) rfl (semR_of_semC (fits_c ((bytesS l : Int) - bytesS ((orderS l).take k)) (max s 0) m (by omega) (by omega) hm)) rfl lm ?_
      refine go1 ?_
      ((with_reducible apply c_cond); (case he => exact rfl); (all_goals intro h))
      · have h2 := of_decide_eq_true h
        have hroom := hre.trans (decide_eq_true ⟨h1, h2⟩)
        rw [show selS p s t m l = (((orderS l).take k).map (·.key), true) by unfold selS; rw [hsel]; simp only [hroom]]
        refine go1 ?_
        refine ⟨[_, _], [], [(0, k)], rfl, rfl, ?_, rfl, ⟨?_, ?_, trivial⟩, ?_⟩
        · exact ⟨by show k ≤ (((orderS l).take k).map fun e => keyM e.key).length; simp; omega, trivial⟩
        · exact .inr ⟨rfl, rfl, by simp; omega, by simp; omega, by rw [List.map_map, List.length_map]; exact cut_all (fun e : Ent => keyM e.key) _⟩
        · exact rv
        · exact mm
      · have h2 := of_decide_eq_false h
        have hroom := hre.trans (decide_eq_false fun h => h2 h.2)
        rw [show selS p s t m l = ([], false) by unfold selS; rw [hsel]; simp only [hroom]]
        refine go1 ?_
        refine ⟨[_, _], [], [], rfl, rfl, trivial, rfl, ⟨?_, ?_, trivial⟩, ?_⟩
        · exact .inr ⟨rfl, rfl⟩
        · exact rv
        · exact mm
    · have h1 : ¬ ((l.length : Int) + 1 - k ≤ t) := by simpa using h
      have hroom := hre.trans (decide_eq_false fun h => h1 h.1)
      rw [show selS p s t m l = ([], false) by unfold selS; rw [hsel]; simp only [hroom]]
      refine go1 ?_
      refine ⟨[_, _], [], [], rfl, rfl, trivial, rfl, ⟨?_, ?_, trivial⟩, ?_⟩
      · exact .inr ⟨rfl, rfl⟩
      · exact rv
      · exact mm
end Go.Proofs.Ytplkofafnbfkmaa
/- The program's struct types as Lean structures, and how they read. Printed by gendata.py. -/
namespace Go.Proofs.Ytplkofafnbfkmaa
open Go.RowKit

def Rp.key : Rp (List Int) := Rp.arr .u8 32
def Rp.bytes : Rp (List Int) := Rp.slice (Rp.int .u8)
def Rp.ints : Rp (List Int) := Rp.slice (Rp.int .i64)
theorem take1 {cs : List Value} {n : Nat} {v : Value} (h : (cs.drop n).take 1 = [v]) : cs[n]? = some v := by
  have h0 : ((cs.drop n).take 1)[0]? = some v := by rw [h]; rfl
  simpa [List.getElem?_take, List.getElem?_drop] using h0
theorem Rp.pair_iff {α β : Type} {r : Rp α} {s : Rp β} {w : World} {S : Fp} {cs : List Value} {x : α × β} : (r.pair s).rel w S cs x ↔ r.rel w S (cs.take r.size) x.1 ∧ s.rel w S (cs.drop r.size) x.2 := by
  constructor
  · rintro ⟨c, d, rfl, h, k⟩
    have hl := r.len h
    rw [← hl, List.take_left, List.drop_left]
    exact ⟨h, k⟩
  · rintro ⟨h, k⟩
    exact ⟨_, _, (List.take_append_drop _ _).symm, h, k⟩
section
variable {w : World} {S : Fp} {cs : List Value}
theorem cellI {k : IntKind} {n : Nat} {x : Int} (h : (Rp.int k).rel w S ((cs.drop n).take 1) x) : cs[n]? = some (.int k x) ∧ (Lit.int k x).wf = true := ⟨take1 h.1, h.2⟩
theorem cellB {n : Nat} {x : Bool} (h : Rp.bool.rel w S ((cs.drop n).take 1) x) : cs[n]? = some (.bool x) := take1 h
theorem cellS {n : Nat} {x : ByteArray} (h : Rp.str.rel w S ((cs.drop n).take 1) x) : cs[n]? = some (.string x) ∧ x.size ≤ 140737488355328 := ⟨take1 h.1, h.2⟩
theorem cellL {α : Type} {r : Rp α} {n : Nat} {x : List α} (h : (Rp.slice r).rel w S ((cs.drop n).take 1) x) : ∃ A c, cs[n]? = some (.slice A x.length c) ∧ Sl r w S A x := by
  obtain ⟨A, c, h, k⟩ := h
  exact ⟨A, c, take1 h, k⟩
end

structure MField where
  number : Int
  kind : Int
  value : Int
  bytes : List Int
  deriving DecidableEq, Inhabited
def Rp.field : Rp MField := Rp.via (fun x => (x.number, x.kind, x.value, x.bytes)) (Rp.pair (Rp.int .i64) (Rp.pair (Rp.int .i64) (Rp.pair (Rp.int .u64) Rp.bytes)))
theorem Rp.field_size : Rp.field.size = 4 := rfl
theorem Rp.field_fields {w : World} {S : Fp} {cs : List Value} {x : MField} (h : Rp.field.rel w S cs x) :
    (Rp.int .i64).rel w S ((cs.drop 0).take 1) x.number ∧
    (Rp.int .i64).rel w S ((cs.drop 1).take 1) x.kind ∧
    (Rp.int .u64).rel w S ((cs.drop 2).take 1) x.value ∧
    Rp.bytes.rel w S ((cs.drop 3).take 1) x.bytes := by
  have hl : cs.length = 4 := Rp.field.len h
  have h : (Rp.pair (Rp.int .i64) (Rp.pair (Rp.int .i64) (Rp.pair (Rp.int .u64) Rp.bytes))).rel w S cs (x.number, x.kind, x.value, x.bytes) := h
  simp only [Rp.pair_iff] at h
  obtain ⟨h0, h1, h2, h3⟩ := h
  refine ⟨?_, ?_, ?_, ?_⟩
  · refine cast (congrArg (fun l => (Rp.int .i64).rel w S l x.number) ?_) h0
    first | rfl | (simp only [List.drop_drop]; rfl)
  · refine cast (congrArg (fun l => (Rp.int .i64).rel w S l x.kind) ?_) h1
    first | rfl | (simp only [List.drop_drop]; rfl)
  · refine cast (congrArg (fun l => (Rp.int .u64).rel w S l x.value) ?_) h2
    first | rfl | (simp only [List.drop_drop]; rfl)
  · refine cast (congrArg (fun l => Rp.bytes.rel w S l x.bytes) ?_) h3
    have e : cs.drop 3 = (cs.drop 3).take 1 := (List.take_of_length_le (by simp [hl])).symm
    refine Eq.trans ?_ e
    first | rfl | (simp only [List.drop_drop]; rfl)
theorem Rp.field_mk {w : World} {S : Fp} {cs : List Value} {x : MField} (hl : cs.length = 4)
    (h0 : (Rp.int .i64).rel w S ((cs.drop 0).take 1) x.number)
    (h1 : (Rp.int .i64).rel w S ((cs.drop 1).take 1) x.kind)
    (h2 : (Rp.int .u64).rel w S ((cs.drop 2).take 1) x.value)
    (h3 : Rp.bytes.rel w S ((cs.drop 3).take 1) x.bytes)
    : Rp.field.rel w S cs x := by
  show (Rp.pair (Rp.int .i64) (Rp.pair (Rp.int .i64) (Rp.pair (Rp.int .u64) Rp.bytes))).rel w S cs (x.number, x.kind, x.value, x.bytes)
  simp only [Rp.pair_iff]
  refine ⟨?_, ?_, ?_, ?_⟩
  · refine cast (congrArg (fun l => (Rp.int .i64).rel w S l x.number) ?_) h0
    first | rfl | (simp only [List.drop_drop]; rfl)
  · refine cast (congrArg (fun l => (Rp.int .i64).rel w S l x.kind) ?_) h1
    first | rfl | (simp only [List.drop_drop]; rfl)
  · refine cast (congrArg (fun l => (Rp.int .u64).rel w S l x.value) ?_) h2
    first | rfl | (simp only [List.drop_drop]; rfl)
  · refine cast (congrArg (fun l => Rp.bytes.rel w S l x.bytes) ?_) h3
    have e : cs.drop 3 = (cs.drop 3).take 1 := (List.take_of_length_le (by simp [hl])).symm
    refine e.symm.trans ?_
    first | rfl | (simp only [List.drop_drop]; rfl)

structure MAccount where
  name : ByteArray
  balance : Int
  sequence : Int
  deriving DecidableEq, Inhabited
def Rp.account : Rp MAccount := Rp.via (fun x => (x.name, x.balance, x.sequence)) (Rp.pair Rp.str (Rp.pair (Rp.int .u64) (Rp.int .u64)))
theorem Rp.account_size : Rp.account.size = 3 := rfl
theorem Rp.account_fields {w : World} {S : Fp} {cs : List Value} {x : MAccount} (h : Rp.account.rel w S cs x) :
    Rp.str.rel w S ((cs.drop 0).take 1) x.name ∧
    (Rp.int .u64).rel w S ((cs.drop 1).take 1) x.balance ∧
    (Rp.int .u64).rel w S ((cs.drop 2).take 1) x.sequence := by
  have hl : cs.length = 3 := Rp.account.len h
  have h : (Rp.pair Rp.str (Rp.pair (Rp.int .u64) (Rp.int .u64))).rel w S cs (x.name, x.balance, x.sequence) := h
  simp only [Rp.pair_iff] at h
  obtain ⟨h0, h1, h2⟩ := h
  refine ⟨?_, ?_, ?_⟩
  · refine cast (congrArg (fun l => Rp.str.rel w S l x.name) ?_) h0
    first | rfl | (simp only [List.drop_drop]; rfl)
  · refine cast (congrArg (fun l => (Rp.int .u64).rel w S l x.balance) ?_) h1
    first | rfl | (simp only [List.drop_drop]; rfl)
  · refine cast (congrArg (fun l => (Rp.int .u64).rel w S l x.sequence) ?_) h2
    have e : cs.drop 2 = (cs.drop 2).take 1 := (List.take_of_length_le (by simp [hl])).symm
    refine Eq.trans ?_ e
    first | rfl | (simp only [List.drop_drop]; rfl)
theorem Rp.account_mk {w : World} {S : Fp} {cs : List Value} {x : MAccount} (hl : cs.length = 3)
    (h0 : Rp.str.rel w S ((cs.drop 0).take 1) x.name)
    (h1 : (Rp.int .u64).rel w S ((cs.drop 1).take 1) x.balance)
    (h2 : (Rp.int .u64).rel w S ((cs.drop 2).take 1) x.sequence)
    : Rp.account.rel w S cs x := by
  show (Rp.pair Rp.str (Rp.pair (Rp.int .u64) (Rp.int .u64))).rel w S cs (x.name, x.balance, x.sequence)
  simp only [Rp.pair_iff]
  refine ⟨?_, ?_, ?_⟩
  · refine cast (congrArg (fun l => Rp.str.rel w S l x.name) ?_) h0
    first | rfl | (simp only [List.drop_drop]; rfl)
  · refine cast (congrArg (fun l => (Rp.int .u64).rel w S l x.balance) ?_) h1
    first | rfl | (simp only [List.drop_drop]; rfl)
  · refine cast (congrArg (fun l => (Rp.int .u64).rel w S l x.sequence) ?_) h2
    have e : cs.drop 2 = (cs.drop 2).take 1 := (List.take_of_length_le (by simp [hl])).symm
    refine e.symm.trans ?_
    first | rfl | (simp only [List.drop_drop]; rfl)

structure MLedger where
  accounts : List MAccount
  collected : Int
  deriving DecidableEq, Inhabited
def Rp.ledger : Rp MLedger := Rp.via (fun x => (x.accounts, x.collected)) (Rp.pair (Rp.slice Rp.account) (Rp.int .u64))
theorem Rp.ledger_size : Rp.ledger.size = 2 := rfl
theorem Rp.ledger_fields {w : World} {S : Fp} {cs : List Value} {x : MLedger} (h : Rp.ledger.rel w S cs x) :
    (Rp.slice Rp.account).rel w S ((cs.drop 0).take 1) x.accounts ∧
    (Rp.int .u64).rel w S ((cs.drop 1).take 1) x.collected := by
  have hl : cs.length = 2 := Rp.ledger.len h
  have h : (Rp.pair (Rp.slice Rp.account) (Rp.int .u64)).rel w S cs (x.accounts, x.collected) := h
  simp only [Rp.pair_iff] at h
  obtain ⟨h0, h1⟩ := h
  refine ⟨?_, ?_⟩
  · refine cast (congrArg (fun l => (Rp.slice Rp.account).rel w S l x.accounts) ?_) h0
    first | rfl | (simp only [List.drop_drop]; rfl)
  · refine cast (congrArg (fun l => (Rp.int .u64).rel w S l x.collected) ?_) h1
    have e : cs.drop 1 = (cs.drop 1).take 1 := (List.take_of_length_le (by simp [hl])).symm
    refine Eq.trans ?_ e
    first | rfl | (simp only [List.drop_drop]; rfl)
theorem Rp.ledger_mk {w : World} {S : Fp} {cs : List Value} {x : MLedger} (hl : cs.length = 2)
    (h0 : (Rp.slice Rp.account).rel w S ((cs.drop 0).take 1) x.accounts)
    (h1 : (Rp.int .u64).rel w S ((cs.drop 1).take 1) x.collected)
    : Rp.ledger.rel w S cs x := by
  show (Rp.pair (Rp.slice Rp.account) (Rp.int .u64)).rel w S cs (x.accounts, x.collected)
  simp only [Rp.pair_iff]
  refine ⟨?_, ?_⟩
  · refine cast (congrArg (fun l => (Rp.slice Rp.account).rel w S l x.accounts) ?_) h0
    first | rfl | (simp only [List.drop_drop]; rfl)
  · refine cast (congrArg (fun l => (Rp.int .u64).rel w S l x.collected) ?_) h1
    have e : cs.drop 1 = (cs.drop 1).take 1 := (List.take_of_length_le (by simp [hl])).symm
    refine e.symm.trans ?_
    first | rfl | (simp only [List.drop_drop]; rfl)

structure MTransfer where
  to_ : ByteArray
  amount : Int
  deriving DecidableEq, Inhabited
def Rp.transfer : Rp MTransfer := Rp.via (fun x => (x.to_, x.amount)) (Rp.pair Rp.str (Rp.int .u64))
theorem Rp.transfer_size : Rp.transfer.size = 2 := rfl
theorem Rp.transfer_fields {w : World} {S : Fp} {cs : List Value} {x : MTransfer} (h : Rp.transfer.rel w S cs x) :
    Rp.str.rel w S ((cs.drop 0).take 1) x.to_ ∧
    (Rp.int .u64).rel w S ((cs.drop 1).take 1) x.amount := by
  have hl : cs.length = 2 := Rp.transfer.len h
  have h : (Rp.pair Rp.str (Rp.int .u64)).rel w S cs (x.to_, x.amount) := h
  simp only [Rp.pair_iff] at h
  obtain ⟨h0, h1⟩ := h
  refine ⟨?_, ?_⟩
  · refine cast (congrArg (fun l => Rp.str.rel w S l x.to_) ?_) h0
    first | rfl | (simp only [List.drop_drop]; rfl)
  · refine cast (congrArg (fun l => (Rp.int .u64).rel w S l x.amount) ?_) h1
    have e : cs.drop 1 = (cs.drop 1).take 1 := (List.take_of_length_le (by simp [hl])).symm
    refine Eq.trans ?_ e
    first | rfl | (simp only [List.drop_drop]; rfl)
theorem Rp.transfer_mk {w : World} {S : Fp} {cs : List Value} {x : MTransfer} (hl : cs.length = 2)
    (h0 : Rp.str.rel w S ((cs.drop 0).take 1) x.to_)
    (h1 : (Rp.int .u64).rel w S ((cs.drop 1).take 1) x.amount)
    : Rp.transfer.rel w S cs x := by
  show (Rp.pair Rp.str (Rp.int .u64)).rel w S cs (x.to_, x.amount)
  simp only [Rp.pair_iff]
  refine ⟨?_, ?_⟩
  · refine cast (congrArg (fun l => Rp.str.rel w S l x.to_) ?_) h0
    first | rfl | (simp only [List.drop_drop]; rfl)
  · refine cast (congrArg (fun l => (Rp.int .u64).rel w S l x.amount) ?_) h1
    have e : cs.drop 1 = (cs.drop 1).take 1 := (List.take_of_length_le (by simp [hl])).symm
    refine e.symm.trans ?_
    first | rfl | (simp only [List.drop_drop]; rfl)

structure MTx where
  sender : ByteArray
  sequence : Int
  gas : Int
  fee : Int
  memo : ByteArray
  transfers : List MTransfer
  deriving DecidableEq, Inhabited
def Rp.tx : Rp MTx := Rp.via (fun x => (x.sender, x.sequence, x.gas, x.fee, x.memo, x.transfers)) (Rp.pair Rp.str (Rp.pair (Rp.int .u64) (Rp.pair (Rp.int .u64) (Rp.pair (Rp.int .u64) (Rp.pair Rp.str (Rp.slice Rp.transfer))))))
theorem Rp.tx_size : Rp.tx.size = 6 := rfl
theorem Rp.tx_fields {w : World} {S : Fp} {cs : List Value} {x : MTx} (h : Rp.tx.rel w S cs x) :
    Rp.str.rel w S ((cs.drop 0).take 1) x.sender ∧
    (Rp.int .u64).rel w S ((cs.drop 1).take 1) x.sequence ∧
    (Rp.int .u64).rel w S ((cs.drop 2).take 1) x.gas ∧
    (Rp.int .u64).rel w S ((cs.drop 3).take 1) x.fee ∧
    Rp.str.rel w S ((cs.drop 4).take 1) x.memo ∧
    (Rp.slice Rp.transfer).rel w S ((cs.drop 5).take 1) x.transfers := by
  have hl : cs.length = 6 := Rp.tx.len h
  have h : (Rp.pair Rp.str (Rp.pair (Rp.int .u64) (Rp.pair (Rp.int .u64) (Rp.pair (Rp.int .u64) (Rp.pair Rp.str (Rp.slice Rp.transfer)))))).rel w S cs (x.sender, x.sequence, x.gas, x.fee, x.memo, x.transfers) := h
  simp only [Rp.pair_iff] at h
  obtain ⟨h0, h1, h2, h3, h4, h5⟩ := h
  refine ⟨?_, ?_, ?_, ?_, ?_, ?_⟩
  · refine cast (congrArg (fun l => Rp.str.rel w S l x.sender) ?_) h0
    first | rfl | (simp only [List.drop_drop]; rfl)
  · refine cast (congrArg (fun l => (Rp.int .u64).rel w S l x.sequence) ?_) h1
    first | rfl | (simp only [List.drop_drop]; rfl)
  · refine cast (congrArg (fun l => (Rp.int .u64).rel w S l x.gas) ?_) h2
    first | rfl | (simp only [List.drop_drop]; rfl)
  · refine cast (congrArg (fun l => (Rp.int .u64).rel w S l x.fee) ?_) h3
    first | rfl | (simp only [List.drop_drop]; rfl)
  · refine cast (congrArg (fun l => Rp.str.rel w S l x.memo) ?_) h4
    first | rfl | (simp only [List.drop_drop]; rfl)
  · refine cast (congrArg (fun l => (Rp.slice Rp.transfer).rel w S l x.transfers) ?_) h5
    have e : cs.drop 5 = (cs.drop 5).take 1 := (List.take_of_length_le (by simp [hl])).symm
    refine Eq.trans ?_ e
    first | rfl | (simp only [List.drop_drop]; rfl)
theorem Rp.tx_mk {w : World} {S : Fp} {cs : List Value} {x : MTx} (hl : cs.length = 6)
    (h0 : Rp.str.rel w S ((cs.drop 0).take 1) x.sender)
    (h1 : (Rp.int .u64).rel w S ((cs.drop 1).take 1) x.sequence)
    (h2 : (Rp.int .u64).rel w S ((cs.drop 2).take 1) x.gas)
    (h3 : (Rp.int .u64).rel w S ((cs.drop 3).take 1) x.fee)
    (h4 : Rp.str.rel w S ((cs.drop 4).take 1) x.memo)
    (h5 : (Rp.slice Rp.transfer).rel w S ((cs.drop 5).take 1) x.transfers)
    : Rp.tx.rel w S cs x := by
  show (Rp.pair Rp.str (Rp.pair (Rp.int .u64) (Rp.pair (Rp.int .u64) (Rp.pair (Rp.int .u64) (Rp.pair Rp.str (Rp.slice Rp.transfer)))))).rel w S cs (x.sender, x.sequence, x.gas, x.fee, x.memo, x.transfers)
  simp only [Rp.pair_iff]
  refine ⟨?_, ?_, ?_, ?_, ?_, ?_⟩
  · refine cast (congrArg (fun l => Rp.str.rel w S l x.sender) ?_) h0
    first | rfl | (simp only [List.drop_drop]; rfl)
  · refine cast (congrArg (fun l => (Rp.int .u64).rel w S l x.sequence) ?_) h1
    first | rfl | (simp only [List.drop_drop]; rfl)
  · refine cast (congrArg (fun l => (Rp.int .u64).rel w S l x.gas) ?_) h2
    first | rfl | (simp only [List.drop_drop]; rfl)
  · refine cast (congrArg (fun l => (Rp.int .u64).rel w S l x.fee) ?_) h3
    first | rfl | (simp only [List.drop_drop]; rfl)
  · refine cast (congrArg (fun l => Rp.str.rel w S l x.memo) ?_) h4
    first | rfl | (simp only [List.drop_drop]; rfl)
  · refine cast (congrArg (fun l => (Rp.slice Rp.transfer).rel w S l x.transfers) ?_) h5
    have e : cs.drop 5 = (cs.drop 5).take 1 := (List.take_of_length_le (by simp [hl])).symm
    refine e.symm.trans ?_
    first | rfl | (simp only [List.drop_drop]; rfl)

structure MResult where
  code : Int
  sender : ByteArray
  sequence : Int
  gas : Int
  priority : Int
  deriving DecidableEq, Inhabited
def Rp.result : Rp MResult := Rp.via (fun x => (x.code, x.sender, x.sequence, x.gas, x.priority)) (Rp.pair (Rp.int .i64) (Rp.pair Rp.str (Rp.pair (Rp.int .u64) (Rp.pair (Rp.int .u64) (Rp.int .u64)))))
theorem Rp.result_size : Rp.result.size = 5 := rfl
theorem Rp.result_fields {w : World} {S : Fp} {cs : List Value} {x : MResult} (h : Rp.result.rel w S cs x) :
    (Rp.int .i64).rel w S ((cs.drop 0).take 1) x.code ∧
    Rp.str.rel w S ((cs.drop 1).take 1) x.sender ∧
    (Rp.int .u64).rel w S ((cs.drop 2).take 1) x.sequence ∧
    (Rp.int .u64).rel w S ((cs.drop 3).take 1) x.gas ∧
    (Rp.int .u64).rel w S ((cs.drop 4).take 1) x.priority := by
  have hl : cs.length = 5 := Rp.result.len h
  have h : (Rp.pair (Rp.int .i64) (Rp.pair Rp.str (Rp.pair (Rp.int .u64) (Rp.pair (Rp.int .u64) (Rp.int .u64))))).rel w S cs (x.code, x.sender, x.sequence, x.gas, x.priority) := h
  simp only [Rp.pair_iff] at h
  obtain ⟨h0, h1, h2, h3, h4⟩ := h
  refine ⟨?_, ?_, ?_, ?_, ?_⟩
  · refine cast (congrArg (fun l => (Rp.int .i64).rel w S l x.code) ?_) h0
    first | rfl | (simp only [List.drop_drop]; rfl)
  · refine cast (congrArg (fun l => Rp.str.rel w S l x.sender) ?_) h1
    first | rfl | (simp only [List.drop_drop]; rfl)
  · refine cast (congrArg (fun l => (Rp.int .u64).rel w S l x.sequence) ?_) h2
    first | rfl | (simp only [List.drop_drop]; rfl)
  · refine cast (congrArg (fun l => (Rp.int .u64).rel w S l x.gas) ?_) h3
    first | rfl | (simp only [List.drop_drop]; rfl)
  · refine cast (congrArg (fun l => (Rp.int .u64).rel w S l x.priority) ?_) h4
    have e : cs.drop 4 = (cs.drop 4).take 1 := (List.take_of_length_le (by simp [hl])).symm
    refine Eq.trans ?_ e
    first | rfl | (simp only [List.drop_drop]; rfl)
theorem Rp.result_mk {w : World} {S : Fp} {cs : List Value} {x : MResult} (hl : cs.length = 5)
    (h0 : (Rp.int .i64).rel w S ((cs.drop 0).take 1) x.code)
    (h1 : Rp.str.rel w S ((cs.drop 1).take 1) x.sender)
    (h2 : (Rp.int .u64).rel w S ((cs.drop 2).take 1) x.sequence)
    (h3 : (Rp.int .u64).rel w S ((cs.drop 3).take 1) x.gas)
    (h4 : (Rp.int .u64).rel w S ((cs.drop 4).take 1) x.priority)
    : Rp.result.rel w S cs x := by
  show (Rp.pair (Rp.int .i64) (Rp.pair Rp.str (Rp.pair (Rp.int .u64) (Rp.pair (Rp.int .u64) (Rp.int .u64))))).rel w S cs (x.code, x.sender, x.sequence, x.gas, x.priority)
  simp only [Rp.pair_iff]
  refine ⟨?_, ?_, ?_, ?_, ?_⟩
  · refine cast (congrArg (fun l => (Rp.int .i64).rel w S l x.code) ?_) h0
    first | rfl | (simp only [List.drop_drop]; rfl)
  · refine cast (congrArg (fun l => Rp.str.rel w S l x.sender) ?_) h1
    first | rfl | (simp only [List.drop_drop]; rfl)
  · refine cast (congrArg (fun l => (Rp.int .u64).rel w S l x.sequence) ?_) h2
    first | rfl | (simp only [List.drop_drop]; rfl)
  · refine cast (congrArg (fun l => (Rp.int .u64).rel w S l x.gas) ?_) h3
    first | rfl | (simp only [List.drop_drop]; rfl)
  · refine cast (congrArg (fun l => (Rp.int .u64).rel w S l x.priority) ?_) h4
    have e : cs.drop 4 = (cs.drop 4).take 1 := (List.take_of_length_le (by simp [hl])).symm
    refine e.symm.trans ?_
    first | rfl | (simp only [List.drop_drop]; rfl)

structure MApp where
  committed : MLedger
  check : MLedger
  next : MLedger
  open_ : Bool
  price : Int
  deriving DecidableEq, Inhabited
def Rp.app : Rp MApp := Rp.via (fun x => (x.committed, x.check, x.next, x.open_, x.price)) (Rp.pair Rp.ledger (Rp.pair Rp.ledger (Rp.pair Rp.ledger (Rp.pair Rp.bool (Rp.int .u64)))))
theorem Rp.app_size : Rp.app.size = 8 := rfl
theorem Rp.app_fields {w : World} {S : Fp} {cs : List Value} {x : MApp} (h : Rp.app.rel w S cs x) :
    Rp.ledger.rel w S ((cs.drop 0).take 2) x.committed ∧
    Rp.ledger.rel w S ((cs.drop 2).take 2) x.check ∧
    Rp.ledger.rel w S ((cs.drop 4).take 2) x.next ∧
    Rp.bool.rel w S ((cs.drop 6).take 1) x.open_ ∧
    (Rp.int .u64).rel w S ((cs.drop 7).take 1) x.price := by
  have hl : cs.length = 8 := Rp.app.len h
  have h : (Rp.pair Rp.ledger (Rp.pair Rp.ledger (Rp.pair Rp.ledger (Rp.pair Rp.bool (Rp.int .u64))))).rel w S cs (x.committed, x.check, x.next, x.open_, x.price) := h
  simp only [Rp.pair_iff] at h
  obtain ⟨h0, h1, h2, h3, h4⟩ := h
  refine ⟨?_, ?_, ?_, ?_, ?_⟩
  · refine cast (congrArg (fun l => Rp.ledger.rel w S l x.committed) ?_) h0
    first | rfl | (simp only [List.drop_drop]; rfl)
  · refine cast (congrArg (fun l => Rp.ledger.rel w S l x.check) ?_) h1
    first | rfl | (simp only [List.drop_drop]; rfl)
  · refine cast (congrArg (fun l => Rp.ledger.rel w S l x.next) ?_) h2
    first | rfl | (simp only [List.drop_drop]; rfl)
  · refine cast (congrArg (fun l => Rp.bool.rel w S l x.open_) ?_) h3
    first | rfl | (simp only [List.drop_drop]; rfl)
  · refine cast (congrArg (fun l => (Rp.int .u64).rel w S l x.price) ?_) h4
    have e : cs.drop 7 = (cs.drop 7).take 1 := (List.take_of_length_le (by simp [hl])).symm
    refine Eq.trans ?_ e
    first | rfl | (simp only [List.drop_drop]; rfl)
theorem Rp.app_mk {w : World} {S : Fp} {cs : List Value} {x : MApp} (hl : cs.length = 8)
    (h0 : Rp.ledger.rel w S ((cs.drop 0).take 2) x.committed)
    (h1 : Rp.ledger.rel w S ((cs.drop 2).take 2) x.check)
    (h2 : Rp.ledger.rel w S ((cs.drop 4).take 2) x.next)
    (h3 : Rp.bool.rel w S ((cs.drop 6).take 1) x.open_)
    (h4 : (Rp.int .u64).rel w S ((cs.drop 7).take 1) x.price)
    : Rp.app.rel w S cs x := by
  show (Rp.pair Rp.ledger (Rp.pair Rp.ledger (Rp.pair Rp.ledger (Rp.pair Rp.bool (Rp.int .u64))))).rel w S cs (x.committed, x.check, x.next, x.open_, x.price)
  simp only [Rp.pair_iff]
  refine ⟨?_, ?_, ?_, ?_, ?_⟩
  · refine cast (congrArg (fun l => Rp.ledger.rel w S l x.committed) ?_) h0
    first | rfl | (simp only [List.drop_drop]; rfl)
  · refine cast (congrArg (fun l => Rp.ledger.rel w S l x.check) ?_) h1
    first | rfl | (simp only [List.drop_drop]; rfl)
  · refine cast (congrArg (fun l => Rp.ledger.rel w S l x.next) ?_) h2
    first | rfl | (simp only [List.drop_drop]; rfl)
  · refine cast (congrArg (fun l => Rp.bool.rel w S l x.open_) ?_) h3
    first | rfl | (simp only [List.drop_drop]; rfl)
  · refine cast (congrArg (fun l => (Rp.int .u64).rel w S l x.price) ?_) h4
    have e : cs.drop 7 = (cs.drop 7).take 1 := (List.take_of_length_le (by simp [hl])).symm
    refine e.symm.trans ?_
    first | rfl | (simp only [List.drop_drop]; rfl)

structure MConfig where
  maxTxs : Int
  maxBytes : Int
  maxTxBytes : Int
  cacheSize : Int
  ttlBlocks : Int
  ttlTime : Int
  keepInvalid : Bool
  blockBytes : Int
  blockGas : Int
  price : Int
  self : Int
  nodes : Int
  deriving DecidableEq, Inhabited
def Rp.config : Rp MConfig := Rp.via (fun x => (x.maxTxs, x.maxBytes, x.maxTxBytes, x.cacheSize, x.ttlBlocks, x.ttlTime, x.keepInvalid, x.blockBytes, x.blockGas, x.price, x.self, x.nodes)) (Rp.pair (Rp.int .i64) (Rp.pair (Rp.int .i64) (Rp.pair (Rp.int .i64) (Rp.pair (Rp.int .i64) (Rp.pair (Rp.int .i64) (Rp.pair (Rp.int .i64) (Rp.pair Rp.bool (Rp.pair (Rp.int .i64) (Rp.pair (Rp.int .i64) (Rp.pair (Rp.int .u64) (Rp.pair (Rp.int .i64) (Rp.int .i64))))))))))))
theorem Rp.config_size : Rp.config.size = 12 := rfl
theorem Rp.config_fields {w : World} {S : Fp} {cs : List Value} {x : MConfig} (h : Rp.config.rel w S cs x) :
    (Rp.int .i64).rel w S ((cs.drop 0).take 1) x.maxTxs ∧
    (Rp.int .i64).rel w S ((cs.drop 1).take 1) x.maxBytes ∧
    (Rp.int .i64).rel w S ((cs.drop 2).take 1) x.maxTxBytes ∧
    (Rp.int .i64).rel w S ((cs.drop 3).take 1) x.cacheSize ∧
    (Rp.int .i64).rel w S ((cs.drop 4).take 1) x.ttlBlocks ∧
    (Rp.int .i64).rel w S ((cs.drop 5).take 1) x.ttlTime ∧
    Rp.bool.rel w S ((cs.drop 6).take 1) x.keepInvalid ∧
    (Rp.int .i64).rel w S ((cs.drop 7).take 1) x.blockBytes ∧
    (Rp.int .i64).rel w S ((cs.drop 8).take 1) x.blockGas ∧
    (Rp.int .u64).rel w S ((cs.drop 9).take 1) x.price ∧
    (Rp.int .i64).rel w S ((cs.drop 10).take 1) x.self ∧
    (Rp.int .i64).rel w S ((cs.drop 11).take 1) x.nodes := by
  have hl : cs.length = 12 := Rp.config.len h
  have h : (Rp.pair (Rp.int .i64) (Rp.pair (Rp.int .i64) (Rp.pair (Rp.int .i64) (Rp.pair (Rp.int .i64) (Rp.pair (Rp.int .i64) (Rp.pair (Rp.int .i64) (Rp.pair Rp.bool (Rp.pair (Rp.int .i64) (Rp.pair (Rp.int .i64) (Rp.pair (Rp.int .u64) (Rp.pair (Rp.int .i64) (Rp.int .i64)))))))))))).rel w S cs (x.maxTxs, x.maxBytes, x.maxTxBytes, x.cacheSize, x.ttlBlocks, x.ttlTime, x.keepInvalid, x.blockBytes, x.blockGas, x.price, x.self, x.nodes) := h
  simp only [Rp.pair_iff] at h
  obtain ⟨h0, h1, h2, h3, h4, h5, h6, h7, h8, h9, h10, h11⟩ := h
  refine ⟨?_, ?_, ?_, ?_, ?_, ?_, ?_, ?_, ?_, ?_, ?_, ?_⟩
  · refine cast (congrArg (fun l => (Rp.int .i64).rel w S l x.maxTxs) ?_) h0
    first | rfl | (simp only [List.drop_drop]; rfl)
  · refine cast (congrArg (fun l => (Rp.int .i64).rel w S l x.maxBytes) ?_) h1
    first | rfl | (simp only [List.drop_drop]; rfl)
  · refine cast (congrArg (fun l => (Rp.int .i64).rel w S l x.maxTxBytes) ?_) h2
    first | rfl | (simp only [List.drop_drop]; rfl)
  · refine cast (congrArg (fun l => (Rp.int .i64).rel w S l x.cacheSize) ?_) h3
    first | rfl | (simp only [List.drop_drop]; rfl)
  · refine cast (congrArg (fun l => (Rp.int .i64).rel w S l x.ttlBlocks) ?_) h4
    first | rfl | (simp only [List.drop_drop]; rfl)
  · refine cast (congrArg (fun l => (Rp.int .i64).rel w S l x.ttlTime) ?_) h5
    first | rfl | (simp only [List.drop_drop]; rfl)
  · refine cast (congrArg (fun l => Rp.bool.rel w S l x.keepInvalid) ?_) h6
    first | rfl | (simp only [List.drop_drop]; rfl)
  · refine cast (congrArg (fun l => (Rp.int .i64).rel w S l x.blockBytes) ?_) h7
    first | rfl | (simp only [List.drop_drop]; rfl)
  · refine cast (congrArg (fun l => (Rp.int .i64).rel w S l x.blockGas) ?_) h8
    first | rfl | (simp only [List.drop_drop]; rfl)
  · refine cast (congrArg (fun l => (Rp.int .u64).rel w S l x.price) ?_) h9
    first | rfl | (simp only [List.drop_drop]; rfl)
  · refine cast (congrArg (fun l => (Rp.int .i64).rel w S l x.self) ?_) h10
    first | rfl | (simp only [List.drop_drop]; rfl)
  · refine cast (congrArg (fun l => (Rp.int .i64).rel w S l x.nodes) ?_) h11
    have e : cs.drop 11 = (cs.drop 11).take 1 := (List.take_of_length_le (by simp [hl])).symm
    refine Eq.trans ?_ e
    first | rfl | (simp only [List.drop_drop]; rfl)
theorem Rp.config_mk {w : World} {S : Fp} {cs : List Value} {x : MConfig} (hl : cs.length = 12)
    (h0 : (Rp.int .i64).rel w S ((cs.drop 0).take 1) x.maxTxs)
    (h1 : (Rp.int .i64).rel w S ((cs.drop 1).take 1) x.maxBytes)
    (h2 : (Rp.int .i64).rel w S ((cs.drop 2).take 1) x.maxTxBytes)
    (h3 : (Rp.int .i64).rel w S ((cs.drop 3).take 1) x.cacheSize)
    (h4 : (Rp.int .i64).rel w S ((cs.drop 4).take 1) x.ttlBlocks)
    (h5 : (Rp.int .i64).rel w S ((cs.drop 5).take 1) x.ttlTime)
    (h6 : Rp.bool.rel w S ((cs.drop 6).take 1) x.keepInvalid)
    (h7 : (Rp.int .i64).rel w S ((cs.drop 7).take 1) x.blockBytes)
    (h8 : (Rp.int .i64).rel w S ((cs.drop 8).take 1) x.blockGas)
    (h9 : (Rp.int .u64).rel w S ((cs.drop 9).take 1) x.price)
    (h10 : (Rp.int .i64).rel w S ((cs.drop 10).take 1) x.self)
    (h11 : (Rp.int .i64).rel w S ((cs.drop 11).take 1) x.nodes)
    : Rp.config.rel w S cs x := by
  show (Rp.pair (Rp.int .i64) (Rp.pair (Rp.int .i64) (Rp.pair (Rp.int .i64) (Rp.pair (Rp.int .i64) (Rp.pair (Rp.int .i64) (Rp.pair (Rp.int .i64) (Rp.pair Rp.bool (Rp.pair (Rp.int .i64) (Rp.pair (Rp.int .i64) (Rp.pair (Rp.int .u64) (Rp.pair (Rp.int .i64) (Rp.int .i64)))))))))))).rel w S cs (x.maxTxs, x.maxBytes, x.maxTxBytes, x.cacheSize, x.ttlBlocks, x.ttlTime, x.keepInvalid, x.blockBytes, x.blockGas, x.price, x.self, x.nodes)
  simp only [Rp.pair_iff]
  refine ⟨?_, ?_, ?_, ?_, ?_, ?_, ?_, ?_, ?_, ?_, ?_, ?_⟩
  · refine cast (congrArg (fun l => (Rp.int .i64).rel w S l x.maxTxs) ?_) h0
    first | rfl | (simp only [List.drop_drop]; rfl)
  · refine cast (congrArg (fun l => (Rp.int .i64).rel w S l x.maxBytes) ?_) h1
    first | rfl | (simp only [List.drop_drop]; rfl)
  · refine cast (congrArg (fun l => (Rp.int .i64).rel w S l x.maxTxBytes) ?_) h2
    first | rfl | (simp only [List.drop_drop]; rfl)
  · refine cast (congrArg (fun l => (Rp.int .i64).rel w S l x.cacheSize) ?_) h3
    first | rfl | (simp only [List.drop_drop]; rfl)
  · refine cast (congrArg (fun l => (Rp.int .i64).rel w S l x.ttlBlocks) ?_) h4
    first | rfl | (simp only [List.drop_drop]; rfl)
  · refine cast (congrArg (fun l => (Rp.int .i64).rel w S l x.ttlTime) ?_) h5
    first | rfl | (simp only [List.drop_drop]; rfl)
  · refine cast (congrArg (fun l => Rp.bool.rel w S l x.keepInvalid) ?_) h6
    first | rfl | (simp only [List.drop_drop]; rfl)
  · refine cast (congrArg (fun l => (Rp.int .i64).rel w S l x.blockBytes) ?_) h7
    first | rfl | (simp only [List.drop_drop]; rfl)
  · refine cast (congrArg (fun l => (Rp.int .i64).rel w S l x.blockGas) ?_) h8
    first | rfl | (simp only [List.drop_drop]; rfl)
  · refine cast (congrArg (fun l => (Rp.int .u64).rel w S l x.price) ?_) h9
    first | rfl | (simp only [List.drop_drop]; rfl)
  · refine cast (congrArg (fun l => (Rp.int .i64).rel w S l x.self) ?_) h10
    first | rfl | (simp only [List.drop_drop]; rfl)
  · refine cast (congrArg (fun l => (Rp.int .i64).rel w S l x.nodes) ?_) h11
    have e : cs.drop 11 = (cs.drop 11).take 1 := (List.take_of_length_le (by simp [hl])).symm
    refine e.symm.trans ?_
    first | rfl | (simp only [List.drop_drop]; rfl)

structure MItem where
  id : Int
  priority : Int
  order : Int
  deriving DecidableEq, Inhabited
def Rp.item : Rp MItem := Rp.via (fun x => (x.id, x.priority, x.order)) (Rp.pair (Rp.int .i64) (Rp.pair (Rp.int .u64) (Rp.int .i64)))
theorem Rp.item_size : Rp.item.size = 3 := rfl
theorem Rp.item_fields {w : World} {S : Fp} {cs : List Value} {x : MItem} (h : Rp.item.rel w S cs x) :
    (Rp.int .i64).rel w S ((cs.drop 0).take 1) x.id ∧
    (Rp.int .u64).rel w S ((cs.drop 1).take 1) x.priority ∧
    (Rp.int .i64).rel w S ((cs.drop 2).take 1) x.order := by
  have hl : cs.length = 3 := Rp.item.len h
  have h : (Rp.pair (Rp.int .i64) (Rp.pair (Rp.int .u64) (Rp.int .i64))).rel w S cs (x.id, x.priority, x.order) := h
  simp only [Rp.pair_iff] at h
  obtain ⟨h0, h1, h2⟩ := h
  refine ⟨?_, ?_, ?_⟩
  · refine cast (congrArg (fun l => (Rp.int .i64).rel w S l x.id) ?_) h0
    first | rfl | (simp only [List.drop_drop]; rfl)
  · refine cast (congrArg (fun l => (Rp.int .u64).rel w S l x.priority) ?_) h1
    first | rfl | (simp only [List.drop_drop]; rfl)
  · refine cast (congrArg (fun l => (Rp.int .i64).rel w S l x.order) ?_) h2
    have e : cs.drop 2 = (cs.drop 2).take 1 := (List.take_of_length_le (by simp [hl])).symm
    refine Eq.trans ?_ e
    first | rfl | (simp only [List.drop_drop]; rfl)
theorem Rp.item_mk {w : World} {S : Fp} {cs : List Value} {x : MItem} (hl : cs.length = 3)
    (h0 : (Rp.int .i64).rel w S ((cs.drop 0).take 1) x.id)
    (h1 : (Rp.int .u64).rel w S ((cs.drop 1).take 1) x.priority)
    (h2 : (Rp.int .i64).rel w S ((cs.drop 2).take 1) x.order)
    : Rp.item.rel w S cs x := by
  show (Rp.pair (Rp.int .i64) (Rp.pair (Rp.int .u64) (Rp.int .i64))).rel w S cs (x.id, x.priority, x.order)
  simp only [Rp.pair_iff]
  refine ⟨?_, ?_, ?_⟩
  · refine cast (congrArg (fun l => (Rp.int .i64).rel w S l x.id) ?_) h0
    first | rfl | (simp only [List.drop_drop]; rfl)
  · refine cast (congrArg (fun l => (Rp.int .u64).rel w S l x.priority) ?_) h1
    first | rfl | (simp only [List.drop_drop]; rfl)
  · refine cast (congrArg (fun l => (Rp.int .i64).rel w S l x.order) ?_) h2
    have e : cs.drop 2 = (cs.drop 2).take 1 := (List.take_of_length_le (by simp [hl])).symm
    refine e.symm.trans ?_
    first | rfl | (simp only [List.drop_drop]; rfl)

structure MHandle where
  slot : Int
  use : Int
  deriving DecidableEq, Inhabited
def Rp.handle : Rp MHandle := Rp.via (fun x => (x.slot, x.use)) (Rp.pair (Rp.int .i64) (Rp.int .i64))
theorem Rp.handle_size : Rp.handle.size = 2 := rfl
theorem Rp.handle_fields {w : World} {S : Fp} {cs : List Value} {x : MHandle} (h : Rp.handle.rel w S cs x) :
    (Rp.int .i64).rel w S ((cs.drop 0).take 1) x.slot ∧
    (Rp.int .i64).rel w S ((cs.drop 1).take 1) x.use := by
  have hl : cs.length = 2 := Rp.handle.len h
  have h : (Rp.pair (Rp.int .i64) (Rp.int .i64)).rel w S cs (x.slot, x.use) := h
  simp only [Rp.pair_iff] at h
  obtain ⟨h0, h1⟩ := h
  refine ⟨?_, ?_⟩
  · refine cast (congrArg (fun l => (Rp.int .i64).rel w S l x.slot) ?_) h0
    first | rfl | (simp only [List.drop_drop]; rfl)
  · refine cast (congrArg (fun l => (Rp.int .i64).rel w S l x.use) ?_) h1
    have e : cs.drop 1 = (cs.drop 1).take 1 := (List.take_of_length_le (by simp [hl])).symm
    refine Eq.trans ?_ e
    first | rfl | (simp only [List.drop_drop]; rfl)
theorem Rp.handle_mk {w : World} {S : Fp} {cs : List Value} {x : MHandle} (hl : cs.length = 2)
    (h0 : (Rp.int .i64).rel w S ((cs.drop 0).take 1) x.slot)
    (h1 : (Rp.int .i64).rel w S ((cs.drop 1).take 1) x.use)
    : Rp.handle.rel w S cs x := by
  show (Rp.pair (Rp.int .i64) (Rp.int .i64)).rel w S cs (x.slot, x.use)
  simp only [Rp.pair_iff]
  refine ⟨?_, ?_⟩
  · refine cast (congrArg (fun l => (Rp.int .i64).rel w S l x.slot) ?_) h0
    first | rfl | (simp only [List.drop_drop]; rfl)
  · refine cast (congrArg (fun l => (Rp.int .i64).rel w S l x.use) ?_) h1
    have e : cs.drop 1 = (cs.drop 1).take 1 := (List.take_of_length_le (by simp [hl])).symm
    refine e.symm.trans ?_
    first | rfl | (simp only [List.drop_drop]; rfl)

structure MEntry where
  key : List Int
  raw : List Int
  sender : ByteArray
  sequence : Int
  gas : Int
  priority : Int
  height : Int
  time : Int
  order : Int
  peers : List Int
  deriving DecidableEq, Inhabited
def Rp.entry : Rp MEntry := Rp.via (fun x => (x.key, x.raw, x.sender, x.sequence, x.gas, x.priority, x.height, x.time, x.order, x.peers)) (Rp.pair Rp.key (Rp.pair Rp.bytes (Rp.pair Rp.str (Rp.pair (Rp.int .u64) (Rp.pair (Rp.int .u64) (Rp.pair (Rp.int .u64) (Rp.pair (Rp.int .i64) (Rp.pair (Rp.int .i64) (Rp.pair (Rp.int .i64) Rp.ints)))))))))
theorem Rp.entry_size : Rp.entry.size = 41 := rfl
theorem Rp.entry_fields {w : World} {S : Fp} {cs : List Value} {x : MEntry} (h : Rp.entry.rel w S cs x) :
    Rp.key.rel w S ((cs.drop 0).take 32) x.key ∧
    Rp.bytes.rel w S ((cs.drop 32).take 1) x.raw ∧
    Rp.str.rel w S ((cs.drop 33).take 1) x.sender ∧
    (Rp.int .u64).rel w S ((cs.drop 34).take 1) x.sequence ∧
    (Rp.int .u64).rel w S ((cs.drop 35).take 1) x.gas ∧
    (Rp.int .u64).rel w S ((cs.drop 36).take 1) x.priority ∧
    (Rp.int .i64).rel w S ((cs.drop 37).take 1) x.height ∧
    (Rp.int .i64).rel w S ((cs.drop 38).take 1) x.time ∧
    (Rp.int .i64).rel w S ((cs.drop 39).take 1) x.order ∧
    Rp.ints.rel w S ((cs.drop 40).take 1) x.peers := by
  have hl : cs.length = 41 := Rp.entry.len h
  have h : (Rp.pair Rp.key (Rp.pair Rp.bytes (Rp.pair Rp.str (Rp.pair (Rp.int .u64) (Rp.pair (Rp.int .u64) (Rp.pair (Rp.int .u64) (Rp.pair (Rp.int .i64) (Rp.pair (Rp.int .i64) (Rp.pair (Rp.int .i64) Rp.ints))))))))).rel w S cs (x.key, x.raw, x.sender, x.sequence, x.gas, x.priority, x.height, x.time, x.order, x.peers) := h
  simp only [Rp.pair_iff] at h
  obtain ⟨h0, h1, h2, h3, h4, h5, h6, h7, h8, h9⟩ := h
  refine ⟨?_, ?_, ?_, ?_, ?_, ?_, ?_, ?_, ?_, ?_⟩
  · refine cast (congrArg (fun l => Rp.key.rel w S l x.key) ?_) h0
    first | rfl | (simp only [List.drop_drop]; rfl)
  · refine cast (congrArg (fun l => Rp.bytes.rel w S l x.raw) ?_) h1
    first | rfl | (simp only [List.drop_drop]; rfl)
  · refine cast (congrArg (fun l => Rp.str.rel w S l x.sender) ?_) h2
    first | rfl | (simp only [List.drop_drop]; rfl)
  · refine cast (congrArg (fun l => (Rp.int .u64).rel w S l x.sequence) ?_) h3
    first | rfl | (simp only [List.drop_drop]; rfl)
  · refine cast (congrArg (fun l => (Rp.int .u64).rel w S l x.gas) ?_) h4
    first | rfl | (simp only [List.drop_drop]; rfl)
  · refine cast (congrArg (fun l => (Rp.int .u64).rel w S l x.priority) ?_) h5
    first | rfl | (simp only [List.drop_drop]; rfl)
  · refine cast (congrArg (fun l => (Rp.int .i64).rel w S l x.height) ?_) h6
    first | rfl | (simp only [List.drop_drop]; rfl)
  · refine cast (congrArg (fun l => (Rp.int .i64).rel w S l x.time) ?_) h7
    first | rfl | (simp only [List.drop_drop]; rfl)
  · refine cast (congrArg (fun l => (Rp.int .i64).rel w S l x.order) ?_) h8
    first | rfl | (simp only [List.drop_drop]; rfl)
  · refine cast (congrArg (fun l => Rp.ints.rel w S l x.peers) ?_) h9
    have e : cs.drop 40 = (cs.drop 40).take 1 := (List.take_of_length_le (by simp [hl])).symm
    refine Eq.trans ?_ e
    first | rfl | (simp only [List.drop_drop]; rfl)
theorem Rp.entry_mk {w : World} {S : Fp} {cs : List Value} {x : MEntry} (hl : cs.length = 41)
    (h0 : Rp.key.rel w S ((cs.drop 0).take 32) x.key)
    (h1 : Rp.bytes.rel w S ((cs.drop 32).take 1) x.raw)
    (h2 : Rp.str.rel w S ((cs.drop 33).take 1) x.sender)
    (h3 : (Rp.int .u64).rel w S ((cs.drop 34).take 1) x.sequence)
    (h4 : (Rp.int .u64).rel w S ((cs.drop 35).take 1) x.gas)
    (h5 : (Rp.int .u64).rel w S ((cs.drop 36).take 1) x.priority)
    (h6 : (Rp.int .i64).rel w S ((cs.drop 37).take 1) x.height)
    (h7 : (Rp.int .i64).rel w S ((cs.drop 38).take 1) x.time)
    (h8 : (Rp.int .i64).rel w S ((cs.drop 39).take 1) x.order)
    (h9 : Rp.ints.rel w S ((cs.drop 40).take 1) x.peers)
    : Rp.entry.rel w S cs x := by
  show (Rp.pair Rp.key (Rp.pair Rp.bytes (Rp.pair Rp.str (Rp.pair (Rp.int .u64) (Rp.pair (Rp.int .u64) (Rp.pair (Rp.int .u64) (Rp.pair (Rp.int .i64) (Rp.pair (Rp.int .i64) (Rp.pair (Rp.int .i64) Rp.ints))))))))).rel w S cs (x.key, x.raw, x.sender, x.sequence, x.gas, x.priority, x.height, x.time, x.order, x.peers)
  simp only [Rp.pair_iff]
  refine ⟨?_, ?_, ?_, ?_, ?_, ?_, ?_, ?_, ?_, ?_⟩
  · refine cast (congrArg (fun l => Rp.key.rel w S l x.key) ?_) h0
    first | rfl | (simp only [List.drop_drop]; rfl)
  · refine cast (congrArg (fun l => Rp.bytes.rel w S l x.raw) ?_) h1
    first | rfl | (simp only [List.drop_drop]; rfl)
  · refine cast (congrArg (fun l => Rp.str.rel w S l x.sender) ?_) h2
    first | rfl | (simp only [List.drop_drop]; rfl)
  · refine cast (congrArg (fun l => (Rp.int .u64).rel w S l x.sequence) ?_) h3
    first | rfl | (simp only [List.drop_drop]; rfl)
  · refine cast (congrArg (fun l => (Rp.int .u64).rel w S l x.gas) ?_) h4
    first | rfl | (simp only [List.drop_drop]; rfl)
  · refine cast (congrArg (fun l => (Rp.int .u64).rel w S l x.priority) ?_) h5
    first | rfl | (simp only [List.drop_drop]; rfl)
  · refine cast (congrArg (fun l => (Rp.int .i64).rel w S l x.height) ?_) h6
    first | rfl | (simp only [List.drop_drop]; rfl)
  · refine cast (congrArg (fun l => (Rp.int .i64).rel w S l x.time) ?_) h7
    first | rfl | (simp only [List.drop_drop]; rfl)
  · refine cast (congrArg (fun l => (Rp.int .i64).rel w S l x.order) ?_) h8
    first | rfl | (simp only [List.drop_drop]; rfl)
  · refine cast (congrArg (fun l => Rp.ints.rel w S l x.peers) ?_) h9
    have e : cs.drop 40 = (cs.drop 40).take 1 := (List.take_of_length_le (by simp [hl])).symm
    refine e.symm.trans ?_
    first | rfl | (simp only [List.drop_drop]; rfl)

structure MState where
  config : MConfig
  app : MApp
  height : Int
  time : Int
  arrived : Int
  entries : List MEntry
  cache : List (List Int)
  deriving DecidableEq, Inhabited
def Rp.state : Rp MState := Rp.via (fun x => (x.config, x.app, x.height, x.time, x.arrived, x.entries, x.cache)) (Rp.pair Rp.config (Rp.pair Rp.app (Rp.pair (Rp.int .i64) (Rp.pair (Rp.int .i64) (Rp.pair (Rp.int .i64) (Rp.pair (Rp.slice Rp.entry) (Rp.slice Rp.key)))))))
theorem Rp.state_size : Rp.state.size = 25 := rfl
theorem Rp.state_fields {w : World} {S : Fp} {cs : List Value} {x : MState} (h : Rp.state.rel w S cs x) :
    Rp.config.rel w S ((cs.drop 0).take 12) x.config ∧
    Rp.app.rel w S ((cs.drop 12).take 8) x.app ∧
    (Rp.int .i64).rel w S ((cs.drop 20).take 1) x.height ∧
    (Rp.int .i64).rel w S ((cs.drop 21).take 1) x.time ∧
    (Rp.int .i64).rel w S ((cs.drop 22).take 1) x.arrived ∧
    (Rp.slice Rp.entry).rel w S ((cs.drop 23).take 1) x.entries ∧
    (Rp.slice Rp.key).rel w S ((cs.drop 24).take 1) x.cache := by
  have hl : cs.length = 25 := Rp.state.len h
  have h : (Rp.pair Rp.config (Rp.pair Rp.app (Rp.pair (Rp.int .i64) (Rp.pair (Rp.int .i64) (Rp.pair (Rp.int .i64) (Rp.pair (Rp.slice Rp.entry) (Rp.slice Rp.key))))))).rel w S cs (x.config, x.app, x.height, x.time, x.arrived, x.entries, x.cache) := h
  simp only [Rp.pair_iff] at h
  obtain ⟨h0, h1, h2, h3, h4, h5, h6⟩ := h
  refine ⟨?_, ?_, ?_, ?_, ?_, ?_, ?_⟩
  · refine cast (congrArg (fun l => Rp.config.rel w S l x.config) ?_) h0
    first | rfl | (simp only [List.drop_drop]; rfl)
  · refine cast (congrArg (fun l => Rp.app.rel w S l x.app) ?_) h1
    first | rfl | (simp only [List.drop_drop]; rfl)
  · refine cast (congrArg (fun l => (Rp.int .i64).rel w S l x.height) ?_) h2
    first | rfl | (simp only [List.drop_drop]; rfl)
  · refine cast (congrArg (fun l => (Rp.int .i64).rel w S l x.time) ?_) h3
    first | rfl | (simp only [List.drop_drop]; rfl)
  · refine cast (congrArg (fun l => (Rp.int .i64).rel w S l x.arrived) ?_) h4
    first | rfl | (simp only [List.drop_drop]; rfl)
  · refine cast (congrArg (fun l => (Rp.slice Rp.entry).rel w S l x.entries) ?_) h5
    first | rfl | (simp only [List.drop_drop]; rfl)
  · refine cast (congrArg (fun l => (Rp.slice Rp.key).rel w S l x.cache) ?_) h6
    have e : cs.drop 24 = (cs.drop 24).take 1 := (List.take_of_length_le (by simp [hl])).symm
    refine Eq.trans ?_ e
    first | rfl | (simp only [List.drop_drop]; rfl)
theorem Rp.state_mk {w : World} {S : Fp} {cs : List Value} {x : MState} (hl : cs.length = 25)
    (h0 : Rp.config.rel w S ((cs.drop 0).take 12) x.config)
    (h1 : Rp.app.rel w S ((cs.drop 12).take 8) x.app)
    (h2 : (Rp.int .i64).rel w S ((cs.drop 20).take 1) x.height)
    (h3 : (Rp.int .i64).rel w S ((cs.drop 21).take 1) x.time)
    (h4 : (Rp.int .i64).rel w S ((cs.drop 22).take 1) x.arrived)
    (h5 : (Rp.slice Rp.entry).rel w S ((cs.drop 23).take 1) x.entries)
    (h6 : (Rp.slice Rp.key).rel w S ((cs.drop 24).take 1) x.cache)
    : Rp.state.rel w S cs x := by
  show (Rp.pair Rp.config (Rp.pair Rp.app (Rp.pair (Rp.int .i64) (Rp.pair (Rp.int .i64) (Rp.pair (Rp.int .i64) (Rp.pair (Rp.slice Rp.entry) (Rp.slice Rp.key))))))).rel w S cs (x.config, x.app, x.height, x.time, x.arrived, x.entries, x.cache)
  simp only [Rp.pair_iff]
  refine ⟨?_, ?_, ?_, ?_, ?_, ?_, ?_⟩
  · refine cast (congrArg (fun l => Rp.config.rel w S l x.config) ?_) h0
    first | rfl | (simp only [List.drop_drop]; rfl)
  · refine cast (congrArg (fun l => Rp.app.rel w S l x.app) ?_) h1
    first | rfl | (simp only [List.drop_drop]; rfl)
  · refine cast (congrArg (fun l => (Rp.int .i64).rel w S l x.height) ?_) h2
    first | rfl | (simp only [List.drop_drop]; rfl)
  · refine cast (congrArg (fun l => (Rp.int .i64).rel w S l x.time) ?_) h3
    first | rfl | (simp only [List.drop_drop]; rfl)
  · refine cast (congrArg (fun l => (Rp.int .i64).rel w S l x.arrived) ?_) h4
    first | rfl | (simp only [List.drop_drop]; rfl)
  · refine cast (congrArg (fun l => (Rp.slice Rp.entry).rel w S l x.entries) ?_) h5
    first | rfl | (simp only [List.drop_drop]; rfl)
  · refine cast (congrArg (fun l => (Rp.slice Rp.key).rel w S l x.cache) ?_) h6
    have e : cs.drop 24 = (cs.drop 24).take 1 := (List.take_of_length_le (by simp [hl])).symm
    refine e.symm.trans ?_
    first | rfl | (simp only [List.drop_drop]; rfl)

structure MReply where
  err : Int
  key : List Int
  priority : Int
  evicted : List (List Int)
  expired : List (List Int)
  invalid : List (List Int)
  done : List (List Int)
  flushed : List (List Int)
  txs : List (List Int)
  height : Int
  digest : List Int
  deriving DecidableEq, Inhabited
def Rp.reply : Rp MReply := Rp.via (fun x => (x.err, x.key, x.priority, x.evicted, x.expired, x.invalid, x.done, x.flushed, x.txs, x.height, x.digest)) (Rp.pair (Rp.int .i64) (Rp.pair Rp.key (Rp.pair (Rp.int .u64) (Rp.pair (Rp.slice Rp.key) (Rp.pair (Rp.slice Rp.key) (Rp.pair (Rp.slice Rp.key) (Rp.pair (Rp.slice Rp.key) (Rp.pair (Rp.slice Rp.key) (Rp.pair (Rp.slice Rp.bytes) (Rp.pair (Rp.int .i64) Rp.key))))))))))
theorem Rp.reply_size : Rp.reply.size = 73 := rfl
theorem Rp.reply_fields {w : World} {S : Fp} {cs : List Value} {x : MReply} (h : Rp.reply.rel w S cs x) :
    (Rp.int .i64).rel w S ((cs.drop 0).take 1) x.err ∧
    Rp.key.rel w S ((cs.drop 1).take 32) x.key ∧
    (Rp.int .u64).rel w S ((cs.drop 33).take 1) x.priority ∧
    (Rp.slice Rp.key).rel w S ((cs.drop 34).take 1) x.evicted ∧
    (Rp.slice Rp.key).rel w S ((cs.drop 35).take 1) x.expired ∧
    (Rp.slice Rp.key).rel w S ((cs.drop 36).take 1) x.invalid ∧
    (Rp.slice Rp.key).rel w S ((cs.drop 37).take 1) x.done ∧
    (Rp.slice Rp.key).rel w S ((cs.drop 38).take 1) x.flushed ∧
    (Rp.slice Rp.bytes).rel w S ((cs.drop 39).take 1) x.txs ∧
    (Rp.int .i64).rel w S ((cs.drop 40).take 1) x.height ∧
    Rp.key.rel w S ((cs.drop 41).take 32) x.digest := by
  have hl : cs.length = 73 := Rp.reply.len h
  have h : (Rp.pair (Rp.int .i64) (Rp.pair Rp.key (Rp.pair (Rp.int .u64) (Rp.pair (Rp.slice Rp.key) (Rp.pair (Rp.slice Rp.key) (Rp.pair (Rp.slice Rp.key) (Rp.pair (Rp.slice Rp.key) (Rp.pair (Rp.slice Rp.key) (Rp.pair (Rp.slice Rp.bytes) (Rp.pair (Rp.int .i64) Rp.key)))))))))).rel w S cs (x.err, x.key, x.priority, x.evicted, x.expired, x.invalid, x.done, x.flushed, x.txs, x.height, x.digest) := h
  simp only [Rp.pair_iff] at h
  obtain ⟨h0, h1, h2, h3, h4, h5, h6, h7, h8, h9, h10⟩ := h
  refine ⟨?_, ?_, ?_, ?_, ?_, ?_, ?_, ?_, ?_, ?_, ?_⟩
  · refine cast (congrArg (fun l => (Rp.int .i64).rel w S l x.err) ?_) h0
    first | rfl | (simp only [List.drop_drop]; rfl)
  · refine cast (congrArg (fun l => Rp.key.rel w S l x.key) ?_) h1
    first | rfl | (simp only [List.drop_drop]; rfl)
  · refine cast (congrArg (fun l => (Rp.int .u64).rel w S l x.priority) ?_) h2
    first | rfl | (simp only [List.drop_drop]; rfl)
  · refine cast (congrArg (fun l => (Rp.slice Rp.key).rel w S l x.evicted) ?_) h3
    first | rfl | (simp only [List.drop_drop]; rfl)
  · refine cast (congrArg (fun l => (Rp.slice Rp.key).rel w S l x.expired) ?_) h4
    first | rfl | (simp only [List.drop_drop]; rfl)
  · refine cast (congrArg (fun l => (Rp.slice Rp.key).rel w S l x.invalid) ?_) h5
    first | rfl | (simp only [List.drop_drop]; rfl)
  · refine cast (congrArg (fun l => (Rp.slice Rp.key).rel w S l x.done) ?_) h6
    first | rfl | (simp only [List.drop_drop]; rfl)
  · refine cast (congrArg (fun l => (Rp.slice Rp.key).rel w S l x.flushed) ?_) h7
    first | rfl | (simp only [List.drop_drop]; rfl)
  · refine cast (congrArg (fun l => (Rp.slice Rp.bytes).rel w S l x.txs) ?_) h8
    first | rfl | (simp only [List.drop_drop]; rfl)
  · refine cast (congrArg (fun l => (Rp.int .i64).rel w S l x.height) ?_) h9
    first | rfl | (simp only [List.drop_drop]; rfl)
  · refine cast (congrArg (fun l => Rp.key.rel w S l x.digest) ?_) h10
    have e : cs.drop 41 = (cs.drop 41).take 32 := (List.take_of_length_le (by simp [hl])).symm
    refine Eq.trans ?_ e
    first | rfl | (simp only [List.drop_drop]; rfl)
theorem Rp.reply_mk {w : World} {S : Fp} {cs : List Value} {x : MReply} (hl : cs.length = 73)
    (h0 : (Rp.int .i64).rel w S ((cs.drop 0).take 1) x.err)
    (h1 : Rp.key.rel w S ((cs.drop 1).take 32) x.key)
    (h2 : (Rp.int .u64).rel w S ((cs.drop 33).take 1) x.priority)
    (h3 : (Rp.slice Rp.key).rel w S ((cs.drop 34).take 1) x.evicted)
    (h4 : (Rp.slice Rp.key).rel w S ((cs.drop 35).take 1) x.expired)
    (h5 : (Rp.slice Rp.key).rel w S ((cs.drop 36).take 1) x.invalid)
    (h6 : (Rp.slice Rp.key).rel w S ((cs.drop 37).take 1) x.done)
    (h7 : (Rp.slice Rp.key).rel w S ((cs.drop 38).take 1) x.flushed)
    (h8 : (Rp.slice Rp.bytes).rel w S ((cs.drop 39).take 1) x.txs)
    (h9 : (Rp.int .i64).rel w S ((cs.drop 40).take 1) x.height)
    (h10 : Rp.key.rel w S ((cs.drop 41).take 32) x.digest)
    : Rp.reply.rel w S cs x := by
  show (Rp.pair (Rp.int .i64) (Rp.pair Rp.key (Rp.pair (Rp.int .u64) (Rp.pair (Rp.slice Rp.key) (Rp.pair (Rp.slice Rp.key) (Rp.pair (Rp.slice Rp.key) (Rp.pair (Rp.slice Rp.key) (Rp.pair (Rp.slice Rp.key) (Rp.pair (Rp.slice Rp.bytes) (Rp.pair (Rp.int .i64) Rp.key)))))))))).rel w S cs (x.err, x.key, x.priority, x.evicted, x.expired, x.invalid, x.done, x.flushed, x.txs, x.height, x.digest)
  simp only [Rp.pair_iff]
  refine ⟨?_, ?_, ?_, ?_, ?_, ?_, ?_, ?_, ?_, ?_, ?_⟩
  · refine cast (congrArg (fun l => (Rp.int .i64).rel w S l x.err) ?_) h0
    first | rfl | (simp only [List.drop_drop]; rfl)
  · refine cast (congrArg (fun l => Rp.key.rel w S l x.key) ?_) h1
    first | rfl | (simp only [List.drop_drop]; rfl)
  · refine cast (congrArg (fun l => (Rp.int .u64).rel w S l x.priority) ?_) h2
    first | rfl | (simp only [List.drop_drop]; rfl)
  · refine cast (congrArg (fun l => (Rp.slice Rp.key).rel w S l x.evicted) ?_) h3
    first | rfl | (simp only [List.drop_drop]; rfl)
  · refine cast (congrArg (fun l => (Rp.slice Rp.key).rel w S l x.expired) ?_) h4
    first | rfl | (simp only [List.drop_drop]; rfl)
  · refine cast (congrArg (fun l => (Rp.slice Rp.key).rel w S l x.invalid) ?_) h5
    first | rfl | (simp only [List.drop_drop]; rfl)
  · refine cast (congrArg (fun l => (Rp.slice Rp.key).rel w S l x.done) ?_) h6
    first | rfl | (simp only [List.drop_drop]; rfl)
  · refine cast (congrArg (fun l => (Rp.slice Rp.key).rel w S l x.flushed) ?_) h7
    first | rfl | (simp only [List.drop_drop]; rfl)
  · refine cast (congrArg (fun l => (Rp.slice Rp.bytes).rel w S l x.txs) ?_) h8
    first | rfl | (simp only [List.drop_drop]; rfl)
  · refine cast (congrArg (fun l => (Rp.int .i64).rel w S l x.height) ?_) h9
    first | rfl | (simp only [List.drop_drop]; rfl)
  · refine cast (congrArg (fun l => Rp.key.rel w S l x.digest) ?_) h10
    have e : cs.drop 41 = (cs.drop 41).take 32 := (List.take_of_length_le (by simp [hl])).symm
    refine e.symm.trans ?_
    first | rfl | (simp only [List.drop_drop]; rfl)

structure MHeader where
  height : Int
  time : Int
  proposer : Int
  parent : List Int
  txs : List Int
  app : List Int
  results : List Int
  deriving DecidableEq, Inhabited
def Rp.header : Rp MHeader := Rp.via (fun x => (x.height, x.time, x.proposer, x.parent, x.txs, x.app, x.results)) (Rp.pair (Rp.int .i64) (Rp.pair (Rp.int .i64) (Rp.pair (Rp.int .i64) (Rp.pair Rp.key (Rp.pair Rp.key (Rp.pair Rp.key Rp.key))))))
theorem Rp.header_size : Rp.header.size = 131 := rfl
theorem Rp.header_fields {w : World} {S : Fp} {cs : List Value} {x : MHeader} (h : Rp.header.rel w S cs x) :
    (Rp.int .i64).rel w S ((cs.drop 0).take 1) x.height ∧
    (Rp.int .i64).rel w S ((cs.drop 1).take 1) x.time ∧
    (Rp.int .i64).rel w S ((cs.drop 2).take 1) x.proposer ∧
    Rp.key.rel w S ((cs.drop 3).take 32) x.parent ∧
    Rp.key.rel w S ((cs.drop 35).take 32) x.txs ∧
    Rp.key.rel w S ((cs.drop 67).take 32) x.app ∧
    Rp.key.rel w S ((cs.drop 99).take 32) x.results := by
  have hl : cs.length = 131 := Rp.header.len h
  have h : (Rp.pair (Rp.int .i64) (Rp.pair (Rp.int .i64) (Rp.pair (Rp.int .i64) (Rp.pair Rp.key (Rp.pair Rp.key (Rp.pair Rp.key Rp.key)))))).rel w S cs (x.height, x.time, x.proposer, x.parent, x.txs, x.app, x.results) := h
  simp only [Rp.pair_iff] at h
  obtain ⟨h0, h1, h2, h3, h4, h5, h6⟩ := h
  refine ⟨?_, ?_, ?_, ?_, ?_, ?_, ?_⟩
  · refine cast (congrArg (fun l => (Rp.int .i64).rel w S l x.height) ?_) h0
    first | rfl | (simp only [List.drop_drop]; rfl)
  · refine cast (congrArg (fun l => (Rp.int .i64).rel w S l x.time) ?_) h1
    first | rfl | (simp only [List.drop_drop]; rfl)
  · refine cast (congrArg (fun l => (Rp.int .i64).rel w S l x.proposer) ?_) h2
    first | rfl | (simp only [List.drop_drop]; rfl)
  · refine cast (congrArg (fun l => Rp.key.rel w S l x.parent) ?_) h3
    first | rfl | (simp only [List.drop_drop]; rfl)
  · refine cast (congrArg (fun l => Rp.key.rel w S l x.txs) ?_) h4
    first | rfl | (simp only [List.drop_drop]; rfl)
  · refine cast (congrArg (fun l => Rp.key.rel w S l x.app) ?_) h5
    first | rfl | (simp only [List.drop_drop]; rfl)
  · refine cast (congrArg (fun l => Rp.key.rel w S l x.results) ?_) h6
    have e : cs.drop 99 = (cs.drop 99).take 32 := (List.take_of_length_le (by simp [hl])).symm
    refine Eq.trans ?_ e
    first | rfl | (simp only [List.drop_drop]; rfl)
theorem Rp.header_mk {w : World} {S : Fp} {cs : List Value} {x : MHeader} (hl : cs.length = 131)
    (h0 : (Rp.int .i64).rel w S ((cs.drop 0).take 1) x.height)
    (h1 : (Rp.int .i64).rel w S ((cs.drop 1).take 1) x.time)
    (h2 : (Rp.int .i64).rel w S ((cs.drop 2).take 1) x.proposer)
    (h3 : Rp.key.rel w S ((cs.drop 3).take 32) x.parent)
    (h4 : Rp.key.rel w S ((cs.drop 35).take 32) x.txs)
    (h5 : Rp.key.rel w S ((cs.drop 67).take 32) x.app)
    (h6 : Rp.key.rel w S ((cs.drop 99).take 32) x.results)
    : Rp.header.rel w S cs x := by
  show (Rp.pair (Rp.int .i64) (Rp.pair (Rp.int .i64) (Rp.pair (Rp.int .i64) (Rp.pair Rp.key (Rp.pair Rp.key (Rp.pair Rp.key Rp.key)))))).rel w S cs (x.height, x.time, x.proposer, x.parent, x.txs, x.app, x.results)
  simp only [Rp.pair_iff]
  refine ⟨?_, ?_, ?_, ?_, ?_, ?_, ?_⟩
  · refine cast (congrArg (fun l => (Rp.int .i64).rel w S l x.height) ?_) h0
    first | rfl | (simp only [List.drop_drop]; rfl)
  · refine cast (congrArg (fun l => (Rp.int .i64).rel w S l x.time) ?_) h1
    first | rfl | (simp only [List.drop_drop]; rfl)
  · refine cast (congrArg (fun l => (Rp.int .i64).rel w S l x.proposer) ?_) h2
    first | rfl | (simp only [List.drop_drop]; rfl)
  · refine cast (congrArg (fun l => Rp.key.rel w S l x.parent) ?_) h3
    first | rfl | (simp only [List.drop_drop]; rfl)
  · refine cast (congrArg (fun l => Rp.key.rel w S l x.txs) ?_) h4
    first | rfl | (simp only [List.drop_drop]; rfl)
  · refine cast (congrArg (fun l => Rp.key.rel w S l x.app) ?_) h5
    first | rfl | (simp only [List.drop_drop]; rfl)
  · refine cast (congrArg (fun l => Rp.key.rel w S l x.results) ?_) h6
    have e : cs.drop 99 = (cs.drop 99).take 32 := (List.take_of_length_le (by simp [hl])).symm
    refine e.symm.trans ?_
    first | rfl | (simp only [List.drop_drop]; rfl)

structure MBlock where
  header : MHeader
  txs : List (List Int)
  deriving DecidableEq, Inhabited
def Rp.block : Rp MBlock := Rp.via (fun x => (x.header, x.txs)) (Rp.pair Rp.header (Rp.slice Rp.bytes))
theorem Rp.block_size : Rp.block.size = 132 := rfl
theorem Rp.block_fields {w : World} {S : Fp} {cs : List Value} {x : MBlock} (h : Rp.block.rel w S cs x) :
    Rp.header.rel w S ((cs.drop 0).take 131) x.header ∧
    (Rp.slice Rp.bytes).rel w S ((cs.drop 131).take 1) x.txs := by
  have hl : cs.length = 132 := Rp.block.len h
  have h : (Rp.pair Rp.header (Rp.slice Rp.bytes)).rel w S cs (x.header, x.txs) := h
  simp only [Rp.pair_iff] at h
  obtain ⟨h0, h1⟩ := h
  refine ⟨?_, ?_⟩
  · refine cast (congrArg (fun l => Rp.header.rel w S l x.header) ?_) h0
    first | rfl | (simp only [List.drop_drop]; rfl)
  · refine cast (congrArg (fun l => (Rp.slice Rp.bytes).rel w S l x.txs) ?_) h1
    have e : cs.drop 131 = (cs.drop 131).take 1 := (List.take_of_length_le (by simp [hl])).symm
    refine Eq.trans ?_ e
    first | rfl | (simp only [List.drop_drop]; rfl)
theorem Rp.block_mk {w : World} {S : Fp} {cs : List Value} {x : MBlock} (hl : cs.length = 132)
    (h0 : Rp.header.rel w S ((cs.drop 0).take 131) x.header)
    (h1 : (Rp.slice Rp.bytes).rel w S ((cs.drop 131).take 1) x.txs)
    : Rp.block.rel w S cs x := by
  show (Rp.pair Rp.header (Rp.slice Rp.bytes)).rel w S cs (x.header, x.txs)
  simp only [Rp.pair_iff]
  refine ⟨?_, ?_⟩
  · refine cast (congrArg (fun l => Rp.header.rel w S l x.header) ?_) h0
    first | rfl | (simp only [List.drop_drop]; rfl)
  · refine cast (congrArg (fun l => (Rp.slice Rp.bytes).rel w S l x.txs) ?_) h1
    have e : cs.drop 131 = (cs.drop 131).take 1 := (List.take_of_length_le (by simp [hl])).symm
    refine e.symm.trans ?_
    first | rfl | (simp only [List.drop_drop]; rfl)

structure MTip where
  height : Int
  time : Int
  hash : List Int
  app : List Int
  results : List Int
  deriving DecidableEq, Inhabited
def Rp.tip : Rp MTip := Rp.via (fun x => (x.height, x.time, x.hash, x.app, x.results)) (Rp.pair (Rp.int .i64) (Rp.pair (Rp.int .i64) (Rp.pair Rp.key (Rp.pair Rp.key Rp.key))))
theorem Rp.tip_size : Rp.tip.size = 98 := rfl
theorem Rp.tip_fields {w : World} {S : Fp} {cs : List Value} {x : MTip} (h : Rp.tip.rel w S cs x) :
    (Rp.int .i64).rel w S ((cs.drop 0).take 1) x.height ∧
    (Rp.int .i64).rel w S ((cs.drop 1).take 1) x.time ∧
    Rp.key.rel w S ((cs.drop 2).take 32) x.hash ∧
    Rp.key.rel w S ((cs.drop 34).take 32) x.app ∧
    Rp.key.rel w S ((cs.drop 66).take 32) x.results := by
  have hl : cs.length = 98 := Rp.tip.len h
  have h : (Rp.pair (Rp.int .i64) (Rp.pair (Rp.int .i64) (Rp.pair Rp.key (Rp.pair Rp.key Rp.key)))).rel w S cs (x.height, x.time, x.hash, x.app, x.results) := h
  simp only [Rp.pair_iff] at h
  obtain ⟨h0, h1, h2, h3, h4⟩ := h
  refine ⟨?_, ?_, ?_, ?_, ?_⟩
  · refine cast (congrArg (fun l => (Rp.int .i64).rel w S l x.height) ?_) h0
    first | rfl | (simp only [List.drop_drop]; rfl)
  · refine cast (congrArg (fun l => (Rp.int .i64).rel w S l x.time) ?_) h1
    first | rfl | (simp only [List.drop_drop]; rfl)
  · refine cast (congrArg (fun l => Rp.key.rel w S l x.hash) ?_) h2
    first | rfl | (simp only [List.drop_drop]; rfl)
  · refine cast (congrArg (fun l => Rp.key.rel w S l x.app) ?_) h3
    first | rfl | (simp only [List.drop_drop]; rfl)
  · refine cast (congrArg (fun l => Rp.key.rel w S l x.results) ?_) h4
    have e : cs.drop 66 = (cs.drop 66).take 32 := (List.take_of_length_le (by simp [hl])).symm
    refine Eq.trans ?_ e
    first | rfl | (simp only [List.drop_drop]; rfl)
theorem Rp.tip_mk {w : World} {S : Fp} {cs : List Value} {x : MTip} (hl : cs.length = 98)
    (h0 : (Rp.int .i64).rel w S ((cs.drop 0).take 1) x.height)
    (h1 : (Rp.int .i64).rel w S ((cs.drop 1).take 1) x.time)
    (h2 : Rp.key.rel w S ((cs.drop 2).take 32) x.hash)
    (h3 : Rp.key.rel w S ((cs.drop 34).take 32) x.app)
    (h4 : Rp.key.rel w S ((cs.drop 66).take 32) x.results)
    : Rp.tip.rel w S cs x := by
  show (Rp.pair (Rp.int .i64) (Rp.pair (Rp.int .i64) (Rp.pair Rp.key (Rp.pair Rp.key Rp.key)))).rel w S cs (x.height, x.time, x.hash, x.app, x.results)
  simp only [Rp.pair_iff]
  refine ⟨?_, ?_, ?_, ?_, ?_⟩
  · refine cast (congrArg (fun l => (Rp.int .i64).rel w S l x.height) ?_) h0
    first | rfl | (simp only [List.drop_drop]; rfl)
  · refine cast (congrArg (fun l => (Rp.int .i64).rel w S l x.time) ?_) h1
    first | rfl | (simp only [List.drop_drop]; rfl)
  · refine cast (congrArg (fun l => Rp.key.rel w S l x.hash) ?_) h2
    first | rfl | (simp only [List.drop_drop]; rfl)
  · refine cast (congrArg (fun l => Rp.key.rel w S l x.app) ?_) h3
    first | rfl | (simp only [List.drop_drop]; rfl)
  · refine cast (congrArg (fun l => Rp.key.rel w S l x.results) ?_) h4
    have e : cs.drop 66 = (cs.drop 66).take 32 := (List.take_of_length_le (by simp [hl])).symm
    refine e.symm.trans ?_
    first | rfl | (simp only [List.drop_drop]; rfl)

structure MOp where
  kind : Int
  n : Int
  bytes : Int
  gas : Int
  raw : List Int
  deriving DecidableEq, Inhabited
def Rp.op : Rp MOp := Rp.via (fun x => (x.kind, x.n, x.bytes, x.gas, x.raw)) (Rp.pair (Rp.int .i64) (Rp.pair (Rp.int .i64) (Rp.pair (Rp.int .i64) (Rp.pair (Rp.int .i64) Rp.bytes))))
theorem Rp.op_size : Rp.op.size = 5 := rfl
theorem Rp.op_fields {w : World} {S : Fp} {cs : List Value} {x : MOp} (h : Rp.op.rel w S cs x) :
    (Rp.int .i64).rel w S ((cs.drop 0).take 1) x.kind ∧
    (Rp.int .i64).rel w S ((cs.drop 1).take 1) x.n ∧
    (Rp.int .i64).rel w S ((cs.drop 2).take 1) x.bytes ∧
    (Rp.int .i64).rel w S ((cs.drop 3).take 1) x.gas ∧
    Rp.bytes.rel w S ((cs.drop 4).take 1) x.raw := by
  have hl : cs.length = 5 := Rp.op.len h
  have h : (Rp.pair (Rp.int .i64) (Rp.pair (Rp.int .i64) (Rp.pair (Rp.int .i64) (Rp.pair (Rp.int .i64) Rp.bytes)))).rel w S cs (x.kind, x.n, x.bytes, x.gas, x.raw) := h
  simp only [Rp.pair_iff] at h
  obtain ⟨h0, h1, h2, h3, h4⟩ := h
  refine ⟨?_, ?_, ?_, ?_, ?_⟩
  · refine cast (congrArg (fun l => (Rp.int .i64).rel w S l x.kind) ?_) h0
    first | rfl | (simp only [List.drop_drop]; rfl)
  · refine cast (congrArg (fun l => (Rp.int .i64).rel w S l x.n) ?_) h1
    first | rfl | (simp only [List.drop_drop]; rfl)
  · refine cast (congrArg (fun l => (Rp.int .i64).rel w S l x.bytes) ?_) h2
    first | rfl | (simp only [List.drop_drop]; rfl)
  · refine cast (congrArg (fun l => (Rp.int .i64).rel w S l x.gas) ?_) h3
    first | rfl | (simp only [List.drop_drop]; rfl)
  · refine cast (congrArg (fun l => Rp.bytes.rel w S l x.raw) ?_) h4
    have e : cs.drop 4 = (cs.drop 4).take 1 := (List.take_of_length_le (by simp [hl])).symm
    refine Eq.trans ?_ e
    first | rfl | (simp only [List.drop_drop]; rfl)
theorem Rp.op_mk {w : World} {S : Fp} {cs : List Value} {x : MOp} (hl : cs.length = 5)
    (h0 : (Rp.int .i64).rel w S ((cs.drop 0).take 1) x.kind)
    (h1 : (Rp.int .i64).rel w S ((cs.drop 1).take 1) x.n)
    (h2 : (Rp.int .i64).rel w S ((cs.drop 2).take 1) x.bytes)
    (h3 : (Rp.int .i64).rel w S ((cs.drop 3).take 1) x.gas)
    (h4 : Rp.bytes.rel w S ((cs.drop 4).take 1) x.raw)
    : Rp.op.rel w S cs x := by
  show (Rp.pair (Rp.int .i64) (Rp.pair (Rp.int .i64) (Rp.pair (Rp.int .i64) (Rp.pair (Rp.int .i64) Rp.bytes)))).rel w S cs (x.kind, x.n, x.bytes, x.gas, x.raw)
  simp only [Rp.pair_iff]
  refine ⟨?_, ?_, ?_, ?_, ?_⟩
  · refine cast (congrArg (fun l => (Rp.int .i64).rel w S l x.kind) ?_) h0
    first | rfl | (simp only [List.drop_drop]; rfl)
  · refine cast (congrArg (fun l => (Rp.int .i64).rel w S l x.n) ?_) h1
    first | rfl | (simp only [List.drop_drop]; rfl)
  · refine cast (congrArg (fun l => (Rp.int .i64).rel w S l x.bytes) ?_) h2
    first | rfl | (simp only [List.drop_drop]; rfl)
  · refine cast (congrArg (fun l => (Rp.int .i64).rel w S l x.gas) ?_) h3
    first | rfl | (simp only [List.drop_drop]; rfl)
  · refine cast (congrArg (fun l => Rp.bytes.rel w S l x.raw) ?_) h4
    have e : cs.drop 4 = (cs.drop 4).take 1 := (List.take_of_length_le (by simp [hl])).symm
    refine e.symm.trans ?_
    first | rfl | (simp only [List.drop_drop]; rfl)

structure MCounts where
  submitted : Int
  refused : Int
  admitted : Int
  committed : Int
  evicted : Int
  expired : Int
  invalid : Int
  flushed : Int
  pending : Int
  deriving DecidableEq, Inhabited
def Rp.counts : Rp MCounts := Rp.via (fun x => (x.submitted, x.refused, x.admitted, x.committed, x.evicted, x.expired, x.invalid, x.flushed, x.pending)) (Rp.pair (Rp.int .i64) (Rp.pair (Rp.int .i64) (Rp.pair (Rp.int .i64) (Rp.pair (Rp.int .i64) (Rp.pair (Rp.int .i64) (Rp.pair (Rp.int .i64) (Rp.pair (Rp.int .i64) (Rp.pair (Rp.int .i64) (Rp.int .i64)))))))))
theorem Rp.counts_size : Rp.counts.size = 9 := rfl
theorem Rp.counts_fields {w : World} {S : Fp} {cs : List Value} {x : MCounts} (h : Rp.counts.rel w S cs x) :
    (Rp.int .i64).rel w S ((cs.drop 0).take 1) x.submitted ∧
    (Rp.int .i64).rel w S ((cs.drop 1).take 1) x.refused ∧
    (Rp.int .i64).rel w S ((cs.drop 2).take 1) x.admitted ∧
    (Rp.int .i64).rel w S ((cs.drop 3).take 1) x.committed ∧
    (Rp.int .i64).rel w S ((cs.drop 4).take 1) x.evicted ∧
    (Rp.int .i64).rel w S ((cs.drop 5).take 1) x.expired ∧
    (Rp.int .i64).rel w S ((cs.drop 6).take 1) x.invalid ∧
    (Rp.int .i64).rel w S ((cs.drop 7).take 1) x.flushed ∧
    (Rp.int .i64).rel w S ((cs.drop 8).take 1) x.pending := by
  have hl : cs.length = 9 := Rp.counts.len h
  have h : (Rp.pair (Rp.int .i64) (Rp.pair (Rp.int .i64) (Rp.pair (Rp.int .i64) (Rp.pair (Rp.int .i64) (Rp.pair (Rp.int .i64) (Rp.pair (Rp.int .i64) (Rp.pair (Rp.int .i64) (Rp.pair (Rp.int .i64) (Rp.int .i64))))))))).rel w S cs (x.submitted, x.refused, x.admitted, x.committed, x.evicted, x.expired, x.invalid, x.flushed, x.pending) := h
  simp only [Rp.pair_iff] at h
  obtain ⟨h0, h1, h2, h3, h4, h5, h6, h7, h8⟩ := h
  refine ⟨?_, ?_, ?_, ?_, ?_, ?_, ?_, ?_, ?_⟩
  · refine cast (congrArg (fun l => (Rp.int .i64).rel w S l x.submitted) ?_) h0
    first | rfl | (simp only [List.drop_drop]; rfl)
  · refine cast (congrArg (fun l => (Rp.int .i64).rel w S l x.refused) ?_) h1
    first | rfl | (simp only [List.drop_drop]; rfl)
  · refine cast (congrArg (fun l => (Rp.int .i64).rel w S l x.admitted) ?_) h2
    first | rfl | (simp only [List.drop_drop]; rfl)
  · refine cast (congrArg (fun l => (Rp.int .i64).rel w S l x.committed) ?_) h3
    first | rfl | (simp only [List.drop_drop]; rfl)
  · refine cast (congrArg (fun l => (Rp.int .i64).rel w S l x.evicted) ?_) h4
    first | rfl | (simp only [List.drop_drop]; rfl)
  · refine cast (congrArg (fun l => (Rp.int .i64).rel w S l x.expired) ?_) h5
    first | rfl | (simp only [List.drop_drop]; rfl)
  · refine cast (congrArg (fun l => (Rp.int .i64).rel w S l x.invalid) ?_) h6
    first | rfl | (simp only [List.drop_drop]; rfl)
  · refine cast (congrArg (fun l => (Rp.int .i64).rel w S l x.flushed) ?_) h7
    first | rfl | (simp only [List.drop_drop]; rfl)
  · refine cast (congrArg (fun l => (Rp.int .i64).rel w S l x.pending) ?_) h8
    have e : cs.drop 8 = (cs.drop 8).take 1 := (List.take_of_length_le (by simp [hl])).symm
    refine Eq.trans ?_ e
    first | rfl | (simp only [List.drop_drop]; rfl)
theorem Rp.counts_mk {w : World} {S : Fp} {cs : List Value} {x : MCounts} (hl : cs.length = 9)
    (h0 : (Rp.int .i64).rel w S ((cs.drop 0).take 1) x.submitted)
    (h1 : (Rp.int .i64).rel w S ((cs.drop 1).take 1) x.refused)
    (h2 : (Rp.int .i64).rel w S ((cs.drop 2).take 1) x.admitted)
    (h3 : (Rp.int .i64).rel w S ((cs.drop 3).take 1) x.committed)
    (h4 : (Rp.int .i64).rel w S ((cs.drop 4).take 1) x.evicted)
    (h5 : (Rp.int .i64).rel w S ((cs.drop 5).take 1) x.expired)
    (h6 : (Rp.int .i64).rel w S ((cs.drop 6).take 1) x.invalid)
    (h7 : (Rp.int .i64).rel w S ((cs.drop 7).take 1) x.flushed)
    (h8 : (Rp.int .i64).rel w S ((cs.drop 8).take 1) x.pending)
    : Rp.counts.rel w S cs x := by
  show (Rp.pair (Rp.int .i64) (Rp.pair (Rp.int .i64) (Rp.pair (Rp.int .i64) (Rp.pair (Rp.int .i64) (Rp.pair (Rp.int .i64) (Rp.pair (Rp.int .i64) (Rp.pair (Rp.int .i64) (Rp.pair (Rp.int .i64) (Rp.int .i64))))))))).rel w S cs (x.submitted, x.refused, x.admitted, x.committed, x.evicted, x.expired, x.invalid, x.flushed, x.pending)
  simp only [Rp.pair_iff]
  refine ⟨?_, ?_, ?_, ?_, ?_, ?_, ?_, ?_, ?_⟩
  · refine cast (congrArg (fun l => (Rp.int .i64).rel w S l x.submitted) ?_) h0
    first | rfl | (simp only [List.drop_drop]; rfl)
  · refine cast (congrArg (fun l => (Rp.int .i64).rel w S l x.refused) ?_) h1
    first | rfl | (simp only [List.drop_drop]; rfl)
  · refine cast (congrArg (fun l => (Rp.int .i64).rel w S l x.admitted) ?_) h2
    first | rfl | (simp only [List.drop_drop]; rfl)
  · refine cast (congrArg (fun l => (Rp.int .i64).rel w S l x.committed) ?_) h3
    first | rfl | (simp only [List.drop_drop]; rfl)
  · refine cast (congrArg (fun l => (Rp.int .i64).rel w S l x.evicted) ?_) h4
    first | rfl | (simp only [List.drop_drop]; rfl)
  · refine cast (congrArg (fun l => (Rp.int .i64).rel w S l x.expired) ?_) h5
    first | rfl | (simp only [List.drop_drop]; rfl)
  · refine cast (congrArg (fun l => (Rp.int .i64).rel w S l x.invalid) ?_) h6
    first | rfl | (simp only [List.drop_drop]; rfl)
  · refine cast (congrArg (fun l => (Rp.int .i64).rel w S l x.flushed) ?_) h7
    first | rfl | (simp only [List.drop_drop]; rfl)
  · refine cast (congrArg (fun l => (Rp.int .i64).rel w S l x.pending) ?_) h8
    have e : cs.drop 8 = (cs.drop 8).take 1 := (List.take_of_length_le (by simp [hl])).symm
    refine e.symm.trans ?_
    first | rfl | (simp only [List.drop_drop]; rfl)

structure MNetEvent where
  kind : Int
  a : Int
  b : Int
  n : Int
  raw : List Int
  deriving DecidableEq, Inhabited
def Rp.netEvent : Rp MNetEvent := Rp.via (fun x => (x.kind, x.a, x.b, x.n, x.raw)) (Rp.pair (Rp.int .i64) (Rp.pair (Rp.int .i64) (Rp.pair (Rp.int .i64) (Rp.pair (Rp.int .i64) Rp.bytes))))
theorem Rp.netEvent_size : Rp.netEvent.size = 5 := rfl
theorem Rp.netEvent_fields {w : World} {S : Fp} {cs : List Value} {x : MNetEvent} (h : Rp.netEvent.rel w S cs x) :
    (Rp.int .i64).rel w S ((cs.drop 0).take 1) x.kind ∧
    (Rp.int .i64).rel w S ((cs.drop 1).take 1) x.a ∧
    (Rp.int .i64).rel w S ((cs.drop 2).take 1) x.b ∧
    (Rp.int .i64).rel w S ((cs.drop 3).take 1) x.n ∧
    Rp.bytes.rel w S ((cs.drop 4).take 1) x.raw := by
  have hl : cs.length = 5 := Rp.netEvent.len h
  have h : (Rp.pair (Rp.int .i64) (Rp.pair (Rp.int .i64) (Rp.pair (Rp.int .i64) (Rp.pair (Rp.int .i64) Rp.bytes)))).rel w S cs (x.kind, x.a, x.b, x.n, x.raw) := h
  simp only [Rp.pair_iff] at h
  obtain ⟨h0, h1, h2, h3, h4⟩ := h
  refine ⟨?_, ?_, ?_, ?_, ?_⟩
  · refine cast (congrArg (fun l => (Rp.int .i64).rel w S l x.kind) ?_) h0
    first | rfl | (simp only [List.drop_drop]; rfl)
  · refine cast (congrArg (fun l => (Rp.int .i64).rel w S l x.a) ?_) h1
    first | rfl | (simp only [List.drop_drop]; rfl)
  · refine cast (congrArg (fun l => (Rp.int .i64).rel w S l x.b) ?_) h2
    first | rfl | (simp only [List.drop_drop]; rfl)
  · refine cast (congrArg (fun l => (Rp.int .i64).rel w S l x.n) ?_) h3
    first | rfl | (simp only [List.drop_drop]; rfl)
  · refine cast (congrArg (fun l => Rp.bytes.rel w S l x.raw) ?_) h4
    have e : cs.drop 4 = (cs.drop 4).take 1 := (List.take_of_length_le (by simp [hl])).symm
    refine Eq.trans ?_ e
    first | rfl | (simp only [List.drop_drop]; rfl)
theorem Rp.netEvent_mk {w : World} {S : Fp} {cs : List Value} {x : MNetEvent} (hl : cs.length = 5)
    (h0 : (Rp.int .i64).rel w S ((cs.drop 0).take 1) x.kind)
    (h1 : (Rp.int .i64).rel w S ((cs.drop 1).take 1) x.a)
    (h2 : (Rp.int .i64).rel w S ((cs.drop 2).take 1) x.b)
    (h3 : (Rp.int .i64).rel w S ((cs.drop 3).take 1) x.n)
    (h4 : Rp.bytes.rel w S ((cs.drop 4).take 1) x.raw)
    : Rp.netEvent.rel w S cs x := by
  show (Rp.pair (Rp.int .i64) (Rp.pair (Rp.int .i64) (Rp.pair (Rp.int .i64) (Rp.pair (Rp.int .i64) Rp.bytes)))).rel w S cs (x.kind, x.a, x.b, x.n, x.raw)
  simp only [Rp.pair_iff]
  refine ⟨?_, ?_, ?_, ?_, ?_⟩
  · refine cast (congrArg (fun l => (Rp.int .i64).rel w S l x.kind) ?_) h0
    first | rfl | (simp only [List.drop_drop]; rfl)
  · refine cast (congrArg (fun l => (Rp.int .i64).rel w S l x.a) ?_) h1
    first | rfl | (simp only [List.drop_drop]; rfl)
  · refine cast (congrArg (fun l => (Rp.int .i64).rel w S l x.b) ?_) h2
    first | rfl | (simp only [List.drop_drop]; rfl)
  · refine cast (congrArg (fun l => (Rp.int .i64).rel w S l x.n) ?_) h3
    first | rfl | (simp only [List.drop_drop]; rfl)
  · refine cast (congrArg (fun l => Rp.bytes.rel w S l x.raw) ?_) h4
    have e : cs.drop 4 = (cs.drop 4).take 1 := (List.take_of_length_le (by simp [hl])).symm
    refine e.symm.trans ?_
    first | rfl | (simp only [List.drop_drop]; rfl)

structure MLetter where
  src : Int
  dst : Int
  block : Bool
  raw : List Int
  deriving DecidableEq, Inhabited
def Rp.letter : Rp MLetter := Rp.via (fun x => (x.src, x.dst, x.block, x.raw)) (Rp.pair (Rp.int .i64) (Rp.pair (Rp.int .i64) (Rp.pair Rp.bool Rp.bytes)))
theorem Rp.letter_size : Rp.letter.size = 4 := rfl
theorem Rp.letter_fields {w : World} {S : Fp} {cs : List Value} {x : MLetter} (h : Rp.letter.rel w S cs x) :
    (Rp.int .i64).rel w S ((cs.drop 0).take 1) x.src ∧
    (Rp.int .i64).rel w S ((cs.drop 1).take 1) x.dst ∧
    Rp.bool.rel w S ((cs.drop 2).take 1) x.block ∧
    Rp.bytes.rel w S ((cs.drop 3).take 1) x.raw := by
  have hl : cs.length = 4 := Rp.letter.len h
  have h : (Rp.pair (Rp.int .i64) (Rp.pair (Rp.int .i64) (Rp.pair Rp.bool Rp.bytes))).rel w S cs (x.src, x.dst, x.block, x.raw) := h
  simp only [Rp.pair_iff] at h
  obtain ⟨h0, h1, h2, h3⟩ := h
  refine ⟨?_, ?_, ?_, ?_⟩
  · refine cast (congrArg (fun l => (Rp.int .i64).rel w S l x.src) ?_) h0
    first | rfl | (simp only [List.drop_drop]; rfl)
  · refine cast (congrArg (fun l => (Rp.int .i64).rel w S l x.dst) ?_) h1
    first | rfl | (simp only [List.drop_drop]; rfl)
  · refine cast (congrArg (fun l => Rp.bool.rel w S l x.block) ?_) h2
    first | rfl | (simp only [List.drop_drop]; rfl)
  · refine cast (congrArg (fun l => Rp.bytes.rel w S l x.raw) ?_) h3
    have e : cs.drop 3 = (cs.drop 3).take 1 := (List.take_of_length_le (by simp [hl])).symm
    refine Eq.trans ?_ e
    first | rfl | (simp only [List.drop_drop]; rfl)
theorem Rp.letter_mk {w : World} {S : Fp} {cs : List Value} {x : MLetter} (hl : cs.length = 4)
    (h0 : (Rp.int .i64).rel w S ((cs.drop 0).take 1) x.src)
    (h1 : (Rp.int .i64).rel w S ((cs.drop 1).take 1) x.dst)
    (h2 : Rp.bool.rel w S ((cs.drop 2).take 1) x.block)
    (h3 : Rp.bytes.rel w S ((cs.drop 3).take 1) x.raw)
    : Rp.letter.rel w S cs x := by
  show (Rp.pair (Rp.int .i64) (Rp.pair (Rp.int .i64) (Rp.pair Rp.bool Rp.bytes))).rel w S cs (x.src, x.dst, x.block, x.raw)
  simp only [Rp.pair_iff]
  refine ⟨?_, ?_, ?_, ?_⟩
  · refine cast (congrArg (fun l => (Rp.int .i64).rel w S l x.src) ?_) h0
    first | rfl | (simp only [List.drop_drop]; rfl)
  · refine cast (congrArg (fun l => (Rp.int .i64).rel w S l x.dst) ?_) h1
    first | rfl | (simp only [List.drop_drop]; rfl)
  · refine cast (congrArg (fun l => Rp.bool.rel w S l x.block) ?_) h2
    first | rfl | (simp only [List.drop_drop]; rfl)
  · refine cast (congrArg (fun l => Rp.bytes.rel w S l x.raw) ?_) h3
    have e : cs.drop 3 = (cs.drop 3).take 1 := (List.take_of_length_le (by simp [hl])).symm
    refine e.symm.trans ?_
    first | rfl | (simp only [List.drop_drop]; rfl)

end Go.Proofs.Ytplkofafnbfkmaa
