/- Parts of a proof, one behind the other: O7, O8, O9, OA, OB, OC, OD, OE, OF, LRefuses. -/
import Derived.Test.YtplkofafnbfkmaaW05
/- The merging of two sorted ranges, where one has one element. -/
namespace Go.Proofs.Ytplkofafnbfkmaa
open Go.RowKit
variable {G : GS}
/-- Ahead of a list of elements that come before it. -/
theorem one_left {x : TE} {B : List TE} (hB : SrtT B) (ht : ∀ y ∈ B, x.2 < y.2) (hn : TagsNe B) {k : Nat} (h1 : ∀ q y, B[q]? = some y → q < k → befE y.1 x.1 = true) (h2 : ∀ q y, B[q]? = some y → k ≤ q → befE y.1 x.1 = false) :
    B.take k ++ x :: B.drop k = srt (x :: B) := by
  have hn' : TagsNe (x :: B) := List.pairwise_cons.2 ⟨fun y hy => Nat.ne_of_lt (ht y hy), hn⟩
  have hp : (B.take k ++ x :: B.drop k).Perm (x :: B) := by
    have := (List.perm_middle (a := x) (l₁ := B.take k) (l₂ := B.drop k))
    rwa [List.take_append_drop] at this
  have hB' := hB
  rw [← List.take_append_drop k B] at hB'
  obtain ⟨s1, s2, s3⟩ := pw_app.1 hB'
  have lx : ∀ y ∈ B.take k, ltT y x := fun y hy => by
    obtain ⟨i, hi, rfl⟩ := List.mem_iff_getElem.1 hy
    simp at hi
    exact befE_t (h1 i _ (by simp) (by omega))
  have rx : ∀ y ∈ B.drop k, ltT x y := fun y hy => by
    have hm := List.mem_of_mem_drop hy
    obtain ⟨i, hi, rfl⟩ := List.mem_iff_getElem.1 hy
    simp at hi
    exact befE_f (h2 (k + i) _ (by simp) (by omega)) (ht _ hm)
  exact srt_of hp (pw_app.2 ⟨s1, List.pairwise_cons.2 ⟨rx, s2⟩, fun z hz y hy => by
    rcases List.mem_cons.1 hy with rfl | hy
    · exact lx z hz
    · exact s3 z hz y hy⟩) hn'
theorem one_right {y : TE} {A : List TE} (hA : SrtT A) (ht : ∀ z ∈ A, z.2 < y.2) (hn : TagsNe A) {k : Nat} (h1 : ∀ q z, A[q]? = some z → q < k → befE y.1 z.1 = false) (h2 : ∀ q z, A[q]? = some z → k ≤ q → befE y.1 z.1 = true) :
    A.take k ++ y :: A.drop k = srt (A ++ [y]) := by
  have hn' : TagsNe (A ++ [y]) := List.pairwise_append.2 ⟨hn, by simp, fun z hz w hw => by rw [List.mem_singleton.1 hw]; exact Nat.ne_of_lt (ht z hz)⟩
  have hp : (A.take k ++ y :: A.drop k).Perm (A ++ [y]) := by
    have := (List.perm_middle (a := y) (l₁ := A.take k) (l₂ := A.drop k))
    rw [List.take_append_drop] at this
    exact this.trans (List.perm_append_singleton y A).symm
  have hA' := hA
  rw [← List.take_append_drop k A] at hA'
  obtain ⟨s1, s2, s3⟩ := pw_app.1 hA'
  have lx : ∀ z ∈ A.take k, ltT z y := fun z hz => by
    have hm := List.mem_of_mem_take hz
    obtain ⟨i, hi, rfl⟩ := List.mem_iff_getElem.1 hz
    simp at hi
    exact befE_f (h1 i _ (by simp) (by omega)) (ht _ hm)
  have rx : ∀ z ∈ A.drop k, ltT y z := fun z hz => by
    obtain ⟨i, hi, rfl⟩ := List.mem_iff_getElem.1 hz
    simp at hi
    exact befE_t (h2 (k + i) _ (by simp) (by omega))
  exact srt_of hp (pw_app.2 ⟨s1, List.pairwise_cons.2 ⟨rx, s2⟩, fun z hz w hw => by
    rcases List.mem_cons.1 hw with rfl | hw
    · exact lx z hz
    · exact s3 z hz w hw⟩) hn'
theorem half_w (p q : Nat) (h : p + q < 4611686018427387904) : IntKind.i64.wrap (((p : Int) + (q : Int)).fdiv (2 ^ min (Int.toNat 1) IntKind.u64.bits)) = (((p + q) / 2 : Nat) : Int) := by
  have e : (2 : Int) ^ min (Int.toNat 1) IntKind.u64.bits = 2 := by decide
  rw [e, Int.fdiv_eq_ediv_of_nonneg _ (by omega)]
  refine (wrap_in _ (by omega) (by omega)).trans ?_
  omega
set_option maxHeartbeats 2000000 in
theorem sym1_r (n : Nat) (hN : n < 1152921504606846976) (P B S : List TE) (x : TE) (a b : Nat) (hP : P.length = a) (hb : a + 1 + B.length = b) (hS : b + S.length = n) (hB : SrtT B) (ht : ∀ y ∈ B, x.2 < y.2) (hn : TagsNe B) :
    SemR Try.prog G 52 [dataM n, .int .i64 a, .int .i64 ((a + 1 : Nat) : Int), .int .i64 b] (sortB n (P ++ (x :: (B ++ S)))) 2 (.tup []) (sortB n (P ++ (srt (x :: B) ++ S))) 2 := by
  have hlen : (P ++ (x :: (B ++ S))).length = n := by simp; omega
  unfold dataM
  refine semR_of_vc seat Try.func52 rfl rfl (Nat.le_of_ble_eq_true rfl) (Nat.le_of_ble_eq_true rfl) (N := 177) rfl rfl ?_
  refine go0 ?_
  refine ⟨fun hd => ?_, fun hd => ?_⟩
  · refine go0 ?_
    refine ⟨Nat × Nat, fun q => [(9, .int .i64 ((a + 1 + q.2 : Nat) : Int)), (8, .int .i64 ((a + 1 + q.1 : Nat) : Int)), (4, .ptr 2 2 0 0 []), (1, .int .i64 a)], fun q => sortB n (P ++ (x :: (B ++ S))) ++ [(2, ⟨76, 2, false, 0, [dataM n]⟩)], 3,
      fun q => q.1 ≤ q.2 ∧ q.2 ≤ B.length ∧ (∀ k y, B[k]? = some y → k < q.1 → befE y.1 x.1 = true) ∧ (∀ k y, B[k]? = some y → q.2 ≤ k → befE y.1 x.1 = false), fun q => q.2 - q.1, ⟨(0, B.length), ⟨by omega, by omega, fun _ _ _ h => absurd h (Nat.not_lt_zero _), fun k y h1 h2 => by
        have := (List.getElem?_eq_some_iff.1 h1).1; omega⟩, (by dsimp only; exact (vm [(2, _)] []))⟩, ?_⟩
    rintro ⟨i, j⟩ ⟨h1, h2, h3, h4⟩
    dsimp only at h1 h2 h3 h4 ⊢
    refine ⟨fun hd => ?_, fun hd => ?_⟩
    · have hij : i < j := by have := of_decide_eq_true hd; omega
      obtain ⟨c, hc⟩ : ∃ c, c = (i + j) / 2 := ⟨_, rfl⟩
      obtain ⟨y, hy⟩ := at_some (l := B) (i := c) (by omega)
      have hx1 : (P ++ (x :: (B ++ S)))[a + 1 + c]? = some y := by
        rw [List.getElem?_append_right (by omega), show a + 1 + c - P.length = c + 1 by omega, List.getElem?_cons_succ, List.getElem?_append_left (List.getElem?_eq_some_iff.1 hy).1]; exact hy
      have hx2 : (P ++ (x :: (B ++ S)))[a]? = some x := at_mid hP
      have hless := less_at (G := G) n _ hlen _ _ hx1 hx2
      (repeat ((try conv => whnf); first | (with_reducible refine ⟨_, sv (half_w _ _ (by omega)), ?_⟩) | (with_reducible refine And.intro (Nat.zero_le _) ?_) | (with_reducible refine And.intro rfl ?_) | (with_reducible refine ⟨fun _ => ?_, fun h => Bool.noConfusion h⟩) | (with_reducible refine ⟨fun h => Bool.noConfusion h, fun _ => ?_⟩) | (with_reducible refine ⟨_, sv (add32 _ _), ?_⟩) | (with_reducible refine ⟨_, sv (xor32 _ _), ?_⟩) | (with_reducible refine ⟨_, sv (and32 _ _), ?_⟩) | (with_reducible refine ⟨_, sv (or32 _ _), ?_⟩) | (with_reducible refine ⟨_, sv (not32 _), ?_⟩) | (with_reducible refine ⟨_, sv (shlI _ _ (by omega) (by omega)), ?_⟩) | (with_reducible refine ⟨_, sv (shrI _ _ (by omega) (by omega)), ?_⟩) | (with_reducible refine ⟨_, sv (conv832 _), ?_⟩) | (with_reducible refine ⟨_, sv (conv328 _), ?_⟩) | (with_reducible refine ⟨_, sv (wrap_in _ (by omega) (by omega)), ?_⟩) | (with_reducible refine ⟨_, sv (wrapu_in _ (by omega) (by omega)), ?_⟩) | (with_reducible refine ⟨_, sv (wrap8_in _ (by omega) (by omega)), ?_⟩) | refine ⟨_, rfl, ?_⟩ | refine And.intro (show okDraw _ _ = true by kernel_rfl) ?_ | refine And.intro (by omega) ?_))
      refine .inr ⟨_, _, _, _, _, _, hless, [(0, 0), (1, 1)], [], ⟨rfl, trivial, rfl, lm, mm⟩, rfl, rfl, ?_⟩
      refine go0 ?_
      refine ⟨fun hb => ?_, fun hb => ?_⟩
      · refine go0 ?_
        exact ⟨(c + 1, j), ⟨by omega, h2, fun k z hz hk => by
          have h5 := befE_t hb
          have hm := ht z (mem_at hz)
          rcases pw_le hB hz hy (by omega) with rfl | h
          · exact hb
          · exact (befE_iff hm).2 (ltT_trans h h5), h4⟩, by show j - (c + 1) < j - i; omega, (by dsimp only; exact (vm [(2, _)] []))⟩
      · refine go0 ?_
        exact ⟨(i, c), ⟨by omega, by omega, h3, fun k z hz hk => by
          have h5 := befE_f hb (ht y (mem_at hy))
          cases hq : befE z.1 x.1 with
          | false => rfl
          | true =>
            exfalso
            have h6 := befE_t hq
            rcases pw_le hB hy hz (by omega) with rfl | h
            · exact ltT_asymm h5 h6
            · exact ltT_asymm (ltT_trans h5 h) h6⟩, by show c - i < j - i; omega, (by dsimp only; exact (vm [(2, _)] []))⟩
    · have hij : i = j := by have := of_decide_eq_false hd; omega
      subst hij
      have hfin := one_left hB ht hn h3 h4
      rw [← hfin]
      refine go0 ?_
      refine ⟨Nat, fun q => [(11, .int .i64 ((a + q : Nat) : Int)), (8, .int .i64 ((a + 1 + i : Nat) : Int)), (4, .ptr 2 2 0 0 [])], fun q => sortB n (P ++ (B.take q ++ (x :: (B.drop q ++ S)))) ++ [(2, ⟨76, 2, false, 0, [dataM n]⟩)], 3, fun q => q ≤ i, fun q => i - q, ⟨0, Nat.zero_le _, (by dsimp only; exact (vm [(2, _)] []))⟩, ?_⟩
      intro q hq
      refine go0 ?_
      refine ⟨fun hd => ?_, fun hd => ?_⟩
      · have hqi : q < i := by have := of_decide_eq_true hd; omega
        obtain ⟨y, hy⟩ := at_some (l := B) (i := q) (by omega)
        obtain ⟨hq2, hy2⟩ := List.getElem?_eq_some_iff.1 hy
        have hsw : swp (P ++ (B.take q ++ (x :: (B.drop q ++ S)))) (a + q) (a + (q + 1)) = P ++ (B.take (q + 1) ++ (x :: (B.drop (q + 1) ++ S))) := by
          have := swp_app' (X := P ++ B.take q) (Y := []) (Z := B.drop (q + 1) ++ S) (a := x) (b := y) (i := a + q) (j := a + (q + 1)) (by simp; omega) (by simp; omega)
          rw [List.drop_eq_getElem_cons hq2, hy2, List.take_succ_eq_append_getElem hq2, hy2]
          simpa using this
        have hlen2 : (P ++ (B.take q ++ (x :: (B.drop q ++ S)))).length = n := by simp; omega
        have hswap := swap_p (G := G) n _ hlen2 (a + q) (a + (q + 1)) (by omega) (by omega)
        rw [hsw] at hswap
        refine go0 ?_
        refine .inr ⟨_, _, _, _, _, _, hswap, [(0, 0), (1, 1)], [], ⟨rfl, trivial, rfl, lm, mm⟩, rfl, rfl, ?_⟩
        refine go0 ?_
        exact ⟨q + 1, by show q + 1 ≤ i; omega, by show i - (q + 1) < i - q; omega, (by dsimp only; exact (vm [(2, _)] []))⟩
      · have hqi : q = i := by have := of_decide_eq_false hd; omega
        subst hqi
        dsimp only
        rw [show P ++ ((B.take q ++ x :: B.drop q) ++ S) = P ++ (B.take q ++ (x :: (B.drop q ++ S))) by simp]
        refine go0 ?_
        refine ⟨[], [], [], rfl, rfl, trivial, rfl, trivial, ?_⟩
        · exact mm
  · exfalso
    have := of_decide_eq_false hd
    omega
set_option maxHeartbeats 2000000 in
theorem sym2_r (n : Nat) (hN : n < 1152921504606846976) (P A S : List TE) (y : TE) (a m : Nat) (hP : P.length = a) (hm : a + A.length = m) (hS : m + 1 + S.length = n) (hA1 : A.length ≠ 1) (hA : SrtT A) (ht : ∀ z ∈ A, z.2 < y.2) (hn : TagsNe A) :
    SemR Try.prog G 52 [dataM n, .int .i64 a, .int .i64 m, .int .i64 ((m + 1 : Nat) : Int)] (sortB n (P ++ (A ++ (y :: S)))) 2 (.tup []) (sortB n (P ++ (srt (A ++ [y]) ++ S))) 2 := by
  have hlen : (P ++ (A ++ (y :: S))).length = n := by simp; omega
  unfold dataM
  refine semR_of_vc seat Try.func52 rfl rfl (Nat.le_of_ble_eq_true rfl) (Nat.le_of_ble_eq_true rfl) (N := 177) rfl rfl ?_
  refine go0 ?_
  refine ⟨fun hd => ?_, fun hd => ?_⟩
  · exfalso
    have := of_decide_eq_true hd
    omega
  refine go0 ?_
  refine ⟨fun hd => ?_, fun hd => ?_⟩
  · refine go0 ?_
    refine ⟨Nat × Nat, fun q => [(13, .int .i64 ((a + q.2 : Nat) : Int)), (12, .int .i64 ((a + q.1 : Nat) : Int)), (4, .ptr 2 2 0 0 []), (2, .int .i64 m)], fun q => sortB n (P ++ (A ++ (y :: S))) ++ [(2, ⟨76, 2, false, 0, [dataM n]⟩)], 3,
      fun q => q.1 ≤ q.2 ∧ q.2 ≤ A.length ∧ (∀ k z, A[k]? = some z → k < q.1 → befE y.1 z.1 = false) ∧ (∀ k z, A[k]? = some z → q.2 ≤ k → befE y.1 z.1 = true), fun q => q.2 - q.1, ⟨(0, A.length), ⟨by omega, by omega, fun _ _ _ h => absurd h (Nat.not_lt_zero _), fun k y h1 h2 => by
        have := (List.getElem?_eq_some_iff.1 h1).1; omega⟩, (by dsimp only; exact (vm [(2, _)] []))⟩, ?_⟩
    rintro ⟨i, j⟩ ⟨h1, h2, h3, h4⟩
    dsimp only at h1 h2 h3 h4 ⊢
    refine ⟨fun hd => ?_, fun hd => ?_⟩
    · have hij : i < j := by have := of_decide_eq_true hd; omega
      obtain ⟨c, hc⟩ : ∃ c, c = (i + j) / 2 := ⟨_, rfl⟩
      obtain ⟨z, hz⟩ := at_some (l := A) (i := c) (by omega)
      have hx1 : (P ++ (A ++ (y :: S)))[m]? = some y := by
        rw [← List.append_assoc]; exact at_mid (by simp; omega)
      have hx2 : (P ++ (A ++ (y :: S)))[a + c]? = some z := by
        rw [List.getElem?_append_right (by omega), show a + c - P.length = c by omega, List.getElem?_append_left (List.getElem?_eq_some_iff.1 hz).1]; exact hz
      have hless := less_at (G := G) n _ hlen _ _ hx1 hx2
      (repeat ((try conv => whnf); first | (with_reducible refine ⟨_, sv (half_w _ _ (by omega)), ?_⟩) | (with_reducible refine And.intro (Nat.zero_le _) ?_) | (with_reducible refine And.intro rfl ?_) | (with_reducible refine ⟨fun _ => ?_, fun h => Bool.noConfusion h⟩) | (with_reducible refine ⟨fun h => Bool.noConfusion h, fun _ => ?_⟩) | (with_reducible refine ⟨_, sv (add32 _ _), ?_⟩) | (with_reducible refine ⟨_, sv (xor32 _ _), ?_⟩) | (with_reducible refine ⟨_, sv (and32 _ _), ?_⟩) | (with_reducible refine ⟨_, sv (or32 _ _), ?_⟩) | (with_reducible refine ⟨_, sv (not32 _), ?_⟩) | (with_reducible refine ⟨_, sv (shlI _ _ (by omega) (by omega)), ?_⟩) | (with_reducible refine ⟨_, sv (shrI _ _ (by omega) (by omega)), ?_⟩) | (with_reducible refine ⟨_, sv (conv832 _), ?_⟩) | (with_reducible refine ⟨_, sv (conv328 _), ?_⟩) | (with_reducible refine ⟨_, sv (wrap_in _ (by omega) (by omega)), ?_⟩) | (with_reducible refine ⟨_, sv (wrapu_in _ (by omega) (by omega)), ?_⟩) | (with_reducible refine ⟨_, sv (wrap8_in _ (by omega) (by omega)), ?_⟩) | refine ⟨_, rfl, ?_⟩ | refine And.intro (show okDraw _ _ = true by kernel_rfl) ?_ | refine And.intro (by omega) ?_))
      refine .inr ⟨_, _, _, _, _, _, hless, [(0, 0), (1, 1)], [], ⟨rfl, trivial, rfl, lm, mm⟩, rfl, rfl, ?_⟩
      refine go0 ?_
      refine ⟨fun hb => ?_, fun hb => ?_⟩
      · have hb : befE y.1 z.1 = false := by simpa using hb
        refine go0 ?_
        exact ⟨(c + 1, j), ⟨by omega, h2, fun k w hw hk => by
          have h5 := befE_f hb (ht z (mem_at hz))
          cases hq : befE y.1 w.1 with
          | false => rfl
          | true =>
            exfalso
            have h6 := befE_t hq
            rcases pw_le hA hw hz (by omega) with rfl | h
            · exact ltT_asymm h5 h6
            · exact ltT_asymm (ltT_trans h h5) h6, h4⟩, by show j - (c + 1) < j - i; omega, (by dsimp only; exact (vm [(2, _)] []))⟩
      · have hb : befE y.1 z.1 = true := by simpa using hb
        refine go0 ?_
        exact ⟨(i, c), ⟨by omega, by omega, h3, fun k w hw hk => by
          have h5 := befE_t hb
          have hmm := ht w (mem_at hw)
          rcases pw_le hA hz hw (by omega) with rfl | h
          · exact hb
          · exact (befE_iff hmm).2 (ltT_trans h5 h)⟩, by show c - i < j - i; omega, (by dsimp only; exact (vm [(2, _)] []))⟩
    · have hij : i = j := by have := of_decide_eq_false hd; omega
      subst hij
      have hfin := one_right hA ht hn h3 h4
      rw [← hfin]
      refine go0 ?_
      refine ⟨Nat, fun q => [(15, .int .i64 ((a + q : Nat) : Int)), (12, .int .i64 ((a + i : Nat) : Int)), (4, .ptr 2 2 0 0 [])], fun q => sortB n (P ++ (A.take q ++ (y :: (A.drop q ++ S)))) ++ [(2, ⟨76, 2, false, 0, [dataM n]⟩)], 3, fun q => i ≤ q ∧ q ≤ A.length, fun q => q, ⟨A.length, ⟨h2, Nat.le_refl _⟩, ?_⟩, ?_⟩
      · dsimp only
        rw [List.take_length, List.drop_length, List.nil_append]
        exact (vm [(2, _)] [])
      rintro q ⟨hq, hqA⟩
      refine go0 ?_
      refine ⟨fun hd => ?_, fun hd => ?_⟩
      · have hqi : i < q := by have := of_decide_eq_true hd; omega
        obtain ⟨r, rfl⟩ : ∃ r, q = r + 1 := ⟨q - 1, by omega⟩
        obtain ⟨z, hz⟩ := at_some (l := A) (i := r) (by omega)
        obtain ⟨hq2, hy2⟩ := List.getElem?_eq_some_iff.1 hz
        have hsw : swp (P ++ (A.take (r + 1) ++ (y :: (A.drop (r + 1) ++ S)))) (a + (r + 1)) (a + r) = P ++ (A.take r ++ (y :: (A.drop r ++ S))) := by
          rw [swp_comm]
          have := swp_app' (X := P ++ A.take r) (Y := []) (Z := A.drop (r + 1) ++ S) (a := z) (b := y) (i := a + r) (j := a + (r + 1)) (by simp; omega) (by simp; omega)
          rw [List.drop_eq_getElem_cons hq2, hy2, List.take_succ_eq_append_getElem hq2, hy2]
          simpa using this
        have hlen2 : (P ++ (A.take (r + 1) ++ (y :: (A.drop (r + 1) ++ S)))).length = n := by simp; omega
        have hswap := swap_p (G := G) n _ hlen2 (a + (r + 1)) (a + r) (by omega) (by omega)
        rw [hsw] at hswap
        refine go0 ?_
        refine .inr ⟨_, _, _, _, _, _, hswap, [(0, 0), (1, 1)], [], ⟨rfl, trivial, rfl, lm, mm⟩, rfl, rfl, ?_⟩
        refine go0 ?_
        exact ⟨r, ⟨by show i ≤ r; omega, by show r ≤ A.length; omega⟩, by show r < r + 1; omega, (by dsimp only; exact (vm [(2, _)] []))⟩
      · have hqi : q = i := by have := of_decide_eq_false hd; omega
        subst hqi
        dsimp only
        rw [show P ++ ((A.take q ++ y :: A.drop q) ++ S) = P ++ (A.take q ++ (y :: (A.drop q ++ S))) by simp]
        refine go0 ?_
        refine ⟨[], [], [], rfl, rfl, trivial, rfl, trivial, ?_⟩
        · exact mm
  · exfalso
    have := of_decide_eq_false hd
    omega
end Go.Proofs.Ytplkofafnbfkmaa
/- The merging of two sorted ranges. -/
namespace Go.Proofs.Ytplkofafnbfkmaa
open Go.RowKit
variable {G : GS}
/-- What the parts of a merge do. -/
def SymRest (G : GS) (n a m b mid st : Nat) (T0 T3 : List TE) : Prop := ∃ T1 T2 : List TE,
  (st < m → m < mid + m - st → SemR Try.prog G 55 [dataM n, .int .i64 st, .int .i64 m, .int .i64 ((mid + m - st : Nat) : Int)] (sortB n T0) 2 (.tup []) (sortB n T1) 2) ∧ (¬ (st < m ∧ m < mid + m - st) → T0 = T1) ∧
  (a < st → st < mid → SemR Try.prog G 52 [dataM n, .int .i64 a, .int .i64 st, .int .i64 mid] (sortB n T1) 2 (.tup []) (sortB n T2) 2) ∧ (¬ (a < st ∧ st < mid) → T1 = T2) ∧
  (mid < mid + m - st → mid + m - st < b → SemR Try.prog G 52 [dataM n, .int .i64 mid, .int .i64 ((mid + m - st : Nat) : Int), .int .i64 b] (sortB n T2) 2 (.tup []) (sortB n T3) 2) ∧ (¬ (mid < mid + m - st ∧ mid + m - st < b) → T2 = T3)
theorem sym_rest (n : Nat) (hN : n < 1152921504606846976) (P A B S : List TE) (a m b mid st : Nat) (hP : P.length = a) (hm : a + A.length = m) (hb : m + B.length = b) (hS : b + S.length = n) (hA : SrtT A) (hB : SrtT B) (ht : ∀ x ∈ A, ∀ y ∈ B, x.2 < y.2) (hn : TagsNe (A ++ B))
    (k1 : a ≤ st) (k2 : st ≤ m) (k3 : st ≤ mid) (k4 : mid ≤ st + B.length) (g1 : 0 < st - a → mid - st < B.length → gB A B (st - 1 - a) (mid - 1 - (st - 1)) = false) (g2 : st - a < A.length → 0 < mid - st → gB A B (st - a) (mid - 1 - st) = true)
    (ih : ∀ (P A B S : List TE) (a' m' b' : Nat), b' - a' < b - a → P.length = a' → a' + A.length = m' → m' + B.length = b' → b' + S.length = n → 0 < A.length → 0 < B.length → SrtT A → SrtT B → (∀ x ∈ A, ∀ y ∈ B, x.2 < y.2) → TagsNe (A ++ B) →
      SemR Try.prog G 52 [dataM n, .int .i64 a', .int .i64 m', .int .i64 b'] (sortB n (P ++ (A ++ (B ++ S)))) 2 (.tup []) (sortB n (P ++ (srt (A ++ B) ++ S))) 2)
    (hmid : mid < b) (hmid2 : a < mid) :
    SymRest G n a m b mid st (P ++ (A ++ (B ++ S))) (P ++ (srt (A ++ B) ++ S)) := by
  obtain ⟨u, hu⟩ : ∃ u, u = st - a := ⟨_, rfl⟩
  obtain ⟨v, hv⟩ : ∃ v, v = mid - st := ⟨_, rfl⟩
  have hs := sym_srt hA hB ht hn (u := u) (v := v) (by omega) (by omega) (fun h1 h2 => by have := g1 (by omega) (by omega); rwa [show st - 1 - a = u - 1 by omega, show mid - 1 - (st - 1) = v by omega] at this) (fun h1 h2 => by have := g2 (by omega) (by omega); rwa [show st - a = u by omega, show mid - 1 - st = v - 1 by omega] at this)
  obtain ⟨A1, A2, eA, l1⟩ := cut2 A (k := u) (by omega)
  obtain ⟨B1, B2, eB, l2⟩ := cut2 B (k := v) (by omega)
  have tA : A.take u = A1 := by rw [eA, ← l1]; simp
  have dA : A.drop u = A2 := by rw [eA, ← l1]; simp
  have tB : B.take v = B1 := by rw [eB, ← l2]; simp
  have dB : B.drop v = B2 := by rw [eB, ← l2]; simp
  rw [tA, dA, tB, dB] at hs
  have la : A1.length + A2.length = A.length := by rw [eA]; simp
  have lb : B1.length + B2.length = B.length := by rw [eB]; simp
  rw [hs]
  have hA' := hA
  have hB' := hB
  have hn' := hn
  rw [eA] at hA'
  rw [eB] at hB'
  rw [eA, eB] at hn'
  obtain ⟨sA1, sA2, _⟩ := pw_app.1 hA'
  obtain ⟨sB1, sB2, _⟩ := pw_app.1 hB'
  have hp := app4_perm A1 A2 B1 B2
  have hn2 : TagsNe ((A1 ++ B1) ++ (A2 ++ B2)) := hn'.perm hp.symm
  obtain ⟨n1, n2, _⟩ := List.pairwise_append.1 hn2
  have t1 : ∀ x ∈ A1, ∀ y ∈ B1, x.2 < y.2 := fun x hx y hy => ht x (by rw [eA]; simp [hx]) y (by rw [eB]; simp [hy])
  have t2 : ∀ x ∈ A2, ∀ y ∈ B2, x.2 < y.2 := fun x hx y hy => ht x (by rw [eA]; simp [hx]) y (by rw [eB]; simp [hy])
  have p1 : (srt (A1 ++ B1)).length = A1.length + B1.length := by rw [(srt_perm _).length_eq, List.length_append]
  clear tA dA tB dB hs g1 g2
  subst eA eB
  refine ⟨P ++ ((A1 ++ B1) ++ ((A2 ++ B2) ++ S)), P ++ (srt (A1 ++ B1) ++ ((A2 ++ B2) ++ S)), fun h1 h2 => ?_, fun h => ?_, fun h1 h2 => ?_, fun h => ?_, fun h1 h2 => ?_, fun h => ?_⟩
  · have := rotate_r (G := G) n (by omega) (P ++ A1) A2 B1 (B2 ++ S) st m (mid + m - st) (by simp; omega) (by omega) (by omega) (by simp at hS ⊢; omega) (by omega) (by omega)
    simpa using this
  · have : A2 = [] ∨ B1 = [] := by
      rcases Nat.eq_zero_or_pos A2.length with h3 | h3
      · exact .inl (List.length_eq_zero_iff.1 h3)
      · exact .inr (List.length_eq_zero_iff.1 (by omega))
    rcases this with rfl | rfl <;> simp
  · have := ih P A1 B1 ((A2 ++ B2) ++ S) a st mid (by omega) hP (by omega) (by omega) (by simp at *; omega) (by omega) (by omega) sA1 sB1 t1 n1
    simpa using this
  · have : A1 = [] ∨ B1 = [] := by
      rcases Nat.eq_zero_or_pos A1.length with h3 | h3
      · exact .inl (List.length_eq_zero_iff.1 h3)
      · exact .inr (List.length_eq_zero_iff.1 (by omega))
    rcases this with rfl | rfl
    · simp only [List.nil_append] at *; rw [srt_id sB1 n1]
    · simp only [List.append_nil] at *; rw [srt_id sA1 n1]
  · have := ih (P ++ srt (A1 ++ B1)) A2 B2 S mid (mid + m - st) b (by omega) (by simp [p1]; omega) (by omega) (by simp at hb; omega) hS (by omega) (by simp at hb; omega) sA2 sB2 t2 n2
    simpa using this
  · have : A2 = [] ∨ B2 = [] := by
      rcases Nat.eq_zero_or_pos A2.length with h3 | h3
      · exact .inl (List.length_eq_zero_iff.1 h3)
      · exact .inr (List.length_eq_zero_iff.1 (by simp at hb; omega))
    rcases this with rfl | rfl
    · simp only [List.nil_append] at *; rw [srt_id sB2 n2]; simp
    · simp only [List.append_nil] at *; rw [srt_id sA2 n2]; simp
set_option maxHeartbeats 8000000 in
theorem sym_r (n : Nat) (hN : n < 1152921504606846976) : ∀ (s : Nat) (P A B S : List TE) (a m b : Nat), b - a ≤ s → P.length = a → a + A.length = m → m + B.length = b → b + S.length = n → 0 < A.length → 0 < B.length → SrtT A → SrtT B → (∀ x ∈ A, ∀ y ∈ B, x.2 < y.2) → TagsNe (A ++ B) →
    SemR Try.prog G 52 [dataM n, .int .i64 a, .int .i64 m, .int .i64 b] (sortB n (P ++ (A ++ (B ++ S)))) 2 (.tup []) (sortB n (P ++ (srt (A ++ B) ++ S))) 2 := by
  intro s
  induction s with
  | zero => intro P A B S a m b h1 h2 h3 h4 h5 h6 h7; omega
  | succ s ihs =>
    intro P A B S a m b hs hP hm hb hS hA0 hB0 hA hB ht hn
    have ih : ∀ (P A B S : List TE) (a' m' b' : Nat), b' - a' < b - a → P.length = a' → a' + A.length = m' → m' + B.length = b' → b' + S.length = n → 0 < A.length → 0 < B.length → SrtT A → SrtT B → (∀ x ∈ A, ∀ y ∈ B, x.2 < y.2) → TagsNe (A ++ B) →
        SemR Try.prog G 52 [dataM n, .int .i64 a', .int .i64 m', .int .i64 b'] (sortB n (P ++ (A ++ (B ++ S)))) 2 (.tup []) (sortB n (P ++ (srt (A ++ B) ++ S))) 2 := fun P A B S a' m' b' h => ihs P A B S a' m' b' (by omega)
    by_cases h1 : A.length = 1
    · match A, h1 with
      | [x], _ =>
        have := sym1_r (G := G) n hN P B S x a b hP (by simp at hm; omega) hS hB (fun y hy => ht x (by simp) y hy) (List.pairwise_append.1 hn).2.1
        rw [show a + 1 = m by simpa using hm] at this
        simpa using this
    by_cases h2 : B.length = 1
    · match B, h2 with
      | [y], _ =>
        have := sym2_r (G := G) n hN P A S y a m hP hm (by simp at hb; omega) h1 hA (fun z hz => ht z hz y (by simp)) (List.pairwise_append.1 hn).1
        rw [show m + 1 = b by simpa using hb] at this
        simpa using this
    obtain ⟨mid, hmid⟩ : ∃ mid, mid = (a + b) / 2 := ⟨_, rfl⟩
    have hrest : ∀ st, a ≤ st → st ≤ m → st ≤ mid → mid ≤ st + B.length → (0 < st - a → mid - st < B.length → gB A B (st - 1 - a) (mid - 1 - (st - 1)) = false) → (st - a < A.length → 0 < mid - st → gB A B (st - a) (mid - 1 - st) = true) → SymRest G n a m b mid st (P ++ (A ++ (B ++ S))) (P ++ (srt (A ++ B) ++ S)) :=
      fun st k1 k2 k3 k4 g1 g2 => sym_rest n hN P A B S a m b mid st hP hm hb hS hA hB ht hn k1 k2 k3 k4 g1 g2 ih (by omega) (by omega)
    have hlen : (P ++ (A ++ (B ++ S))).length = n := by simp; omega
    have hTx : ∀ {k : Nat} {x : TE}, A[k]? = some x → (P ++ (A ++ (B ++ S)))[a + k]? = some x := fun {k x} h => by
      rw [List.getElem?_append_right (by omega), show a + k - P.length = k by omega, List.getElem?_append_left (List.getElem?_eq_some_iff.1 h).1]; exact h
    have hTy : ∀ {k : Nat} {y : TE}, B[k]? = some y → (P ++ (A ++ (B ++ S)))[m + k]? = some y := fun {k y} h => by
      rw [List.getElem?_append_right (by omega), List.getElem?_append_right (by omega), show m + k - P.length - A.length = k by omega, List.getElem?_append_left (List.getElem?_eq_some_iff.1 h).1]; exact h
    clear ih ihs
    generalize hT0 : P ++ (A ++ (B ++ S)) = T0 at *
    generalize hT3 : P ++ (srt (A ++ B) ++ S) = T3 at *
    clear hT0 hT3
    unfold dataM
    refine semR_of_vc seat Try.func52 rfl rfl (Nat.le_of_ble_eq_true rfl) (Nat.le_of_ble_eq_true rfl) (N := 177) rfl rfl ?_
    refine go0 ?_
    refine ⟨fun hd => ?_, fun hd => ?_⟩
    · exfalso
      have := of_decide_eq_true hd
      omega
    refine go0 ?_
    refine ⟨fun hd => ?_, fun hd => ?_⟩
    · exfalso
      have := of_decide_eq_true hd
      omega
    clear hd
    (repeat ((try conv => whnf); first | (with_reducible refine ⟨_, sv (half_w _ _ (by omega)), ?_⟩) | (with_reducible refine And.intro (Nat.zero_le _) ?_) | (with_reducible refine And.intro rfl ?_) | (with_reducible refine ⟨fun _ => ?_, fun h => Bool.noConfusion h⟩) | (with_reducible refine ⟨fun h => Bool.noConfusion h, fun _ => ?_⟩) | (with_reducible refine ⟨_, sv (add32 _ _), ?_⟩) | (with_reducible refine ⟨_, sv (xor32 _ _), ?_⟩) | (with_reducible refine ⟨_, sv (and32 _ _), ?_⟩) | (with_reducible refine ⟨_, sv (or32 _ _), ?_⟩) | (with_reducible refine ⟨_, sv (not32 _), ?_⟩) | (with_reducible refine ⟨_, sv (shlI _ _ (by omega) (by omega)), ?_⟩) | (with_reducible refine ⟨_, sv (shrI _ _ (by omega) (by omega)), ?_⟩) | (with_reducible refine ⟨_, sv (conv832 _), ?_⟩) | (with_reducible refine ⟨_, sv (conv328 _), ?_⟩) | (with_reducible refine ⟨_, sv (wrap_in _ (by omega) (by omega)), ?_⟩) | (with_reducible refine ⟨_, sv (wrapu_in _ (by omega) (by omega)), ?_⟩) | (with_reducible refine ⟨_, sv (wrap8_in _ (by omega) (by omega)), ?_⟩) | refine ⟨_, rfl, ?_⟩ | refine And.intro (show okDraw _ _ = true by kernel_rfl) ?_ | refine And.intro (by omega) ?_))
    refine ⟨fun hd => ?_, fun hd => ?_⟩
    · have hgt := of_decide_eq_true hd
      have hgt : mid < m := by omega
      obtain ⟨lo, hlo⟩ : ∃ lo, lo = mid + m - b := ⟨_, rfl⟩
      obtain ⟨hi, hhi⟩ : ∃ hi, hi = mid := ⟨_, rfl⟩
      refine go0 ?_
      refine ⟨Nat × Nat, fun q => [(19, .int .i64 q.2), (18, .int .i64 q.1), (20, .int .i64 ((mid : Int) + m - 1)), (17, .int .i64 ((mid : Int) + m)), (16, .int .i64 mid), (4, .ptr 2 2 0 0 []), (3, .int .i64 b), (2, .int .i64 m), (1, .int .i64 a)], fun q => sortB n T0 ++ [(2, ⟨76, 2, false, 0, [dataM n]⟩)], 3,
        fun q => lo ≤ q.1 ∧ q.1 ≤ q.2 ∧ q.2 ≤ hi ∧ (∀ c, lo ≤ c → c < q.1 → gB A B (c - a) (mid - 1 - c) = false) ∧ (∀ c, q.2 ≤ c → c < hi → gB A B (c - a) (mid - 1 - c) = true), fun q => q.2 - q.1, ⟨(lo, hi), ⟨Nat.le_refl _, by omega, Nat.le_refl _, fun c h1 h2 => absurd h2 (by show ¬ c < lo; omega), fun c h1 h2 => absurd h2 (by have h1 : hi ≤ c := h1; omega)⟩, (by dsimp only; exact (vm [(2, _)] []))⟩, ?_⟩
      rintro ⟨st, r⟩ ⟨i1, i2, i3, i4, i5⟩
      dsimp only at i1 i2 i3 i4 i5 ⊢
      refine ⟨fun hd => ?_, fun hd => ?_⟩
      · have hlt : st < r := by have := of_decide_eq_true hd; omega
        obtain ⟨c, hc⟩ : ∃ c, c = (st + r) / 2 := ⟨_, rfl⟩
        obtain ⟨x, hx⟩ := at_some (l := A) (i := c - a) (by omega)
        obtain ⟨y, hy⟩ := at_some (l := B) (i := mid - 1 - c) (by omega)
        have hless := less_at (G := G) n T0 hlen (m + (mid - 1 - c)) c (hTy hy) (by have := hTx hx; rwa [show a + (c - a) = c by omega] at this)
        have hg := gB_at hx hy
        (repeat ((try conv => whnf); first | (with_reducible refine ⟨_, sv (half_w _ _ (by omega)), ?_⟩) | (with_reducible refine And.intro (Nat.zero_le _) ?_) | (with_reducible refine And.intro rfl ?_) | (with_reducible refine ⟨fun _ => ?_, fun h => Bool.noConfusion h⟩) | (with_reducible refine ⟨fun h => Bool.noConfusion h, fun _ => ?_⟩) | (with_reducible refine ⟨_, sv (add32 _ _), ?_⟩) | (with_reducible refine ⟨_, sv (xor32 _ _), ?_⟩) | (with_reducible refine ⟨_, sv (and32 _ _), ?_⟩) | (with_reducible refine ⟨_, sv (or32 _ _), ?_⟩) | (with_reducible refine ⟨_, sv (not32 _), ?_⟩) | (with_reducible refine ⟨_, sv (shlI _ _ (by omega) (by omega)), ?_⟩) | (with_reducible refine ⟨_, sv (shrI _ _ (by omega) (by omega)), ?_⟩) | (with_reducible refine ⟨_, sv (conv832 _), ?_⟩) | (with_reducible refine ⟨_, sv (conv328 _), ?_⟩) | (with_reducible refine ⟨_, sv (wrap_in _ (by omega) (by omega)), ?_⟩) | (with_reducible refine ⟨_, sv (wrapu_in _ (by omega) (by omega)), ?_⟩) | (with_reducible refine ⟨_, sv (wrap8_in _ (by omega) (by omega)), ?_⟩) | refine ⟨_, rfl, ?_⟩ | refine And.intro (show okDraw _ _ = true by kernel_rfl) ?_ | refine And.intro (by omega) ?_))
        refine .inr ⟨_, _, _, _, _, _, hless, [(0, 0), (1, 1)], [], ⟨rfl, trivial, rfl, lm, mm⟩, rfl, rfl, ?_⟩
        refine go0 ?_
        refine ⟨fun hb => ?_, fun hb => ?_⟩
        · have hb : befE y.1 x.1 = false := by simpa using hb
          refine go0 ?_
          refine ⟨(c + 1, r), ⟨by show lo ≤ c + 1; omega, by show c + 1 ≤ r; omega, i3, fun k h1 h2 => ?_, i5⟩, by show r - (c + 1) < r - st; omega, (by dsimp only; exact (vm [(2, _)] []))⟩
          have h2 : k < c + 1 := h2
          cases hq : gB A B (k - a) (mid - 1 - k) with
          | false => rfl
          | true =>
            have := gB_mono hA hB ht (u' := c - a) (v' := mid - 1 - c) (by omega) (by omega) (by omega) (by omega) hq
            rw [hg, hb] at this
            cases this
        · have hb : befE y.1 x.1 = true := by simpa using hb
          refine go0 ?_
          refine ⟨(st, c), ⟨i1, by show st ≤ c; omega, by show c ≤ hi; omega, i4, fun k h1 h2 => ?_⟩, by show c - st < r - st; omega, (by dsimp only; exact (vm [(2, _)] []))⟩
          have h1 : c ≤ k := h1
          exact gB_mono hA hB ht (u := c - a) (v := mid - 1 - c) (by omega) (by omega) (by omega) (by omega) (by rw [hg]; exact hb)
      · have hlt : st = r := by have := of_decide_eq_false hd; omega
        subst hlt
        obtain ⟨T1, T2, R1, N1, R2, N2, R3, N3⟩ := hrest st (by omega) (by omega) (by omega) (by omega) (fun h1 h2 => i4 (st - 1) (by omega) (by omega)) (fun h1 h2 => i5 st (Nat.le_refl _) (by omega))
        refine go0 ?_
        refine ⟨fun g1 => ?_, fun g1 => ?_⟩
        · have g1 := of_decide_eq_true g1
          refine go0 ?_
          refine ⟨fun d1 => ?_, fun d1 => ?_⟩
          · have d1 := of_decide_eq_true d1
            refine go0 ?_
            refine .inr ⟨_, _, _, _, _, _, R1 (by omega) (by omega), [(0, 0), (1, 1)], [], ⟨rfl, trivial, rfl, lm, mm⟩, rfl, rfl, ?_⟩
            try (exfalso; omega)
            all_goals
              refine go0 ?_
              refine ⟨fun g2 => ?_, fun g2 => ?_⟩
              · have g2 := of_decide_eq_true g2
                refine go0 ?_
                refine ⟨fun d2 => ?_, fun d2 => ?_⟩
                · have d2 := of_decide_eq_true d2
                  refine go0 ?_
                  refine .inr ⟨_, _, _, _, _, _, R2 (by omega) (by omega), [(0, 0), (1, 1)], [], ⟨rfl, trivial, rfl, lm, mm⟩, rfl, rfl, ?_⟩
                  try (exfalso; omega)
                  all_goals
                    refine go0 ?_
                    refine ⟨fun g3 => ?_, fun g3 => ?_⟩
                    · have g3 := of_decide_eq_true g3
                      try (exfalso; omega)
                      all_goals
                        refine go0 ?_
                        refine ⟨fun d3 => ?_, fun d3 => ?_⟩
                        · have d3 := of_decide_eq_true d3
                          refine go0 ?_
                          refine .inr ⟨_, _, _, _, _, _, R3 (by omega) (by omega), [(0, 0), (1, 1)], [], ⟨rfl, trivial, rfl, lm, mm⟩, rfl, rfl, ?_⟩
                          refine go0 ?_
                          refine ⟨[], [], [], rfl, rfl, trivial, rfl, trivial, ?_⟩
                          · exact mm
                        · have d3 := of_decide_eq_false d3
                          rw [N3 (by omega)]
                          refine go0 ?_
                          refine ⟨[], [], [], rfl, rfl, trivial, rfl, trivial, ?_⟩
                          · exact mm
                    · have g3 := of_decide_eq_false g3
                      rw [N3 (by omega)]
                      refine go0 ?_
                      refine ⟨[], [], [], rfl, rfl, trivial, rfl, trivial, ?_⟩
                      · exact mm
                · have d2 := of_decide_eq_false d2
                  rw [N2 (by omega)]
                  try (exfalso; omega)
                  all_goals
                    refine go0 ?_
                    refine ⟨fun g3 => ?_, fun g3 => ?_⟩
                    · have g3 := of_decide_eq_true g3
                      try (exfalso; omega)
                      all_goals
                        refine go0 ?_
                        refine ⟨fun d3 => ?_, fun d3 => ?_⟩
                        · have d3 := of_decide_eq_true d3
                          refine go0 ?_
                          refine .inr ⟨_, _, _, _, _, _, R3 (by omega) (by omega), [(0, 0), (1, 1)], [], ⟨rfl, trivial, rfl, lm, mm⟩, rfl, rfl, ?_⟩
                          refine go0 ?_
                          refine ⟨[], [], [], rfl, rfl, trivial, rfl, trivial, ?_⟩
                          · exact mm
                        · have d3 := of_decide_eq_false d3
                          rw [N3 (by omega)]
                          refine go0 ?_
                          refine ⟨[], [], [], rfl, rfl, trivial, rfl, trivial, ?_⟩
                          · exact mm
                    · have g3 := of_decide_eq_false g3
                      rw [N3 (by omega)]
                      refine go0 ?_
                      refine ⟨[], [], [], rfl, rfl, trivial, rfl, trivial, ?_⟩
                      · exact mm
              · have g2 := of_decide_eq_false g2
                rw [N2 (by omega)]
                try (exfalso; omega)
                all_goals
                  refine go0 ?_
                  refine ⟨fun g3 => ?_, fun g3 => ?_⟩
                  · have g3 := of_decide_eq_true g3
                    try (exfalso; omega)
                    all_goals
                      refine go0 ?_
                      refine ⟨fun d3 => ?_, fun d3 => ?_⟩
                      · have d3 := of_decide_eq_true d3
                        refine go0 ?_
                        refine .inr ⟨_, _, _, _, _, _, R3 (by omega) (by omega), [(0, 0), (1, 1)], [], ⟨rfl, trivial, rfl, lm, mm⟩, rfl, rfl, ?_⟩
                        refine go0 ?_
                        refine ⟨[], [], [], rfl, rfl, trivial, rfl, trivial, ?_⟩
                        · exact mm
                      · have d3 := of_decide_eq_false d3
                        rw [N3 (by omega)]
                        refine go0 ?_
                        refine ⟨[], [], [], rfl, rfl, trivial, rfl, trivial, ?_⟩
                        · exact mm
                  · have g3 := of_decide_eq_false g3
                    rw [N3 (by omega)]
                    refine go0 ?_
                    refine ⟨[], [], [], rfl, rfl, trivial, rfl, trivial, ?_⟩
                    · exact mm
          · have d1 := of_decide_eq_false d1
            rw [N1 (by omega)]
            try (exfalso; omega)
            all_goals
              refine go0 ?_
              refine ⟨fun g2 => ?_, fun g2 => ?_⟩
              · have g2 := of_decide_eq_true g2
                refine go0 ?_
                refine ⟨fun d2 => ?_, fun d2 => ?_⟩
                · have d2 := of_decide_eq_true d2
                  refine go0 ?_
                  refine .inr ⟨_, _, _, _, _, _, R2 (by omega) (by omega), [(0, 0), (1, 1)], [], ⟨rfl, trivial, rfl, lm, mm⟩, rfl, rfl, ?_⟩
                  try (exfalso; omega)
                  all_goals
                    refine go0 ?_
                    refine ⟨fun g3 => ?_, fun g3 => ?_⟩
                    · have g3 := of_decide_eq_true g3
                      try (exfalso; omega)
                      all_goals
                        refine go0 ?_
                        refine ⟨fun d3 => ?_, fun d3 => ?_⟩
                        · have d3 := of_decide_eq_true d3
                          refine go0 ?_
                          refine .inr ⟨_, _, _, _, _, _, R3 (by omega) (by omega), [(0, 0), (1, 1)], [], ⟨rfl, trivial, rfl, lm, mm⟩, rfl, rfl, ?_⟩
                          refine go0 ?_
                          refine ⟨[], [], [], rfl, rfl, trivial, rfl, trivial, ?_⟩
                          · exact mm
                        · have d3 := of_decide_eq_false d3
                          rw [N3 (by omega)]
                          refine go0 ?_
                          refine ⟨[], [], [], rfl, rfl, trivial, rfl, trivial, ?_⟩
                          · exact mm
                    · have g3 := of_decide_eq_false g3
                      rw [N3 (by omega)]
                      refine go0 ?_
                      refine ⟨[], [], [], rfl, rfl, trivial, rfl, trivial, ?_⟩
                      · exact mm
                · have d2 := of_decide_eq_false d2
                  rw [N2 (by omega)]
                  try (exfalso; omega)
                  all_goals
                    refine go0 ?_
                    refine ⟨fun g3 => ?_, fun g3 => ?_⟩
                    · have g3 := of_decide_eq_true g3
                      try (exfalso; omega)
                      all_goals
                        refine go0 ?_
                        refine ⟨fun d3 => ?_, fun d3 => ?_⟩
                        · have d3 := of_decide_eq_true d3
                          refine go0 ?_
                          refine .inr ⟨_, _, _, _, _, _, R3 (by omega) (by omega), [(0, 0), (1, 1)], [], ⟨rfl, trivial, rfl, lm, mm⟩, rfl, rfl, ?_⟩
                          refine go0 ?_
                          refine ⟨[], [], [], rfl, rfl, trivial, rfl, trivial, ?_⟩
                          · exact mm
                        · have d3 := of_decide_eq_false d3
                          rw [N3 (by omega)]
                          refine go0 ?_
                          refine ⟨[], [], [], rfl, rfl, trivial, rfl, trivial, ?_⟩
                          · exact mm
                    · have g3 := of_decide_eq_false g3
                      rw [N3 (by omega)]
                      refine go0 ?_
                      refine ⟨[], [], [], rfl, rfl, trivial, rfl, trivial, ?_⟩
                      · exact mm
              · have g2 := of_decide_eq_false g2
                rw [N2 (by omega)]
                try (exfalso; omega)
                all_goals
                  refine go0 ?_
                  refine ⟨fun g3 => ?_, fun g3 => ?_⟩
                  · have g3 := of_decide_eq_true g3
                    try (exfalso; omega)
                    all_goals
                      refine go0 ?_
                      refine ⟨fun d3 => ?_, fun d3 => ?_⟩
                      · have d3 := of_decide_eq_true d3
                        refine go0 ?_
                        refine .inr ⟨_, _, _, _, _, _, R3 (by omega) (by omega), [(0, 0), (1, 1)], [], ⟨rfl, trivial, rfl, lm, mm⟩, rfl, rfl, ?_⟩
                        refine go0 ?_
                        refine ⟨[], [], [], rfl, rfl, trivial, rfl, trivial, ?_⟩
                        · exact mm
                      · have d3 := of_decide_eq_false d3
                        rw [N3 (by omega)]
                        refine go0 ?_
                        refine ⟨[], [], [], rfl, rfl, trivial, rfl, trivial, ?_⟩
                        · exact mm
                  · have g3 := of_decide_eq_false g3
                    rw [N3 (by omega)]
                    refine go0 ?_
                    refine ⟨[], [], [], rfl, rfl, trivial, rfl, trivial, ?_⟩
                    · exact mm
        · have g1 := of_decide_eq_false g1
          rw [N1 (by omega)]
          try (exfalso; omega)
          all_goals
            refine go0 ?_
            refine ⟨fun g2 => ?_, fun g2 => ?_⟩
            · have g2 := of_decide_eq_true g2
              refine go0 ?_
              refine ⟨fun d2 => ?_, fun d2 => ?_⟩
              · have d2 := of_decide_eq_true d2
                refine go0 ?_
                refine .inr ⟨_, _, _, _, _, _, R2 (by omega) (by omega), [(0, 0), (1, 1)], [], ⟨rfl, trivial, rfl, lm, mm⟩, rfl, rfl, ?_⟩
                try (exfalso; omega)
                all_goals
                  refine go0 ?_
                  refine ⟨fun g3 => ?_, fun g3 => ?_⟩
                  · have g3 := of_decide_eq_true g3
                    try (exfalso; omega)
                    all_goals
                      refine go0 ?_
                      refine ⟨fun d3 => ?_, fun d3 => ?_⟩
                      · have d3 := of_decide_eq_true d3
                        refine go0 ?_
                        refine .inr ⟨_, _, _, _, _, _, R3 (by omega) (by omega), [(0, 0), (1, 1)], [], ⟨rfl, trivial, rfl, lm, mm⟩, rfl, rfl, ?_⟩
                        refine go0 ?_
                        refine ⟨[], [], [], rfl, rfl, trivial, rfl, trivial, ?_⟩
                        · exact mm
                      · have d3 := of_decide_eq_false d3
                        rw [N3 (by omega)]
                        refine go0 ?_
                        refine ⟨[], [], [], rfl, rfl, trivial, rfl, trivial, ?_⟩
                        · exact mm
                  · have g3 := of_decide_eq_false g3
                    rw [N3 (by omega)]
                    refine go0 ?_
                    refine ⟨[], [], [], rfl, rfl, trivial, rfl, trivial, ?_⟩
                    · exact mm
              · have d2 := of_decide_eq_false d2
                rw [N2 (by omega)]
                try (exfalso; omega)
                all_goals
                  refine go0 ?_
                  refine ⟨fun g3 => ?_, fun g3 => ?_⟩
                  · have g3 := of_decide_eq_true g3
                    try (exfalso; omega)
                    all_goals
                      refine go0 ?_
                      refine ⟨fun d3 => ?_, fun d3 => ?_⟩
                      · have d3 := of_decide_eq_true d3
                        refine go0 ?_
                        refine .inr ⟨_, _, _, _, _, _, R3 (by omega) (by omega), [(0, 0), (1, 1)], [], ⟨rfl, trivial, rfl, lm, mm⟩, rfl, rfl, ?_⟩
                        refine go0 ?_
                        refine ⟨[], [], [], rfl, rfl, trivial, rfl, trivial, ?_⟩
                        · exact mm
                      · have d3 := of_decide_eq_false d3
                        rw [N3 (by omega)]
                        refine go0 ?_
                        refine ⟨[], [], [], rfl, rfl, trivial, rfl, trivial, ?_⟩
                        · exact mm
                  · have g3 := of_decide_eq_false g3
                    rw [N3 (by omega)]
                    refine go0 ?_
                    refine ⟨[], [], [], rfl, rfl, trivial, rfl, trivial, ?_⟩
                    · exact mm
            · have g2 := of_decide_eq_false g2
              rw [N2 (by omega)]
              try (exfalso; omega)
              all_goals
                refine go0 ?_
                refine ⟨fun g3 => ?_, fun g3 => ?_⟩
                · have g3 := of_decide_eq_true g3
                  try (exfalso; omega)
                  all_goals
                    refine go0 ?_
                    refine ⟨fun d3 => ?_, fun d3 => ?_⟩
                    · have d3 := of_decide_eq_true d3
                      refine go0 ?_
                      refine .inr ⟨_, _, _, _, _, _, R3 (by omega) (by omega), [(0, 0), (1, 1)], [], ⟨rfl, trivial, rfl, lm, mm⟩, rfl, rfl, ?_⟩
                      refine go0 ?_
                      refine ⟨[], [], [], rfl, rfl, trivial, rfl, trivial, ?_⟩
                      · exact mm
                    · have d3 := of_decide_eq_false d3
                      rw [N3 (by omega)]
                      refine go0 ?_
                      refine ⟨[], [], [], rfl, rfl, trivial, rfl, trivial, ?_⟩
                      · exact mm
                · have g3 := of_decide_eq_false g3
                  rw [N3 (by omega)]
                  refine go0 ?_
                  refine ⟨[], [], [], rfl, rfl, trivial, rfl, trivial, ?_⟩
                  · exact mm
    · have hgt := of_decide_eq_false hd
      have hgt : m ≤ mid := by omega
      obtain ⟨lo, hlo⟩ : ∃ lo, lo = a := ⟨_, rfl⟩
      obtain ⟨hi, hhi⟩ : ∃ hi, hi = m := ⟨_, rfl⟩
      refine go0 ?_
      refine ⟨Nat × Nat, fun q => [(19, .int .i64 q.2), (18, .int .i64 q.1), (20, .int .i64 ((mid : Int) + m - 1)), (17, .int .i64 ((mid : Int) + m)), (16, .int .i64 mid), (4, .ptr 2 2 0 0 []), (3, .int .i64 b), (2, .int .i64 m), (1, .int .i64 a)], fun q => sortB n T0 ++ [(2, ⟨76, 2, false, 0, [dataM n]⟩)], 3,
        fun q => lo ≤ q.1 ∧ q.1 ≤ q.2 ∧ q.2 ≤ hi ∧ (∀ c, lo ≤ c → c < q.1 → gB A B (c - a) (mid - 1 - c) = false) ∧ (∀ c, q.2 ≤ c → c < hi → gB A B (c - a) (mid - 1 - c) = true), fun q => q.2 - q.1, ⟨(lo, hi), ⟨Nat.le_refl _, by omega, Nat.le_refl _, fun c h1 h2 => absurd h2 (by show ¬ c < lo; omega), fun c h1 h2 => absurd h2 (by have h1 : hi ≤ c := h1; omega)⟩, (by dsimp only; exact (vm [(2, _)] []))⟩, ?_⟩
      rintro ⟨st, r⟩ ⟨i1, i2, i3, i4, i5⟩
      dsimp only at i1 i2 i3 i4 i5 ⊢
      refine ⟨fun hd => ?_, fun hd => ?_⟩
      · have hlt : st < r := by have := of_decide_eq_true hd; omega
        obtain ⟨c, hc⟩ : ∃ c, c = (st + r) / 2 := ⟨_, rfl⟩
        obtain ⟨x, hx⟩ := at_some (l := A) (i := c - a) (by omega)
        obtain ⟨y, hy⟩ := at_some (l := B) (i := mid - 1 - c) (by omega)
        have hless := less_at (G := G) n T0 hlen (m + (mid - 1 - c)) c (hTy hy) (by have := hTx hx; rwa [show a + (c - a) = c by omega] at this)
        have hg := gB_at hx hy
        (repeat ((try conv => whnf); first | (with_reducible refine ⟨_, sv (half_w _ _ (by omega)), ?_⟩) | (with_reducible refine And.intro (Nat.zero_le _) ?_) | (with_reducible refine And.intro rfl ?_) | (with_reducible refine ⟨fun _ => ?_, fun h => Bool.noConfusion h⟩) | (with_reducible refine ⟨fun h => Bool.noConfusion h, fun _ => ?_⟩) | (with_reducible refine ⟨_, sv (add32 _ _), ?_⟩) | (with_reducible refine ⟨_, sv (xor32 _ _), ?_⟩) | (with_reducible refine ⟨_, sv (and32 _ _), ?_⟩) | (with_reducible refine ⟨_, sv (or32 _ _), ?_⟩) | (with_reducible refine ⟨_, sv (not32 _), ?_⟩) | (with_reducible refine ⟨_, sv (shlI _ _ (by omega) (by omega)), ?_⟩) | (with_reducible refine ⟨_, sv (shrI _ _ (by omega) (by omega)), ?_⟩) | (with_reducible refine ⟨_, sv (conv832 _), ?_⟩) | (with_reducible refine ⟨_, sv (conv328 _), ?_⟩) | (with_reducible refine ⟨_, sv (wrap_in _ (by omega) (by omega)), ?_⟩) | (with_reducible refine ⟨_, sv (wrapu_in _ (by omega) (by omega)), ?_⟩) | (with_reducible refine ⟨_, sv (wrap8_in _ (by omega) (by omega)), ?_⟩) | refine ⟨_, rfl, ?_⟩ | refine And.intro (show okDraw _ _ = true by kernel_rfl) ?_ | refine And.intro (by omega) ?_))
        refine .inr ⟨_, _, _, _, _, _, hless, [(0, 0), (1, 1)], [], ⟨rfl, trivial, rfl, lm, mm⟩, rfl, rfl, ?_⟩
        refine go0 ?_
        refine ⟨fun hb => ?_, fun hb => ?_⟩
        · have hb : befE y.1 x.1 = false := by simpa using hb
          refine go0 ?_
          refine ⟨(c + 1, r), ⟨by show lo ≤ c + 1; omega, by show c + 1 ≤ r; omega, i3, fun k h1 h2 => ?_, i5⟩, by show r - (c + 1) < r - st; omega, (by dsimp only; exact (vm [(2, _)] []))⟩
          have h2 : k < c + 1 := h2
          cases hq : gB A B (k - a) (mid - 1 - k) with
          | false => rfl
          | true =>
            have := gB_mono hA hB ht (u' := c - a) (v' := mid - 1 - c) (by omega) (by omega) (by omega) (by omega) hq
            rw [hg, hb] at this
            cases this
        · have hb : befE y.1 x.1 = true := by simpa using hb
          refine go0 ?_
          refine ⟨(st, c), ⟨i1, by show st ≤ c; omega, by show c ≤ hi; omega, i4, fun k h1 h2 => ?_⟩, by show c - st < r - st; omega, (by dsimp only; exact (vm [(2, _)] []))⟩
          have h1 : c ≤ k := h1
          exact gB_mono hA hB ht (u := c - a) (v := mid - 1 - c) (by omega) (by omega) (by omega) (by omega) (by rw [hg]; exact hb)
      · have hlt : st = r := by have := of_decide_eq_false hd; omega
        subst hlt
        obtain ⟨T1, T2, R1, N1, R2, N2, R3, N3⟩ := hrest st (by omega) (by omega) (by omega) (by omega) (fun h1 h2 => i4 (st - 1) (by omega) (by omega)) (fun h1 h2 => i5 st (Nat.le_refl _) (by omega))
        refine go0 ?_
        refine ⟨fun g1 => ?_, fun g1 => ?_⟩
        · have g1 := of_decide_eq_true g1
          refine go0 ?_
          refine ⟨fun d1 => ?_, fun d1 => ?_⟩
          · have d1 := of_decide_eq_true d1
            refine go0 ?_
            refine .inr ⟨_, _, _, _, _, _, R1 (by omega) (by omega), [(0, 0), (1, 1)], [], ⟨rfl, trivial, rfl, lm, mm⟩, rfl, rfl, ?_⟩
            try (exfalso; omega)
            all_goals
              refine go0 ?_
              refine ⟨fun g2 => ?_, fun g2 => ?_⟩
              · have g2 := of_decide_eq_true g2
                refine go0 ?_
                refine ⟨fun d2 => ?_, fun d2 => ?_⟩
                · have d2 := of_decide_eq_true d2
                  refine go0 ?_
                  refine .inr ⟨_, _, _, _, _, _, R2 (by omega) (by omega), [(0, 0), (1, 1)], [], ⟨rfl, trivial, rfl, lm, mm⟩, rfl, rfl, ?_⟩
                  try (exfalso; omega)
                  all_goals
                    refine go0 ?_
                    refine ⟨fun g3 => ?_, fun g3 => ?_⟩
                    · have g3 := of_decide_eq_true g3
                      try (exfalso; omega)
                      all_goals
                        refine go0 ?_
                        refine ⟨fun d3 => ?_, fun d3 => ?_⟩
                        · have d3 := of_decide_eq_true d3
                          refine go0 ?_
                          refine .inr ⟨_, _, _, _, _, _, R3 (by omega) (by omega), [(0, 0), (1, 1)], [], ⟨rfl, trivial, rfl, lm, mm⟩, rfl, rfl, ?_⟩
                          refine go0 ?_
                          refine ⟨[], [], [], rfl, rfl, trivial, rfl, trivial, ?_⟩
                          · exact mm
                        · have d3 := of_decide_eq_false d3
                          rw [N3 (by omega)]
                          refine go0 ?_
                          refine ⟨[], [], [], rfl, rfl, trivial, rfl, trivial, ?_⟩
                          · exact mm
                    · have g3 := of_decide_eq_false g3
                      rw [N3 (by omega)]
                      refine go0 ?_
                      refine ⟨[], [], [], rfl, rfl, trivial, rfl, trivial, ?_⟩
                      · exact mm
                · have d2 := of_decide_eq_false d2
                  rw [N2 (by omega)]
                  try (exfalso; omega)
                  all_goals
                    refine go0 ?_
                    refine ⟨fun g3 => ?_, fun g3 => ?_⟩
                    · have g3 := of_decide_eq_true g3
                      try (exfalso; omega)
                      all_goals
                        refine go0 ?_
                        refine ⟨fun d3 => ?_, fun d3 => ?_⟩
                        · have d3 := of_decide_eq_true d3
                          refine go0 ?_
                          refine .inr ⟨_, _, _, _, _, _, R3 (by omega) (by omega), [(0, 0), (1, 1)], [], ⟨rfl, trivial, rfl, lm, mm⟩, rfl, rfl, ?_⟩
                          refine go0 ?_
                          refine ⟨[], [], [], rfl, rfl, trivial, rfl, trivial, ?_⟩
                          · exact mm
                        · have d3 := of_decide_eq_false d3
                          rw [N3 (by omega)]
                          refine go0 ?_
                          refine ⟨[], [], [], rfl, rfl, trivial, rfl, trivial, ?_⟩
                          · exact mm
                    · have g3 := of_decide_eq_false g3
                      rw [N3 (by omega)]
                      refine go0 ?_
                      refine ⟨[], [], [], rfl, rfl, trivial, rfl, trivial, ?_⟩
                      · exact mm
              · have g2 := of_decide_eq_false g2
                rw [N2 (by omega)]
                try (exfalso; omega)
                all_goals
                  refine go0 ?_
                  refine ⟨fun g3 => ?_, fun g3 => ?_⟩
                  · have g3 := of_decide_eq_true g3
                    try (exfalso; omega)
                    all_goals
                      refine go0 ?_
                      refine ⟨fun d3 => ?_, fun d3 => ?_⟩
                      · have d3 := of_decide_eq_true d3
                        refine go0 ?_
                        refine .inr ⟨_, _, _, _, _, _, R3 (by omega) (by omega), [(0, 0), (1, 1)], [], ⟨rfl, trivial, rfl, lm, mm⟩, rfl, rfl, ?_⟩
                        refine go0 ?_
                        refine ⟨[], [], [], rfl, rfl, trivial, rfl, trivial, ?_⟩
                        · exact mm
                      · have d3 := of_decide_eq_false d3
                        rw [N3 (by omega)]
                        refine go0 ?_
                        refine ⟨[], [], [], rfl, rfl, trivial, rfl, trivial, ?_⟩
                        · exact mm
                  · have g3 := of_decide_eq_false g3
                    rw [N3 (by omega)]
                    refine go0 ?_
                    refine ⟨[], [], [], rfl, rfl, trivial, rfl, trivial, ?_⟩
                    · exact mm
          · have d1 := of_decide_eq_false d1
            rw [N1 (by omega)]
            try (exfalso; omega)
            all_goals
              refine go0 ?_
              refine ⟨fun g2 => ?_, fun g2 => ?_⟩
              · have g2 := of_decide_eq_true g2
                refine go0 ?_
                refine ⟨fun d2 => ?_, fun d2 => ?_⟩
                · have d2 := of_decide_eq_true d2
                  refine go0 ?_
                  refine .inr ⟨_, _, _, _, _, _, R2 (by omega) (by omega), [(0, 0), (1, 1)], [], ⟨rfl, trivial, rfl, lm, mm⟩, rfl, rfl, ?_⟩
                  try (exfalso; omega)
                  all_goals
                    refine go0 ?_
                    refine ⟨fun g3 => ?_, fun g3 => ?_⟩
                    · have g3 := of_decide_eq_true g3
                      try (exfalso; omega)
                      all_goals
                        refine go0 ?_
                        refine ⟨fun d3 => ?_, fun d3 => ?_⟩
                        · have d3 := of_decide_eq_true d3
                          refine go0 ?_
                          refine .inr ⟨_, _, _, _, _, _, R3 (by omega) (by omega), [(0, 0), (1, 1)], [], ⟨rfl, trivial, rfl, lm, mm⟩, rfl, rfl, ?_⟩
                          refine go0 ?_
                          refine ⟨[], [], [], rfl, rfl, trivial, rfl, trivial, ?_⟩
                          · exact mm
                        · have d3 := of_decide_eq_false d3
                          rw [N3 (by omega)]
                          refine go0 ?_
                          refine ⟨[], [], [], rfl, rfl, trivial, rfl, trivial, ?_⟩
                          · exact mm
                    · have g3 := of_decide_eq_false g3
                      rw [N3 (by omega)]
                      refine go0 ?_
                      refine ⟨[], [], [], rfl, rfl, trivial, rfl, trivial, ?_⟩
                      · exact mm
                · have d2 := of_decide_eq_false d2
                  rw [N2 (by omega)]
                  try (exfalso; omega)
                  all_goals
                    refine go0 ?_
                    refine ⟨fun g3 => ?_, fun g3 => ?_⟩
                    · have g3 := of_decide_eq_true g3
                      try (exfalso; omega)
                      all_goals
                        refine go0 ?_
                        refine ⟨fun d3 => ?_, fun d3 => ?_⟩
                        · have d3 := of_decide_eq_true d3
                          refine go0 ?_
                          refine .inr ⟨_, _, _, _, _, _, R3 (by omega) (by omega), [(0, 0), (1, 1)], [], ⟨rfl, trivial, rfl, lm, mm⟩, rfl, rfl, ?_⟩
                          refine go0 ?_
                          refine ⟨[], [], [], rfl, rfl, trivial, rfl, trivial, ?_⟩
                          · exact mm
                        · have d3 := of_decide_eq_false d3
                          rw [N3 (by omega)]
                          refine go0 ?_
                          refine ⟨[], [], [], rfl, rfl, trivial, rfl, trivial, ?_⟩
                          · exact mm
                    · have g3 := of_decide_eq_false g3
                      rw [N3 (by omega)]
                      refine go0 ?_
                      refine ⟨[], [], [], rfl, rfl, trivial, rfl, trivial, ?_⟩
                      · exact mm
              · have g2 := of_decide_eq_false g2
                rw [N2 (by omega)]
                try (exfalso; omega)
                all_goals
                  refine go0 ?_
                  refine ⟨fun g3 => ?_, fun g3 => ?_⟩
                  · have g3 := of_decide_eq_true g3
                    try (exfalso; omega)
                    all_goals
                      refine go0 ?_
                      refine ⟨fun d3 => ?_, fun d3 => ?_⟩
                      · have d3 := of_decide_eq_true d3
                        refine go0 ?_
                        refine .inr ⟨_, _, _, _, _, _, R3 (by omega) (by omega), [(0, 0), (1, 1)], [], ⟨rfl, trivial, rfl, lm, mm⟩, rfl, rfl, ?_⟩
                        refine go0 ?_
                        refine ⟨[], [], [], rfl, rfl, trivial, rfl, trivial, ?_⟩
                        · exact mm
                      · have d3 := of_decide_eq_false d3
                        rw [N3 (by omega)]
                        refine go0 ?_
                        refine ⟨[], [], [], rfl, rfl, trivial, rfl, trivial, ?_⟩
                        · exact mm
                  · have g3 := of_decide_eq_false g3
                    rw [N3 (by omega)]
                    refine go0 ?_
                    refine ⟨[], [], [], rfl, rfl, trivial, rfl, trivial, ?_⟩
                    · exact mm
        · have g1 := of_decide_eq_false g1
          rw [N1 (by omega)]
          try (exfalso; omega)
          all_goals
            refine go0 ?_
            refine ⟨fun g2 => ?_, fun g2 => ?_⟩
            · have g2 := of_decide_eq_true g2
              refine go0 ?_
              refine ⟨fun d2 => ?_, fun d2 => ?_⟩
              · have d2 := of_decide_eq_true d2
                refine go0 ?_
                refine .inr ⟨_, _, _, _, _, _, R2 (by omega) (by omega), [(0, 0), (1, 1)], [], ⟨rfl, trivial, rfl, lm, mm⟩, rfl, rfl, ?_⟩
                try (exfalso; omega)
                all_goals
                  refine go0 ?_
                  refine ⟨fun g3 => ?_, fun g3 => ?_⟩
                  · have g3 := of_decide_eq_true g3
                    try (exfalso; omega)
                    all_goals
                      refine go0 ?_
                      refine ⟨fun d3 => ?_, fun d3 => ?_⟩
                      · have d3 := of_decide_eq_true d3
                        refine go0 ?_
                        refine .inr ⟨_, _, _, _, _, _, R3 (by omega) (by omega), [(0, 0), (1, 1)], [], ⟨rfl, trivial, rfl, lm, mm⟩, rfl, rfl, ?_⟩
                        refine go0 ?_
                        refine ⟨[], [], [], rfl, rfl, trivial, rfl, trivial, ?_⟩
                        · exact mm
                      · have d3 := of_decide_eq_false d3
                        rw [N3 (by omega)]
                        refine go0 ?_
                        refine ⟨[], [], [], rfl, rfl, trivial, rfl, trivial, ?_⟩
                        · exact mm
                  · have g3 := of_decide_eq_false g3
                    rw [N3 (by omega)]
                    refine go0 ?_
                    refine ⟨[], [], [], rfl, rfl, trivial, rfl, trivial, ?_⟩
                    · exact mm
              · have d2 := of_decide_eq_false d2
                rw [N2 (by omega)]
                try (exfalso; omega)
                all_goals
                  refine go0 ?_
                  refine ⟨fun g3 => ?_, fun g3 => ?_⟩
                  · have g3 := of_decide_eq_true g3
                    try (exfalso; omega)
                    all_goals
                      refine go0 ?_
                      refine ⟨fun d3 => ?_, fun d3 => ?_⟩
                      · have d3 := of_decide_eq_true d3
                        refine go0 ?_
                        refine .inr ⟨_, _, _, _, _, _, R3 (by omega) (by omega), [(0, 0), (1, 1)], [], ⟨rfl, trivial, rfl, lm, mm⟩, rfl, rfl, ?_⟩
                        refine go0 ?_
                        refine ⟨[], [], [], rfl, rfl, trivial, rfl, trivial, ?_⟩
                        · exact mm
                      · have d3 := of_decide_eq_false d3
                        rw [N3 (by omega)]
                        refine go0 ?_
                        refine ⟨[], [], [], rfl, rfl, trivial, rfl, trivial, ?_⟩
                        · exact mm
                  · have g3 := of_decide_eq_false g3
                    rw [N3 (by omega)]
                    refine go0 ?_
                    refine ⟨[], [], [], rfl, rfl, trivial, rfl, trivial, ?_⟩
                    · exact mm
            · have g2 := of_decide_eq_false g2
              rw [N2 (by omega)]
              try (exfalso; omega)
              all_goals
                refine go0 ?_
                refine ⟨fun g3 => ?_, fun g3 => ?_⟩
                · have g3 := of_decide_eq_true g3
                  try (exfalso; omega)
                  all_goals
                    refine go0 ?_
                    refine ⟨fun d3 => ?_, fun d3 => ?_⟩
                    · have d3 := of_decide_eq_true d3
                      refine go0 ?_
                      refine .inr ⟨_, _, _, _, _, _, R3 (by omega) (by omega), [(0, 0), (1, 1)], [], ⟨rfl, trivial, rfl, lm, mm⟩, rfl, rfl, ?_⟩
                      refine go0 ?_
                      refine ⟨[], [], [], rfl, rfl, trivial, rfl, trivial, ?_⟩
                      · exact mm
                    · have d3 := of_decide_eq_false d3
                      rw [N3 (by omega)]
                      refine go0 ?_
                      refine ⟨[], [], [], rfl, rfl, trivial, rfl, trivial, ?_⟩
                      · exact mm
                · have g3 := of_decide_eq_false g3
                  rw [N3 (by omega)]
                  refine go0 ?_
                  refine ⟨[], [], [], rfl, rfl, trivial, rfl, trivial, ?_⟩
                  · exact mm
end Go.Proofs.Ytplkofafnbfkmaa
/- The stable sort of entries. -/
namespace Go.Proofs.Ytplkofafnbfkmaa
open Go.RowKit Go.Lib
variable {G : GS} {w : World} {P : Prot} {adr : Adr}
/-- What stands behind a round: each block of B elements is sorted. -/
def cs (B : Nat) (l : List TE) : List TE := if 0 < B ∧ B < l.length then srt (l.take B) ++ cs B (l.drop B) else srt l
termination_by l.length
decreasing_by simp; omega
theorem cs_short {B : Nat} {l : List TE} (h : l.length ≤ B) : cs B l = srt l := by rw [cs, if_neg (by omega)]
theorem cs_step {B : Nat} {l : List TE} (hB : 0 < B) (h : B ≤ l.length) : cs B l = srt (l.take B) ++ cs B (l.drop B) := by
  by_cases h1 : B < l.length
  · rw [cs, if_pos ⟨hB, h1⟩]
  · have h2 : l.length = B := by omega
    rw [cs_short (by omega), cs_short (by simp; omega), List.take_of_length_le (by omega), List.drop_eq_nil_of_le (by omega)]
    simp [srt]
theorem cs_len (B : Nat) (l : List TE) : (cs B l).length = l.length := by
  induction l using cs.induct B with
  | case1 l h ih => rw [cs, if_pos h, List.length_append, ih, (srt_perm _).length_eq]; simp; omega
  | case2 l h => rw [cs, if_neg h, (srt_perm _).length_eq]
structure Two (A B l : List TE) : Prop where
  a : SrtT A
  b : SrtT B
  t : ∀ x ∈ A, ∀ y ∈ B, x.2 < y.2
  n : TagsNe (A ++ B)
  s : srt (A ++ B) = srt l
theorem two_of {U V l : List TE} (h : U ++ V = l) (hl : TagsLt l) : Two (srt U) (srt V) l := by
  subst h
  obtain ⟨h1, h2, h3⟩ := List.pairwise_append.1 hl
  have hp : (srt U ++ srt V).Perm (U ++ V) := (srt_perm U).append (srt_perm V)
  have hn : TagsNe (srt U ++ srt V) := (ne_of_lt hl).perm hp.symm
  exact ⟨srt_srt U (ne_of_lt h1), srt_srt V (ne_of_lt h2), fun x hx y hy => h3 x ((srt_perm U).mem_iff.1 hx) y ((srt_perm V).mem_iff.1 hy), hn, srt_congr hp (ne_of_lt hl)⟩
set_option maxHeartbeats 4000000 in
theorem stable_r (n : Nat) (hN : n < 288230376151711744) (t : List TE) (hn : t.length = n) (ht : TagsLt t) : SemR Try.prog G 37 [dataM n, .int .i64 n] (sortB n t) 2 (.tup []) (sortB n (srt t)) 2 := by
  obtain ⟨cs, cs_step, cs_short, cs_len⟩ : ∃ cs : Nat → List TE → List TE, (∀ {B : Nat} {l : List TE}, 0 < B → B ≤ l.length → cs B l = srt (l.take B) ++ cs B (l.drop B)) ∧ (∀ {B : Nat} {l : List TE}, l.length ≤ B → cs B l = srt l) ∧ ∀ (B : Nat) (l : List TE), (cs B l).length = l.length := ⟨cs, cs_step, cs_short, cs_len⟩
  unfold dataM
  refine semR_of_vc seat Try.func37 rfl rfl (Nat.le_of_ble_eq_true rfl) (Nat.le_of_ble_eq_true rfl) (N := 57) rfl rfl ?_
  refine go0 ?_
  refine ⟨Nat × List TE, fun x => [(6, .int .i64 ((x.1 + 20 : Nat) : Int)), (5, .int .i64 x.1), (4, .int .i64 20), (2, .ptr 2 2 0 0 []), (1, .int .i64 n)], fun x => sortB n (x.2 ++ t.drop x.1) ++ [(2, ⟨76, 2, false, 0, [dataM n]⟩)], 3,
    fun x => x.1 ≤ n ∧ x.2.length = x.1 ∧ cs 20 t = x.2 ++ cs 20 (t.drop x.1), fun x => n - x.1, ⟨(0, []), ⟨Nat.zero_le _, rfl, rfl⟩, (by dsimp only; exact (vm [(2, _)] []))⟩, ?_⟩
  rintro ⟨a, D⟩ ⟨h1, h2, h3⟩
  dsimp only at h1 h2 h3 ⊢
  refine ⟨fun hd => ?_, fun hd => ?_⟩
  · have hle : a + 20 ≤ n := by have := of_decide_eq_true hd; omega
    have hst := cs_step (B := 20) (l := t.drop a) (by omega) (by simp; omega)
    have hcut : t.drop a = (t.drop a).take 20 ++ t.drop (a + 20) := by rw [← List.drop_drop, List.take_append_drop]
    rw [List.drop_drop] at hst
    have hA : TagsLt ((t.drop a).take 20) := ht.sublist ((List.take_sublist _ _).trans (List.drop_sublist _ _))
    have hl : ((t.drop a).take 20).length = 20 := by simp; omega
    rw [hcut]
    generalize hseg : (t.drop a).take 20 = A at *
    refine go0 ?_
    refine vOpsN_callR (fun _ h => h) rfl (insertion_r (G := G) n (by omega) D A (t.drop (a + 20)) a (a + 20) h2 (by omega) (by simp; omega) hA) [(0, 0), (1, 1)] [] ⟨rfl, trivial, rfl, lm, mm⟩ rfl rfl ?_
    refine go0 ?_
    refine ⟨(a + 20, D ++ srt A), ⟨hle, by show (D ++ srt A).length = a + 20; rw [List.length_append, (srt_perm A).length_eq]; omega, by show cs 20 t = (D ++ srt A) ++ cs 20 (t.drop (a + 20)); rw [h3, hst, List.append_assoc]⟩, by show n - (a + 20) < n - a; omega, ?_⟩
    dsimp only
    rw [List.append_assoc]
    exact (vm [(2, _)] [])
  · have hle : n < a + 20 := by have := of_decide_eq_false hd; omega
    have hst := cs_short (B := 20) (l := t.drop a) (by simp; omega)
    have hA : TagsLt (t.drop a) := ht.sublist (List.drop_sublist _ _)
    have hlA : a + (t.drop a).length = n := by simp; omega
    have hins := insertion_r (G := G) n (by omega) D (t.drop a) [] a n h2 hlA (by simp) hA
    rw [List.append_nil, List.append_nil, ← hst, ← h3] at hins
    refine go0 ?_
    refine vOpsN_callR (fun _ h => h) rfl (hins) [(0, 0), (1, 1)] [] ⟨rfl, trivial, rfl, lm, mm⟩ rfl rfl ?_
    clear hins hst hA hlA hle hd h1 h2 h3
    refine go0 ?_
    refine ⟨Nat, fun B => [(4, .int .i64 B), (2, .ptr 2 2 0 0 []), (1, .int .i64 n)], fun B => sortB n (cs B t) ++ [(2, ⟨76, 2, false, 0, [dataM n]⟩)], 3, fun B => 0 < B ∧ (B = 20 ∨ B < 2 * n), fun B => n - B, ⟨20, ⟨by omega, .inl rfl⟩, (by dsimp only; exact (vm [(2, _)] []))⟩, ?_⟩
    rintro B ⟨hB0, hB2⟩
    refine ⟨fun hd => ?_, fun hd => ?_⟩
    · have hBn : B < n := by have := of_decide_eq_true hd; omega
      refine go0 ?_
      refine ⟨Nat × List TE, fun x => [(6, .int .i64 ((x.1 + 2 * B : Nat) : Int)), (5, .int .i64 x.1), (4, .int .i64 B), (2, .ptr 2 2 0 0 []), (1, .int .i64 n)], fun x => sortB n (x.2 ++ cs B (t.drop x.1)) ++ [(2, ⟨76, 2, false, 0, [dataM n]⟩)], 3,
        fun x => x.1 ≤ n ∧ x.2.length = x.1 ∧ cs (2 * B) t = x.2 ++ cs (2 * B) (t.drop x.1), fun x => n - x.1, ⟨(0, []), ⟨Nat.zero_le _, rfl, rfl⟩, (by dsimp only; exact (vm [(2, _)] []))⟩, ?_⟩
      rintro ⟨a, D⟩ ⟨h1, h2, h3⟩
      dsimp only at h1 h2 h3 ⊢
      have hl : TagsLt (t.drop a) := ht.sublist (List.drop_sublist _ _)
      have hll : (t.drop a).length = n - a := by simp [hn]
      refine ⟨fun hd => ?_, fun hd => ?_⟩
      · have hle : a + 2 * B ≤ n := by have := of_decide_eq_true hd; omega
        have e1 := cs_step (B := B) (l := t.drop a) hB0 (by omega)
        have e2 := cs_step (B := B) (l := (t.drop a).drop B) hB0 (by simp; omega)
        have e3 := cs_step (B := 2 * B) (l := t.drop a) (by omega) (by omega)
        have hU : (t.drop a).take B ++ ((t.drop a).drop B).take B = (t.drop a).take (2 * B) := by
          rw [show 2 * B = B + B by omega, List.take_add]
        have h2' := two_of hU (hl.sublist (List.take_sublist _ _))
        have l1 : (srt ((t.drop a).take B)).length = B := by rw [(srt_perm _).length_eq]; simp; omega
        have l2 : (srt (((t.drop a).drop B).take B)).length = B := by rw [(srt_perm _).length_eq]; simp; omega
        rw [List.drop_drop, List.drop_drop, show a + B + B = a + 2 * B by omega] at e2
        rw [List.drop_drop] at h2' l2 e1
        rw [List.drop_drop] at e3
        rw [e1, e2]
        rw [e3] at h3
        rw [← h2'.s] at h3
        have l3 : (cs B (t.drop (a + 2 * B))).length = n - (a + 2 * B) := by rw [cs_len]; simp [hn]
        clear e1 e2 e3 hU
        generalize srt ((t.drop a).take B) = U at *
        generalize srt ((t.drop (a + B)).take B) = V at *
        have lUV : (srt (U ++ V)).length = 2 * B := by rw [(srt_perm _).length_eq, List.length_append]; omega
        refine go0 ?_
        refine vOpsN_callR (fun _ h => h) rfl (sym_r (G := G) n (by omega) (2 * B) D U V (cs B (t.drop (a + 2 * B))) a (a + B) (a + 2 * B) (by omega) h2 (by omega) (by omega) (by omega) (by omega) (by omega) h2'.a h2'.b h2'.t h2'.n) [(0, 0), (1, 1)] [] ⟨rfl, trivial, rfl, lm, mm⟩ rfl rfl ?_
        refine go0 ?_
        refine ⟨(a + 2 * B, D ++ srt (U ++ V)), ⟨hle, by show (D ++ srt (U ++ V)).length = a + 2 * B; rw [List.length_append]; omega, by show cs (2 * B) t = (D ++ srt (U ++ V)) ++ cs (2 * B) (t.drop (a + 2 * B)); rw [h3, List.append_assoc]⟩, by show n - (a + 2 * B) < n - a; omega, ?_⟩
        dsimp only
        rw [List.append_assoc]
        exact (vm [(2, _)] [])
      · have hle : n < a + 2 * B := by have := of_decide_eq_false hd; omega
        have e3 := cs_short (B := 2 * B) (l := t.drop a) (by omega)
        refine go0 ?_
        refine ⟨fun hd => ?_, fun hd => ?_⟩
        · have hlt : a + B < n := by have := of_decide_eq_true hd; omega
          have e1 := cs_step (B := B) (l := t.drop a) hB0 (by omega)
          have e2 := cs_short (B := B) (l := (t.drop a).drop B) (by simp; omega)
          have h2' := two_of (List.take_append_drop B (t.drop a)) hl
          have l1 : (srt ((t.drop a).take B)).length = B := by rw [(srt_perm _).length_eq]; simp; omega
          have l2 : (srt ((t.drop a).drop B)).length = n - (a + B) := by rw [(srt_perm _).length_eq]; simp; omega
          rw [e1, e2]
          rw [e3, ← h2'.s] at h3
          generalize srt ((t.drop a).take B) = U at *
          generalize srt ((t.drop a).drop B) = V at *
          have hsym := sym_r (G := G) n (by omega) n D U V [] a (a + B) n (by omega) h2 (by omega) (by omega) (by simp) (by omega) (by omega) h2'.a h2'.b h2'.t h2'.n
          rw [List.append_nil, List.append_nil, ← h3] at hsym
          refine go0 ?_
          refine vOpsN_callR (fun _ h => h) rfl (hsym) [(0, 0), (1, 1)] [] ⟨rfl, trivial, rfl, lm, mm⟩ rfl rfl ?_
          refine go0 ?_
          exact ⟨2 * B, ⟨by omega, .inr (by omega)⟩, by show n - 2 * B < n - B; omega, (by dsimp only; exact (vm [(2, _)] []))⟩
        · have hlt : n ≤ a + B := by have := of_decide_eq_false hd; omega
          have e1 := cs_short (B := B) (l := t.drop a) (by omega)
          rw [e1, ← e3, ← h3]
          refine go0 ?_
          exact ⟨2 * B, ⟨by omega, .inr (by omega)⟩, by show n - 2 * B < n - B; omega, (by dsimp only; exact (vm [(2, _)] []))⟩
    · have hBn : n ≤ B := by have := of_decide_eq_false hd; omega
      dsimp only
      rw [cs_short (by omega)]
      refine go0 ?_
      refine ⟨[], [], [], rfl, rfl, trivial, rfl, trivial, ?_⟩
      · exact mm
end Go.Proofs.Ytplkofafnbfkmaa
/- What the library does at once when a slice is sorted. -/
namespace Go.Proofs.Ytplkofafnbfkmaa
open Go.RowKit Go.Lib
variable {G : GS} {w : World} {P : Prot} {adr : Adr}
noncomputable def infS : TypeInfo := (Try.prog.info? 22).get (by kernel_rfl)
noncomputable def infE : TypeInfo := (Try.prog.info? 50).get (by kernel_rfl)
theorem info_S : Try.prog.info? 22 = some infS := by kernel_rfl
theorem info_E : Try.prog.info? 50 = some infE := by kernel_rfl
theorem desc_S : infS.desc = .slice 50 := by kernel_rfl
theorem pack_S : Try.prog.packed 22 = false := by kernel_rfl
theorem kind_E (w : World) : (Extern.Rtype.kind 50).run Try.prog w = .ok 25 w := by kernel_rfl
theorem swK (n : Nat) (h2 : 2 ≤ n) : swapperK n infE 25 = 9 := by
  have a : infE.hasPointers = true := by kernel_rfl
  have b : (infE.bytes == 8) = false := by kernel_rfl
  have c : (n == 0) = false := by simp; omega
  have d : (n == 1) = false := by simp; omega
  simp [swapperK, a, b, c, d]
theorem ms_val {c es off n : Nat} {u : Value} (h : RepV w P adr (.ms c es off n) u) : ∃ p cap, u = .slice p n cap ∧ Rep w P adr (.ms c es off n) [.slice p n cap] := by
  cases h with
  | val cs h =>
    cases h with
    | ms0 => exact ⟨none, 0, rfl, .ms0⟩
    | ms g o cap h1 h2 h3 h4 h5 => exact ⟨_, cap, rfl, .ms g o cap h1 h2 h3 h4 h5⟩
theorem ifc_val {t n es c off : Nat} {u : Value} (h : RepV w P adr (.ifc t (.ms c es off n)) u) : ∃ p cap, u = .iface t (.slice p n cap) ∧ Rep w P adr (.ms c es off n) [.slice p n cap] := by
  cases h with
  | val cs h =>
    cases h with
    | ifc cs hr =>
      obtain ⟨p, cap, h1, h2⟩ := ms_val (.val cs hr)
      exact ⟨p, cap, by rw [← h1]; rfl, h2⟩
theorem valueOf_p (n : Nat) (t : List TE) : SemP Try.prog G 35 [.ifc 22 (.ms 1 41 0 n)] (sortB n t) 2 (.st [hndM 22, .ptr 2 1 0 0 [], .int .u64 151]) ((2, ⟨22, 1, false, 0, [.ms 1 41 0 n]⟩) :: sortB n t) 3 := by
  intro w P adr vals hg hI hn hL hargs
  cases hargs with | cons a1 hargs =>
  cases hargs
  obtain ⟨p, cap, rfl, hr⟩ := ifc_val a1
  have hf : (callFunc 35 #[.iface 22 (.slice p n cap)]).run Try.prog w = _ :=
    run_callFunc_extern Try.func35 (by kernel_rfl) (by kernel_rfl) (by kernel_rfl) (e := fun args => Extern.ReflectliteValue.unpack (args.getD 0 (.tuple #[]))) (by kernel_rfl) _ w
  rw [show (#[.iface 22 (.slice p n cap)] : Array Value).getD 0 (.tuple #[]) = .iface 22 (.slice p n cap) from rfl, run_valueOf_slice _ _ infS info_S desc_S] at hf
  have hb := Below.alloc1 w (.cells #[.slice p n cap] 22)
  obtain ⟨i1, k1⟩ := hI.new (b := ⟨22, 1, false, 0, [.ms 1 41 0 n]⟩) (hn 2 (Nat.le_refl _)) rfl hb (cur := #[.slice p n cap]) (parts := [[.slice p n cap]]) (by show (w.heap.push _)[w.heap.size]? = _; simp) rfl (by simp) (fun j x q hx hq => by
    match j with
    | 0 => simp at hx hq; subst hx hq; exact hr
    | j + 1 => simp at hx) (by simp) (Nat.zero_le _)
  rw [vget_new] at i1
  refine ⟨_, _, hf, _, rfl, P, _, i1, ?_, k1, fun c hc => fput_ne _ _ (by omega), fun c hc => (fput_ne _ _ (by omega)).trans (hn c (by omega)), fun c g hc => ?_, fun b o ho => .inl ho, (Since.of_below hb).weak fun _ e => e.elim⟩
  · exact .val _ (.st [[typeHandle Try.prog 22], [.pointer (some ⟨w.heap.size, 0, none⟩)], [.int .u64 151]] rfl fun j m q hm hq => by
      match j with
      | 0 => simp at hm hq; subst hm hq; exact .gp
      | 1 => simp at hm hq; subst hm hq; exact .ptr (fo := 0) (k := 0) w.heap.size (fput_same _ _ _)
      | 2 => simp at hm hq; subst hm hq; exact .int
      | j + 3 => simp at hm)
  · by_cases h : c = 2
    · subst h; rw [fput_same] at hc; injection hc with hc; exact .inl (by omega)
    · rw [fput_ne _ _ h] at hc; exact .inr ⟨c, hc⟩
/-- The slice that stands in its variable. -/
theorem var_cell (n : Nat) (t : List TE) {g : Nat} (hI : InvM w P adr (VM.get (sortB n t))) (hg : adr 0 = some g) : ∃ p cap, w.cell? ⟨g, 0, none⟩ = some (.slice p n cap) := by
  rcases hI.blk 0 _ rfl with h | ⟨g', h1, h2⟩
  · rw [hg] at h; cases h.2.2.1
  · rw [hg] at h1
    injection h1 with h1
    subst h1
    obtain ⟨cur, parts, q1, q2, q3, q4, q5⟩ := h2.has
    match parts, q2 with
    | [s], _ =>
      have hr := q4 0 _ s rfl rfl
      obtain ⟨p, cap, hu, hv⟩ := ms_val (.val s hr)
      have hs : s.length = 1 := q3 s (by simp)
      match s, hs with
      | [u], _ =>
        have : u = .slice p n cap := hu
        subst this
        refine ⟨p, cap, ?_⟩
        rw [cell_of_row w g 0 cur _ (0, 0) q1]
        have := prefix_get q5 (j := 0) (x := .slice p n cap) (by simp)
        simpa using this
theorem valueLen_p (n : Nat) (t : List TE) : SemP Try.prog G 38 [.st [hndM 22, .ptr 0 1 0 0 [], .int .u64 151]] (sortB n t) 2 (.int .i64 n) (sortB n t) 2 := by
  intro w P adr vals hg hI hn hL hargs
  cases hargs with | cons a1 hargs =>
  cases hargs
  obtain ⟨cs, h1, rfl⟩ := a1.agg_ rfl
  cases h1 with | st parts hp hr =>
  match parts, hp with
  | [c0, c1, c2], _ =>
    have r0 := hr 0 _ c0 rfl rfl
    have r1 := hr 1 _ c1 rfl rfl
    have r2 := hr 2 _ c2 rfl rfl
    cases r0
    cases r2
    cases r1 with | ptr g h1 =>
    obtain ⟨p, cap, hc⟩ := var_cell n t hI h1
    have hf : (callFunc 38 #[.agg #[typeHandle Try.prog 22, .pointer (some ⟨g, 0, none⟩), .int .u64 151]]).run Try.prog w = _ :=
      run_callFunc_extern Try.func38 (by kernel_rfl) (by kernel_rfl) (by kernel_rfl) (e := Extern.ReflectliteValue.method (Extern.ReflectliteValue.valueError "reflectlite.Value.Len" 0) Extern.ReflectliteValue.len) (by kernel_rfl) _ w
    rw [run_valueLen_slice _ _ infS info_S desc_S pack_S _ _ _ _ _ hc] at hf
    exact ⟨_, _, hf, _, rfl, P, adr, hI, .val [_] .int, Keep.refl _ _ _, fun _ _ => rfl, hn, fun c g hc => .inr ⟨c, hc⟩, fun b o ho => .inl ho, Since.refl _ _⟩
noncomputable def swpM (n : Nat) : MV := if n = 0 then .fn 42 [] else if n = 1 then .fn 43 [] else .fn 50 [.ms 1 41 0 n, hndM 50]
theorem swapper_p (n : Nat) (t : List TE) : SemP Try.prog G 36 [.ifc 22 (.ms 1 41 0 n)] (sortB n t) 2 (swpM n) (sortB n t) 2 := by
  intro w P adr vals hg hI hn hL hargs
  cases hargs with | cons a1 hargs =>
  cases hargs
  obtain ⟨p, cap, rfl, hr⟩ := ifc_val a1
  have hf : (callFunc 36 #[.iface 22 (.slice p n cap)]).run Try.prog w = _ :=
    run_callFunc_extern Try.func36 (by kernel_rfl) (by kernel_rfl) (by kernel_rfl) (e := Extern.ReflectliteSwapper.swapper "internal/reflectlite" (Extern.ReflectliteValue.valueError "Swapper")) (by kernel_rfl) _ w
  have fin : ∀ v, (callFunc 36 #[.iface 22 (.slice p n cap)]).run Try.prog w = .ok (.value v) w → RepV w P adr (swpM n) v → Prims Try.prog 36 #[.iface 22 (.slice p n cap)] w fun e w' => ∃ v, e = .returned v ∧ ∃ P' adr', InvM w' P' adr' (VM.get (sortB n t)) ∧ RepV w' P' adr' (swpM n) v ∧ Keep w w' P P' adr adr' ∧ (∀ c, c < 2 → adr' c = adr c) ∧ (∀ c, 2 ≤ c → adr' c = none) ∧
      (∀ c g, adr' c = some g → w.heap.size ≤ g ∨ ∃ c0, adr c0 = some g) ∧ (∀ b o, P' b o → P b o ∨ w.heap.size ≤ b ∨ ∃ c0, adr c0 = some b) ∧ Since (fun g => ∃ c0, adr c0 = some g) w w' :=
    fun v hv hr => ⟨_, _, hv, _, rfl, P, adr, hI, hr, Keep.refl _ _ _, fun _ _ => rfl, hn, fun c g hc => .inr ⟨c, hc⟩, fun b o ho => .inl ho, Since.refl _ _⟩
  match n with
  | 0 =>
    rw [run_swapper_slice _ _ infS infE info_S desc_S info_E 25 kind_E p 0 cap 42 (by kernel_rfl)] at hf
    exact fin _ hf (.val _ (.fn [] rfl fun j m q h => by simp at h))
  | 1 =>
    rw [run_swapper_slice _ _ infS infE info_S desc_S info_E 25 kind_E p 1 cap 43 (by kernel_rfl)] at hf
    exact fin _ hf (.val _ (.fn [] rfl fun j m q h => by simp at h))
  | k + 2 =>
    have hk := swK (k + 2) (by omega)
    rw [run_swapper_slice _ _ infS infE info_S desc_S info_E 25 kind_E p (k + 2) cap 50 (by rw [hk]; kernel_rfl), hk] at hf
    refine fin _ hf ?_
    have e : swpM (k + 2) = .fn 50 [.ms 1 41 0 (k + 2), hndM 50] := by unfold swpM; rw [if_neg (by omega), if_neg (by omega)]
    rw [e]
    exact .val _ (.fn [[.slice p (k + 2) cap], [typeHandle Try.prog 50]] rfl fun j m q hm hq => by
      match j with
      | 0 => simp at hm hq; subst hm hq; exact hr
      | 1 => simp at hm hq; subst hm hq; exact .gp
      | j + 2 => simp at hm)
end Go.Proofs.Ytplkofafnbfkmaa
/- The order in which entries leave. -/
namespace Go.Proofs.Ytplkofafnbfkmaa
open Go.RowKit
variable {G : GS}
theorem entAt {c : List Ent} {k : Nat} {e : Ent} (h : c[k]? = some e) : nthM (c.map entM) (0 + k) = some (entM e) := by rw [nthM_eq, Nat.zero_add, List.getElem?_map, h]; rfl
theorem entSet (c : List Ent) (k : Nat) (e : Ent) : setL (c.map entM) (0 + k) (entM e) = (c.set k e).map entM := by rw [setL_eq, Nat.zero_add, List.map_set]
set_option maxHeartbeats 1000000 in
theorem reverse_r (l : List Ent) (hl : l.length < 1000000000) : SemR Try.prog G 25 [.ms 0 41 0 l.length] [(0, ⟨50, 41, true, 0, l.map entM⟩)] 1 (.tup []) [(0, ⟨50, 41, true, 0, l.reverse.map entM⟩)] 1 := by
  refine semR_of_vc seat Try.func25 rfl rfl (Nat.le_of_ble_eq_true rfl) (Nat.le_of_ble_eq_true rfl) (N := 28) rfl rfl ?_
  refine go0 ?_
  refine ⟨Nat × List Ent × List Ent × List Ent, fun x => [(3, .int .i64 ((l.length : Int) - 1 - x.1)), (2, .int .i64 x.1), (0, .ms 0 41 0 l.length)], fun x => [(0, ⟨50, 41, true, 0, (x.2.1 ++ (x.2.2.1 ++ x.2.2.2)).map entM⟩)], 1, fun x => x.2.1.length = x.1 ∧ x.2.2.2.length = x.1 ∧ x.1 + x.2.2.1.length + x.1 = l.length ∧ l.reverse = x.2.1 ++ (x.2.2.1.reverse ++ x.2.2.2), fun x => x.2.2.1.length, ⟨(0, [], l, []), ⟨rfl, rfl, by simp, by simp⟩, ?_⟩, ?_⟩
  · dsimp only
    rw [List.nil_append, List.append_nil]
    exact (vm [] [])
  rintro ⟨i, A, M, B⟩ ⟨h1, h2, h3, h4⟩
  dsimp only at h1 h2 h3 h4 ⊢
  refine ⟨fun hd => ?_, fun hd => ?_⟩
  · have hlt : 2 ≤ M.length := by have := of_decide_eq_true hd; omega
    obtain ⟨x, M', rfl⟩ : ∃ x M', M = x :: M' := by cases M with | nil => simp at hlt | cons x M' => exact ⟨x, M', rfl⟩
    obtain ⟨M, y, rfl, hM⟩ := cutL' M' (k := M'.length - 1) (by simp at hlt; omega)
    have hML : (x :: (M ++ [y])).length = M.length + 2 := by simp
    rw [hML] at h3 hlt
    clear hM
    have hc : A ++ ((x :: (M ++ [y])) ++ B) = A ++ x :: (M ++ y :: B) := by simp
    have hsw : swp (A ++ x :: (M ++ y :: B)) i (l.length - 1 - i) = A ++ y :: (M ++ x :: B) := swp_app' h1 (by omega)
    have hlen : (A ++ x :: (M ++ y :: B)).length = l.length := by simp; omega
    have hx : (A ++ x :: (M ++ y :: B))[i]? = some x := by subst h1; simp
    have hy : (A ++ x :: (M ++ y :: B))[l.length - 1 - i]? = some y := by
      have e : A ++ x :: (M ++ y :: B) = (A ++ x :: M) ++ y :: B := by simp
      rw [e, List.getElem?_append_right (by simp; omega), show l.length - 1 - i - (A ++ x :: M).length = 0 by simp; omega]; rfl
    have hset : ((A ++ x :: (M ++ y :: B)).set i y).set (l.length - 1 - i) x = A ++ y :: (M ++ x :: B) := by
      rw [← hsw]; unfold swp; rw [hx, hy]
    rw [hc, show ((l.length : Int) - 1 - i) = ((l.length - 1 - i : Nat) : Int) by omega]
    generalize hC : A ++ x :: (M ++ y :: B) = c at *
    generalize hJ : l.length - 1 - i = j at *
    refine go0 ?_
    refine ⟨[(0, false), (1, false), (2, false), (3, false), (4, false), (5, false), (6, false), (7, false), (8, false), (9, false), (10, false), (11, false), (12, false), (13, false), (14, false), (15, false)], ?_⟩
    refine go0 ?_
    refine ⟨_, entAt hy, ?_⟩
    refine go0 ?_
    refine ⟨_, entAt hx, ?_⟩
    refine go0 ?_
    refine ⟨_, entAt hx, _, rfl, _, sv (entSet _ _ _), ?_⟩
    refine go0 ?_
    refine ⟨_, entAt (c := c.set i y) (e := y) ?_, _, rfl, _, sv (entSet _ _ _), ?_⟩
    · rw [List.getElem?_set_ne (by omega)]; exact hy
    rw [hset]
    refine go0 ?_
    refine ⟨(i + 1, A ++ [y], M, x :: B), ⟨by simp [h1], by simp [h2], by show i + 1 + M.length + (i + 1) = l.length; omega, by rw [h4]; simp⟩, by show M.length < (x :: (M ++ [y])).length; rw [hML]; omega, ?_⟩
    dsimp only
    rw [show (A ++ [y]) ++ (M ++ x :: B) = A ++ y :: (M ++ x :: B) by simp]
    exact (vm [] [])
  · have hlt : M.length ≤ 1 := by have := of_decide_eq_false hd; omega
    have hM : M.reverse = M := by
      match M, hlt with
      | [], _ => rfl
      | [x], _ => rfl
      | _ :: _ :: _, h => simp at h
    rw [hM] at h4
    rw [h4]
    refine go0 ?_
    refine ⟨[], [], [], rfl, rfl, trivial, rfl, trivial, ?_⟩
    · exact mm
end Go.Proofs.Ytplkofafnbfkmaa
/- The order in which entries leave. -/
namespace Go.Proofs.Ytplkofafnbfkmaa
open Go.RowKit
variable {G : GS}
abbrev lessM : MV := .fn 27 [.ptr 0 1 0 0 []]
set_option maxHeartbeats 1000000 in
set_option maxRecDepth 20000 in
theorem tiny_ins (n : Nat) (hn : n ≤ 1) (t : List TE) (f : FuncId) : SemR Try.prog G 51 [.st [lessM, .fn f []], .int .i64 0, .int .i64 n] (sortB n t) 2 (.tup []) (sortB n t) 2 := by
  refine semR_of_vc seat Try.func51 rfl rfl (Nat.le_of_ble_eq_true rfl) (Nat.le_of_ble_eq_true rfl) (N := 35) rfl rfl ?_
  refine go1 ?_
  refine c_loop Unit (fun _ => [(6, .int .i64 1), (2, .int .i64 n)]) (fun _ => sortB n t) 2 (fun _ => True) (fun _ => 0) () trivial (vm [] []) ?_
  intro _ _
  refine go1 ?_
  ((with_reducible apply c_cond); (case he => exact rfl); (all_goals intro h))
  · exfalso
    have := of_decide_eq_true h
    omega
  · refine go1 ?_
    refine ⟨[], [], [], rfl, rfl, trivial, rfl, trivial, ?_⟩
    · exact mm
set_option maxHeartbeats 1000000 in
set_option maxRecDepth 20000 in
theorem tiny_stable (n : Nat) (hn : n ≤ 1) (t : List TE) (f : FuncId) : SemR Try.prog G 37 [.st [lessM, .fn f []], .int .i64 n] (sortB n t) 2 (.tup []) (sortB n t) 2 := by
  refine semR_of_vc seat Try.func37 rfl rfl (Nat.le_of_ble_eq_true rfl) (Nat.le_of_ble_eq_true rfl) (N := 57) rfl rfl ?_
  refine go1 ?_
  refine c_loop Unit (fun _ => [(6, .int .i64 20), (5, .int .i64 0), (4, .int .i64 20), (2, .ptr 2 2 0 0 []), (1, .int .i64 n)]) (fun _ => sortB n t ++ [(2, ⟨76, 2, false, 0, [.st [lessM, .fn f []]]⟩)]) 3 (fun _ => True) (fun _ => 0) () trivial (vm [(2, _)] []) ?_
  intro _ _
  refine go1 ?_
  ((with_reducible apply c_cond); (case he => exact rfl); (all_goals intro h))
  · exfalso
    have := of_decide_eq_true h
    omega
  · refine go1 ?_
    refine g_callR1 rfl (fun _ h => h) rfl (tiny_ins n hn t f) [(0, 0), (1, 1)] [] ⟨rfl, trivial, rfl, lm, mm⟩ rfl rfl ?_
    refine go1 ?_
    refine c_loop Unit (fun _ => [(4, .int .i64 20), (1, .int .i64 n)]) (fun _ => sortB n t) 2 (fun _ => True) (fun _ => 0) () trivial (vm [] []) ?_
    intro _ _
    refine go1 ?_
    ((with_reducible apply c_cond); (case he => exact rfl); (all_goals intro h))
    · exfalso
      have := of_decide_eq_true h
      omega
    · refine go1 ?_
      refine ⟨[], [], [], rfl, rfl, trivial, rfl, trivial, ?_⟩
      · exact mm
set_option maxHeartbeats 1000000 in
set_option maxRecDepth 20000 in
theorem sliceStable_r (n : Nat) (hN : n < 288230376151711744) (t : List TE) (hn : t.length = n) (ht : TagsLt t) : SemR Try.prog G 26 [.ifc 22 (.ms 1 41 0 n), lessM] (sortB n t) 2 (.tup []) (sortB n (srt t)) 2 := by
  have hsw := swapper_p (G := G) n t
  by_cases h0 : n = 0
  · have e : swpM n = .fn 42 [] := by unfold swpM; rw [if_pos h0]
    rw [e] at hsw
    have hst := tiny_stable (G := G) n (by omega) t 42
    rw [srt_one (by omega)]
    refine semR_of_vc seat Try.func26 rfl rfl (Nat.le_of_ble_eq_true rfl) (Nat.le_of_ble_eq_true rfl) (N := 16) rfl rfl ?_
    refine go1 ?_
    refine g_callP1 rfl (fun _ h => h) rfl (valueOf_p n t) [(0, 0), (1, 1)] [] ⟨rfl, trivial, rfl, lm, mm⟩ rfl rfl ?_
    refine go1 ?_
    refine g_callP1 rfl (fun _ h => h) rfl (hsw) [(0, 0), (1, 1)] [] ⟨rfl, trivial, rfl, lm, mm⟩ rfl rfl ?_
    refine go1 ?_
    refine g_callP1 rfl (fun _ h => h) rfl (valueLen_p n t) [(0, _), (1, 1)] [] ⟨rfl, trivial, rfl, lm, mm⟩ rfl rfl ?_
    refine go1 ?_
    refine g_callR1 rfl (fun _ h => h) rfl (hst) [(0, 0), (1, 1)] [] ⟨rfl, trivial, rfl, lm, mm⟩ rfl rfl ?_
    refine go1 ?_
    refine ⟨[], [], [], rfl, rfl, trivial, rfl, trivial, ?_⟩
    · exact mm
  by_cases h1 : n = 1
  · have e : swpM n = .fn 43 [] := by unfold swpM; rw [if_neg h0, if_pos h1]
    rw [e] at hsw
    have hst := tiny_stable (G := G) n (by omega) t 43
    rw [srt_one (by omega)]
    refine semR_of_vc seat Try.func26 rfl rfl (Nat.le_of_ble_eq_true rfl) (Nat.le_of_ble_eq_true rfl) (N := 16) rfl rfl ?_
    refine go1 ?_
    refine g_callP1 rfl (fun _ h => h) rfl (valueOf_p n t) [(0, 0), (1, 1)] [] ⟨rfl, trivial, rfl, lm, mm⟩ rfl rfl ?_
    refine go1 ?_
    refine g_callP1 rfl (fun _ h => h) rfl (hsw) [(0, 0), (1, 1)] [] ⟨rfl, trivial, rfl, lm, mm⟩ rfl rfl ?_
    refine go1 ?_
    refine g_callP1 rfl (fun _ h => h) rfl (valueLen_p n t) [(0, _), (1, 1)] [] ⟨rfl, trivial, rfl, lm, mm⟩ rfl rfl ?_
    refine go1 ?_
    refine g_callR1 rfl (fun _ h => h) rfl (hst) [(0, 0), (1, 1)] [] ⟨rfl, trivial, rfl, lm, mm⟩ rfl rfl ?_
    refine go1 ?_
    refine ⟨[], [], [], rfl, rfl, trivial, rfl, trivial, ?_⟩
    · exact mm
  have e : swpM n = .fn 50 [.ms 1 41 0 n, hndM 50] := by unfold swpM; rw [if_neg h0, if_neg h1]
  rw [e] at hsw
  have hst := stable_r (G := G) n hN t hn ht
  unfold dataM at hst
  refine semR_of_vc seat Try.func26 rfl rfl (Nat.le_of_ble_eq_true rfl) (Nat.le_of_ble_eq_true rfl) (N := 16) rfl rfl ?_
  refine go1 ?_
  refine g_callP1 rfl (fun _ h => h) rfl (valueOf_p n t) [(0, 0), (1, 1)] [] ⟨rfl, trivial, rfl, lm, mm⟩ rfl rfl ?_
  refine go1 ?_
  refine g_callP1 rfl (fun _ h => h) rfl (hsw) [(0, 0), (1, 1)] [] ⟨rfl, trivial, rfl, lm, mm⟩ rfl rfl ?_
  refine go1 ?_
  refine g_callP1 rfl (fun _ h => h) rfl (valueLen_p n t) [(0, _), (1, 1)] [] ⟨rfl, trivial, rfl, lm, mm⟩ rfl rfl ?_
  refine go1 ?_
  refine g_callR1 rfl (fun _ h => h) rfl (hst) [(0, 0), (1, 1)] [] ⟨rfl, trivial, rfl, lm, mm⟩ rfl rfl ?_
  refine go1 ?_
  refine ⟨[], [], [], rfl, rfl, trivial, rfl, trivial, ?_⟩
  · exact mm
/-- The order in which entries leave. -/
def orderS (l : List Ent) : List Ent := ordE l.reverse
set_option maxHeartbeats 2000000 in
set_option maxRecDepth 20000 in
/-- A copy of entries that belongs to the caller. -/
theorem own_entries2 (l : List Ent) (hl : l.length < 1000000) (hok : ∀ e ∈ l, e.raw.length < 536870912 ∧ e.peers.length < 536870912) : SemR Try.prog G 24 [.sl l.length (l.map entM)] [] 0 (.ms 0 41 0 l.length) [(0, ⟨50, 41, true, 0, l.map entM⟩)] 1 := by
  refine semR_of_vc seat Try.func24 rfl rfl (Nat.le_of_ble_eq_true rfl) (Nat.le_of_ble_eq_true rfl) (N := 19) rfl rfl ?_
  refine go1 ?_
  refine c_loop Nat (fun k => [(8, .int .i64 k), (7, .int .i64 l.length), (6, .sl l.length (l.map entM)), (3, .ms 0 41 0 k)]) (fun k => [(0, ⟨50, 41, true, 0, (l.take k).map entM⟩)]) 1 (fun k => k ≤ l.length) (fun k => l.length - k) 0 (Nat.zero_le _) (vm [] []) ?_
  intro k hk
  try dsimp only
  refine go1 ?_
  ((with_reducible apply c_cond); (case he => exact rfl); (all_goals intro h))
  · have hk' : k < l.length := by have := of_decide_eq_true h; omega
    have hke := hok _ (List.getElem_mem hk')
    (have fct := SomF.mk (ents_at hk'); refine go1 ?_)
    refine g_call2 rfl (fun _ h => h) rfl (semR_of_semC (own_entry l[k] hke.1 hke.2)) rfl lm ?_
    refine go1 ?_
    ((with_reducible apply g_mem); (case hq => exact rfl); (case hv => exact rfl); (case he => (intro R hR; refine sms hR ?_; (refine And.intro (Nat.le_refl _) ?_; refine ⟨_, rfl, ?_⟩; refine And.intro ⟨(by simp; omega), app_ok (by kernel_rfl) (by first | rfl | omega | (simp [u8s, cutL, setL, repM, List.replicate_succ', List.range_succ]; done) | (simp [u8s, cutL, setL, repM]; omega))⟩ ?_; refine ⟨(l.take (k + 1)).map entM, sv (by rw [List.take_succ_eq_append_getElem hk', List.map_append]; rfl), k + 1, sv (by first | rfl | omega | (simp [u8s, cutL, setL, repM, List.replicate_succ', List.range_succ]; done) | (simp [u8s, cutL, setL, repM]; omega)), ?_⟩); exact hR)); (case hd => exact rfl))
    refine go1 ?_
    exact ⟨k + 1, by show k + 1 ≤ l.length; omega, by show l.length - (k + 1) < l.length - k; omega, (by dsimp only; exact (vm [(0, _)] []))⟩
  · have hk' : k = l.length := by have := of_decide_eq_false h; omega
    subst hk'
    rw [List.take_length]
    refine go1 ?_
    refine ⟨[_], [(0, 0)], [], rfl, rfl, trivial, rfl, ⟨?_, trivial⟩, ?_⟩
    · exact .inr ⟨_, rfl, rfl⟩
    · exact mm
set_option maxHeartbeats 1000000 in
set_option maxRecDepth 20000 in
theorem order_r (l : List Ent) (hl : l.length < 1000000) (hok : ∀ e ∈ l, e.raw.length < 536870912 ∧ e.peers.length < 536870912) : SemR Try.prog G 13 [.sl l.length (l.map entM)] [] 0 (.sl l.length ((orderS l).map entM)) [] 0 := by
  have hsort := sliceStable_r (G := G) l.length (by omega) (tag 0 l.reverse) (by rw [tag_len]; simp) (tag_lt _ _)
  have e1 : (tag 0 l.reverse).map teM = l.reverse.map entM := by
    have : (tag 0 l.reverse).map teM = ((tag 0 l.reverse).map (·.1)).map entM := by rw [List.map_map]; rfl
    rw [this, tag_fst]
  have e2 : (srt (tag 0 l.reverse)).map teM = (orderS l).map entM := by
    have : (srt (tag 0 l.reverse)).map teM = ((srt (tag 0 l.reverse)).map (·.1)).map entM := by rw [List.map_map]; rfl
    rw [this, srt_tag]; rfl
  have e3 : (orderS l).length = l.length := by
    have := congrArg List.length (srt_tag 0 l.reverse)
    rw [List.length_map, (srt_perm _).length_eq, tag_len, List.length_reverse] at this
    exact this.symm
  unfold sortB rowB at hsort
  rw [e1, e2] at hsort
  have hrev := reverse_r (G := G) l (by omega)
  refine semR_of_vc seat Try.func13 rfl rfl (Nat.le_of_ble_eq_true rfl) (Nat.le_of_ble_eq_true rfl) (N := 13) rfl rfl ?_
  refine go1 ?_
  refine g_callR1 rfl (fun _ h => h) rfl (own_entries2 l hl hok) [] [] ⟨rfl, trivial, rfl, lm, mm⟩ rfl rfl ?_
  refine go1 ?_
  refine g_callR1 rfl (fun _ h => h) rfl (hrev) [(0, _)] [] ⟨rfl, trivial, rfl, lm, mm⟩ rfl rfl ?_
  refine go1 ?_
  refine g_callR1 rfl (fun _ h => h) rfl (hsort) [(0, _), (1, _)] [] ⟨rfl, trivial, rfl, lm, mm⟩ rfl rfl ?_
  refine go1 ?_
  refine ⟨[_], [], [(2, l.length)], rfl, rfl, ?_, rfl, ⟨?_, trivial⟩, ?_⟩
  · exact ⟨by show l.length ≤ ((orderS l).map entM).length; rw [List.length_map, e3]; exact Nat.le_refl _, trivial⟩
  · exact .inr ⟨rfl, rfl, rfl, Nat.le_of_eq (Nat.zero_add _), by rw [← e3]; exact cut_all entM _⟩
  · exact mm
end Go.Proofs.Ytplkofafnbfkmaa
/- Who has to leave for a newcomer. -/
namespace Go.Proofs.Ytplkofafnbfkmaa
open Go.RowKit
variable {G : GS}
theorem maxw (s : Int) (h : s < 9223372036854775808) : IntKind.u64.wrap (if (0 : Int) > s then 0 else s) = max s 0 := by
  by_cases hs : (0 : Int) > s
  · rw [if_pos hs, wrapu_in 0 (by omega) (by omega)]; omega
  · rw [if_neg hs, wrapu_in s (by omega) (by omega)]; omega
/-- Whether there is room for one more. -/
def roomS (c b s t m : Int) : Bool := decide (c < t ∧ 0 ≤ m ∧ b + max s 0 ≤ m)
def intB (x : Int) : MB := ⟨3, 1, false, 0, [.int .i64 x]⟩
def roomB (c b s t m : Int) : VM := [(0, intB c), (1, intB t), (2, intB m), (3, intB b), (4, intB s)]
set_option maxHeartbeats 1000000 in
set_option maxRecDepth 20000 in
theorem room_r (c b s t m : Int) (hb : 0 ≤ b ∧ b < 4611686018427387904) (hs : s < 9223372036854775808) (hm : m < 9223372036854775808) :
    SemR Try.prog G 28 [.ptr 0 1 0 0 [], .ptr 1 1 0 0 [], .ptr 2 1 0 0 [], .ptr 3 1 0 0 [], .ptr 4 1 0 0 []] (roomB c b s t m) 5 (.bool (roomS c b s t m)) (roomB c b s t m) 5 := by
  unfold roomS
  refine semR_of_vc seat Try.func28 rfl rfl (Nat.le_of_ble_eq_true rfl) (Nat.le_of_ble_eq_true rfl) (N := 24) rfl rfl ?_
  refine go1 ?_
  ((with_reducible apply n_guard); (case hs => exact rfl); (case hv => exact rfl); (case hd => exact rfl); (all_goals intro h))
  · have h0 := of_decide_eq_true h
    refine go1 ?_
    ((with_reducible apply n_guard); (case hs => exact rfl); (case hv => exact rfl); (case hd => exact rfl); (all_goals intro h))
    · have h1 := of_decide_eq_true h
      (have fct := EqF.mk (maxw s hs); refine go1 ?_)
      refine ⟨[_], [], [], rfl, rfl, trivial, rfl, ⟨?_, trivial⟩, ?_⟩
      · exact ⟨congrArg MV.bool (decide_eq_decide.2 (by omega)), rfl⟩
      · exact mm
    · have h2 : ¬ 0 ≤ m := of_decide_eq_false (by simpa using h)
      refine go1 ?_
      refine ⟨[_], [], [], rfl, rfl, trivial, rfl, ⟨?_, trivial⟩, ?_⟩
      · exact ⟨congrArg MV.bool (decide_eq_false (by omega)), rfl⟩
      · exact mm
  · have h2 : ¬ c < t := of_decide_eq_false (by simpa using h)
    refine go1 ?_
    refine ⟨[_], [], [], rfl, rfl, trivial, rfl, ⟨?_, trivial⟩, ?_⟩
    · exact ⟨congrArg MV.bool (decide_eq_false (by omega)), rfl⟩
    · exact mm
theorem insE_perm (e : Ent) : ∀ l, (insE e l).Perm (e :: l)
  | [] => .refl _
  | y :: l => by
    unfold insE
    cases befE y e with
    | true => exact ((insE_perm e l).cons y).trans (.swap e y l)
    | false => exact .refl _
theorem ordE_perm : ∀ l, (ordE l).Perm l
  | [] => .refl _
  | e :: l => (insE_perm e (ordE l)).trans ((ordE_perm l).cons e)
theorem order_perm (l : List Ent) : (orderS l).Perm l := (ordE_perm _).trans (List.reverse_perm l)
theorem bytes_perm {a b : List Ent} (h : a.Perm b) : bytesS a = bytesS b := by
  unfold bytesS
  induction h with
  | nil => rfl
  | cons x _ ih => simp [ih]
  | swap x y l => simp; omega
  | trans _ _ h1 h2 => exact h1.trans h2
/-- The victims, and what is left behind them. -/
def selG (p s t m : Int) : List Ent → Int → Int → List Ent × Int × Int
  | [], c, b => ([], c, b)
  | e :: l, c, b => match roomS c b s t m || decide (p ≤ e.prio) with
    | true => ([], c, b)
    | false => match selG p s t m l (c - 1) (b - e.raw.length) with
      | (v, c', b') => (e :: v, c', b')
def selS (p s t m : Int) (l : List Ent) : List (List UInt8) × Bool := match selG p s t m (orderS l) l.length (bytesS l) with
  | (v, c, b) => match roomS c b s t m with
    | true => (v.map (·.key), true)
    | false => ([], false)
theorem ents_at' {O : List Ent} {n k : Nat} (hn : O.length = n) (hk : k < n) : idxL (O.map entM) n (k : Int) = some (entM (O[k]'(by omega))) := by subst hn; exact ents_at hk
theorem bytesS_split (l : List Ent) (k : Nat) : bytesS (l.take k) + bytesS (l.drop k) = bytesS l := by
  unfold bytesS
  rw [← List.sum_append, ← List.map_append, List.take_append_drop]
def selM (x : List (List UInt8) × Bool) : MV := .tup [.sl x.1.length (x.1.map keyM), .bool x.2]
/-- Once k have been chosen. -/
def SelI (p s t m : Int) (O : List Ent) (n B k : Nat) : Prop := ∃ v c b, selG p s t m (O.drop k) ((n : Int) - k) ((B : Int) - bytesS (O.take k)) = (v, c, b) ∧ selG p s t m O n B = (O.take k ++ v, c, b)
theorem selI_step {p s t m : Int} {O : List Ent} {n B k : Nat} (hk : k < O.length) (h : SelI p s t m O n B k) (hr : (roomS ((n : Int) - k) ((B : Int) - bytesS (O.take k)) s t m || decide (p ≤ O[k].prio)) = false) : SelI p s t m O n B (k + 1) := by
  obtain ⟨v, c, b, h1, h2⟩ := h
  rw [List.drop_eq_getElem_cons hk, selG, hr] at h1
  generalize hg : selG p s t m (O.drop (k + 1)) ((n : Int) - k - 1) ((B : Int) - bytesS (O.take k) - O[k].raw.length) = r at h1
  obtain ⟨v', c', b'⟩ := r
  dsimp only at h1
  injection h1 with e1 e2
  injection e2 with e2 e3
  subst e1 e2 e3
  refine ⟨v', c', b', ?_, ?_⟩
  · rw [bytesS_succ O hk]
    rw [← hg]
    congr 1 <;> omega
  · rw [h2, List.take_succ_eq_append_getElem hk, List.append_assoc]; rfl
theorem selI_end {p s t m : Int} {O : List Ent} {n B k : Nat} (h : SelI p s t m O n B k) (hr : k = O.length ∨ ∃ hk : k < O.length, (roomS ((n : Int) - k) ((B : Int) - bytesS (O.take k)) s t m || decide (p ≤ O[k].prio)) = true) :
    selG p s t m O n B = (O.take k, (n : Int) - k, (B : Int) - bytesS (O.take k)) := by
  obtain ⟨v, c, b, h1, h2⟩ := h
  rcases hr with rfl | ⟨hk, hr⟩
  · rw [List.drop_length, selG] at h1
    injection h1 with e1 e2
    injection e2 with e2 e3
    subst e1 e2 e3
    rw [h2, List.append_nil]
  · rw [List.drop_eq_getElem_cons hk, selG, hr] at h1
    injection h1 with e1 e2
    injection e2 with e2 e3
    subst e1 e2 e3
    rw [h2, List.append_nil]
set_option maxHeartbeats 4000000 in
set_option maxRecDepth 20000 in
theorem select_r (l : List Ent) (hl : l.length < 1000000) (hok : ∀ e ∈ l, e.raw.length ≤ 1000000 ∧ e.peers.length < 536870912) (p s t m : Int) (hs : -9223372036854775808 ≤ s ∧ s < 9223372036854775808) (hm : m < 9223372036854775808) :
    SemR Try.prog G 16 [.sl l.length (l.map entM), .int .u64 p, .int .i64 s, .int .i64 t, .int .i64 m] [] 0 (selM (selS p s t m l)) [] 0 := by
  have hOp := order_perm l
  have hOl : (orderS l).length = l.length := hOp.length_eq
  have hOb : bytesS (orderS l) = bytesS l := bytes_perm hOp
  have hord := order_r (G := G) l hl fun e he => ⟨by have := (hok e he).1; omega, (hok e he).2⟩
  unfold selM
  refine semR_of_vc seat Try.func16 rfl rfl (Nat.le_of_ble_eq_true rfl) (Nat.le_of_ble_eq_true rfl) (N := 67) rfl rfl ?_
  refine go1 ?_
  refine c_loop Nat (fun k => [(24, .int .i64 k), (23, .int .i64 l.length), (22, .sl l.length (l.map entM)), (13, .ptr 3 1 0 0 []), (12, .ptr 0 1 0 0 []), (9, .ptr 2 1 0 0 []), (8, .ptr 1 1 0 0 []), (7, .ptr 4 1 0 0 []), (1, .int .u64 p), (0, .sl l.length (l.map entM))]) (fun k => roomB l.length (bytesS (l.take k)) s t m) 5 (fun k => k ≤ l.length) (fun k => l.length - k) 0 (Nat.zero_le _) (vm [(0, _), (1, _), (2, _), (3, _), (4, _)] []) ?_
  intro k hk
  try dsimp only
  refine go1 ?_
  ((with_reducible apply c_cond); (case he => exact rfl); (all_goals intro h))
  · have hk' : k < l.length := by have := of_decide_eq_true h; omega
    have hke := (hok _ (List.getElem_mem hk')).1
    have hb := bytesS_le l 1000000 (fun e he => (hok e he).1) k
    have hs2 := bytesS_succ l hk'
    (have fct := SomF.mk (ents_at hk'); refine go1 ?_)
    refine ⟨k + 1, by show k + 1 ≤ l.length; omega, by show l.length - (k + 1) < l.length - k; omega, ?_⟩
    dsimp only
    rw [hs2]
    exact (vm [(0, _), (1, _), (2, _), (3, _), (4, _)] [])
  · have hk' : k = l.length := by have := of_decide_eq_false h; omega
    subst hk'
    rw [List.take_length]
    refine go1 ?_
    refine g_call2 rfl (fun _ h => h) rfl (hord) rfl lm ?_
    refine go1 ?_
    refine c_loop Nat (fun k => [(38, .int .i64 k), (37, .int .i64 l.length), (36, .sl l.length ((orderS l).map entM)), (17, .ms 5 32 0 k), (16, .fn 28 [.ptr 0 1 0 0 [], .ptr 1 1 0 0 [], .ptr 2 1 0 0 [], .ptr 3 1 0 0 [], .ptr 4 1 0 0 []]), (13, .ptr 3 1 0 0 []), (12, .ptr 0 1 0 0 []), (1, .int .u64 p)]) (fun k => roomB ((l.length : Int) - k) ((bytesS l : Int) - bytesS ((orderS l).take k)) s t m ++ [(5, ⟨47, 32, true, 0, ((orderS l).take k).map fun e => keyM e.key⟩)]) 6 (fun k => k ≤ l.length ∧ SelI p s t m (orderS l) l.length (bytesS l) k) (fun k => l.length - k) 0 ⟨Nat.zero_le _, ?_⟩ ?_ ?_
    · refine ⟨(selG p s t m (orderS l) l.length (bytesS l)).1, (selG p s t m (orderS l) l.length (bytesS l)).2.1, (selG p s t m (orderS l) l.length (bytesS l)).2.2, ?_, rfl⟩
      simp [bytesS]
    · try dsimp only
      rw [show ((bytesS l : Int) - bytesS ((orderS l).take 0)) = bytesS l by simp [bytesS]]
      exact (vm [(0, _), (1, _), (2, _), (3, _), (4, _)] [])
    rintro k ⟨hk1, hI⟩
    try dsimp only
    have hbk : bytesS ((orderS l).take k) ≤ bytesS l := by
      have := bytesS_split (orderS l) k
      omega
    have hB := bytesS_le l 1000000 (fun e he => (hok e he).1) l.length
    rw [List.take_length] at hB
    refine go1 ?_
    ((with_reducible apply c_cond); (case he => exact rfl); (all_goals intro h))
    · have hk' : k < l.length := by have := of_decide_eq_true h; omega
      have hkO : k < (orderS l).length := by omega
      have hs2 := bytesS_succ (orderS l) hkO
      have hbk2 : bytesS ((orderS l).take (k + 1)) ≤ bytesS l := by
        have := bytesS_split (orderS l) (k + 1)
        omega
      have hroom := room_r (G := G) ((l.length : Int) - k) ((bytesS l : Int) - bytesS ((orderS l).take k)) s t m (by omega) hs.2 hm
      cases hr : roomS ((l.length : Int) - k) ((bytesS l : Int) - bytesS ((orderS l).take k)) s t m with
      | true =>
        have hsel := selI_end hI (.inr ⟨hkO, by rw [hr]; rfl⟩)
        rw [hr] at hroom
        (have fct := SomF.mk (ents_at' hOl hk'); refine go1 ?_)
        refine g_callR1 rfl (fun _ h => h) rfl (hroom) [(0, 0), (1, 1), (2, 2), (3, 3), (4, 4)] [] ⟨rfl, trivial, rfl, lm, mm⟩ rfl rfl ?_
        have hcall := room_r (G := G) ((l.length : Int) - k) ((bytesS l : Int) - bytesS ((orderS l).take k)) s t m (by omega) hs.2 hm
        cases hroom : roomS ((l.length : Int) - k) ((bytesS l : Int) - bytesS ((orderS l).take k)) s t m with
        | true =>
          rw [hroom] at hcall
          rw [show selS p s t m l = (((orderS l).take k).map (·.key), true) by unfold selS; rw [hsel]; simp only [hroom]]
          refine go1 ?_
          refine g_callR1 rfl (fun _ h => h) rfl (hcall) [(0, 0), (1, 1), (2, 2), (3, 3), (4, 4)] [] ⟨rfl, trivial, rfl, lm, mm⟩ rfl rfl ?_
          refine go1 ?_
          refine ⟨[_, _], [], [(5, k)], rfl, rfl, ?_, rfl, ⟨?_, ?_, trivial⟩, ?_⟩
          · exact ⟨by show k ≤ (((orderS l).take k).map fun e => keyM e.key).length; simp; omega, trivial⟩
          · exact .inr ⟨rfl, rfl, by simp; omega, by simp; omega, by rw [List.map_map, List.length_map]; exact cut_all (fun e : Ent => keyM e.key) _⟩
          · exact rv
          · exact mm
        | false =>
          rw [hroom] at hcall
          rw [show selS p s t m l = ([], false) by unfold selS; rw [hsel]; simp only [hroom]]
          refine go1 ?_
          refine g_callR1 rfl (fun _ h => h) rfl (hcall) [(0, 0), (1, 1), (2, 2), (3, 3), (4, 4)] [] ⟨rfl, trivial, rfl, lm, mm⟩ rfl rfl ?_
          refine go1 ?_
          refine ⟨[_, _], [], [], rfl, rfl, trivial, rfl, ⟨?_, ?_, trivial⟩, ?_⟩
          · exact .inr ⟨rfl, rfl⟩
          · exact rv
          · exact mm
      | false =>
        rw [hr] at hroom
        (have fct := SomF.mk (ents_at' hOl hk'); refine go1 ?_)
        refine g_callR1 rfl (fun _ h => h) rfl (hroom) [(0, 0), (1, 1), (2, 2), (3, 3), (4, 4)] [] ⟨rfl, trivial, rfl, lm, mm⟩ rfl rfl ?_
        refine go1 ?_
        ((with_reducible apply c_cond); (case he => exact rfl); (all_goals intro h))
        · have hp := of_decide_eq_true h
          have hsel := selI_end hI (.inr ⟨hkO, by rw [hr]; simpa using hp⟩)
          have hcall := room_r (G := G) ((l.length : Int) - k) ((bytesS l : Int) - bytesS ((orderS l).take k)) s t m (by omega) hs.2 hm
          cases hroom : roomS ((l.length : Int) - k) ((bytesS l : Int) - bytesS ((orderS l).take k)) s t m with
          | true =>
            rw [hroom] at hcall
            rw [show selS p s t m l = (((orderS l).take k).map (·.key), true) by unfold selS; rw [hsel]; simp only [hroom]]
            refine go1 ?_
            refine g_callR1 rfl (fun _ h => h) rfl (hcall) [(0, 0), (1, 1), (2, 2), (3, 3), (4, 4)] [] ⟨rfl, trivial, rfl, lm, mm⟩ rfl rfl ?_
            refine go1 ?_
            refine ⟨[_, _], [], [(5, k)], rfl, rfl, ?_, rfl, ⟨?_, ?_, trivial⟩, ?_⟩
            · exact ⟨by show k ≤ (((orderS l).take k).map fun e => keyM e.key).length; simp; omega, trivial⟩
            · exact .inr ⟨rfl, rfl, by simp; omega, by simp; omega, by rw [List.map_map, List.length_map]; exact cut_all (fun e : Ent => keyM e.key) _⟩
            · exact rv
            · exact mm
          | false =>
            rw [hroom] at hcall
            rw [show selS p s t m l = ([], false) by unfold selS; rw [hsel]; simp only [hroom]]
            refine go1 ?_
            refine g_callR1 rfl (fun _ h => h) rfl (hcall) [(0, 0), (1, 1), (2, 2), (3, 3), (4, 4)] [] ⟨rfl, trivial, rfl, lm, mm⟩ rfl rfl ?_
            refine go1 ?_
            refine ⟨[_, _], [], [], rfl, rfl, trivial, rfl, ⟨?_, ?_, trivial⟩, ?_⟩
            · exact .inr ⟨rfl, rfl⟩
            · exact rv
            · exact mm
        · have hp := of_decide_eq_false h
          have hstep := selI_step hkO hI (by rw [hr]; simpa using hp)
          refine go1 ?_
          ((with_reducible apply g_mem); (case hq => exact rfl); (case hv => exact rfl); (case he => (intro R hR; refine sms hR ?_; (refine And.intro (Nat.le_refl _) ?_; refine ⟨_, rfl, ?_⟩; refine And.intro ⟨(by simp; omega), app_ok (by kernel_rfl) (by first | rfl | omega | (simp [u8s, cutL, setL, repM, List.replicate_succ', List.range_succ]; done) | (simp [u8s, cutL, setL, repM]; omega))⟩ ?_; refine ⟨((orderS l).take (k + 1)).map fun e => keyM e.key, sv (by rw [List.take_succ_eq_append_getElem hkO, List.map_append]; rfl), k + 1, sv (by first | rfl | omega | (simp [u8s, cutL, setL, repM, List.replicate_succ', List.range_succ]; done) | (simp [u8s, cutL, setL, repM]; omega)), ?_⟩); exact hR)); (case hd => exact rfl))
          refine go1 ?_
          exact ⟨k + 1, ⟨by omega, hstep⟩, by show l.length - (k + 1) < l.length - k; omega, (by dsimp only; exact (vm [(0, _), (1, _), (2, _), (3, _), (4, _), (5, _)] []))⟩
    · have hk' : k = l.length := by have := of_decide_eq_false h; omega
      have hsel := selI_end hI (.inl (by omega))
      have hcall := room_r (G := G) ((l.length : Int) - k) ((bytesS l : Int) - bytesS ((orderS l).take k)) s t m (by omega) hs.2 hm
      cases hroom : roomS ((l.length : Int) - k) ((bytesS l : Int) - bytesS ((orderS l).take k)) s t m with
      | true =>
        rw [hroom] at hcall
        rw [show selS p s t m l = (((orderS l).take k).map (·.key), true) by unfold selS; rw [hsel]; simp only [hroom]]
        refine go1 ?_
        refine g_callR1 rfl (fun _ h => h) rfl (hcall) [(0, 0), (1, 1), (2, 2), (3, 3), (4, 4)] [] ⟨rfl, trivial, rfl, lm, mm⟩ rfl rfl ?_
        refine go1 ?_
        refine ⟨[_, _], [], [(5, k)], rfl, rfl, ?_, rfl, ⟨?_, ?_, trivial⟩, ?_⟩
        · exact ⟨by show k ≤ (((orderS l).take k).map fun e => keyM e.key).length; simp; omega, trivial⟩
        · exact .inr ⟨rfl, rfl, by simp; omega, by simp; omega, by rw [List.map_map, List.length_map]; exact cut_all (fun e : Ent => keyM e.key) _⟩
        · exact rv
        · exact mm
      | false =>
        rw [hroom] at hcall
        rw [show selS p s t m l = ([], false) by unfold selS; rw [hsel]; simp only [hroom]]
        refine go1 ?_
        refine g_callR1 rfl (fun _ h => h) rfl (hcall) [(0, 0), (1, 1), (2, 2), (3, 3), (4, 4)] [] ⟨rfl, trivial, rfl, lm, mm⟩ rfl rfl ?_
        refine go1 ?_
        refine ⟨[_, _], [], [], rfl, rfl, trivial, rfl, ⟨?_, ?_, trivial⟩, ?_⟩
        · exact .inr ⟨rfl, rfl⟩
        · exact rv
        · exact mm
end Go.Proofs.Ytplkofafnbfkmaa
/- The fixed example. -/
namespace Go.Proofs.Ytplkofafnbfkmaa
open Go.RowKit
variable {G : GS}
def smallE (n : Nat) (p : Int) : Ent := ⟨UInt8.ofNat n :: List.replicate 31 0, [UInt8.ofNat n], [], 0, 0, p, 0, 0, n, []⟩
set_option maxHeartbeats 1000000 in
set_option maxRecDepth 20000 in
theorem small_r (n : Nat) (hn : n < 4) (p : Int) : SemR Try.prog G 21 [.int .i64 n, .int .u64 p] [] 0 (entM (smallE n p)) [] 0 := by
  have h4 : n = 0 ∨ n = 1 ∨ n = 2 ∨ n = 3 := by omega
  rcases h4 with rfl | rfl | rfl | rfl <;> unfold entM <;> (
    refine semR_of_vc seat Try.func21 rfl rfl (Nat.le_of_ble_eq_true rfl) (Nat.le_of_ble_eq_true rfl) (N := 14) rfl rfl ?_
    refine go1 ?_
    refine go0 ?_
    refine ⟨[_], [], [(6, 1)], rfl, rfl, ?_, rfl, ⟨?_, trivial⟩, ?_⟩
    · exact ⟨by show 1 ≤ 1; omega, trivial⟩
    · exact .inr ⟨_, rfl, lm⟩
    · exact mm)
def keyK (n : Nat) : List UInt8 := UInt8.ofNat n :: List.replicate 31 0
def exL : List Ent := [smallE 1 1, smallE 2 2, smallE 3 2]
theorem ex1 : selS 2 1 3 100 exL = ([keyK 1], true) := by decide
theorem ex2 : selS 3 1 1 100 exL = ([keyK 1, keyK 3, keyK 2], true) := by decide
theorem ex3 : selS 3 1 0 100 [] = ([], false) := by decide
theorem exL_ok : ∀ e ∈ exL, e.raw.length ≤ 1000000 ∧ e.peers.length < 536870912 := by
  intro e he
  simp only [exL, List.mem_cons, List.not_mem_nil, or_false] at he
  rcases he with rfl | rfl | rfl <;> exact ⟨by decide, by decide⟩
set_option maxHeartbeats 4000000 in
set_option maxRecDepth 20000 in
theorem known_m : SemC Try.prog G 9 [] (.bool true) := by
  have c1 := select_r (G := G) exL (by decide) exL_ok 2 1 3 100 (by decide) (by decide)
  have c2 := select_r (G := G) exL (by decide) exL_ok 3 1 1 100 (by decide) (by decide)
  have c3 := select_r (G := G) [] (by decide) (by simp) 3 1 0 100 (by decide) (by decide)
  rw [ex1] at c1
  rw [ex2] at c2
  rw [ex3] at c3
  refine semC_of_vc seat Try.func9 rfl rfl (Nat.le_of_ble_eq_true rfl) (Nat.le_of_ble_eq_true rfl) (N := 48) rfl ?_
  refine go1 ?_
  refine g_callR1 rfl (fun _ h => h) rfl (small_r 1 (by omega) 1) [] [] ⟨rfl, trivial, rfl, lm, mm⟩ rfl rfl ?_
  refine go1 ?_
  refine g_callR1 rfl (fun _ h => h) rfl (small_r 2 (by omega) 2) [] [] ⟨rfl, trivial, rfl, lm, mm⟩ rfl rfl ?_
  refine go1 ?_
  refine g_callR1 rfl (fun _ h => h) rfl (small_r 3 (by omega) 2) [] [] ⟨rfl, trivial, rfl, lm, mm⟩ rfl rfl ?_
  refine go1 ?_
  refine g_call1 rfl (fun _ h => h) rfl (c1) rfl [(1, 3)] mm lm ?_
  refine go1 ?_
  refine g_call1 rfl (fun _ h => h) rfl (c2) rfl [(1, 3)] mm lm ?_
  refine go1 ?_
  refine g_call2 rfl (fun _ h => h) rfl (c3) rfl lm ?_
  refine go1 ?_
  refine g_call1 rfl (fun _ h => h) rfl (semR_of_semC (sameKeys_m [keyK 1] [keyK 1] (by decide) (by decide) (by decide) (by decide))) rfl [(24, 1)] mm lm ?_
  rw [decide_eq_true rfl]
  refine go1 ?_
  refine g_call1 rfl (fun _ h => h) rfl (semR_of_semC (sameKeys_m [keyK 1, keyK 3, keyK 2] [keyK 1, keyK 3, keyK 2] (by decide) (by decide) (by decide) (by decide))) rfl [(34, 3)] mm lm ?_
  rw [decide_eq_true rfl]
  refine go1 ?_
  refine go0 ?_
  rfl
end Go.Proofs.Ytplkofafnbfkmaa
/- What the statements about eviction say, in plain words. -/
namespace Go.Proofs.Ytplkofafnbfkmaa
/-- Where the choice ends, and why. -/
theorem selG_out (p s t m : Int) : ∀ (O : List Ent) (c b : Int), ∃ k, k ≤ O.length ∧ selG p s t m O c b = (O.take k, c - k, b - bytesS (O.take k)) ∧
    (∀ j (hj : j < O.length), j < k → roomS (c - j) (b - bytesS (O.take j)) s t m = false ∧ O[j].prio < p)
  | [], c, b => ⟨0, Nat.le_refl _, by simp [selG, bytesS], fun j hj => absurd hj (Nat.not_lt_zero _)⟩
  | e :: l, c, b => by
    rw [selG]
    cases hr : roomS c b s t m || decide (p ≤ e.prio) with
    | true => exact ⟨0, Nat.zero_le _, by simp [bytesS], fun j hj h => absurd h (Nat.not_lt_zero _)⟩
    | false =>
      obtain ⟨k, h1, h2, h3⟩ := selG_out p s t m l (c - 1) (b - e.raw.length)
      rw [Bool.or_eq_false_iff] at hr
      have hb : ∀ j, b - e.raw.length - bytesS (l.take j) = b - bytesS ((e :: l).take (j + 1)) := fun j => by
        rw [List.take_succ_cons]; simp [bytesS]; omega
      refine ⟨k + 1, by simp; omega, ?_, fun j hj hjk => ?_⟩
      · rw [h2, hb]
        simp only [List.take_succ_cons, Prod.mk.injEq, true_and, and_true]
        omega
      · cases j with
        | zero => exact ⟨by simpa [bytesS] using hr.1, by have := of_decide_eq_false hr.2; simpa using this⟩
        | succ j =>
          have := h3 j (by simpa using hj) (by omega)
          rw [hb] at this
          refine ⟨?_, by simpa using this.2⟩
          rw [← this.1]
          congr 1
          omega
theorem selS_false {p s t m : Int} {l : List Ent} (h : (selS p s t m l).2 = false) : (selS p s t m l).1 = [] := by
  unfold selS at h ⊢
  generalize selG p s t m (orderS l) l.length (bytesS l) = r at *
  obtain ⟨v, c, b⟩ := r
  dsimp only at h ⊢
  cases hr : roomS c b s t m with
  | true => rw [hr] at h; cases h
  | false => rfl
theorem selS_true {p s t m : Int} {l : List Ent} (h : (selS p s t m l).2 = true) : ∃ k, k ≤ (orderS l).length ∧ (selS p s t m l).1 = ((orderS l).take k).map (·.key) ∧
    (∀ j (hj : j < (orderS l).length), j < k → roomS ((l.length : Int) - j) ((bytesS l : Int) - bytesS ((orderS l).take j)) s t m = false ∧ (orderS l)[j].prio < p) ∧ roomS ((l.length : Int) - k) ((bytesS l : Int) - bytesS ((orderS l).take k)) s t m = true := by
  obtain ⟨k, h1, h2, h3⟩ := selG_out p s t m (orderS l) l.length (bytesS l)
  refine ⟨k, h1, ?_, h3, ?_⟩
  · unfold selS at h ⊢
    rw [h2] at h ⊢
    dsimp only at h ⊢
    cases hr : roomS ((l.length : Int) - k) ((bytesS l : Int) - bytesS ((orderS l).take k)) s t m with
    | true => rfl
    | false => rw [hr] at h; cases h
  · unfold selS at h
    rw [h2] at h
    dsimp only at h
    cases hr : roomS ((l.length : Int) - k) ((bytesS l : Int) - bytesS ((orderS l).take k)) s t m with
    | true => rfl
    | false => rw [hr] at h; cases h
theorem order_sorted (l : List Ent) : (orderS l).Pairwise fun a b => a.prio ≤ b.prio := by
  have h : (orderS l) = (srt (tag 0 l.reverse)).map (·.1) := (srt_tag 0 l.reverse).symm
  rw [h, List.pairwise_map]
  exact (srt_srt _ (ne_of_lt (tag_lt _ _))).imp fun hxy => by unfold ltT at hxy; omega
theorem room_iff (c b s t m : Int) (hs : 0 ≤ s) (hm : 0 ≤ m) : roomS c b s t m = decide (c + 1 ≤ t ∧ b + s ≤ m) := by
  unfold roomS
  exact decide_eq_decide.2 (by omega)
def lowS (p : Int) (l : List Ent) : List Ent := l.filter fun e => decide (e.prio < p)
theorem sel_room (p s t m : Int) : ∀ (O : List Ent), O.Pairwise (fun a b => a.prio ≤ b.prio) → ∀ (c b : Int),
    roomS (selG p s t m O c b).2.1 (selG p s t m O c b).2.2 s t m = roomS (c - (lowS p O).length) (b - bytesS (lowS p O)) s t m
  | [], _, c, b => by simp [selG, lowS, bytesS]
  | e :: l, h, c, b => by
    obtain ⟨h1, h2⟩ := List.pairwise_cons.1 h
    rw [selG]
    cases hr : roomS c b s t m with
    | true =>
      rw [Bool.true_or]
      dsimp only
      rw [hr]
      unfold roomS at hr ⊢
      have := of_decide_eq_true hr
      exact (decide_eq_true (by omega)).symm
    | false =>
      rw [Bool.false_or]
      cases hp : decide (p ≤ e.prio) with
      | true =>
        have hp := of_decide_eq_true hp
        have : lowS p (e :: l) = [] := by
          unfold lowS
          rw [List.filter_eq_nil_iff]
          intro x hx
          rcases List.mem_cons.1 hx with rfl | hx
          · simp; omega
          · have := h1 x hx; simp; omega
        rw [this]
        simp [bytesS]
      | false =>
        have hp := of_decide_eq_false hp
        have : lowS p (e :: l) = e :: lowS p l := by unfold lowS; rw [List.filter_cons_of_pos (by simp; omega)]
        have ih := sel_room p s t m l h2 (c - 1) (b - e.raw.length)
        generalize hg : selG p s t m l (c - 1) (b - e.raw.length) = r at *
        obtain ⟨v, c', b'⟩ := r
        dsimp only at ih ⊢
        rw [ih, this]
        have e1 : c - 1 - ((lowS p l).length : Int) = c - ((e :: lowS p l).length : Nat) := by simp; omega
        have e2 : b - (e.raw.length : Int) - bytesS (lowS p l) = b - bytesS (e :: lowS p l) := by simp [bytesS]; omega
        rw [e1, e2]
/-- Whether there are victims: whether there would be room without all entries of lesser priority. -/
theorem selS_ok (p s t m : Int) (l : List Ent) : (selS p s t m l).2 = roomS ((l.length : Int) - (lowS p l).length) ((bytesS l : Int) - bytesS (lowS p l)) s t m := by
  have h := sel_room p s t m (orderS l) (order_sorted l) l.length (bytesS l)
  have hp : (lowS p (orderS l)).Perm (lowS p l) := (order_perm l).filter _
  rw [hp.length_eq, bytes_perm hp] at h
  rw [← h]
  unfold selS
  generalize selG p s t m (orderS l) l.length (bytesS l) = r at *
  obtain ⟨v, c, b⟩ := r
  dsimp only
  cases hr : roomS c b s t m <;> rfl
/-- The entries that are made are small. -/
def SmallE (e : Ent) : Prop := e.key.length = 32 ∧ e.raw.length ≤ 8 ∧ e.peers.length ≤ 2
theorem entryS_small (L : List Int) (N : Nat) : SmallE (entryS L N).1 := by
  have h1 := (nextN_eq L N 9 (by omega)).2
  have h2 := (nextN_eq L (N + 1 + nextN L N 9 + 7) 3 (by omega)).2
  refine ⟨entryS_key L N, ?_, ?_⟩
  · simp only [entryS, rawE_len]; omega
  · simp only [entryS, peersE, List.length_map, List.length_range]; omega
theorem laterE_small {e : Ent} (n : Int) (h : SmallE e) : SmallE (laterE e n) := h
theorem entriesS_small (L : List Int) : ∀ (i N : Nat) (out : List Ent), (∀ e ∈ out, SmallE e) → (∀ e ∈ (entriesS L i N out).1, SmallE e) ∧ (entriesS L i N out).1.length ≤ out.length + i
  | 0, N, out, h => ⟨h, Nat.le_refl _⟩
  | i + 1, N, out, h => by
    rw [entriesS]
    split
    · have := entriesS_small L i (entryS L N).2 out h
      exact ⟨this.1, by omega⟩
    · have := entriesS_small L i ((entryS L N).2 + 1) (out ++ [laterE (entryS L N).1 (out.length * nextN L (entryS L N).2 2 : Nat)]) fun e he => by
        rcases List.mem_append.1 he with h1 | h1
        · exact h e h1
        · rw [List.mem_singleton.1 h1]; exact laterE_small _ (entryS_small L N)
      exact ⟨this.1, by have h2 := this.2; rw [List.length_append] at h2; simp only [List.length_cons, List.length_nil] at h2; omega⟩
end Go.Proofs.Ytplkofafnbfkmaa
/- EvictRefuses: the walk. -/
namespace Go.Proofs.Ytplkofafnbfkmaa
open Go.RowKit
def hiS (p : Int) (l : List Ent) : List Ent := l.filter fun e => decide (p ≤ e.prio)
theorem low_hi (p : Int) : ∀ l : List Ent, (lowS p l).length + (hiS p l).length = l.length ∧ bytesS (lowS p l) + bytesS (hiS p l) = bytesS l
  | [] => ⟨rfl, rfl⟩
  | e :: l => by
    have ih := low_hi p l
    unfold lowS hiS at *
    by_cases h : e.prio < p
    · rw [List.filter_cons_of_pos (by simpa using h), List.filter_cons_of_neg (by simp; omega)]
      simp [bytesS] at ih ⊢
      omega
    · rw [List.filter_cons_of_neg (by simpa using h), List.filter_cons_of_pos (by simp; omega)]
      simp [bytesS] at ih ⊢
      omega
theorem hi_succ (p : Int) (l : List Ent) {k : Nat} (hk : k < l.length) : hiS p (l.take (k + 1)) = (if p ≤ l[k].prio then hiS p (l.take k) ++ [l[k]] else hiS p (l.take k)) := by
  unfold hiS
  rw [List.take_succ_eq_append_getElem hk, List.filter_append]
  by_cases h : p ≤ l[k].prio
  · rw [if_pos h, List.filter_cons_of_pos (by simpa using h)]; rfl
  · rw [if_neg h, List.filter_cons_of_neg (by simpa using h)]; simp
theorem bytes_app (a b : List Ent) : bytesS (a ++ b) = bytesS a + bytesS b := by simp [bytesS]
set_option maxHeartbeats 8000000 in
set_option maxRecDepth 20000 in
theorem evictRefuses_core (k : List Int) (hk : k.length ≤ 140737488355328) (p : Int) (_wp : (Lit.int .i64 p).wf = true) (s : Int) (_ws : (Lit.int .i64 s).wf = true) (t : Int) (_wt : (Lit.int .i64 t).wf = true) (b : Int) (_wb : (Lit.int .i64 b).wf = true) :
    SemC Try.prog G0 6 [intsM k, .int .i64 p, .int .i64 s, .int .i64 t, .int .i64 b] (.bool true) := by
  have hsm := entriesS_small k (nextN k 0 11) 1 [] (by simp)
  have h11 := (nextN_eq k 0 11 (by omega)).2
  have hent := entries_r (G := G0) k 10 (by omega)
  have p1 := place_m (G := G0) p 7 (by omega) (by omega)
  have p2 := place_m (G := G0) s 9 (by omega) (by omega)
  have p3 := place_m (G := G0) t 13 (by omega) (by omega)
  have p4 := place_m (G := G0) b 60 (by omega) (by omega)
  have b1 : 0 ≤ p % 7 ∧ p % 7 < 7 := by omega
  have b2 : 0 ≤ s % 9 ∧ s % 9 < 9 := by omega
  have b3 : 0 ≤ t % 13 ∧ t % 13 < 13 := by omega
  have b4 : 0 ≤ b % 60 ∧ b % 60 < 60 := by omega
  generalize p % 7 = P at *
  generalize s % 9 = S at *
  generalize t % 13 = T at *
  generalize b % 60 = B at *
  generalize entriesS k (nextN k 0 (10 + 1)) 1 [] = en at *
  obtain ⟨l, N'⟩ := en
  dsimp only at hsm hent
  obtain ⟨hsm, hl⟩ := hsm
  have hl : l.length ≤ 10 := by simp at hl; omega
  have hok1 : ∀ e ∈ l, e.raw.length ≤ 1000000 ∧ e.peers.length < 536870912 := fun e he => by have := hsm e he; unfold SmallE at this; omega
  have hsel := select_r (G := G0) l (by omega) hok1 P S T B (by omega) (by omega)
  have hok := selS_ok P S T B l
  have hlh := low_hi P l
  rw [room_iff _ _ _ _ _ (by omega) (by omega)] at hok
  generalize selS P S T B l = r at *
  obtain ⟨vs, ok⟩ := r
  dsimp only at hok hsel
  have hok : ok = decide ((hiS P l).length + 1 ≤ T ∧ bytesS (hiS P l) + S ≤ B) := by rw [hok]; exact decide_eq_decide.2 (by omega)
  have hbnd := bytesS_le l 8 (fun e he => (hsm e he).2.1) l.length
  rw [List.take_length] at hbnd
  refine semC_of_vc seat Try.func6 rfl rfl (Nat.le_of_ble_eq_true rfl) (Nat.le_of_ble_eq_true rfl) (N := 76) rfl ?_
  refine go1 ?_
  refine g_callR1 rfl (fun _ h => h) rfl (semR_of_semC (long_m k hk)) [] [(2, 1)] ⟨rfl, mm, rfl, lm, mm⟩ rfl rfl ?_
  refine go1 ?_
  ((with_reducible apply c_cond); (case he => exact rfl); (all_goals intro h))
  · refine go1 ?_
    refine g_callR1 rfl (fun _ h => h) rfl (semR_of_semC known_m) [] [] ⟨rfl, trivial, rfl, lm, mm⟩ rfl rfl ?_
    refine go1 ?_
    refine go0 ?_
    rfl
  refine go1 ?_
  refine g_callR1 rfl (fun _ h => h) rfl (from_r k) [] [] ⟨rfl, trivial, rfl, lm, mm⟩ rfl rfl ?_
  refine go1 ?_
  refine g_callR1 rfl (fun _ h => h) rfl (hent) [(0, _)] [] ⟨rfl, trivial, rfl, lm, mm⟩ rfl rfl ?_
  refine go1 ?_
  refine g_callR1 rfl (fun _ h => h) rfl (semR_of_semC p1) [] [] ⟨rfl, trivial, rfl, lm, mm⟩ rfl rfl ?_
  refine go1 ?_
  refine g_callR1 rfl (fun _ h => h) rfl (semR_of_semC p2) [] [] ⟨rfl, trivial, rfl, lm, mm⟩ rfl rfl ?_
  refine go1 ?_
  refine g_callR1 rfl (fun _ h => h) rfl (semR_of_semC p3) [] [] ⟨rfl, trivial, rfl, lm, mm⟩ rfl rfl ?_
  refine go1 ?_
  refine g_callR1 rfl (fun _ h => h) rfl (semR_of_semC p4) [] [] ⟨rfl, trivial, rfl, lm, mm⟩ rfl rfl ?_
  refine go1 ?_
  refine c_loop Nat (fun j => [(38, .int .i64 j), (37, .int .i64 l.length), (36, .sl l.length (l.map entM)), (14, .int .i64 ((bytesS (hiS P (l.take j)) : Int) + S)), (13, .int .i64 ((hiS P (l.take j)).length + 1)), (12, .int .u64 P), (11, .sl l.length (l.map entM)), (4, .int .i64 B), (3, .int .i64 T), (2, .int .i64 S)]) (fun _ => []) 0 (fun j => j ≤ l.length) (fun j => l.length - j) 0 (Nat.zero_le _) ?_ ?_
  · try dsimp only
    rw [show hiS P (l.take 0) = [] by simp [hiS], show bytesS [] = 0 from rfl, List.length_nil]
    exact (vm [] [])
  intro j hj
  try dsimp only
  refine go1 ?_
  ((with_reducible apply c_cond); (case he => exact rfl); (all_goals intro h))
  · have hj' : j < l.length := by have := of_decide_eq_true h; omega
    have hke := (hsm _ (List.getElem_mem hj')).2.1
    have hsu := hi_succ P l hj'
    have hsb := bytesS_le l 8 (fun e he => (hsm e he).2.1) j
    have hlj := low_hi P (l.take j)
    have hll : (l.take j).length = j := by simp; omega
    (have fct := SomF.mk (ents_at hj'); refine go1 ?_)
    ((with_reducible apply c_cond); (case he => exact rfl); (all_goals intro h))
    · have hp := of_decide_eq_true h
      rw [if_pos hp] at hsu
      refine go1 ?_
      refine ⟨j + 1, by show j + 1 ≤ l.length; omega, by show l.length - (j + 1) < l.length - j; omega, ?_⟩
      dsimp only
      rw [hsu, bytes_app, List.length_append, show bytesS [l[j]] = l[j].raw.length by simp [bytesS], show ([l[j]] : List Ent).length = 1 from rfl]
      exact (vm [] [])
    · have hp := of_decide_eq_false h
      rw [if_neg hp] at hsu
      refine go1 ?_
      refine ⟨j + 1, by show j + 1 ≤ l.length; omega, by show l.length - (j + 1) < l.length - j; omega, ?_⟩
      dsimp only
      rw [hsu]
      exact (vm [] [])
  · have hj' : j = l.length := by have := of_decide_eq_false h; omega
    subst hj'
    rw [List.take_length]
    refine go1 ?_
    refine g_call2 rfl (fun _ h => h) rfl (hsel) rfl lm ?_
    refine go1 ?_
    ((with_reducible apply n_guard); (case hs => exact rfl); (case hv => exact rfl); (case hd => exact rfl); (all_goals intro h))
    · have hA := of_decide_eq_true h
      refine go1 ?_
      ((with_reducible apply n_guard); (case hs => exact rfl); (case hv => exact rfl); (case hd => exact rfl); (all_goals intro h))
      · refine g_call2 rfl (fun _ h => h) rfl (semR_of_semC (known_m)) rfl lm ?_
        refine go1 ?_
        refine go0 ?_
        rfl
      · exfalso
        rw [hok] at h
        by_cases hB : (bytesS (hiS P l) : Int) + S ≤ B
        · simp [hB] at h; omega
        · simp [hB] at h
    · have hA : ¬ ((hiS P l).length : Int) + 1 ≤ T := by simpa using h
      have : ok = false := by rw [hok]; exact decide_eq_false (by omega)
      subst this
      refine go1 ?_
      refine g_call2 rfl (fun _ h => h) rfl (semR_of_semC (known_m)) rfl lm ?_
      refine go1 ?_
      refine go0 ?_
      rfl
end Go.Proofs.Ytplkofafnbfkmaa
