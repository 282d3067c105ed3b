/- Parts of a proof, one behind the other: B6, B7, C1, C2, C3, C4, EVK, BW, EV5, EV6, EVM, Data. -/
import Derived.Laws.Externs
import Derived.Lib.ReflectliteSwap
import Derived.Test.YtmeeeigfjlbnkaaGreatW07
namespace Go.Proofs.YtmeeeigfjlbnkaaGreat
open Go.RowKit
variable {G : GS}
attribute [local irreducible] vOpsN vOpsG vOpsD vOpGD NextD vC SeqQ BlockQ
theorem flds_at {l : List Fld} {k : Nat} (hk : k < l.length) : idxL (l.map fldM) l.length (k : Int) = some (fldM l[k]) := index_at hk (by simp [hk])
theorem msgS_succ (l : List Fld) {k : Nat} (hk : k < l.length) : msgS (l.take (k + 1)) = msgS (l.take k) ++ fieldS l[k] := by
  unfold msgS
  rw [List.take_succ_eq_append_getElem hk, List.map_append, List.flatten_append]; simp
theorem msgS_take (l : List Fld) (k : Nat) : (msgS (l.take k)).length ≤ (msgS l).length := by
  have : msgS (l.take k) ++ msgS (l.drop k) = msgS l := by
    unfold msgS
    rw [← List.flatten_append, ← List.map_append, List.take_append_drop]
  rw [← this, List.length_append]; omega
theorem fieldS_bytes {f : Fld} (hf : okF f) : f.bytes.length ≤ (fieldS f).length := by
  unfold okF at hf
  unfold fieldS
  split
  · have : f.bytes = [] := by
      rcases hf.2.2 with h | h
      · exact h.2.1
      · omega
    rw [this]; simp
  · simp only [List.length_append]; omega
set_option maxHeartbeats 2000000 in
set_option maxRecDepth 20000 in
theorem message_r (l : List Fld) (hl : ∀ f ∈ l, okF f) (hm : (msgS l).length < 200000000) (hll : l.length < 1000000) : SemR Tryz.prog G 85 [.sl l.length (l.map fldM)] [] 0 (.sl (msgS l).length (u8s (msgS l))) [] 0 := by
  refine semR_of_vc seat Tryz.func85 rfl rfl (Nat.le_of_ble_eq_true rfl) (Nat.le_of_ble_eq_true rfl) (N := 20) rfl rfl ?_
  refine go1 ?_
  refine c_loop Nat (fun k => [(8, .int .i64 k), (7, .int .i64 l.length), (6, .sl l.length (l.map fldM)), (3, .ms 0 1 0 (msgS (l.take k)).length)]) (fun k => [(0, ⟨5, 1, true, 0, u8s (msgS (l.take k))⟩)]) 1 (fun k => k ≤ l.length) (fun k => l.length - k) 0 (Nat.zero_le _) (by rw [List.take_zero]; exact (vm [] [])) ?_
  intro k hk
  try dsimp only
  refine go1 ?_
  refine c_cond rfl (fun h => ?_) (fun h => ?_)
  · have hk' : k < l.length := by have := of_decide_eq_true h; omega
    have hs := msgS_succ l hk'
    have hle := msgS_take l (k + 1)
    have hfo := hl _ (List.getElem_mem hk')
    have hfb := fieldS_bytes hfo
    have hel := flds_at hk'
    generalize l[k] = f at *
    have hlen : (msgS (l.take (k + 1))).length = (msgS (l.take k)).length + (fieldS f).length := by rw [hs, List.length_append]
    have c1 := field_r (G := G) (msgS (l.take k)) f hfo (by omega)
    rw [← hs] at c1
    unfold rowB at c1
    generalize msgS (l.take k) = p at *
    (have fct := SomF.mk (hel); refine go1 ?_)
    refine g_callR1 rfl (fun _ h => h) rfl (c1) [] [(0, p.length)] ⟨rfl, mm, rfl, lm, mm⟩ rfl rfl ?_
    refine go1 ?_
    exact ⟨k + 1, by show k + 1 ≤ l.length; omega, by show l.length - (k + 1) < l.length - k; omega, (by dsimp only; exact (vm [(0, _)] []))⟩
  · have hk' : k = l.length := by have := of_decide_eq_false h; omega
    subst hk'
    rw [List.take_length]
    generalize msgS l = p at *
    refine go1 ?_
    refine ⟨[_], [], [(0, p.length)], rfl, rfl, ?_, rfl, ⟨?_, trivial⟩, ?_⟩
    · exact ⟨by show p.length ≤ (u8s p).length; simp [u8s], trivial⟩
    · exact rv
    · exact mm
set_option maxHeartbeats 2000000 in
set_option maxRecDepth 20000 in
theorem leaf_r (l : List Fld) (hl : ∀ f ∈ l, okF f) (hm : (msgS l).length < 200000000) (hll : l.length < 1000000) : SemR Tryz.prog G 91 [.sl l.length (l.map fldM)] [] 0 (.sl (msgS l).length (u8s (msgS l))) [] 0 := by
  refine semR_of_vc seat Tryz.func91 rfl rfl (Nat.le_of_ble_eq_true rfl) (Nat.le_of_ble_eq_true rfl) (N := 20) rfl rfl ?_
  refine go1 ?_
  refine c_loop Nat (fun k => [(8, .int .i64 k), (7, .int .i64 l.length), (6, .sl l.length (l.map fldM)), (3, .ms 0 1 0 (msgS (l.take k)).length)]) (fun k => [(0, ⟨5, 1, true, 0, u8s (msgS (l.take k))⟩)]) 1 (fun k => k ≤ l.length) (fun k => l.length - k) 0 (Nat.zero_le _) (by rw [List.take_zero]; exact (vm [] [])) ?_
  intro k hk
  try dsimp only
  refine go1 ?_
  refine c_cond rfl (fun h => ?_) (fun h => ?_)
  · have hk' : k < l.length := by have := of_decide_eq_true h; omega
    have hs := msgS_succ l hk'
    have hle := msgS_take l (k + 1)
    have hfo := hl _ (List.getElem_mem hk')
    have hfb := fieldS_bytes hfo
    have hel := flds_at hk'
    generalize l[k] = f at *
    have hlen : (msgS (l.take (k + 1))).length = (msgS (l.take k)).length + (fieldS f).length := by rw [hs, List.length_append]
    have c1 := pfield_r (G := G) (msgS (l.take k)) f hfo (by omega)
    rw [← hs] at c1
    unfold rowB at c1
    generalize msgS (l.take k) = p at *
    (have fct := SomF.mk (hel); refine go1 ?_)
    refine g_callR1 rfl (fun _ h => h) rfl (c1) [] [(0, p.length)] ⟨rfl, mm, rfl, lm, mm⟩ rfl rfl ?_
    refine go1 ?_
    exact ⟨k + 1, by show k + 1 ≤ l.length; omega, by show l.length - (k + 1) < l.length - k; omega, (by dsimp only; exact (vm [(0, _)] []))⟩
  · have hk' : k = l.length := by have := of_decide_eq_false h; omega
    subst hk'
    rw [List.take_length]
    generalize msgS l = p at *
    refine go1 ?_
    refine ⟨[_], [], [(0, p.length)], rfl, rfl, ?_, rfl, ⟨?_, trivial⟩, ?_⟩
    · exact ⟨by show p.length ≤ (u8s p).length; simp [u8s], trivial⟩
    · exact rv
    · exact mm
def halfS : Nat → Nat → Nat → Nat
  | 0, _, k => k
  | f + 1, n, k => if k < n - k then halfS f n (k * 2) else k
theorem halfS_lt : ∀ (f n k : Nat), k < n → 1 ≤ k → 1 ≤ halfS f n k ∧ halfS f n k < n
  | 0, n, k, h, h1 => ⟨h1, h⟩
  | f + 1, n, k, h, h1 => by
    rw [halfS]
    split
    · exact halfS_lt f n (k * 2) (by omega) (by omega)
    · exact ⟨h1, h⟩
def hlf (n : Nat) : Nat := halfS n n 1
theorem hlf_lt {n : Nat} (h : 2 ≤ n) : 1 ≤ hlf n ∧ hlf n < n := halfS_lt n n 1 (by omega) (by omega)
end Go.Proofs.YtmeeeigfjlbnkaaGreat
namespace Go.Proofs.YtmeeeigfjlbnkaaGreat
open Go.RowKit
variable {G : GS}
attribute [local irreducible] vOpsN vOpsG vOpsD vOpGD NextD vC SeqQ BlockQ
theorem cut_key {a : List UInt8} (ha : a.length = 32) : cutL (u8s a) 0 32 = u8s a := by rw [cut_u8, List.drop_zero, List.take_of_length_le (by omega)]
def rawM (b : List UInt8) : MV := .sl b.length (u8s b)
def rootF : Nat → List (List UInt8) → List UInt8
  | 0, _ => shaS []
  | f + 1, l => match l with
    | [] => shaS []
    | [b] => shaS (0 :: b)
    | l => shaS (1 :: (rootF f (l.take (hlf l.length)) ++ rootF f (l.drop (hlf l.length))))
def rootS (l : List (List UInt8)) : List UInt8 := rootF l.length l
theorem rootF_two (f : Nat) {l : List (List UInt8)} (h : 2 ≤ l.length) : rootF (f + 1) l = shaS (1 :: (rootF f (l.take (hlf l.length)) ++ rootF f (l.drop (hlf l.length)))) := by
  match l, h with
  | a :: b :: r, _ => rfl
theorem rootF_len : ∀ (f : Nat) (l : List (List UInt8)), (rootF f l).length = 32
  | 0, _ => shaS_len _
  | f + 1, l => match l with
    | [] => shaS_len _
    | [_] => shaS_len _
    | _ :: _ :: _ => shaS_len _
theorem rootF_more : ∀ (f g : Nat) (l : List (List UInt8)), l.length ≤ f → l.length ≤ g → rootF f l = rootF g l
  | 0, g, l, h, _ => by
    obtain rfl := List.length_eq_zero_iff.1 (by omega : l.length = 0)
    cases g <;> rfl
  | f + 1, 0, l, _, h => by
    obtain rfl := List.length_eq_zero_iff.1 (by omega : l.length = 0)
    rfl
  | f + 1, g + 1, l, hf, hg => by
    match l with
    | [] => rfl
    | [b] => rfl
    | a :: b :: r =>
      have h2 : 2 ≤ (a :: b :: r).length := by simp only [List.length_cons]; omega
      rw [rootF_two f h2, rootF_two g h2]
      have := hlf_lt h2
      rw [rootF_more f g _ (by rw [List.length_take]; omega) (by rw [List.length_take]; omega), rootF_more f g _ (by rw [List.length_drop]; omega) (by rw [List.length_drop]; omega)]
theorem rootS_two {l : List (List UInt8)} (h : 2 ≤ l.length) : rootS l = shaS (1 :: (rootS (l.take (hlf l.length)) ++ rootS (l.drop (hlf l.length)))) := by
  obtain ⟨f, hf⟩ : ∃ f, l.length = f + 1 := ⟨l.length - 1, by omega⟩
  have := hlf_lt h
  unfold rootS
  rw [hf, rootF_two f h]
  rw [rootF_more f (l.take (hlf l.length)).length _ (by rw [List.length_take]; omega) (Nat.le_refl _), rootF_more f (l.drop (hlf l.length)).length _ (by rw [List.length_drop]; omega) (Nat.le_refl _), ← hf]
theorem rootS_len (l : List (List UInt8)) : (rootS l).length = 32 := rootF_len _ _
theorem cut_take {α : Type} (f : α → MV) (l : List α) (k : Nat) : cutL (l.map f) 0 k = (l.take k).map f := by simp [cutL, List.map_take]
theorem cut_drop {α : Type} (f : α → MV) (l : List α) (k : Nat) : cutL (l.map f) k l.length = (l.drop k).map f := by
  unfold cutL
  rw [List.take_of_length_le (by rw [List.length_drop, List.length_map]; omega), List.map_drop]
theorem head_raw : ∀ (l : List (List UInt8)), headSize (l.map rawM) 1 = true
  | [] => rfl
  | _ :: _ => rfl
theorem raws_at {l : List (List UInt8)} {k : Nat} (hk : k < l.length) : idxL (l.map rawM) l.length (k : Int) = some (rawM l[k]) := index_at hk (by simp [hk])
end Go.Proofs.YtmeeeigfjlbnkaaGreat
namespace Go.Proofs.YtmeeeigfjlbnkaaGreat
open Go.RowKit
variable {G : GS}
attribute [local irreducible] vOpsN vOpsG vOpsD vOpGD NextD vC SeqQ BlockQ
theorem neg_u64 {n : Nat} (h0 : 0 < n) (h1 : n < 32) : IntKind.u64.wrap (0 - (n : Int)) = ((18446744073709551616 - n : Nat) : Int) := by rw [wu64]; omega
theorem and31 {n : Nat} (h0 : 0 < n) (h1 : n < 32) : IntKind.u64.wrap ((BitVec.ofInt IntKind.u64.bits ((18446744073709551616 - n : Nat) : Int) &&& BitVec.ofInt IntKind.u64.bits (31 : Int)).toNat : Int) = ((32 - n : Nat) : Int) := by
  have e : (18446744073709551616 - n) &&& 31 = 32 - n := by
    have := Nat.and_two_pow_sub_one_eq_mod (18446744073709551616 - n) 5
    rw [show (2 ^ 5 - 1 : Nat) = 31 by rfl] at this
    rw [this]; omega
  rw [BitVec.toNat_and, bv_of _ _ (show 18446744073709551616 - n < 2 ^ IntKind.u64.bits by show _ < 18446744073709551616; omega), show (BitVec.ofInt IntKind.u64.bits (31 : Int)).toNat = 31 by rfl, e, wu64]
  omega
theorem sub32 {n : Nat} (h0 : 0 < n) (h1 : n < 32) : IntKind.u64.wrap (32 - ((32 - n : Nat) : Int)) = (n : Int) := by rw [wu64]; omega
set_option maxHeartbeats 1000000 in
set_option maxRecDepth 20000 in
theorem rot_m (x : UInt32) (n : Nat) (h0 : 0 < n) (h1 : n < 32) : SemC Tryz.prog G 138 [u32M x, .int .i64 (0 - (n : Int))] (u32M (turnU x n)) := by
  have e : turnU x n = (x <<< UInt32.ofNat (32 - n)) ||| (x >>> UInt32.ofNat n) := by unfold turnU; rw [UInt32.or_comm]
  refine semC_of_vc seat Tryz.func138 rfl rfl (Nat.le_of_ble_eq_true rfl) (Nat.le_of_ble_eq_true rfl) (N := 17) rfl ?_
  (have fct := EqF.mk (neg_u64 h0 h1); have fct := EqF.mk (and31 h0 h1); have fct := EqF.mk (sub32 h0 h1); have fct := EqF.mk (shl32 x (32 - n) (by omega)); have fct := EqF.mk (shr32 x n h1); refine gow1 ?_)
  refine go0 ?_
  exact congrArg u32M e.symm
set_option maxHeartbeats 1000000 in
set_option maxRecDepth 20000 in
theorem right_m' (x : UInt32) (n : Nat) (h0 : 0 < n) (h1 : n < 32) : SemC Tryz.prog G 125 [u32M x, .int .i64 n] (u32M (turnU x n)) := by
  have c1 := rot_m (G := G) x n h0 h1
  refine semC_of_vc seat Tryz.func125 rfl rfl (Nat.le_of_ble_eq_true rfl) (Nat.le_of_ble_eq_true rfl) (N := 9) rfl ?_
  refine go1 ?_
  refine yv (c1) ?_
  refine go1 ?_
  refine go0 ?_
  rfl
def bitsN (n : Nat) : Nat := if n = 0 then 0 else n.log2 + 1
theorem tab_at {l : List UInt8} (hl : l = (List.range 256).map fun i => UInt8.ofNat (bitsN i)) {j : Nat} (hj : j < 256) : idxS l (j : Int) = some (UInt8.ofNat (bitsN j)) := by
  subst hl
  unfold idxS
  rw [if_pos (by omega)]
  simp [hj]
theorem bitsN_spec {n : Nat} (h : 0 < n) : ∃ k, bitsN n = k + 1 ∧ 2 ^ k ≤ n ∧ n < 2 ^ (k + 1) := ⟨n.log2, by unfold bitsN; rw [if_neg (by omega)], Nat.log2_self_le (by omega), Nat.lt_log2_self⟩
theorem bitsN_small {n : Nat} (h : n < 256) : bitsN n ≤ 8 := by
  rcases Nat.eq_zero_or_pos n with rfl | h0
  · decide
  · obtain ⟨k, h1, h2, _⟩ := bitsN_spec h0
    rw [h1]
    rcases Nat.lt_or_ge k 8 with h3 | h3
    · omega
    · have : 2 ^ 8 ≤ 2 ^ k := Nat.pow_le_pow_right (by omega) h3
      omega
theorem shr8_64 (m : Nat) : ((m : Int).fdiv (2 ^ (min (8 : Int).toNat IntKind.u64.bits))) = ((m / 256 : Nat) : Int) := by
  rw [show min (8 : Int).toNat IntKind.u64.bits = 8 by rfl, Int.fdiv_eq_ediv_of_nonneg _ (by decide)]
  exact (Int.natCast_ediv m 256).symm
set_option maxHeartbeats 2000000 in
set_option maxRecDepth 20000 in
theorem len64_m (x : Nat) (h0 : 0 < x) (hx : x < 65536) : ∃ k, 2 ^ k ≤ x ∧ x < 2 ^ (k + 1) ∧ SemC Tryz.prog G 137 [.int .u64 x] (.int .i64 ((k + 1 : Nat) : Int)) := by
  by_cases hs : x < 256
  · obtain ⟨k, hk, h1, h2⟩ := bitsN_spec h0
    have hy : x < 256 := hs
    have hb := bitsN_small hs
    refine ⟨k, h1, h2, ?_⟩
    rw [← hk]
    have hn : (UInt8.ofNat (bitsN x)).toNat = bitsN x := ofNat_toNat (by omega)
    refine semC_of_vc seat Tryz.func137 rfl rfl (Nat.le_of_ble_eq_true rfl) (Nat.le_of_ble_eq_true rfl) (N := 25) rfl ?_
    refine go1 ?_
    refine c_cond rfl (fun h => ?_) (fun h => ?_)
    · exfalso
      have := of_decide_eq_true h
      omega
    refine go1 ?_
    refine c_cond rfl (fun h => ?_) (fun h => ?_)
    · exfalso
      have := of_decide_eq_true h
      omega
    refine go1 ?_
    refine c_cond rfl (fun h => ?_) (fun h => ?_)
    · exfalso
      have := of_decide_eq_true h
      omega
    refine go1 ?_
    ((with_reducible apply g_val); (case hq => exact rfl); (case hv => exact rfl); (case he => (intro R hR; (try conv => whnf); refine ⟨_, tab_at (by kernel_rfl) hy, ?_⟩; exact hR)); (case hd => exact rfl))
    rw [hn]
    refine go1 ?_
    refine go0 ?_
    exact congrArg (MV.int .i64) (by omega)
  · have hd0 : 0 < x / 256 := by omega
    have hy : x / 256 < 256 := by omega
    obtain ⟨k, hk, h1, h2⟩ := bitsN_spec hd0
    have hb := bitsN_small hy
    have p1 : 2 ^ (k + 8) = 2 ^ k * 256 := by rw [Nat.pow_add]
    have p2 : 2 ^ (k + 8 + 1) = 2 ^ (k + 1) * 256 := by rw [show k + 8 + 1 = k + 1 + 8 by omega, Nat.pow_add]
    refine ⟨k + 8, by rw [p1]; omega, by rw [p2]; omega, ?_⟩
    rw [show k + 8 + 1 = 8 + bitsN (x / 256) by omega]
    have hn : (UInt8.ofNat (bitsN (x / 256))).toNat = bitsN (x / 256) := ofNat_toNat (by omega)
    have hsh := shr8_64 x
    generalize x / 256 = y at *
    refine semC_of_vc seat Tryz.func137 rfl rfl (Nat.le_of_ble_eq_true rfl) (Nat.le_of_ble_eq_true rfl) (N := 25) rfl ?_
    refine go1 ?_
    refine c_cond rfl (fun h => ?_) (fun h => ?_)
    · exfalso
      have := of_decide_eq_true h
      omega
    refine go1 ?_
    refine c_cond rfl (fun h => ?_) (fun h => ?_)
    · exfalso
      have := of_decide_eq_true h
      omega
    refine go1 ?_
    refine c_cond rfl (fun h => ?_) (fun h => ?_)
    rotate_left
    · exfalso
      have := of_decide_eq_false h
      omega
    (have fct := EqF.mk (hsh); refine go1 ?_)
    ((with_reducible apply g_val); (case hq => exact rfl); (case hv => exact rfl); (case he => (intro R hR; (try conv => whnf); refine ⟨_, tab_at (by kernel_rfl) hy, ?_⟩; exact hR)); (case hd => exact rfl))
    rw [hn]
    refine go1 ?_
    refine go0 ?_
    exact congrArg (MV.int .i64) (by omega)
theorem halfS_pow : ∀ (f n k : Nat), k < n → 1 ≤ k → n ≤ f + k → ∃ m, halfS f n k = k * 2 ^ m ∧ k * 2 ^ m < n ∧ n ≤ 2 * (k * 2 ^ m)
  | 0, n, k, h, h1, hf => by omega
  | f + 1, n, k, h, h1, hf => by
    rw [halfS]
    split
    · obtain ⟨m, q1, q2, q3⟩ := halfS_pow f n (k * 2) (by omega) (by omega) (by omega)
      have e : k * 2 * 2 ^ m = k * 2 ^ (m + 1) := by rw [Nat.pow_succ, Nat.mul_assoc, Nat.mul_comm 2]
      rw [e] at q1 q2 q3
      exact ⟨m + 1, q1, q2, q3⟩
    · exact ⟨0, by simp, by simpa using h, by simp; omega⟩
theorem hlf_pow {n k : Nat} (h2 : 2 ≤ n) (h1 : 2 ^ k ≤ n - 1) (h3 : n - 1 < 2 ^ (k + 1)) : hlf n = 2 ^ k := by
  obtain ⟨m, q1, q2, q3⟩ := halfS_pow n n 1 (by omega) (by omega) (by omega)
  rw [Nat.one_mul] at q1 q2 q3
  unfold hlf
  rw [q1]
  have e : m = k := by
    rcases Nat.lt_trichotomy m k with h | h | h
    · have h4 : 2 ^ (m + 1) ≤ 2 ^ k := Nat.pow_le_pow_right (by omega) h
      rw [Nat.pow_succ] at h4; omega
    · exact h
    · have h4 : 2 ^ (k + 1) ≤ 2 ^ m := Nat.pow_le_pow_right (by omega) h
      omega
  rw [e]
theorem shl1 {k : Nat} (h : k < 62) : IntKind.i64.wrap (1 * 2 ^ (min (k : Int).toNat IntKind.i64.bits)) = ((2 ^ k : Nat) : Int) := by
  have e : min (k : Int).toNat IntKind.i64.bits = k := by simp [IntKind.bits]; omega
  have h4 : 2 ^ k ≤ 2 ^ 61 := Nat.pow_le_pow_right (by omega) (by omega)
  have e2 : (1 * 2 ^ k : Int) = ((2 ^ k : Nat) : Int) := by rw [Int.one_mul, Int.natCast_pow]; rfl
  rw [e, e2]
  generalize 2 ^ k = p at *
  exact wrap_in _ (by omega) (by omega)
set_option maxHeartbeats 1000000 in
set_option maxRecDepth 20000 in
theorem phalf_m (n : Nat) (h2 : 2 ≤ n) (hn : n < 65536) : SemC Tryz.prog G 109 [.int .i64 n] (.int .i64 (hlf n)) := by
  obtain ⟨k, h1, h3, c1⟩ := len64_m (G := G) (n - 1) (by omega) (by omega)
  rw [hlf_pow h2 h1 h3]
  have hk : k < 62 := by
    rcases Nat.lt_or_ge k 62 with h | h
    · exact h
    · have : 2 ^ 62 ≤ 2 ^ k := Nat.pow_le_pow_right (by omega) h
      omega
  have c2 : SemC Tryz.prog G 121 [.int .u64 ((n - 1 : Nat) : Int)] (.int .i64 ((k + 1 : Nat) : Int)) := by
    refine semC_of_vc seat Tryz.func121 rfl rfl (Nat.le_of_ble_eq_true rfl) (Nat.le_of_ble_eq_true rfl) (N := 8) rfl ?_
    refine go1 ?_
    refine yv (c1) ?_
    refine go1 ?_
    refine go0 ?_
    rfl
  have e : (((k + 1 : Nat) : Int)) - 1 = (k : Int) := by omega
  have hs := shl1 hk
  refine semC_of_vc seat Tryz.func109 rfl rfl (Nat.le_of_ble_eq_true rfl) (Nat.le_of_ble_eq_true rfl) (N := 9) rfl ?_
  refine go1 ?_
  refine yv (c2) ?_
  have ew : IntKind.i64.wrap (((k + 1 : Nat) : Int) - 1) = (k : Int) := (wrap_in _ (by omega) (by omega)).trans e
  (have fct := EqF.mk (ew); have fct := EqF.mk (hs); refine go1 ?_)
  refine go0 ?_
  rfl
end Go.Proofs.YtmeeeigfjlbnkaaGreat
namespace Go.Proofs.YtmeeeigfjlbnkaaGreat
open Go.RowKit
variable {G : GS}
set_option maxHeartbeats 4000000 in
set_option maxRecDepth 20000 in
theorem schedule_m (b : List UInt8) (hb : b.length = 64) : SemC Tryz.prog G 123 [.sl 64 (u8s b)] (wsM (moreW b 48)) := by
  refine semC_of_vc seat Tryz.func123 rfl rfl (Nat.le_of_ble_eq_true rfl) (Nat.le_of_ble_eq_true rfl) (N := 93) rfl ?_
  refine gow0 ?_
  refine ⟨Nat, fun t => [(10, .int .i64 t), (3, .ptr 1 64 0 0 []), (2, .ptr 0 64 0 0 []), (0, .sl 64 (u8s b))], fun t => [(0, ⟨240, 64, false, 0, [wsM (List.replicate 64 0)]⟩), (1, ⟨240, 64, false, 0, [wsM (fillW b t)]⟩)], 2, fun t => t ≤ 16, fun t => 16 - t, ⟨0, by omega, (vm [(0, _), (1, _)] [])⟩, ?_⟩
  intro t ht
  refine gow0 ?_
  refine ⟨fun hc => ?_, fun hc => ?_⟩
  · have ht' : t < 16 := by have := of_decide_eq_true hc; omega
    have hl := fillW_len b t
    refine gow0 ?_
    refine ⟨[(0, false), (1, false), (2, false), (3, false), (4, false), (5, false), (6, false), (7, false), (8, false), (9, false), (10, false), (11, false), (12, false), (13, false), (14, false), (15, false), (16, false), (17, false), (18, false), (19, false), (20, false), (21, false), (22, false), (23, false), (24, false), (25, false), (26, false), (27, false), (28, false), (29, false), (30, false), (31, false), (32, false), (33, false), (34, false), (35, false)], ?_⟩
    refine gow0 ?_
    refine ⟨_, index_of (4 * t) (by omega) (by omega) (u8_at (by omega)), ?_⟩
    refine gow0 ?_
    refine ⟨_, index_of (4 * t + 1) (by omega) (by omega) (u8_at (by omega)), ?_⟩
    refine gow0 ?_
    refine ⟨_, index_of (4 * t + 2) (by omega) (by omega) (u8_at (by omega)), ?_⟩
    refine gow0 ?_
    refine ⟨_, index_of (4 * t + 3) (by omega) (by omega) (u8_at (by omega)), ?_⟩
    refine gow0 ?_
    refine ⟨_, idx_at (by omega), ?_⟩
    refine gow0 ?_
    refine ⟨_, ws_set (by omega) _, ?_⟩
    refine gow0 ?_
    exact ⟨t + 1, by omega, by show 16 - (t + 1) < 16 - t; omega, (vm [(0, _), (1, _)] [])⟩
  · have ht' : t = 16 := by have := of_decide_eq_false hc; omega
    subst ht'
    refine gow0 ?_
    refine ⟨Nat, fun t => [(5, .int .i64 ((16 + t : Nat) : Int)), (3, .ptr 1 64 0 0 []), (2, .ptr 0 64 0 0 [])], fun t => [(0, ⟨240, 64, false, 0, [wsM (List.replicate 64 0)]⟩), (1, ⟨240, 64, false, 0, [wsM (moreW b t)]⟩)], 2, fun t => t ≤ 48, fun t => 48 - t, ⟨0, by omega, (vm [(0, _), (1, _)] [])⟩, ?_⟩
    intro t ht
    refine gow0 ?_
    refine ⟨fun hc => ?_, fun hc => ?_⟩
    · have ht' : t < 48 := by have := of_decide_eq_true hc; omega
      have hl := moreW_len b t
      refine gow0 ?_
      refine ⟨[(0, false), (1, false), (2, false), (3, false), (4, false), (5, false), (6, false), (7, false), (8, false), (9, false)], ?_⟩
      refine gow0 ?_
      refine ⟨_, idx_of (16 + t - 15) (by omega) (by omega), ?_⟩
      refine gow0 ?_
      refine ⟨_, ws_get (by omega), ?_⟩
      refine gow0 ?_
      refine ⟨_, idx_of (16 + t - 2) (by omega) (by omega), ?_⟩
      refine gow0 ?_
      refine ⟨_, ws_get (by omega), ?_⟩
      refine gow0 ?_
      refine .inl ⟨_, right_m' _ 7 (by omega) (by omega), ?_⟩
      refine gow0 ?_
      refine .inl ⟨_, right_m' _ 18 (by omega) (by omega), ?_⟩
      refine gow0 ?_
      refine .inl ⟨_, right_m' _ 17 (by omega) (by omega), ?_⟩
      refine gow0 ?_
      refine .inl ⟨_, right_m' _ 19 (by omega) (by omega), ?_⟩
      refine gow0 ?_
      refine ⟨[(0, false), (1, false), (2, false), (3, false), (4, false), (5, false), (6, false), (7, false), (8, false), (9, false), (10, false), (11, false), (12, false), (13, false), (14, false), (15, false)], ?_⟩
      refine gow0 ?_
      refine ⟨_, idx_of (16 + t - 7) (by omega) (by omega), ?_⟩
      refine gow0 ?_
      refine ⟨_, ws_get (by omega), ?_⟩
      refine gow0 ?_
      refine ⟨_, idx_of (16 + t - 16) (by omega) (by omega), ?_⟩
      refine gow0 ?_
      refine ⟨_, ws_get (by omega), ?_⟩
      refine gow0 ?_
      refine ⟨_, idx_of (16 + t) (by omega) (by omega), ?_⟩
      refine gow0 ?_
      refine ⟨_, ws_set (by omega) _, ?_⟩
      refine gow0 ?_
      exact ⟨t + 1, by show t + 1 ≤ 48; omega, by show 48 - (t + 1) < 48 - t; omega, (vm [(0, _), (1, _)] [])⟩
    · have ht' : t = 48 := by have := of_decide_eq_false hc; omega
      subst ht'
      refine gow0 ?_
      rfl
set_option maxRecDepth 40000 in
theorem rounds_r : SemR Tryz.prog G 124 [] [] 0 (.ptr 0 64 0 0 []) [(0, ⟨240, 64, false, 0, [wsM kL]⟩)] 1 := by
  refine semR_of_vc seat Tryz.func124 rfl rfl (Nat.le_of_ble_eq_true rfl) (Nat.le_of_ble_eq_true rfl) (N := 3) rfl rfl ?_
  refine go1 ?_
  exact eb [_] [(0, 2)] []
set_option maxRecDepth 40000 in
theorem begin_m : SemC Tryz.prog G 111 [] initW.toM := by
  refine semC_of_vc seat Tryz.func111 rfl rfl (Nat.le_of_ble_eq_true rfl) (Nat.le_of_ble_eq_true rfl) (N := 2) rfl ?_
  refine go1 ?_
  refine go0 ?_
  rfl
def roundP (k w : UInt32) (s : W8) : W8 := ⟨tmp1 k w s + (turnU s.a 2 ^^^ turnU s.a 13 ^^^ turnU s.a 22) + (s.a &&& s.b ^^^ s.a &&& s.c ^^^ s.b &&& s.c), s.a, s.b, s.c, s.d + tmp1 k w s, s.e, s.f, s.g⟩
theorem roundP_eq (k w : UInt32) (s : W8) : roundS k w s = roundP k w s := by
  unfold roundS roundP tmp2
  rw [UInt32.add_assoc]
set_option maxHeartbeats 8000000 in
set_option maxRecDepth 20000 in
theorem wblock_m (h : W8) (b : List UInt8) (hb : b.length = 64) : SemC Tryz.prog G 112 [h.toM, .sl 64 (u8s b)] (blockS h b).toM := by
  have c1 := schedule_m (G := G) b hb
  have hl := moreW_len b 48
  have hk : kL.length = 64 := rfl
  have c2 := rounds_r (G := G)
  unfold blockS
  generalize moreW b 48 = ws at *
  generalize kL = kl at *
  refine semC_of_vc seat Tryz.func112 rfl rfl (Nat.le_of_ble_eq_true rfl) (Nat.le_of_ble_eq_true rfl) (N := 119) rfl ?_
  refine gow1 ?_
  refine yv (c1) ?_
  refine gow1 ?_
  refine yc (c2) [] ?_
  refine gow1 ?_
  refine ⟨Nat, fun t => [(21, .int .i64 t), (7, .ptr 4 8 0 0 []), (6, .ptr 3 64 0 0 []), (5, .ptr 2 64 0 0 []), (4, .ptr 1 8 0 0 []), (2, .ptr 0 8 0 0 [])], fun t => [(0, ⟨227, 8, false, 0, [h.toM]⟩), (1, ⟨227, 8, false, 0, [W8.toM ⟨0, 0, 0, 0, 0, 0, 0, 0⟩]⟩), (2, ⟨240, 64, false, 0, [wsM ws]⟩), (3, ⟨240, 64, false, 0, [wsM kl]⟩), (4, ⟨227, 8, false, 0, [(rounds kl ws h t).toM]⟩)], 5, fun t => t ≤ 64, fun t => 64 - t, ⟨0, by omega, (vm [(0, 0), (1, 1), (2, 4), (3, 3), (4, 8)] [])⟩, ?_⟩
  intro t ht
  refine gow0 ?_
  refine ⟨fun hc => ?_, fun hc => ?_⟩
  · have ht' : t < 64 := by have := of_decide_eq_true hc; omega
    have hr : rounds kl ws h (t + 1) = roundP (kl.getD t 0) (ws.getD t 0) (rounds kl ws h t) := roundP_eq _ _ _
    dsimp only
    generalize rounds kl ws h t = s at *
    refine gow0 ?_
    refine ⟨[(0, false), (1, false), (2, false), (3, false), (4, false), (5, false)], ?_⟩
    refine gow0 ?_
    refine .inl ⟨_, right_m' _ 6 (by omega) (by omega), ?_⟩
    refine gow0 ?_
    refine .inl ⟨_, right_m' _ 11 (by omega) (by omega), ?_⟩
    refine gow0 ?_
    refine .inl ⟨_, right_m' _ 25 (by omega) (by omega), ?_⟩
    refine gow0 ?_
    refine ⟨[(0, false), (1, false), (2, false), (3, false), (4, false), (5, false), (6, false), (7, false), (8, false), (9, false), (10, false), (11, false), (12, false), (13, false), (14, false), (15, false), (16, false)], ?_⟩
    refine gow0 ?_
    refine ⟨_, idx_at (by omega), ?_⟩
    refine gow0 ?_
    refine ⟨_, ws_get (by omega), ?_⟩
    refine gow0 ?_
    refine ⟨_, idx_at (by omega), ?_⟩
    refine gow0 ?_
    refine ⟨_, ws_get (by omega), ?_⟩
    refine gow0 ?_
    refine .inl ⟨_, right_m' _ 2 (by omega) (by omega), ?_⟩
    refine gow0 ?_
    refine .inl ⟨_, right_m' _ 13 (by omega) (by omega), ?_⟩
    refine gow0 ?_
    refine .inl ⟨_, right_m' _ 22 (by omega) (by omega), ?_⟩
    refine gow0 ?_
    exact ⟨t + 1, by show t + 1 ≤ 64; omega, by show 64 - (t + 1) < 64 - t; omega, (by dsimp only; rw [hr]; exact (vm [(0, _), (1, _), (2, _), (3, _), (4, _)] []))⟩
  · have ht' : t = 64 := by have := of_decide_eq_false hc; omega
    subst ht'
    dsimp only
    generalize rounds kl ws h 64 = s at *
    refine gow0 ?_
    refine ⟨Nat, fun i => [(106, .int .i64 i), (7, .ptr 2 8 0 0 []), (4, .ptr 1 8 0 0 []), (2, .ptr 0 8 0 0 [])], fun i => [(0, ⟨227, 8, false, 0, [(addW h s i).toM]⟩), (1, ⟨227, 8, false, 0, [W8.toM ⟨0, 0, 0, 0, 0, 0, 0, 0⟩]⟩), (2, ⟨227, 8, false, 0, [s.toM]⟩)], 3, fun i => i ≤ 8, fun i => 8 - i, ⟨0, by omega, (vm [(0, 0), (1, 1), (2, 4)] [])⟩, ?_⟩
    intro i hi
    refine gow0 ?_
    refine ⟨fun hc => ?_, fun hc => ?_⟩
    · have hi' : i < 8 := by have := of_decide_eq_true hc; omega
      refine gow0 ?_
      refine ⟨[(0, false), (1, false), (2, false), (3, false), (4, false), (5, false), (6, false), (7, false), (8, false)], ?_⟩
      refine gow0 ?_
      refine ⟨_, idx_at (by omega), ?_⟩
      refine gow0 ?_
      refine ⟨_, get8 _ hi', ?_⟩
      refine gow0 ?_
      refine ⟨_, idx_at (by omega), ?_⟩
      refine gow0 ?_
      refine ⟨_, get8 _ hi', ?_⟩
      refine gow0 ?_
      refine ⟨_, idx_at (by omega), ?_⟩
      refine gow0 ?_
      refine ⟨_, set8 h s hi', ?_⟩
      refine gow0 ?_
      exact ⟨i + 1, by show i + 1 ≤ 8; omega, by show 8 - (i + 1) < 8 - i; omega, (vm [(0, _), (1, _), (2, _)] [])⟩
    · have hi' : i = 8 := by have := of_decide_eq_false hc; omega
      subst hi'
      refine gow0 ?_
      rfl
end Go.Proofs.YtmeeeigfjlbnkaaGreat
namespace Go.Proofs.YtmeeeigfjlbnkaaGreat
open Go.RowKit
variable {G : GS}
attribute [local irreducible] vOpsN vOpsG vOpsD vOpGD NextD vC SeqQ BlockQ
theorem absorb_app (s : W8) (m b : List UInt8) : ∀ q, 64 * q ≤ m.length → absorb s (m ++ b) q = absorb s m q
  | 0, _ => rfl
  | q + 1, h => by
    rw [absorb, absorb, absorb_app s m b q (by omega)]
    congr 1
    rw [List.drop_append_of_le_length (by omega), List.take_append_of_le_length (by rw [List.length_drop]; omega)]
def digM (m : List UInt8) : MV := .st [(absorb initW m (m.length / 64)).toM, .sl (m.length % 64) (u8s (m.drop (64 * (m.length / 64)))), .int .i64 m.length]
def digB (m : List UInt8) : VM := [(0, ⟨230, 10, false, 0, [digM m]⟩)]
abbrev digP : MV := .ptr 0 10 0 0 []
set_option maxRecDepth 40000 in
theorem new_r : SemR Tryz.prog G 93 [] [] 0 digP (digB []) 1 := by
  unfold digB digM
  refine semR_of_vc seat Tryz.func93 rfl rfl (Nat.le_of_ble_eq_true rfl) (Nat.le_of_ble_eq_true rfl) (N := 4) rfl rfl ?_
  refine go1 ?_
  refine yv (begin_m) ?_
  refine go1 ?_
  refine ⟨[_], [(0, 2)], [], rfl, rfl, trivial, rfl, ⟨?_, trivial⟩, ?_⟩
  · exact rv
  · exact ⟨.inr ⟨_, _, rfl, rfl, rfl, rfl, .inl rfl, .inl rfl, .inr ⟨.inr ⟨_, rfl, ⟨rfl, rfl⟩, .inr ⟨rfl, rfl⟩, ⟨rfl, rfl⟩, trivial⟩, trivial⟩⟩, trivial⟩
set_option maxHeartbeats 4000000 in
set_option maxRecDepth 20000 in
theorem write_r (m b : List UInt8) (hm : m.length + b.length < 1000000000) : SemR Tryz.prog G 94 [digP, .sl b.length (u8s b)] (digB m) 1 (.tup []) (digB (m ++ b)) 1 := by
  have hq : 64 * (m.length / 64) ≤ m.length := by omega
  have hz : m.drop (64 * (m.length / 64)) ++ b = (m ++ b).drop (64 * (m.length / 64)) := (List.drop_append_of_le_length hq).symm
  have hl0 : (m.drop (64 * (m.length / 64))).length = m.length % 64 := by rw [List.length_drop]; omega
  have hab := absorb_app initW m b (m.length / 64) hq
  have hlen : (m ++ b).length = m.length + b.length := List.length_append
  unfold digB digM
  rw [← hab]
  generalize hM : m ++ b = M at *
  generalize hqq : m.length / 64 = q at *
  generalize hr0 : m.drop (64 * q) = r0 at *
  rw [← hl0]
  refine semR_of_vc seat Tryz.func94 rfl rfl (Nat.le_of_ble_eq_true rfl) (Nat.le_of_ble_eq_true rfl) (N := 43) rfl rfl ?_
  refine go1 ?_
  refine g_mem rfl rfl (by intro R hR; refine sms hR ?_; refine And.intro (head_b r0) ?_; refine And.intro (app_ok1 (by kernel_rfl) (by omega)) ?_; exact hR) rfl ?_
  refine go1 ?_
  have hw0 : (M.drop (64 * q)).length = r0.length + b.length := by rw [← hz, List.length_append]
  refine g_mem rfl rfl (by intro R hR; refine sms hR ?_; refine And.intro (head_b b) ?_; refine And.intro ⟨(by simp [u8s]), app_ok (by kernel_rfl) pf⟩ ?_; refine ⟨u8s (M.drop (64 * q)), sv (by rw [← hz]; simp [u8s]), (M.drop (64 * q)).length, sv pf, ?_⟩; exact hR) rfl ?_
  refine go1 ?_
  refine c_loop Nat (fun k => [(4, .sl (M.drop (64 * (q + k))).length (u8s (M.drop (64 * (q + k))))), (0, digP)]) (fun k => [(0, ⟨230, 10, false, 0, [.st [(absorb initW M (q + k)).toM, .sl r0.length (u8s r0), .int .i64 M.length]]⟩)]) 1 (fun k => 64 * (q + k) ≤ M.length) (fun k => M.length - k) 0 (by omega) ?_ ?_
  · rw [Nat.add_zero, hlen, Int.natCast_add]
    exact (vm [] [(19, (M.drop (64 * q)).length)])
  intro k hk
  try dsimp only
  have hwl : (M.drop (64 * (q + k))).length = M.length - 64 * (q + k) := List.length_drop
  have hnext : (M.drop (64 * (q + k))).drop 64 = M.drop (64 * (q + (k + 1))) := by rw [List.drop_drop, show 64 * (q + k) + 64 = 64 * (q + (k + 1)) by omega]
  have habs : absorb initW M (q + (k + 1)) = blockS (absorb initW M (q + k)) ((M.drop (64 * (q + k))).take 64) := rfl
  by_cases hlast : 64 ≤ M.length - 64 * (q + k)
  · generalize absorb initW M (q + k) = S at *
    generalize hw : M.drop (64 * (q + k)) = w at *
    have hb1 : bounds w.length none (some (.int .i64 64)) = some (0, 64) := bndHi (k := 64) (by omega)
    have hb2 : bounds w.length (some (.int .i64 64)) none = some (64, w.length) := bndLo (k := 64) (by omega)
    have hc1 : cutL (u8s w) 0 64 = u8s (w.take 64) := by rw [cut_u8, List.drop_zero]
    have hc2 : cutL (u8s w) 64 w.length = u8s (w.drop 64) := by rw [cut_u8, List.take_of_length_le (by rw [List.length_drop]; omega)]
    have hc3 : w.length - 64 = (w.drop 64).length := List.length_drop.symm
    have c1 := wblock_m (G := G) S (w.take 64) (by rw [List.length_take]; omega)
    refine go1 ?_
    refine c_cond rfl (fun h => ?_) (fun h => ?_)
    rotate_left
    · exfalso
      have := of_decide_eq_false h
      omega
    refine go1 ?_
    refine c_draw [(0, false), (1, false), (2, false), (3, false), (4, false), (5, false), (6, false), (7, true), (8, false), (9, false), (10, false)] ?_
    (have fct := SomF.mk (hb1); have fct := SomF.mk (hb2); have fct := EqF.mk (hc1); have fct := EqF.mk (hc2); have fct := EqF.mk (hc3); have fct := SideF.mk (head_b w); refine go1 ?_)
    refine ydv (c1) ?_
    (have fct := SomF.mk (hb1); have fct := SomF.mk (hb2); have fct := EqF.mk (hc1); have fct := EqF.mk (hc2); have fct := EqF.mk (hc3); have fct := SideF.mk (head_b w); refine go1 ?_)
    exact ⟨k + 1, by show 64 * (q + (k + 1)) ≤ M.length; omega, by show M.length - (k + 1) < M.length - k; omega, (by dsimp only; rw [← hnext, habs]; exact (vm [] []))⟩
  · have e1 : M.length / 64 = q + k := by omega
    have e2 : M.length % 64 = (M.drop (64 * (q + k))).length := by omega
    rw [e1, e2]
    generalize absorb initW M (q + k) = S at *
    generalize hw : M.drop (64 * (q + k)) = w at *
    refine go1 ?_
    refine c_cond rfl (fun h => ?_) (fun h => ?_)
    · exfalso
      have := of_decide_eq_true h
      omega
    refine go1 ?_
    refine g_mem rfl rfl (by intro R hR; refine sms hR ?_; refine And.intro (head_b w) ?_; refine And.intro (app_ok1 (by kernel_rfl) (by omega)) ?_; exact hR) rfl ?_
    refine go1 ?_
    refine ⟨[], [], [(6, w.length)], rfl, rfl, ?_, rfl, trivial, ?_⟩
    · exact ⟨by show w.length ≤ (u8s w).length; simp [u8s], trivial⟩
    · exact ⟨.inr ⟨_, _, rfl, rfl, rfl, rfl, .inl rfl, .inl rfl, .inr ⟨.inr ⟨_, rfl, ⟨rfl, rfl⟩, .inr ⟨rfl, rfl, rfl, Nat.le_of_eq (Nat.zero_add _), cut_all _ _⟩, ⟨rfl, rfl⟩, trivial⟩, trivial⟩⟩, trivial⟩
theorem rem64 (n : Nat) : (n : Int).tmod 64 = ((n % 64 : Nat) : Int) := rfl
theorem shrN (n k : Nat) (hk : k < 8) : IntKind.u8.wrap (((n : Nat) : Int).fdiv (2 ^ (min (56 - 8 * (k : Int)).toNat IntKind.u64.bits))) = ((byteAt n k).toNat : Int) := by
  have e : min (56 - 8 * (k : Int)).toNat IntKind.u64.bits = 8 * (7 - k) := by simp [IntKind.bits]; omega
  rw [e, Int.fdiv_eq_ediv_of_nonneg _ (Int.le_of_lt (Int.pow_pos (by omega))), w8, byteAt, UInt8.toNat_ofNat']
  have e3 : (2 : Int) ^ (8 * (7 - k)) = ((2 ^ (8 * (7 - k)) : Nat) : Int) := by rw [Int.natCast_pow]; rfl
  rw [e3, ← Int.natCast_ediv]
  exact (Int.natCast_emod _ 256).symm
theorem pad_drop (m : List UInt8) (q : Nat) (hq : 64 * q ≤ m.length) : (padS m).drop (64 * q) = m.drop (64 * q) ++ [128] ++ List.replicate (padN m.length) 0 ++ be64 (8 * m.length) := by
  unfold padS
  rw [List.append_assoc, List.append_assoc, List.drop_append_of_le_length hq, ← List.append_assoc, ← List.append_assoc]
theorem absorb_pad (m : List UInt8) (q : Nat) (hq : 64 * q ≤ m.length) : absorb initW (padS m) q = absorb initW m q := by
  unfold padS
  rw [List.append_assoc, List.append_assoc]
  exact absorb_app _ _ _ _ hq
theorem nth8 (S : W8) {i : Nat} (h : i < 8) : idxL [u32M S.a, u32M S.b, u32M S.c, u32M S.d, u32M S.e, u32M S.f, u32M S.g, u32M S.h] 8 (i : Int) = some (u32M (S.nth i)) := by
  have h8 : i = 0 ∨ i = 1 ∨ i = 2 ∨ i = 3 ∨ i = 4 ∨ i = 5 ∨ i = 6 ∨ i = 7 := by omega
  rcases h8 with rfl | rfl | rfl | rfl | rfl | rfl | rfl | rfl <;> rfl
theorem out4 (S : W8) (i : Nat) : outK S (4 * (i + 1)) = ((((outK S (4 * i)).set (4 * i) (S.nth i >>> UInt32.ofNat 24).toUInt8).set (4 * i + 1) (S.nth i >>> UInt32.ofNat 16).toUInt8).set (4 * i + 2) (S.nth i >>> UInt32.ofNat 8).toUInt8).set (4 * i + 3) (S.nth i).toUInt8 := by
  have e : outK S (4 * (i + 1)) = ((((outK S (4 * i)).set (4 * i) (outAt S (4 * i))).set (4 * i + 1) (outAt S (4 * i + 1))).set (4 * i + 2) (outAt S (4 * i + 2))).set (4 * i + 3) (outAt S (4 * i + 3)) := rfl
  rw [e]
  unfold outAt
  rw [show 4 * i / 4 = i by omega, show (4 * i + 1) / 4 = i by omega, show (4 * i + 2) / 4 = i by omega, show (4 * i + 3) / 4 = i by omega, show 24 - 4 * i % 4 * 8 = 24 by omega, show 24 - (4 * i + 1) % 4 * 8 = 16 by omega, show 24 - (4 * i + 2) % 4 * 8 = 8 by omega, show 24 - (4 * i + 3) % 4 * 8 = 0 by omega]
  rw [show UInt32.ofNat 0 = 0 by rfl, UInt32.shiftRight_zero]
set_option maxHeartbeats 8000000 in
set_option maxRecDepth 20000 in
theorem sum_r (m : List UInt8) (hm : m.length < 1000000000) : SemR Tryz.prog G 95 [digP] (digB m) 1 (keyM (shaS m)) (digB m) 1 := by
  have hq : 64 * (m.length / 64) ≤ m.length := by omega
  have hl0 : (m.drop (64 * (m.length / 64))).length = m.length % 64 := by rw [List.length_drop]; omega
  have hpd := pad_drop m _ hq
  have hpa := absorb_pad m _ hq
  have hpl := padS_len m
  have hpv := padS_div m
  have hp : padN m.length < 64 := by unfold padN; omega
  have hpn : (m.length % 64 + 1 + padN m.length) % 64 = 56 := by unfold padN; omega
  have hpf : ∀ k, k < padN m.length → (m.length % 64 + 1 + k) % 64 ≠ 56 := by unfold padN; intro k hk; omega
  unfold digB digM shaS
  rw [← hl0] at hpn hpf ⊢
  generalize hqq : m.length / 64 = q at *
  generalize hr0 : m.drop (64 * q) = r0 at *
  generalize hpN : padN m.length = pn at *
  generalize hP : padS m = P at *
  rw [← hpa]
  refine semR_of_vc seat Tryz.func95 rfl rfl (Nat.le_of_ble_eq_true rfl) (Nat.le_of_ble_eq_true rfl) (N := 90) rfl rfl ?_
  refine go1 ?_
  refine g_mem rfl rfl (by intro R hR; refine sms hR ?_; refine And.intro (head_b r0) ?_; refine And.intro (app_ok1 (by kernel_rfl) (by omega)) ?_; exact hR) rfl ?_
  refine go1 ?_
  refine g_mem rfl rfl (by intro R hR; refine sms hR ?_; (refine And.intro (Nat.le_refl _) ?_; refine ⟨_, rfl, ?_⟩; refine And.intro ⟨(by simp [u8s]), app_ok (by kernel_rfl) pf⟩ ?_; refine ⟨u8s (r0 ++ [128]), sv (by simp [u8s, setL, repM, cutL]), r0.length + 1, sv pf, ?_⟩); exact hR) rfl ?_
  refine go1 ?_
  have hTl : r0.length + 1 + pn + 8 = (P.drop (64 * q)).length := by rw [hpd]; simp [be64]; omega
  refine c_loop Nat (fun k => [(4, .ms 3 1 0 (r0.length + 1 + k)), (3, .ptr 2 32 0 0 []), (2, .ptr 1 32 0 0 []), (0, digP)]) (fun k => [(0, ⟨230, 10, false, 0, [.st [(absorb initW P q).toM, .sl r0.length (u8s r0), .int .i64 m.length]]⟩), (1, ⟨29, 32, false, 0, [keyM (List.replicate 32 0)]⟩), (2, ⟨29, 32, false, 0, [keyM (List.replicate 32 0)]⟩), (3, ⟨5, 1, true, 0, u8s (r0 ++ [128] ++ List.replicate k 0)⟩)]) 4 (fun k => k ≤ pn) (fun k => pn - k) 0 (Nat.zero_le _) (vm [(1, _), (2, _), (3, _)] []) ?_
  intro k hk
  try dsimp only
  (have fct := EqF.mk (rem64 (r0.length + 1 + k)); refine go1 ?_)
  refine c_cond rfl (fun h => ?_) (fun h => ?_)
  · have hk' : k < pn := by
      have h1 : (((r0.length + 1 + k) % 64 : Nat) : Int) ≠ 56 := by simpa using h
      rcases Nat.lt_or_ge k pn with h2 | h2
      · exact h2
      · have : k = pn := by omega
        subst this
        rw [hpn] at h1
        exact absurd rfl h1
    refine go1 ?_
    refine g_mem rfl rfl (by intro R hR; refine sms hR ?_; (refine And.intro (Nat.le_refl _) ?_; refine ⟨_, rfl, ?_⟩; refine And.intro ⟨pf, app_ok (by kernel_rfl) pf⟩ ?_; refine ⟨u8s (r0 ++ [128] ++ List.replicate (k + 1) 0), sv pf, r0.length + 1 + (k + 1), sv pf, ?_⟩); exact hR) rfl ?_
    refine go1 ?_
    exact ⟨k + 1, by show k + 1 ≤ pn; omega, by show pn - (k + 1) < pn - k; omega, (by dsimp only; exact (vm [(1, _), (2, _), (3, _)] []))⟩
  · have hk' : k = pn := by
      have h1 : (((r0.length + 1 + k) % 64 : Nat) : Int) = 56 := by simpa using h
      rcases Nat.lt_or_ge k pn with h2 | h2
      · have := hpf k h2; omega
      · omega
    subst hk'
    refine go1 ?_
    refine c_loop Nat (fun j => [(6, .int .i64 (56 - 8 * (j : Int))), (5, .int .u64 ((8 * m.length : Nat) : Int)), (4, .ms 3 1 0 (r0.length + 1 + k + j)), (3, .ptr 2 32 0 0 []), (2, .ptr 1 32 0 0 []), (0, digP)]) (fun j => [(0, ⟨230, 10, false, 0, [.st [(absorb initW P q).toM, .sl r0.length (u8s r0), .int .i64 m.length]]⟩), (1, ⟨29, 32, false, 0, [keyM (List.replicate 32 0)]⟩), (2, ⟨29, 32, false, 0, [keyM (List.replicate 32 0)]⟩), (3, ⟨5, 1, true, 0, u8s (r0 ++ [128] ++ List.replicate k 0 ++ (List.range j).map (byteAt (8 * m.length)))⟩)]) 4 (fun j => j ≤ 8) (fun j => 8 - j) 0 (Nat.zero_le _) (by rw [List.range_zero, List.map_nil, List.append_nil]; exact (vm [(1, _), (2, _), (3, _)] [])) ?_
    intro j hj
    try dsimp only
    refine go1 ?_
    refine c_cond rfl (fun h => ?_) (fun h => ?_)
    · have hj' : j < 8 := by have := of_decide_eq_true h; omega
      (have fct := EqF.mk (shrN (8 * m.length) j hj'); refine go1 ?_)
      refine g_mem rfl rfl (by intro R hR; refine sms hR ?_; (refine And.intro (Nat.le_refl _) ?_; refine ⟨_, rfl, ?_⟩; refine And.intro ⟨pf, app_ok (by kernel_rfl) pf⟩ ?_; refine ⟨u8s (r0 ++ [128] ++ List.replicate k 0 ++ (List.range (j + 1)).map (byteAt (8 * m.length))), sv pf, r0.length + 1 + k + (j + 1), sv pf, ?_⟩); exact hR) rfl ?_
      refine go1 ?_
      exact ⟨j + 1, by show j + 1 ≤ 8; omega, by show 8 - (j + 1) < 8 - j; omega, (by dsimp only; exact (vm [(1, _), (2, _), (3, _)] []))⟩
    · have hj' : j = 8 := by have := of_decide_eq_false h; omega
      subst hj'
      have hbe : (List.range 8).map (byteAt (8 * m.length)) = be64 (8 * m.length) := rfl
      rw [hbe, ← hpd, hTl]
      refine go1 ?_
      refine c_loop Nat (fun k => [(7, .ptr 3 8 0 0 []), (4, .sl (P.drop (64 * (q + k))).length (u8s (P.drop (64 * (q + k))))), (3, .ptr 2 32 0 0 []), (2, .ptr 1 32 0 0 []), (0, digP)]) (fun k => [(0, ⟨230, 10, false, 0, [.st [(absorb initW P q).toM, .sl r0.length (u8s r0), .int .i64 m.length]]⟩), (1, ⟨29, 32, false, 0, [keyM (List.replicate 32 0)]⟩), (2, ⟨29, 32, false, 0, [keyM (List.replicate 32 0)]⟩), (3, ⟨227, 8, false, 0, [(absorb initW P (q + k)).toM]⟩)]) 4 (fun k => 64 * (q + k) ≤ P.length) (fun k => P.length - k) 0 (by omega) (by rw [Nat.add_zero]; exact (vm [(1, _), (2, _), (3, _)] [(3, (P.drop (64 * q)).length)])) ?_
      intro k hk
      try dsimp only
      have hwl : (P.drop (64 * (q + k))).length = P.length - 64 * (q + k) := List.length_drop
      have hnext : (P.drop (64 * (q + k))).drop 64 = P.drop (64 * (q + (k + 1))) := by rw [List.drop_drop, show 64 * (q + k) + 64 = 64 * (q + (k + 1)) by omega]
      have habs : absorb initW P (q + (k + 1)) = blockS (absorb initW P (q + k)) ((P.drop (64 * (q + k))).take 64) := rfl
      by_cases hlast : 64 * (q + k) < P.length
      · generalize absorb initW P (q + k) = S at *
        generalize hw : P.drop (64 * (q + k)) = w at *
        have hb1 : bounds w.length none (some (.int .i64 64)) = some (0, 64) := bndHi (k := 64) (by omega)
        have hb2 : bounds w.length (some (.int .i64 64)) none = some (64, w.length) := bndLo (k := 64) (by omega)
        have hc1 : cutL (u8s w) 0 64 = u8s (w.take 64) := by rw [cut_u8, List.drop_zero]
        have hc2 : cutL (u8s w) 64 w.length = u8s (w.drop 64) := by rw [cut_u8, List.take_of_length_le (by rw [List.length_drop]; omega)]
        have hc3 : w.length - 64 = (w.drop 64).length := List.length_drop.symm
        have c1 := wblock_m (G := G) S (w.take 64) (by rw [List.length_take]; omega)
        refine go1 ?_
        refine c_cond rfl (fun h => ?_) (fun h => ?_)
        rotate_left
        · exfalso
          have := of_decide_eq_false h
          omega
        refine go1 ?_
        refine c_draw [(0, false), (1, false), (2, false), (3, true), (4, false)] ?_
        (have fct := SomF.mk (hb1); have fct := SomF.mk (hb2); have fct := EqF.mk (hc1); have fct := EqF.mk (hc2); have fct := EqF.mk (hc3); have fct := SideF.mk (head_b w); refine go1 ?_)
        refine ydv (c1) ?_
        (have fct := SomF.mk (hb1); have fct := SomF.mk (hb2); have fct := EqF.mk (hc1); have fct := EqF.mk (hc2); have fct := EqF.mk (hc3); have fct := SideF.mk (head_b w); refine go1 ?_)
        exact ⟨k + 1, by show 64 * (q + (k + 1)) ≤ P.length; omega, by show P.length - (k + 1) < P.length - k; omega, (by dsimp only; rw [← hnext, habs]; exact (vm [(1, _), (2, _), (3, _)] []))⟩
      · have e1 : P.length / 64 = q + k := by omega
        rw [e1]
        generalize absorb initW P (q + k) = S at *
        generalize hw : P.drop (64 * (q + k)) = w at *
        refine go1 ?_
        refine c_cond rfl (fun h => ?_) (fun h => ?_)
        · exfalso
          have := of_decide_eq_true h
          omega
        refine go1 ?_
        refine c_loop Nat (fun i => [(58, .int .i64 i), (57, S.toM), (3, .ptr 2 32 0 0 []), (2, .ptr 1 32 0 0 []), (0, digP)]) (fun i => [(0, ⟨230, 10, false, 0, [.st [(absorb initW P q).toM, .sl r0.length (u8s r0), .int .i64 m.length]]⟩), (1, ⟨29, 32, false, 0, [keyM (List.replicate 32 0)]⟩), (2, ⟨29, 32, false, 0, [keyM (outK S (4 * i))]⟩)]) 3 (fun i => i ≤ 8) (fun i => 8 - i) 0 (Nat.zero_le _) (vm [(1, _), (2, _)] []) ?_
        intro i hi
        try dsimp only
        refine go1 ?_
        refine c_cond rfl (fun h => ?_) (fun h => ?_)
        · have hi' : i < 8 := by have := of_decide_eq_true h; omega
          have hix : idxL [u32M S.a, u32M S.b, u32M S.c, u32M S.d, u32M S.e, u32M S.f, u32M S.g, u32M S.h] 8 (i : Int) = some (u32M (S.nth i)) := nth8 S hi'
          have hol := outK_len S (4 * i)
          have hout := out4 S i
          generalize S.nth i = x at *
          generalize outK S (4 * i) = ok at *
          have s24 : (x.toNat : Int).fdiv (2 ^ (min (24 : Int).toNat IntKind.u32.bits)) = ((x >>> UInt32.ofNat 24).toNat : Int) := shr32 x 24 (by omega)
          have s16 : (x.toNat : Int).fdiv (2 ^ (min (16 : Int).toNat IntKind.u32.bits)) = ((x >>> UInt32.ofNat 16).toNat : Int) := shr32 x 16 (by omega)
          have s8 : (x.toNat : Int).fdiv (2 ^ (min (8 : Int).toNat IntKind.u32.bits)) = ((x >>> UInt32.ofNat 8).toNat : Int) := shr32 x 8 (by omega)
          have v24 := conv328 (x >>> UInt32.ofNat 24)
          have v16 := conv328 (x >>> UInt32.ofNat 16)
          have v8 := conv328 (x >>> UInt32.ofNat 8)
          have v0 := conv328 x
          generalize (x >>> UInt32.ofNat 24) = y24 at *
          generalize (x >>> UInt32.ofNat 16) = y16 at *
          generalize (x >>> UInt32.ofNat 8) = y8 at *
          have j0 : idx 32 (4 * (i : Int)) = some (4 * i) := idx_of (4 * i) (by omega) (by omega)
          have j1 : idx 32 (4 * (i : Int) + 1) = some (4 * i + 1) := idx_of (4 * i + 1) (by omega) (by omega)
          have j2 : idx 32 (4 * (i : Int) + 2) = some (4 * i + 2) := idx_of (4 * i + 2) (by omega) (by omega)
          have j3 : idx 32 (4 * (i : Int) + 3) = some (4 * i + 3) := idx_of (4 * i + 3) (by omega) (by omega)
          have k0 := key_set (k := ok) (i := 4 * i) (by omega) y24.toUInt8
          have k1 := key_set (k := ok.set (4 * i) y24.toUInt8) (i := 4 * i + 1) (by rw [List.length_set]; omega) y16.toUInt8
          have k2 := key_set (k := (ok.set (4 * i) y24.toUInt8).set (4 * i + 1) y16.toUInt8) (i := 4 * i + 2) (by rw [List.length_set, List.length_set]; omega) y8.toUInt8
          have k3 := key_set (k := ((ok.set (4 * i) y24.toUInt8).set (4 * i + 1) y16.toUInt8).set (4 * i + 2) y8.toUInt8) (i := 4 * i + 3) (by rw [List.length_set, List.length_set, List.length_set]; omega) x.toUInt8
          (have fct := SomF.mk (hix); have fct := EqF.mk (s24); have fct := EqF.mk (s16); have fct := EqF.mk (s8); have fct := EqF.mk (v24); have fct := EqF.mk (v16); have fct := EqF.mk (v8); have fct := EqF.mk (v0); have fct := SomF.mk (j0); have fct := SomF.mk (j1); have fct := SomF.mk (j2); have fct := SomF.mk (j3); have fct := SomF.mk (k0); have fct := SomF.mk (k1); have fct := SomF.mk (k2); have fct := SomF.mk (k3); refine go1 ?_)
          exact ⟨i + 1, by show i + 1 ≤ 8; omega, by show 8 - (i + 1) < 8 - i; omega, (by dsimp only; rw [hout]; exact (vm [(1, _), (2, _)] []))⟩
        · have hi' : i = 8 := by have := of_decide_eq_false h; omega
          subst hi'
          refine go1 ?_
          refine go0 ?_
          exact en [_]
end Go.Proofs.YtmeeeigfjlbnkaaGreat
namespace Go.Proofs.YtmeeeigfjlbnkaaGreat
open Go.RowKit
variable {G : GS}
attribute [local irreducible] vOpsN vOpsG vOpsD vOpGD NextD vC SeqQ BlockQ
theorem write_g (m b M : List UInt8) (hM : m ++ b = M) (hm : m.length + b.length < 1000000000) : SemR Tryz.prog G 94 [digP, .sl b.length (u8s b)] (digB m) 1 (.tup []) (digB M) 1 := by
  subst hM; exact write_r m b hm
set_option maxHeartbeats 1000000 in
set_option maxRecDepth 20000 in
theorem psha_m (b : List UInt8) (hb : b.length < 500000000) : SemC Tryz.prog G 74 [.sl b.length (u8s b)] (keyM (shaS b)) := by
  have c1 := new_r (G := G)
  have c2 := write_g (G := G) [] b b rfl (by simp; omega)
  have c3 := sum_r (G := G) b (by omega)
  unfold digB at c1 c2 c3
  refine semC_of_vc seat Tryz.func74 rfl rfl (Nat.le_of_ble_eq_true rfl) (Nat.le_of_ble_eq_true rfl) (N := 10) rfl ?_
  refine go1 ?_
  refine yc (c1) [] ?_
  refine go1 ?_
  refine yc (c2) [(0, 1)] ?_
  refine go1 ?_
  refine yc (c3) [(0, 1)] ?_
  refine go1 ?_
  refine go0 ?_
  rfl
set_option maxHeartbeats 1000000 in
set_option maxRecDepth 20000 in
theorem pleaf_m (b : List UInt8) (hb : b.length < 500000000) : SemC Tryz.prog G 108 [.sl b.length (u8s b)] (keyM (shaS (0 :: b))) := by
  have c1 := new_r (G := G)
  have c2 := write_g (G := G) [] [0] [0] rfl (by simp)
  have c3 := write_g (G := G) [0] b (0 :: b) rfl (by simp only [List.length_cons, List.length_nil]; omega)
  have c4 := sum_r (G := G) (0 :: b) (by simp only [List.length_cons]; omega)
  unfold digB at c1 c2 c3 c4
  refine semC_of_vc seat Tryz.func108 rfl rfl (Nat.le_of_ble_eq_true rfl) (Nat.le_of_ble_eq_true rfl) (N := 13) rfl ?_
  refine go1 ?_
  refine yc (c1) [] ?_
  refine go1 ?_
  refine g_callR1 rfl (fun _ h => h) rfl (c2) [(0, 1)] [(4, 1)] ⟨rfl, mm, rfl, lm, mm⟩ rfl rfl ?_
  refine go1 ?_
  refine yc (c3) [(0, 1)] ?_
  refine go1 ?_
  refine yc (c4) [(0, 1)] ?_
  refine go1 ?_
  refine go0 ?_
  rfl
set_option maxHeartbeats 1000000 in
set_option maxRecDepth 20000 in
theorem pinner_m (a b : List UInt8) (ha : a.length = 32) (hb : b.length = 32) : SemC Tryz.prog G 110 [keyM a, keyM b] (keyM (shaS (1 :: (a ++ b)))) := by
  have c1 := new_r (G := G)
  have c2 := write_g (G := G) [] [1] [1] rfl (by simp)
  have c3 := write_g (G := G) [1] a (1 :: a) rfl (by simp only [List.length_cons, List.length_nil]; omega)
  have c4 := write_g (G := G) (1 :: a) b (1 :: (a ++ b)) rfl (by simp only [List.length_cons]; omega)
  have c5 := sum_r (G := G) (1 :: (a ++ b)) (by simp only [List.length_cons, List.length_append]; omega)
  rw [ha, ← cut_key ha] at c3
  rw [hb, ← cut_key hb] at c4
  unfold digB at c1 c2 c3 c4 c5
  refine semC_of_vc seat Tryz.func110 rfl rfl (Nat.le_of_ble_eq_true rfl) (Nat.le_of_ble_eq_true rfl) (N := 18) rfl ?_
  refine go1 ?_
  refine yc (c1) [] ?_
  refine go1 ?_
  refine g_callR1 rfl (fun _ h => h) rfl (c2) [(0, 3)] [(6, 1)] ⟨rfl, mm, rfl, lm, mm⟩ rfl rfl ?_
  refine go1 ?_
  refine yc (c3) [(0, 3)] ?_
  refine go1 ?_
  refine yc (c4) [(0, 3)] ?_
  refine go1 ?_
  refine yc (c5) [(0, 3)] ?_
  refine go1 ?_
  refine go0 ?_
  rfl
set_option maxHeartbeats 4000000 in
set_option maxRecDepth 20000 in
theorem proot_m : ∀ (f : Nat) (l : List (List UInt8)), l.length ≤ f → l.length < 60000 → (∀ b ∈ l, b.length < 300000000) → SemC Tryz.prog G 92 [.sl l.length (l.map rawM)] (keyM (rootS l)) := by
  intro f
  induction f with
  | zero =>
    intro l hl _ _
    obtain rfl := List.length_eq_zero_iff.1 (by omega : l.length = 0)
    have c1 := psha_m (G := G) [] (by simp)
    refine semC_of_vc seat Tryz.func92 rfl rfl (Nat.le_of_ble_eq_true rfl) (Nat.le_of_ble_eq_true rfl) (N := 27) rfl ?_
    refine go1 ?_
    refine yv (c1) ?_
    refine go1 ?_
    refine go0 ?_
    rfl
  | succ f ih =>
    intro l hl hn hb
    match hh : l with
    | [] =>
      have c1 := psha_m (G := G) [] (by simp)
      refine semC_of_vc seat Tryz.func92 rfl rfl (Nat.le_of_ble_eq_true rfl) (Nat.le_of_ble_eq_true rfl) (N := 27) rfl ?_
      refine go1 ?_
      refine yv (c1) ?_
      refine go1 ?_
      refine go0 ?_
      rfl
    | [b] =>
      have c1 := pleaf_m (G := G) b (by have := hb b (by simp); omega)
      refine semC_of_vc seat Tryz.func92 rfl rfl (Nat.le_of_ble_eq_true rfl) (Nat.le_of_ble_eq_true rfl) (N := 27) rfl ?_
      refine go1 ?_
      refine yv (c1) ?_
      refine go1 ?_
      refine go0 ?_
      rfl
    | a :: b :: r =>
      rw [← hh] at hl hn hb ⊢
      have h2 : 2 ≤ l.length := by rw [hh]; simp only [List.length_cons]; omega
      clear hh
      obtain ⟨k1, k2⟩ := hlf_lt h2
      have ch := phalf_m (G := G) l.length (by omega) (by omega)
      have c1 := ih (l.take (hlf l.length)) (by rw [List.length_take]; omega) (by rw [List.length_take]; omega) fun x hx => hb x (List.mem_of_mem_take hx)
      have c2 := ih (l.drop (hlf l.length)) (by rw [List.length_drop]; omega) (by rw [List.length_drop]; omega) fun x hx => hb x (List.mem_of_mem_drop hx)
      have c3 := pinner_m (G := G) (rootS (l.take (hlf l.length))) (rootS (l.drop (hlf l.length))) (rootS_len _) (rootS_len _)
      rw [rootS_two h2]
      rw [List.length_take, Nat.min_eq_left (by omega), ← cut_take] at c1
      rw [List.length_drop, ← cut_drop] at c2
      generalize hlf l.length = k at *
      refine semC_of_vc seat Tryz.func92 rfl rfl (Nat.le_of_ble_eq_true rfl) (Nat.le_of_ble_eq_true rfl) (N := 27) rfl ?_
      refine go1 ?_
      refine c_cond rfl (fun h => ?_) (fun h => ?_)
      · exfalso
        have : (l.length : Int) = 0 := by simpa using h
        omega
      refine go1 ?_
      refine c_cond rfl (fun h => ?_) (fun h => ?_)
      · exfalso
        have : (l.length : Int) = 1 := by simpa using h
        omega
      refine go1 ?_
      refine yv (ch) ?_
      refine go1 ?_
      refine c_draw [(0, false), (1, false), (2, false), (3, true), (4, false), (5, false), (6, false), (7, true), (8, true), (9, false)] ?_
      (have fct := SomF.mk (bndHi (κ := .i64) (Nat.le_of_lt k2)); have fct := SomF.mk (bndLo (κ := .i64) (Nat.le_of_lt k2)); have fct := SideF.mk (head_raw l); refine go1 ?_)
      refine ydv (c1) ?_
      refine go1 ?_
      refine ydv (c2) ?_
      refine go1 ?_
      refine ydv (c3) ?_
      refine go1 ?_
      refine go0 ?_
      rfl
end Go.Proofs.YtmeeeigfjlbnkaaGreat
namespace Go.Proofs.YtmeeeigfjlbnkaaGreat
def b8 (l : List Nat) : List UInt8 := l.map UInt8.ofNat
def sameU : List UInt8 → List UInt8 → Bool
  | [], [] => true
  | a :: l, b :: r => Nat.beq a.toNat b.toNat && sameU l r
  | _, _ => false
theorem sameU_ok : ∀ {l r : List UInt8}, sameU l r = true → l = r
  | [], [], _ => rfl
  | a :: l, b :: r, h => by
    unfold sameU at h
    rw [Bool.and_eq_true] at h
    rw [UInt8.toNat_inj.1 (Nat.eq_of_beq_eq_true h.1), sameU_ok h.2]
  | [], _ :: _, h => by cases h
  | _ :: _, [], h => by cases h
set_option maxRecDepth 1000000 in
theorem kn0 : sameU (shaS (b8 [0, 10, 3, 97, 110, 110, 16, 232, 7, 24, 0])) (b8 [128, 62, 210, 240, 48, 188, 159, 120, 241, 88, 163, 26, 9, 219, 180, 141, 52, 0, 197, 157, 24, 239, 81, 160, 149, 172, 255, 14, 20, 170, 217, 246]) = true := by kernel_rfl
set_option maxRecDepth 1000000 in
theorem kn1 : sameU (shaS (b8 [0, 32, 0])) (b8 [234, 244, 82, 67, 118, 84, 229, 194, 171, 66, 168, 41, 170, 45, 215, 142, 157, 79, 222, 7, 127, 0, 24, 163, 224, 145, 242, 126, 29, 150, 204, 6]) = true := by kernel_rfl
set_option maxRecDepth 1000000 in
theorem kn2 : sameU (shaS (b8 [1, 128, 62, 210, 240, 48, 188, 159, 120, 241, 88, 163, 26, 9, 219, 180, 141, 52, 0, 197, 157, 24, 239, 81, 160, 149, 172, 255, 14, 20, 170, 217, 246, 234, 244, 82, 67, 118, 84, 229, 194, 171, 66, 168, 41, 170, 45, 215, 142, 157, 79, 222, 7, 127, 0, 24, 163, 224, 145, 242, 126, 29, 150, 204, 6])) (b8 [209, 127, 123, 149, 121, 202, 248, 79, 80, 141, 224, 43, 118, 144, 59, 186, 221, 183, 63, 112, 102, 244, 72, 43, 176, 68, 132, 188, 149, 126, 111, 134]) = true := by kernel_rfl
set_option maxRecDepth 1000000 in
theorem kn3 : sameU (shaS (b8 [209, 127, 123, 149, 121, 202, 248, 79, 80, 141, 224, 43, 118, 144, 59, 186, 221, 183, 63, 112, 102, 244, 72, 43, 176, 68, 132, 188, 149, 126, 111, 134])) (b8 [148, 14, 171, 186, 98, 104, 89, 121, 60, 229, 37, 41, 190, 95, 20, 126, 63, 66, 30, 247, 231, 159, 159, 58, 213, 67, 47, 27, 15, 54, 25, 117]) = true := by kernel_rfl
set_option maxRecDepth 1000000 in
theorem kn4 : sameU (shaS (b8 [])) (b8 [227, 176, 196, 66, 152, 252, 28, 20, 154, 251, 244, 200, 153, 111, 185, 36, 39, 174, 65, 228, 100, 155, 147, 76, 164, 149, 153, 27, 120, 82, 184, 85]) = true := by kernel_rfl
set_option maxRecDepth 1000000 in
theorem kn5 : sameU (shaS (b8 [10, 3, 97, 110, 110, 24, 172, 2, 32, 3, 50, 7, 10, 3, 98, 111, 98, 16, 5])) (b8 [239, 225, 42, 207, 95, 68, 72, 85, 197, 255, 123, 8, 10, 148, 164, 198, 33, 249, 109, 148, 219, 54, 48, 129, 85, 225, 24, 238, 72, 170, 121, 111]) = true := by kernel_rfl
set_option maxRecDepth 1000000 in
theorem kn6 : sameU (shaS (b8 [0, 10, 3, 97, 110, 110, 24, 172, 2, 32, 3, 50, 7, 10, 3, 98, 111, 98, 16, 5])) (b8 [66, 215, 18, 204, 121, 196, 246, 244, 85, 16, 81, 12, 181, 198, 112, 119, 52, 243, 121, 1, 41, 108, 80, 250, 79, 240, 67, 193, 178, 16, 81, 150]) = true := by kernel_rfl
set_option maxRecDepth 1000000 in
theorem kn7 : sameU (shaS (b8 [8, 1, 16, 1, 24, 0, 34, 32, 148, 14, 171, 186, 98, 104, 89, 121, 60, 229, 37, 41, 190, 95, 20, 126, 63, 66, 30, 247, 231, 159, 159, 58, 213, 67, 47, 27, 15, 54, 25, 117, 42, 32, 66, 215, 18, 204, 121, 196, 246, 244, 85, 16, 81, 12, 181, 198, 112, 119, 52, 243, 121, 1, 41, 108, 80, 250, 79, 240, 67, 193, 178, 16, 81, 150, 50, 32, 209, 127, 123, 149, 121, 202, 248, 79, 80, 141, 224, 43, 118, 144, 59, 186, 221, 183, 63, 112, 102, 244, 72, 43, 176, 68, 132, 188, 149, 126, 111, 134, 58, 32, 227, 176, 196, 66, 152, 252, 28, 20, 154, 251, 244, 200, 153, 111, 185, 36, 39, 174, 65, 228, 100, 155, 147, 76, 164, 149, 153, 27, 120, 82, 184, 85])) (b8 [255, 227, 238, 226, 136, 142, 42, 190, 180, 205, 41, 85, 20, 104, 146, 167, 215, 202, 140, 217, 221, 96, 178, 235, 24, 14, 66, 198, 49, 181, 23, 156]) = true := by kernel_rfl
set_option maxRecDepth 1000000 in
theorem kn8 : sameU (shaS (b8 [10, 142, 1, 8, 1, 16, 1, 24, 0, 34, 32, 148, 14, 171, 186, 98, 104, 89, 121, 60, 229, 37, 41, 190, 95, 20, 126, 63, 66, 30, 247, 231, 159, 159, 58, 213, 67, 47, 27, 15, 54, 25, 117, 42, 32, 66, 215, 18, 204, 121, 196, 246, 244, 85, 16, 81, 12, 181, 198, 112, 119, 52, 243, 121, 1, 41, 108, 80, 250, 79, 240, 67, 193, 178, 16, 81, 150, 50, 32, 209, 127, 123, 149, 121, 202, 248, 79, 80, 141, 224, 43, 118, 144, 59, 186, 221, 183, 63, 112, 102, 244, 72, 43, 176, 68, 132, 188, 149, 126, 111, 134, 58, 32, 227, 176, 196, 66, 152, 252, 28, 20, 154, 251, 244, 200, 153, 111, 185, 36, 39, 174, 65, 228, 100, 155, 147, 76, 164, 149, 153, 27, 120, 82, 184, 85, 18, 19, 10, 3, 97, 110, 110, 24, 172, 2, 32, 3, 50, 7, 10, 3, 98, 111, 98, 16, 5])) (b8 [94, 71, 132, 202, 141, 228, 167, 158, 50, 63, 99, 73, 60, 130, 68, 132, 74, 241, 118, 217, 255, 127, 91, 218, 214, 196, 184, 204, 1, 204, 159, 19]) = true := by kernel_rfl
set_option maxRecDepth 1000000 in
theorem kn9 : sameU (shaS (b8 [0, 10, 3, 97, 110, 110, 16, 224, 7, 24, 1])) (b8 [51, 139, 116, 250, 14, 226, 105, 83, 77, 169, 255, 124, 84, 186, 4, 246, 50, 131, 192, 65, 52, 151, 95, 117, 57, 238, 80, 69, 117, 22, 120, 61]) = true := by kernel_rfl
set_option maxRecDepth 1000000 in
theorem kn10 : sameU (shaS (b8 [0, 10, 3, 98, 111, 98, 16, 5, 24, 0])) (b8 [35, 241, 28, 244, 242, 204, 254, 205, 62, 125, 219, 135, 15, 69, 39, 132, 34, 177, 61, 53, 97, 38, 167, 105, 242, 176, 6, 57, 10, 243, 7, 164]) = true := by kernel_rfl
set_option maxRecDepth 1000000 in
theorem kn11 : sameU (shaS (b8 [1, 51, 139, 116, 250, 14, 226, 105, 83, 77, 169, 255, 124, 84, 186, 4, 246, 50, 131, 192, 65, 52, 151, 95, 117, 57, 238, 80, 69, 117, 22, 120, 61, 35, 241, 28, 244, 242, 204, 254, 205, 62, 125, 219, 135, 15, 69, 39, 132, 34, 177, 61, 53, 97, 38, 167, 105, 242, 176, 6, 57, 10, 243, 7, 164])) (b8 [46, 180, 30, 219, 15, 118, 41, 96, 215, 49, 225, 164, 190, 22, 69, 136, 55, 171, 237, 15, 35, 253, 245, 14, 212, 1, 183, 160, 105, 188, 88, 5]) = true := by kernel_rfl
set_option maxRecDepth 1000000 in
theorem kn12 : sameU (shaS (b8 [0, 32, 3])) (b8 [73, 143, 12, 132, 75, 98, 213, 167, 152, 240, 205, 70, 49, 244, 9, 202, 2, 149, 16, 160, 112, 115, 22, 174, 218, 155, 124, 135, 75, 255, 244, 149]) = true := by kernel_rfl
set_option maxRecDepth 1000000 in
theorem kn13 : sameU (shaS (b8 [1, 46, 180, 30, 219, 15, 118, 41, 96, 215, 49, 225, 164, 190, 22, 69, 136, 55, 171, 237, 15, 35, 253, 245, 14, 212, 1, 183, 160, 105, 188, 88, 5, 73, 143, 12, 132, 75, 98, 213, 167, 152, 240, 205, 70, 49, 244, 9, 202, 2, 149, 16, 160, 112, 115, 22, 174, 218, 155, 124, 135, 75, 255, 244, 149])) (b8 [132, 221, 234, 16, 86, 199, 47, 137, 84, 27, 147, 72, 22, 164, 96, 81, 6, 146, 128, 174, 82, 197, 65, 135, 46, 198, 134, 162, 98, 39, 221, 0]) = true := by kernel_rfl
set_option maxRecDepth 1000000 in
theorem kn14 : sameU (shaS (b8 [0, 8, 0, 16, 172, 2])) (b8 [29, 146, 20, 145, 175, 239, 235, 167, 73, 226, 183, 130, 152, 67, 126, 101, 68, 48, 90, 214, 180, 209, 18, 185, 245, 201, 129, 125, 193, 165, 206, 248]) = true := by kernel_rfl
theorem kp0 : shaS (b8 [0, 10, 3, 97, 110, 110, 16, 232, 7, 24, 0]) = b8 [128, 62, 210, 240, 48, 188, 159, 120, 241, 88, 163, 26, 9, 219, 180, 141, 52, 0, 197, 157, 24, 239, 81, 160, 149, 172, 255, 14, 20, 170, 217, 246] := sameU_ok kn0
theorem kp1 : shaS (b8 [0, 32, 0]) = b8 [234, 244, 82, 67, 118, 84, 229, 194, 171, 66, 168, 41, 170, 45, 215, 142, 157, 79, 222, 7, 127, 0, 24, 163, 224, 145, 242, 126, 29, 150, 204, 6] := sameU_ok kn1
theorem kp2 : shaS (b8 [1, 128, 62, 210, 240, 48, 188, 159, 120, 241, 88, 163, 26, 9, 219, 180, 141, 52, 0, 197, 157, 24, 239, 81, 160, 149, 172, 255, 14, 20, 170, 217, 246, 234, 244, 82, 67, 118, 84, 229, 194, 171, 66, 168, 41, 170, 45, 215, 142, 157, 79, 222, 7, 127, 0, 24, 163, 224, 145, 242, 126, 29, 150, 204, 6]) = b8 [209, 127, 123, 149, 121, 202, 248, 79, 80, 141, 224, 43, 118, 144, 59, 186, 221, 183, 63, 112, 102, 244, 72, 43, 176, 68, 132, 188, 149, 126, 111, 134] := sameU_ok kn2
theorem kp3 : shaS (b8 [209, 127, 123, 149, 121, 202, 248, 79, 80, 141, 224, 43, 118, 144, 59, 186, 221, 183, 63, 112, 102, 244, 72, 43, 176, 68, 132, 188, 149, 126, 111, 134]) = b8 [148, 14, 171, 186, 98, 104, 89, 121, 60, 229, 37, 41, 190, 95, 20, 126, 63, 66, 30, 247, 231, 159, 159, 58, 213, 67, 47, 27, 15, 54, 25, 117] := sameU_ok kn3
theorem kp4 : shaS (b8 []) = b8 [227, 176, 196, 66, 152, 252, 28, 20, 154, 251, 244, 200, 153, 111, 185, 36, 39, 174, 65, 228, 100, 155, 147, 76, 164, 149, 153, 27, 120, 82, 184, 85] := sameU_ok kn4
theorem kp5 : shaS (b8 [10, 3, 97, 110, 110, 24, 172, 2, 32, 3, 50, 7, 10, 3, 98, 111, 98, 16, 5]) = b8 [239, 225, 42, 207, 95, 68, 72, 85, 197, 255, 123, 8, 10, 148, 164, 198, 33, 249, 109, 148, 219, 54, 48, 129, 85, 225, 24, 238, 72, 170, 121, 111] := sameU_ok kn5
theorem kp6 : shaS (b8 [0, 10, 3, 97, 110, 110, 24, 172, 2, 32, 3, 50, 7, 10, 3, 98, 111, 98, 16, 5]) = b8 [66, 215, 18, 204, 121, 196, 246, 244, 85, 16, 81, 12, 181, 198, 112, 119, 52, 243, 121, 1, 41, 108, 80, 250, 79, 240, 67, 193, 178, 16, 81, 150] := sameU_ok kn6
theorem kp7 : shaS (b8 [8, 1, 16, 1, 24, 0, 34, 32, 148, 14, 171, 186, 98, 104, 89, 121, 60, 229, 37, 41, 190, 95, 20, 126, 63, 66, 30, 247, 231, 159, 159, 58, 213, 67, 47, 27, 15, 54, 25, 117, 42, 32, 66, 215, 18, 204, 121, 196, 246, 244, 85, 16, 81, 12, 181, 198, 112, 119, 52, 243, 121, 1, 41, 108, 80, 250, 79, 240, 67, 193, 178, 16, 81, 150, 50, 32, 209, 127, 123, 149, 121, 202, 248, 79, 80, 141, 224, 43, 118, 144, 59, 186, 221, 183, 63, 112, 102, 244, 72, 43, 176, 68, 132, 188, 149, 126, 111, 134, 58, 32, 227, 176, 196, 66, 152, 252, 28, 20, 154, 251, 244, 200, 153, 111, 185, 36, 39, 174, 65, 228, 100, 155, 147, 76, 164, 149, 153, 27, 120, 82, 184, 85]) = b8 [255, 227, 238, 226, 136, 142, 42, 190, 180, 205, 41, 85, 20, 104, 146, 167, 215, 202, 140, 217, 221, 96, 178, 235, 24, 14, 66, 198, 49, 181, 23, 156] := sameU_ok kn7
theorem kp8 : shaS (b8 [10, 142, 1, 8, 1, 16, 1, 24, 0, 34, 32, 148, 14, 171, 186, 98, 104, 89, 121, 60, 229, 37, 41, 190, 95, 20, 126, 63, 66, 30, 247, 231, 159, 159, 58, 213, 67, 47, 27, 15, 54, 25, 117, 42, 32, 66, 215, 18, 204, 121, 196, 246, 244, 85, 16, 81, 12, 181, 198, 112, 119, 52, 243, 121, 1, 41, 108, 80, 250, 79, 240, 67, 193, 178, 16, 81, 150, 50, 32, 209, 127, 123, 149, 121, 202, 248, 79, 80, 141, 224, 43, 118, 144, 59, 186, 221, 183, 63, 112, 102, 244, 72, 43, 176, 68, 132, 188, 149, 126, 111, 134, 58, 32, 227, 176, 196, 66, 152, 252, 28, 20, 154, 251, 244, 200, 153, 111, 185, 36, 39, 174, 65, 228, 100, 155, 147, 76, 164, 149, 153, 27, 120, 82, 184, 85, 18, 19, 10, 3, 97, 110, 110, 24, 172, 2, 32, 3, 50, 7, 10, 3, 98, 111, 98, 16, 5]) = b8 [94, 71, 132, 202, 141, 228, 167, 158, 50, 63, 99, 73, 60, 130, 68, 132, 74, 241, 118, 217, 255, 127, 91, 218, 214, 196, 184, 204, 1, 204, 159, 19] := sameU_ok kn8
theorem kp9 : shaS (b8 [0, 10, 3, 97, 110, 110, 16, 224, 7, 24, 1]) = b8 [51, 139, 116, 250, 14, 226, 105, 83, 77, 169, 255, 124, 84, 186, 4, 246, 50, 131, 192, 65, 52, 151, 95, 117, 57, 238, 80, 69, 117, 22, 120, 61] := sameU_ok kn9
theorem kp10 : shaS (b8 [0, 10, 3, 98, 111, 98, 16, 5, 24, 0]) = b8 [35, 241, 28, 244, 242, 204, 254, 205, 62, 125, 219, 135, 15, 69, 39, 132, 34, 177, 61, 53, 97, 38, 167, 105, 242, 176, 6, 57, 10, 243, 7, 164] := sameU_ok kn10
theorem kp11 : shaS (b8 [1, 51, 139, 116, 250, 14, 226, 105, 83, 77, 169, 255, 124, 84, 186, 4, 246, 50, 131, 192, 65, 52, 151, 95, 117, 57, 238, 80, 69, 117, 22, 120, 61, 35, 241, 28, 244, 242, 204, 254, 205, 62, 125, 219, 135, 15, 69, 39, 132, 34, 177, 61, 53, 97, 38, 167, 105, 242, 176, 6, 57, 10, 243, 7, 164]) = b8 [46, 180, 30, 219, 15, 118, 41, 96, 215, 49, 225, 164, 190, 22, 69, 136, 55, 171, 237, 15, 35, 253, 245, 14, 212, 1, 183, 160, 105, 188, 88, 5] := sameU_ok kn11
theorem kp12 : shaS (b8 [0, 32, 3]) = b8 [73, 143, 12, 132, 75, 98, 213, 167, 152, 240, 205, 70, 49, 244, 9, 202, 2, 149, 16, 160, 112, 115, 22, 174, 218, 155, 124, 135, 75, 255, 244, 149] := sameU_ok kn12
theorem kp13 : shaS (b8 [1, 46, 180, 30, 219, 15, 118, 41, 96, 215, 49, 225, 164, 190, 22, 69, 136, 55, 171, 237, 15, 35, 253, 245, 14, 212, 1, 183, 160, 105, 188, 88, 5, 73, 143, 12, 132, 75, 98, 213, 167, 152, 240, 205, 70, 49, 244, 9, 202, 2, 149, 16, 160, 112, 115, 22, 174, 218, 155, 124, 135, 75, 255, 244, 149]) = b8 [132, 221, 234, 16, 86, 199, 47, 137, 84, 27, 147, 72, 22, 164, 96, 81, 6, 146, 128, 174, 82, 197, 65, 135, 46, 198, 134, 162, 98, 39, 221, 0] := sameU_ok kn13
theorem kp14 : shaS (b8 [0, 8, 0, 16, 172, 2]) = b8 [29, 146, 20, 145, 175, 239, 235, 167, 73, 226, 183, 130, 152, 67, 126, 101, 68, 48, 90, 214, 180, 209, 18, 185, 245, 201, 129, 125, 193, 165, 206, 248] := sameU_ok kn14
structure KnD where
  i : List UInt8
  d : List UInt8
  ok : shaS i = d
def knL : List KnD := [⟨_, _, kp0⟩, ⟨_, _, kp1⟩, ⟨_, _, kp2⟩, ⟨_, _, kp3⟩, ⟨_, _, kp4⟩, ⟨_, _, kp5⟩, ⟨_, _, kp6⟩, ⟨_, _, kp7⟩, ⟨_, _, kp8⟩, ⟨_, _, kp9⟩, ⟨_, _, kp10⟩, ⟨_, _, kp11⟩, ⟨_, _, kp12⟩, ⟨_, _, kp13⟩, ⟨_, _, kp14⟩]
def findK (b : List UInt8) : List KnD → Option (List UInt8)
  | [] => none
  | x :: l => bif sameU b x.i then some x.d else findK b l
def shaK (b : List UInt8) : List UInt8 := match findK b knL with
  | some d => d
  | none => shaS b
theorem findK_ok {b d : List UInt8} : ∀ {l : List KnD}, findK b l = some d → shaS b = d
  | [], h => by cases h
  | x :: l, h => by
    unfold findK at h
    cases hs : sameU b x.i with
    | true => exact (congrArg shaS (sameU_ok hs)).trans (x.ok.trans (Option.some.inj (show some x.d = some d by rw [hs] at h; exact h)))
    | false => exact findK_ok (show findK b l = some d by rw [hs] at h; exact h)
theorem shaK_eq (b : List UInt8) : shaK b = shaS b := by
  unfold shaK
  split
  · rename_i d hd; exact (findK_ok hd).symm
  · rfl
end Go.Proofs.YtmeeeigfjlbnkaaGreat
namespace Go.Proofs.YtmeeeigfjlbnkaaGreat
open Go.RowKit
inductive RD (q : MV → Bool) (m : FM) : MV → MV → Prop where
  | same {v} (h : q v = true) : RD q m v v
  | nils : RD q m (.sl 0 []) .nils
  | ms {c off n es l'} (b : MB) (hb : m c = some b) (he : b.es = es) (h0 : es ≠ 0) (hn : off + n ≤ b.l.length) (hl : l'.length = n) (h : ∀ (j : Nat) x y, l'[j]? = some x → b.l[off + j]? = some y → RD q m x y) : RD q m (.sl n l') (.ms c es off n)
  | ptr {c es k fo path x} (b : MB) (y : MV) (hb : m c = some b) (he : b.es = es) (h0 : es ≠ 0) (hx : b.l[k]? = some y) (h : RD q m x y) : RD q m (.ep x fo path) (.ptr c es k fo path)
  | st {l' l} (hl : l'.length = l.length) (h : ∀ (j : Nat) x y, l'[j]? = some x → l[j]? = some y → RD q m x y) : RD q m (.st l') (.st l)
  | fn {f l' l} (hl : l'.length = l.length) (h : ∀ (j : Nat) x y, l'[j]? = some x → l[j]? = some y → RD q m x y) : RD q m (.fn f l') (.fn f l)
inductive RDs (q : MV → Bool) (m : FM) : List MV → List MV → Prop where
  | nil : RDs q m [] []
  | cons {x y l r} (h : RD q m x y) (t : RDs q m l r) : RDs q m (x :: l) (y :: r)
inductive RDt (q : MV → Bool) (m : FM) : MV → MV → Prop where
  | one {x y} (h : RD q m x y) : RDt q m x y
  | tup {l r} (h : RDs q m l r) : RDt q m (.tup l) (.tup r)
mutual
def MV.flat : MV → Bool
  | .int .. => true
  | .bool .. => true
  | .str .. => true
  | .st l => MV.flats l
  | .arr _ _ l => MV.flats l
  | _ => false
def MV.flats : List MV → Bool
  | [] => true
  | m :: l => MV.flat m && MV.flats l
end
theorem flats_get : ∀ {l : List MV} {j : Nat} {r : MV}, MV.flats l = true → l[j]? = some r → r.flat = true
  | a :: l, 0, r, h, hj => by
    have h : (a.flat && MV.flats l) = true := h
    rw [Bool.and_eq_true] at h
    injection hj with hj; subst hj; exact h.1
  | a :: l, j + 1, r, h, hj => by
    have h : (a.flat && MV.flats l) = true := h
    rw [Bool.and_eq_true] at h
    exact flats_get h.2 (by simpa using hj)
theorem RDs.same {q : MV → Bool} {m : FM} : ∀ {l : List MV}, l.all q = true → RDs q m l l
  | [], _ => .nil
  | x :: l, h => by
    have h : (q x && l.all q) = true := h
    rw [Bool.and_eq_true] at h
    exact .cons (.same h.1) (RDs.same h.2)
theorem RDs.get {q : MV → Bool} {m : FM} : ∀ {l r : List MV}, RDs q m l r → l.length = r.length ∧ ∀ {j : Nat} {x : MV}, l[j]? = some x → ∃ y, r[j]? = some y ∧ RD q m x y
  | _, _, .nil => ⟨rfl, fun h => by simp at h⟩
  | _, _, .cons h t => by
    obtain ⟨h1, h2⟩ := t.get
    refine ⟨by simpa using h1, fun {j x} hj => ?_⟩
    cases j with
    | zero => injection hj with hj; subst hj; exact ⟨_, rfl, h⟩
    | succ j => exact h2 (by simpa using hj)
theorem RD.row {q : MV → Bool} {m : FM} {c n es : Nat} {l : List MV} (b : MB) (hb : m c = some b) (hl : b.l = l) (hn : l.length = n) (hf : ∀ x ∈ l, q x = true) (h0 : es ≠ 0 := by decide) (he : b.es = es := by rfl) : RD q m (.sl n l) (.ms c es 0 n) := by
  subst hl
  refine .ms b hb he h0 (by omega) hn fun j x y hx hy => ?_
  rw [Nat.zero_add, hx] at hy
  injection hy with hy
  subst hy
  exact .same (hf x (List.mem_of_getElem? hx))
section
variable {w w' : World} {P P' P2 : Prot} {adr adr' : Adr} {m : FM} {x v : MV} {cs : List Value} {q : MV → Bool}
theorem flat_rep {r : MV} (hr : Rep w P adr r cs) : r.flat = true → ∀ {adr' : Adr}, Rep w' P' adr' r cs := by
  induction hr with
  | int => intro _ _; exact .int
  | bool => intro _ _; exact .bool
  | str => intro _ _; exact .str
  | st parts hp hr ih => intro hf _; exact .st parts hp fun j m p h1 h2 => ih j m p h1 h2 (flats_get hf h1)
  | arr parts hl hp hes hr ih => intro hf _; exact .arr parts hl hp hes fun j m p h1 h2 => ih j m p h1 h2 (flats_get hf h1)
  | _ => intro hf; cases hf
theorem RD.agg (h : RD q m x v) : x.isAgg = v.isAgg := by cases h <;> rfl
def pAll (w : World) : Prot := fun b _ => b < w.heap.size
theorem nil_rep : Rep w P adr (.sl 0 []) [.slice none 0 0] := .sl none 0 0 [] rfl rfl (fun p hp => nomatch hp) (fun _ => ⟨rfl, rfl⟩) (Nat.le_refl _) (fun h => absurd rfl h) (fun j m p h => by simp at h)
theorem RD.rep (hI : InvM w P adr m) (hq : ∀ {v : MV} {a : Adr} {cs : List Value}, q v = true → Rep w P a v cs → Rep w P2 noAdr v cs) (hp2 : ∀ c g, adr c = some g → g < w.heap.size → ∀ o, P2 g o) (h : RD q m x v) : ∀ {a : Adr} {cs : List Value}, (∀ c g, a c = some g → adr c = some g) → Rep w P a v cs → Rep w P2 noAdr x cs := by
  have cellA : ∀ {c g : Nat} {cur : Array Value} {t : TypeId} {i : Nat} {u : Value}, adr c = some g → w.heap[g]? = some (.cells cur t (0, 0)) → cur.toList[i]? = some u → w.cell? ⟨g, i, none⟩ = some u ∧ P2 g i := fun {c g cur t i u} ha hg hu => by
    refine ⟨?_, hp2 c g ha (Array.getElem?_eq_some_iff.1 hg).1 _⟩
    rw [cell_of_row w g _ cur t (0, 0) hg]
    simpa using hu
  have sub : ∀ {b : MB} {c g : Nat}, (if b.row then noAdr else adr) c = some g → adr c = some g := fun {b c g} h => by
    split at h
    · cases h
    · exact h
  induction h with
  | same hf => intro a cs _ hr; exact hq hf hr
  | nils =>
    intro a cs _ hr
    cases hr
    exact nil_rep
  | @ms c off n es l' b hb he h0 hn hl h ih =>
    intro a cs ha hr
    cases hr with
    | ms0 =>
      have : l' = [] := List.length_eq_zero_iff.1 hl
      subst this
      exact nil_rep
    | ms g o cap hg ho hcap hcap2 hsz =>
      have hg := ha _ _ hg
      rcases hI.blk c b hb with ⟨_, _, h3, _⟩ | ⟨g', h1, h2⟩
      · rw [hg] at h3; cases h3
      rw [hg] at h1
      injection h1 with h1
      subst h1
      obtain ⟨cur, parts, c1, c2, c3, c4, c5⟩ := h2.ofE (by rw [he]; exact h0)
      have hpes : ∀ p ∈ parts, p.length = es := fun p hp => by rw [c3 p hp, he]
      have hall : ∀ p ∈ (parts.drop off).take n, p.length = es := fun p hp => hpes p (List.mem_of_mem_drop (List.mem_of_mem_take hp))
      have hlen2 : ((parts.drop off).take n).length = n := by rw [List.length_take, List.length_drop]; omega
      refine .sl (some ⟨g, o, none⟩) cap es ((parts.drop off).take n) hl hlen2 hall (fun h => nomatch h) hcap (fun hn0 => ⟨g, o, rfl, fun j u hj => ?_⟩) fun j y p hy hp => ?_
      · have ho := ho (.inl hn0)
        subst ho
        exact cellA hg c1 (prefix_get c5 (flatten_take hpes off n hj (by omega)))
      · have hjl := (List.getElem?_eq_some_iff.1 hy).1
        rw [List.getElem?_take_of_lt (by omega), List.getElem?_drop] at hp
        obtain ⟨z, hz⟩ : ∃ z, b.l[off + j]? = some z := ⟨b.l[off + j]'(by omega), List.getElem?_eq_getElem (by omega)⟩
        exact ih j y z hy hz (fun _ _ h => sub h) (c4 _ z p hz hp)
  | @ptr c es k fo path x b y hb he h0 hx h ih =>
    intro a cs ha hr
    cases hr with
    | ptr g hg =>
      have hg := ha _ _ hg
      rcases hI.blk c b hb with ⟨_, _, h3, _⟩ | ⟨g', h1, h2⟩
      · rw [hg] at h3; cases h3
      rw [hg] at h1
      injection h1 with h1
      subst h1
      obtain ⟨cur, parts, c1, c2, c3, c4, c5⟩ := h2.ofE (by rw [he]; exact h0)
      have hpes : ∀ p ∈ parts, p.length = es := fun p hp => by rw [c3 p hp, he]
      have hkl := (List.getElem?_eq_some_iff.1 hx).1
      have hk2 : k < parts.length := by omega
      refine .ep g (k * es) parts[k] (fun j u hj => cellA hg c1 (prefix_get c5 (flatten_take hpes k 1 (x := u) ?_ (by omega)))) (ih (fun _ _ h => sub h) (c4 k y parts[k] hx (List.getElem?_eq_getElem hk2)))
      rw [show (parts.drop k).take 1 = [parts[k]] by rw [List.drop_eq_getElem_cons hk2]; rfl]
      simpa using hj
  | @st l' l hl h ih =>
    intro a cs ha hr
    cases hr with
    | st parts hp hr =>
      refine .st parts (by omega) fun j x p hx hp2 => ?_
      have hj := (List.getElem?_eq_some_iff.1 hp2).1
      have hz : l[j]? = some (l[j]'(by omega)) := List.getElem?_eq_getElem (by omega)
      exact ih j x _ hx hz ha (hr j _ p hz hp2)
  | @fn f l' l hl h ih =>
    intro a cs ha hr
    cases hr with
    | fn parts hp hr =>
      have e : List.zipWith valM l parts = List.zipWith valM l' parts := by
        apply List.ext_getElem?
        intro j
        rw [List.getElem?_zipWith, List.getElem?_zipWith]
        by_cases hj : j < l.length
        · have h1 : l[j]? = some (l[j]'hj) := List.getElem?_eq_getElem hj
          have h2 : l'[j]? = some (l'[j]'(by omega)) := List.getElem?_eq_getElem (by omega)
          have h3 : parts[j]? = some (parts[j]'(by omega)) := List.getElem?_eq_getElem (by omega)
          rw [h1, h2, h3]
          show some (valM _ _) = some (valM _ _)
          unfold valM
          rw [(h j _ _ h2 h1).agg]
        · have h1 : l[j]? = none := List.getElem?_eq_none (by omega)
          have h2 : l'[j]? = none := List.getElem?_eq_none (by omega)
          rw [h1, h2]
      rw [e]
      refine .fn parts (by omega) fun j x p hx hp2 => ?_
      have hj := (List.getElem?_eq_some_iff.1 hp2).1
      have hz : l[j]? = some (l[j]'(by omega)) := List.getElem?_eq_getElem (by omega)
      exact ih j x _ hx hz ha (hr j _ p hz hp2)
theorem RD.val (hq : ∀ v : MV, q v = true → v.isVal = true) (h : RD q m x v) : v.isVal = true := by
  cases h with
  | same h => exact hq _ h
  | _ => rfl
theorem RD.repV {u : Value} (hI : InvM w P adr m) (hv : ∀ v : MV, q v = true → v.isVal = true) (hq : ∀ {v : MV} {a : Adr} {cs : List Value}, q v = true → Rep w P a v cs → Rep w P2 noAdr v cs) (hp2 : ∀ c g, adr c = some g → g < w.heap.size → ∀ o, P2 g o) (h : RD q m x v) (hr : RepV w P adr v u) : RepV w P2 noAdr x u := by
  have hv := h.val hv
  cases hr with
  | val cs hr =>
    have e : valM v cs = valM x cs := by unfold valM; rw [h.agg]
    rw [e]
    exact .val cs (h.rep hI hq hp2 (fun _ _ h => h) hr)
  | undef => cases hv
  | tup vs hl h2 => cases hv
theorem RDs.repVs (hI : InvM w P adr m) (hv : ∀ v : MV, q v = true → v.isVal = true) (hq : ∀ {v : MV} {a : Adr} {cs : List Value}, q v = true → Rep w P a v cs → Rep w P2 noAdr v cs) (hp2 : ∀ c g, adr c = some g → g < w.heap.size → ∀ o, P2 g o) : ∀ {l r : List MV} {us : List Value}, RDs q m l r → RepVs w P adr r us → RepVs w P2 noAdr l us
  | _, _, _, .nil, .nil => .nil
  | _, _, _, .cons h t, .cons h2 t2 => .cons (h.repV hI hv hq hp2 h2) (RDs.repVs hI hv hq hp2 t t2)
theorem RDt.repV {u : Value} (hI : InvM w P adr m) (hv : ∀ v : MV, q v = true → v.isVal = true) (hq : ∀ {v : MV} {a : Adr} {cs : List Value}, q v = true → Rep w P a v cs → Rep w P2 noAdr v cs) (hp2 : ∀ c g, adr c = some g → g < w.heap.size → ∀ o, P2 g o) (h : RDt q m x v) (hr : RepV w P adr v u) : RepV w P2 noAdr x u := by
  cases h with
  | one h => exact h.repV hI hv hq hp2 hr
  | tup h =>
    obtain ⟨h1, h2⟩ := h.get
    cases hr with
    | val cs hr => cases hr
    | tup vs hl h3 =>
      refine .tup vs (by omega) fun j x u hx hu => ?_
      obtain ⟨y, hy, hd⟩ := h2 hx
      obtain ⟨cs, h4, rfl⟩ := h3 j y u hy hu
      exact ⟨cs, hd.rep hI hq hp2 (fun _ _ h => h) h4, by unfold valM; rw [hd.agg]⟩
theorem idFree_val : ∀ v : MV, v.idFree = true → v.isVal = true := fun v h => by cases v <;> first | rfl | cases h
theorem flat_val : ∀ v : MV, v.flat = true → v.isVal = true := fun v h => by cases v <;> first | rfl | cases h
end
theorem borrow {Pg : Program} {G : GS} {f : FuncId} {args' args : List MV} {res res1 : MV} {M1 : VM} {n1 : Nat} (hc : SemR Pg G f args' [] 0 res1 M1 n1) {M0 : VM} {n0 : Nat} (hd : RDs MV.idFree (VM.get M0) args' args) (hf : RDt MV.flat (VM.get M1) res res1) : SemR Pg G f args M0 n0 res M0 n0 := by
  intro w P adr vals hG hI hn hL hr
  have ha := hd.repVs (P2 := pAll w) hI idFree_val (fun {v a cs} hv hr => (hr.free hv).keep ⟨fun b o h => hI.prot b o h, fun _ _ _ => rfl, fun _ _ h => h, fun _ _ _ _ h => nomatch h⟩) (fun c g _ hg o => hg) hr
  refine Calls.mono (hc w (pAll w) noAdr vals hG ⟨fun c b h => (nomatch h), fun c c' b b' g h => (nomatch h), fun b o h => h⟩ (fun _ _ => rfl) (fun c g h => nomatch h) ha) ?_
  rintro e w' ⟨v, h1, P1, a1, hI1, h2, _, _, _, hnew, _, h3⟩
  have h3 : Since (fun _ => False) w w' := ⟨h3.os, h3.tape, h3.output, h3.size, fun b hb _ => h3.block b hb (fun ⟨_, h⟩ => nomatch h)⟩
  have hb := h3.below
  refine ⟨v, h1, protNew w w' P, adr, hI.below hb, ?_, Keep.below hI.prot hb, fun _ _ => rfl, hn, fun c g h => .inr ⟨c, h⟩, fun b o h => ?_, ⟨h3.os, h3.tape, h3.output, h3.size, fun b hb2 _ => h3.block b hb2 (fun e => e)⟩⟩
  · refine (hf.repV hI1 flat_val (fun hv hr => flat_rep hr hv) (fun c g hg hlt o => .inr ⟨?_, hlt⟩) h2).ofNone
    rcases hnew c g hg with h | ⟨_, h⟩
    · exact h
    · cases h
  · rcases h with h | h
    · exact .inl h
    · exact .inr (.inl h.1)
theorem semR_cut {Pg : Program} {G : GS} {f : FuncId} {args : List MV} {M0 : VM} {n0 n1 : Nat} {res : MV} {ty : TypeId} {es pe : Nat} {l : List MV} (k : Nat) (hc : SemR Pg G f args M0 n0 res [(0, ⟨ty, es, true, pe, l⟩)] n1) (hk : pe ≤ k) : SemR Pg G f args M0 n0 res [(0, ⟨ty, es, true, pe, l.take k⟩)] n1 := by
  intro w P adr vals a1 a2 a3 a4 a5
  refine Calls.mono (hc w P adr vals a1 a2 a3 a4 a5) ?_
  rintro e w' ⟨v, h1, P', adr', hI, h2⟩
  refine ⟨v, h1, P', adr', ⟨fun c b hb => ?_, fun c c' b b' g h1 h2 => ?_, hI.prot⟩, h2⟩
  · have hg : VM.get [(0, (⟨ty, es, true, pe, l.take k⟩ : MB))] c = bif Nat.beq 0 c then some ⟨ty, es, true, pe, l.take k⟩ else none := rfl
    rw [hg] at hb
    cases h0 : Nat.beq 0 c with
    | false => rw [h0] at hb; cases hb
    | true =>
      rw [h0] at hb
      injection hb with hb
      subst hb
      have := Nat.eq_of_beq_eq_true h0
      subst this
      rcases hI.blk 0 _ rfl with ⟨_, q1, q2, q3⟩ | ⟨g, q1, q2⟩
      · refine .inl ⟨rfl, ?_, q2, q3⟩
        show l.take k = []
        rw [show l = [] from q1]; simp
      · refine .inr ⟨g, q1, ⟨.inl ?_, q2.pe, ?_⟩⟩
        · obtain ⟨cur, parts, c1, c2, c3, c4, c5⟩ := q2.ofR rfl
          refine ⟨cur, parts.take k, c1, ?_, fun p hp => c3 p (List.mem_of_mem_take hp), fun j x p hx hp => ?_, ?_⟩
          · show (parts.take k).length = (l.take k).length
            rw [List.length_take, List.length_take, c2]
          · have hx : (l.take k)[j]? = some x := hx
            rw [List.getElem?_take] at hx hp
            split at hx
            · rename_i hjk
              rw [if_pos hjk] at hp
              exact c4 j x p hx hp
            · cases hx
          · refine List.IsPrefix.trans ?_ c5
            rw [show parts.flatten = (parts.take k).flatten ++ (parts.drop k).flatten by rw [← List.flatten_append, List.take_append_drop]]
            exact List.prefix_append _ _
        · show pe ≤ (l.take k).length
          have h5 : pe ≤ l.length := q2.le
          rw [List.length_take]; omega
  · have one : ∀ {c : Nat} {b : MB}, VM.get [(0, (⟨ty, es, true, pe, l.take k⟩ : MB))] c = some b → c = 0 := fun {c b} h => by
      have hg : VM.get [(0, (⟨ty, es, true, pe, l.take k⟩ : MB))] c = bif Nat.beq 0 c then some ⟨ty, es, true, pe, l.take k⟩ else none := rfl
      rw [hg] at h
      cases h0 : Nat.beq 0 c with
      | false => rw [h0] at h; cases h
      | true => exact (Nat.eq_of_beq_eq_true h0).symm
    intro _ _
    rw [one h1, one h2]
end Go.Proofs.YtmeeeigfjlbnkaaGreat
namespace Go.Proofs.YtmeeeigfjlbnkaaGreat
open Go.RowKit
def olds (n : Nat) : VM → List Nat
  | [] => []
  | (c, b) :: M => bif Nat.blt c n && !(b.row || isMpv b.l) then numsVs b.l ++ olds n M else olds n M
def prD (fl : FuncId → Bool) (f : FuncId) (n : Nat) (r : MV) (M : VM) (c : Nat) : Bool := Nat.blt c n || (reach M 1000 (numsVs (comps r) ++ bif fl f then olds n M else []) []).any (Nat.beq c)
def rdB (M : VM) (v : MV) : Option (List UInt8) := match v with
  | .nils => some []
  | .sl n l => bif Nat.beq l.length n then bytesM l else none
  | .ms c es off n => match VM.get M c with
    | some b => bif b.row && Nat.beq b.es es && Nat.beq es 1 && Nat.ble (off + n) b.l.length then bytesM (cutL b.l off (off + n)) else none
    | none => none
  | _ => none
def key32 (v : MV) : Option (List UInt8) := match v with
  | .arr 32 1 l => bif Nat.beq l.length 32 then bytesM l else none
  | _ => none
def sumE (b : List UInt8) (M : VM) (n : Nat) : Option (MV × VM × Nat) := bif Nat.blt b.length 499999999 then some (keyM (shaK b), M, n) else none
def shaT : TblF := fun f vs M n =>
  bif Nat.beq f 74 then some (match vs with
    | [v] => (match rdB M v with
      | some b => sumE b M n
      | none => none)
    | _ => none)
  else bif Nat.beq f 108 then some (match vs with
    | [v] => (match rdB M v with
      | some b => bif Nat.blt b.length 499999999 then some (keyM (shaK (0 :: b)), M, n) else none
      | none => none)
    | _ => none)
  else bif Nat.beq f 110 then some (match vs with
    | [u, v] => (match key32 u, key32 v with
      | some a, some b => bif Nat.beq a.length 32 && Nat.beq b.length 32 then some (keyM (shaK (1 :: (a ++ b))), M, n) else none
      | _, _ => none)
    | _ => none)
  else bif Nat.beq f 139 then some (match vs with
    | [.int .u64 (.ofNat a), .int .u64 (.ofNat b), .int .u64 (.ofNat 0)] => some (.tup [.int .u64 ((a + b) % 18446744073709551616 : Nat), .int .u64 ((a + b) / 18446744073709551616 : Nat)], M, n)
    | _ => none)
  else none
section
variable {G : GS} {M : VM} {n : Nat}
theorem bytesM_out : ∀ {l : List MV} {b : List UInt8}, bytesM l = some b → l = u8s b
  | [], b, h => by injection h with h; subst h; rfl
  | m :: l, b, h => by
    unfold bytesM at h
    split at h
    · rename_i e
      exact absurd e (by simp)
    · rename_i k r e
      injection e with e1 e2
      subst e1; subst e2
      split at h
      · rename_i hk
        split at h
        · rename_i b' hb
          injection h with h
          subst h
          have := bytesM_out hb
          rw [this]
          show _ = MV.int .u8 _ :: _
          congr 2
          have : k.toNat < 256 := by omega
          rw [UInt8.toNat_ofNat_of_lt' (by simpa using this)]
          omega
        · cases h
      · cases h
    · cases h
theorem flat_u8s : ∀ l : List UInt8, MV.flats (u8s l) = true
  | [] => rfl
  | a :: l => by
    show (true && MV.flats (u8s l)) = true
    rw [flat_u8s l]; rfl
theorem rdB_rd {v : MV} {b : List UInt8} (h : rdB M v = some b) : RD MV.idFree (VM.get M) (.sl b.length (u8s b)) v := by
  unfold rdB at h
  split at h
  · injection h with h; subst h; exact .nils
  · rename_i k l
    obtain ⟨h0, h⟩ := bif_some h
    have e := bytesM_out h
    have hl : l.length = b.length := by rw [e]; simp [u8s]
    rw [← e, ← hl, Nat.eq_of_beq_eq_true h0]
    exact .same rfl
  · rename_i c es off k
    split at h
    · rename_i b0 hb
      obtain ⟨h0, h⟩ := bif_some h
      simp only [Bool.and_eq_true, Nat.ble_eq] at h0
      obtain ⟨⟨⟨h1, h2⟩, h3⟩, h4⟩ := h0
      have e := bytesM_out h
      have hes := Nat.eq_of_beq_eq_true h3
      subst hes
      have hc : (cutL b0.l off (off + k)).length = k := by unfold cutL; rw [List.length_take, List.length_drop]; omega
      have hl : k = b.length := by rw [← hc, e]; simp [u8s]
      rw [← e, ← hl]
      refine .ms b0 hb (Nat.eq_of_beq_eq_true h2) (by decide) h4 hc fun j x y hx hy => ?_
      have hj : j < k := by rw [← hc]; exact (List.getElem?_eq_some_iff.1 hx).1
      have hx0 := hx
      unfold cutL at hx
      rw [List.getElem?_take_of_lt (by omega), List.getElem?_drop, hy] at hx
      injection hx with hx
      subst hx
      rw [e] at hx0
      refine .same ?_
      unfold u8s at hx0
      rw [List.getElem?_map] at hx0
      cases hb2 : b[j]? with
      | none => rw [hb2] at hx0; cases hx0
      | some z => rw [hb2] at hx0; injection hx0 with hx0; subst hx0; rfl
    · cases h
  · cases h
theorem key_t (k : List UInt8) : RDt MV.flat (VM.get []) (keyM k) (keyM k) := .one (.same (flat_u8s k))
theorem key32_out {v : MV} {b : List UInt8} (h : key32 v = some b) : v = keyM b := by
  unfold key32 at h
  split at h
  · obtain ⟨_, h⟩ := bif_some h
    rw [bytesM_out h]; rfl
  · cases h
theorem add64_g (a b : Nat) : SemP Tryz.prog G 139 [.int .u64 a, .int .u64 b, .int .u64 0] M n (.tup [.int .u64 ((a + b) % 18446744073709551616 : Nat), .int .u64 ((a + b) / 18446744073709551616 : Nat)]) M n := by
  intro w P adr vals hg hI hn hL hargs
  cases hargs with | cons a1 hargs => cases hargs with | cons a2 hargs => cases hargs with | cons a3 hargs =>
  cases hargs
  have e1 := a1.int_
  have e2 := a2.int_
  have e3 := a3.int_
  subst e1 e2 e3
  have hf : (callFunc 139 #[.int .u64 a, .int .u64 b, .int .u64 0]).run Tryz.prog w = _ :=
    run_callFunc_extern Tryz.func139 (by kernel_rfl) (by kernel_rfl) (by kernel_rfl) (e := add64Entry) (by kernel_rfl) _ w
  refine ⟨.tuple #[.int .u64 ((a + b) % 18446744073709551616 : Nat), .int .u64 ((a + b) / 18446744073709551616 : Nat)], w, hf.trans ?_, _, rfl, P, adr, hI, .tup [.int .u64 ((a + b) % 18446744073709551616 : Nat), .int .u64 ((a + b) / 18446744073709551616 : Nat)] rfl (fun j m u hj hu => ?_), Keep.refl _ _ _, fun _ _ => rfl, hn, fun c g hc => .inr ⟨c, hc⟩, fun b o ho => .inl ho, Since.refl _ _⟩
  · have h := run_add64 (P := Tryz.prog) (a : Int) (b : Int) 0 (by omega) (by omega) (by omega) (by omega) w
    rw [h]
    have e1 : ((a : Int) + b + 0) % 18446744073709551616 = ((a + b) % 18446744073709551616 : Nat) := by omega
    have e2 : ((a : Int) + b + 0) / 18446744073709551616 = ((a + b) / 18446744073709551616 : Nat) := by omega
    rw [e1, e2]
    rfl
  · match j with
    | 0 => simp at hj hu; subst hj; subst hu; exact ⟨_, .int, rfl⟩
    | 1 => simp at hj hu; subst hj; subst hu; exact ⟨_, .int, rfl⟩
    | j + 2 => simp at hj
theorem shaT_ok : TblOK Tryz.prog ents G shaT := by
  have done : ∀ {f : FuncId} {vs : List MV} {k : List UInt8} {M : VM} {n : Nat} {r : MV} {M' : VM} {n' : Nat}, ents.contains f = true → SemR Tryz.prog G f vs M n (keyM k) M n → (∀ c, n ≤ c → VM.get M c = none) → some (keyM k, M, n) = some (r, M', n') →
      n ≤ n' ∧ (∀ c, n' ≤ c → VM.get M' c = none) ∧ (ents.contains f = true → SemR Tryz.prog G f vs M n r M' n') ∧ (ents.contains f = false → SemP Tryz.prog G f vs M n r M' n') := by
    intro f vs k M n r M' n' hin hs hM h
    injection h with h; injection h with h1 h; injection h with h2 h3
    subst h1; subst h2; subst h3
    exact ⟨Nat.le_refl _, hM, fun _ => hs, fun e => by rw [hin] at e; cases e⟩
  intro f vs M n r M' n' h hM
  unfold shaT at h
  cases hf : Nat.beq f 74 with
  | true =>
    have e := Nat.eq_of_beq_eq_true hf
    subst e
    rw [hf] at h
    injection h with h
    split at h
    · rename_i v
      split at h
      · rename_i b hb
        obtain ⟨h0, h⟩ := bif_some h
        have h0 : b.length < 499999999 := by simpa [Nat.blt_eq] using h0
        exact done (by kernel_rfl) (borrow (semR_of_semC (by rw [shaK_eq]; exact psha_m b (by omega))) (.cons (rdB_rd hb) .nil) (key_t _)) hM h
      · cases h
    · cases h
  | false =>
    rw [hf] at h
    dsimp only [cond_false] at h
    cases hf2 : Nat.beq f 108 with
    | true =>
      have e := Nat.eq_of_beq_eq_true hf2
      subst e
      rw [hf2] at h
      injection h with h
      split at h
      · rename_i v
        split at h
        · rename_i b hb
          obtain ⟨h0, h⟩ := bif_some h
          have h0 : b.length < 499999999 := by simpa [Nat.blt_eq] using h0
          exact done (by kernel_rfl) (borrow (semR_of_semC (by rw [shaK_eq]; exact pleaf_m b (by omega))) (.cons (rdB_rd hb) .nil) (key_t _)) hM h
        · cases h
      · cases h
    | false =>
      rw [hf2] at h
      dsimp only [cond_false] at h
      cases hf3 : Nat.beq f 110 with
      | true =>
        have e := Nat.eq_of_beq_eq_true hf3
        subst e
        rw [hf3] at h
        injection h with h
        split at h
        · rename_i u v
          split at h
          · rename_i a b ha hb
            obtain ⟨h0, h⟩ := bif_some h
            rw [Bool.and_eq_true] at h0
            rw [key32_out ha, key32_out hb]
            exact done (by kernel_rfl) (borrow (semR_of_semC (by rw [shaK_eq]; exact pinner_m a b (Nat.eq_of_beq_eq_true h0.1) (Nat.eq_of_beq_eq_true h0.2))) (.cons (.same rfl) (.cons (.same rfl) .nil)) (key_t _)) hM h
          · cases h
        · cases h
      | false =>
        rw [hf3] at h
        dsimp only [cond_false] at h
        cases hf4 : Nat.beq f 139 with
        | true =>
          have e := Nat.eq_of_beq_eq_true hf4
          subst e
          rw [hf4] at h
          injection h with h
          split at h
          · rename_i a b
            injection h with h; injection h with h1 h; injection h with h2 h3
            subst h1; subst h2; subst h3
            have hno : ents.contains 139 = false := by kernel_rfl
            exact ⟨Nat.le_refl _, hM, fun e => (by rw [hno] at e; cases e), fun _ => add64_g a b⟩
          · cases h
        | false =>
          rw [hf4] at h
          cases h
end
end Go.Proofs.YtmeeeigfjlbnkaaGreat
namespace Go.Proofs.YtmeeeigfjlbnkaaGreat
open Go.RowKit Go.Lib
noncomputable abbrev hndM (t : Nat) : MV := .gp Tryz.prog.globals.size t
noncomputable def infS : TypeInfo := (Tryz.prog.info? 44).get (by kernel_rfl)
noncomputable def infE : TypeInfo := (Tryz.prog.info? 140).get (by kernel_rfl)
theorem info_S : Tryz.prog.info? 44 = some infS := by kernel_rfl
theorem info_E : Tryz.prog.info? 140 = some infE := by kernel_rfl
theorem desc_S : infS.desc = .slice 140 := by kernel_rfl
theorem pack_S : Tryz.prog.packed 44 = false := by kernel_rfl
theorem kind_E (w : World) : (Extern.Rtype.kind 140).run Tryz.prog w = .ok 25 w := by kernel_rfl
section
variable {G : GS} {w : World} {P : Prot} {adr : Adr} {M : VM} {n : Nat}
theorem vget_new (M : VM) (c : Nat) (b : MB) : fput (VM.get M) c b = VM.get ((c, b) :: M) := by
  funext x
  show (if x = c then some b else VM.get M x) = bif Nat.beq c x then some b else VM.get M x
  by_cases h : x = c
  · subst h
    rw [Nat.beq_refl x]; simp
  · have : Nat.beq c x = false := by
      rw [← Bool.not_eq_true]; intro h2; exact h (Nat.eq_of_beq_eq_true h2).symm
    simp [h, this]
theorem ifc_nils {t : Nat} {u : Value} (h : RepV w P adr (.ifc t .nils) u) : u = .iface t (.slice none 0 0) := by
  cases h with
  | val cs h =>
    cases h with
    | ifc cs hr => cases hr; rfl
theorem valueOf_n (hM : VM.get M n = none) : SemP Tryz.prog G 200 [.ifc 44 .nils] M n (.st [hndM 44, .ptr n 1 0 0 [], .int .u64 151]) ((n, ⟨44, 1, false, 0, [.nils]⟩) :: M) (n + 1) := by
  intro w P adr vals hg hI hn hL hargs
  cases hargs with | cons a1 hargs =>
  cases hargs
  obtain rfl := ifc_nils a1
  have hf : (callFunc 200 #[.iface 44 (.slice none 0 0)]).run Tryz.prog w = _ :=
    run_callFunc_extern Tryz.func200 (by kernel_rfl) (by kernel_rfl) (by kernel_rfl) (e := fun args => Extern.ReflectliteValue.unpack (args.getD 0 (.tuple #[]))) (by kernel_rfl) _ w
  rw [show (#[.iface 44 (.slice none 0 0)] : Array Value).getD 0 (.tuple #[]) = .iface 44 (.slice none 0 0) from rfl, run_valueOf_slice _ _ infS info_S desc_S] at hf
  have hb := Below.alloc1 w (.cells #[.slice none 0 0] 44)
  obtain ⟨i1, k1⟩ := hI.new (b := ⟨44, 1, false, 0, [.nils]⟩) (hn n (Nat.le_refl _)) hM hb (cur := #[.slice none 0 0]) (parts := [[.slice none 0 0]]) (by show (w.heap.push _)[w.heap.size]? = _; simp) rfl (by simp) (fun j x q hx hq => by
    match j with
    | 0 => simp at hx hq; subst hx hq; exact .nils
    | j + 1 => simp at hx) (by simp) (Nat.zero_le _)
  rw [vget_new] at i1
  refine ⟨_, _, hf, _, rfl, P, _, i1, ?_, k1, fun c hc => fput_ne _ _ (by omega), fun c hc => (fput_ne _ _ (by omega)).trans (hn c (by omega)), fun c g hc => ?_, fun b o ho => .inl ho, (Since.of_below hb).weak fun _ e => e.elim⟩
  · exact .val _ (.st [[typeHandle Tryz.prog 44], [.pointer (some ⟨w.heap.size, 0, none⟩)], [.int .u64 151]] rfl fun j m q hm hq => by
      match j with
      | 0 => simp at hm hq; subst hm hq; exact .gp
      | 1 => simp at hm hq; subst hm hq; exact .ptr (fo := 0) (k := 0) w.heap.size (fput_same _ _ _)
      | 2 => simp at hm hq; subst hm hq; exact .int
      | j + 3 => simp at hm)
  · by_cases h : c = n
    · subst h; rw [fput_same] at hc; injection hc with hc; exact .inl (by omega)
    · rw [fput_ne _ _ h] at hc; exact .inr ⟨c, hc⟩
theorem var_nil {c : Nat} {b : MB} {g : Nat} (hI : InvM w P adr (VM.get M)) (hb : VM.get M c = some b) (he : b.es = 1) (hl : b.l = [.nils]) (hg : adr c = some g) : w.cell? ⟨g, 0, none⟩ = some (.slice none 0 0) := by
  rcases hI.blk c b hb with h | ⟨g', h1, h2⟩
  · rw [hg] at h; cases h.2.2.1
  · rw [hg] at h1
    injection h1 with h1
    subst h1
    obtain ⟨cur, parts, q1, q2, q3, q4, q5⟩ := h2.ofE (by rw [he]; omega)
    rw [hl] at q2 q4
    match parts, q2 with
    | [s], _ =>
      have hr := q4 0 _ s rfl rfl
      cases hr
      rw [cell_of_row w g 0 cur _ (0, 0) q1]
      have := prefix_get q5 (j := 0) (x := .slice none 0 0) (by simp)
      simpa using this
theorem valueLen_n {c : Nat} {b : MB} (hb : VM.get M c = some b) (he : b.es = 1) (hl : b.l = [.nils]) : SemP Tryz.prog G 203 [.st [hndM 44, .ptr c 1 0 0 [], .int .u64 151]] M n (.int .i64 (0 : Nat)) M n := by
  intro w P adr vals hg hI hn hL hargs
  cases hargs with | cons a1 hargs =>
  cases hargs
  obtain ⟨cs, h1, rfl⟩ := a1.agg_ rfl
  cases h1 with | st parts hp hr =>
  match parts, hp with
  | [c0, c1, c2], _ =>
    have r0 := hr 0 _ c0 rfl rfl
    have r1 := hr 1 _ c1 rfl rfl
    have r2 := hr 2 _ c2 rfl rfl
    cases r0
    cases r2
    cases r1 with | ptr g h1 =>
    have hc := var_nil hI hb he hl h1
    have hf : (callFunc 203 #[.agg #[typeHandle Tryz.prog 44, .pointer (some ⟨g, 0, none⟩), .int .u64 151]]).run Tryz.prog w = _ :=
      run_callFunc_extern Tryz.func203 (by kernel_rfl) (by kernel_rfl) (by kernel_rfl) (e := Extern.ReflectliteValue.method (Extern.ReflectliteValue.valueError "reflectlite.Value.Len" 0) Extern.ReflectliteValue.len) (by kernel_rfl) _ w
    rw [run_valueLen_slice _ _ infS info_S desc_S pack_S _ _ _ _ _ hc] at hf
    exact ⟨_, _, hf, _, rfl, P, adr, hI, .val [_] .int, Keep.refl _ _ _, fun _ _ => rfl, hn, fun c g hc => .inr ⟨c, hc⟩, fun b o ho => .inl ho, Since.refl _ _⟩
theorem swapper_n : SemP Tryz.prog G 201 [.ifc 44 .nils] M n (.fn 215 []) M n := by
  intro w P adr vals hg hI hn hL hargs
  cases hargs with | cons a1 hargs =>
  cases hargs
  obtain rfl := ifc_nils a1
  have hf : (callFunc 201 #[.iface 44 (.slice none 0 0)]).run Tryz.prog w = _ :=
    run_callFunc_extern Tryz.func201 (by kernel_rfl) (by kernel_rfl) (by kernel_rfl) (e := Extern.ReflectliteSwapper.swapper "internal/reflectlite" (Extern.ReflectliteValue.valueError "Swapper")) (by kernel_rfl) _ w
  rw [run_swapper_slice _ _ infS infE info_S desc_S info_E 25 kind_E none 0 0 215 (by kernel_rfl)] at hf
  exact ⟨_, _, hf, _, rfl, P, adr, hI, .val _ (.fn [] rfl fun j m q h => by simp at h), Keep.refl _ _ _, fun _ _ => rfl, hn, fun c g hc => .inr ⟨c, hc⟩, fun b o ho => .inl ho, Since.refl _ _⟩
noncomputable def libT : TblF := fun f vs M n =>
  bif Nat.beq f 200 then some (match vs with
    | [.ifc t .nils] => bif Nat.beq t 44 then some (.st [hndM 44, .ptr n 1 0 0 [], .int .u64 151], (n, ⟨44, 1, false, 0, [.nils]⟩) :: M, n + 1) else none
    | _ => none)
  else bif Nat.beq f 201 then some (match vs with
    | [.ifc t .nils] => bif Nat.beq t 44 then some (.fn 215 [], M, n) else none
    | _ => none)
  else bif Nat.beq f 203 then some (match vs with
    | [.st [.gp g t, .ptr c 1 0 0 [], .int .u64 151]] => (match VM.get M c with
      | some b => (match b.l with
        | [.nils] => bif Nat.beq g Tryz.prog.globals.size && Nat.beq t 44 && Nat.beq b.es 1 then some (.int .i64 (0 : Nat), M, n) else none
        | _ => none)
      | none => none)
    | _ => none)
  else shaT f vs M n
theorem libT_ok : TblOK Tryz.prog ents G libT := by
  intro f vs M n r M' n' h hM
  unfold libT at h
  cases hf : Nat.beq f 200 with
  | true =>
    have e := Nat.eq_of_beq_eq_true hf
    subst e
    rw [hf] at h
    injection h with h
    split at h
    · rename_i t
      obtain ⟨h0, h⟩ := bif_some h
      have h0 := Nat.eq_of_beq_eq_true h0
      subst h0
      injection h with h; injection h with h1 h; injection h with h2 h3
      subst h1; subst h2; subst h3
      have hno : ents.contains 200 = false := by kernel_rfl
      refine ⟨Nat.le_succ _, fun c hc => ?_, fun e => (by rw [hno] at e; cases e), fun _ => valueOf_n (hM n (Nat.le_refl _))⟩
      show (bif Nat.beq n c then some _ else VM.get M c) = none
      have hb : Nat.beq n c = false := by
        rw [← Bool.not_eq_true]; intro h2; have := Nat.eq_of_beq_eq_true h2; omega
      rw [hb]
      exact hM c (by omega)
    · cases h
  | false =>
    rw [hf] at h
    dsimp only [cond_false] at h
    cases hf2 : Nat.beq f 201 with
    | true =>
      have e := Nat.eq_of_beq_eq_true hf2
      subst e
      rw [hf2] at h
      injection h with h
      split at h
      · rename_i t
        obtain ⟨h0, h⟩ := bif_some h
        have h0 := Nat.eq_of_beq_eq_true h0
        subst h0
        injection h with h; injection h with h1 h; injection h with h2 h3
        subst h1; subst h2; subst h3
        have hno : ents.contains 201 = false := by kernel_rfl
        exact ⟨Nat.le_refl _, hM, fun e => (by rw [hno] at e; cases e), fun _ => swapper_n⟩
      · cases h
    | false =>
      rw [hf2] at h
      dsimp only [cond_false] at h
      cases hf3 : Nat.beq f 203 with
      | true =>
        have e := Nat.eq_of_beq_eq_true hf3
        subst e
        rw [hf3] at h
        injection h with h
        split at h
        · rename_i g t c
          split at h
          · rename_i b hb
            split at h
            · rename_i hl
              obtain ⟨h0, hx⟩ := bif_some h
              simp only [Bool.and_eq_true] at h0
              obtain ⟨⟨h4, h5⟩, h6⟩ := h0
              have h4 := Nat.eq_of_beq_eq_true h4
              have h5 := Nat.eq_of_beq_eq_true h5
              subst h4; subst h5
              have e := Option.some.inj hx
              have e1 := (Prod.mk.inj e).1
              have e2 := (Prod.mk.inj (Prod.mk.inj e).2).1
              have e3 := (Prod.mk.inj (Prod.mk.inj e).2).2
              subst e1; subst e2; subst e3
              have hno : ents.contains 203 = false := by kernel_rfl
              exact ⟨Nat.le_refl _, hM, fun e => (by rw [hno] at e; cases e), fun _ => valueLen_n hb (Nat.eq_of_beq_eq_true h6) hl⟩
            · cases h
          · cases h
        · cases h
      | false =>
        rw [hf3] at h
        exact shaT_ok f vs M n r M' n' h hM
end
end Go.Proofs.YtmeeeigfjlbnkaaGreat
namespace Go.Proofs.YtmeeeigfjlbnkaaGreat
open Go.RowKit
def kb (l : List Nat) : List MV := l.map fun x => .int .u8 (x : Nat)
mutual
def sameMV : MV → MV → Bool
  | .int k a, .int j b => decide (k = j) && decide (a = b)
  | .bool a, .bool b => bEq a b
  | .str s, .str t => sameU s t
  | .nilp, .nilp => true
  | .nils, .nils => true
  | .nilf, .nilf => true
  | .nili, .nili => true
  | .sl n l, .sl m r => Nat.beq n m && sameMVs l r
  | .arr n e l, .arr m f r => Nat.beq n m && Nat.beq e f && sameMVs l r
  | .st l, .st r => sameMVs l r
  | .ifc t v, .ifc u x => Nat.beq t u && sameMV v x
  | _, _ => false
def sameMVs : List MV → List MV → Bool
  | [], [] => true
  | a :: l, b :: r => sameMV a b && sameMVs l r
  | _, _ => false
end
mutual
theorem sameMV_ok : ∀ {x y : MV}, sameMV x y = true → x = y ∧ x.idFree = true
  | .int k a, .int j b, h => by
    unfold sameMV at h
    rw [Bool.and_eq_true] at h
    rw [of_decide_eq_true h.1, of_decide_eq_true h.2]; exact ⟨rfl, rfl⟩
  | .bool a, .bool b, h => by unfold sameMV at h; rw [bEq_out h]; exact ⟨rfl, rfl⟩
  | .str s, .str t, h => by unfold sameMV at h; rw [sameU_ok h]; exact ⟨rfl, rfl⟩
  | .nilp, .nilp, _ => ⟨rfl, rfl⟩
  | .nils, .nils, _ => ⟨rfl, rfl⟩
  | .nilf, .nilf, _ => ⟨rfl, rfl⟩
  | .nili, .nili, _ => ⟨rfl, rfl⟩
  | .sl n l, .sl m r, h => by
    unfold sameMV at h
    rw [Bool.and_eq_true] at h
    rw [Nat.eq_of_beq_eq_true h.1, (sameMVs_ok h.2).1]; exact ⟨rfl, rfl⟩
  | .arr n e l, .arr m f r, h => by
    unfold sameMV at h
    simp only [Bool.and_eq_true] at h
    rw [Nat.eq_of_beq_eq_true h.1.1, Nat.eq_of_beq_eq_true h.1.2, (sameMVs_ok h.2).1]; exact ⟨rfl, rfl⟩
  | .st l, .st r, h => by
    unfold sameMV at h
    obtain ⟨h1, h2⟩ := sameMVs_ok h
    exact ⟨by rw [h1], h2⟩
  | .ifc t v, .ifc u x, h => by
    unfold sameMV at h
    rw [Bool.and_eq_true] at h
    obtain ⟨h1, h2⟩ := sameMV_ok h.2
    exact ⟨by rw [Nat.eq_of_beq_eq_true h.1, h1], h2⟩
  | .ptr .., y, h => by cases y <;> cases h
  | .gp .., y, h => by cases y <;> cases h
  | .ep .., y, h => by cases y <;> cases h
  | .ms .., y, h => by cases y <;> cases h
  | .fn .., y, h => by cases y <;> cases h
  | .tup .., y, h => by cases y <;> cases h
  | .mp .., y, h => by cases y <;> cases h
  | .mpv .., y, h => by cases y <;> cases h
  | .undef, y, h => by cases y <;> cases h
theorem sameMVs_ok : ∀ {x y : List MV}, sameMVs x y = true → x = y ∧ MV.idFrees x = true
  | [], [], _ => ⟨rfl, rfl⟩
  | a :: l, b :: r, h => by
    unfold sameMVs at h
    rw [Bool.and_eq_true] at h
    obtain ⟨h1, h2⟩ := sameMV_ok h.1
    obtain ⟨h3, h4⟩ := sameMVs_ok h.2
    refine ⟨by rw [h1, h3], ?_⟩
    show (a.idFree && MV.idFrees l) = true
    rw [h2, h4]; rfl
  | [], _ :: _, h => by cases h
  | _ :: _, [], h => by cases h
end
def sameR : MV → MV → Bool
  | .tup l, .tup r => sameMVs l r
  | a, b => sameMV a b
theorem sameR_ok {x y : MV} (h : sameR x y = true) : x = y := by
  unfold sameR at h
  split at h
  · rw [(sameMVs_ok h).1]
  · exact (sameMV_ok h).1
theorem repVs_free {w : World} {P : Prot} {adr : Adr} : ∀ {l : List MV} {vs : List Value}, MV.idFrees l = true → RepVs w P adr l vs → RepVs w P noAdr l vs
  | [], _, _, .nil => .nil
  | p :: l, v :: vs, hf, .cons h t => by
    have hf : (p.idFree && MV.idFrees l) = true := hf
    rw [Bool.and_eq_true] at hf
    refine .cons ?_ (repVs_free hf.2 t)
    obtain ⟨cs, h1, h2⟩ := h.ofVal (idFree_val _ hf.1)
    rw [h2]; exact .val cs (h1.free hf.1)
theorem semR_at {Pg : Program} {G : GS} {f : FuncId} {args : List MV} {res : MV} {M : VM} {n : Nat} (h : SemC Pg G f args res) (ha : MV.idFrees args = true) : SemR Pg G f args M n res M n := by
  intro w P adr vals hg hI hn hL hargs
  refine (h w P vals hg hI.prot (repVs_free ha hargs)).mono ?_
  rintro e w' ⟨v, rfl, h1, h2⟩
  have hb := Keep.below (adr := adr) hI.prot h2
  refine ⟨v, rfl, protNew w w' P, adr, hI.below h2, h1.ofNone, hb, fun _ _ => rfl, hn, fun c g hc => .inr ⟨c, hc⟩, fun b o ho => ?_, (Since.of_below h2).weak fun _ e => e.elim⟩
  rcases ho with h | h
  · exact .inl h
  · exact .inr (.inl h.1)
structure Mem1 (Pg : Program) (ents : List FuncId) (G : GS) where
  f : FuncId
  vs : List MV
  r : MV
  ok : SemC Pg G f vs r
  inn : ents.contains f = true
section
variable {Pg : Program} {ents : List FuncId} {G : GS}
def findMm (f : FuncId) (vs : List MV) : List (Mem1 Pg ents G) → Option MV
  | [] => none
  | x :: l => bif Nat.beq x.f f && sameMVs vs x.vs then some x.r else findMm f vs l
def memT (L : List (Mem1 Pg ents G)) (tb : TblF) : TblF := fun f vs M n => match findMm f vs L with
  | some r => some (some (r, M, n))
  | none => tb f vs M n
theorem findMm_ok {f : FuncId} {vs : List MV} {r : MV} : ∀ {L : List (Mem1 Pg ents G)}, findMm f vs L = some r → SemC Pg G f vs r ∧ ents.contains f = true ∧ MV.idFrees vs = true
  | [], h => by cases h
  | x :: l, h => by
    unfold findMm at h
    cases hc : (Nat.beq x.f f && sameMVs vs x.vs) with
    | true =>
      have hr : x.r = r := Option.some.inj (show some x.r = some r by rw [hc] at h; exact h)
      rw [Bool.and_eq_true] at hc
      have e := Nat.eq_of_beq_eq_true hc.1
      obtain ⟨h1, h2⟩ := sameMVs_ok hc.2
      rw [← e, h1, ← hr]
      exact ⟨x.ok, x.inn, by rw [← h1]; exact h2⟩
    | false => exact findMm_ok (show findMm f vs l = some r by rw [hc] at h; exact h)
theorem memT_ok {L : List (Mem1 Pg ents G)} {tb : TblF} (h : TblOK Pg ents G tb) : TblOK Pg ents G (memT L tb) := by
  intro f vs M n r M' n' hr hM
  unfold memT at hr
  split at hr
  · rename_i r0 hf
    obtain ⟨h1, h2, h3⟩ := findMm_ok hf
    have e := Option.some.inj hr
    have e := Option.some.inj e
    have e1 := (Prod.mk.inj e).1
    have e2 := (Prod.mk.inj (Prod.mk.inj e).2).1
    have e3 := (Prod.mk.inj (Prod.mk.inj e).2).2
    subst e1; subst e2; subst e3
    exact ⟨Nat.le_refl _, hM, fun _ => semR_at h1 h3, fun e => by rw [h2] at e; cases e⟩
  · exact h f vs M n r M' n' hr hM
end
end Go.Proofs.YtmeeeigfjlbnkaaGreat
namespace Go.Proofs.YtmeeeigfjlbnkaaGreat
open Go.RowKit
def Rp.key : Rp (List Int) := Rp.arr .u8 32
def Rp.bytes : Rp (List Int) := Rp.slice (Rp.int .u8)
def Rp.ints : Rp (List Int) := Rp.slice (Rp.int .i64)
theorem take1 {cs : List Value} {n : Nat} {v : Value} (h : (cs.drop n).take 1 = [v]) : cs[n]? = some v := by
  have h0 : ((cs.drop n).take 1)[0]? = some v := by rw [h]; rfl
  simpa [List.getElem?_take, List.getElem?_drop] using h0
theorem Rp.pair_iff {α β : Type} {r : Rp α} {s : Rp β} {w : World} {S : Fp} {cs : List Value} {x : α × β} : (r.pair s).rel w S cs x ↔ r.rel w S (cs.take r.size) x.1 ∧ s.rel w S (cs.drop r.size) x.2 := by
  constructor
  · rintro ⟨c, d, rfl, h, k⟩
    have hl := r.len h
    rw [← hl, List.take_left, List.drop_left]
    exact ⟨h, k⟩
  · rintro ⟨h, k⟩
    exact ⟨_, _, (List.take_append_drop _ _).symm, h, k⟩
section
variable {w : World} {S : Fp} {cs : List Value}
theorem cellI {k : IntKind} {n : Nat} {x : Int} (h : (Rp.int k).rel w S ((cs.drop n).take 1) x) : cs[n]? = some (.int k x) ∧ (Lit.int k x).wf = true := ⟨take1 h.1, h.2⟩
theorem cellB {n : Nat} {x : Bool} (h : Rp.bool.rel w S ((cs.drop n).take 1) x) : cs[n]? = some (.bool x) := take1 h
theorem cellS {n : Nat} {x : ByteArray} (h : Rp.str.rel w S ((cs.drop n).take 1) x) : cs[n]? = some (.string x) ∧ x.size ≤ 140737488355328 := ⟨take1 h.1, h.2⟩
theorem cellL {α : Type} {r : Rp α} {n : Nat} {x : List α} (h : (Rp.slice r).rel w S ((cs.drop n).take 1) x) : ∃ A c, cs[n]? = some (.slice A x.length c) ∧ Sl r w S A x := by
  obtain ⟨A, c, h, k⟩ := h
  exact ⟨A, c, take1 h, k⟩
end
structure MField where
  number : Int
  kind : Int
  value : Int
  bytes : List Int
  deriving DecidableEq, Inhabited
def Rp.field : Rp MField := Rp.via (fun x => (x.number, x.kind, x.value, x.bytes)) (Rp.pair (Rp.int .i64) (Rp.pair (Rp.int .i64) (Rp.pair (Rp.int .u64) Rp.bytes)))
theorem Rp.field_size : Rp.field.size = 4 := rfl
theorem Rp.field_fields {w : World} {S : Fp} {cs : List Value} {x : MField} (h : Rp.field.rel w S cs x) :
    (Rp.int .i64).rel w S ((cs.drop 0).take 1) x.number ∧
    (Rp.int .i64).rel w S ((cs.drop 1).take 1) x.kind ∧
    (Rp.int .u64).rel w S ((cs.drop 2).take 1) x.value ∧
    Rp.bytes.rel w S ((cs.drop 3).take 1) x.bytes := by
  have hl : cs.length = 4 := Rp.field.len h
  have h : (Rp.pair (Rp.int .i64) (Rp.pair (Rp.int .i64) (Rp.pair (Rp.int .u64) Rp.bytes))).rel w S cs (x.number, x.kind, x.value, x.bytes) := h
  simp only [Rp.pair_iff] at h
  obtain ⟨h0, h1, h2, h3⟩ := h
  refine ⟨?_, ?_, ?_, ?_⟩
  · refine cast (congrArg (fun l => (Rp.int .i64).rel w S l x.number) ?_) h0
    first | rfl | (simp only [List.drop_drop]; rfl)
  · refine cast (congrArg (fun l => (Rp.int .i64).rel w S l x.kind) ?_) h1
    first | rfl | (simp only [List.drop_drop]; rfl)
  · refine cast (congrArg (fun l => (Rp.int .u64).rel w S l x.value) ?_) h2
    first | rfl | (simp only [List.drop_drop]; rfl)
  · refine cast (congrArg (fun l => Rp.bytes.rel w S l x.bytes) ?_) h3
    have e : cs.drop 3 = (cs.drop 3).take 1 := (List.take_of_length_le (by simp [hl])).symm
    refine Eq.trans ?_ e
    first | rfl | (simp only [List.drop_drop]; rfl)
theorem Rp.field_mk {w : World} {S : Fp} {cs : List Value} {x : MField} (hl : cs.length = 4)
    (h0 : (Rp.int .i64).rel w S ((cs.drop 0).take 1) x.number)
    (h1 : (Rp.int .i64).rel w S ((cs.drop 1).take 1) x.kind)
    (h2 : (Rp.int .u64).rel w S ((cs.drop 2).take 1) x.value)
    (h3 : Rp.bytes.rel w S ((cs.drop 3).take 1) x.bytes)
    : Rp.field.rel w S cs x := by
  show (Rp.pair (Rp.int .i64) (Rp.pair (Rp.int .i64) (Rp.pair (Rp.int .u64) Rp.bytes))).rel w S cs (x.number, x.kind, x.value, x.bytes)
  simp only [Rp.pair_iff]
  refine ⟨?_, ?_, ?_, ?_⟩
  · refine cast (congrArg (fun l => (Rp.int .i64).rel w S l x.number) ?_) h0
    first | rfl | (simp only [List.drop_drop]; rfl)
  · refine cast (congrArg (fun l => (Rp.int .i64).rel w S l x.kind) ?_) h1
    first | rfl | (simp only [List.drop_drop]; rfl)
  · refine cast (congrArg (fun l => (Rp.int .u64).rel w S l x.value) ?_) h2
    first | rfl | (simp only [List.drop_drop]; rfl)
  · refine cast (congrArg (fun l => Rp.bytes.rel w S l x.bytes) ?_) h3
    have e : cs.drop 3 = (cs.drop 3).take 1 := (List.take_of_length_le (by simp [hl])).symm
    refine e.symm.trans ?_
    first | rfl | (simp only [List.drop_drop]; rfl)
structure MAccount where
  name : ByteArray
  balance : Int
  sequence : Int
  deriving DecidableEq, Inhabited
def Rp.account : Rp MAccount := Rp.via (fun x => (x.name, x.balance, x.sequence)) (Rp.pair Rp.str (Rp.pair (Rp.int .u64) (Rp.int .u64)))
theorem Rp.account_size : Rp.account.size = 3 := rfl
theorem Rp.account_fields {w : World} {S : Fp} {cs : List Value} {x : MAccount} (h : Rp.account.rel w S cs x) :
    Rp.str.rel w S ((cs.drop 0).take 1) x.name ∧
    (Rp.int .u64).rel w S ((cs.drop 1).take 1) x.balance ∧
    (Rp.int .u64).rel w S ((cs.drop 2).take 1) x.sequence := by
  have hl : cs.length = 3 := Rp.account.len h
  have h : (Rp.pair Rp.str (Rp.pair (Rp.int .u64) (Rp.int .u64))).rel w S cs (x.name, x.balance, x.sequence) := h
  simp only [Rp.pair_iff] at h
  obtain ⟨h0, h1, h2⟩ := h
  refine ⟨?_, ?_, ?_⟩
  · refine cast (congrArg (fun l => Rp.str.rel w S l x.name) ?_) h0
    first | rfl | (simp only [List.drop_drop]; rfl)
  · refine cast (congrArg (fun l => (Rp.int .u64).rel w S l x.balance) ?_) h1
    first | rfl | (simp only [List.drop_drop]; rfl)
  · refine cast (congrArg (fun l => (Rp.int .u64).rel w S l x.sequence) ?_) h2
    have e : cs.drop 2 = (cs.drop 2).take 1 := (List.take_of_length_le (by simp [hl])).symm
    refine Eq.trans ?_ e
    first | rfl | (simp only [List.drop_drop]; rfl)
theorem Rp.account_mk {w : World} {S : Fp} {cs : List Value} {x : MAccount} (hl : cs.length = 3)
    (h0 : Rp.str.rel w S ((cs.drop 0).take 1) x.name)
    (h1 : (Rp.int .u64).rel w S ((cs.drop 1).take 1) x.balance)
    (h2 : (Rp.int .u64).rel w S ((cs.drop 2).take 1) x.sequence)
    : Rp.account.rel w S cs x := by
  show (Rp.pair Rp.str (Rp.pair (Rp.int .u64) (Rp.int .u64))).rel w S cs (x.name, x.balance, x.sequence)
  simp only [Rp.pair_iff]
  refine ⟨?_, ?_, ?_⟩
  · refine cast (congrArg (fun l => Rp.str.rel w S l x.name) ?_) h0
    first | rfl | (simp only [List.drop_drop]; rfl)
  · refine cast (congrArg (fun l => (Rp.int .u64).rel w S l x.balance) ?_) h1
    first | rfl | (simp only [List.drop_drop]; rfl)
  · refine cast (congrArg (fun l => (Rp.int .u64).rel w S l x.sequence) ?_) h2
    have e : cs.drop 2 = (cs.drop 2).take 1 := (List.take_of_length_le (by simp [hl])).symm
    refine e.symm.trans ?_
    first | rfl | (simp only [List.drop_drop]; rfl)
structure MLedger where
  accounts : List MAccount
  collected : Int
  deriving DecidableEq, Inhabited
def Rp.ledger : Rp MLedger := Rp.via (fun x => (x.accounts, x.collected)) (Rp.pair (Rp.slice Rp.account) (Rp.int .u64))
theorem Rp.ledger_size : Rp.ledger.size = 2 := rfl
theorem Rp.ledger_fields {w : World} {S : Fp} {cs : List Value} {x : MLedger} (h : Rp.ledger.rel w S cs x) :
    (Rp.slice Rp.account).rel w S ((cs.drop 0).take 1) x.accounts ∧
    (Rp.int .u64).rel w S ((cs.drop 1).take 1) x.collected := by
  have hl : cs.length = 2 := Rp.ledger.len h
  have h : (Rp.pair (Rp.slice Rp.account) (Rp.int .u64)).rel w S cs (x.accounts, x.collected) := h
  simp only [Rp.pair_iff] at h
  obtain ⟨h0, h1⟩ := h
  refine ⟨?_, ?_⟩
  · refine cast (congrArg (fun l => (Rp.slice Rp.account).rel w S l x.accounts) ?_) h0
    first | rfl | (simp only [List.drop_drop]; rfl)
  · refine cast (congrArg (fun l => (Rp.int .u64).rel w S l x.collected) ?_) h1
    have e : cs.drop 1 = (cs.drop 1).take 1 := (List.take_of_length_le (by simp [hl])).symm
    refine Eq.trans ?_ e
    first | rfl | (simp only [List.drop_drop]; rfl)
theorem Rp.ledger_mk {w : World} {S : Fp} {cs : List Value} {x : MLedger} (hl : cs.length = 2)
    (h0 : (Rp.slice Rp.account).rel w S ((cs.drop 0).take 1) x.accounts)
    (h1 : (Rp.int .u64).rel w S ((cs.drop 1).take 1) x.collected)
    : Rp.ledger.rel w S cs x := by
  show (Rp.pair (Rp.slice Rp.account) (Rp.int .u64)).rel w S cs (x.accounts, x.collected)
  simp only [Rp.pair_iff]
  refine ⟨?_, ?_⟩
  · refine cast (congrArg (fun l => (Rp.slice Rp.account).rel w S l x.accounts) ?_) h0
    first | rfl | (simp only [List.drop_drop]; rfl)
  · refine cast (congrArg (fun l => (Rp.int .u64).rel w S l x.collected) ?_) h1
    have e : cs.drop 1 = (cs.drop 1).take 1 := (List.take_of_length_le (by simp [hl])).symm
    refine e.symm.trans ?_
    first | rfl | (simp only [List.drop_drop]; rfl)
structure MTransfer where
  to_ : ByteArray
  amount : Int
  deriving DecidableEq, Inhabited
def Rp.transfer : Rp MTransfer := Rp.via (fun x => (x.to_, x.amount)) (Rp.pair Rp.str (Rp.int .u64))
theorem Rp.transfer_size : Rp.transfer.size = 2 := rfl
theorem Rp.transfer_fields {w : World} {S : Fp} {cs : List Value} {x : MTransfer} (h : Rp.transfer.rel w S cs x) :
    Rp.str.rel w S ((cs.drop 0).take 1) x.to_ ∧
    (Rp.int .u64).rel w S ((cs.drop 1).take 1) x.amount := by
  have hl : cs.length = 2 := Rp.transfer.len h
  have h : (Rp.pair Rp.str (Rp.int .u64)).rel w S cs (x.to_, x.amount) := h
  simp only [Rp.pair_iff] at h
  obtain ⟨h0, h1⟩ := h
  refine ⟨?_, ?_⟩
  · refine cast (congrArg (fun l => Rp.str.rel w S l x.to_) ?_) h0
    first | rfl | (simp only [List.drop_drop]; rfl)
  · refine cast (congrArg (fun l => (Rp.int .u64).rel w S l x.amount) ?_) h1
    have e : cs.drop 1 = (cs.drop 1).take 1 := (List.take_of_length_le (by simp [hl])).symm
    refine Eq.trans ?_ e
    first | rfl | (simp only [List.drop_drop]; rfl)
theorem Rp.transfer_mk {w : World} {S : Fp} {cs : List Value} {x : MTransfer} (hl : cs.length = 2)
    (h0 : Rp.str.rel w S ((cs.drop 0).take 1) x.to_)
    (h1 : (Rp.int .u64).rel w S ((cs.drop 1).take 1) x.amount)
    : Rp.transfer.rel w S cs x := by
  show (Rp.pair Rp.str (Rp.int .u64)).rel w S cs (x.to_, x.amount)
  simp only [Rp.pair_iff]
  refine ⟨?_, ?_⟩
  · refine cast (congrArg (fun l => Rp.str.rel w S l x.to_) ?_) h0
    first | rfl | (simp only [List.drop_drop]; rfl)
  · refine cast (congrArg (fun l => (Rp.int .u64).rel w S l x.amount) ?_) h1
    have e : cs.drop 1 = (cs.drop 1).take 1 := (List.take_of_length_le (by simp [hl])).symm
    refine e.symm.trans ?_
    first | rfl | (simp only [List.drop_drop]; rfl)
structure MTx where
  sender : ByteArray
  sequence : Int
  gas : Int
  fee : Int
  memo : ByteArray
  transfers : List MTransfer
  deriving DecidableEq, Inhabited
def Rp.tx : Rp MTx := Rp.via (fun x => (x.sender, x.sequence, x.gas, x.fee, x.memo, x.transfers)) (Rp.pair Rp.str (Rp.pair (Rp.int .u64) (Rp.pair (Rp.int .u64) (Rp.pair (Rp.int .u64) (Rp.pair Rp.str (Rp.slice Rp.transfer))))))
theorem Rp.tx_size : Rp.tx.size = 6 := rfl
theorem Rp.tx_fields {w : World} {S : Fp} {cs : List Value} {x : MTx} (h : Rp.tx.rel w S cs x) :
    Rp.str.rel w S ((cs.drop 0).take 1) x.sender ∧
    (Rp.int .u64).rel w S ((cs.drop 1).take 1) x.sequence ∧
    (Rp.int .u64).rel w S ((cs.drop 2).take 1) x.gas ∧
    (Rp.int .u64).rel w S ((cs.drop 3).take 1) x.fee ∧
    Rp.str.rel w S ((cs.drop 4).take 1) x.memo ∧
    (Rp.slice Rp.transfer).rel w S ((cs.drop 5).take 1) x.transfers := by
  have hl : cs.length = 6 := Rp.tx.len h
  have h : (Rp.pair Rp.str (Rp.pair (Rp.int .u64) (Rp.pair (Rp.int .u64) (Rp.pair (Rp.int .u64) (Rp.pair Rp.str (Rp.slice Rp.transfer)))))).rel w S cs (x.sender, x.sequence, x.gas, x.fee, x.memo, x.transfers) := h
  simp only [Rp.pair_iff] at h
  obtain ⟨h0, h1, h2, h3, h4, h5⟩ := h
  refine ⟨?_, ?_, ?_, ?_, ?_, ?_⟩
  · refine cast (congrArg (fun l => Rp.str.rel w S l x.sender) ?_) h0
    first | rfl | (simp only [List.drop_drop]; rfl)
  · refine cast (congrArg (fun l => (Rp.int .u64).rel w S l x.sequence) ?_) h1
    first | rfl | (simp only [List.drop_drop]; rfl)
  · refine cast (congrArg (fun l => (Rp.int .u64).rel w S l x.gas) ?_) h2
    first | rfl | (simp only [List.drop_drop]; rfl)
  · refine cast (congrArg (fun l => (Rp.int .u64).rel w S l x.fee) ?_) h3
    first | rfl | (simp only [List.drop_drop]; rfl)
  · refine cast (congrArg (fun l => Rp.str.rel w S l x.memo) ?_) h4
    first | rfl | (simp only [List.drop_drop]; rfl)
  · refine cast (congrArg (fun l => (Rp.slice Rp.transfer).rel w S l x.transfers) ?_) h5
    have e : cs.drop 5 = (cs.drop 5).take 1 := (List.take_of_length_le (by simp [hl])).symm
    refine Eq.trans ?_ e
    first | rfl | (simp only [List.drop_drop]; rfl)
theorem Rp.tx_mk {w : World} {S : Fp} {cs : List Value} {x : MTx} (hl : cs.length = 6)
    (h0 : Rp.str.rel w S ((cs.drop 0).take 1) x.sender)
    (h1 : (Rp.int .u64).rel w S ((cs.drop 1).take 1) x.sequence)
    (h2 : (Rp.int .u64).rel w S ((cs.drop 2).take 1) x.gas)
    (h3 : (Rp.int .u64).rel w S ((cs.drop 3).take 1) x.fee)
    (h4 : Rp.str.rel w S ((cs.drop 4).take 1) x.memo)
    (h5 : (Rp.slice Rp.transfer).rel w S ((cs.drop 5).take 1) x.transfers)
    : Rp.tx.rel w S cs x := by
  show (Rp.pair Rp.str (Rp.pair (Rp.int .u64) (Rp.pair (Rp.int .u64) (Rp.pair (Rp.int .u64) (Rp.pair Rp.str (Rp.slice Rp.transfer)))))).rel w S cs (x.sender, x.sequence, x.gas, x.fee, x.memo, x.transfers)
  simp only [Rp.pair_iff]
  refine ⟨?_, ?_, ?_, ?_, ?_, ?_⟩
  · refine cast (congrArg (fun l => Rp.str.rel w S l x.sender) ?_) h0
    first | rfl | (simp only [List.drop_drop]; rfl)
  · refine cast (congrArg (fun l => (Rp.int .u64).rel w S l x.sequence) ?_) h1
    first | rfl | (simp only [List.drop_drop]; rfl)
  · refine cast (congrArg (fun l => (Rp.int .u64).rel w S l x.gas) ?_) h2
    first | rfl | (simp only [List.drop_drop]; rfl)
  · refine cast (congrArg (fun l => (Rp.int .u64).rel w S l x.fee) ?_) h3
    first | rfl | (simp only [List.drop_drop]; rfl)
  · refine cast (congrArg (fun l => Rp.str.rel w S l x.memo) ?_) h4
    first | rfl | (simp only [List.drop_drop]; rfl)
  · refine cast (congrArg (fun l => (Rp.slice Rp.transfer).rel w S l x.transfers) ?_) h5
    have e : cs.drop 5 = (cs.drop 5).take 1 := (List.take_of_length_le (by simp [hl])).symm
    refine e.symm.trans ?_
    first | rfl | (simp only [List.drop_drop]; rfl)
structure MResult where
  code : Int
  sender : ByteArray
  sequence : Int
  gas : Int
  priority : Int
  deriving DecidableEq, Inhabited
def Rp.result : Rp MResult := Rp.via (fun x => (x.code, x.sender, x.sequence, x.gas, x.priority)) (Rp.pair (Rp.int .i64) (Rp.pair Rp.str (Rp.pair (Rp.int .u64) (Rp.pair (Rp.int .u64) (Rp.int .u64)))))
theorem Rp.result_size : Rp.result.size = 5 := rfl
theorem Rp.result_fields {w : World} {S : Fp} {cs : List Value} {x : MResult} (h : Rp.result.rel w S cs x) :
    (Rp.int .i64).rel w S ((cs.drop 0).take 1) x.code ∧
    Rp.str.rel w S ((cs.drop 1).take 1) x.sender ∧
    (Rp.int .u64).rel w S ((cs.drop 2).take 1) x.sequence ∧
    (Rp.int .u64).rel w S ((cs.drop 3).take 1) x.gas ∧
    (Rp.int .u64).rel w S ((cs.drop 4).take 1) x.priority := by
  have hl : cs.length = 5 := Rp.result.len h
  have h : (Rp.pair (Rp.int .i64) (Rp.pair Rp.str (Rp.pair (Rp.int .u64) (Rp.pair (Rp.int .u64) (Rp.int .u64))))).rel w S cs (x.code, x.sender, x.sequence, x.gas, x.priority) := h
  simp only [Rp.pair_iff] at h
  obtain ⟨h0, h1, h2, h3, h4⟩ := h
  refine ⟨?_, ?_, ?_, ?_, ?_⟩
  · refine cast (congrArg (fun l => (Rp.int .i64).rel w S l x.code) ?_) h0
    first | rfl | (simp only [List.drop_drop]; rfl)
  · refine cast (congrArg (fun l => Rp.str.rel w S l x.sender) ?_) h1
    first | rfl | (simp only [List.drop_drop]; rfl)
  · refine cast (congrArg (fun l => (Rp.int .u64).rel w S l x.sequence) ?_) h2
    first | rfl | (simp only [List.drop_drop]; rfl)
  · refine cast (congrArg (fun l => (Rp.int .u64).rel w S l x.gas) ?_) h3
    first | rfl | (simp only [List.drop_drop]; rfl)
  · refine cast (congrArg (fun l => (Rp.int .u64).rel w S l x.priority) ?_) h4
    have e : cs.drop 4 = (cs.drop 4).take 1 := (List.take_of_length_le (by simp [hl])).symm
    refine Eq.trans ?_ e
    first | rfl | (simp only [List.drop_drop]; rfl)
theorem Rp.result_mk {w : World} {S : Fp} {cs : List Value} {x : MResult} (hl : cs.length = 5)
    (h0 : (Rp.int .i64).rel w S ((cs.drop 0).take 1) x.code)
    (h1 : Rp.str.rel w S ((cs.drop 1).take 1) x.sender)
    (h2 : (Rp.int .u64).rel w S ((cs.drop 2).take 1) x.sequence)
    (h3 : (Rp.int .u64).rel w S ((cs.drop 3).take 1) x.gas)
    (h4 : (Rp.int .u64).rel w S ((cs.drop 4).take 1) x.priority)
    : Rp.result.rel w S cs x := by
  show (Rp.pair (Rp.int .i64) (Rp.pair Rp.str (Rp.pair (Rp.int .u64) (Rp.pair (Rp.int .u64) (Rp.int .u64))))).rel w S cs (x.code, x.sender, x.sequence, x.gas, x.priority)
  simp only [Rp.pair_iff]
  refine ⟨?_, ?_, ?_, ?_, ?_⟩
  · refine cast (congrArg (fun l => (Rp.int .i64).rel w S l x.code) ?_) h0
    first | rfl | (simp only [List.drop_drop]; rfl)
  · refine cast (congrArg (fun l => Rp.str.rel w S l x.sender) ?_) h1
    first | rfl | (simp only [List.drop_drop]; rfl)
  · refine cast (congrArg (fun l => (Rp.int .u64).rel w S l x.sequence) ?_) h2
    first | rfl | (simp only [List.drop_drop]; rfl)
  · refine cast (congrArg (fun l => (Rp.int .u64).rel w S l x.gas) ?_) h3
    first | rfl | (simp only [List.drop_drop]; rfl)
  · refine cast (congrArg (fun l => (Rp.int .u64).rel w S l x.priority) ?_) h4
    have e : cs.drop 4 = (cs.drop 4).take 1 := (List.take_of_length_le (by simp [hl])).symm
    refine e.symm.trans ?_
    first | rfl | (simp only [List.drop_drop]; rfl)
structure MApp where
  committed : MLedger
  check : MLedger
  next : MLedger
  open_ : Bool
  price : Int
  deriving DecidableEq, Inhabited
def Rp.app : Rp MApp := Rp.via (fun x => (x.committed, x.check, x.next, x.open_, x.price)) (Rp.pair Rp.ledger (Rp.pair Rp.ledger (Rp.pair Rp.ledger (Rp.pair Rp.bool (Rp.int .u64)))))
theorem Rp.app_size : Rp.app.size = 8 := rfl
theorem Rp.app_fields {w : World} {S : Fp} {cs : List Value} {x : MApp} (h : Rp.app.rel w S cs x) :
    Rp.ledger.rel w S ((cs.drop 0).take 2) x.committed ∧
    Rp.ledger.rel w S ((cs.drop 2).take 2) x.check ∧
    Rp.ledger.rel w S ((cs.drop 4).take 2) x.next ∧
    Rp.bool.rel w S ((cs.drop 6).take 1) x.open_ ∧
    (Rp.int .u64).rel w S ((cs.drop 7).take 1) x.price := by
  have hl : cs.length = 8 := Rp.app.len h
  have h : (Rp.pair Rp.ledger (Rp.pair Rp.ledger (Rp.pair Rp.ledger (Rp.pair Rp.bool (Rp.int .u64))))).rel w S cs (x.committed, x.check, x.next, x.open_, x.price) := h
  simp only [Rp.pair_iff] at h
  obtain ⟨h0, h1, h2, h3, h4⟩ := h
  refine ⟨?_, ?_, ?_, ?_, ?_⟩
  · refine cast (congrArg (fun l => Rp.ledger.rel w S l x.committed) ?_) h0
    first | rfl | (simp only [List.drop_drop]; rfl)
  · refine cast (congrArg (fun l => Rp.ledger.rel w S l x.check) ?_) h1
    first | rfl | (simp only [List.drop_drop]; rfl)
  · refine cast (congrArg (fun l => Rp.ledger.rel w S l x.next) ?_) h2
    first | rfl | (simp only [List.drop_drop]; rfl)
  · refine cast (congrArg (fun l => Rp.bool.rel w S l x.open_) ?_) h3
    first | rfl | (simp only [List.drop_drop]; rfl)
  · refine cast (congrArg (fun l => (Rp.int .u64).rel w S l x.price) ?_) h4
    have e : cs.drop 7 = (cs.drop 7).take 1 := (List.take_of_length_le (by simp [hl])).symm
    refine Eq.trans ?_ e
    first | rfl | (simp only [List.drop_drop]; rfl)
theorem Rp.app_mk {w : World} {S : Fp} {cs : List Value} {x : MApp} (hl : cs.length = 8)
    (h0 : Rp.ledger.rel w S ((cs.drop 0).take 2) x.committed)
    (h1 : Rp.ledger.rel w S ((cs.drop 2).take 2) x.check)
    (h2 : Rp.ledger.rel w S ((cs.drop 4).take 2) x.next)
    (h3 : Rp.bool.rel w S ((cs.drop 6).take 1) x.open_)
    (h4 : (Rp.int .u64).rel w S ((cs.drop 7).take 1) x.price)
    : Rp.app.rel w S cs x := by
  show (Rp.pair Rp.ledger (Rp.pair Rp.ledger (Rp.pair Rp.ledger (Rp.pair Rp.bool (Rp.int .u64))))).rel w S cs (x.committed, x.check, x.next, x.open_, x.price)
  simp only [Rp.pair_iff]
  refine ⟨?_, ?_, ?_, ?_, ?_⟩
  · refine cast (congrArg (fun l => Rp.ledger.rel w S l x.committed) ?_) h0
    first | rfl | (simp only [List.drop_drop]; rfl)
  · refine cast (congrArg (fun l => Rp.ledger.rel w S l x.check) ?_) h1
    first | rfl | (simp only [List.drop_drop]; rfl)
  · refine cast (congrArg (fun l => Rp.ledger.rel w S l x.next) ?_) h2
    first | rfl | (simp only [List.drop_drop]; rfl)
  · refine cast (congrArg (fun l => Rp.bool.rel w S l x.open_) ?_) h3
    first | rfl | (simp only [List.drop_drop]; rfl)
  · refine cast (congrArg (fun l => (Rp.int .u64).rel w S l x.price) ?_) h4
    have e : cs.drop 7 = (cs.drop 7).take 1 := (List.take_of_length_le (by simp [hl])).symm
    refine e.symm.trans ?_
    first | rfl | (simp only [List.drop_drop]; rfl)
structure MConfig where
  maxTxs : Int
  maxBytes : Int
  maxTxBytes : Int
  cacheSize : Int
  ttlBlocks : Int
  ttlTime : Int
  keepInvalid : Bool
  blockBytes : Int
  blockGas : Int
  price : Int
  self : Int
  nodes : Int
  deriving DecidableEq, Inhabited
def Rp.config : Rp MConfig := Rp.via (fun x => (x.maxTxs, x.maxBytes, x.maxTxBytes, x.cacheSize, x.ttlBlocks, x.ttlTime, x.keepInvalid, x.blockBytes, x.blockGas, x.price, x.self, x.nodes)) (Rp.pair (Rp.int .i64) (Rp.pair (Rp.int .i64) (Rp.pair (Rp.int .i64) (Rp.pair (Rp.int .i64) (Rp.pair (Rp.int .i64) (Rp.pair (Rp.int .i64) (Rp.pair Rp.bool (Rp.pair (Rp.int .i64) (Rp.pair (Rp.int .i64) (Rp.pair (Rp.int .u64) (Rp.pair (Rp.int .i64) (Rp.int .i64))))))))))))
theorem Rp.config_size : Rp.config.size = 12 := rfl
theorem Rp.config_fields {w : World} {S : Fp} {cs : List Value} {x : MConfig} (h : Rp.config.rel w S cs x) :
    (Rp.int .i64).rel w S ((cs.drop 0).take 1) x.maxTxs ∧
    (Rp.int .i64).rel w S ((cs.drop 1).take 1) x.maxBytes ∧
    (Rp.int .i64).rel w S ((cs.drop 2).take 1) x.maxTxBytes ∧
    (Rp.int .i64).rel w S ((cs.drop 3).take 1) x.cacheSize ∧
    (Rp.int .i64).rel w S ((cs.drop 4).take 1) x.ttlBlocks ∧
    (Rp.int .i64).rel w S ((cs.drop 5).take 1) x.ttlTime ∧
    Rp.bool.rel w S ((cs.drop 6).take 1) x.keepInvalid ∧
    (Rp.int .i64).rel w S ((cs.drop 7).take 1) x.blockBytes ∧
    (Rp.int .i64).rel w S ((cs.drop 8).take 1) x.blockGas ∧
    (Rp.int .u64).rel w S ((cs.drop 9).take 1) x.price ∧
    (Rp.int .i64).rel w S ((cs.drop 10).take 1) x.self ∧
    (Rp.int .i64).rel w S ((cs.drop 11).take 1) x.nodes := by
  have hl : cs.length = 12 := Rp.config.len h
  have h : (Rp.pair (Rp.int .i64) (Rp.pair (Rp.int .i64) (Rp.pair (Rp.int .i64) (Rp.pair (Rp.int .i64) (Rp.pair (Rp.int .i64) (Rp.pair (Rp.int .i64) (Rp.pair Rp.bool (Rp.pair (Rp.int .i64) (Rp.pair (Rp.int .i64) (Rp.pair (Rp.int .u64) (Rp.pair (Rp.int .i64) (Rp.int .i64)))))))))))).rel w S cs (x.maxTxs, x.maxBytes, x.maxTxBytes, x.cacheSize, x.ttlBlocks, x.ttlTime, x.keepInvalid, x.blockBytes, x.blockGas, x.price, x.self, x.nodes) := h
  simp only [Rp.pair_iff] at h
  obtain ⟨h0, h1, h2, h3, h4, h5, h6, h7, h8, h9, h10, h11⟩ := h
  refine ⟨?_, ?_, ?_, ?_, ?_, ?_, ?_, ?_, ?_, ?_, ?_, ?_⟩
  · refine cast (congrArg (fun l => (Rp.int .i64).rel w S l x.maxTxs) ?_) h0
    first | rfl | (simp only [List.drop_drop]; rfl)
  · refine cast (congrArg (fun l => (Rp.int .i64).rel w S l x.maxBytes) ?_) h1
    first | rfl | (simp only [List.drop_drop]; rfl)
  · refine cast (congrArg (fun l => (Rp.int .i64).rel w S l x.maxTxBytes) ?_) h2
    first | rfl | (simp only [List.drop_drop]; rfl)
  · refine cast (congrArg (fun l => (Rp.int .i64).rel w S l x.cacheSize) ?_) h3
    first | rfl | (simp only [List.drop_drop]; rfl)
  · refine cast (congrArg (fun l => (Rp.int .i64).rel w S l x.ttlBlocks) ?_) h4
    first | rfl | (simp only [List.drop_drop]; rfl)
  · refine cast (congrArg (fun l => (Rp.int .i64).rel w S l x.ttlTime) ?_) h5
    first | rfl | (simp only [List.drop_drop]; rfl)
  · refine cast (congrArg (fun l => Rp.bool.rel w S l x.keepInvalid) ?_) h6
    first | rfl | (simp only [List.drop_drop]; rfl)
  · refine cast (congrArg (fun l => (Rp.int .i64).rel w S l x.blockBytes) ?_) h7
    first | rfl | (simp only [List.drop_drop]; rfl)
  · refine cast (congrArg (fun l => (Rp.int .i64).rel w S l x.blockGas) ?_) h8
    first | rfl | (simp only [List.drop_drop]; rfl)
  · refine cast (congrArg (fun l => (Rp.int .u64).rel w S l x.price) ?_) h9
    first | rfl | (simp only [List.drop_drop]; rfl)
  · refine cast (congrArg (fun l => (Rp.int .i64).rel w S l x.self) ?_) h10
    first | rfl | (simp only [List.drop_drop]; rfl)
  · refine cast (congrArg (fun l => (Rp.int .i64).rel w S l x.nodes) ?_) h11
    have e : cs.drop 11 = (cs.drop 11).take 1 := (List.take_of_length_le (by simp [hl])).symm
    refine Eq.trans ?_ e
    first | rfl | (simp only [List.drop_drop]; rfl)
theorem Rp.config_mk {w : World} {S : Fp} {cs : List Value} {x : MConfig} (hl : cs.length = 12)
    (h0 : (Rp.int .i64).rel w S ((cs.drop 0).take 1) x.maxTxs)
    (h1 : (Rp.int .i64).rel w S ((cs.drop 1).take 1) x.maxBytes)
    (h2 : (Rp.int .i64).rel w S ((cs.drop 2).take 1) x.maxTxBytes)
    (h3 : (Rp.int .i64).rel w S ((cs.drop 3).take 1) x.cacheSize)
    (h4 : (Rp.int .i64).rel w S ((cs.drop 4).take 1) x.ttlBlocks)
    (h5 : (Rp.int .i64).rel w S ((cs.drop 5).take 1) x.ttlTime)
    (h6 : Rp.bool.rel w S ((cs.drop 6).take 1) x.keepInvalid)
    (h7 : (Rp.int .i64).rel w S ((cs.drop 7).take 1) x.blockBytes)
    (h8 : (Rp.int .i64).rel w S ((cs.drop 8).take 1) x.blockGas)
    (h9 : (Rp.int .u64).rel w S ((cs.drop 9).take 1) x.price)
    (h10 : (Rp.int .i64).rel w S ((cs.drop 10).take 1) x.self)
    (h11 : (Rp.int .i64).rel w S ((cs.drop 11).take 1) x.nodes)
    : Rp.config.rel w S cs x := by
  show (Rp.pair (Rp.int .i64) (Rp.pair (Rp.int .i64) (Rp.pair (Rp.int .i64) (Rp.pair (Rp.int .i64) (Rp.pair (Rp.int .i64) (Rp.pair (Rp.int .i64) (Rp.pair Rp.bool (Rp.pair (Rp.int .i64) (Rp.pair (Rp.int .i64) (Rp.pair (Rp.int .u64) (Rp.pair (Rp.int .i64) (Rp.int .i64)))))))))))).rel w S cs (x.maxTxs, x.maxBytes, x.maxTxBytes, x.cacheSize, x.ttlBlocks, x.ttlTime, x.keepInvalid, x.blockBytes, x.blockGas, x.price, x.self, x.nodes)
  simp only [Rp.pair_iff]
  refine ⟨?_, ?_, ?_, ?_, ?_, ?_, ?_, ?_, ?_, ?_, ?_, ?_⟩
  · refine cast (congrArg (fun l => (Rp.int .i64).rel w S l x.maxTxs) ?_) h0
    first | rfl | (simp only [List.drop_drop]; rfl)
  · refine cast (congrArg (fun l => (Rp.int .i64).rel w S l x.maxBytes) ?_) h1
    first | rfl | (simp only [List.drop_drop]; rfl)
  · refine cast (congrArg (fun l => (Rp.int .i64).rel w S l x.maxTxBytes) ?_) h2
    first | rfl | (simp only [List.drop_drop]; rfl)
  · refine cast (congrArg (fun l => (Rp.int .i64).rel w S l x.cacheSize) ?_) h3
    first | rfl | (simp only [List.drop_drop]; rfl)
  · refine cast (congrArg (fun l => (Rp.int .i64).rel w S l x.ttlBlocks) ?_) h4
    first | rfl | (simp only [List.drop_drop]; rfl)
  · refine cast (congrArg (fun l => (Rp.int .i64).rel w S l x.ttlTime) ?_) h5
    first | rfl | (simp only [List.drop_drop]; rfl)
  · refine cast (congrArg (fun l => Rp.bool.rel w S l x.keepInvalid) ?_) h6
    first | rfl | (simp only [List.drop_drop]; rfl)
  · refine cast (congrArg (fun l => (Rp.int .i64).rel w S l x.blockBytes) ?_) h7
    first | rfl | (simp only [List.drop_drop]; rfl)
  · refine cast (congrArg (fun l => (Rp.int .i64).rel w S l x.blockGas) ?_) h8
    first | rfl | (simp only [List.drop_drop]; rfl)
  · refine cast (congrArg (fun l => (Rp.int .u64).rel w S l x.price) ?_) h9
    first | rfl | (simp only [List.drop_drop]; rfl)
  · refine cast (congrArg (fun l => (Rp.int .i64).rel w S l x.self) ?_) h10
    first | rfl | (simp only [List.drop_drop]; rfl)
  · refine cast (congrArg (fun l => (Rp.int .i64).rel w S l x.nodes) ?_) h11
    have e : cs.drop 11 = (cs.drop 11).take 1 := (List.take_of_length_le (by simp [hl])).symm
    refine e.symm.trans ?_
    first | rfl | (simp only [List.drop_drop]; rfl)
structure MItem where
  id : Int
  priority : Int
  order : Int
  deriving DecidableEq, Inhabited
def Rp.item : Rp MItem := Rp.via (fun x => (x.id, x.priority, x.order)) (Rp.pair (Rp.int .i64) (Rp.pair (Rp.int .u64) (Rp.int .i64)))
theorem Rp.item_size : Rp.item.size = 3 := rfl
theorem Rp.item_fields {w : World} {S : Fp} {cs : List Value} {x : MItem} (h : Rp.item.rel w S cs x) :
    (Rp.int .i64).rel w S ((cs.drop 0).take 1) x.id ∧
    (Rp.int .u64).rel w S ((cs.drop 1).take 1) x.priority ∧
    (Rp.int .i64).rel w S ((cs.drop 2).take 1) x.order := by
  have hl : cs.length = 3 := Rp.item.len h
  have h : (Rp.pair (Rp.int .i64) (Rp.pair (Rp.int .u64) (Rp.int .i64))).rel w S cs (x.id, x.priority, x.order) := h
  simp only [Rp.pair_iff] at h
  obtain ⟨h0, h1, h2⟩ := h
  refine ⟨?_, ?_, ?_⟩
  · refine cast (congrArg (fun l => (Rp.int .i64).rel w S l x.id) ?_) h0
    first | rfl | (simp only [List.drop_drop]; rfl)
  · refine cast (congrArg (fun l => (Rp.int .u64).rel w S l x.priority) ?_) h1
    first | rfl | (simp only [List.drop_drop]; rfl)
  · refine cast (congrArg (fun l => (Rp.int .i64).rel w S l x.order) ?_) h2
    have e : cs.drop 2 = (cs.drop 2).take 1 := (List.take_of_length_le (by simp [hl])).symm
    refine Eq.trans ?_ e
    first | rfl | (simp only [List.drop_drop]; rfl)
theorem Rp.item_mk {w : World} {S : Fp} {cs : List Value} {x : MItem} (hl : cs.length = 3)
    (h0 : (Rp.int .i64).rel w S ((cs.drop 0).take 1) x.id)
    (h1 : (Rp.int .u64).rel w S ((cs.drop 1).take 1) x.priority)
    (h2 : (Rp.int .i64).rel w S ((cs.drop 2).take 1) x.order)
    : Rp.item.rel w S cs x := by
  show (Rp.pair (Rp.int .i64) (Rp.pair (Rp.int .u64) (Rp.int .i64))).rel w S cs (x.id, x.priority, x.order)
  simp only [Rp.pair_iff]
  refine ⟨?_, ?_, ?_⟩
  · refine cast (congrArg (fun l => (Rp.int .i64).rel w S l x.id) ?_) h0
    first | rfl | (simp only [List.drop_drop]; rfl)
  · refine cast (congrArg (fun l => (Rp.int .u64).rel w S l x.priority) ?_) h1
    first | rfl | (simp only [List.drop_drop]; rfl)
  · refine cast (congrArg (fun l => (Rp.int .i64).rel w S l x.order) ?_) h2
    have e : cs.drop 2 = (cs.drop 2).take 1 := (List.take_of_length_le (by simp [hl])).symm
    refine e.symm.trans ?_
    first | rfl | (simp only [List.drop_drop]; rfl)
structure MHandle where
  slot : Int
  use : Int
  deriving DecidableEq, Inhabited
def Rp.handle : Rp MHandle := Rp.via (fun x => (x.slot, x.use)) (Rp.pair (Rp.int .i64) (Rp.int .i64))
theorem Rp.handle_size : Rp.handle.size = 2 := rfl
theorem Rp.handle_fields {w : World} {S : Fp} {cs : List Value} {x : MHandle} (h : Rp.handle.rel w S cs x) :
    (Rp.int .i64).rel w S ((cs.drop 0).take 1) x.slot ∧
    (Rp.int .i64).rel w S ((cs.drop 1).take 1) x.use := by
  have hl : cs.length = 2 := Rp.handle.len h
  have h : (Rp.pair (Rp.int .i64) (Rp.int .i64)).rel w S cs (x.slot, x.use) := h
  simp only [Rp.pair_iff] at h
  obtain ⟨h0, h1⟩ := h
  refine ⟨?_, ?_⟩
  · refine cast (congrArg (fun l => (Rp.int .i64).rel w S l x.slot) ?_) h0
    first | rfl | (simp only [List.drop_drop]; rfl)
  · refine cast (congrArg (fun l => (Rp.int .i64).rel w S l x.use) ?_) h1
    have e : cs.drop 1 = (cs.drop 1).take 1 := (List.take_of_length_le (by simp [hl])).symm
    refine Eq.trans ?_ e
    first | rfl | (simp only [List.drop_drop]; rfl)
theorem Rp.handle_mk {w : World} {S : Fp} {cs : List Value} {x : MHandle} (hl : cs.length = 2)
    (h0 : (Rp.int .i64).rel w S ((cs.drop 0).take 1) x.slot)
    (h1 : (Rp.int .i64).rel w S ((cs.drop 1).take 1) x.use)
    : Rp.handle.rel w S cs x := by
  show (Rp.pair (Rp.int .i64) (Rp.int .i64)).rel w S cs (x.slot, x.use)
  simp only [Rp.pair_iff]
  refine ⟨?_, ?_⟩
  · refine cast (congrArg (fun l => (Rp.int .i64).rel w S l x.slot) ?_) h0
    first | rfl | (simp only [List.drop_drop]; rfl)
  · refine cast (congrArg (fun l => (Rp.int .i64).rel w S l x.use) ?_) h1
    have e : cs.drop 1 = (cs.drop 1).take 1 := (List.take_of_length_le (by simp [hl])).symm
    refine e.symm.trans ?_
    first | rfl | (simp only [List.drop_drop]; rfl)
structure MEntry where
  key : List Int
  raw : List Int
  sender : ByteArray
  sequence : Int
  gas : Int
  priority : Int
  height : Int
  time : Int
  order : Int
  peers : List Int
  deriving DecidableEq, Inhabited
def Rp.entry : Rp MEntry := Rp.via (fun x => (x.key, x.raw, x.sender, x.sequence, x.gas, x.priority, x.height, x.time, x.order, x.peers)) (Rp.pair Rp.key (Rp.pair Rp.bytes (Rp.pair Rp.str (Rp.pair (Rp.int .u64) (Rp.pair (Rp.int .u64) (Rp.pair (Rp.int .u64) (Rp.pair (Rp.int .i64) (Rp.pair (Rp.int .i64) (Rp.pair (Rp.int .i64) Rp.ints)))))))))
theorem Rp.entry_size : Rp.entry.size = 41 := rfl
theorem Rp.entry_fields {w : World} {S : Fp} {cs : List Value} {x : MEntry} (h : Rp.entry.rel w S cs x) :
    Rp.key.rel w S ((cs.drop 0).take 32) x.key ∧
    Rp.bytes.rel w S ((cs.drop 32).take 1) x.raw ∧
    Rp.str.rel w S ((cs.drop 33).take 1) x.sender ∧
    (Rp.int .u64).rel w S ((cs.drop 34).take 1) x.sequence ∧
    (Rp.int .u64).rel w S ((cs.drop 35).take 1) x.gas ∧
    (Rp.int .u64).rel w S ((cs.drop 36).take 1) x.priority ∧
    (Rp.int .i64).rel w S ((cs.drop 37).take 1) x.height ∧
    (Rp.int .i64).rel w S ((cs.drop 38).take 1) x.time ∧
    (Rp.int .i64).rel w S ((cs.drop 39).take 1) x.order ∧
    Rp.ints.rel w S ((cs.drop 40).take 1) x.peers := by
  have hl : cs.length = 41 := Rp.entry.len h
  have h : (Rp.pair Rp.key (Rp.pair Rp.bytes (Rp.pair Rp.str (Rp.pair (Rp.int .u64) (Rp.pair (Rp.int .u64) (Rp.pair (Rp.int .u64) (Rp.pair (Rp.int .i64) (Rp.pair (Rp.int .i64) (Rp.pair (Rp.int .i64) Rp.ints))))))))).rel w S cs (x.key, x.raw, x.sender, x.sequence, x.gas, x.priority, x.height, x.time, x.order, x.peers) := h
  simp only [Rp.pair_iff] at h
  obtain ⟨h0, h1, h2, h3, h4, h5, h6, h7, h8, h9⟩ := h
  refine ⟨?_, ?_, ?_, ?_, ?_, ?_, ?_, ?_, ?_, ?_⟩
  · refine cast (congrArg (fun l => Rp.key.rel w S l x.key) ?_) h0
    first | rfl | (simp only [List.drop_drop]; rfl)
  · refine cast (congrArg (fun l => Rp.bytes.rel w S l x.raw) ?_) h1
    first | rfl | (simp only [List.drop_drop]; rfl)
  · refine cast (congrArg (fun l => Rp.str.rel w S l x.sender) ?_) h2
    first | rfl | (simp only [List.drop_drop]; rfl)
  · refine cast (congrArg (fun l => (Rp.int .u64).rel w S l x.sequence) ?_) h3
    first | rfl | (simp only [List.drop_drop]; rfl)
  · refine cast (congrArg (fun l => (Rp.int .u64).rel w S l x.gas) ?_) h4
    first | rfl | (simp only [List.drop_drop]; rfl)
  · refine cast (congrArg (fun l => (Rp.int .u64).rel w S l x.priority) ?_) h5
    first | rfl | (simp only [List.drop_drop]; rfl)
  · refine cast (congrArg (fun l => (Rp.int .i64).rel w S l x.height) ?_) h6
    first | rfl | (simp only [List.drop_drop]; rfl)
  · refine cast (congrArg (fun l => (Rp.int .i64).rel w S l x.time) ?_) h7
    first | rfl | (simp only [List.drop_drop]; rfl)
  · refine cast (congrArg (fun l => (Rp.int .i64).rel w S l x.order) ?_) h8
    first | rfl | (simp only [List.drop_drop]; rfl)
  · refine cast (congrArg (fun l => Rp.ints.rel w S l x.peers) ?_) h9
    have e : cs.drop 40 = (cs.drop 40).take 1 := (List.take_of_length_le (by simp [hl])).symm
    refine Eq.trans ?_ e
    first | rfl | (simp only [List.drop_drop]; rfl)
theorem Rp.entry_mk {w : World} {S : Fp} {cs : List Value} {x : MEntry} (hl : cs.length = 41)
    (h0 : Rp.key.rel w S ((cs.drop 0).take 32) x.key)
    (h1 : Rp.bytes.rel w S ((cs.drop 32).take 1) x.raw)
    (h2 : Rp.str.rel w S ((cs.drop 33).take 1) x.sender)
    (h3 : (Rp.int .u64).rel w S ((cs.drop 34).take 1) x.sequence)
    (h4 : (Rp.int .u64).rel w S ((cs.drop 35).take 1) x.gas)
    (h5 : (Rp.int .u64).rel w S ((cs.drop 36).take 1) x.priority)
    (h6 : (Rp.int .i64).rel w S ((cs.drop 37).take 1) x.height)
    (h7 : (Rp.int .i64).rel w S ((cs.drop 38).take 1) x.time)
    (h8 : (Rp.int .i64).rel w S ((cs.drop 39).take 1) x.order)
    (h9 : Rp.ints.rel w S ((cs.drop 40).take 1) x.peers)
    : Rp.entry.rel w S cs x := by
  show (Rp.pair Rp.key (Rp.pair Rp.bytes (Rp.pair Rp.str (Rp.pair (Rp.int .u64) (Rp.pair (Rp.int .u64) (Rp.pair (Rp.int .u64) (Rp.pair (Rp.int .i64) (Rp.pair (Rp.int .i64) (Rp.pair (Rp.int .i64) Rp.ints))))))))).rel w S cs (x.key, x.raw, x.sender, x.sequence, x.gas, x.priority, x.height, x.time, x.order, x.peers)
  simp only [Rp.pair_iff]
  refine ⟨?_, ?_, ?_, ?_, ?_, ?_, ?_, ?_, ?_, ?_⟩
  · refine cast (congrArg (fun l => Rp.key.rel w S l x.key) ?_) h0
    first | rfl | (simp only [List.drop_drop]; rfl)
  · refine cast (congrArg (fun l => Rp.bytes.rel w S l x.raw) ?_) h1
    first | rfl | (simp only [List.drop_drop]; rfl)
  · refine cast (congrArg (fun l => Rp.str.rel w S l x.sender) ?_) h2
    first | rfl | (simp only [List.drop_drop]; rfl)
  · refine cast (congrArg (fun l => (Rp.int .u64).rel w S l x.sequence) ?_) h3
    first | rfl | (simp only [List.drop_drop]; rfl)
  · refine cast (congrArg (fun l => (Rp.int .u64).rel w S l x.gas) ?_) h4
    first | rfl | (simp only [List.drop_drop]; rfl)
  · refine cast (congrArg (fun l => (Rp.int .u64).rel w S l x.priority) ?_) h5
    first | rfl | (simp only [List.drop_drop]; rfl)
  · refine cast (congrArg (fun l => (Rp.int .i64).rel w S l x.height) ?_) h6
    first | rfl | (simp only [List.drop_drop]; rfl)
  · refine cast (congrArg (fun l => (Rp.int .i64).rel w S l x.time) ?_) h7
    first | rfl | (simp only [List.drop_drop]; rfl)
  · refine cast (congrArg (fun l => (Rp.int .i64).rel w S l x.order) ?_) h8
    first | rfl | (simp only [List.drop_drop]; rfl)
  · refine cast (congrArg (fun l => Rp.ints.rel w S l x.peers) ?_) h9
    have e : cs.drop 40 = (cs.drop 40).take 1 := (List.take_of_length_le (by simp [hl])).symm
    refine e.symm.trans ?_
    first | rfl | (simp only [List.drop_drop]; rfl)
structure MState where
  config : MConfig
  app : MApp
  height : Int
  time : Int
  arrived : Int
  entries : List MEntry
  cache : List (List Int)
  deriving DecidableEq, Inhabited
def Rp.state : Rp MState := Rp.via (fun x => (x.config, x.app, x.height, x.time, x.arrived, x.entries, x.cache)) (Rp.pair Rp.config (Rp.pair Rp.app (Rp.pair (Rp.int .i64) (Rp.pair (Rp.int .i64) (Rp.pair (Rp.int .i64) (Rp.pair (Rp.slice Rp.entry) (Rp.slice Rp.key)))))))
theorem Rp.state_size : Rp.state.size = 25 := rfl
theorem Rp.state_fields {w : World} {S : Fp} {cs : List Value} {x : MState} (h : Rp.state.rel w S cs x) :
    Rp.config.rel w S ((cs.drop 0).take 12) x.config ∧
    Rp.app.rel w S ((cs.drop 12).take 8) x.app ∧
    (Rp.int .i64).rel w S ((cs.drop 20).take 1) x.height ∧
    (Rp.int .i64).rel w S ((cs.drop 21).take 1) x.time ∧
    (Rp.int .i64).rel w S ((cs.drop 22).take 1) x.arrived ∧
    (Rp.slice Rp.entry).rel w S ((cs.drop 23).take 1) x.entries ∧
    (Rp.slice Rp.key).rel w S ((cs.drop 24).take 1) x.cache := by
  have hl : cs.length = 25 := Rp.state.len h
  have h : (Rp.pair Rp.config (Rp.pair Rp.app (Rp.pair (Rp.int .i64) (Rp.pair (Rp.int .i64) (Rp.pair (Rp.int .i64) (Rp.pair (Rp.slice Rp.entry) (Rp.slice Rp.key))))))).rel w S cs (x.config, x.app, x.height, x.time, x.arrived, x.entries, x.cache) := h
  simp only [Rp.pair_iff] at h
  obtain ⟨h0, h1, h2, h3, h4, h5, h6⟩ := h
  refine ⟨?_, ?_, ?_, ?_, ?_, ?_, ?_⟩
  · refine cast (congrArg (fun l => Rp.config.rel w S l x.config) ?_) h0
    first | rfl | (simp only [List.drop_drop]; rfl)
  · refine cast (congrArg (fun l => Rp.app.rel w S l x.app) ?_) h1
    first | rfl | (simp only [List.drop_drop]; rfl)
  · refine cast (congrArg (fun l => (Rp.int .i64).rel w S l x.height) ?_) h2
    first | rfl | (simp only [List.drop_drop]; rfl)
  · refine cast (congrArg (fun l => (Rp.int .i64).rel w S l x.time) ?_) h3
    first | rfl | (simp only [List.drop_drop]; rfl)
  · refine cast (congrArg (fun l => (Rp.int .i64).rel w S l x.arrived) ?_) h4
    first | rfl | (simp only [List.drop_drop]; rfl)
  · refine cast (congrArg (fun l => (Rp.slice Rp.entry).rel w S l x.entries) ?_) h5
    first | rfl | (simp only [List.drop_drop]; rfl)
  · refine cast (congrArg (fun l => (Rp.slice Rp.key).rel w S l x.cache) ?_) h6
    have e : cs.drop 24 = (cs.drop 24).take 1 := (List.take_of_length_le (by simp [hl])).symm
    refine Eq.trans ?_ e
    first | rfl | (simp only [List.drop_drop]; rfl)
theorem Rp.state_mk {w : World} {S : Fp} {cs : List Value} {x : MState} (hl : cs.length = 25)
    (h0 : Rp.config.rel w S ((cs.drop 0).take 12) x.config)
    (h1 : Rp.app.rel w S ((cs.drop 12).take 8) x.app)
    (h2 : (Rp.int .i64).rel w S ((cs.drop 20).take 1) x.height)
    (h3 : (Rp.int .i64).rel w S ((cs.drop 21).take 1) x.time)
    (h4 : (Rp.int .i64).rel w S ((cs.drop 22).take 1) x.arrived)
    (h5 : (Rp.slice Rp.entry).rel w S ((cs.drop 23).take 1) x.entries)
    (h6 : (Rp.slice Rp.key).rel w S ((cs.drop 24).take 1) x.cache)
    : Rp.state.rel w S cs x := by
  show (Rp.pair Rp.config (Rp.pair Rp.app (Rp.pair (Rp.int .i64) (Rp.pair (Rp.int .i64) (Rp.pair (Rp.int .i64) (Rp.pair (Rp.slice Rp.entry) (Rp.slice Rp.key))))))).rel w S cs (x.config, x.app, x.height, x.time, x.arrived, x.entries, x.cache)
  simp only [Rp.pair_iff]
  refine ⟨?_, ?_, ?_, ?_, ?_, ?_, ?_⟩
  · refine cast (congrArg (fun l => Rp.config.rel w S l x.config) ?_) h0
    first | rfl | (simp only [List.drop_drop]; rfl)
  · refine cast (congrArg (fun l => Rp.app.rel w S l x.app) ?_) h1
    first | rfl | (simp only [List.drop_drop]; rfl)
  · refine cast (congrArg (fun l => (Rp.int .i64).rel w S l x.height) ?_) h2
    first | rfl | (simp only [List.drop_drop]; rfl)
  · refine cast (congrArg (fun l => (Rp.int .i64).rel w S l x.time) ?_) h3
    first | rfl | (simp only [List.drop_drop]; rfl)
  · refine cast (congrArg (fun l => (Rp.int .i64).rel w S l x.arrived) ?_) h4
    first | rfl | (simp only [List.drop_drop]; rfl)
  · refine cast (congrArg (fun l => (Rp.slice Rp.entry).rel w S l x.entries) ?_) h5
    first | rfl | (simp only [List.drop_drop]; rfl)
  · refine cast (congrArg (fun l => (Rp.slice Rp.key).rel w S l x.cache) ?_) h6
    have e : cs.drop 24 = (cs.drop 24).take 1 := (List.take_of_length_le (by simp [hl])).symm
    refine e.symm.trans ?_
    first | rfl | (simp only [List.drop_drop]; rfl)
structure MReply where
  err : Int
  key : List Int
  priority : Int
  evicted : List (List Int)
  expired : List (List Int)
  invalid : List (List Int)
  done : List (List Int)
  flushed : List (List Int)
  txs : List (List Int)
  height : Int
  digest : List Int
  deriving DecidableEq, Inhabited
def Rp.reply : Rp MReply := Rp.via (fun x => (x.err, x.key, x.priority, x.evicted, x.expired, x.invalid, x.done, x.flushed, x.txs, x.height, x.digest)) (Rp.pair (Rp.int .i64) (Rp.pair Rp.key (Rp.pair (Rp.int .u64) (Rp.pair (Rp.slice Rp.key) (Rp.pair (Rp.slice Rp.key) (Rp.pair (Rp.slice Rp.key) (Rp.pair (Rp.slice Rp.key) (Rp.pair (Rp.slice Rp.key) (Rp.pair (Rp.slice Rp.bytes) (Rp.pair (Rp.int .i64) Rp.key))))))))))
theorem Rp.reply_size : Rp.reply.size = 73 := rfl
theorem Rp.reply_fields {w : World} {S : Fp} {cs : List Value} {x : MReply} (h : Rp.reply.rel w S cs x) :
    (Rp.int .i64).rel w S ((cs.drop 0).take 1) x.err ∧
    Rp.key.rel w S ((cs.drop 1).take 32) x.key ∧
    (Rp.int .u64).rel w S ((cs.drop 33).take 1) x.priority ∧
    (Rp.slice Rp.key).rel w S ((cs.drop 34).take 1) x.evicted ∧
    (Rp.slice Rp.key).rel w S ((cs.drop 35).take 1) x.expired ∧
    (Rp.slice Rp.key).rel w S ((cs.drop 36).take 1) x.invalid ∧
    (Rp.slice Rp.key).rel w S ((cs.drop 37).take 1) x.done ∧
    (Rp.slice Rp.key).rel w S ((cs.drop 38).take 1) x.flushed ∧
    (Rp.slice Rp.bytes).rel w S ((cs.drop 39).take 1) x.txs ∧
    (Rp.int .i64).rel w S ((cs.drop 40).take 1) x.height ∧
    Rp.key.rel w S ((cs.drop 41).take 32) x.digest := by
  have hl : cs.length = 73 := Rp.reply.len h
  have h : (Rp.pair (Rp.int .i64) (Rp.pair Rp.key (Rp.pair (Rp.int .u64) (Rp.pair (Rp.slice Rp.key) (Rp.pair (Rp.slice Rp.key) (Rp.pair (Rp.slice Rp.key) (Rp.pair (Rp.slice Rp.key) (Rp.pair (Rp.slice Rp.key) (Rp.pair (Rp.slice Rp.bytes) (Rp.pair (Rp.int .i64) Rp.key)))))))))).rel w S cs (x.err, x.key, x.priority, x.evicted, x.expired, x.invalid, x.done, x.flushed, x.txs, x.height, x.digest) := h
  simp only [Rp.pair_iff] at h
  obtain ⟨h0, h1, h2, h3, h4, h5, h6, h7, h8, h9, h10⟩ := h
  refine ⟨?_, ?_, ?_, ?_, ?_, ?_, ?_, ?_, ?_, ?_, ?_⟩
  · refine cast (congrArg (fun l => (Rp.int .i64).rel w S l x.err) ?_) h0
    first | rfl | (simp only [List.drop_drop]; rfl)
  · refine cast (congrArg (fun l => Rp.key.rel w S l x.key) ?_) h1
    first | rfl | (simp only [List.drop_drop]; rfl)
  · refine cast (congrArg (fun l => (Rp.int .u64).rel w S l x.priority) ?_) h2
    first | rfl | (simp only [List.drop_drop]; rfl)
  · refine cast (congrArg (fun l => (Rp.slice Rp.key).rel w S l x.evicted) ?_) h3
    first | rfl | (simp only [List.drop_drop]; rfl)
  · refine cast (congrArg (fun l => (Rp.slice Rp.key).rel w S l x.expired) ?_) h4
    first | rfl | (simp only [List.drop_drop]; rfl)
  · refine cast (congrArg (fun l => (Rp.slice Rp.key).rel w S l x.invalid) ?_) h5
    first | rfl | (simp only [List.drop_drop]; rfl)
  · refine cast (congrArg (fun l => (Rp.slice Rp.key).rel w S l x.done) ?_) h6
    first | rfl | (simp only [List.drop_drop]; rfl)
  · refine cast (congrArg (fun l => (Rp.slice Rp.key).rel w S l x.flushed) ?_) h7
    first | rfl | (simp only [List.drop_drop]; rfl)
  · refine cast (congrArg (fun l => (Rp.slice Rp.bytes).rel w S l x.txs) ?_) h8
    first | rfl | (simp only [List.drop_drop]; rfl)
  · refine cast (congrArg (fun l => (Rp.int .i64).rel w S l x.height) ?_) h9
    first | rfl | (simp only [List.drop_drop]; rfl)
  · refine cast (congrArg (fun l => Rp.key.rel w S l x.digest) ?_) h10
    have e : cs.drop 41 = (cs.drop 41).take 32 := (List.take_of_length_le (by simp [hl])).symm
    refine Eq.trans ?_ e
    first | rfl | (simp only [List.drop_drop]; rfl)
theorem Rp.reply_mk {w : World} {S : Fp} {cs : List Value} {x : MReply} (hl : cs.length = 73)
    (h0 : (Rp.int .i64).rel w S ((cs.drop 0).take 1) x.err)
    (h1 : Rp.key.rel w S ((cs.drop 1).take 32) x.key)
    (h2 : (Rp.int .u64).rel w S ((cs.drop 33).take 1) x.priority)
    (h3 : (Rp.slice Rp.key).rel w S ((cs.drop 34).take 1) x.evicted)
    (h4 : (Rp.slice Rp.key).rel w S ((cs.drop 35).take 1) x.expired)
    (h5 : (Rp.slice Rp.key).rel w S ((cs.drop 36).take 1) x.invalid)
    (h6 : (Rp.slice Rp.key).rel w S ((cs.drop 37).take 1) x.done)
    (h7 : (Rp.slice Rp.key).rel w S ((cs.drop 38).take 1) x.flushed)
    (h8 : (Rp.slice Rp.bytes).rel w S ((cs.drop 39).take 1) x.txs)
    (h9 : (Rp.int .i64).rel w S ((cs.drop 40).take 1) x.height)
    (h10 : Rp.key.rel w S ((cs.drop 41).take 32) x.digest)
    : Rp.reply.rel w S cs x := by
  show (Rp.pair (Rp.int .i64) (Rp.pair Rp.key (Rp.pair (Rp.int .u64) (Rp.pair (Rp.slice Rp.key) (Rp.pair (Rp.slice Rp.key) (Rp.pair (Rp.slice Rp.key) (Rp.pair (Rp.slice Rp.key) (Rp.pair (Rp.slice Rp.key) (Rp.pair (Rp.slice Rp.bytes) (Rp.pair (Rp.int .i64) Rp.key)))))))))).rel w S cs (x.err, x.key, x.priority, x.evicted, x.expired, x.invalid, x.done, x.flushed, x.txs, x.height, x.digest)
  simp only [Rp.pair_iff]
  refine ⟨?_, ?_, ?_, ?_, ?_, ?_, ?_, ?_, ?_, ?_, ?_⟩
  · refine cast (congrArg (fun l => (Rp.int .i64).rel w S l x.err) ?_) h0
    first | rfl | (simp only [List.drop_drop]; rfl)
  · refine cast (congrArg (fun l => Rp.key.rel w S l x.key) ?_) h1
    first | rfl | (simp only [List.drop_drop]; rfl)
  · refine cast (congrArg (fun l => (Rp.int .u64).rel w S l x.priority) ?_) h2
    first | rfl | (simp only [List.drop_drop]; rfl)
  · refine cast (congrArg (fun l => (Rp.slice Rp.key).rel w S l x.evicted) ?_) h3
    first | rfl | (simp only [List.drop_drop]; rfl)
  · refine cast (congrArg (fun l => (Rp.slice Rp.key).rel w S l x.expired) ?_) h4
    first | rfl | (simp only [List.drop_drop]; rfl)
  · refine cast (congrArg (fun l => (Rp.slice Rp.key).rel w S l x.invalid) ?_) h5
    first | rfl | (simp only [List.drop_drop]; rfl)
  · refine cast (congrArg (fun l => (Rp.slice Rp.key).rel w S l x.done) ?_) h6
    first | rfl | (simp only [List.drop_drop]; rfl)
  · refine cast (congrArg (fun l => (Rp.slice Rp.key).rel w S l x.flushed) ?_) h7
    first | rfl | (simp only [List.drop_drop]; rfl)
  · refine cast (congrArg (fun l => (Rp.slice Rp.bytes).rel w S l x.txs) ?_) h8
    first | rfl | (simp only [List.drop_drop]; rfl)
  · refine cast (congrArg (fun l => (Rp.int .i64).rel w S l x.height) ?_) h9
    first | rfl | (simp only [List.drop_drop]; rfl)
  · refine cast (congrArg (fun l => Rp.key.rel w S l x.digest) ?_) h10
    have e : cs.drop 41 = (cs.drop 41).take 32 := (List.take_of_length_le (by simp [hl])).symm
    refine e.symm.trans ?_
    first | rfl | (simp only [List.drop_drop]; rfl)
structure MHeader where
  height : Int
  time : Int
  proposer : Int
  parent : List Int
  txs : List Int
  app : List Int
  results : List Int
  deriving DecidableEq, Inhabited
def Rp.header : Rp MHeader := Rp.via (fun x => (x.height, x.time, x.proposer, x.parent, x.txs, x.app, x.results)) (Rp.pair (Rp.int .i64) (Rp.pair (Rp.int .i64) (Rp.pair (Rp.int .i64) (Rp.pair Rp.key (Rp.pair Rp.key (Rp.pair Rp.key Rp.key))))))
theorem Rp.header_size : Rp.header.size = 131 := rfl
theorem Rp.header_fields {w : World} {S : Fp} {cs : List Value} {x : MHeader} (h : Rp.header.rel w S cs x) :
    (Rp.int .i64).rel w S ((cs.drop 0).take 1) x.height ∧
    (Rp.int .i64).rel w S ((cs.drop 1).take 1) x.time ∧
    (Rp.int .i64).rel w S ((cs.drop 2).take 1) x.proposer ∧
    Rp.key.rel w S ((cs.drop 3).take 32) x.parent ∧
    Rp.key.rel w S ((cs.drop 35).take 32) x.txs ∧
    Rp.key.rel w S ((cs.drop 67).take 32) x.app ∧
    Rp.key.rel w S ((cs.drop 99).take 32) x.results := by
  have hl : cs.length = 131 := Rp.header.len h
  have h : (Rp.pair (Rp.int .i64) (Rp.pair (Rp.int .i64) (Rp.pair (Rp.int .i64) (Rp.pair Rp.key (Rp.pair Rp.key (Rp.pair Rp.key Rp.key)))))).rel w S cs (x.height, x.time, x.proposer, x.parent, x.txs, x.app, x.results) := h
  simp only [Rp.pair_iff] at h
  obtain ⟨h0, h1, h2, h3, h4, h5, h6⟩ := h
  refine ⟨?_, ?_, ?_, ?_, ?_, ?_, ?_⟩
  · refine cast (congrArg (fun l => (Rp.int .i64).rel w S l x.height) ?_) h0
    first | rfl | (simp only [List.drop_drop]; rfl)
  · refine cast (congrArg (fun l => (Rp.int .i64).rel w S l x.time) ?_) h1
    first | rfl | (simp only [List.drop_drop]; rfl)
  · refine cast (congrArg (fun l => (Rp.int .i64).rel w S l x.proposer) ?_) h2
    first | rfl | (simp only [List.drop_drop]; rfl)
  · refine cast (congrArg (fun l => Rp.key.rel w S l x.parent) ?_) h3
    first | rfl | (simp only [List.drop_drop]; rfl)
  · refine cast (congrArg (fun l => Rp.key.rel w S l x.txs) ?_) h4
    first | rfl | (simp only [List.drop_drop]; rfl)
  · refine cast (congrArg (fun l => Rp.key.rel w S l x.app) ?_) h5
    first | rfl | (simp only [List.drop_drop]; rfl)
  · refine cast (congrArg (fun l => Rp.key.rel w S l x.results) ?_) h6
    have e : cs.drop 99 = (cs.drop 99).take 32 := (List.take_of_length_le (by simp [hl])).symm
    refine Eq.trans ?_ e
    first | rfl | (simp only [List.drop_drop]; rfl)
theorem Rp.header_mk {w : World} {S : Fp} {cs : List Value} {x : MHeader} (hl : cs.length = 131)
    (h0 : (Rp.int .i64).rel w S ((cs.drop 0).take 1) x.height)
    (h1 : (Rp.int .i64).rel w S ((cs.drop 1).take 1) x.time)
    (h2 : (Rp.int .i64).rel w S ((cs.drop 2).take 1) x.proposer)
    (h3 : Rp.key.rel w S ((cs.drop 3).take 32) x.parent)
    (h4 : Rp.key.rel w S ((cs.drop 35).take 32) x.txs)
    (h5 : Rp.key.rel w S ((cs.drop 67).take 32) x.app)
    (h6 : Rp.key.rel w S ((cs.drop 99).take 32) x.results)
    : Rp.header.rel w S cs x := by
  show (Rp.pair (Rp.int .i64) (Rp.pair (Rp.int .i64) (Rp.pair (Rp.int .i64) (Rp.pair Rp.key (Rp.pair Rp.key (Rp.pair Rp.key Rp.key)))))).rel w S cs (x.height, x.time, x.proposer, x.parent, x.txs, x.app, x.results)
  simp only [Rp.pair_iff]
  refine ⟨?_, ?_, ?_, ?_, ?_, ?_, ?_⟩
  · refine cast (congrArg (fun l => (Rp.int .i64).rel w S l x.height) ?_) h0
    first | rfl | (simp only [List.drop_drop]; rfl)
  · refine cast (congrArg (fun l => (Rp.int .i64).rel w S l x.time) ?_) h1
    first | rfl | (simp only [List.drop_drop]; rfl)
  · refine cast (congrArg (fun l => (Rp.int .i64).rel w S l x.proposer) ?_) h2
    first | rfl | (simp only [List.drop_drop]; rfl)
  · refine cast (congrArg (fun l => Rp.key.rel w S l x.parent) ?_) h3
    first | rfl | (simp only [List.drop_drop]; rfl)
  · refine cast (congrArg (fun l => Rp.key.rel w S l x.txs) ?_) h4
    first | rfl | (simp only [List.drop_drop]; rfl)
  · refine cast (congrArg (fun l => Rp.key.rel w S l x.app) ?_) h5
    first | rfl | (simp only [List.drop_drop]; rfl)
  · refine cast (congrArg (fun l => Rp.key.rel w S l x.results) ?_) h6
    have e : cs.drop 99 = (cs.drop 99).take 32 := (List.take_of_length_le (by simp [hl])).symm
    refine e.symm.trans ?_
    first | rfl | (simp only [List.drop_drop]; rfl)
structure MBlock where
  header : MHeader
  txs : List (List Int)
  deriving DecidableEq, Inhabited
def Rp.block : Rp MBlock := Rp.via (fun x => (x.header, x.txs)) (Rp.pair Rp.header (Rp.slice Rp.bytes))
theorem Rp.block_size : Rp.block.size = 132 := rfl
theorem Rp.block_fields {w : World} {S : Fp} {cs : List Value} {x : MBlock} (h : Rp.block.rel w S cs x) :
    Rp.header.rel w S ((cs.drop 0).take 131) x.header ∧
    (Rp.slice Rp.bytes).rel w S ((cs.drop 131).take 1) x.txs := by
  have hl : cs.length = 132 := Rp.block.len h
  have h : (Rp.pair Rp.header (Rp.slice Rp.bytes)).rel w S cs (x.header, x.txs) := h
  simp only [Rp.pair_iff] at h
  obtain ⟨h0, h1⟩ := h
  refine ⟨?_, ?_⟩
  · refine cast (congrArg (fun l => Rp.header.rel w S l x.header) ?_) h0
    first | rfl | (simp only [List.drop_drop]; rfl)
  · refine cast (congrArg (fun l => (Rp.slice Rp.bytes).rel w S l x.txs) ?_) h1
    have e : cs.drop 131 = (cs.drop 131).take 1 := (List.take_of_length_le (by simp [hl])).symm
    refine Eq.trans ?_ e
    first | rfl | (simp only [List.drop_drop]; rfl)
theorem Rp.block_mk {w : World} {S : Fp} {cs : List Value} {x : MBlock} (hl : cs.length = 132)
    (h0 : Rp.header.rel w S ((cs.drop 0).take 131) x.header)
    (h1 : (Rp.slice Rp.bytes).rel w S ((cs.drop 131).take 1) x.txs)
    : Rp.block.rel w S cs x := by
  show (Rp.pair Rp.header (Rp.slice Rp.bytes)).rel w S cs (x.header, x.txs)
  simp only [Rp.pair_iff]
  refine ⟨?_, ?_⟩
  · refine cast (congrArg (fun l => Rp.header.rel w S l x.header) ?_) h0
    first | rfl | (simp only [List.drop_drop]; rfl)
  · refine cast (congrArg (fun l => (Rp.slice Rp.bytes).rel w S l x.txs) ?_) h1
    have e : cs.drop 131 = (cs.drop 131).take 1 := (List.take_of_length_le (by simp [hl])).symm
    refine e.symm.trans ?_
    first | rfl | (simp only [List.drop_drop]; rfl)
structure MTip where
  height : Int
  time : Int
  hash : List Int
  app : List Int
  results : List Int
  deriving DecidableEq, Inhabited
def Rp.tip : Rp MTip := Rp.via (fun x => (x.height, x.time, x.hash, x.app, x.results)) (Rp.pair (Rp.int .i64) (Rp.pair (Rp.int .i64) (Rp.pair Rp.key (Rp.pair Rp.key Rp.key))))
theorem Rp.tip_size : Rp.tip.size = 98 := rfl
theorem Rp.tip_fields {w : World} {S : Fp} {cs : List Value} {x : MTip} (h : Rp.tip.rel w S cs x) :
    (Rp.int .i64).rel w S ((cs.drop 0).take 1) x.height ∧
    (Rp.int .i64).rel w S ((cs.drop 1).take 1) x.time ∧
    Rp.key.rel w S ((cs.drop 2).take 32) x.hash ∧
    Rp.key.rel w S ((cs.drop 34).take 32) x.app ∧
    Rp.key.rel w S ((cs.drop 66).take 32) x.results := by
  have hl : cs.length = 98 := Rp.tip.len h
  have h : (Rp.pair (Rp.int .i64) (Rp.pair (Rp.int .i64) (Rp.pair Rp.key (Rp.pair Rp.key Rp.key)))).rel w S cs (x.height, x.time, x.hash, x.app, x.results) := h
  simp only [Rp.pair_iff] at h
  obtain ⟨h0, h1, h2, h3, h4⟩ := h
  refine ⟨?_, ?_, ?_, ?_, ?_⟩
  · refine cast (congrArg (fun l => (Rp.int .i64).rel w S l x.height) ?_) h0
    first | rfl | (simp only [List.drop_drop]; rfl)
  · refine cast (congrArg (fun l => (Rp.int .i64).rel w S l x.time) ?_) h1
    first | rfl | (simp only [List.drop_drop]; rfl)
  · refine cast (congrArg (fun l => Rp.key.rel w S l x.hash) ?_) h2
    first | rfl | (simp only [List.drop_drop]; rfl)
  · refine cast (congrArg (fun l => Rp.key.rel w S l x.app) ?_) h3
    first | rfl | (simp only [List.drop_drop]; rfl)
  · refine cast (congrArg (fun l => Rp.key.rel w S l x.results) ?_) h4
    have e : cs.drop 66 = (cs.drop 66).take 32 := (List.take_of_length_le (by simp [hl])).symm
    refine Eq.trans ?_ e
    first | rfl | (simp only [List.drop_drop]; rfl)
theorem Rp.tip_mk {w : World} {S : Fp} {cs : List Value} {x : MTip} (hl : cs.length = 98)
    (h0 : (Rp.int .i64).rel w S ((cs.drop 0).take 1) x.height)
    (h1 : (Rp.int .i64).rel w S ((cs.drop 1).take 1) x.time)
    (h2 : Rp.key.rel w S ((cs.drop 2).take 32) x.hash)
    (h3 : Rp.key.rel w S ((cs.drop 34).take 32) x.app)
    (h4 : Rp.key.rel w S ((cs.drop 66).take 32) x.results)
    : Rp.tip.rel w S cs x := by
  show (Rp.pair (Rp.int .i64) (Rp.pair (Rp.int .i64) (Rp.pair Rp.key (Rp.pair Rp.key Rp.key)))).rel w S cs (x.height, x.time, x.hash, x.app, x.results)
  simp only [Rp.pair_iff]
  refine ⟨?_, ?_, ?_, ?_, ?_⟩
  · refine cast (congrArg (fun l => (Rp.int .i64).rel w S l x.height) ?_) h0
    first | rfl | (simp only [List.drop_drop]; rfl)
  · refine cast (congrArg (fun l => (Rp.int .i64).rel w S l x.time) ?_) h1
    first | rfl | (simp only [List.drop_drop]; rfl)
  · refine cast (congrArg (fun l => Rp.key.rel w S l x.hash) ?_) h2
    first | rfl | (simp only [List.drop_drop]; rfl)
  · refine cast (congrArg (fun l => Rp.key.rel w S l x.app) ?_) h3
    first | rfl | (simp only [List.drop_drop]; rfl)
  · refine cast (congrArg (fun l => Rp.key.rel w S l x.results) ?_) h4
    have e : cs.drop 66 = (cs.drop 66).take 32 := (List.take_of_length_le (by simp [hl])).symm
    refine e.symm.trans ?_
    first | rfl | (simp only [List.drop_drop]; rfl)
structure MOp where
  kind : Int
  n : Int
  bytes : Int
  gas : Int
  raw : List Int
  deriving DecidableEq, Inhabited
def Rp.op : Rp MOp := Rp.via (fun x => (x.kind, x.n, x.bytes, x.gas, x.raw)) (Rp.pair (Rp.int .i64) (Rp.pair (Rp.int .i64) (Rp.pair (Rp.int .i64) (Rp.pair (Rp.int .i64) Rp.bytes))))
theorem Rp.op_size : Rp.op.size = 5 := rfl
theorem Rp.op_fields {w : World} {S : Fp} {cs : List Value} {x : MOp} (h : Rp.op.rel w S cs x) :
    (Rp.int .i64).rel w S ((cs.drop 0).take 1) x.kind ∧
    (Rp.int .i64).rel w S ((cs.drop 1).take 1) x.n ∧
    (Rp.int .i64).rel w S ((cs.drop 2).take 1) x.bytes ∧
    (Rp.int .i64).rel w S ((cs.drop 3).take 1) x.gas ∧
    Rp.bytes.rel w S ((cs.drop 4).take 1) x.raw := by
  have hl : cs.length = 5 := Rp.op.len h
  have h : (Rp.pair (Rp.int .i64) (Rp.pair (Rp.int .i64) (Rp.pair (Rp.int .i64) (Rp.pair (Rp.int .i64) Rp.bytes)))).rel w S cs (x.kind, x.n, x.bytes, x.gas, x.raw) := h
  simp only [Rp.pair_iff] at h
  obtain ⟨h0, h1, h2, h3, h4⟩ := h
  refine ⟨?_, ?_, ?_, ?_, ?_⟩
  · refine cast (congrArg (fun l => (Rp.int .i64).rel w S l x.kind) ?_) h0
    first | rfl | (simp only [List.drop_drop]; rfl)
  · refine cast (congrArg (fun l => (Rp.int .i64).rel w S l x.n) ?_) h1
    first | rfl | (simp only [List.drop_drop]; rfl)
  · refine cast (congrArg (fun l => (Rp.int .i64).rel w S l x.bytes) ?_) h2
    first | rfl | (simp only [List.drop_drop]; rfl)
  · refine cast (congrArg (fun l => (Rp.int .i64).rel w S l x.gas) ?_) h3
    first | rfl | (simp only [List.drop_drop]; rfl)
  · refine cast (congrArg (fun l => Rp.bytes.rel w S l x.raw) ?_) h4
    have e : cs.drop 4 = (cs.drop 4).take 1 := (List.take_of_length_le (by simp [hl])).symm
    refine Eq.trans ?_ e
    first | rfl | (simp only [List.drop_drop]; rfl)
theorem Rp.op_mk {w : World} {S : Fp} {cs : List Value} {x : MOp} (hl : cs.length = 5)
    (h0 : (Rp.int .i64).rel w S ((cs.drop 0).take 1) x.kind)
    (h1 : (Rp.int .i64).rel w S ((cs.drop 1).take 1) x.n)
    (h2 : (Rp.int .i64).rel w S ((cs.drop 2).take 1) x.bytes)
    (h3 : (Rp.int .i64).rel w S ((cs.drop 3).take 1) x.gas)
    (h4 : Rp.bytes.rel w S ((cs.drop 4).take 1) x.raw)
    : Rp.op.rel w S cs x := by
  show (Rp.pair (Rp.int .i64) (Rp.pair (Rp.int .i64) (Rp.pair (Rp.int .i64) (Rp.pair (Rp.int .i64) Rp.bytes)))).rel w S cs (x.kind, x.n, x.bytes, x.gas, x.raw)
  simp only [Rp.pair_iff]
  refine ⟨?_, ?_, ?_, ?_, ?_⟩
  · refine cast (congrArg (fun l => (Rp.int .i64).rel w S l x.kind) ?_) h0
    first | rfl | (simp only [List.drop_drop]; rfl)
  · refine cast (congrArg (fun l => (Rp.int .i64).rel w S l x.n) ?_) h1
    first | rfl | (simp only [List.drop_drop]; rfl)
  · refine cast (congrArg (fun l => (Rp.int .i64).rel w S l x.bytes) ?_) h2
    first | rfl | (simp only [List.drop_drop]; rfl)
  · refine cast (congrArg (fun l => (Rp.int .i64).rel w S l x.gas) ?_) h3
    first | rfl | (simp only [List.drop_drop]; rfl)
  · refine cast (congrArg (fun l => Rp.bytes.rel w S l x.raw) ?_) h4
    have e : cs.drop 4 = (cs.drop 4).take 1 := (List.take_of_length_le (by simp [hl])).symm
    refine e.symm.trans ?_
    first | rfl | (simp only [List.drop_drop]; rfl)
structure MCounts where
  submitted : Int
  refused : Int
  admitted : Int
  committed : Int
  evicted : Int
  expired : Int
  invalid : Int
  flushed : Int
  pending : Int
  deriving DecidableEq, Inhabited
def Rp.counts : Rp MCounts := Rp.via (fun x => (x.submitted, x.refused, x.admitted, x.committed, x.evicted, x.expired, x.invalid, x.flushed, x.pending)) (Rp.pair (Rp.int .i64) (Rp.pair (Rp.int .i64) (Rp.pair (Rp.int .i64) (Rp.pair (Rp.int .i64) (Rp.pair (Rp.int .i64) (Rp.pair (Rp.int .i64) (Rp.pair (Rp.int .i64) (Rp.pair (Rp.int .i64) (Rp.int .i64)))))))))
theorem Rp.counts_size : Rp.counts.size = 9 := rfl
theorem Rp.counts_fields {w : World} {S : Fp} {cs : List Value} {x : MCounts} (h : Rp.counts.rel w S cs x) :
    (Rp.int .i64).rel w S ((cs.drop 0).take 1) x.submitted ∧
    (Rp.int .i64).rel w S ((cs.drop 1).take 1) x.refused ∧
    (Rp.int .i64).rel w S ((cs.drop 2).take 1) x.admitted ∧
    (Rp.int .i64).rel w S ((cs.drop 3).take 1) x.committed ∧
    (Rp.int .i64).rel w S ((cs.drop 4).take 1) x.evicted ∧
    (Rp.int .i64).rel w S ((cs.drop 5).take 1) x.expired ∧
    (Rp.int .i64).rel w S ((cs.drop 6).take 1) x.invalid ∧
    (Rp.int .i64).rel w S ((cs.drop 7).take 1) x.flushed ∧
    (Rp.int .i64).rel w S ((cs.drop 8).take 1) x.pending := by
  have hl : cs.length = 9 := Rp.counts.len h
  have h : (Rp.pair (Rp.int .i64) (Rp.pair (Rp.int .i64) (Rp.pair (Rp.int .i64) (Rp.pair (Rp.int .i64) (Rp.pair (Rp.int .i64) (Rp.pair (Rp.int .i64) (Rp.pair (Rp.int .i64) (Rp.pair (Rp.int .i64) (Rp.int .i64))))))))).rel w S cs (x.submitted, x.refused, x.admitted, x.committed, x.evicted, x.expired, x.invalid, x.flushed, x.pending) := h
  simp only [Rp.pair_iff] at h
  obtain ⟨h0, h1, h2, h3, h4, h5, h6, h7, h8⟩ := h
  refine ⟨?_, ?_, ?_, ?_, ?_, ?_, ?_, ?_, ?_⟩
  · refine cast (congrArg (fun l => (Rp.int .i64).rel w S l x.submitted) ?_) h0
    first | rfl | (simp only [List.drop_drop]; rfl)
  · refine cast (congrArg (fun l => (Rp.int .i64).rel w S l x.refused) ?_) h1
    first | rfl | (simp only [List.drop_drop]; rfl)
  · refine cast (congrArg (fun l => (Rp.int .i64).rel w S l x.admitted) ?_) h2
    first | rfl | (simp only [List.drop_drop]; rfl)
  · refine cast (congrArg (fun l => (Rp.int .i64).rel w S l x.committed) ?_) h3
    first | rfl | (simp only [List.drop_drop]; rfl)
  · refine cast (congrArg (fun l => (Rp.int .i64).rel w S l x.evicted) ?_) h4
    first | rfl | (simp only [List.drop_drop]; rfl)
  · refine cast (congrArg (fun l => (Rp.int .i64).rel w S l x.expired) ?_) h5
    first | rfl | (simp only [List.drop_drop]; rfl)
  · refine cast (congrArg (fun l => (Rp.int .i64).rel w S l x.invalid) ?_) h6
    first | rfl | (simp only [List.drop_drop]; rfl)
  · refine cast (congrArg (fun l => (Rp.int .i64).rel w S l x.flushed) ?_) h7
    first | rfl | (simp only [List.drop_drop]; rfl)
  · refine cast (congrArg (fun l => (Rp.int .i64).rel w S l x.pending) ?_) h8
    have e : cs.drop 8 = (cs.drop 8).take 1 := (List.take_of_length_le (by simp [hl])).symm
    refine Eq.trans ?_ e
    first | rfl | (simp only [List.drop_drop]; rfl)
theorem Rp.counts_mk {w : World} {S : Fp} {cs : List Value} {x : MCounts} (hl : cs.length = 9)
    (h0 : (Rp.int .i64).rel w S ((cs.drop 0).take 1) x.submitted)
    (h1 : (Rp.int .i64).rel w S ((cs.drop 1).take 1) x.refused)
    (h2 : (Rp.int .i64).rel w S ((cs.drop 2).take 1) x.admitted)
    (h3 : (Rp.int .i64).rel w S ((cs.drop 3).take 1) x.committed)
    (h4 : (Rp.int .i64).rel w S ((cs.drop 4).take 1) x.evicted)
    (h5 : (Rp.int .i64).rel w S ((cs.drop 5).take 1) x.expired)
    (h6 : (Rp.int .i64).rel w S ((cs.drop 6).take 1) x.invalid)
    (h7 : (Rp.int .i64).rel w S ((cs.drop 7).take 1) x.flushed)
    (h8 : (Rp.int .i64).rel w S ((cs.drop 8).take 1) x.pending)
    : Rp.counts.rel w S cs x := by
  show (Rp.pair (Rp.int .i64) (Rp.pair (Rp.int .i64) (Rp.pair (Rp.int .i64) (Rp.pair (Rp.int .i64) (Rp.pair (Rp.int .i64) (Rp.pair (Rp.int .i64) (Rp.pair (Rp.int .i64) (Rp.pair (Rp.int .i64) (Rp.int .i64))))))))).rel w S cs (x.submitted, x.refused, x.admitted, x.committed, x.evicted, x.expired, x.invalid, x.flushed, x.pending)
  simp only [Rp.pair_iff]
  refine ⟨?_, ?_, ?_, ?_, ?_, ?_, ?_, ?_, ?_⟩
  · refine cast (congrArg (fun l => (Rp.int .i64).rel w S l x.submitted) ?_) h0
    first | rfl | (simp only [List.drop_drop]; rfl)
  · refine cast (congrArg (fun l => (Rp.int .i64).rel w S l x.refused) ?_) h1
    first | rfl | (simp only [List.drop_drop]; rfl)
  · refine cast (congrArg (fun l => (Rp.int .i64).rel w S l x.admitted) ?_) h2
    first | rfl | (simp only [List.drop_drop]; rfl)
  · refine cast (congrArg (fun l => (Rp.int .i64).rel w S l x.committed) ?_) h3
    first | rfl | (simp only [List.drop_drop]; rfl)
  · refine cast (congrArg (fun l => (Rp.int .i64).rel w S l x.evicted) ?_) h4
    first | rfl | (simp only [List.drop_drop]; rfl)
  · refine cast (congrArg (fun l => (Rp.int .i64).rel w S l x.expired) ?_) h5
    first | rfl | (simp only [List.drop_drop]; rfl)
  · refine cast (congrArg (fun l => (Rp.int .i64).rel w S l x.invalid) ?_) h6
    first | rfl | (simp only [List.drop_drop]; rfl)
  · refine cast (congrArg (fun l => (Rp.int .i64).rel w S l x.flushed) ?_) h7
    first | rfl | (simp only [List.drop_drop]; rfl)
  · refine cast (congrArg (fun l => (Rp.int .i64).rel w S l x.pending) ?_) h8
    have e : cs.drop 8 = (cs.drop 8).take 1 := (List.take_of_length_le (by simp [hl])).symm
    refine e.symm.trans ?_
    first | rfl | (simp only [List.drop_drop]; rfl)
structure MNetEvent where
  kind : Int
  a : Int
  b : Int
  n : Int
  raw : List Int
  deriving DecidableEq, Inhabited
def Rp.netEvent : Rp MNetEvent := Rp.via (fun x => (x.kind, x.a, x.b, x.n, x.raw)) (Rp.pair (Rp.int .i64) (Rp.pair (Rp.int .i64) (Rp.pair (Rp.int .i64) (Rp.pair (Rp.int .i64) Rp.bytes))))
theorem Rp.netEvent_size : Rp.netEvent.size = 5 := rfl
theorem Rp.netEvent_fields {w : World} {S : Fp} {cs : List Value} {x : MNetEvent} (h : Rp.netEvent.rel w S cs x) :
    (Rp.int .i64).rel w S ((cs.drop 0).take 1) x.kind ∧
    (Rp.int .i64).rel w S ((cs.drop 1).take 1) x.a ∧
    (Rp.int .i64).rel w S ((cs.drop 2).take 1) x.b ∧
    (Rp.int .i64).rel w S ((cs.drop 3).take 1) x.n ∧
    Rp.bytes.rel w S ((cs.drop 4).take 1) x.raw := by
  have hl : cs.length = 5 := Rp.netEvent.len h
  have h : (Rp.pair (Rp.int .i64) (Rp.pair (Rp.int .i64) (Rp.pair (Rp.int .i64) (Rp.pair (Rp.int .i64) Rp.bytes)))).rel w S cs (x.kind, x.a, x.b, x.n, x.raw) := h
  simp only [Rp.pair_iff] at h
  obtain ⟨h0, h1, h2, h3, h4⟩ := h
  refine ⟨?_, ?_, ?_, ?_, ?_⟩
  · refine cast (congrArg (fun l => (Rp.int .i64).rel w S l x.kind) ?_) h0
    first | rfl | (simp only [List.drop_drop]; rfl)
  · refine cast (congrArg (fun l => (Rp.int .i64).rel w S l x.a) ?_) h1
    first | rfl | (simp only [List.drop_drop]; rfl)
  · refine cast (congrArg (fun l => (Rp.int .i64).rel w S l x.b) ?_) h2
    first | rfl | (simp only [List.drop_drop]; rfl)
  · refine cast (congrArg (fun l => (Rp.int .i64).rel w S l x.n) ?_) h3
    first | rfl | (simp only [List.drop_drop]; rfl)
  · refine cast (congrArg (fun l => Rp.bytes.rel w S l x.raw) ?_) h4
    have e : cs.drop 4 = (cs.drop 4).take 1 := (List.take_of_length_le (by simp [hl])).symm
    refine Eq.trans ?_ e
    first | rfl | (simp only [List.drop_drop]; rfl)
theorem Rp.netEvent_mk {w : World} {S : Fp} {cs : List Value} {x : MNetEvent} (hl : cs.length = 5)
    (h0 : (Rp.int .i64).rel w S ((cs.drop 0).take 1) x.kind)
    (h1 : (Rp.int .i64).rel w S ((cs.drop 1).take 1) x.a)
    (h2 : (Rp.int .i64).rel w S ((cs.drop 2).take 1) x.b)
    (h3 : (Rp.int .i64).rel w S ((cs.drop 3).take 1) x.n)
    (h4 : Rp.bytes.rel w S ((cs.drop 4).take 1) x.raw)
    : Rp.netEvent.rel w S cs x := by
  show (Rp.pair (Rp.int .i64) (Rp.pair (Rp.int .i64) (Rp.pair (Rp.int .i64) (Rp.pair (Rp.int .i64) Rp.bytes)))).rel w S cs (x.kind, x.a, x.b, x.n, x.raw)
  simp only [Rp.pair_iff]
  refine ⟨?_, ?_, ?_, ?_, ?_⟩
  · refine cast (congrArg (fun l => (Rp.int .i64).rel w S l x.kind) ?_) h0
    first | rfl | (simp only [List.drop_drop]; rfl)
  · refine cast (congrArg (fun l => (Rp.int .i64).rel w S l x.a) ?_) h1
    first | rfl | (simp only [List.drop_drop]; rfl)
  · refine cast (congrArg (fun l => (Rp.int .i64).rel w S l x.b) ?_) h2
    first | rfl | (simp only [List.drop_drop]; rfl)
  · refine cast (congrArg (fun l => (Rp.int .i64).rel w S l x.n) ?_) h3
    first | rfl | (simp only [List.drop_drop]; rfl)
  · refine cast (congrArg (fun l => Rp.bytes.rel w S l x.raw) ?_) h4
    have e : cs.drop 4 = (cs.drop 4).take 1 := (List.take_of_length_le (by simp [hl])).symm
    refine e.symm.trans ?_
    first | rfl | (simp only [List.drop_drop]; rfl)
structure MLetter where
  src : Int
  dst : Int
  block : Bool
  raw : List Int
  deriving DecidableEq, Inhabited
def Rp.letter : Rp MLetter := Rp.via (fun x => (x.src, x.dst, x.block, x.raw)) (Rp.pair (Rp.int .i64) (Rp.pair (Rp.int .i64) (Rp.pair Rp.bool Rp.bytes)))
theorem Rp.letter_size : Rp.letter.size = 4 := rfl
theorem Rp.letter_fields {w : World} {S : Fp} {cs : List Value} {x : MLetter} (h : Rp.letter.rel w S cs x) :
    (Rp.int .i64).rel w S ((cs.drop 0).take 1) x.src ∧
    (Rp.int .i64).rel w S ((cs.drop 1).take 1) x.dst ∧
    Rp.bool.rel w S ((cs.drop 2).take 1) x.block ∧
    Rp.bytes.rel w S ((cs.drop 3).take 1) x.raw := by
  have hl : cs.length = 4 := Rp.letter.len h
  have h : (Rp.pair (Rp.int .i64) (Rp.pair (Rp.int .i64) (Rp.pair Rp.bool Rp.bytes))).rel w S cs (x.src, x.dst, x.block, x.raw) := h
  simp only [Rp.pair_iff] at h
  obtain ⟨h0, h1, h2, h3⟩ := h
  refine ⟨?_, ?_, ?_, ?_⟩
  · refine cast (congrArg (fun l => (Rp.int .i64).rel w S l x.src) ?_) h0
    first | rfl | (simp only [List.drop_drop]; rfl)
  · refine cast (congrArg (fun l => (Rp.int .i64).rel w S l x.dst) ?_) h1
    first | rfl | (simp only [List.drop_drop]; rfl)
  · refine cast (congrArg (fun l => Rp.bool.rel w S l x.block) ?_) h2
    first | rfl | (simp only [List.drop_drop]; rfl)
  · refine cast (congrArg (fun l => Rp.bytes.rel w S l x.raw) ?_) h3
    have e : cs.drop 3 = (cs.drop 3).take 1 := (List.take_of_length_le (by simp [hl])).symm
    refine Eq.trans ?_ e
    first | rfl | (simp only [List.drop_drop]; rfl)
theorem Rp.letter_mk {w : World} {S : Fp} {cs : List Value} {x : MLetter} (hl : cs.length = 4)
    (h0 : (Rp.int .i64).rel w S ((cs.drop 0).take 1) x.src)
    (h1 : (Rp.int .i64).rel w S ((cs.drop 1).take 1) x.dst)
    (h2 : Rp.bool.rel w S ((cs.drop 2).take 1) x.block)
    (h3 : Rp.bytes.rel w S ((cs.drop 3).take 1) x.raw)
    : Rp.letter.rel w S cs x := by
  show (Rp.pair (Rp.int .i64) (Rp.pair (Rp.int .i64) (Rp.pair Rp.bool Rp.bytes))).rel w S cs (x.src, x.dst, x.block, x.raw)
  simp only [Rp.pair_iff]
  refine ⟨?_, ?_, ?_, ?_⟩
  · refine cast (congrArg (fun l => (Rp.int .i64).rel w S l x.src) ?_) h0
    first | rfl | (simp only [List.drop_drop]; rfl)
  · refine cast (congrArg (fun l => (Rp.int .i64).rel w S l x.dst) ?_) h1
    first | rfl | (simp only [List.drop_drop]; rfl)
  · refine cast (congrArg (fun l => Rp.bool.rel w S l x.block) ?_) h2
    first | rfl | (simp only [List.drop_drop]; rfl)
  · refine cast (congrArg (fun l => Rp.bytes.rel w S l x.raw) ?_) h3
    have e : cs.drop 3 = (cs.drop 3).take 1 := (List.take_of_length_le (by simp [hl])).symm
    refine e.symm.trans ?_
    first | rfl | (simp only [List.drop_drop]; rfl)
end Go.Proofs.YtmeeeigfjlbnkaaGreat
