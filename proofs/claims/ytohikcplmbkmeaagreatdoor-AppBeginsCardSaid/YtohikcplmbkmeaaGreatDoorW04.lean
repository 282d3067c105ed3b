/- Parts of a proof, one behind the other: B2, B3, B4, B5, B6, B7, D1, D2, D3, D4, W2, Shelf, W6, Z8, D5, D6, D7, F1, F2, F3, F4, G1, G2. -/
import Derived.Test.YtohikcplmbkmeaaGreatDoorW03
set_option maxRecDepth 20000
set_option maxHeartbeats 16000000
set_option linter.unusedVariables false
set_option linter.unusedSimpArgs false
namespace Go.Proofs.YtohikcplmbkmeaaGreatDoor
open Go.RowKit
section
variable {G : GS}
attribute [local irreducible] vOpsN vOpsG vOpsD vOpGD NextD vC SeqQ BlockQ
theorem and127_all (x : UInt8) : x &&& 127 = UInt8.ofNat (x.toNat % 128) := u8_all (p := fun x => x &&& 127 = UInt8.ofNat (x.toNat % 128)) (by decide +kernel) x
theorem and127 (x : UInt8) : IntKind.u8.wrap ((BitVec.ofInt IntKind.u8.bits (x.toNat : Int) &&& BitVec.ofInt IntKind.u8.bits (127 : Int)).toNat : Int) = ((x.toNat % 128 : Nat) : Int) := by
 have h := and8 x 127
 rw [and127_all, UInt8.toNat_ofNat', Nat.mod_eq_of_lt (show x.toNat % 128 < 2 ^ 8 by omega)] at h
 exact h
theorem p128 (i : Nat) : 2 ^ (7 * i) = 128 ^ i := by rw [Nat.pow_mul]
theorem v_bound {y i : Nat} (h : i ≤ 8 ∧ y < 128 ∨ i = 9 ∧ y ≤ 1) : y * 128 ^ i + 128 ^ i ≤ 18446744073709551616 := by
 rcases h with ⟨h1, h2⟩ | ⟨rfl, h2⟩
 ·have : 128 ^ i ≤ 128 ^ 8 := Nat.pow_le_pow_right (by omega) h1
  have h3 : y * 128 ^ i ≤ 127 * 128 ^ i := Nat.mul_le_mul_right _ (by omega)
  omega
 ·omega
theorem shlv {y i : Nat} (h : i ≤ 8 ∧ y < 128 ∨ i = 9 ∧ y ≤ 1) : IntKind.u64.wrap ((y : Int) * 2 ^ (min (7 * (i : Int)).toNat IntKind.u64.bits)) = ((y * 128 ^ i : Nat) : Int) := by
 have e : min (7 * (i : Int)).toNat IntKind.u64.bits = 7 * i := by simp [IntKind.bits]; omega
 have hb := v_bound h
 have hp : 0 < 128 ^ i := Nat.pow_pos (by omega)
 rw [e, wu64, show ((y : Int) * 2 ^ (7 * i)) = ((y * 128 ^ i : Nat) : Int) by rw [← p128, Int.natCast_mul, Int.natCast_pow]; rfl]
 omega
theorem orv {n y i : Nat} (hn : n < 128 ^ i) (h : i ≤ 8 ∧ y < 128 ∨ i = 9 ∧ y ≤ 1) : IntKind.u64.wrap ((BitVec.ofInt IntKind.u64.bits (n : Int) ||| BitVec.ofInt IntKind.u64.bits ((y * 128 ^ i : Nat) : Int)).toNat : Int) = ((n + y * 128 ^ i : Nat) : Int) := by
 have hb := v_bound h
 have hp : 0 < 128 ^ i := Nat.pow_pos (by omega)
 have e : n ||| y * 128 ^ i = n + y * 128 ^ i := by
  rw [← p128] at hn ⊢
  have := Nat.shiftLeft_add_eq_or_of_lt hn y
  rw [Nat.shiftLeft_eq] at this
  rw [Nat.or_comm, ← this, Nat.add_comm]
 rw [BitVec.toNat_or, bv_of _ _ (show n < 2 ^ IntKind.u64.bits by show n < 18446744073709551616; omega), bv_of _ _ (show y * 128 ^ i < 2 ^ IntKind.u64.bits by show _ < 18446744073709551616; omega), e, wu64]
 omega
def readM (x : Nat × Nat × Nat) : MV := .tup [.int .u64 x.1, .int .i64 x.2.1, .int .i64 x.2.2]
theorem idx_u8 {l : List UInt8} {k : Nat} (hk : k < l.length) : idxL (u8s l) l.length (k : Int) = some (.int .u8 l[k].toNat) := index_at hk (by simp [u8s, hk])
theorem read_m (b : List UInt8) (hb : b.length < 4000000000) : SemC Tryz.prog G 251 [.sl b.length (u8s b)] (readM (readS b 0 0)) := by
  unfold readM
  generalize hr : readS b 0 0 = r at *
  obtain ⟨r1, r2, r3⟩ := r
  dsimp only
  refine scq seat Tryz.func251 53 ?_
  refine go1 ?_
  refine c_loop (Nat × Nat) (fun x => [(0, .sl b.length (u8s b)), (5, .int .u64 x.2), (6, .int .i64 x.1)]) (fun _ => []) 0 (fun x => x.1 ≤ 9 ∧ x.1 ≤ b.length ∧ x.2 < 128 ^ x.1 ∧ readS (b.drop x.1) x.1 x.2 = (r1, r2, r3)) (fun x => b.length - x.1) (0, 0) ⟨by dsimp only; omega, by dsimp only; omega, by dsimp only; omega, by dsimp only; rw [List.drop_zero]; exact hr⟩ (by dsimp only; exact (vm [] [])) ?_
  rintro ⟨i, n⟩ ⟨hi, hib, hn, hR⟩
  try dsimp only
  dsimp only at hi hib hn hR
  refine go1 ?_
  ((with_reducible apply c_cond); (case he => exact rfl); (all_goals intro h))
  · have hi' : i = b.length := by have := of_decide_eq_true h; omega
    rw [List.drop_eq_nil_of_le (by omega), readS] at hR
    simp only [Prod.mk.injEq] at hR
    obtain ⟨rfl, rfl, rfl⟩ := hR
    refine go1 ?_
    refine go0 ?_
    rfl
  · have hi' : i < b.length := by have := of_decide_eq_false h; omega
    have hel := idx_u8 hi'
    rw [List.drop_eq_getElem_cons hi', readS] at hR
    generalize b[i] = x at *
    have hx256 := x.toNat_lt
    refine go1 ?_
    ((with_reducible apply n_grd); (case hf => exact ⟨rfl, rfl, rfl⟩); (all_goals intro h))
    · have h9 : i = 9 := by have : (i : Int) = 9 := by simpa using h
                            omega
      (have fct := SomF.mk (hel); refine go1 ?_)
      ((with_reducible apply c_cond); (case he => exact rfl); (all_goals intro h))
      · have hx := of_decide_eq_true h
        rw [if_pos (by omega)] at hR
        simp only [Prod.mk.injEq] at hR
        obtain ⟨rfl, rfl, rfl⟩ := hR
        refine go1 ?_
        refine go0 ?_
        rfl
      · have hx := of_decide_eq_false h
        rw [if_neg (by omega)] at hR
        refine go1 ?_
        ((with_reducible apply n_grd); (case hf => exact ⟨rfl, rfl, rfl⟩); (all_goals intro h))
        · have h0 := of_decide_eq_true h
          (have fct := SomF.mk (hel); refine go1 ?_)
          ((with_reducible apply c_cond); (case he => exact rfl); (all_goals intro h))
          · have hx : x.toNat = 0 := by simpa using h
            rw [if_pos (by omega)] at hR
            simp only [Prod.mk.injEq] at hR
            obtain ⟨rfl, rfl, rfl⟩ := hR
            refine go1 ?_
            refine go0 ?_
            rfl
          · have hx : x.toNat ≠ 0 := by simpa using h
            rw [if_neg (by omega)] at hR
            have hv : i ≤ 8 ∧ x.toNat % 128 < 128 ∨ i = 9 ∧ x.toNat % 128 ≤ 1 := by omega
            (have fct := EqF.mk (and127 x); have fct := EqF.mk (shlv hv); have fct := EqF.mk (orv hn hv); have fct := SomF.mk (hel); refine go1 ?_)
            ((with_reducible apply c_cond); (case he => exact rfl); (all_goals intro h))
            · have hx := of_decide_eq_true h
              rw [if_pos (by omega)] at hR
              simp only [Prod.mk.injEq] at hR
              obtain ⟨rfl, rfl, rfl⟩ := hR
              refine go1 ?_
              refine go0 ?_
              rw [Nat.mod_eq_of_lt (show x.toNat < 128 by omega)]
              rfl
            · have hx := of_decide_eq_false h
              rw [if_neg (by omega)] at hR
              refine go1 ?_
              refine ⟨(i + 1, n + x.toNat % 128 * 128 ^ i), ⟨by dsimp only; omega, by dsimp only; omega, ?_, ?_⟩, by show b.length - (i + 1) < b.length - i; omega, (by dsimp only; exact (vm [] []))⟩
              · have h3 : x.toNat % 128 * 128 ^ i ≤ 127 * 128 ^ i := Nat.mul_le_mul_right _ (by omega)
                dsimp only
                rw [Nat.pow_succ]
                omega
              · dsimp only
                rw [show x.toNat % 128 = x.toNat - 128 by omega]
                exact hR
        · have h0 : ¬ (0 : Int) < i := by simpa using h
          rw [if_neg (by omega)] at hR
          have hv : i ≤ 8 ∧ x.toNat % 128 < 128 ∨ i = 9 ∧ x.toNat % 128 ≤ 1 := by omega
          (have fct := EqF.mk (and127 x); have fct := EqF.mk (shlv hv); have fct := EqF.mk (orv hn hv); have fct := SomF.mk (hel); refine go1 ?_)
          ((with_reducible apply c_cond); (case he => exact rfl); (all_goals intro h))
          · have hx := of_decide_eq_true h
            rw [if_pos (by omega)] at hR
            simp only [Prod.mk.injEq] at hR
            obtain ⟨rfl, rfl, rfl⟩ := hR
            refine go1 ?_
            refine go0 ?_
            rw [Nat.mod_eq_of_lt (show x.toNat < 128 by omega)]
            rfl
          · have hx := of_decide_eq_false h
            rw [if_neg (by omega)] at hR
            refine go1 ?_
            refine ⟨(i + 1, n + x.toNat % 128 * 128 ^ i), ⟨by dsimp only; omega, by dsimp only; omega, ?_, ?_⟩, by show b.length - (i + 1) < b.length - i; omega, (by dsimp only; exact (vm [] []))⟩
            · have h3 : x.toNat % 128 * 128 ^ i ≤ 127 * 128 ^ i := Nat.mul_le_mul_right _ (by omega)
              dsimp only
              rw [Nat.pow_succ]
              omega
            · dsimp only
              rw [show x.toNat % 128 = x.toNat - 128 by omega]
              exact hR
    · have h9 : i ≠ 9 := by have : ¬ (i : Int) = 9 := by simpa using h
                            omega
      rw [if_neg (by omega)] at hR
      refine go1 ?_
      ((with_reducible apply n_grd); (case hf => exact ⟨rfl, rfl, rfl⟩); (all_goals intro h))
      · have h0 := of_decide_eq_true h
        (have fct := SomF.mk (hel); refine go1 ?_)
        ((with_reducible apply c_cond); (case he => exact rfl); (all_goals intro h))
        · have hx : x.toNat = 0 := by simpa using h
          rw [if_pos (by omega)] at hR
          simp only [Prod.mk.injEq] at hR
          obtain ⟨rfl, rfl, rfl⟩ := hR
          refine go1 ?_
          refine go0 ?_
          rfl
        · have hx : x.toNat ≠ 0 := by simpa using h
          rw [if_neg (by omega)] at hR
          have hv : i ≤ 8 ∧ x.toNat % 128 < 128 ∨ i = 9 ∧ x.toNat % 128 ≤ 1 := by omega
          (have fct := EqF.mk (and127 x); have fct := EqF.mk (shlv hv); have fct := EqF.mk (orv hn hv); have fct := SomF.mk (hel); refine go1 ?_)
          ((with_reducible apply c_cond); (case he => exact rfl); (all_goals intro h))
          · have hx := of_decide_eq_true h
            rw [if_pos (by omega)] at hR
            simp only [Prod.mk.injEq] at hR
            obtain ⟨rfl, rfl, rfl⟩ := hR
            refine go1 ?_
            refine go0 ?_
            rw [Nat.mod_eq_of_lt (show x.toNat < 128 by omega)]
            rfl
          · have hx := of_decide_eq_false h
            rw [if_neg (by omega)] at hR
            refine go1 ?_
            refine ⟨(i + 1, n + x.toNat % 128 * 128 ^ i), ⟨by dsimp only; omega, by dsimp only; omega, ?_, ?_⟩, by show b.length - (i + 1) < b.length - i; omega, (by dsimp only; exact (vm [] []))⟩
            · have h3 : x.toNat % 128 * 128 ^ i ≤ 127 * 128 ^ i := Nat.mul_le_mul_right _ (by omega)
              dsimp only
              rw [Nat.pow_succ]
              omega
            · dsimp only
              rw [show x.toNat % 128 = x.toNat - 128 by omega]
              exact hR
      · have h0 : ¬ (0 : Int) < i := by simpa using h
        rw [if_neg (by omega)] at hR
        have hv : i ≤ 8 ∧ x.toNat % 128 < 128 ∨ i = 9 ∧ x.toNat % 128 ≤ 1 := by omega
        (have fct := EqF.mk (and127 x); have fct := EqF.mk (shlv hv); have fct := EqF.mk (orv hn hv); have fct := SomF.mk (hel); refine go1 ?_)
        ((with_reducible apply c_cond); (case he => exact rfl); (all_goals intro h))
        · have hx := of_decide_eq_true h
          rw [if_pos (by omega)] at hR
          simp only [Prod.mk.injEq] at hR
          obtain ⟨rfl, rfl, rfl⟩ := hR
          refine go1 ?_
          refine go0 ?_
          rw [Nat.mod_eq_of_lt (show x.toNat < 128 by omega)]
          rfl
        · have hx := of_decide_eq_false h
          rw [if_neg (by omega)] at hR
          refine go1 ?_
          refine ⟨(i + 1, n + x.toNat % 128 * 128 ^ i), ⟨by dsimp only; omega, by dsimp only; omega, ?_, ?_⟩, by show b.length - (i + 1) < b.length - i; omega, (by dsimp only; exact (vm [] []))⟩
          · have h3 : x.toNat % 128 * 128 ^ i ≤ 127 * 128 ^ i := Nat.mul_le_mul_right _ (by omega)
            dsimp only
            rw [Nat.pow_succ]
            omega
          · dsimp only
            rw [show x.toNat % 128 = x.toNat - 128 by omega]
            exact hR
end
section
variable {G : GS}
attribute [local irreducible] vOpsN vOpsG vOpsD vOpGD NextD vC SeqQ BlockQ
def fldM (f : Fld) : MV := .st [.int .i64 f.num, .int .i64 f.kind, .int .u64 f.val, .sl f.bytes.length (u8s f.bytes)]
theorem cut_u8 (b : List UInt8) (x y : Nat) : cutL (u8s b) x y = u8s ((b.drop x).take (y - x)) := by simp [cutL, u8s]
theorem head_cut (b : List UInt8) (x y : Nat) : headSize (cutL (u8s b) x y) 1 = true := by rw [cut_u8]; exact head_b _
theorem bndLo {n k : Nat} {κ : IntKind} (h : k ≤ n) : bounds n (some (.int κ (k : Int))) none = some (k, n) := by
 unfold bounds
 dsimp only
 rw [if_pos ⟨by omega, by omega⟩]
 simp
theorem bndHi {n k : Nat} {κ : IntKind} (h : k ≤ n) : bounds n none (some (.int κ (k : Int))) = some (0, k) := by
 unfold bounds
 dsimp only
 rw [if_pos ⟨by omega, by omega⟩]
 simp
theorem bnd_at {n lo hi : Nat} {a c : Int} {κ κ' : IntKind} (ha : a = lo) (hc : c = hi) (h1 : lo ≤ hi) (h2 : hi ≤ n) : bounds n (some (.int κ a)) (some (.int κ' c)) = some (lo, hi) := by
 subst ha hc
 unfold bounds
 dsimp only
 rw [if_pos ⟨by omega, by omega⟩]
 dsimp only
 rw [if_pos ⟨by omega, by simp; omega⟩]
 simp
theorem tmodn (a b : Nat) : (a : Int).tmod (b : Int) = ((a % b : Nat) : Int) := by
 rw [Int.tmod_eq_emod_of_nonneg (by omega)]; exact (Int.natCast_emod a b).symm
theorem tdivn {a : Nat} (b : Nat) (ha : a < 18446744073709551616) : IntKind.u64.wrap ((a : Int).tdiv (b : Int)) = ((a / b : Nat) : Int) := by
 have := Nat.div_le_self a b
 rw [Int.tdiv_eq_ediv_of_nonneg (by omega), ← Int.natCast_ediv, wu64]
 generalize a / b = c at *
 omega
theorem read_cut {b : List UInt8} (hb : b.length < 4000000000) {n : Nat} {r : Nat × Nat × Nat} (h : readS (b.drop n) 0 0 = r) : SemC Tryz.prog G 251 [.sl (b.length - n) (cutL (u8s b) n b.length)] (readM r) := by
 have := read_m (G := G) (b.drop n) (by rw [List.length_drop]; omega)
 rw [h, List.length_drop] at this
 rw [cut_u8, List.take_of_length_le (by rw [List.length_drop]; omega)]
 exact this
theorem one_r (b : List UInt8) (hb : b.length < 1000000000) : SemR Tryz.prog G 202 [.sl b.length (u8s b)] [] 0 (.tup [fldM (oneS b).1, .int .i64 (oneS b).2.1, .int .i64 (oneS b).2.2]) [] 0 := by
  have c1 := read_m (G := G) b (by omega)
  have h1ok := read_ok b 0 0 (by omega) (by omega)
  generalize hr : oneS b = r at *
  obtain ⟨f, m, e⟩ := r
  have hR := hr
  unfold oneS at hR
  generalize readS b 0 0 = t at *
  obtain ⟨T, n, e1⟩ := t
  dsimp only at hR h1ok
  unfold readM at c1
  unfold fldM
  dsimp only at c1
  dsimp only
  refine srq seat Tryz.func202 98 ?_
  refine go1 ?_
  refine g_call2 rfl (fun _ h => h) rfl (semR_of_semC (c1)) rfl lm ?_
  refine go1 ?_
  ((with_reducible apply c_cond); (case he => exact rfl); (all_goals intro h))
  · have he1 : e1 ≠ 0 := by intro h0; subst h0; cases h
    rw [if_pos he1] at hR
    simp only [Prod.mk.injEq] at hR
    obtain ⟨rfl, rfl, rfl⟩ := hR
    refine go1 ?_
    refine go0 ?_
    refine ⟨[_, _, _], [], [], rfl, rfl, trivial, rfl, ⟨?_, ?_, ?_, trivial⟩, ?_⟩
    · exact .inr ⟨_, rfl, ⟨rfl, rfl⟩, ⟨rfl, rfl⟩, ⟨rfl, rfl⟩, .inr ⟨rfl, rfl⟩, trivial⟩
    · exact rv
    · exact rv
    · exact mm
  have he1 : e1 = 0 := by have : (e1 : Int) = 0 := by simpa using h
                          omega
  subst he1
  have hT := (h1ok rfl).2.2
  rw [if_neg (by simp)] at hR
  have hmod : (T : Int).tmod 8 = ((T % 8 : Nat) : Int) := tmodn T 8
  have hdiv : IntKind.u64.wrap ((T : Int).tdiv 8) = ((T / 8 : Nat) : Int) := tdivn 8 hT
  have h2ok := read_ok (b.drop n) 0 0 (by omega) (by omega)
  generalize hr2 : readS (b.drop n) 0 0 = t2 at *
  obtain ⟨v, k, e2⟩ := t2
  have c2 := read_cut (G := G) (b := b) (by omega) hr2
  unfold readM at c2
  dsimp only at hR c2 h2ok
  generalize hD : T / 8 = D at *
  generalize hK : T % 8 = K at *
  (have fct := EqF.mk (hmod); have fct := EqF.mk (hdiv); refine go1 ?_)
  ((with_reducible apply n_grd); (case hf => exact ⟨rfl, rfl, rfl⟩); (all_goals intro h))
  · have hD1 : ¬ (D : Int) < 1 := by simpa using h
    (have fct := EqF.mk (hdiv); refine go1 ?_)
    ((with_reducible apply n_grd); (case hf => exact ⟨rfl, rfl, rfl⟩); (all_goals intro h))
    · have hD3 : ¬ (536870911 : Int) < D := by simpa using h
      refine go1 ?_
      ((with_reducible apply n_grd); (case hf => exact ⟨rfl, rfl, rfl⟩); (all_goals intro h))
      · have hK0 : K ≠ 0 := by have : ¬ (K : Int) = 0 := by simpa using h
                               omega
        refine go1 ?_
        ((with_reducible apply c_cond); (case he => exact rfl); (all_goals intro h))
        · have hK2 : K ≠ 2 := by have : ¬ (K : Int) = 2 := by simpa using h
                                 omega
          rw [if_pos (by omega)] at hR
          simp only [Prod.mk.injEq] at hR
          obtain ⟨rfl, rfl, rfl⟩ := hR
          refine go1 ?_
          refine go0 ?_
          refine ⟨[_, _, _], [], [], rfl, rfl, trivial, rfl, ⟨?_, ?_, ?_, trivial⟩, ?_⟩
          · exact .inr ⟨_, rfl, ⟨rfl, rfl⟩, ⟨rfl, rfl⟩, ⟨rfl, rfl⟩, .inr ⟨rfl, rfl⟩, trivial⟩
          · exact rv
          · exact rv
          · exact mm
        have hK2 : K = 2 := by have : (K : Int) = 2 := by simpa using h
                               omega
        subst hK2
        rw [if_neg (by omega)] at hR
        have hD2 : IntKind.u64.wrap ((T : Int).tdiv 8) = (D : Int) := hdiv
        have hnb : n ≤ b.length := by have := h1ok rfl; omega
        (have fct := EqF.mk (hdiv); have fct := SomF.mk (bndLo (κ := .i64) hnb); have fct := SideF.mk (head_b b); refine go1 ?_)
        refine g_call2 rfl (fun _ h => h) rfl (semR_of_semC (c2)) rfl lm ?_
        refine go1 ?_
        ((with_reducible apply c_cond); (case he => exact rfl); (all_goals intro h))
        · have he2 : e2 ≠ 0 := by intro h0; subst h0; cases h
          rw [if_pos he2] at hR
          simp only [Prod.mk.injEq] at hR
          obtain ⟨rfl, rfl, rfl⟩ := hR
          refine go1 ?_
          refine go0 ?_
          refine ⟨[_, _, _], [], [], rfl, rfl, trivial, rfl, ⟨?_, ?_, ?_, trivial⟩, ?_⟩
          · exact .inr ⟨_, rfl, ⟨rfl, rfl⟩, ⟨rfl, rfl⟩, ⟨rfl, rfl⟩, .inr ⟨rfl, rfl⟩, trivial⟩
          · exact rv
          · exact rv
          · exact mm
        have he2 : e2 = 0 := by have : (e2 : Int) = 0 := by simpa using h
                                omega
        subst he2
        have hk := h2ok rfl
        rw [List.length_drop] at hk
        rw [if_neg (by simp)] at hR
        rw [if_neg (by omega)] at hR
        refine go1 ?_
        ((with_reducible apply c_cond); (case he => exact rfl); (all_goals intro h))
        · have hv := of_decide_eq_true h
          rw [if_pos (by omega)] at hR
          simp only [Prod.mk.injEq] at hR
          obtain ⟨rfl, rfl, rfl⟩ := hR
          refine go1 ?_
          refine go0 ?_
          refine ⟨[_, _, _], [], [], rfl, rfl, trivial, rfl, ⟨?_, ?_, ?_, trivial⟩, ?_⟩
          · exact .inr ⟨_, rfl, ⟨rfl, rfl⟩, ⟨rfl, rfl⟩, ⟨rfl, rfl⟩, .inr ⟨rfl, rfl⟩, trivial⟩
          · exact rv
          · exact rv
          · exact mm
        have hv := of_decide_eq_false h
        rw [if_neg (by omega)] at hR
        simp only [Prod.mk.injEq] at hR
        obtain ⟨rfl, rfl, rfl⟩ := hR
        have hbn : bounds b.length (some (.int .i64 ((n : Int) + k))) (some (.int .i64 ((n : Int) + k + v))) = some (n + k, n + k + v) := bnd_at (by omega) (by omega) (by omega) (by omega)
        have hl : ((b.drop (n + k)).take v).length = v := by rw [List.length_take, List.length_drop]; omega
        (have fct := SomF.mk (hbn); have fct := SideF.mk (head_b b); refine go1 ?_)
        ((with_reducible apply g_mem); (case hq => exact rfl); (case hv => exact rfl); (case he => (intro R hR; refine sms hR ?_; refine And.intro (head_cut b _ _) ?_; refine And.intro ⟨(by simp), app_ok (by kernel_rfl) pf⟩ ?_; refine ⟨u8s ((b.drop (n + k)).take v), sv (by rw [cut_u8, show n + k + v - (n + k) = v by omega]; simp), v, sv pf, ?_⟩; exact hR)); (case hd => exact rfl))
        refine go1 ?_
        refine go0 ?_
        rw [show ((n + k + v : Nat) : Int) = (n : Int) + k + v by omega]
        dsimp only
        rw [hl]
        refine ⟨[_, _, _], [], [(75, v)], rfl, rfl, ?_, rfl, ⟨?_, ?_, ?_, trivial⟩, ?_⟩
        · exact ⟨by show v ≤ (u8s ((b.drop (n + k)).take v)).length; rw [show (u8s ((b.drop (n + k)).take v)).length = v by simp only [u8s, List.length_map]; exact hl]; exact Nat.le_refl _, trivial⟩
        · exact .inr ⟨_, rfl, ⟨rfl, rfl⟩, ⟨rfl, rfl⟩, ⟨rfl, rfl⟩, .inr ⟨rfl, rfl, rfl, Nat.le_of_eq (Nat.zero_add _), by simp [cutL, u8s, List.take_take]⟩, trivial⟩
        · exact rv
        · exact rv
        · exact mm
      · have hK0 : K = 0 := by have : (K : Int) = 0 := by simpa using h
                               omega
        subst hK0
        rw [if_neg (by omega)] at hR
        have hD2 : IntKind.u64.wrap ((T : Int).tdiv 8) = (D : Int) := hdiv
        have hnb : n ≤ b.length := by have := h1ok rfl; omega
        (have fct := EqF.mk (hdiv); have fct := SomF.mk (bndLo (κ := .i64) hnb); have fct := SideF.mk (head_b b); refine go1 ?_)
        refine g_call2 rfl (fun _ h => h) rfl (semR_of_semC (c2)) rfl lm ?_
        refine go1 ?_
        ((with_reducible apply c_cond); (case he => exact rfl); (all_goals intro h))
        · have he2 : e2 ≠ 0 := by intro h0; subst h0; cases h
          rw [if_pos he2] at hR
          simp only [Prod.mk.injEq] at hR
          obtain ⟨rfl, rfl, rfl⟩ := hR
          refine go1 ?_
          refine go0 ?_
          refine ⟨[_, _, _], [], [], rfl, rfl, trivial, rfl, ⟨?_, ?_, ?_, trivial⟩, ?_⟩
          · exact .inr ⟨_, rfl, ⟨rfl, rfl⟩, ⟨rfl, rfl⟩, ⟨rfl, rfl⟩, .inr ⟨rfl, rfl⟩, trivial⟩
          · exact rv
          · exact rv
          · exact mm
        have he2 : e2 = 0 := by have : (e2 : Int) = 0 := by simpa using h
                                omega
        subst he2
        have hk := h2ok rfl
        rw [List.length_drop] at hk
        rw [if_neg (by simp)] at hR
        rw [if_pos rfl] at hR
        simp only [Prod.mk.injEq] at hR
        obtain ⟨rfl, rfl, rfl⟩ := hR
        refine go1 ?_
        refine go0 ?_
        refine ⟨[_, _, _], [], [], rfl, rfl, trivial, rfl, ⟨?_, ?_, ?_, trivial⟩, ?_⟩
        · exact .inr ⟨_, rfl, ⟨rfl, rfl⟩, ⟨rfl, rfl⟩, ⟨rfl, rfl⟩, .inr ⟨rfl, rfl⟩, trivial⟩
        · exact rv
        · exact rv
        · exact mm
    · have hD3 : (536870911 : Int) < D := by simpa using h
      rw [if_pos (by omega)] at hR
      refine go1 ?_
      simp only [Prod.mk.injEq] at hR
      obtain ⟨rfl, rfl, rfl⟩ := hR
      refine go1 ?_
      refine go0 ?_
      refine ⟨[_, _, _], [], [], rfl, rfl, trivial, rfl, ⟨?_, ?_, ?_, trivial⟩, ?_⟩
      · exact .inr ⟨_, rfl, ⟨rfl, rfl⟩, ⟨rfl, rfl⟩, ⟨rfl, rfl⟩, .inr ⟨rfl, rfl⟩, trivial⟩
      · exact rv
      · exact rv
      · exact mm
  · have hD1 : (D : Int) < 1 := by simpa using h
    rw [if_pos (by omega)] at hR
    refine go1 ?_
    simp only [Prod.mk.injEq] at hR
    obtain ⟨rfl, rfl, rfl⟩ := hR
    refine go1 ?_
    refine go0 ?_
    refine ⟨[_, _, _], [], [], rfl, rfl, trivial, rfl, ⟨?_, ?_, ?_, trivial⟩, ?_⟩
    · exact .inr ⟨_, rfl, ⟨rfl, rfl⟩, ⟨rfl, rfl⟩, ⟨rfl, rfl⟩, .inr ⟨rfl, rfl⟩, trivial⟩
    · exact rv
    · exact rv
    · exact mm
end
section
variable {G : GS}
attribute [local irreducible] vOpsN vOpsG vOpsD vOpGD NextD vC SeqQ BlockQ
theorem one_cut {b : List UInt8} (hb : b.length < 1000000000) {n : Nat} : SemR Tryz.prog G 202 [.sl (b.length - n) (cutL (u8s b) n b.length)] [] 0 (.tup [fldM (oneS (b.drop n)).1, .int .i64 (oneS (b.drop n)).2.1, .int .i64 (oneS (b.drop n)).2.2]) [] 0 := by
 have := one_r (G := G) (b.drop n) (by rw [List.length_drop]; omega)
 rw [List.length_drop] at this
 rw [cut_u8, List.take_of_length_le (by rw [List.length_drop]; omega)]
 exact this
theorem fieldsG_end (k at_ : Nat) (acc : List Fld) : fieldsG k [] at_ acc = (acc, 0, 0) := by cases k <;> rfl
theorem fieldsG_full {b : List UInt8} (h : b ≠ []) (at_ : Nat) (acc : List Fld) : fieldsG 0 b at_ acc = ([], at_, 3) := by
 cases b with
 | nil => exact absurd rfl h
 | cons x b => rfl
theorem fieldsG_step {b : List UInt8} (h : b ≠ []) (k at_ : Nat) (acc : List Fld) : fieldsG (k + 1) b at_ acc = if (oneS b).2.2 ≠ 0 then ([], at_, (oneS b).2.2) else fieldsG k (b.drop (oneS b).2.1) (at_ + (oneS b).2.1) (acc ++ [(oneS b).1]) := by
 cases b with
 | nil => exact absurd rfl h
 | cons x b => rw [fieldsG]
theorem drop_ne {b : List UInt8} {n : Nat} (h : n < b.length) : b.drop n ≠ [] := by
 intro h0
 have := congrArg List.length h0
 rw [List.length_drop] at this
 simp at this; omega
theorem fields_r (b : List UInt8) (hb : b.length < 1000000000) : SemR Tryz.prog G 140 [.sl b.length (u8s b)] [] 0 (.tup [.sl (fieldsS b).1.length ((fieldsS b).1.map fldM), .int .i64 (fieldsS b).2.1, .int .i64 (fieldsS b).2.2]) [] 0 := by
  generalize hr : fieldsS b = r
  obtain ⟨l, at1, e1⟩ := r
  dsimp only
  refine srq seat Tryz.func140 38 ?_
  refine go1 ?_
  refine c_loop (Nat × List Fld) (fun x => [(6, .int .i64 x.1), (5, .ms 0 4 0 x.2.length), (0, .sl b.length (u8s b))]) (fun x => [(0, ⟨183, 4, true, 0, x.2.map fldM⟩)]) 1 (fun x => x.1 ≤ b.length ∧ x.2.length ≤ 1024 ∧ fieldsG (1024 - x.2.length) (b.drop x.1) x.1 x.2 = (l, at1, e1)) (fun x => b.length - x.1) (0, []) ⟨Nat.zero_le _, Nat.zero_le _, by dsimp only; rw [List.drop_zero]; exact hr⟩ (by dsimp only; exact (vm [] [])) ?_
  rintro ⟨i, acc⟩ ⟨hi, ha, hG⟩
  try dsimp only
  dsimp only at hi ha hG
  refine go1 ?_
  ((with_reducible apply c_cond); (case he => exact rfl); (all_goals intro h))
  · have hi' : i < b.length := by have := of_decide_eq_true h; omega
    have hne := drop_ne hi'
    refine go1 ?_
    ((with_reducible apply c_cond); (case he => exact rfl); (all_goals intro h))
    · have h4 : acc.length = 1024 := by have := of_decide_eq_true h; omega
      rw [h4, Nat.sub_self, fieldsG_full hne] at hG
      simp only [Prod.mk.injEq] at hG
      obtain ⟨rfl, rfl, rfl⟩ := hG
      refine go1 ?_
      refine ⟨[_, _, _], [], [], rfl, rfl, trivial, rfl, ⟨?_, ?_, ?_, trivial⟩, ?_⟩
      · exact .inr ⟨rfl, rfl⟩
      · exact rv
      · exact rv
      · exact mm
    · have h4 : acc.length < 1024 := by have := of_decide_eq_false h; omega
      have c1 := one_cut (G := G) hb (n := i)
      have hok := one_ok (b := b.drop i)
      rw [show 1024 - acc.length = (1023 - acc.length) + 1 by omega, fieldsG_step hne] at hG
      generalize oneS (b.drop i) = o at *
      obtain ⟨f, m, e⟩ := o
      dsimp only at c1 hok hG
      (have fct := SomF.mk (bndLo (κ := .i64) hi); have fct := SideF.mk (head_b b); refine go1 ?_)
      refine g_call2 rfl (fun _ h => h) rfl (c1) rfl lm ?_
      refine go1 ?_
      ((with_reducible apply c_cond); (case he => exact rfl); (all_goals intro h))
      · have he : e ≠ 0 := by intro h0; subst h0; cases h
        rw [if_pos he] at hG
        simp only [Prod.mk.injEq] at hG
        obtain ⟨rfl, rfl, rfl⟩ := hG
        refine go1 ?_
        refine ⟨[_, _, _], [], [], rfl, rfl, trivial, rfl, ⟨?_, ?_, ?_, trivial⟩, ?_⟩
        · exact .inr ⟨rfl, rfl⟩
        · exact rv
        · exact rv
        · exact mm
      · have he : e = 0 := by have : (e : Int) = 0 := by simpa using h
                              omega
        subst he
        rw [if_neg (by simp), List.drop_drop] at hG
        have hok := hok rfl
        rw [List.length_drop] at hok
        refine go1 ?_
        ((with_reducible apply g_mem); (case hq => exact rfl); (case hv => exact rfl); (case he => (intro R hR; refine sms hR ?_; (refine And.intro (Nat.le_refl _) ?_; refine ⟨_, rfl, ?_⟩; refine And.intro ⟨(by simp), app_ok (by kernel_rfl) pf⟩ ?_; refine ⟨(acc ++ [f]).map fldM, sv (by simp; rfl), acc.length + 1, sv pf, ?_⟩); exact hR)); (case hd => exact rfl))
        refine go1 ?_
        refine ⟨(i + m, acc ++ [f]), ⟨by dsimp only; omega, by dsimp only; rw [List.length_append, List.length_singleton]; omega, ?_⟩, by show b.length - (i + m) < b.length - i; omega, ?_⟩
        · dsimp only
          rw [List.length_append, List.length_singleton, show 1024 - (acc.length + 1) = 1023 - acc.length by omega]
          exact hG
        · dsimp only
          rw [List.length_append, List.length_singleton]
          exact (vm [(0, _)] [])
  · have hi' : b.length ≤ i := by have := of_decide_eq_false h; omega
    rw [List.drop_eq_nil_of_le hi', fieldsG_end] at hG
    simp only [Prod.mk.injEq] at hG
    obtain ⟨rfl, rfl, rfl⟩ := hG
    refine go1 ?_
    refine ⟨[_, _, _], [], [(0, acc.length)], rfl, rfl, ?_, rfl, ⟨?_, ?_, ?_, trivial⟩, ?_⟩
    · exact ⟨by show acc.length ≤ (acc.map fldM).length; simp, trivial⟩
    · exact .inr ⟨rfl, rfl, rfl, Nat.le_of_eq (Nat.zero_add _), cut_all fldM acc⟩
    · exact rv
    · exact rv
    · exact mm
end
section
variable {G : GS}
attribute [local irreducible] vOpsN vOpsG vOpsD vOpGD NextD vC SeqQ BlockQ
theorem fieldS_0 {f : Fld} (h : f.kind = 0) : fieldS f = varS (f.num * 8 + f.kind) ++ varS f.val := by unfold fieldS; rw [if_pos h]
theorem fieldS_2 {f : Fld} (h : f.kind = 2) : fieldS f = varS (f.num * 8 + f.kind) ++ (varS f.bytes.length ++ f.bytes) := by unfold fieldS; rw [if_neg (by omega)]
theorem right_m (f : Fld) (hf : okF f) : SemC Tryz.prog G 237 [fldM f] (.bool true) := by
 obtain ⟨num, kind, val, bytes⟩ := f
 obtain ⟨h1, h2, h3⟩ := hf
 dsimp only at h1 h2 h3
 unfold fldM
 dsimp only
 refine scq seat Tryz.func237 30 ?_
 refine go1 ?_
 ((with_reducible apply n_grd); (case hf => exact ⟨rfl, rfl, rfl⟩); (all_goals intro h))
 case h2 =>
  exfalso
  have : (num : Int) < 1 := by simpa using h
  omega
 refine go1 ?_
 ((with_reducible apply c_cond); (case he => exact rfl); (all_goals intro h))
 ·exfalso
  have := of_decide_eq_true h
  omega
 rcases h3 with ⟨rfl, rfl, hv⟩ | ⟨rfl, rfl, hv⟩
 ·refine go1 ?_
  refine go0 ?_
  rfl
 ·refine go1 ?_
  refine go0 ?_
  rfl
theorem pvalid_m (f : Fld) (hf : okF f) : SemC Tryz.prog G 209 [fldM f] (.bool true) := by
 obtain ⟨num, kind, val, bytes⟩ := f
 obtain ⟨h1, h2, h3⟩ := hf
 dsimp only at h1 h2 h3
 unfold fldM
 dsimp only
 refine scq seat Tryz.func209 30 ?_
 refine go1 ?_
 ((with_reducible apply n_grd); (case hf => exact ⟨rfl, rfl, rfl⟩); (all_goals intro h))
 case h2 =>
  exfalso
  have : (num : Int) < 1 := by simpa using h
  omega
 refine go1 ?_
 ((with_reducible apply c_cond); (case he => exact rfl); (all_goals intro h))
 ·exfalso
  have := of_decide_eq_true h
  omega
 rcases h3 with ⟨rfl, rfl, hv⟩ | ⟨rfl, rfl, hv⟩
 ·refine go1 ?_
  refine go0 ?_
  rfl
 ·refine go1 ?_
  refine go0 ?_
  rfl
theorem ptag_m (f : Fld) (hf : okF f) : SemC Tryz.prog G 211 [fldM f] (.int .u64 ((f.num * 8 + f.kind : Nat) : Int)) := by
 obtain ⟨num, kind, val, bytes⟩ := f
 obtain ⟨h1, h2, h3⟩ := hf
 dsimp only at h1 h2 h3
 unfold fldM
 dsimp only
 refine scq seat Tryz.func211 10 ?_
 refine go1 ?_
 refine go0 ?_
 exact congrArg (MV.int .u64) (by omega)
theorem varint_g (b : List UInt8) (n : Nat) (hb : b.length < 500000000) (hn : n < 18446744073709551616) :
  SemR Tryz.prog G 238 [.sl b.length (u8s b), .int .u64 n] [] 0 (.ms 0 1 0 (b ++ varS n).length) (rowB (b ++ varS n)) 1 := by
 rw [List.length_append]; exact varint_r b n hb hn
theorem pvarint_g (b : List UInt8) (n : Nat) (hb : b.length < 500000000) (hn : n < 18446744073709551616) :
  SemR Tryz.prog G 210 [.sl b.length (u8s b), .int .u64 n] [] 0 (.ms 0 1 0 (b ++ varS n).length) (rowB (b ++ varS n)) 1 := by
 rw [List.length_append]; exact pvarint_r b n hb hn
theorem field_r (b : List UInt8) (f : Fld) (hf : okF f) (hb : b.length + f.bytes.length < 400000000) :
  SemR Tryz.prog G 177 [.sl b.length (u8s b), fldM f] [] 0 (.tup [.ms 0 1 0 (b ++ fieldS f).length, .int .i64 0]) (rowB (b ++ fieldS f)) 1 := by
 have hr := right_m (G := G) f hf
 obtain ⟨num, kind, val, bytes⟩ := f
 obtain ⟨h1, h2, h3⟩ := hf
 dsimp only at h1 h2 h3
 have l1 := varS_len10 (n := num * 8 + kind) (by omega)
 have c1 := varint_g (G := G) b (num * 8 + kind) (by dsimp only at hb; omega) (by omega)
 have e0 := fieldS_0 (f := ⟨num, kind, val, bytes⟩)
 have e2 := fieldS_2 (f := ⟨num, kind, val, bytes⟩)
 unfold rowB at *
 unfold fldM at *
 dsimp only at hr hb e0 e2
 dsimp only
 generalize hp : b ++ varS (num * 8 + kind) = p at *
 refine srq seat Tryz.func177 36 ?_
 refine go1 ?_
 refine g_call2 rfl (fun _ h => h) rfl (semR_of_semC (hr)) rfl lm ?_
 have hpl : p.length ≤ b.length + 10 := by rw [← hp, List.length_append]; omega
 refine go1 ?_
 refine g_callR1 rfl (fun _ h => h) rfl (c1) [] [] ⟨rfl, trivial, rfl, lm, mm⟩ rfl rfl ?_
 refine go1 ?_
 rcases h3 with ⟨rfl, rfl, hv⟩ | ⟨rfl, rfl, hv⟩
 ·have c2 := varint_g (G := G) p val (by omega) hv
  rw [e0 rfl, ← List.append_assoc, hp]
  unfold rowB at c2
  generalize p ++ varS val = q at *
  refine go1 ?_
  refine g_callR1 rfl (fun _ h => h) rfl (c2) [] [(14, p.length)] ⟨rfl, mm, rfl, lm, mm⟩ rfl rfl ?_
  refine go1 ?_
  refine ⟨[_, _], [(0, 22)], [], rfl, rfl, trivial, rfl, ⟨?_, ?_, trivial⟩, ?_⟩
  ·exact rv
  ·exact rv
  ·exact mm
 ·have c2 := varint_g (G := G) p bytes.length (by omega) hv
  rw [e2 rfl, ← List.append_assoc, hp, ← List.append_assoc]
  have hql : (p ++ varS bytes.length).length ≤ p.length + 10 := by rw [List.length_append]; have := (varS_len10 hv).2; omega
  unfold rowB at c2
  generalize p ++ varS bytes.length = q at *
  refine go1 ?_
  refine c_draw [(0, false), (1, false), (2, false), (3, false), (4, false), (5, true), (6, false), (7, false), (8, false), (9, false), (10, false)] ?_
  refine go1 ?_
  refine gd_callR1 rfl (fun _ h => h) rfl [14] (c2) [] [(14, p.length)] ⟨rfl, mm, rfl, lm, mm⟩ rfl rfl rfl rfl ?_
  refine go1 ?_
  ((with_reducible apply gd_mem); (case hv => exact rfl); (case he => (intro R hR; refine sms hR ?_; refine And.intro (head_b bytes) ?_; refine And.intro ⟨(by simp [u8s]), app_ok (by kernel_rfl) pf⟩ ?_; refine ⟨u8s (q ++ bytes), sv (by simp [u8s]), (q ++ bytes).length, sv pf, ?_⟩; exact hR)); (case hd => exact rfl))
  refine go1 ?_
  refine ⟨[_, _], [(0, 27)], [], rfl, rfl, trivial, rfl, ⟨?_, ?_, trivial⟩, ?_⟩
  ·exact rv
  ·exact rv
  ·exact mm
theorem pfield_r (b : List UInt8) (f : Fld) (hf : okF f) (hb : b.length + f.bytes.length < 400000000) :
  SemR Tryz.prog G 152 [.sl b.length (u8s b), fldM f] [] 0 (.tup [.ms 0 1 0 (b ++ fieldS f).length, .int .i64 0]) (rowB (b ++ fieldS f)) 1 := by
 have hr := pvalid_m (G := G) f hf
 have ht := ptag_m (G := G) f hf
 obtain ⟨num, kind, val, bytes⟩ := f
 obtain ⟨h1, h2, h3⟩ := hf
 dsimp only at h1 h2 h3
 have l1 := varS_len10 (n := num * 8 + kind) (by omega)
 have c1 := pvarint_g (G := G) b (num * 8 + kind) (by dsimp only at hb; omega) (by omega)
 have e0 := fieldS_0 (f := ⟨num, kind, val, bytes⟩)
 have e2 := fieldS_2 (f := ⟨num, kind, val, bytes⟩)
 unfold rowB at *
 unfold fldM at *
 dsimp only at hr ht hb e0 e2
 dsimp only
 generalize hp : b ++ varS (num * 8 + kind) = p at *
 refine srq seat Tryz.func152 30 ?_
 refine go1 ?_
 refine g_call2 rfl (fun _ h => h) rfl (semR_of_semC (hr)) rfl lm ?_
 refine go1 ?_
 refine g_call2 rfl (fun _ h => h) rfl (semR_of_semC (ht)) rfl lm ?_
 have hpl : p.length ≤ b.length + 10 := by rw [← hp, List.length_append]; omega
 refine go1 ?_
 refine g_callR1 rfl (fun _ h => h) rfl (c1) [] [] ⟨rfl, trivial, rfl, lm, mm⟩ rfl rfl ?_
 refine go1 ?_
 rcases h3 with ⟨rfl, rfl, hv⟩ | ⟨rfl, rfl, hv⟩
 ·have c2 := pvarint_g (G := G) p val (by omega) hv
  rw [e0 rfl, ← List.append_assoc, hp]
  unfold rowB at c2
  generalize p ++ varS val = q at *
  refine go1 ?_
  refine g_callR1 rfl (fun _ h => h) rfl (c2) [] [(7, p.length)] ⟨rfl, mm, rfl, lm, mm⟩ rfl rfl ?_
  refine go1 ?_
  refine ⟨[_, _], [(0, 15)], [], rfl, rfl, trivial, rfl, ⟨?_, ?_, trivial⟩, ?_⟩
  ·exact rv
  ·exact rv
  ·exact mm
 ·have c2 := pvarint_g (G := G) p bytes.length (by omega) hv
  rw [e2 rfl, ← List.append_assoc, hp, ← List.append_assoc]
  have hql : (p ++ varS bytes.length).length ≤ p.length + 10 := by rw [List.length_append]; have := (varS_len10 hv).2; omega
  unfold rowB at c2
  generalize p ++ varS bytes.length = q at *
  refine go1 ?_
  refine c_draw [(0, false), (1, false), (2, false), (3, false), (4, false), (5, true), (6, false), (7, false), (8, false), (9, false), (10, false)] ?_
  refine go1 ?_
  refine gd_callR1 rfl (fun _ h => h) rfl [7] (c2) [] [(7, p.length)] ⟨rfl, mm, rfl, lm, mm⟩ rfl rfl rfl rfl ?_
  refine go1 ?_
  ((with_reducible apply gd_mem); (case hv => exact rfl); (case he => (intro R hR; refine sms hR ?_; refine And.intro (head_b bytes) ?_; refine And.intro ⟨(by simp [u8s]), app_ok (by kernel_rfl) pf⟩ ?_; refine ⟨u8s (q ++ bytes), sv (by simp [u8s]), (q ++ bytes).length, sv pf, ?_⟩; exact hR)); (case hd => exact rfl))
  refine go1 ?_
  refine ⟨[_, _], [(0, 20)], [], rfl, rfl, trivial, rfl, ⟨?_, ?_, trivial⟩, ?_⟩
  ·exact rv
  ·exact rv
  ·exact mm
end
section
variable {G : GS}
attribute [local irreducible] vOpsN vOpsG vOpsD vOpGD NextD vC SeqQ BlockQ
theorem flds_at {l : List Fld} {k : Nat} (hk : k < l.length) : idxL (l.map fldM) l.length (k : Int) = some (fldM l[k]) := index_at hk (by simp [hk])
theorem msgS_succ (l : List Fld) {k : Nat} (hk : k < l.length) : msgS (l.take (k + 1)) = msgS (l.take k) ++ fieldS l[k] := by
 unfold msgS
 rw [List.take_succ_eq_append_getElem hk, List.map_append, List.flatten_append]; simp
theorem msgS_take (l : List Fld) (k : Nat) : (msgS (l.take k)).length ≤ (msgS l).length := by
 have : msgS (l.take k) ++ msgS (l.drop k) = msgS l := by
  unfold msgS
  rw [← List.flatten_append, ← List.map_append, List.take_append_drop]
 rw [← this, List.length_append]; omega
theorem fieldS_bytes {f : Fld} (hf : okF f) : f.bytes.length ≤ (fieldS f).length := by
 unfold okF at hf
 unfold fieldS
 split
 ·have : f.bytes = [] := by
   rcases hf.2.2 with h | h
   ·exact h.2.1
   ·omega
  rw [this]; simp
 ·simp only [List.length_append]; omega
theorem message_r (l : List Fld) (hl : ∀ f ∈ l, okF f) (hm : (msgS l).length < 200000000) (hll : l.length < 1000000) : SemR Tryz.prog G 119 [.sl l.length (l.map fldM)] [] 0 (.sl (msgS l).length (u8s (msgS l))) [] 0 := by
 refine srq seat Tryz.func119 20 ?_
 refine go1 ?_
 refine c_loop Nat (fun k => [(8, .int .i64 k), (7, .int .i64 l.length), (6, .sl l.length (l.map fldM)), (3, .ms 0 1 0 (msgS (l.take k)).length)]) (fun k => [(0, ⟨5, 1, true, 0, u8s (msgS (l.take k))⟩)]) 1 (fun k => k ≤ l.length) (fun k => l.length - k) 0 (Nat.zero_le _) (by rw [List.take_zero]; exact (vm [] [])) ?_
 intro k hk
 try dsimp only
 refine go1 ?_
 ((with_reducible apply c_cond); (case he => exact rfl); (all_goals intro h))
 ·have hk' : k < l.length := by have := of_decide_eq_true h; omega
  have hs := msgS_succ l hk'
  have hle := msgS_take l (k + 1)
  have hfo := hl _ (List.getElem_mem hk')
  have hfb := fieldS_bytes hfo
  have hel := flds_at hk'
  generalize l[k] = f at *
  have hlen : (msgS (l.take (k + 1))).length = (msgS (l.take k)).length + (fieldS f).length := by rw [hs, List.length_append]
  have c1 := field_r (G := G) (msgS (l.take k)) f hfo (by omega)
  rw [← hs] at c1
  unfold rowB at c1
  generalize msgS (l.take k) = p at *
  (have fct := SomF.mk (hel); refine go1 ?_)
  refine g_callR1 rfl (fun _ h => h) rfl (c1) [] [(0, p.length)] ⟨rfl, mm, rfl, lm, mm⟩ rfl rfl ?_
  refine go1 ?_
  exact ⟨k + 1, by show k + 1 ≤ l.length; omega, by show l.length - (k + 1) < l.length - k; omega, (by dsimp only; exact (vm [(0, _)] []))⟩
 ·have hk' : k = l.length := by have := of_decide_eq_false h; omega
  subst hk'
  rw [List.take_length]
  generalize msgS l = p at *
  refine go1 ?_
  refine ⟨[_], [], [(0, p.length)], rfl, rfl, ?_, rfl, ⟨?_, trivial⟩, ?_⟩
  ·exact ⟨by show p.length ≤ (u8s p).length; simp [u8s], trivial⟩
  ·exact rv
  ·exact mm
end
section
variable {G : GS}
attribute [local irreducible] vOpsN vOpsG vOpsD vOpGD NextD vC SeqQ BlockQ
def rawM (b : List UInt8) : MV := .sl b.length (u8s b)
theorem cut_take {α : Type} (f : α → MV) (l : List α) (k : Nat) : cutL (l.map f) 0 k = (l.take k).map f := by simp [cutL, List.map_take]
theorem cut_drop {α : Type} (f : α → MV) (l : List α) (k : Nat) : cutL (l.map f) k l.length = (l.drop k).map f := by
 unfold cutL
 rw [List.take_of_length_le (by rw [List.length_drop, List.length_map]; omega), List.map_drop]
theorem head_raw : ∀ (l : List (List UInt8)), headSize (l.map rawM) 1 = true
 | [] => rfl
 | _ :: _ => rfl
theorem raws_at {l : List (List UInt8)} {k : Nat} (hk : k < l.length) : idxL (l.map rawM) l.length (k : Int) = some (rawM l[k]) := index_at hk (by simp [hk])
end
section
section
variable {Pg : Program} {G : GS} {f : FuncId} {args : List MV} {M0 : VM}
theorem semR_move {b : MB} {es n : Nat} (hrow : b.row = true) (h : SemR Pg G f args M0 1 (.ms 0 es 0 n) [(0, b)] 1) : SemR Pg G f args M0 1 (.ms 1 es 0 n) [(1, b)] 2 := by
 intro w P adr vals h1 h2 h3 h4 h5
 refine (h w P adr vals h1 h2 h3 h4 h5).mono ?_
 rintro e w' ⟨v, rfl, P', adr', j1, j2, j3, j4, j5, j6, j7, j8⟩
 have get1 : ∀ {c b'}, VM.get [(1, b)] c = some b' → c = 1 ∧ b' = b := fun {c b'} hc => by
  rw [VM.get_cons] at hc
  split at hc
  ·rename_i e; injection hc with hc; exact ⟨e.symm, hc.symm⟩
  ·cases hc
 have get0 : VM.get [(0, b)] 0 = some b := rfl
 have only0 : ∀ {c g}, adr c = some g → c = 0 := fun {c g} hc => by
  rcases Nat.lt_or_ge c 1 with h | h
  ·omega
  ·rw [h3 c h] at hc; cases hc
 refine ⟨v, rfl, P', fun c => if c = 1 then adr' 0 else adr' c, ⟨fun c b' hc => ?_, fun c c' b1 b2 g hc hc' _ _ => ?_, j1.prot⟩, ?_, ⟨j3.prot, j3.cell, fun c g hc => ?_, j3.size⟩, fun c hc => ?_, fun c hc => ?_, fun c g hc => ?_, j7, j8⟩
 ·obtain ⟨rfl, rfl⟩ := get1 hc
  rcases j1.blk 0 b' get0 with q | ⟨g, q1, q2⟩
  ·exact .inl ⟨q.1, q.2.1, by simpa using q.2.2.1, q.2.2.2⟩
  ·refine .inr ⟨g, by simpa using q1, ?_⟩
   obtain ⟨cur, parts, c1, c2, c3, c4, c5⟩ := q2.ofR hrow
   exact ⟨.inl ⟨cur, parts, c1, c2, c3, fun j x p hx hp => by have := c4 j x p hx hp; rw [hrow] at this ⊢; exact this, c5⟩, q2.pe, q2.le⟩
 ·rw [(get1 hc).1, (get1 hc').1]
 ·rcases j2.ms_ with ⟨rfl, _, rfl⟩ | ⟨g, o, cap, q1, rfl, q2, q3, q4, q5⟩
  ·exact .val [_] .ms0
  ·exact .val [_] (.ms g o cap (by simpa using q1) q2 q3 q4 q5)
 ·obtain rfl := only0 hc
  exact j3.num 0 g hc
 ·obtain rfl : c = 0 := by omega
  exact j4 0 (by omega)
 ·have : c ≠ 1 := by omega
  simp only [this, if_false]
  exact j5 c (by omega)
 ·by_cases h : c = 1
  ·simp only [h, if_true] at hc; exact j6 0 g hc
  ·simp only [h, if_false] at hc; exact j6 c g hc
end
theorem rel_snoc {σ : Nat → Option Nat} {fz : Fz} {a b : MV} : ∀ (l : List MV), (∀ x ∈ l, relV σ fz x x) → relV σ fz a b → relV.relVs σ fz (l ++ [a]) (l ++ [b])
 | [], _, h => ⟨h, trivial⟩
 | x :: l, hl, h => ⟨hl x (by simp), rel_snoc l (fun y hy => hl y (by simp [hy])) h⟩
variable {G : GS}
attribute [local irreducible] vOpsN vOpsG vOpsD vOpGD NextD vC SeqQ BlockQ
def rowF (l : List Fld) : MB := ⟨183, 4, true, 0, l.map fldM⟩
def textF (n : Nat) (s : List UInt8) : List Fld := if s = [] then [] else [⟨n, 2, 0, s⟩]
def numF (n : Nat) (v : Nat) : List Fld := if v = 0 then [] else [⟨n, 0, v, []⟩]
theorem text_r (l : List Fld) (n : Nat) (s : List UInt8) (hl : l.length < 100000000) (hs : s.length < 100000000) : SemR Tryz.prog G 121 [.ms 0 4 0 l.length, .int .i64 n, .str s] [(0, rowF l)] 1 (.ms 1 4 0 (l ++ textF n s).length) [(1, rowF (l ++ textF n s))] 2 := by
 unfold rowF textF
 by_cases h0 : s = []
 ·rw [if_pos h0, List.append_nil]
  subst h0
  refine semR_move rfl ?_
  refine srq seat Tryz.func121 17 ?_
  refine go1 ?_
  refine ⟨[_], [], [], rfl, rfl, trivial, rfl, ⟨?_, trivial⟩, ?_⟩
  ·exact rv
  ·exact mm
 ·rw [if_neg h0, List.length_append, List.length_singleton]
  refine srq seat Tryz.func121 17 ?_
  refine go1 ?_
  ((with_reducible apply c_cond); (case he => exact rfl); (all_goals intro h))
  ·exact absurd h (by simp; intro h; exact absurd h h0)
  ·refine go1 ?_
   ((with_reducible apply g_mem); (case hq => exact rfl); (case hv => exact rfl); (case he => (intro R hR; refine sms hR ?_; (refine And.intro (Nat.le_refl _) ?_; refine ⟨_, rfl, ?_⟩; refine And.intro ⟨(by simp), app_ok (by kernel_rfl) pf⟩ ?_; refine ⟨(l ++ [(⟨n, 2, 0, s⟩ : Fld)]).map fldM, sv (by simp; rfl), l.length + 1, sv pf, ?_⟩); exact hR)); (case hd => exact rfl))
   refine go1 ?_
   refine ⟨[_], [(1, 10)], [], rfl, rfl, trivial, rfl, ⟨?_, trivial⟩, ?_⟩
   ·exact rv
   ·exact mm
theorem number_r (l : List Fld) (n : Nat) (v : Nat) (hl : l.length < 100000000) : SemR Tryz.prog G 122 [.ms 0 4 0 l.length, .int .i64 n, .int .u64 v] [(0, rowF l)] 1 (.ms 1 4 0 (l ++ numF n v).length) [(1, rowF (l ++ numF n v))] 2 := by
 unfold rowF numF
 by_cases h0 : v = 0
 ·rw [if_pos h0, List.append_nil]
  subst h0
  refine semR_move rfl ?_
  refine srq seat Tryz.func122 16 ?_
  refine go1 ?_
  refine ⟨[_], [], [], rfl, rfl, trivial, rfl, ⟨?_, trivial⟩, ?_⟩
  ·exact rv
  ·exact mm
 ·rw [if_neg h0, List.length_append, List.length_singleton]
  refine srq seat Tryz.func122 16 ?_
  refine go1 ?_
  ((with_reducible apply c_cond); (case he => exact rfl); (all_goals intro h))
  ·exfalso
   have : (v : Int) = 0 := by simpa using h
   omega
  ·refine go1 ?_
   ((with_reducible apply g_mem); (case hq => exact rfl); (case hv => exact rfl); (case he => (intro R hR; refine sms hR ?_; (refine And.intro (Nat.le_refl _) ?_; refine ⟨_, rfl, ?_⟩; refine And.intro ⟨(by simp), app_ok (by kernel_rfl) pf⟩ ?_; refine ⟨l.map fldM ++ [.st [.int .i64 n, .int .i64 0, .int .u64 v, .nils]], sv (by simp [cutL, setL, repM]), l.length + 1, sv pf, ?_⟩); exact hR)); (case hd => exact rfl))
   refine go1 ?_
   refine ⟨[_], [(1, 9)], [], rfl, rfl, trivial, rfl, ⟨?_, trivial⟩, ?_⟩
   ·exact rv
   ·refine ⟨.inr ⟨_, _, rfl, rfl, rfl, rfl, .inl rfl, .inl rfl, .inr ?_⟩, trivial⟩
    rw [List.map_append]
    exact rel_snoc _ (fun x hx => by obtain ⟨f, _, rfl⟩ := List.mem_map.1 hx; exact .inl ⟨rfl, rfl⟩) (.inr ⟨_, rfl, ⟨rfl, rfl⟩, ⟨rfl, rfl⟩, ⟨rfl, rfl⟩, .inr ⟨rfl, rfl⟩, trivial⟩)
end
section
variable {G : GS}
attribute [local irreducible] vOpsN vOpsG vOpsD vOpGD NextD vC SeqQ BlockQ
structure TrS where
 to_ : List UInt8
 amt : Nat
 deriving DecidableEq
structure TxS where
 sender : List UInt8
 seq : Nat
 gas : Nat
 fee : Nat
 memo : List UInt8
 trs : List TrS
 deriving DecidableEq
def trM (x : TrS) : MV := .st [.str x.to_, .int .u64 x.amt]
def txM (t : TxS) : MV := .st [.str t.sender, .int .u64 t.seq, .int .u64 t.gas, .int .u64 t.fee, .str t.memo, .sl t.trs.length (t.trs.map trM)]
abbrev U64 (n : Nat) : Prop := n < 18446744073709551616
def SmTr (x : TrS) : Prop := x.to_.length ≤ 5000 ∧ U64 x.amt
def SmTx (t : TxS) : Prop := t.sender.length ≤ 5000 ∧ U64 t.seq ∧ U64 t.gas ∧ U64 t.fee ∧ t.memo.length ≤ 5000 ∧ t.trs.length ≤ 5000 ∧ ∀ x ∈ t.trs, SmTr x
def trF (x : TrS) : Fld := ⟨6, 2, 0, msgS (textF 1 x.to_ ++ numF 2 x.amt)⟩
def formF (t : TxS) : List Fld := textF 1 t.sender ++ numF 2 t.seq ++ numF 3 t.gas ++ numF 4 t.fee ++ textF 5 t.memo ++ t.trs.map trF
def formS (t : TxS) : List UInt8 := msgS (formF t)
theorem fieldS_len {f : Fld} (hf : okF f) : (fieldS f).length ≤ f.bytes.length + 20 := by
 have h1 := (varS_len10 (n := f.num * 8 + f.kind) (by unfold okF at hf; omega)).2
 unfold fieldS
 rw [List.length_append]
 split
 ·have h2 := (varS_len10 (n := f.val) (by unfold okF at hf; omega)).2
  omega
 ·rename_i hk
  have h2 := (varS_len10 (n := f.bytes.length) (by unfold okF at hf; omega)).2
  rw [List.length_append]; omega
theorem msgS_len_le (B : Nat) : ∀ (l : List Fld), (∀ f ∈ l, okF f ∧ f.bytes.length ≤ B) → (msgS l).length ≤ l.length * (B + 20)
 | [], _ => by simp [msgS]
 | f :: l, h => by
  have h1 := fieldS_len (h f (by simp)).1
  have h2 := (h f (by simp)).2
  have ih := msgS_len_le B l fun g hg => h g (by simp [hg])
  have e : msgS (f :: l) = fieldS f ++ msgS l := by simp [msgS]
  rw [e, List.length_append, List.length_cons, Nat.add_mul]
  omega
theorem textF_ok {n : Nat} {s : List UInt8} (h1 : 1 ≤ n) (h2 : n ≤ 100) (B : Nat) (hs : s.length ≤ B) (hB : B < 18446744073709551616) : (∀ f ∈ textF n s, okF f ∧ f.bytes.length ≤ B) ∧ (textF n s).length ≤ 1 := by
 unfold textF
 split
 ·simp
 ·refine ⟨fun f hf => ?_, by simp⟩
  rw [List.mem_singleton.1 hf]
  exact ⟨⟨by dsimp only; omega, by dsimp only; omega, .inr ⟨rfl, rfl, by dsimp only; omega⟩⟩, hs⟩
theorem numF_ok {n v : Nat} (h1 : 1 ≤ n) (h2 : n ≤ 100) (B : Nat) (hv : U64 v) : (∀ f ∈ numF n v, okF f ∧ f.bytes.length ≤ B) ∧ (numF n v).length ≤ 1 := by
 unfold numF
 split
 ·simp
 ·refine ⟨fun f hf => ?_, by simp⟩
  rw [List.mem_singleton.1 hf]
  exact ⟨⟨by dsimp only; omega, by dsimp only; omega, .inl ⟨rfl, rfl, hv⟩⟩, by simp⟩
theorem all_app {α : Type} {p : α → Prop} {a b : List α} (ha : ∀ x ∈ a, p x) (hb : ∀ x ∈ b, p x) : ∀ x ∈ a ++ b, p x := fun x hx => (List.mem_append.1 hx).elim (ha x) (hb x)
theorem inner_ok {x : TrS} (h : SmTr x) : (∀ f ∈ textF 1 x.to_ ++ numF 2 x.amt, okF f ∧ f.bytes.length ≤ 5000) ∧ (textF 1 x.to_ ++ numF 2 x.amt).length ≤ 2 := by
 have h1 := textF_ok (n := 1) (s := x.to_) (by omega) (by omega) 5000 h.1 (by omega)
 have h2 := numF_ok (n := 2) (v := x.amt) (by omega) (by omega) 5000 h.2
 exact ⟨all_app h1.1 h2.1, by rw [List.length_append]; omega⟩
theorem inner_len {x : TrS} (h : SmTr x) : (msgS (textF 1 x.to_ ++ numF 2 x.amt)).length ≤ 10040 := by
 have h1 := inner_ok h
 have h2 := msgS_len_le 5000 _ h1.1
 have h3 := Nat.mul_le_mul_right (5000 + 20) h1.2
 omega
theorem trF_ok {x : TrS} (h : SmTr x) : okF (trF x) ∧ (trF x).bytes.length ≤ 10040 := by
 have := inner_len h
 exact ⟨⟨by unfold trF; dsimp only; omega, by unfold trF; dsimp only; omega, .inr ⟨rfl, rfl, by unfold trF; dsimp only; omega⟩⟩, this⟩
theorem formF_ok {t : TxS} (h : SmTx t) : (∀ f ∈ formF t, okF f ∧ f.bytes.length ≤ 10040) ∧ (formF t).length ≤ 5005 := by
 obtain ⟨h1, h2, h3, h4, h5, h6, h7⟩ := h
 have a1 := textF_ok (n := 1) (s := t.sender) (by omega) (by omega) 10040 (by omega) (by omega)
 have a2 := numF_ok (n := 2) (v := t.seq) (by omega) (by omega) 10040 h2
 have a3 := numF_ok (n := 3) (v := t.gas) (by omega) (by omega) 10040 h3
 have a4 := numF_ok (n := 4) (v := t.fee) (by omega) (by omega) 10040 h4
 have a5 := textF_ok (n := 5) (s := t.memo) (by omega) (by omega) 10040 (by omega) (by omega)
 unfold formF
 refine ⟨all_app (all_app (all_app (all_app (all_app a1.1 a2.1) a3.1) a4.1) a5.1) fun f hf => ?_, ?_⟩
 ·obtain ⟨x, hx, rfl⟩ := List.mem_map.1 hf
  exact trF_ok (h7 x hx)
 ·simp only [List.length_append, List.length_map]; omega
theorem formS_len {t : TxS} (h : SmTx t) : (formS t).length ≤ 50350300 := by
 have h1 := formF_ok h
 have h2 := msgS_len_le 10040 _ h1.1
 have h3 := Nat.mul_le_mul_right (10040 + 20) h1.2
 unfold formS
 omega
theorem trs_at {l : List TrS} {k : Nat} (hk : k < l.length) : idxL (l.map trM) l.length (k : Int) = some (trM l[k]) := index_at hk (by simp [hk])
theorem form_r (t : TxS) (ht : SmTx t) : SemR Tryz.prog G 72 [txM t] [] 0 (.sl (formS t).length (u8s (formS t))) [] 0 := by
 have hok := formF_ok ht
 have hfl := formS_len ht
 obtain ⟨sender, seq, gas, fee, memo, trs⟩ := t
 obtain ⟨h1, h2, h3, h4, h5, h6, h7⟩ := ht
 dsimp only at h1 h2 h3 h4 h5 h6 h7
 have cm := message_r (G := G) _ (fun f hf => (hok.1 f hf).1) (show (msgS _).length < 200000000 from Nat.lt_of_le_of_lt hfl (by omega)) (by omega)
 have a1 := (textF_ok (n := 1) (s := sender) (by omega) (by omega) 10040 (by omega) (by omega)).2
 have a2 := (numF_ok (n := 2) (v := seq) (by omega) (by omega) 10040 h2).2
 have a3 := (numF_ok (n := 3) (v := gas) (by omega) (by omega) 10040 h3).2
 have a4 := (numF_ok (n := 4) (v := fee) (by omega) (by omega) 10040 h4).2
 have a5 := (textF_ok (n := 5) (s := memo) (by omega) (by omega) 10040 (by omega) (by omega)).2
 unfold formS formF at *
 unfold txM
 dsimp only at *
 have c1 := text_r (G := G) [] 1 sender (by simp) (by omega)
 rw [List.nil_append] at c1
 generalize textF 1 sender = l1 at *
 have c2 := number_r (G := G) l1 2 seq (by omega)
 have q2 : (l1 ++ numF 2 seq).length ≤ 2 := by rw [List.length_append]; omega
 generalize l1 ++ numF 2 seq = l2 at *
 have c3 := number_r (G := G) l2 3 gas (by omega)
 have q3 : (l2 ++ numF 3 gas).length ≤ 3 := by rw [List.length_append]; omega
 generalize l2 ++ numF 3 gas = l3 at *
 have c4 := number_r (G := G) l3 4 fee (by omega)
 have q4 : (l3 ++ numF 4 fee).length ≤ 4 := by rw [List.length_append]; omega
 generalize l3 ++ numF 4 fee = l4 at *
 have c5 := text_r (G := G) l4 5 memo (by omega) (by omega)
 have q5 : (l4 ++ textF 5 memo).length ≤ 5 := by rw [List.length_append]; omega
 generalize l4 ++ textF 5 memo = l5 at *
 unfold rowF at c1 c2 c3 c4 c5
 refine srq seat Tryz.func72 46 ?_
 refine go1 ?_
 refine g_callR1 rfl (fun _ h => h) rfl (c1) [] [] ⟨rfl, trivial, rfl, lm, mm⟩ rfl rfl ?_
 refine go1 ?_
 refine g_callR1 rfl (fun _ h => h) rfl (c2) [(0, _)] [] ⟨rfl, trivial, rfl, lm, mm⟩ rfl rfl ?_
 refine go1 ?_
 refine g_callR1 rfl (fun _ h => h) rfl (c3) [(0, _)] [] ⟨rfl, trivial, rfl, lm, mm⟩ rfl rfl ?_
 refine go1 ?_
 refine g_callR1 rfl (fun _ h => h) rfl (c4) [(0, _)] [] ⟨rfl, trivial, rfl, lm, mm⟩ rfl rfl ?_
 refine go1 ?_
 refine g_callR1 rfl (fun _ h => h) rfl (c5) [(0, _)] [] ⟨rfl, trivial, rfl, lm, mm⟩ rfl rfl ?_
 refine go1 ?_
 refine c_loop Nat (fun k => [(28, .int .i64 k), (27, .int .i64 trs.length), (26, .sl trs.length (trs.map trM)), (3, .ms 0 4 0 (l5 ++ (trs.take k).map trF).length)]) (fun k => [(0, ⟨183, 4, true, 0, (l5 ++ (trs.take k).map trF).map fldM⟩)]) 1 (fun k => k ≤ trs.length) (fun k => trs.length - k) 0 (Nat.zero_le _) (by rw [List.take_zero, List.map_nil, List.append_nil]; exact (vm [(0, _)] [])) ?_
 intro k hk
 try dsimp only
 refine go1 ?_
 ((with_reducible apply c_cond); (case he => exact rfl); (all_goals intro h))
 ·have hk' : k < trs.length := by have := of_decide_eq_true h; omega
  have hx := h7 _ (List.getElem_mem hk')
  have hel := trs_at hk'
  have hsucc : l5 ++ (trs.take (k + 1)).map trF = (l5 ++ (trs.take k).map trF) ++ [trF trs[k]] := by rw [List.take_succ_eq_append_getElem hk', List.map_append, List.append_assoc]; rfl
  have hll : (l5 ++ (trs.take k).map trF).length ≤ 5005 := by rw [List.length_append, List.length_map, List.length_take]; omega
  generalize trs[k] = x at *
  generalize l5 ++ (trs.take k).map trF = lk at *
  have hio := inner_ok hx
  have hil := inner_len hx
  have hto := textF_ok (n := 1) (s := x.to_) (by omega) (by omega) 5000 hx.1 (by omega)
  have d1 := text_r (G := G) [] 1 x.to_ (by simp) (by have := hx.1; omega)
  rw [List.nil_append] at d1
  have d2 := number_r (G := G) (textF 1 x.to_) 2 x.amt (by omega)
  have d3 := message_r (G := G) (textF 1 x.to_ ++ numF 2 x.amt) (fun f hf => (hio.1 f hf).1) (by omega) (by omega)
  unfold rowF at d1 d2
  have htr : trF x = ⟨6, 2, 0, msgS (textF 1 x.to_ ++ numF 2 x.amt)⟩ := rfl
  generalize textF 1 x.to_ ++ numF 2 x.amt = li at *
  generalize textF 1 x.to_ = lt at *
  generalize msgS li = mi at *
  (have fct := SomF.mk (hel); refine go1 ?_)
  refine c_draw [(0, false), (1, false), (2, false), (3, true), (4, false), (5, false), (6, true), (7, true), (8, false), (9, false), (10, false), (11, false)] ?_
  refine go1 ?_
  refine gd_callR1 rfl (fun _ h => h) rfl [] (d1) [] [] ⟨rfl, trivial, rfl, lm, mm⟩ rfl rfl rfl rfl ?_
  refine go1 ?_
  refine gd_callR1 rfl (fun _ h => h) rfl [9] (d2) [(0, 9)] [] ⟨rfl, trivial, rfl, lm, mm⟩ rfl rfl rfl rfl ?_
  refine go1 ?_
  refine gd_call1 rfl (fun _ h => h) rfl [12] (d3) rfl [(12, li.length)] mm lm rfl ?_
  refine go1 ?_
  ((with_reducible apply gd_mem); (case hv => exact rfl); (case he => (intro R hR; refine sms hR ?_; (refine And.intro (Nat.le_refl _) ?_; refine ⟨_, rfl, ?_⟩; refine And.intro ⟨(by simp), app_ok (by kernel_rfl) pf⟩ ?_; refine ⟨(lk ++ [(⟨6, 2, 0, mi⟩ : Fld)]).map fldM, sv (by simp; rfl), lk.length + 1, sv pf, ?_⟩); exact hR)); (case hd => exact rfl))
  refine go1 ?_
  exact ⟨k + 1, by show k + 1 ≤ trs.length; omega, by show trs.length - (k + 1) < trs.length - k; omega, (by dsimp only; rw [hsucc, htr, List.length_append, List.length_singleton]; exact (vm [(0, _)] []))⟩
 ·have hk' : k = trs.length := by have := of_decide_eq_false h; omega
  subst hk'
  rw [List.take_length]
  generalize l5 ++ trs.map trF = lk at *
  generalize msgS lk = mk at *
  refine go1 ?_
  refine g_call1 rfl (fun _ h => h) rfl (cm) rfl [(0, lk.length)] mm lm ?_
  refine go1 ?_
  refine ⟨[_], [], [], rfl, rfl, trivial, rfl, ⟨?_, trivial⟩, ?_⟩
  ·exact rv
  ·exact mm
end
section
mutual
theorem relV_self {σ : Nat → Option Nat} {fz : Fz} : ∀ (m : MV), m.idFree = true → relV σ fz m m
 | .st l, h => .inl ⟨rfl, h⟩
 | .fn f l, h => .inl ⟨rfl, h⟩
 | .ifc t v, h => .inl ⟨rfl, h⟩
 | .sl .., _ => .inl rfl
 | .ep .., _ => .inl rfl
 | .ptr .., h => by cases h
 | .ms .., h => by cases h
 | .tup .., h => by cases h
 | .undef, h => by cases h
 | .int .., _ => ⟨rfl, rfl⟩
 | .bool .., _ => ⟨rfl, rfl⟩
 | .str .., _ => ⟨rfl, rfl⟩
 | .nilp, _ => ⟨rfl, rfl⟩
 | .gp .., _ => ⟨rfl, rfl⟩
 | .nils, _ => ⟨rfl, rfl⟩
 | .nilf, _ => ⟨rfl, rfl⟩
 | .nili, _ => ⟨rfl, rfl⟩
 | .arr .., _ => ⟨rfl, rfl⟩
theorem relVs_self {σ : Nat → Option Nat} {fz : Fz} : ∀ (l : List MV), MV.idFrees l = true → relV.relVs σ fz l l
 | [], _ => trivial
 | m :: l, h => by
  simp only [MV.idFrees, Bool.and_eq_true] at h
  exact ⟨relV_self m h.1, relVs_self l h.2⟩
end
section
variable {Pg : Program} {T : Tab} {N : Nat} {ents : List FuncId} {G : GS} {ops : Array Oper} {d : Tmp} {ty : TypeId} {pos : String} {after : Array Edge} {g : Option (Nat × Bool)} {rest : List Oper} {K : VK} {E : VE} {M : VM} {n : Nat} {f : Operand} {args : Array Operand} {ats : Array TypeId} {f0 : FuncId} {vs : List MV} {res : MV}
theorem g_call3 (hd : Nat.blt d N = true) (h1 : ∀ R : FuncId × List MV → Prop, R (f0, vs) → (vArgs E f args.toList).runP R) (h2 : ents.contains f0 = true) (hc : SemR Pg G f0 vs [] 0 res [] 0) (hf : nfree res = true) (hi : MV.idFrees vs = true)
  (h : vOpsN Pg T N ents G ops rest K ((d, res) :: E) M n) : vOpsG Pg T N ents G ops ⟨some d, .call ⟨.value f, args, ats⟩, ty, pos, after, g⟩ rest K E M n :=
 g_call2 hd h1 h2 hc hf (relVs_self vs hi) h
end
variable {G : GS}
attribute [local irreducible] vOpsN vOpsG vOpsD vOpGD NextD vC SeqQ BlockQ
def followS (s : List UInt8) (i : Nat) : Bool := decide (i < s.length) && (decide (128 ≤ (s.getD i 0).toNat) && decide ((s.getD i 0).toNat < 192))
theorem idxS_at {s : List UInt8} {i : Nat} (h : i < s.length) : idxS s (i : Int) = some (s.getD i 0) := by
 unfold idxS
 rw [if_pos (by omega)]
 simp [h]
theorem idxS_of {s : List UInt8} {j : Int} (i : Nat) (hj : j = i) (h : i < s.length) : idxS s j = some (s.getD i 0) := by
 subst hj; exact idxS_at h
theorem follow_m (s : List UInt8) (i : Nat) (hs : s.length < 1000000000) : SemC Tryz.prog G 270 [.str s, .int .i64 i] (.bool (followS s i)) := by
 unfold followS
 by_cases hi : i < s.length
 ·have f1 := SomF.mk (idxS_at hi)
  generalize s.getD i 0 = c at *
  rw [decide_eq_true hi, Bool.true_and]
  by_cases h1 : 128 ≤ c.toNat
  ·rw [decide_eq_true h1, Bool.true_and]
   refine scq seat Tryz.func270 21 ?_
   (iterate 3 ((all_goals (refine go1 ?_)); (all_goals (first | ((first | ((with_reducible apply n_grd); (case hf => exact ⟨rfl, rfl, rfl⟩)) | ((with_reducible apply c_cond); (case he => exact rfl))); (all_goals intro h); (all_goals (try simp only [bx] at h)); (all_goals (try (exfalso; omega)))) | skip))))
   all_goals first | (exfalso; omega) | (refine go0 ?_; first | rfl | exact congrArg MV.bool (decide_eq_decide.2 (by omega)))
  ·rw [decide_eq_false h1, Bool.false_and]
   refine scq seat Tryz.func270 21 ?_
   (iterate 3 ((all_goals (refine go1 ?_)); (all_goals (first | ((first | ((with_reducible apply n_grd); (case hf => exact ⟨rfl, rfl, rfl⟩)) | ((with_reducible apply c_cond); (case he => exact rfl))); (all_goals intro h); (all_goals (try simp only [bx] at h)); (all_goals (try (exfalso; omega)))) | skip))))
   all_goals first | (exfalso; omega) | (refine go0 ?_; first | rfl | exact congrArg MV.bool (decide_eq_decide.2 (by omega)))
 ·rw [decide_eq_false hi, Bool.false_and]
  refine scq seat Tryz.func270 21 ?_
  (iterate 3 ((all_goals (refine go1 ?_)); (all_goals (first | ((first | ((with_reducible apply n_grd); (case hf => exact ⟨rfl, rfl, rfl⟩)) | ((with_reducible apply c_cond); (case he => exact rfl))); (all_goals intro h); (all_goals (try simp only [bx] at h)); (all_goals (try (exfalso; omega)))) | skip))))
  all_goals first | (exfalso; omega) | (refine go0 ?_; first | rfl | exact congrArg MV.bool (decide_eq_decide.2 (by omega)))
def runeS (s : List UInt8) (i : Nat) : Nat :=
 if (s.getD i 0).toNat < 128 then 1 else
 if 194 ≤ (s.getD i 0).toNat ∧ (s.getD i 0).toNat < 224 ∧ followS s (i + 1) = true then 2 else
 if 224 ≤ (s.getD i 0).toNat ∧ (s.getD i 0).toNat < 240 ∧ followS s (i + 1) = true ∧ followS s (i + 2) = true then
  (if (s.getD i 0).toNat = 224 ∧ (s.getD (i + 1) 0).toNat < 160 ∨ (s.getD i 0).toNat = 237 ∧ 160 ≤ (s.getD (i + 1) 0).toNat then 0 else 3) else
 if 240 ≤ (s.getD i 0).toNat ∧ (s.getD i 0).toNat < 245 ∧ followS s (i + 1) = true ∧ followS s (i + 2) = true ∧ followS s (i + 3) = true then
  (if (s.getD i 0).toNat = 240 ∧ (s.getD (i + 1) 0).toNat < 144 ∨ (s.getD i 0).toNat = 244 ∧ 144 ≤ (s.getD (i + 1) 0).toNat then 0 else 4) else 0
theorem followS_lt {s : List UInt8} {i : Nat} (h : followS s i = true) : i < s.length := by
 unfold followS at h
 rw [Bool.and_eq_true] at h
 exact of_decide_eq_true h.1
theorem rune_m (s : List UInt8) (i : Nat) (hs : s.length < 1000000000) (hi : i < s.length) : SemC Tryz.prog G 239 [.str s, .int .i64 i] (.int .i64 (runeS s i)) := by
 have f0 := SomF.mk (idxS_at hi)
 have c1 : SemC Tryz.prog G 270 [.str s, .int .i64 ((i : Int) + 1)] _ := follow_m s (i + 1) hs
 have c2 : SemC Tryz.prog G 270 [.str s, .int .i64 ((i : Int) + 2)] _ := follow_m s (i + 2) hs
 have c3 : SemC Tryz.prog G 270 [.str s, .int .i64 ((i : Int) + 3)] _ := follow_m s (i + 3) hs
 generalize hr : runeS s i = r
 unfold runeS at hr
 have l1 := followS_lt (s := s) (i := i + 1)
 have f1 : i + 1 < s.length → idxS s ((i : Int) + 1) = some (s.getD (i + 1) 0) := fun h => idxS_of (i + 1) (by omega) h
 generalize s.getD i 0 = x at *
 generalize s.getD (i + 1) 0 = y at *
 generalize followS s (i + 1) = b1 at *
 generalize followS s (i + 2) = b2 at *
 generalize followS s (i + 3) = b3 at *
 rcases Nat.lt_or_ge x.toNat 128 with g1 | g1
 ·
  clear l1 f1
  refine scq seat Tryz.func239 109 ?_
  (iterate 12 ((all_goals (refine go1 ?_)); (all_goals (first | (refine g_call3 rfl (fun _ h => h) rfl (semR_of_semC (c1)) rfl rfl ?_) | (refine g_call3 rfl (fun _ h => h) rfl (semR_of_semC (c2)) rfl rfl ?_) | (refine g_call3 rfl (fun _ h => h) rfl (semR_of_semC (c3)) rfl rfl ?_) | ((first | ((with_reducible apply n_grd); (case hf => exact ⟨rfl, rfl, rfl⟩)) | ((with_reducible apply c_cond); (case he => exact rfl))); (all_goals intro h); (all_goals (try simp only [bx] at h)); (all_goals (try (exfalso; omega)))) | skip))))
  refine go0 ?_
  exact congrArg (MV.int .i64) (by subst hr; (repeat (first | rw [if_pos (by omega)] | rw [if_neg (by omega)])); first | rfl | omega)
 rcases Nat.lt_or_ge x.toNat 194 with g2 | g2
 ·
  clear l1 f1
  refine scq seat Tryz.func239 109 ?_
  (iterate 12 ((all_goals (refine go1 ?_)); (all_goals (first | (refine g_call3 rfl (fun _ h => h) rfl (semR_of_semC (c1)) rfl rfl ?_) | (refine g_call3 rfl (fun _ h => h) rfl (semR_of_semC (c2)) rfl rfl ?_) | (refine g_call3 rfl (fun _ h => h) rfl (semR_of_semC (c3)) rfl rfl ?_) | ((first | ((with_reducible apply n_grd); (case hf => exact ⟨rfl, rfl, rfl⟩)) | ((with_reducible apply c_cond); (case he => exact rfl))); (all_goals intro h); (all_goals (try simp only [bx] at h)); (all_goals (try (exfalso; omega)))) | skip))))
  refine go0 ?_
  exact congrArg (MV.int .i64) (by subst hr; (repeat (first | rw [if_pos (by omega)] | rw [if_neg (by omega)])); first | rfl | omega)
 rcases Nat.lt_or_ge x.toNat 224 with g3 | g3
 ·cases b1 with
  | false =>
   simp only [Bool.false_eq_true, and_false, and_true, false_and, true_and, if_false] at hr
   clear l1 f1
   refine scq seat Tryz.func239 109 ?_
   (iterate 12 ((all_goals (refine go1 ?_)); (all_goals (first | (refine g_call3 rfl (fun _ h => h) rfl (semR_of_semC (c1)) rfl rfl ?_) | (refine g_call3 rfl (fun _ h => h) rfl (semR_of_semC (c2)) rfl rfl ?_) | (refine g_call3 rfl (fun _ h => h) rfl (semR_of_semC (c3)) rfl rfl ?_) | ((first | ((with_reducible apply n_grd); (case hf => exact ⟨rfl, rfl, rfl⟩)) | ((with_reducible apply c_cond); (case he => exact rfl))); (all_goals intro h); (all_goals (try simp only [bx] at h)); (all_goals (try (exfalso; omega)))) | skip))))
   refine go0 ?_
   exact congrArg (MV.int .i64) (by subst hr; (repeat (first | rw [if_pos (by omega)] | rw [if_neg (by omega)])); first | rfl | omega)
  | true =>
   rw [if_neg (by omega), if_pos ⟨by omega, by omega, rfl⟩] at hr
   clear l1 f1
   refine scq seat Tryz.func239 109 ?_
   (iterate 12 ((all_goals (refine go1 ?_)); (all_goals (first | (refine g_call3 rfl (fun _ h => h) rfl (semR_of_semC (c1)) rfl rfl ?_) | (refine g_call3 rfl (fun _ h => h) rfl (semR_of_semC (c2)) rfl rfl ?_) | (refine g_call3 rfl (fun _ h => h) rfl (semR_of_semC (c3)) rfl rfl ?_) | ((first | ((with_reducible apply n_grd); (case hf => exact ⟨rfl, rfl, rfl⟩)) | ((with_reducible apply c_cond); (case he => exact rfl))); (all_goals intro h); (all_goals (try simp only [bx] at h)); (all_goals (try (exfalso; omega)))) | skip))))
   refine go0 ?_
   exact congrArg (MV.int .i64) (by subst hr; (repeat (first | rw [if_pos (by omega)] | rw [if_neg (by omega)])); first | rfl | omega)
 rw [if_neg (by omega), if_neg (by omega)] at hr
 rcases Nat.lt_or_ge x.toNat 240 with g4 | g4
 ·cases b1 with
  | false =>
   simp only [Bool.false_eq_true, and_false, and_true, false_and, true_and, if_false] at hr
   clear l1 f1
   refine scq seat Tryz.func239 109 ?_
   (iterate 12 ((all_goals (refine go1 ?_)); (all_goals (first | (refine g_call3 rfl (fun _ h => h) rfl (semR_of_semC (c1)) rfl rfl ?_) | (refine g_call3 rfl (fun _ h => h) rfl (semR_of_semC (c2)) rfl rfl ?_) | (refine g_call3 rfl (fun _ h => h) rfl (semR_of_semC (c3)) rfl rfl ?_) | ((first | ((with_reducible apply n_grd); (case hf => exact ⟨rfl, rfl, rfl⟩)) | ((with_reducible apply c_cond); (case he => exact rfl))); (all_goals intro h); (all_goals (try simp only [bx] at h)); (all_goals (try (exfalso; omega)))) | skip))))
   refine go0 ?_
   exact congrArg (MV.int .i64) (by subst hr; (repeat (first | rw [if_pos (by omega)] | rw [if_neg (by omega)])); first | rfl | omega)
  | true =>
   cases b2 with
   | false =>
    simp only [Bool.false_eq_true, and_false, and_true, false_and, true_and, if_false] at hr
    clear l1 f1
    refine scq seat Tryz.func239 109 ?_
    (iterate 12 ((all_goals (refine go1 ?_)); (all_goals (first | (refine g_call3 rfl (fun _ h => h) rfl (semR_of_semC (c1)) rfl rfl ?_) | (refine g_call3 rfl (fun _ h => h) rfl (semR_of_semC (c2)) rfl rfl ?_) | (refine g_call3 rfl (fun _ h => h) rfl (semR_of_semC (c3)) rfl rfl ?_) | ((first | ((with_reducible apply n_grd); (case hf => exact ⟨rfl, rfl, rfl⟩)) | ((with_reducible apply c_cond); (case he => exact rfl))); (all_goals intro h); (all_goals (try simp only [bx] at h)); (all_goals (try (exfalso; omega)))) | skip))))
    refine go0 ?_
    exact congrArg (MV.int .i64) (by subst hr; (repeat (first | rw [if_pos (by omega)] | rw [if_neg (by omega)])); first | rfl | omega)
   | true =>
    have f1 := SomF.mk (f1 (l1 rfl))
    rw [if_pos ⟨by omega, by omega, rfl, rfl⟩] at hr
    refine scq seat Tryz.func239 109 ?_
    (iterate 20 ((all_goals (refine go1 ?_)); (all_goals (first | (refine g_call3 rfl (fun _ h => h) rfl (semR_of_semC (c1)) rfl rfl ?_) | (refine g_call3 rfl (fun _ h => h) rfl (semR_of_semC (c2)) rfl rfl ?_) | (refine g_call3 rfl (fun _ h => h) rfl (semR_of_semC (c3)) rfl rfl ?_) | ((first | ((with_reducible apply n_grd); (case hf => exact ⟨rfl, rfl, rfl⟩)) | ((with_reducible apply c_cond); (case he => exact rfl))); (all_goals intro h); (all_goals (try simp only [bx] at h)); (all_goals (try (exfalso; omega)))) | skip))))
    all_goals (refine go0 ?_; exact congrArg (MV.int .i64) (by subst hr; (repeat (first | rw [if_pos (by omega)] | rw [if_neg (by omega)])); first | rfl | omega))
 rw [if_neg (by omega)] at hr
 rcases Nat.lt_or_ge x.toNat 245 with g5 | g5
 ·cases b1 with
  | false =>
   simp only [Bool.false_eq_true, and_false, and_true, false_and, true_and, if_false] at hr
   clear l1 f1
   refine scq seat Tryz.func239 109 ?_
   (iterate 12 ((all_goals (refine go1 ?_)); (all_goals (first | (refine g_call3 rfl (fun _ h => h) rfl (semR_of_semC (c1)) rfl rfl ?_) | (refine g_call3 rfl (fun _ h => h) rfl (semR_of_semC (c2)) rfl rfl ?_) | (refine g_call3 rfl (fun _ h => h) rfl (semR_of_semC (c3)) rfl rfl ?_) | ((first | ((with_reducible apply n_grd); (case hf => exact ⟨rfl, rfl, rfl⟩)) | ((with_reducible apply c_cond); (case he => exact rfl))); (all_goals intro h); (all_goals (try simp only [bx] at h)); (all_goals (try (exfalso; omega)))) | skip))))
   refine go0 ?_
   exact congrArg (MV.int .i64) (by subst hr; (repeat (first | rw [if_pos (by omega)] | rw [if_neg (by omega)])); first | rfl | omega)
  | true =>
   cases b2 with
   | false =>
    simp only [Bool.false_eq_true, and_false, and_true, false_and, true_and, if_false] at hr
    clear l1 f1
    refine scq seat Tryz.func239 109 ?_
    (iterate 12 ((all_goals (refine go1 ?_)); (all_goals (first | (refine g_call3 rfl (fun _ h => h) rfl (semR_of_semC (c1)) rfl rfl ?_) | (refine g_call3 rfl (fun _ h => h) rfl (semR_of_semC (c2)) rfl rfl ?_) | (refine g_call3 rfl (fun _ h => h) rfl (semR_of_semC (c3)) rfl rfl ?_) | ((first | ((with_reducible apply n_grd); (case hf => exact ⟨rfl, rfl, rfl⟩)) | ((with_reducible apply c_cond); (case he => exact rfl))); (all_goals intro h); (all_goals (try simp only [bx] at h)); (all_goals (try (exfalso; omega)))) | skip))))
    refine go0 ?_
    exact congrArg (MV.int .i64) (by subst hr; (repeat (first | rw [if_pos (by omega)] | rw [if_neg (by omega)])); first | rfl | omega)
   | true =>
    cases b3 with
    | false =>
     simp only [Bool.false_eq_true, and_false, and_true, false_and, true_and, if_false] at hr
     clear l1 f1
     refine scq seat Tryz.func239 109 ?_
     (iterate 12 ((all_goals (refine go1 ?_)); (all_goals (first | (refine g_call3 rfl (fun _ h => h) rfl (semR_of_semC (c1)) rfl rfl ?_) | (refine g_call3 rfl (fun _ h => h) rfl (semR_of_semC (c2)) rfl rfl ?_) | (refine g_call3 rfl (fun _ h => h) rfl (semR_of_semC (c3)) rfl rfl ?_) | ((first | ((with_reducible apply n_grd); (case hf => exact ⟨rfl, rfl, rfl⟩)) | ((with_reducible apply c_cond); (case he => exact rfl))); (all_goals intro h); (all_goals (try simp only [bx] at h)); (all_goals (try (exfalso; omega)))) | skip))))
     refine go0 ?_
     exact congrArg (MV.int .i64) (by subst hr; (repeat (first | rw [if_pos (by omega)] | rw [if_neg (by omega)])); first | rfl | omega)
    | true =>
     have f1 := SomF.mk (f1 (l1 rfl))
     rw [if_pos ⟨by omega, by omega, rfl, rfl, rfl⟩] at hr
     refine scq seat Tryz.func239 109 ?_
     (iterate 24 ((all_goals (refine go1 ?_)); (all_goals (first | (refine g_call3 rfl (fun _ h => h) rfl (semR_of_semC (c1)) rfl rfl ?_) | (refine g_call3 rfl (fun _ h => h) rfl (semR_of_semC (c2)) rfl rfl ?_) | (refine g_call3 rfl (fun _ h => h) rfl (semR_of_semC (c3)) rfl rfl ?_) | ((first | ((with_reducible apply n_grd); (case hf => exact ⟨rfl, rfl, rfl⟩)) | ((with_reducible apply c_cond); (case he => exact rfl))); (all_goals intro h); (all_goals (try simp only [bx] at h)); (all_goals (try (exfalso; omega)))) | skip))))
     all_goals (refine go0 ?_; exact congrArg (MV.int .i64) (by subst hr; (repeat (first | rw [if_pos (by omega)] | rw [if_neg (by omega)])); first | rfl | omega))
 ·rw [if_neg (by omega)] at hr
  clear l1 f1
  refine scq seat Tryz.func239 109 ?_
  (iterate 12 ((all_goals (refine go1 ?_)); (all_goals (first | (refine g_call3 rfl (fun _ h => h) rfl (semR_of_semC (c1)) rfl rfl ?_) | (refine g_call3 rfl (fun _ h => h) rfl (semR_of_semC (c2)) rfl rfl ?_) | (refine g_call3 rfl (fun _ h => h) rfl (semR_of_semC (c3)) rfl rfl ?_) | ((first | ((with_reducible apply n_grd); (case hf => exact ⟨rfl, rfl, rfl⟩)) | ((with_reducible apply c_cond); (case he => exact rfl))); (all_goals intro h); (all_goals (try simp only [bx] at h)); (all_goals (try (exfalso; omega)))) | skip))))
  refine go0 ?_
  exact congrArg (MV.int .i64) (by subst hr; (repeat (first | rw [if_pos (by omega)] | rw [if_neg (by omega)])); first | rfl | omega)
end
section
variable {G : GS}
attribute [local irreducible] vOpsN vOpsG vOpsD vOpGD NextD vC SeqQ BlockQ
def runesG : Nat → List UInt8 → Nat → Nat → Nat × Bool
 | 0, _, _, n => (n, true)
 | f + 1, s, i, n => if i < s.length then (if runeS s i = 0 then (0, false) else runesG f s (i + runeS s i) (n + 1)) else (n, true)
def runesS (s : List UInt8) : Nat × Bool := runesG s.length s 0 0
def memoS (s : List UInt8) : Bool := (runesS s).2 && decide ((runesS s).1 ≤ 64)
theorem runeS_le (s : List UInt8) (i : Nat) : runeS s i ≤ 4 := by
 unfold runeS
 repeat' split
 all_goals omega
theorem runes_m (s : List UInt8) (hs : s.length < 500000000) : SemC Tryz.prog G 178 [.str s] (.tup [.int .i64 (runesS s).1, .bool (runesS s).2]) := by
  generalize hr : runesS s = r
  unfold runesS at hr
  obtain ⟨r1, r2⟩ := r
  dsimp only
  refine scq seat Tryz.func178 22 ?_
  refine go1 ?_
  refine c_loop (Nat × Nat × Nat) (fun x => [(5, .int .i64 x.2.1), (4, .int .i64 x.2.2), (0, .str s)]) (fun _ => []) 0 (fun x => runesG x.1 s x.2.1 x.2.2 = (r1, r2) ∧ s.length ≤ x.2.1 + x.1 ∧ x.2.1 ≤ s.length + 4 ∧ x.2.2 + x.1 ≤ s.length) (fun x => x.1) (s.length, 0, 0) ⟨hr, by dsimp only; omega, by dsimp only; omega, by dsimp only; omega⟩ (by dsimp only; exact (vm [] [])) ?_
  rintro ⟨f, i, n⟩ ⟨hR, h1, h2, h3⟩
  try dsimp only
  dsimp only at hR h1 h2 h3
  refine go1 ?_
  ((with_reducible apply c_cond); (case he => exact rfl); (all_goals intro h))
  · have hi : i < s.length := by have := of_decide_eq_true h; omega
    have c1 := rune_m (G := G) s i (by omega) hi
    have hk := runeS_le s i
    match f, hR, h1, h3 with
    | 0, hR, h1, h3 => exfalso; omega
    | f + 1, hR, h1, h3 =>
    rw [runesG, if_pos hi] at hR
    generalize runeS s i = k at *
    refine go1 ?_
    refine g_call2 rfl (fun _ h => h) rfl (semR_of_semC (c1)) rfl lm ?_
    refine go1 ?_
    ((with_reducible apply c_cond); (case he => exact rfl); (all_goals intro h))
    · have hk0 : k = 0 := by have : (k : Int) = 0 := by simpa using h
                             omega
      rw [if_pos hk0] at hR
      simp only [Prod.mk.injEq] at hR
      obtain ⟨rfl, rfl⟩ := hR
      refine go1 ?_
      refine go0 ?_
      rfl
    · have hk0 : k ≠ 0 := by have : ¬ (k : Int) = 0 := by simpa using h
                             omega
      rw [if_neg hk0] at hR
      refine go1 ?_
      exact ⟨(f, i + k, n + 1), ⟨hR, by dsimp only; omega, by dsimp only; omega, by dsimp only; omega⟩, by show f < f + 1; omega, (by dsimp only; exact (vm [] []))⟩
  · have hi : ¬ i < s.length := by have := of_decide_eq_false h; omega
    have : runesG f s i n = (n, true) := by cases f with | zero => rfl | succ f => rw [runesG, if_neg hi]
    rw [this] at hR
    simp only [Prod.mk.injEq] at hR
    obtain ⟨rfl, rfl⟩ := hR
    refine go1 ?_
    refine go0 ?_
    rfl
theorem memo_m (s : List UInt8) (hs : s.length < 500000000) : SemC Tryz.prog G 120 [.str s] (.bool (memoS s)) := by
 have c1 := runes_m (G := G) s hs
 unfold memoS
 generalize runesS s = r at *
 obtain ⟨n, ok⟩ := r
 dsimp only at c1 ⊢
 cases ok with
 | true =>
  refine scq seat Tryz.func120 15 ?_
  refine go1 ?_
  refine g_call2 rfl (fun _ h => h) rfl (semR_of_semC (c1)) rfl lm ?_
  refine go1 ?_
  refine go0 ?_
  exact congrArg MV.bool (decide_eq_decide.2 (by omega))
 | false =>
  refine scq seat Tryz.func120 15 ?_
  refine go1 ?_
  refine g_call2 rfl (fun _ h => h) rfl (semR_of_semC (c1)) rfl lm ?_
  refine go1 ?_
  refine go0 ?_
  rfl
def okCh (c : UInt8) : Bool := decide (97 ≤ c.toNat ∧ c.toNat ≤ 122 ∨ 48 ≤ c.toNat ∧ c.toNat ≤ 57 ∨ c.toNat = 45)
def nameS (s : List UInt8) : Bool := s.all okCh && decide (1 ≤ s.length ∧ s.length ≤ 20)
theorem name_m (s : List UInt8) (hs : s.length < 500000000) : SemC Tryz.prog G 79 [.str s] (.bool (nameS s)) := by
 generalize hr : nameS s = r
 unfold nameS at hr
 refine scq seat Tryz.func79 41 ?_
 refine go1 ?_
 refine c_loop Nat (fun i => [(3, .int .i64 i), (0, .str s)]) (fun _ => []) 0 (fun i => i ≤ s.length ∧ (s.take i).all okCh = true) (fun i => s.length - i) 0 ⟨Nat.zero_le _, by simp⟩ (vm [] []) ?_
 rintro i ⟨hi, hp⟩
 try dsimp only
 refine go1 ?_
 ((with_reducible apply c_cond); (case he => exact rfl); (all_goals intro h))
 ·have hi' : i < s.length := by have := of_decide_eq_true h; omega
  have f0 := SomF.mk (idxS_at hi')
  have hsu : (s.take (i + 1)).all okCh = ((s.take i).all okCh && okCh (s.getD i 0)) := by
   rw [List.take_succ_eq_append_getElem hi', List.all_append]; simp [hi']
  have hall : okCh (s.getD i 0) = false → s.all okCh = false := fun h => by
   rw [← List.take_append_drop (i + 1) s, List.all_append, hsu, h]; simp
  generalize s.getD i 0 = c at *
  by_cases hc : okCh c = true
  ·rw [hp, hc] at hsu
   have hc' := of_decide_eq_true hc
   (iterate 6 ((all_goals (refine go1 ?_)); (all_goals (first | ((first | ((with_reducible apply n_grd); (case hf => exact ⟨rfl, rfl, rfl⟩)) | ((with_reducible apply c_cond); (case he => exact rfl))); (all_goals intro h); (all_goals (try simp only [bx] at h)); (all_goals (try (exfalso; omega)))) | skip))))
   all_goals exact ⟨i + 1, ⟨by omega, by rw [hsu]; rfl⟩, by show s.length - (i + 1) < s.length - i; omega, (by dsimp only; exact (vm [] []))⟩
  ·have hcf : okCh c = false := by simpa using hc
   rw [hall hcf, Bool.false_and] at hr
   subst hr
   have hc' := of_decide_eq_false hcf
   (iterate 6 ((all_goals (refine go1 ?_)); (all_goals (first | ((first | ((with_reducible apply n_grd); (case hf => exact ⟨rfl, rfl, rfl⟩)) | ((with_reducible apply c_cond); (case he => exact rfl))); (all_goals intro h); (all_goals (try simp only [bx] at h)); (all_goals (try (exfalso; omega)))) | skip))))
   all_goals (refine go0 ?_; rfl)
 ·have hi' : i = s.length := by have := of_decide_eq_false h; omega
  subst hi'
  rw [List.take_length] at hp
  rw [hp, Bool.true_and] at hr
  subst hr
  (iterate 3 ((all_goals (refine go1 ?_)); (all_goals (first | ((first | ((with_reducible apply n_grd); (case hf => exact ⟨rfl, rfl, rfl⟩)) | ((with_reducible apply c_cond); (case he => exact rfl))); (all_goals intro h); (all_goals (try simp only [bx] at h)); (all_goals (try (exfalso; omega)))) | skip))))
  all_goals (refine go0 ?_; exact congrArg MV.bool (by first | exact decide_eq_decide.2 (by omega) | exact (decide_eq_false (by omega)).symm))
def trsS : List TrS → Nat
 | [] => 0
 | x :: r => if nameS x.to_ = false then 10 else if x.amt = 0 then 12 else trsS r
def validTxS (t : TxS) : Nat := if nameS t.sender = false then 10 else if t.gas = 0 then 15 else if memoS t.memo = false then 11 else if t.trs.length = 0 ∨ 16 < t.trs.length then 3 else trsS t.trs
theorem validTx_m (t : TxS) (ht : SmTx t) : SemC Tryz.prog G 71 [txM t] (.int .i64 (validTxS t)) := by
 obtain ⟨sender, seq, gas, fee, memo, trs⟩ := t
 obtain ⟨h1, h2, h3, h4, h5, h6, h7⟩ := ht
 dsimp only at h1 h2 h3 h4 h5 h6 h7
 have c1 := name_m (G := G) sender (by omega)
 have c2 := memo_m (G := G) memo (by omega)
 generalize hr : validTxS _ = r
 unfold validTxS at hr
 unfold txM
 dsimp only at hr ⊢
 generalize nameS sender = b1 at *
 generalize memoS memo = b2 at *
 cases b1 with
 | false =>
  rw [if_pos rfl] at hr
  subst hr
  refine scq seat Tryz.func71 45 ?_
  (iterate 2 ((all_goals (refine go1 ?_)); (all_goals (first | (refine g_call3 rfl (fun _ h => h) rfl (semR_of_semC (c1)) rfl rfl ?_) | ((first | ((with_reducible apply n_grd); (case hf => exact ⟨rfl, rfl, rfl⟩)) | ((with_reducible apply c_cond); (case he => exact rfl))); (all_goals intro h); (all_goals (try simp only [bx] at h)); (all_goals (try (exfalso; omega)))) | skip))))
  refine go0 ?_
  rfl
 | true =>
 rw [if_neg (by simp)] at hr
 by_cases hg : gas = 0
 ·rw [if_pos hg] at hr
  subst hr
  refine scq seat Tryz.func71 45 ?_
  (iterate 3 ((all_goals (refine go1 ?_)); (all_goals (first | (refine g_call3 rfl (fun _ h => h) rfl (semR_of_semC (c1)) rfl rfl ?_) | ((first | ((with_reducible apply n_grd); (case hf => exact ⟨rfl, rfl, rfl⟩)) | ((with_reducible apply c_cond); (case he => exact rfl))); (all_goals intro h); (all_goals (try simp only [bx] at h)); (all_goals (try (exfalso; omega)))) | skip))))
  refine go0 ?_
  rfl
 rw [if_neg hg] at hr
 cases b2 with
 | false =>
  rw [if_pos rfl] at hr
  subst hr
  refine scq seat Tryz.func71 45 ?_
  (iterate 4 ((all_goals (refine go1 ?_)); (all_goals (first | (refine g_call3 rfl (fun _ h => h) rfl (semR_of_semC (c1)) rfl rfl ?_) | (refine g_call3 rfl (fun _ h => h) rfl (semR_of_semC (c2)) rfl rfl ?_) | ((first | ((with_reducible apply n_grd); (case hf => exact ⟨rfl, rfl, rfl⟩)) | ((with_reducible apply c_cond); (case he => exact rfl))); (all_goals intro h); (all_goals (try simp only [bx] at h)); (all_goals (try (exfalso; omega)))) | skip))))
  refine go0 ?_
  rfl
 | true =>
 rw [if_neg (by simp)] at hr
 by_cases hl : trs.length = 0 ∨ 16 < trs.length
 ·rw [if_pos hl] at hr
  subst hr
  refine scq seat Tryz.func71 45 ?_
  (iterate 6 ((all_goals (refine go1 ?_)); (all_goals (first | (refine g_call3 rfl (fun _ h => h) rfl (semR_of_semC (c1)) rfl rfl ?_) | (refine g_call3 rfl (fun _ h => h) rfl (semR_of_semC (c2)) rfl rfl ?_) | ((first | ((with_reducible apply n_grd); (case hf => exact ⟨rfl, rfl, rfl⟩)) | ((with_reducible apply c_cond); (case he => exact rfl))); (all_goals intro h); (all_goals (try simp only [bx] at h)); (all_goals (try (exfalso; omega)))) | skip))))
  all_goals (refine go0 ?_; rfl)
 rw [if_neg hl] at hr
 refine scq seat Tryz.func71 45 ?_
 (iterate 6 ((all_goals (refine go1 ?_)); (all_goals (first | (refine g_call3 rfl (fun _ h => h) rfl (semR_of_semC (c1)) rfl rfl ?_) | (refine g_call3 rfl (fun _ h => h) rfl (semR_of_semC (c2)) rfl rfl ?_) | ((first | ((with_reducible apply n_grd); (case hf => exact ⟨rfl, rfl, rfl⟩)) | ((with_reducible apply c_cond); (case he => exact rfl))); (all_goals intro h); (all_goals (try simp only [bx] at h)); (all_goals (try (exfalso; omega)))) | skip))))
 refine c_loop Nat (fun k => [(33, .int .i64 k), (32, .int .i64 trs.length), (31, .sl trs.length (trs.map trM))]) (fun _ => []) 0 (fun k => k ≤ trs.length ∧ trsS (trs.drop k) = r) (fun k => trs.length - k) 0 ⟨Nat.zero_le _, by rw [List.drop_zero]; exact hr⟩ (vm [] []) ?_
 rintro k ⟨hk, hR⟩
 try dsimp only
 refine go1 ?_
 ((with_reducible apply c_cond); (case he => exact rfl); (all_goals intro h))
 ·have hk' : k < trs.length := by have := of_decide_eq_true h; omega
  have hx := h7 _ (List.getElem_mem hk')
  have hel := SomF.mk (trs_at hk')
  rw [List.drop_eq_getElem_cons hk', trsS] at hR
  generalize trs[k] = x at *
  have d1 := name_m (G := G) x.to_ (by have := hx.1; omega)
  generalize nameS x.to_ = b at *
  cases b with
  | false =>
   rw [if_pos rfl] at hR
   subst hR
   (iterate 3 ((all_goals (refine go1 ?_)); (all_goals (first | (refine g_call3 rfl (fun _ h => h) rfl (semR_of_semC (d1)) rfl rfl ?_) | ((first | ((with_reducible apply n_grd); (case hf => exact ⟨rfl, rfl, rfl⟩)) | ((with_reducible apply c_cond); (case he => exact rfl))); (all_goals intro h); (all_goals (try simp only [bx] at h)); (all_goals (try (exfalso; omega)))) | skip))))
   refine go0 ?_
   rfl
  | true =>
   rw [if_neg (by simp)] at hR
   by_cases hz : x.amt = 0
   ·rw [if_pos hz] at hR
    subst hR
    (iterate 4 ((all_goals (refine go1 ?_)); (all_goals (first | (refine g_call3 rfl (fun _ h => h) rfl (semR_of_semC (d1)) rfl rfl ?_) | ((first | ((with_reducible apply n_grd); (case hf => exact ⟨rfl, rfl, rfl⟩)) | ((with_reducible apply c_cond); (case he => exact rfl))); (all_goals intro h); (all_goals (try simp only [bx] at h)); (all_goals (try (exfalso; omega)))) | skip))))
    refine go0 ?_
    rfl
   ·rw [if_neg hz] at hR
    (iterate 4 ((all_goals (refine go1 ?_)); (all_goals (first | (refine g_call3 rfl (fun _ h => h) rfl (semR_of_semC (d1)) rfl rfl ?_) | ((first | ((with_reducible apply n_grd); (case hf => exact ⟨rfl, rfl, rfl⟩)) | ((with_reducible apply c_cond); (case he => exact rfl))); (all_goals intro h); (all_goals (try simp only [bx] at h)); (all_goals (try (exfalso; omega)))) | skip))))
    exact ⟨k + 1, ⟨by omega, hR⟩, by show trs.length - (k + 1) < trs.length - k; omega, (by dsimp only; exact (vm [] []))⟩
 ·have hk' : k = trs.length := by have := of_decide_eq_false h; omega
  subst hk'
  rw [List.drop_length, trsS] at hR
  subst hR
  refine go1 ?_
  refine go0 ?_
  rfl
end
section
variable {G : GS}
attribute [local irreducible] vOpsN vOpsG vOpsD vOpGD NextD vC SeqQ BlockQ
theorem pname_m (s : List UInt8) (hs : s.length < 500000000) : SemC Tryz.prog G 73 [.str s] (.bool (nameS s)) := by
 generalize hr : nameS s = r
 unfold nameS at hr
 refine scq seat Tryz.func73 40 ?_
 refine go1 ?_
 refine c_loop Nat (fun i => [(7, .int .i64 i), (6, .int .i64 s.length), (0, .str s)]) (fun _ => []) 0 (fun i => i ≤ s.length ∧ (s.take i).all okCh = true) (fun i => s.length - i) 0 ⟨Nat.zero_le _, by simp⟩ (vm [] []) ?_
 rintro i ⟨hi, hp⟩
 try dsimp only
 refine go1 ?_
 ((with_reducible apply c_cond); (case he => exact rfl); (all_goals intro h))
 ·have hi' : i < s.length := by have := of_decide_eq_true h; omega
  have f0 := SomF.mk (idxS_at hi')
  have hsu : (s.take (i + 1)).all okCh = ((s.take i).all okCh && okCh (s.getD i 0)) := by
   rw [List.take_succ_eq_append_getElem hi', List.all_append]; simp [hi']
  have hall : okCh (s.getD i 0) = false → s.all okCh = false := fun h => by
   rw [← List.take_append_drop (i + 1) s, List.all_append, hsu, h]; simp
  generalize s.getD i 0 = c at *
  by_cases hc : okCh c = true
  ·rw [hp, hc] at hsu
   have hc' := of_decide_eq_true hc
   (iterate 8 ((all_goals (refine go1 ?_)); (all_goals (first | ((first | ((with_reducible apply n_grd); (case hf => exact ⟨rfl, rfl, rfl⟩)) | ((with_reducible apply c_cond); (case he => exact rfl))); (all_goals intro h); (all_goals (try simp only [bx] at h)); (all_goals (try (exfalso; omega)))) | skip))))
   all_goals exact ⟨i + 1, ⟨by omega, by rw [hsu]; rfl⟩, by show s.length - (i + 1) < s.length - i; omega, (by dsimp only; exact (vm [] []))⟩
  ·have hcf : okCh c = false := by simpa using hc
   rw [hall hcf, Bool.false_and] at hr
   subst hr
   have hc' := of_decide_eq_false hcf
   (iterate 8 ((all_goals (refine go1 ?_)); (all_goals (first | ((first | ((with_reducible apply n_grd); (case hf => exact ⟨rfl, rfl, rfl⟩)) | ((with_reducible apply c_cond); (case he => exact rfl))); (all_goals intro h); (all_goals (try simp only [bx] at h)); (all_goals (try (exfalso; omega)))) | skip))))
   all_goals (refine go0 ?_; rfl)
 ·have hi' : i = s.length := by have := of_decide_eq_false h; omega
  subst hi'
  rw [List.take_length] at hp
  rw [hp, Bool.true_and] at hr
  subst hr
  (iterate 4 ((all_goals (refine go1 ?_)); (all_goals (first | ((first | ((with_reducible apply n_grd); (case hf => exact ⟨rfl, rfl, rfl⟩)) | ((with_reducible apply c_cond); (case he => exact rfl))); (all_goals intro h); (all_goals (try simp only [bx] at h)); (all_goals (try (exfalso; omega)))) | skip))))
  all_goals (refine go0 ?_; exact congrArg MV.bool (by first | exact decide_eq_decide.2 (by omega) | exact (decide_eq_false (by omega)).symm))
theorem pread_m (b : List UInt8) (hb : b.length < 4000000000) : SemC Tryz.prog G 247 [.sl b.length (u8s b)] (readM (readS b 0 0)) := by
  unfold readM
  generalize hr : readS b 0 0 = r at *
  obtain ⟨r1, r2, r3⟩ := r
  dsimp only
  refine scq seat Tryz.func247 52 ?_
  refine go1 ?_
  refine c_loop (Nat × Nat) (fun x => [(0, .sl b.length (u8s b)), (2, .int .u64 x.2), (5, .int .i64 x.1)]) (fun _ => []) 0 (fun x => x.1 ≤ 9 ∧ x.1 ≤ b.length ∧ x.2 < 128 ^ x.1 ∧ readS (b.drop x.1) x.1 x.2 = (r1, r2, r3)) (fun x => b.length - x.1) (0, 0) ⟨by dsimp only; omega, by dsimp only; omega, by dsimp only; omega, by dsimp only; rw [List.drop_zero]; exact hr⟩ (by dsimp only; exact (vm [] [])) ?_
  rintro ⟨i, n⟩ ⟨hi, hib, hn, hR⟩
  try dsimp only
  dsimp only at hi hib hn hR
  refine go1 ?_
  ((with_reducible apply c_cond); (case he => exact rfl); (all_goals intro h))
  · have hi' : i = b.length := by have := of_decide_eq_true h; omega
    rw [List.drop_eq_nil_of_le (by omega), readS] at hR
    simp only [Prod.mk.injEq] at hR
    obtain ⟨rfl, rfl, rfl⟩ := hR
    refine go1 ?_
    refine go0 ?_
    rfl
  · have hi' : i < b.length := by have := of_decide_eq_false h; omega
    have hel := idx_u8 hi'
    rw [List.drop_eq_getElem_cons hi', readS] at hR
    generalize b[i] = x at *
    have hx256 := x.toNat_lt
    refine go1 ?_
    ((with_reducible apply n_grd); (case hf => exact ⟨rfl, rfl, rfl⟩); (all_goals intro h))
    · have h9 : i = 9 := by have : (i : Int) = 9 := by simpa using h
                            omega
      (have fct := SomF.mk (hel); refine go1 ?_)
      ((with_reducible apply c_cond); (case he => exact rfl); (all_goals intro h))
      · have hx := of_decide_eq_true h
        rw [if_pos (by omega)] at hR
        simp only [Prod.mk.injEq] at hR
        obtain ⟨rfl, rfl, rfl⟩ := hR
        refine go1 ?_
        refine go0 ?_
        rfl
      · have hx := of_decide_eq_false h
        rw [if_neg (by omega)] at hR
        refine go1 ?_
        ((with_reducible apply n_grd); (case hf => exact ⟨rfl, rfl, rfl⟩); (all_goals intro h))
        · have h0 := of_decide_eq_true h
          (have fct := SomF.mk (hel); refine go1 ?_)
          ((with_reducible apply c_cond); (case he => exact rfl); (all_goals intro h))
          · have hx : x.toNat = 0 := by simpa using h
            rw [if_pos (by omega)] at hR
            simp only [Prod.mk.injEq] at hR
            obtain ⟨rfl, rfl, rfl⟩ := hR
            refine go1 ?_
            refine go0 ?_
            rfl
          · have hx : x.toNat ≠ 0 := by simpa using h
            rw [if_neg (by omega)] at hR
            have hv : i ≤ 8 ∧ x.toNat % 128 < 128 ∨ i = 9 ∧ x.toNat % 128 ≤ 1 := by omega
            (have fct := EqF.mk (and127 x); have fct := EqF.mk (shlv hv); have fct := EqF.mk (orv hn hv); have fct := SomF.mk (hel); refine go1 ?_)
            ((with_reducible apply c_cond); (case he => exact rfl); (all_goals intro h))
            · have hx := of_decide_eq_true h
              rw [if_pos (by omega)] at hR
              simp only [Prod.mk.injEq] at hR
              obtain ⟨rfl, rfl, rfl⟩ := hR
              refine go1 ?_
              refine go0 ?_
              rw [Nat.mod_eq_of_lt (show x.toNat < 128 by omega)]
              rfl
            · have hx := of_decide_eq_false h
              rw [if_neg (by omega)] at hR
              refine go1 ?_
              refine ⟨(i + 1, n + x.toNat % 128 * 128 ^ i), ⟨by dsimp only; omega, by dsimp only; omega, ?_, ?_⟩, by show b.length - (i + 1) < b.length - i; omega, (by dsimp only; exact (vm [] []))⟩
              · have h3 : x.toNat % 128 * 128 ^ i ≤ 127 * 128 ^ i := Nat.mul_le_mul_right _ (by omega)
                dsimp only
                rw [Nat.pow_succ]
                omega
              · dsimp only
                rw [show x.toNat % 128 = x.toNat - 128 by omega]
                exact hR
        · have h0 : ¬ (0 : Int) < i := by simpa using h
          rw [if_neg (by omega)] at hR
          have hv : i ≤ 8 ∧ x.toNat % 128 < 128 ∨ i = 9 ∧ x.toNat % 128 ≤ 1 := by omega
          (have fct := EqF.mk (and127 x); have fct := EqF.mk (shlv hv); have fct := EqF.mk (orv hn hv); have fct := SomF.mk (hel); refine go1 ?_)
          ((with_reducible apply c_cond); (case he => exact rfl); (all_goals intro h))
          · have hx := of_decide_eq_true h
            rw [if_pos (by omega)] at hR
            simp only [Prod.mk.injEq] at hR
            obtain ⟨rfl, rfl, rfl⟩ := hR
            refine go1 ?_
            refine go0 ?_
            rw [Nat.mod_eq_of_lt (show x.toNat < 128 by omega)]
            rfl
          · have hx := of_decide_eq_false h
            rw [if_neg (by omega)] at hR
            refine go1 ?_
            refine ⟨(i + 1, n + x.toNat % 128 * 128 ^ i), ⟨by dsimp only; omega, by dsimp only; omega, ?_, ?_⟩, by show b.length - (i + 1) < b.length - i; omega, (by dsimp only; exact (vm [] []))⟩
            · have h3 : x.toNat % 128 * 128 ^ i ≤ 127 * 128 ^ i := Nat.mul_le_mul_right _ (by omega)
              dsimp only
              rw [Nat.pow_succ]
              omega
            · dsimp only
              rw [show x.toNat % 128 = x.toNat - 128 by omega]
              exact hR
    · have h9 : i ≠ 9 := by have : ¬ (i : Int) = 9 := by simpa using h
                            omega
      rw [if_neg (by omega)] at hR
      refine go1 ?_
      ((with_reducible apply n_grd); (case hf => exact ⟨rfl, rfl, rfl⟩); (all_goals intro h))
      · have h0 := of_decide_eq_true h
        (have fct := SomF.mk (hel); refine go1 ?_)
        ((with_reducible apply c_cond); (case he => exact rfl); (all_goals intro h))
        · have hx : x.toNat = 0 := by simpa using h
          rw [if_pos (by omega)] at hR
          simp only [Prod.mk.injEq] at hR
          obtain ⟨rfl, rfl, rfl⟩ := hR
          refine go1 ?_
          refine go0 ?_
          rfl
        · have hx : x.toNat ≠ 0 := by simpa using h
          rw [if_neg (by omega)] at hR
          have hv : i ≤ 8 ∧ x.toNat % 128 < 128 ∨ i = 9 ∧ x.toNat % 128 ≤ 1 := by omega
          (have fct := EqF.mk (and127 x); have fct := EqF.mk (shlv hv); have fct := EqF.mk (orv hn hv); have fct := SomF.mk (hel); refine go1 ?_)
          ((with_reducible apply c_cond); (case he => exact rfl); (all_goals intro h))
          · have hx := of_decide_eq_true h
            rw [if_pos (by omega)] at hR
            simp only [Prod.mk.injEq] at hR
            obtain ⟨rfl, rfl, rfl⟩ := hR
            refine go1 ?_
            refine go0 ?_
            rw [Nat.mod_eq_of_lt (show x.toNat < 128 by omega)]
            rfl
          · have hx := of_decide_eq_false h
            rw [if_neg (by omega)] at hR
            refine go1 ?_
            refine ⟨(i + 1, n + x.toNat % 128 * 128 ^ i), ⟨by dsimp only; omega, by dsimp only; omega, ?_, ?_⟩, by show b.length - (i + 1) < b.length - i; omega, (by dsimp only; exact (vm [] []))⟩
            · have h3 : x.toNat % 128 * 128 ^ i ≤ 127 * 128 ^ i := Nat.mul_le_mul_right _ (by omega)
              dsimp only
              rw [Nat.pow_succ]
              omega
            · dsimp only
              rw [show x.toNat % 128 = x.toNat - 128 by omega]
              exact hR
      · have h0 : ¬ (0 : Int) < i := by simpa using h
        rw [if_neg (by omega)] at hR
        have hv : i ≤ 8 ∧ x.toNat % 128 < 128 ∨ i = 9 ∧ x.toNat % 128 ≤ 1 := by omega
        (have fct := EqF.mk (and127 x); have fct := EqF.mk (shlv hv); have fct := EqF.mk (orv hn hv); have fct := SomF.mk (hel); refine go1 ?_)
        ((with_reducible apply c_cond); (case he => exact rfl); (all_goals intro h))
        · have hx := of_decide_eq_true h
          rw [if_pos (by omega)] at hR
          simp only [Prod.mk.injEq] at hR
          obtain ⟨rfl, rfl, rfl⟩ := hR
          refine go1 ?_
          refine go0 ?_
          rw [Nat.mod_eq_of_lt (show x.toNat < 128 by omega)]
          rfl
        · have hx := of_decide_eq_false h
          rw [if_neg (by omega)] at hR
          refine go1 ?_
          refine ⟨(i + 1, n + x.toNat % 128 * 128 ^ i), ⟨by dsimp only; omega, by dsimp only; omega, ?_, ?_⟩, by show b.length - (i + 1) < b.length - i; omega, (by dsimp only; exact (vm [] []))⟩
          · have h3 : x.toNat % 128 * 128 ^ i ≤ 127 * 128 ^ i := Nat.mul_le_mul_right _ (by omega)
            dsimp only
            rw [Nat.pow_succ]
            omega
          · dsimp only
            rw [show x.toNat % 128 = x.toNat - 128 by omega]
            exact hR
theorem pread_cut {b : List UInt8} (hb : b.length < 4000000000) {n : Nat} {r : Nat × Nat × Nat} (h : readS (b.drop n) 0 0 = r) : SemC Tryz.prog G 247 [.sl (b.length - n) (cutL (u8s b) n b.length)] (readM r) := by
 have := pread_m (G := G) (b.drop n) (by rw [List.length_drop]; omega)
 rw [h, List.length_drop] at this
 rw [cut_u8, List.take_of_length_le (by rw [List.length_drop]; omega)]
 exact this
theorem and7 {m : Nat} (hm : m < 18446744073709551616) : IntKind.u64.wrap ((BitVec.ofInt IntKind.u64.bits (m : Int) &&& BitVec.ofInt IntKind.u64.bits (7 : Int)).toNat : Int) = ((m % 8 : Nat) : Int) := by
 have e := Nat.and_two_pow_sub_one_eq_mod m 3
 rw [BitVec.toNat_and, bv_of _ _ (show m < 2 ^ IntKind.u64.bits from hm), show (7 : Int) = ((7 : Nat) : Int) by rfl, bv_of _ _ (show 7 < 2 ^ IntKind.u64.bits by decide), show (7 : Nat) = 2 ^ 3 - 1 by rfl, e, wu64]
 omega
theorem shr3 (m : Nat) : ((m : Int).fdiv (2 ^ (min (3 : Int).toNat IntKind.u64.bits))) = ((m / 8 : Nat) : Int) := by
 rw [show min (3 : Int).toNat IntKind.u64.bits = 3 by rfl, Int.fdiv_eq_ediv_of_nonneg _ (by decide)]
 exact (Int.natCast_ediv m 8).symm
theorem pone_r (b : List UInt8) (hb : b.length < 1000000000) : SemR Tryz.prog G 190 [.sl b.length (u8s b)] [] 0 (.tup [fldM (oneS b).1, .int .i64 (oneS b).2.1, .int .i64 (oneS b).2.2]) [] 0 := by
  have c1 := pread_m (G := G) b (by omega)
  have h1ok := read_ok b 0 0 (by omega) (by omega)
  generalize hr : oneS b = r at *
  obtain ⟨f, m, e⟩ := r
  have hR := hr
  unfold oneS at hR
  generalize readS b 0 0 = t at *
  obtain ⟨T, n, e1⟩ := t
  dsimp only at hR h1ok
  unfold readM at c1
  unfold fldM
  dsimp only at c1
  dsimp only
  refine srq seat Tryz.func190 85 ?_
  refine go1 ?_
  refine g_call2 rfl (fun _ h => h) rfl (semR_of_semC (c1)) rfl lm ?_
  refine go1 ?_
  ((with_reducible apply c_cond); (case he => exact rfl); (all_goals intro h))
  · have he1 : e1 ≠ 0 := by intro h0; subst h0; cases h
    rw [if_pos he1] at hR
    simp only [Prod.mk.injEq] at hR
    obtain ⟨rfl, rfl, rfl⟩ := hR
    refine go1 ?_
    refine go0 ?_
    refine ⟨[_, _, _], [], [], rfl, rfl, trivial, rfl, ⟨?_, ?_, ?_, trivial⟩, ?_⟩
    · exact .inr ⟨_, rfl, ⟨rfl, rfl⟩, ⟨rfl, rfl⟩, ⟨rfl, rfl⟩, .inr ⟨rfl, rfl⟩, trivial⟩
    · exact rv
    · exact rv
    · exact mm
  have he1 : e1 = 0 := by have : (e1 : Int) = 0 := by simpa using h
                          omega
  subst he1
  have hT := (h1ok rfl).2.2
  rw [if_neg (by simp)] at hR
  have hmod := and7 hT
  have hdiv := shr3 T
  have h2ok := read_ok (b.drop n) 0 0 (by omega) (by omega)
  generalize hr2 : readS (b.drop n) 0 0 = t2 at *
  obtain ⟨v, k, e2⟩ := t2
  have c2 := pread_cut (G := G) (b := b) (by omega) hr2
  unfold readM at c2
  dsimp only at hR c2 h2ok
  generalize hD : T / 8 = D at *
  generalize hK : T % 8 = K at *
  (have fct := EqF.mk (hmod); have fct := EqF.mk (hdiv); refine go1 ?_)
  ((with_reducible apply n_grd); (case hf => exact ⟨rfl, rfl, rfl⟩); (all_goals intro h))
  · have hD1 : ¬ (D : Int) < 1 := by simpa using h
    refine go1 ?_
    ((with_reducible apply n_grd); (case hf => exact ⟨rfl, rfl, rfl⟩); (all_goals intro h))
    · have hD3 : ¬ (536870911 : Int) < D := by simpa using h
      refine go1 ?_
      ((with_reducible apply n_grd); (case hf => exact ⟨rfl, rfl, rfl⟩); (all_goals intro h))
      · have hK0 : K ≠ 0 := by have : ¬ (K : Int) = 0 := by simpa using h
                               omega
        refine go1 ?_
        ((with_reducible apply c_cond); (case he => exact rfl); (all_goals intro h))
        · have hK2 : K ≠ 2 := by have : ¬ (K : Int) = 2 := by simpa using h
                                 omega
          rw [if_pos (by omega)] at hR
          simp only [Prod.mk.injEq] at hR
          obtain ⟨rfl, rfl, rfl⟩ := hR
          refine go1 ?_
          refine go0 ?_
          refine ⟨[_, _, _], [], [], rfl, rfl, trivial, rfl, ⟨?_, ?_, ?_, trivial⟩, ?_⟩
          · exact .inr ⟨_, rfl, ⟨rfl, rfl⟩, ⟨rfl, rfl⟩, ⟨rfl, rfl⟩, .inr ⟨rfl, rfl⟩, trivial⟩
          · exact rv
          · exact rv
          · exact mm
        have hK2 : K = 2 := by have : (K : Int) = 2 := by simpa using h
                               omega
        subst hK2
        rw [if_neg (by omega)] at hR
        have hnb : n ≤ b.length := by have := h1ok rfl; omega
        (have fct := SomF.mk (bndLo (κ := .i64) hnb); have fct := SideF.mk (head_b b); refine go1 ?_)
        refine g_call2 rfl (fun _ h => h) rfl (semR_of_semC (c2)) rfl lm ?_
        refine go1 ?_
        ((with_reducible apply c_cond); (case he => exact rfl); (all_goals intro h))
        · have he2 : e2 ≠ 0 := by intro h0; subst h0; cases h
          rw [if_pos he2] at hR
          simp only [Prod.mk.injEq] at hR
          obtain ⟨rfl, rfl, rfl⟩ := hR
          refine go1 ?_
          refine go0 ?_
          refine ⟨[_, _, _], [], [], rfl, rfl, trivial, rfl, ⟨?_, ?_, ?_, trivial⟩, ?_⟩
          · exact .inr ⟨_, rfl, ⟨rfl, rfl⟩, ⟨rfl, rfl⟩, ⟨rfl, rfl⟩, .inr ⟨rfl, rfl⟩, trivial⟩
          · exact rv
          · exact rv
          · exact mm
        have he2 : e2 = 0 := by have : (e2 : Int) = 0 := by simpa using h
                                omega
        subst he2
        have hk := h2ok rfl
        rw [List.length_drop] at hk
        rw [if_neg (by simp)] at hR
        rw [if_neg (by omega)] at hR
        have hnk : n + k ≤ b.length := by omega
        have hlo : bounds b.length (some (.int .i64 ((n : Int) + k))) none = some (n + k, b.length) := by
          rw [show (n : Int) + k = ((n + k : Nat) : Int) by omega]; exact bndLo hnk
        (have fct := SomF.mk (hlo); have fct := SideF.mk (head_b b); refine go1 ?_)
        ((with_reducible apply c_cond); (case he => exact rfl); (all_goals intro h))
        · have hv := of_decide_eq_true h
          rw [if_pos (by omega)] at hR
          simp only [Prod.mk.injEq] at hR
          obtain ⟨rfl, rfl, rfl⟩ := hR
          refine go1 ?_
          refine go0 ?_
          refine ⟨[_, _, _], [], [], rfl, rfl, trivial, rfl, ⟨?_, ?_, ?_, trivial⟩, ?_⟩
          · exact .inr ⟨_, rfl, ⟨rfl, rfl⟩, ⟨rfl, rfl⟩, ⟨rfl, rfl⟩, .inr ⟨rfl, rfl⟩, trivial⟩
          · exact rv
          · exact rv
          · exact mm
        have hv := of_decide_eq_false h
        rw [if_neg (by omega)] at hR
        simp only [Prod.mk.injEq] at hR
        obtain ⟨rfl, rfl, rfl⟩ := hR
        have hhi : bounds (b.length - (n + k)) none (some (.int .u64 (v : Int))) = some (0, v) := bndHi (by omega)
        have hl : ((b.drop (n + k)).take v).length = v := by rw [List.length_take, List.length_drop]; omega
        (repeat (first | ((with_reducible apply n_load); (case hp => exact rfl); (case hc => exact rfl); (case hm => exact rfl); (case hr => exact rfl); (case hk => kernel_rfl)) | ((with_reducible apply n_store); (case hp => exact rfl); (case hy => exact rfl); (case hc => exact rfl); (case hpe => exact Nat.zero_le _); (case hm => exact rfl); (case hs => exact rfl); (case hk => kernel_rfl)) | ((with_reducible apply n_box); (case hx => exact rfl); (case ht => exact rfl); (case hk => kernel_rfl)) | ((with_reducible apply n_alloc); (case ht => exact rfl); (case hz => exact rfl); (case hk => kernel_rfl)) | ((with_reducible apply n_val); (case hb => exact rfl); (case he => (intro R hR; first | ((with_reducible apply he_loadP); (case hp => exact rfl); (case hc => exact rfl); (case hm => exact rfl); (case hr => exact rfl); (case hk => kernel_rfl); (case hR => exact hR)) | ((with_reducible apply he_storeP); (case hp => exact rfl); (case hy => exact rfl); (case hc => exact rfl); (case hpe => exact Nat.zero_le _); (case hm => exact rfl); (case hs => exact rfl); (case hk => kernel_rfl); (case hR => exact hR)) | ((with_reducible apply he_box); (case hx => exact rfl); (case ht => exact rfl); (case hk => kernel_rfl); (case hR => exact hR)) | ((with_reducible apply he_alloc); (case ht => exact rfl); (case hz => exact rfl); (case hk => kernel_rfl); (case hR => exact hR)) | (repeat (first | exact hR | ((try conv => whnf); first | exact hR | (with_reducible refine And.intro (head_cut b _ _) ?_) | (with_reducible refine And.intro (Nat.zero_le _) ?_) | (with_reducible refine And.intro rfl ?_) | (with_reducible refine ⟨_, idx_at (by omega), ?_⟩) | (with_reducible refine ⟨fun _ => ?_, fun h => Bool.noConfusion h⟩) | (with_reducible refine ⟨fun h => Bool.noConfusion h, fun _ => ?_⟩) | (with_reducible refine ⟨_, sv (wrap_in _ (by omega) (by omega)), ?_⟩) | (with_reducible refine ⟨_, sv (wrapu_in _ (by omega) (by omega)), ?_⟩) | (with_reducible refine ⟨_, sv (wrap8_in _ (by omega) (by omega)), ?_⟩) | (refine ⟨_, rfl, ?_⟩) | (refine ⟨_, hhi, ?_⟩) | (refine And.intro (by omega) ?_))))))) | ((with_reducible apply n_nilS)) | ((with_reducible apply c_seqR)) | ((with_reducible apply n_app)) | ((with_reducible apply n_app0)) | ((with_reducible apply e_load); (case ho => exact rfl); (case hp => exact rfl); (case hc => exact rfl); (case hm => exact rfl); (case hr => exact rfl); (case hk => kernel_rfl)) | ((with_reducible apply e_store); (case ho => exact rfl); (case hp => exact rfl); (case hy => exact rfl); (case hc => exact rfl); (case hpe => exact Nat.zero_le _); (case hm => exact rfl); (case hs => exact rfl); (case hk => kernel_rfl)) | ((with_reducible apply e_val); (case ho => exact rfl); (case hb => exact rfl); (case he => (intro R hR; first | ((with_reducible apply he_loadP); (case hp => exact rfl); (case hc => exact rfl); (case hm => exact rfl); (case hr => exact rfl); (case hk => kernel_rfl); (case hR => exact hR)) | ((with_reducible apply he_storeP); (case hp => exact rfl); (case hy => exact rfl); (case hc => exact rfl); (case hpe => exact Nat.zero_le _); (case hm => exact rfl); (case hs => exact rfl); (case hk => kernel_rfl); (case hR => exact hR)) | ((with_reducible apply he_box); (case hx => exact rfl); (case ht => exact rfl); (case hk => kernel_rfl); (case hR => exact hR)) | ((with_reducible apply he_alloc); (case ht => exact rfl); (case hz => exact rfl); (case hk => kernel_rfl); (case hR => exact hR)) | (repeat (first | exact hR | ((try conv => whnf); first | exact hR | (with_reducible refine And.intro (head_cut b _ _) ?_) | (with_reducible refine And.intro (Nat.zero_le _) ?_) | (with_reducible refine And.intro rfl ?_) | (with_reducible refine ⟨_, idx_at (by omega), ?_⟩) | (with_reducible refine ⟨fun _ => ?_, fun h => Bool.noConfusion h⟩) | (with_reducible refine ⟨fun h => Bool.noConfusion h, fun _ => ?_⟩) | (with_reducible refine ⟨_, sv (wrap_in _ (by omega) (by omega)), ?_⟩) | (with_reducible refine ⟨_, sv (wrapu_in _ (by omega) (by omega)), ?_⟩) | (with_reducible refine ⟨_, sv (wrap8_in _ (by omega) (by omega)), ?_⟩) | (refine ⟨_, rfl, ?_⟩) | (refine ⟨_, hhi, ?_⟩) | (refine And.intro (by omega) ?_))))))) | ((with_reducible apply d_end); (case ho => exact (show okDraw _ _ = true by kernel_rfl))) | ((with_reducible apply n_none); (case hb => exact rfl); (case he => (intro R hR; first | ((with_reducible apply he_loadP); (case hp => exact rfl); (case hc => exact rfl); (case hm => exact rfl); (case hr => exact rfl); (case hk => kernel_rfl); (case hR => exact hR)) | ((with_reducible apply he_storeP); (case hp => exact rfl); (case hy => exact rfl); (case hc => exact rfl); (case hpe => exact Nat.zero_le _); (case hm => exact rfl); (case hs => exact rfl); (case hk => kernel_rfl); (case hR => exact hR)) | ((with_reducible apply he_box); (case hx => exact rfl); (case ht => exact rfl); (case hk => kernel_rfl); (case hR => exact hR)) | ((with_reducible apply he_alloc); (case ht => exact rfl); (case hz => exact rfl); (case hk => kernel_rfl); (case hR => exact hR)) | (repeat (first | exact hR | ((try conv => whnf); first | exact hR | (with_reducible refine And.intro (head_cut b _ _) ?_) | (with_reducible refine And.intro (Nat.zero_le _) ?_) | (with_reducible refine And.intro rfl ?_) | (with_reducible refine ⟨_, idx_at (by omega), ?_⟩) | (with_reducible refine ⟨fun _ => ?_, fun h => Bool.noConfusion h⟩) | (with_reducible refine ⟨fun h => Bool.noConfusion h, fun _ => ?_⟩) | (with_reducible refine ⟨_, sv (wrap_in _ (by omega) (by omega)), ?_⟩) | (with_reducible refine ⟨_, sv (wrapu_in _ (by omega) (by omega)), ?_⟩) | (with_reducible refine ⟨_, sv (wrap8_in _ (by omega) (by omega)), ?_⟩) | (refine ⟨_, rfl, ?_⟩) | (refine ⟨_, hhi, ?_⟩) | (refine And.intro (by omega) ?_))))))) | ((with_reducible apply n_mem); (case hb => exact rfl); (case he => (intro R hR; first | ((with_reducible apply he_loadP); (case hp => exact rfl); (case hc => exact rfl); (case hm => exact rfl); (case hr => exact rfl); (case hk => kernel_rfl); (case hR => exact hR)) | ((with_reducible apply he_storeP); (case hp => exact rfl); (case hy => exact rfl); (case hc => exact rfl); (case hpe => exact Nat.zero_le _); (case hm => exact rfl); (case hs => exact rfl); (case hk => kernel_rfl); (case hR => exact hR)) | ((with_reducible apply he_box); (case hx => exact rfl); (case ht => exact rfl); (case hk => kernel_rfl); (case hR => exact hR)) | ((with_reducible apply he_alloc); (case ht => exact rfl); (case hz => exact rfl); (case hk => kernel_rfl); (case hR => exact hR)) | (repeat (first | exact hR | ((try conv => whnf); first | exact hR | (with_reducible refine And.intro (head_cut b _ _) ?_) | (with_reducible refine And.intro (Nat.zero_le _) ?_) | (with_reducible refine And.intro rfl ?_) | (with_reducible refine ⟨_, idx_at (by omega), ?_⟩) | (with_reducible refine ⟨fun _ => ?_, fun h => Bool.noConfusion h⟩) | (with_reducible refine ⟨fun h => Bool.noConfusion h, fun _ => ?_⟩) | (with_reducible refine ⟨_, sv (wrap_in _ (by omega) (by omega)), ?_⟩) | (with_reducible refine ⟨_, sv (wrapu_in _ (by omega) (by omega)), ?_⟩) | (with_reducible refine ⟨_, sv (wrap8_in _ (by omega) (by omega)), ?_⟩) | (refine ⟨_, rfl, ?_⟩) | (refine ⟨_, hhi, ?_⟩) | (refine And.intro (by omega) ?_))))))) | ((with_reducible apply n_valY); (case hs => exact rfl); (case hv => exact rfl); (case hb => exact rfl); (case he => (intro R hR; first | ((with_reducible apply he_loadP); (case hp => exact rfl); (case hc => exact rfl); (case hm => exact rfl); (case hr => exact rfl); (case hk => kernel_rfl); (case hR => exact hR)) | ((with_reducible apply he_storeP); (case hp => exact rfl); (case hy => exact rfl); (case hc => exact rfl); (case hpe => exact Nat.zero_le _); (case hm => exact rfl); (case hs => exact rfl); (case hk => kernel_rfl); (case hR => exact hR)) | ((with_reducible apply he_box); (case hx => exact rfl); (case ht => exact rfl); (case hk => kernel_rfl); (case hR => exact hR)) | ((with_reducible apply he_alloc); (case ht => exact rfl); (case hz => exact rfl); (case hk => kernel_rfl); (case hR => exact hR)) | (repeat (first | exact hR | ((try conv => whnf); first | exact hR | (with_reducible refine And.intro (head_cut b _ _) ?_) | (with_reducible refine And.intro (Nat.zero_le _) ?_) | (with_reducible refine And.intro rfl ?_) | (with_reducible refine ⟨_, idx_at (by omega), ?_⟩) | (with_reducible refine ⟨fun _ => ?_, fun h => Bool.noConfusion h⟩) | (with_reducible refine ⟨fun h => Bool.noConfusion h, fun _ => ?_⟩) | (with_reducible refine ⟨_, sv (wrap_in _ (by omega) (by omega)), ?_⟩) | (with_reducible refine ⟨_, sv (wrapu_in _ (by omega) (by omega)), ?_⟩) | (with_reducible refine ⟨_, sv (wrap8_in _ (by omega) (by omega)), ?_⟩) | (refine ⟨_, rfl, ?_⟩) | (refine ⟨_, hhi, ?_⟩) | (refine And.intro (by omega) ?_))))))) | ((with_reducible apply n_guardN); (case hs => exact rfl); (case hv => exact rfl); (case hd => exact rfl)) | ((with_reducible apply n_guardU); (case hs => exact rfl); (case hv => exact rfl); (case hd => exact rfl)) | ((with_reducible apply g_val); (case hq => exact rfl); (case hv => exact rfl); (case he => (intro R hR; first | ((with_reducible apply he_loadP); (case hp => exact rfl); (case hc => exact rfl); (case hm => exact rfl); (case hr => exact rfl); (case hk => kernel_rfl); (case hR => exact hR)) | ((with_reducible apply he_storeP); (case hp => exact rfl); (case hy => exact rfl); (case hc => exact rfl); (case hpe => exact Nat.zero_le _); (case hm => exact rfl); (case hs => exact rfl); (case hk => kernel_rfl); (case hR => exact hR)) | ((with_reducible apply he_box); (case hx => exact rfl); (case ht => exact rfl); (case hk => kernel_rfl); (case hR => exact hR)) | ((with_reducible apply he_alloc); (case ht => exact rfl); (case hz => exact rfl); (case hk => kernel_rfl); (case hR => exact hR)) | (repeat (first | exact hR | ((try conv => whnf); first | exact hR | (with_reducible refine And.intro (head_cut b _ _) ?_) | (with_reducible refine And.intro (Nat.zero_le _) ?_) | (with_reducible refine And.intro rfl ?_) | (with_reducible refine ⟨_, idx_at (by omega), ?_⟩) | (with_reducible refine ⟨fun _ => ?_, fun h => Bool.noConfusion h⟩) | (with_reducible refine ⟨fun h => Bool.noConfusion h, fun _ => ?_⟩) | (with_reducible refine ⟨_, sv (wrap_in _ (by omega) (by omega)), ?_⟩) | (with_reducible refine ⟨_, sv (wrapu_in _ (by omega) (by omega)), ?_⟩) | (with_reducible refine ⟨_, sv (wrap8_in _ (by omega) (by omega)), ?_⟩) | (refine ⟨_, rfl, ?_⟩) | (refine ⟨_, hhi, ?_⟩) | (refine And.intro (by omega) ?_)))))); (case hd => exact rfl)) | ((with_reducible apply g_none); (case hq => exact rfl); (case hv => exact rfl); (case he => (intro R hR; first | ((with_reducible apply he_loadP); (case hp => exact rfl); (case hc => exact rfl); (case hm => exact rfl); (case hr => exact rfl); (case hk => kernel_rfl); (case hR => exact hR)) | ((with_reducible apply he_storeP); (case hp => exact rfl); (case hy => exact rfl); (case hc => exact rfl); (case hpe => exact Nat.zero_le _); (case hm => exact rfl); (case hs => exact rfl); (case hk => kernel_rfl); (case hR => exact hR)) | ((with_reducible apply he_box); (case hx => exact rfl); (case ht => exact rfl); (case hk => kernel_rfl); (case hR => exact hR)) | ((with_reducible apply he_alloc); (case ht => exact rfl); (case hz => exact rfl); (case hk => kernel_rfl); (case hR => exact hR)) | (repeat (first | exact hR | ((try conv => whnf); first | exact hR | (with_reducible refine And.intro (head_cut b _ _) ?_) | (with_reducible refine And.intro (Nat.zero_le _) ?_) | (with_reducible refine And.intro rfl ?_) | (with_reducible refine ⟨_, idx_at (by omega), ?_⟩) | (with_reducible refine ⟨fun _ => ?_, fun h => Bool.noConfusion h⟩) | (with_reducible refine ⟨fun h => Bool.noConfusion h, fun _ => ?_⟩) | (with_reducible refine ⟨_, sv (wrap_in _ (by omega) (by omega)), ?_⟩) | (with_reducible refine ⟨_, sv (wrapu_in _ (by omega) (by omega)), ?_⟩) | (with_reducible refine ⟨_, sv (wrap8_in _ (by omega) (by omega)), ?_⟩) | (refine ⟨_, rfl, ?_⟩) | (refine ⟨_, hhi, ?_⟩) | (refine And.intro (by omega) ?_))))))) | ((with_reducible apply g_mem); (case hq => exact rfl); (case hv => exact rfl); (case he => (intro R hR; first | ((with_reducible apply he_loadP); (case hp => exact rfl); (case hc => exact rfl); (case hm => exact rfl); (case hr => exact rfl); (case hk => kernel_rfl); (case hR => exact hR)) | ((with_reducible apply he_storeP); (case hp => exact rfl); (case hy => exact rfl); (case hc => exact rfl); (case hpe => exact Nat.zero_le _); (case hm => exact rfl); (case hs => exact rfl); (case hk => kernel_rfl); (case hR => exact hR)) | ((with_reducible apply he_box); (case hx => exact rfl); (case ht => exact rfl); (case hk => kernel_rfl); (case hR => exact hR)) | ((with_reducible apply he_alloc); (case ht => exact rfl); (case hz => exact rfl); (case hk => kernel_rfl); (case hR => exact hR)) | (repeat (first | exact hR | ((try conv => whnf); first | exact hR | (with_reducible refine And.intro (head_cut b _ _) ?_) | (with_reducible refine And.intro (Nat.zero_le _) ?_) | (with_reducible refine And.intro rfl ?_) | (with_reducible refine ⟨_, idx_at (by omega), ?_⟩) | (with_reducible refine ⟨fun _ => ?_, fun h => Bool.noConfusion h⟩) | (with_reducible refine ⟨fun h => Bool.noConfusion h, fun _ => ?_⟩) | (with_reducible refine ⟨_, sv (wrap_in _ (by omega) (by omega)), ?_⟩) | (with_reducible refine ⟨_, sv (wrapu_in _ (by omega) (by omega)), ?_⟩) | (with_reducible refine ⟨_, sv (wrap8_in _ (by omega) (by omega)), ?_⟩) | (refine ⟨_, rfl, ?_⟩) | (refine ⟨_, hhi, ?_⟩) | (refine And.intro (by omega) ?_)))))); (case hd => exact rfl)) | ((with_reducible apply n_nil)) | ((with_reducible apply c_seq)) | ((with_reducible apply seqQ_n)) | ((with_reducible apply c_region)) | ((with_reducible apply c_condT); (case he => exact rfl)) | ((with_reducible apply c_condF); (case he => exact rfl)) | ((with_reducible apply c_block)) | ((with_reducible apply c_skip)) | ((with_reducible apply c_exit)) | ((with_reducible apply c_ret)) | ((with_reducible apply seqQ_x)) | ((with_reducible apply seqQ_r)) | ((with_reducible apply blockQ_n)) | ((with_reducible apply blockQ_r)) | ((with_reducible apply blockQ_x); (case hb => exact rfl)) | ((with_reducible apply blockQ_y); (case hb => exact rfl)) | ((with_reducible apply loopQ_x)) | ((with_reducible apply loopQ_r)) | ((with_reducible apply c_label)) | (with_reducible refine joinF_r (by assumption) ?_) | (with_reducible refine joinF_x (by assumption) ?_) | ((with_reducible apply e_none); (case ho => exact rfl); (case hb => exact rfl); (case he => (intro R hR; first | ((with_reducible apply he_loadP); (case hp => exact rfl); (case hc => exact rfl); (case hm => exact rfl); (case hr => exact rfl); (case hk => kernel_rfl); (case hR => exact hR)) | ((with_reducible apply he_storeP); (case hp => exact rfl); (case hy => exact rfl); (case hc => exact rfl); (case hpe => exact Nat.zero_le _); (case hm => exact rfl); (case hs => exact rfl); (case hk => kernel_rfl); (case hR => exact hR)) | ((with_reducible apply he_box); (case hx => exact rfl); (case ht => exact rfl); (case hk => kernel_rfl); (case hR => exact hR)) | ((with_reducible apply he_alloc); (case ht => exact rfl); (case hz => exact rfl); (case hk => kernel_rfl); (case hR => exact hR)) | (repeat (first | exact hR | ((try conv => whnf); first | exact hR | (with_reducible refine And.intro (head_cut b _ _) ?_) | (with_reducible refine And.intro (Nat.zero_le _) ?_) | (with_reducible refine And.intro rfl ?_) | (with_reducible refine ⟨_, idx_at (by omega), ?_⟩) | (with_reducible refine ⟨fun _ => ?_, fun h => Bool.noConfusion h⟩) | (with_reducible refine ⟨fun h => Bool.noConfusion h, fun _ => ?_⟩) | (with_reducible refine ⟨_, sv (wrap_in _ (by omega) (by omega)), ?_⟩) | (with_reducible refine ⟨_, sv (wrapu_in _ (by omega) (by omega)), ?_⟩) | (with_reducible refine ⟨_, sv (wrap8_in _ (by omega) (by omega)), ?_⟩) | (refine ⟨_, rfl, ?_⟩) | (refine ⟨_, hhi, ?_⟩) | (refine And.intro (by omega) ?_))))))) | ((with_reducible apply e_valY); (case ho => exact rfl); (case hs => exact rfl); (case hv => exact rfl); (case hb => exact rfl); (case he => (intro R hR; first | ((with_reducible apply he_loadP); (case hp => exact rfl); (case hc => exact rfl); (case hm => exact rfl); (case hr => exact rfl); (case hk => kernel_rfl); (case hR => exact hR)) | ((with_reducible apply he_storeP); (case hp => exact rfl); (case hy => exact rfl); (case hc => exact rfl); (case hpe => exact Nat.zero_le _); (case hm => exact rfl); (case hs => exact rfl); (case hk => kernel_rfl); (case hR => exact hR)) | ((with_reducible apply he_box); (case hx => exact rfl); (case ht => exact rfl); (case hk => kernel_rfl); (case hR => exact hR)) | ((with_reducible apply he_alloc); (case ht => exact rfl); (case hz => exact rfl); (case hk => kernel_rfl); (case hR => exact hR)) | (repeat (first | exact hR | ((try conv => whnf); first | exact hR | (with_reducible refine And.intro (head_cut b _ _) ?_) | (with_reducible refine And.intro (Nat.zero_le _) ?_) | (with_reducible refine And.intro rfl ?_) | (with_reducible refine ⟨_, idx_at (by omega), ?_⟩) | (with_reducible refine ⟨fun _ => ?_, fun h => Bool.noConfusion h⟩) | (with_reducible refine ⟨fun h => Bool.noConfusion h, fun _ => ?_⟩) | (with_reducible refine ⟨_, sv (wrap_in _ (by omega) (by omega)), ?_⟩) | (with_reducible refine ⟨_, sv (wrapu_in _ (by omega) (by omega)), ?_⟩) | (with_reducible refine ⟨_, sv (wrap8_in _ (by omega) (by omega)), ?_⟩) | (refine ⟨_, rfl, ?_⟩) | (refine ⟨_, hhi, ?_⟩) | (refine And.intro (by omega) ?_))))))) | ((with_reducible apply e_mem); (case ho => exact rfl); (case hb => exact rfl); (case he => (intro R hR; first | ((with_reducible apply he_loadP); (case hp => exact rfl); (case hc => exact rfl); (case hm => exact rfl); (case hr => exact rfl); (case hk => kernel_rfl); (case hR => exact hR)) | ((with_reducible apply he_storeP); (case hp => exact rfl); (case hy => exact rfl); (case hc => exact rfl); (case hpe => exact Nat.zero_le _); (case hm => exact rfl); (case hs => exact rfl); (case hk => kernel_rfl); (case hR => exact hR)) | ((with_reducible apply he_box); (case hx => exact rfl); (case ht => exact rfl); (case hk => kernel_rfl); (case hR => exact hR)) | ((with_reducible apply he_alloc); (case ht => exact rfl); (case hz => exact rfl); (case hk => kernel_rfl); (case hR => exact hR)) | (repeat (first | exact hR | ((try conv => whnf); first | exact hR | (with_reducible refine And.intro (head_cut b _ _) ?_) | (with_reducible refine And.intro (Nat.zero_le _) ?_) | (with_reducible refine And.intro rfl ?_) | (with_reducible refine ⟨_, idx_at (by omega), ?_⟩) | (with_reducible refine ⟨fun _ => ?_, fun h => Bool.noConfusion h⟩) | (with_reducible refine ⟨fun h => Bool.noConfusion h, fun _ => ?_⟩) | (with_reducible refine ⟨_, sv (wrap_in _ (by omega) (by omega)), ?_⟩) | (with_reducible refine ⟨_, sv (wrapu_in _ (by omega) (by omega)), ?_⟩) | (with_reducible refine ⟨_, sv (wrap8_in _ (by omega) (by omega)), ?_⟩) | (refine ⟨_, rfl, ?_⟩) | (refine ⟨_, hhi, ?_⟩) | (refine And.intro (by omega) ?_))))))) | ((with_reducible apply d_next)) | ((with_reducible apply d_step); (case ho => exact rfl)) | ((with_reducible apply d_guardN); (case hs => exact rfl); (case hv => exact rfl); (case hd => exact rfl)) | ((with_reducible apply d_guardU); (case hs => exact rfl); (case hv => exact rfl); (case hd => exact rfl)) | ((with_reducible apply d_guardY); (case hs => exact rfl); (case hv => exact rfl)) | ((with_reducible apply d_go)) | ((with_reducible apply gd_val); (case hv => exact rfl); (case he => (intro R hR; first | ((with_reducible apply he_loadP); (case hp => exact rfl); (case hc => exact rfl); (case hm => exact rfl); (case hr => exact rfl); (case hk => kernel_rfl); (case hR => exact hR)) | ((with_reducible apply he_storeP); (case hp => exact rfl); (case hy => exact rfl); (case hc => exact rfl); (case hpe => exact Nat.zero_le _); (case hm => exact rfl); (case hs => exact rfl); (case hk => kernel_rfl); (case hR => exact hR)) | ((with_reducible apply he_box); (case hx => exact rfl); (case ht => exact rfl); (case hk => kernel_rfl); (case hR => exact hR)) | ((with_reducible apply he_alloc); (case ht => exact rfl); (case hz => exact rfl); (case hk => kernel_rfl); (case hR => exact hR)) | (repeat (first | exact hR | ((try conv => whnf); first | exact hR | (with_reducible refine And.intro (head_cut b _ _) ?_) | (with_reducible refine And.intro (Nat.zero_le _) ?_) | (with_reducible refine And.intro rfl ?_) | (with_reducible refine ⟨_, idx_at (by omega), ?_⟩) | (with_reducible refine ⟨fun _ => ?_, fun h => Bool.noConfusion h⟩) | (with_reducible refine ⟨fun h => Bool.noConfusion h, fun _ => ?_⟩) | (with_reducible refine ⟨_, sv (wrap_in _ (by omega) (by omega)), ?_⟩) | (with_reducible refine ⟨_, sv (wrapu_in _ (by omega) (by omega)), ?_⟩) | (with_reducible refine ⟨_, sv (wrap8_in _ (by omega) (by omega)), ?_⟩) | (refine ⟨_, rfl, ?_⟩) | (refine ⟨_, hhi, ?_⟩) | (refine And.intro (by omega) ?_)))))); (case hd => exact rfl)) | ((with_reducible apply gd_none); (case hv => exact rfl); (case he => (intro R hR; first | ((with_reducible apply he_loadP); (case hp => exact rfl); (case hc => exact rfl); (case hm => exact rfl); (case hr => exact rfl); (case hk => kernel_rfl); (case hR => exact hR)) | ((with_reducible apply he_storeP); (case hp => exact rfl); (case hy => exact rfl); (case hc => exact rfl); (case hpe => exact Nat.zero_le _); (case hm => exact rfl); (case hs => exact rfl); (case hk => kernel_rfl); (case hR => exact hR)) | ((with_reducible apply he_box); (case hx => exact rfl); (case ht => exact rfl); (case hk => kernel_rfl); (case hR => exact hR)) | ((with_reducible apply he_alloc); (case ht => exact rfl); (case hz => exact rfl); (case hk => kernel_rfl); (case hR => exact hR)) | (repeat (first | exact hR | ((try conv => whnf); first | exact hR | (with_reducible refine And.intro (head_cut b _ _) ?_) | (with_reducible refine And.intro (Nat.zero_le _) ?_) | (with_reducible refine And.intro rfl ?_) | (with_reducible refine ⟨_, idx_at (by omega), ?_⟩) | (with_reducible refine ⟨fun _ => ?_, fun h => Bool.noConfusion h⟩) | (with_reducible refine ⟨fun h => Bool.noConfusion h, fun _ => ?_⟩) | (with_reducible refine ⟨_, sv (wrap_in _ (by omega) (by omega)), ?_⟩) | (with_reducible refine ⟨_, sv (wrapu_in _ (by omega) (by omega)), ?_⟩) | (with_reducible refine ⟨_, sv (wrap8_in _ (by omega) (by omega)), ?_⟩) | (refine ⟨_, rfl, ?_⟩) | (refine ⟨_, hhi, ?_⟩) | (refine And.intro (by omega) ?_))))))) | ((with_reducible apply gd_mem); (case hv => exact rfl); (case he => (intro R hR; first | ((with_reducible apply he_loadP); (case hp => exact rfl); (case hc => exact rfl); (case hm => exact rfl); (case hr => exact rfl); (case hk => kernel_rfl); (case hR => exact hR)) | ((with_reducible apply he_storeP); (case hp => exact rfl); (case hy => exact rfl); (case hc => exact rfl); (case hpe => exact Nat.zero_le _); (case hm => exact rfl); (case hs => exact rfl); (case hk => kernel_rfl); (case hR => exact hR)) | ((with_reducible apply he_box); (case hx => exact rfl); (case ht => exact rfl); (case hk => kernel_rfl); (case hR => exact hR)) | ((with_reducible apply he_alloc); (case ht => exact rfl); (case hz => exact rfl); (case hk => kernel_rfl); (case hR => exact hR)) | (repeat (first | exact hR | ((try conv => whnf); first | exact hR | (with_reducible refine And.intro (head_cut b _ _) ?_) | (with_reducible refine And.intro (Nat.zero_le _) ?_) | (with_reducible refine And.intro rfl ?_) | (with_reducible refine ⟨_, idx_at (by omega), ?_⟩) | (with_reducible refine ⟨fun _ => ?_, fun h => Bool.noConfusion h⟩) | (with_reducible refine ⟨fun h => Bool.noConfusion h, fun _ => ?_⟩) | (with_reducible refine ⟨_, sv (wrap_in _ (by omega) (by omega)), ?_⟩) | (with_reducible refine ⟨_, sv (wrapu_in _ (by omega) (by omega)), ?_⟩) | (with_reducible refine ⟨_, sv (wrap8_in _ (by omega) (by omega)), ?_⟩) | (refine ⟨_, rfl, ?_⟩) | (refine ⟨_, hhi, ?_⟩) | (refine And.intro (by omega) ?_)))))); (case hd => exact rfl)) | ((with_reducible apply n_guardY); (case hs => exact rfl); (case hv => exact rfl)) | ((with_reducible apply n_go))))
        ((with_reducible apply g_mem); (case hq => exact rfl); (case hv => exact rfl); (case he => (intro R hR; refine sms hR ?_; refine And.intro ((by (try dsimp only); rw [cut_u8, cut_u8]; exact head_b _)) ?_; refine And.intro (app_ok1 (by kernel_rfl) (by dsimp only; omega)) ?_; exact hR)); (case hd => exact rfl))
        refine go1 ?_
        refine go0 ?_
        rw [show ((n + k + v : Nat) : Int) = (n : Int) + k + v by omega]
        dsimp only
        rw [hl]
        refine ⟨[_, _, _], [], [(69, v)], rfl, rfl, ?_, rfl, ⟨?_, ?_, ?_, trivial⟩, ?_⟩
        · refine ⟨?_, trivial⟩
          show v ≤ List.length _
          dsimp only
          rw [cut_u8, cut_u8]
          simp only [u8s, List.length_map, List.length_take, List.length_drop]
          omega
        · refine .inr ⟨_, rfl, ⟨rfl, rfl⟩, ⟨rfl, rfl⟩, ⟨rfl, rfl⟩, .inr ⟨rfl, rfl, rfl, ?_, ?_⟩, trivial⟩
          · exact Nat.le_of_eq (by simp)
          · dsimp only
            rw [cut_u8, cut_u8]
            simp only [cutL, u8s]
            simp only [Nat.sub_zero, Nat.zero_add, List.drop_zero]
            rw [List.take_of_length_le (l := b.drop (n + k)) (by simp), List.take_of_length_le (by rw [List.length_map, List.length_take]; omega)]
        · exact rv
        · exact rv
        · exact mm
      · have hK0 : K = 0 := by have : (K : Int) = 0 := by simpa using h
                               omega
        subst hK0
        rw [if_neg (by omega)] at hR
        have hnb : n ≤ b.length := by have := h1ok rfl; omega
        (have fct := SomF.mk (bndLo (κ := .i64) hnb); have fct := SideF.mk (head_b b); refine go1 ?_)
        refine g_call2 rfl (fun _ h => h) rfl (semR_of_semC (c2)) rfl lm ?_
        refine go1 ?_
        ((with_reducible apply c_cond); (case he => exact rfl); (all_goals intro h))
        · have he2 : e2 ≠ 0 := by intro h0; subst h0; cases h
          rw [if_pos he2] at hR
          simp only [Prod.mk.injEq] at hR
          obtain ⟨rfl, rfl, rfl⟩ := hR
          refine go1 ?_
          refine go0 ?_
          refine ⟨[_, _, _], [], [], rfl, rfl, trivial, rfl, ⟨?_, ?_, ?_, trivial⟩, ?_⟩
          · exact .inr ⟨_, rfl, ⟨rfl, rfl⟩, ⟨rfl, rfl⟩, ⟨rfl, rfl⟩, .inr ⟨rfl, rfl⟩, trivial⟩
          · exact rv
          · exact rv
          · exact mm
        have he2 : e2 = 0 := by have : (e2 : Int) = 0 := by simpa using h
                                omega
        subst he2
        have hk := h2ok rfl
        rw [List.length_drop] at hk
        rw [if_neg (by simp)] at hR
        rw [if_pos rfl] at hR
        simp only [Prod.mk.injEq] at hR
        obtain ⟨rfl, rfl, rfl⟩ := hR
        refine go1 ?_
        refine go0 ?_
        refine ⟨[_, _, _], [], [], rfl, rfl, trivial, rfl, ⟨?_, ?_, ?_, trivial⟩, ?_⟩
        · exact .inr ⟨_, rfl, ⟨rfl, rfl⟩, ⟨rfl, rfl⟩, ⟨rfl, rfl⟩, .inr ⟨rfl, rfl⟩, trivial⟩
        · exact rv
        · exact rv
        · exact mm
    · have hD3 : (536870911 : Int) < D := by simpa using h
      rw [if_pos (by omega)] at hR
      refine go1 ?_
      simp only [Prod.mk.injEq] at hR
      obtain ⟨rfl, rfl, rfl⟩ := hR
      refine go1 ?_
      refine go0 ?_
      refine ⟨[_, _, _], [], [], rfl, rfl, trivial, rfl, ⟨?_, ?_, ?_, trivial⟩, ?_⟩
      · exact .inr ⟨_, rfl, ⟨rfl, rfl⟩, ⟨rfl, rfl⟩, ⟨rfl, rfl⟩, .inr ⟨rfl, rfl⟩, trivial⟩
      · exact rv
      · exact rv
      · exact mm
  · have hD1 : (D : Int) < 1 := by simpa using h
    rw [if_pos (by omega)] at hR
    refine go1 ?_
    simp only [Prod.mk.injEq] at hR
    obtain ⟨rfl, rfl, rfl⟩ := hR
    refine go1 ?_
    refine go0 ?_
    refine ⟨[_, _, _], [], [], rfl, rfl, trivial, rfl, ⟨?_, ?_, ?_, trivial⟩, ?_⟩
    · exact .inr ⟨_, rfl, ⟨rfl, rfl⟩, ⟨rfl, rfl⟩, ⟨rfl, rfl⟩, .inr ⟨rfl, rfl⟩, trivial⟩
    · exact rv
    · exact rv
    · exact mm
theorem pone_cut {b : List UInt8} (hb : b.length < 1000000000) {n : Nat} : SemR Tryz.prog G 190 [.sl (b.length - n) (cutL (u8s b) n b.length)] [] 0 (.tup [fldM (oneS (b.drop n)).1, .int .i64 (oneS (b.drop n)).2.1, .int .i64 (oneS (b.drop n)).2.2]) [] 0 := by
 have := pone_r (G := G) (b.drop n) (by rw [List.length_drop]; omega)
 rw [List.length_drop] at this
 rw [cut_u8, List.take_of_length_le (by rw [List.length_drop]; omega)]
 exact this
theorem pfields_r (b : List UInt8) (hb : b.length < 1000000000) : SemR Tryz.prog G 128 [.sl b.length (u8s b)] [] 0 (.tup [.sl (fieldsS b).1.length ((fieldsS b).1.map fldM), .int .i64 (fieldsS b).2.1, .int .i64 (fieldsS b).2.2]) [] 0 := by
  generalize hr : fieldsS b = r
  obtain ⟨l, at1, e1⟩ := r
  dsimp only
  refine srq seat Tryz.func128 36 ?_
  refine go1 ?_
  refine c_loop (Nat × List Fld) (fun x => [(3, .int .i64 x.1), (2, .ms 0 4 0 x.2.length), (0, .sl b.length (u8s b))]) (fun x => [(0, ⟨183, 4, true, 0, x.2.map fldM⟩)]) 1 (fun x => x.1 ≤ b.length ∧ x.2.length ≤ 1024 ∧ fieldsG (1024 - x.2.length) (b.drop x.1) x.1 x.2 = (l, at1, e1)) (fun x => b.length - x.1) (0, []) ⟨Nat.zero_le _, Nat.zero_le _, by dsimp only; rw [List.drop_zero]; exact hr⟩ (by dsimp only; exact (vm [] [])) ?_
  rintro ⟨i, acc⟩ ⟨hi, ha, hG⟩
  try dsimp only
  dsimp only at hi ha hG
  refine go1 ?_
  ((with_reducible apply c_cond); (case he => exact rfl); (all_goals intro h))
  · have hi' : i < b.length := by have := of_decide_eq_true h; omega
    have hne := drop_ne hi'
    refine go1 ?_
    ((with_reducible apply c_cond); (case he => exact rfl); (all_goals intro h))
    · have h4 : acc.length = 1024 := by have := eq_of_beq h; omega
      rw [h4, Nat.sub_self, fieldsG_full hne] at hG
      simp only [Prod.mk.injEq] at hG
      obtain ⟨rfl, rfl, rfl⟩ := hG
      refine go1 ?_
      refine ⟨[_, _, _], [], [], rfl, rfl, trivial, rfl, ⟨?_, ?_, ?_, trivial⟩, ?_⟩
      · exact .inr ⟨rfl, rfl⟩
      · exact rv
      · exact rv
      · exact mm
    · have h4 : acc.length < 1024 := by have : ¬ (acc.length : Int) = 1024 := by simpa using h
                                        omega
      have c1 := pone_cut (G := G) hb (n := i)
      have hok := one_ok (b := b.drop i)
      rw [show 1024 - acc.length = (1023 - acc.length) + 1 by omega, fieldsG_step hne] at hG
      generalize oneS (b.drop i) = o at *
      obtain ⟨f, m, e⟩ := o
      dsimp only at c1 hok hG
      (have fct := SomF.mk (bndLo (κ := .i64) hi); have fct := SideF.mk (head_b b); refine go1 ?_)
      refine g_call2 rfl (fun _ h => h) rfl (c1) rfl lm ?_
      refine go1 ?_
      ((with_reducible apply c_cond); (case he => exact rfl); (all_goals intro h))
      · have he : e ≠ 0 := by intro h0; subst h0; cases h
        rw [if_pos he] at hG
        simp only [Prod.mk.injEq] at hG
        obtain ⟨rfl, rfl, rfl⟩ := hG
        refine go1 ?_
        refine ⟨[_, _, _], [], [], rfl, rfl, trivial, rfl, ⟨?_, ?_, ?_, trivial⟩, ?_⟩
        · exact .inr ⟨rfl, rfl⟩
        · exact rv
        · exact rv
        · exact mm
      · have he : e = 0 := by have : (e : Int) = 0 := by simpa using h
                              omega
        subst he
        rw [if_neg (by simp), List.drop_drop] at hG
        have hok := hok rfl
        rw [List.length_drop] at hok
        refine go1 ?_
        ((with_reducible apply g_mem); (case hq => exact rfl); (case hv => exact rfl); (case he => (intro R hR; refine sms hR ?_; (refine And.intro (Nat.le_refl _) ?_; refine ⟨_, rfl, ?_⟩; refine And.intro ⟨(by simp), app_ok (by kernel_rfl) pf⟩ ?_; refine ⟨(acc ++ [f]).map fldM, sv (by simp; rfl), acc.length + 1, sv pf, ?_⟩); exact hR)); (case hd => exact rfl))
        refine go1 ?_
        refine ⟨(i + m, acc ++ [f]), ⟨by dsimp only; omega, by dsimp only; rw [List.length_append, List.length_singleton]; omega, ?_⟩, by show b.length - (i + m) < b.length - i; omega, ?_⟩
        · dsimp only
          rw [List.length_append, List.length_singleton, show 1024 - (acc.length + 1) = 1023 - acc.length by omega]
          exact hG
        · dsimp only
          rw [List.length_append, List.length_singleton]
          exact (vm [(0, _)] [])
  · have hi' : b.length ≤ i := by have := of_decide_eq_false h; omega
    rw [List.drop_eq_nil_of_le hi', fieldsG_end] at hG
    simp only [Prod.mk.injEq] at hG
    obtain ⟨rfl, rfl, rfl⟩ := hG
    refine go1 ?_
    refine ⟨[_, _, _], [], [(0, acc.length)], rfl, rfl, ?_, rfl, ⟨?_, ?_, ?_, trivial⟩, ?_⟩
    · exact ⟨by show acc.length ≤ (acc.map fldM).length; simp, trivial⟩
    · exact .inr ⟨rfl, rfl, rfl, Nat.le_of_eq (Nat.zero_add _), cut_all fldM acc⟩
    · exact rv
    · exact rv
    · exact mm
end
end Go.Proofs.YtohikcplmbkmeaaGreatDoor
namespace Go.Proofs
open Go.Shelf
def Tryz.lays134_ren : Go.Shelf.Ren := ⟨fun | 134 => 249 | 129 => 189 | n => n, fun | 53 => 23 | 3 => 3 | 4 => 4 | 46 => 190 | 5 => 5 | 9 => 9 | n => n, fun | n => n⟩
theorem Tryz.lays134 : Go.Proofs.Lays.n134 Tryz.prog Tryz.lays134_ren := {
 mixed := by kernel_rfl
 f129 := Tryz.func189.trans (congrArg some (by kernel_rfl))
 f134 := Tryz.func249.trans (congrArg some (by kernel_rfl))
 t3 := Tryz.underlying3
 a3 := Tryz.isAgg3
 z3 := Tryz.sizeOf3
 v3 := Tryz.zeroValue3
 t4 := Tryz.underlying4
 a4 := Tryz.isAgg4
 z4 := Tryz.sizeOf4
 v4 := Tryz.zeroValue4
 t5 := Tryz.underlying5
 a5 := Tryz.isAgg5
 z5 := Tryz.sizeOf5
 v5 := Tryz.zeroValue5
 t9 := Tryz.underlying9
 a9 := Tryz.isAgg9
 z9 := Tryz.sizeOf9
 v9 := Tryz.zeroValue9
 t46 := Tryz.underlying190
 a46 := Tryz.isAgg190
 z46 := Tryz.sizeOf190
 v46 := Tryz.zeroValue190
 t53 := Tryz.underlying23
 a53 := Tryz.isAgg23
 z53 := Tryz.sizeOf23
 v53 := Tryz.zeroValue23 }
theorem Tryz.bits_LeadingZeros64 (x : Int) (w : World) (h0 : 0 ≤ x) (h1 : x ≤ 18446744073709551615) :
  Calls Tryz.prog 249 #[.int .u64 x] w fun e w' => e = .returned (.int .i64 (64 - (Lib.bitLen x.toNat : Int))) ∧ w' = w := Any.bits_LeadingZeros64 Tryz.lays134 x w h0 h1
def Tryz.lays197_ren : Go.Shelf.Ren := ⟨fun | 197 => 248 | 260 => 272 | n => n, fun | 9 => 9 | 21 => 21 | 3 => 3 | 4 => 4 | 5 => 5 | 105 => 305 | 119 => 335 | 0 => 0 | 46 => 190 | 139 => 338 | 138 => 337 | n => n, fun | 3 => 2 | 4 => 3 | n => n⟩
theorem Tryz.lays197 : Go.Proofs.Lays.n197 Tryz.prog Tryz.lays197_ren := {
 mixed := by kernel_rfl
 f197 := Tryz.func248.trans (congrArg some (by kernel_rfl))
 f260 := Tryz.func272.trans (congrArg some (by kernel_rfl))
 t0 := Tryz.underlying0
 a0 := Tryz.isAgg0
 z0 := Tryz.sizeOf0
 v0 := Tryz.zeroValue0
 t3 := Tryz.underlying3
 a3 := Tryz.isAgg3
 z3 := Tryz.sizeOf3
 v3 := Tryz.zeroValue3
 t4 := Tryz.underlying4
 a4 := Tryz.isAgg4
 z4 := Tryz.sizeOf4
 v4 := Tryz.zeroValue4
 t5 := Tryz.underlying5
 a5 := Tryz.isAgg5
 z5 := Tryz.sizeOf5
 v5 := Tryz.zeroValue5
 t9 := Tryz.underlying9
 a9 := Tryz.isAgg9
 z9 := Tryz.sizeOf9
 v9 := Tryz.zeroValue9
 t21 := Tryz.underlying21
 a21 := Tryz.isAgg21
 z21 := Tryz.sizeOf21
 v21 := Tryz.zeroValue21
 t46 := Tryz.underlying190
 a46 := Tryz.isAgg190
 z46 := Tryz.sizeOf190
 v46 := Tryz.zeroValue190
 t105 := Tryz.underlying305
 a105 := Tryz.isAgg305
 z105 := Tryz.sizeOf305
 v105 := Tryz.zeroValue305
 t119 := Tryz.underlying335
 a119 := Tryz.isAgg335
 z119 := Tryz.sizeOf335
 t138 := Tryz.underlying337
 a138 := Tryz.isAgg337
 z138 := Tryz.sizeOf337
 v138 := Tryz.zeroValue337
 t139 := Tryz.underlying338
 a139 := Tryz.isAgg338
 z139 := Tryz.sizeOf338
 v139 := Tryz.zeroValue338
 g3 := by kernel_rfl
 g4 := by kernel_rfl }
open Go.RowKit Go.Lib in
theorem Tryz.utf8_DecodeRuneInString (s : ByteArray) (w : World) (hT : Lib.Utf8Tabs 2 3 w) :
  Calls Tryz.prog 248 #[.string s] w fun e w' => e = .returned (.tuple #[.int .i32 (Lib.decodeGo s).1, .int .i64 (Lib.decodeGo s).2]) ∧ Below w.heap.size w w' := Any.utf8_DecodeRuneInString Tryz.lays197 s w hT
end Go.Proofs
namespace Go.Proofs.YtohikcplmbkmeaaGreatDoor
open Go.RowKit
section
def LU (g : Nat) : Prop := g = 2 ∨ g = 3
def UtfOK (w : World) : Prop := Lib.Utf8Tabs 2 3 w
theorem UtfOK.same {w w' : World} (h : UtfOK w) (hs : ∀ g, LU g → w'.heap[g]? = w.heap[g]?) : UtfOK w' :=
 ⟨fun c hc => (cell_same (hs _ (.inl rfl))).trans (h.1 c hc), fun i hi => ⟨(cell_same (hs _ (.inr rfl))).trans (h.2 i hi).1, (cell_same (hs _ (.inr rfl))).trans (h.2 i hi).2⟩⟩
theorem UtfOK.lt {w : World} (h : UtfOK w) {g : Nat} (hg : LU g) : g < w.heap.size := by
 rcases hg with rfl | rfl
 ·exact World.block_lt_of_cell? _ _ (h.1 0 (by omega))
 ·exact World.block_lt_of_cell? _ _ (h.2 0 (by omega)).1
def GU : GS := ⟨UtfOK, LU, fun _ _ h hg => h.lt hg, fun _ _ _ h hx hs => h.same fun _ hg => hs.block _ (h.lt hg) (fun e => hx _ e hg)⟩
theorem decGo_s (s : List UInt8) : SemC Tryz.prog GU 248 [.str s] (.tup [.int .i32 (Lib.decodeGo ⟨s.toArray⟩).1, .int .i64 (Lib.decodeGo ⟨s.toArray⟩).2]) := by
 intro w P vals hg hP hargs
 cases hargs with
 | cons h t =>
  cases t with
  | nil =>
   obtain rfl := h.str_
   refine (Tryz.utf8_DecodeRuneInString ⟨s.toArray⟩ w hg).mono ?_
   rintro e w' ⟨rfl, hb⟩
   refine ⟨_, rfl, .tup [.int .i32 (Lib.decodeGo ⟨s.toArray⟩).1, .int .i64 (Lib.decodeGo ⟨s.toArray⟩).2] rfl fun j m u hm hu => ?_, hb⟩
   match j with
   | 0 => simp at hm hu; subst hm hu; exact ⟨_, .int, rfl⟩
   | 1 => simp at hm hu; subst hm hu; exact ⟨_, .int, rfl⟩
   | j + 2 => simp at hm
def runeN (n b0 b1 b2 b3 : Nat) : Nat :=
 if b0 < 128 then 1 else
 if 194 ≤ b0 ∧ b0 < 224 ∧ (1 < n ∧ 128 ≤ b1 ∧ b1 < 192) then 2 else
 if 224 ≤ b0 ∧ b0 < 240 ∧ (1 < n ∧ 128 ≤ b1 ∧ b1 < 192) ∧ (2 < n ∧ 128 ≤ b2 ∧ b2 < 192) then
  (if b0 = 224 ∧ b1 < 160 ∨ b0 = 237 ∧ 160 ≤ b1 then 0 else 3) else
 if 240 ≤ b0 ∧ b0 < 245 ∧ (1 < n ∧ 128 ≤ b1 ∧ b1 < 192) ∧ (2 < n ∧ 128 ≤ b2 ∧ b2 < 192) ∧ (3 < n ∧ 128 ≤ b3 ∧ b3 < 192) then
  (if b0 = 240 ∧ b1 < 144 ∨ b0 = 244 ∧ 144 ≤ b1 then 0 else 4) else 0
theorem decN_rune (n b0 b1 b2 b3 : Nat) (h0 : b0 < 256) (h1 : b1 < 256) (h2 : b2 < 256) (h3 : b3 < 256) :
  (runeN n b0 b1 b2 b3 = 0 → Lib.decodeN n b0 b1 b2 b3 = (65533, 1)) ∧ (runeN n b0 b1 b2 b3 ≠ 0 → (Lib.decodeN n b0 b1 b2 b3).2 = runeN n b0 b1 b2 b3 ∧ ¬ ((Lib.decodeN n b0 b1 b2 b3).1 = 65533 ∧ (Lib.decodeN n b0 b1 b2 b3).2 = 1)) := by
 have key : ∀ (r : Nat) (d : Nat × Nat), runeN n b0 b1 b2 b3 = r → Lib.decodeN n b0 b1 b2 b3 = d → (r = 0 → d = (65533, 1)) → (r ≠ 0 → d.2 = r ∧ ¬ (d.1 = 65533 ∧ d.2 = 1)) → (runeN n b0 b1 b2 b3 = 0 → Lib.decodeN n b0 b1 b2 b3 = (65533, 1)) ∧ (runeN n b0 b1 b2 b3 ≠ 0 → (Lib.decodeN n b0 b1 b2 b3).2 = runeN n b0 b1 b2 b3 ∧ ¬ ((Lib.decodeN n b0 b1 b2 b3).1 = 65533 ∧ (Lib.decodeN n b0 b1 b2 b3).2 = 1)) := by
  intro r d e1 e2 e3 e4
  rw [e1, e2]
  exact ⟨e3, e4⟩
 have bad : runeN n b0 b1 b2 b3 = 0 → Lib.decodeN n b0 b1 b2 b3 = (65533, 1) → _ := fun e1 e2 => key 0 _ e1 e2 (fun _ => rfl) (fun h => absurd rfl h)
 by_cases a0 : b0 < 128
 ·refine key 1 (b0, 1) (by unfold runeN; rw [if_pos a0]) (by unfold Lib.decodeN; rw [if_pos a0]) (fun h => by cases h) (fun _ => ⟨rfl, by dsimp only; omega⟩)
 by_cases a1 : b0 < 224
 ·by_cases c1 : 194 ≤ b0 ∧ 1 < n ∧ b1 / 64 = 2
  ·refine key 2 (b0 % 32 * 64 + b1 % 64, 2) ?_ ?_ (fun h => by cases h) (fun _ => ⟨rfl, by dsimp only; omega⟩)
   ·unfold runeN
    (repeat (first | rw [if_pos (by omega)] | rw [if_neg (by omega)]))
   ·unfold Lib.decodeN
    (repeat (first | rw [if_pos (by omega)] | rw [if_neg (by omega)]))
  ·refine bad ?_ ?_
   ·unfold runeN
    (repeat (first | rw [if_pos (by omega)] | rw [if_neg (by omega)]))
   ·unfold Lib.decodeN
    by_cases c2 : b0 / 32 = 6 ∧ 1 < n ∧ b1 / 64 = 2
    ·(repeat (first | rw [if_pos (by omega)] | rw [if_neg (by omega)]))
    ·(repeat (first | rw [if_pos (by omega)] | rw [if_neg (by omega)]))
 by_cases a2 : b0 < 240
 ·by_cases c1 : (1 < n ∧ b1 / 64 = 2) ∧ 2 < n ∧ b2 / 64 = 2
  ·by_cases c2 : b0 = 224 ∧ b1 < 160 ∨ b0 = 237 ∧ 160 ≤ b1
   ·refine bad ?_ ?_
    ·unfold runeN
     (repeat (first | rw [if_pos (by omega)] | rw [if_neg (by omega)]))
    ·unfold Lib.decodeN
     (repeat (first | rw [if_pos (by omega)] | rw [if_neg (by omega)]))
   ·refine key 3 (b0 % 16 * 4096 + b1 % 64 * 64 + b2 % 64, 3) ?_ ?_ (fun h => by cases h) (fun _ => ⟨rfl, by dsimp only; omega⟩)
    ·unfold runeN
     (repeat (first | rw [if_pos (by omega)] | rw [if_neg (by omega)]))
    ·unfold Lib.decodeN
     (repeat (first | rw [if_pos (by omega)] | rw [if_neg (by omega)]))
  ·refine bad ?_ ?_
   ·unfold runeN
    (repeat (first | rw [if_pos (by omega)] | rw [if_neg (by omega)]))
   ·unfold Lib.decodeN
    (repeat (first | rw [if_pos (by omega)] | rw [if_neg (by omega)]))
 by_cases c1 : (1 < n ∧ b1 / 64 = 2) ∧ (2 < n ∧ b2 / 64 = 2) ∧ 3 < n ∧ b3 / 64 = 2
 ·by_cases c2 : b0 < 245 ∧ ¬ (b0 = 240 ∧ b1 < 144 ∨ b0 = 244 ∧ 144 ≤ b1)
  ·refine key 4 (b0 % 8 * 262144 + b1 % 64 * 4096 + b2 % 64 * 64 + b3 % 64, 4) ?_ ?_ (fun h => by cases h) (fun _ => ⟨rfl, by dsimp only; omega⟩)
   ·unfold runeN
    (repeat (first | rw [if_pos (by omega)] | rw [if_neg (by omega)]))
   ·unfold Lib.decodeN
    (repeat (first | rw [if_pos (by omega)] | rw [if_neg (by omega)]))
  ·refine bad ?_ ?_
   ·unfold runeN
    by_cases c3 : b0 < 245
    ·(repeat (first | rw [if_pos (by omega)] | rw [if_neg (by omega)]))
    ·(repeat (first | rw [if_pos (by omega)] | rw [if_neg (by omega)]))
   ·unfold Lib.decodeN
    by_cases c3 : b0 / 8 = 30
    ·(repeat (first | rw [if_pos (by omega)] | rw [if_neg (by omega)]))
    ·(repeat (first | rw [if_pos (by omega)] | rw [if_neg (by omega)]))
 ·refine bad ?_ ?_
  ·unfold runeN
   (repeat (first | rw [if_pos (by omega)] | rw [if_neg (by omega)]))
  ·unfold Lib.decodeN
   (repeat (first | rw [if_pos (by omega)] | rw [if_neg (by omega)]))
theorem get_b (s : List UInt8) (i : Nat) : (⟨s.toArray⟩ : ByteArray).get! i = s.getD i 0 := by
 show s.toArray[i]! = _
 rw [Array.getElem!_eq_getD, Array.getD_eq_getD_getElem?]
 simp [default]
theorem follow_iff {s : List UInt8} {i k : Nat} : followS s (i + k) = true ↔ (k < s.length - i ∧ 128 ≤ (s.getD (i + k) 0).toNat ∧ (s.getD (i + k) 0).toNat < 192) := by
 unfold followS
 simp only [Bool.and_eq_true, decide_eq_true_eq]
 omega
theorem runeS_N (s : List UInt8) (i : Nat) : runeS s i = runeN (s.length - i) (s.getD i 0).toNat (s.getD (i + 1) 0).toNat (s.getD (i + 2) 0).toNat (s.getD (i + 3) 0).toNat := by
 unfold runeS runeN
 simp only [follow_iff]
theorem dec_at (s : List UInt8) (i : Nat) : Utf8.decode ⟨s.toArray⟩ i = Lib.decodeN (s.length - i) (s.getD i 0).toNat (s.getD (i + 1) 0).toNat (s.getD (i + 2) 0).toNat (s.getD (i + 3) 0).toNat := by
 rw [Lib.decode_at]
 simp only [get_b]
 rw [show (⟨s.toArray⟩ : ByteArray).size = s.length by simp [ByteArray.size]]
theorem decGo_drop {s : List UInt8} {i : Nat} (hi : i < s.length) : Lib.decodeGo ⟨(s.drop i).toArray⟩ = Utf8.decode ⟨s.toArray⟩ i := by
 have hsz : (⟨(s.drop i).toArray⟩ : ByteArray).size = s.length - i := by simp [ByteArray.size]
 unfold Lib.decodeGo
 rw [if_neg (by rw [hsz]; omega), dec_at, dec_at]
 simp only [List.length_drop, Nat.sub_zero, List.getD_eq_getElem?_getD, List.getElem?_drop, Nat.add_zero, Nat.zero_add]
theorem natOf_n (n : Nat) : natOf (n : Int) = some n := by unfold natOf; rw [if_pos (by omega)]; rfl
theorem nextS_y {s : List UInt8} {pos : Nat} (h : pos < s.length) : nextS s pos = some (Utf8.decode ⟨s.toArray⟩ pos) := by unfold nextS; rw [if_pos h]
theorem nextS_n {s : List UInt8} {pos : Nat} (h : ¬ pos < s.length) : nextS s pos = none := by unfold nextS; rw [if_neg h]
attribute [local irreducible] vOpsN vOpsG vOpsD vOpGD NextD vC SeqQ BlockQ
attribute [local irreducible] natOf nextS
theorem pmemo_m (s : List UInt8) (hs : s.length < 500000000) : SemC Tryz.prog GU 193 [.str s] (.bool (memoS s)) := by
 generalize hr : memoS s = r
 unfold memoS runesS at hr
 generalize hv : runesG s.length s 0 0 = v at hr
 obtain ⟨V, ok⟩ := v
 dsimp only at hr
 refine scq seat Tryz.func193 31 ?_
 refine go1 ?_
 refine c_loop (Nat × Nat × Nat) (fun x => [(9, .ptr 0 0 0 0 []), (3, .int .i64 x.2.2), (0, .str s)]) (fun x => [(0, ⟨9, 0, false, 0, [.mpv [.str s] [.nilp, .int .i64 (x.2.1 : Nat)]]⟩)]) 1 (fun x => runesG x.1 s x.2.1 x.2.2 = (V, ok) ∧ s.length ≤ x.2.1 + x.1 ∧ x.2.2 ≤ x.2.1 ∧ x.2.1 ≤ s.length + 4) (fun x => x.1) (s.length, 0, 0) ⟨hv, by dsimp only; omega, by dsimp only; omega, by dsimp only; omega⟩ (by dsimp only; exact (vm [(0, _)] [])) ?_
 clear hv
 rintro ⟨f, pos, cnt⟩ ⟨hR, hf, hc, hp⟩
 try dsimp only
 dsimp only at hR hf hc hp
 have f0 := SomF.mk (natOf_n pos)
 by_cases hi : pos < s.length
 ·have c0 := decGo_s (s.drop pos)
  rw [decGo_drop hi, ← List.take_of_length_le (l := s.drop pos) (i := s.length - pos) (by rw [List.length_drop]; omega)] at c0
  have hlaw := decN_rune (s.length - pos) (s.getD pos 0).toNat (s.getD (pos + 1) 0).toNat (s.getD (pos + 2) 0).toNat (s.getD (pos + 3) 0).toNat (UInt8.toNat_lt _) (UInt8.toNat_lt _) (UInt8.toNat_lt _) (UInt8.toNat_lt _)
  rw [← runeS_N, ← dec_at] at hlaw
  have f1 := nextS_y hi
  have hle := runeS_le s pos
  obtain ⟨f', rfl⟩ : ∃ f', f = f' + 1 := ⟨f - 1, by omega⟩
  rw [runesG, if_pos hi] at hR
  generalize runeS s pos = k at *
  generalize Utf8.decode ⟨s.toArray⟩ pos = cw at *
  obtain ⟨c, wd⟩ := cw
  dsimp only at c0 hlaw
  have f1 := EqF.mk f1
  have hlo := bndLo (κ := .i64) (Nat.le_of_lt hi)
  have f2 := SomF.mk hlo
  by_cases hk : k = 0
  ·rw [if_pos hk] at hR
   have h2 := hlaw.1 hk
   simp only [Prod.mk.injEq] at h2 hR
   obtain ⟨rfl, rfl⟩ := h2
   obtain ⟨rfl, rfl⟩ := hR
   refine go1 ?_
   refine g_call2 rfl (fun _ h => h) rfl (semR_of_semC (c0)) rfl lm ?_
   refine go1 ?_
   subst hr
   refine go0 ?_
   rfl
  ·rw [if_neg hk] at hR
   have h2 := hlaw.2 hk
   obtain ⟨rfl, h3⟩ := h2
   refine go1 ?_
   refine g_call2 rfl (fun _ h => h) rfl (semR_of_semC (c0)) rfl lm ?_
   refine go1 ?_
   ((with_reducible apply n_grd); (case hf => exact ⟨rfl, rfl, rfl⟩); (all_goals intro h))
   ·have hc2 : c = 65533 := by have := eq_of_beq h; omega
    refine go1 ?_
    ((with_reducible apply c_cond); (case he => exact rfl); (all_goals intro h))
    ·exact absurd ⟨hc2, by have := eq_of_beq h; omega⟩ h3
    refine go1 ?_
    exact ⟨(f', pos + wd, cnt + 1), ⟨hR, by dsimp only; omega, by dsimp only; omega, by dsimp only; omega⟩, by show f' < f' + 1; omega, (by dsimp only; exact (vm [(0, _)] []))⟩
   ·refine go1 ?_
    exact ⟨(f', pos + wd, cnt + 1), ⟨hR, by dsimp only; omega, by dsimp only; omega, by dsimp only; omega⟩, by show f' < f' + 1; omega, (by dsimp only; exact (vm [(0, _)] []))⟩
 ·have f1 := EqF.mk (nextS_n hi)
  have : runesG f s pos cnt = (cnt, true) := by cases f with | zero => rfl | succ f => rw [runesG, if_neg hi]
  rw [this] at hR
  simp only [Prod.mk.injEq] at hR
  obtain ⟨rfl, rfl⟩ := hR
  subst hr
  refine go1 ?_
  refine go0 ?_
  exact congrArg MV.bool (decide_eq_decide.2 (by omega))
end
section
open Go.ChangeShapes Go.WideShapes Go.ChangeAt Go.RowKit
theorem own : ownKnob Tryz.prog.godebug = none := by kernel_rfl
theorem laidOut : laidOutB Tryz.prog = true := by kernel_rfl
noncomputable abbrev laidL : List (String × DataW Unit) := Rows.appChecksRow.laid
theorem first_eq : Rows.laid_unicode_utf8_first = Lib.firstData := by kernel_rfl
theorem accept_eq : (Rows.laid_unicode_utf8_acceptRanges : DataW Unit) = Lib.acceptData := by kernel_rfl
theorem libOK_of {W : World} (hL : laidMet Tryz.prog laidL W) (_hs : W.ShapedOpen Tryz.prog) : GU.ok W :=
 utf8Tabs_of_readsT (ρ := Tryz.lays197_ren) ⟨Tryz.underlying5, Tryz.underlying335, Tryz.underlying337, Tryz.underlying338⟩ ⟨by kernel_rfl, by kernel_rfl, by kernel_rfl, by kernel_rfl, by kernel_rfl, by kernel_rfl, by kernel_rfl⟩
  (by rw [← first_eq]; exact Lib.laidMet.reads hL (List.Mem.tail _ (List.Mem.head _)))
  (by rw [← accept_eq]; exact Lib.laidMet.reads hL (List.Mem.head _))
noncomputable abbrev laidW (os : Os) : World := World.laidAll Tryz.prog os laidL
theorem witness_zip {C : Checked} {os : Os} {f : FuncId} {fn : Func} {H : Type} {enc : TypeId × Value → H} {s : OpenSpec} {conds : List PathCond} {apart : Bool} {laid : List (String × DataW Unit)} (w0 : World) (hos : w0.os = os) (args : Array Value)
  (hsh : (w0.forCall (fun _ _ => 0) ⟨#[], args, []⟩).Shaped C.prog)
  (hok : Input.okWideB C.prog (w0.forCall (fun _ _ => 0) ⟨#[], args, []⟩) f ⟨#[], args, []⟩ = true)
  (hrow : s.preRow enc C.prog fn conds apart laid (w0.forCall (fun _ _ => 0) ⟨#[], args, []⟩).memory args) :
  ∃ (w : World) (tape : Tape) (i : Input), w.os = os ∧ (w.forCall tape i).Shaped C.prog ∧ i.vars = [] ∧ Input.okWide C.prog (w.forCall tape i) .any w.heap.size f i ∧
   s.preRow enc C.prog fn conds apart laid (w.forCall tape i).memory i.args ∧ ({} : Assume).holds C.prog (lone (Frame.enter C.prog f i.args .normal) [] (w.forCall tape i)) :=
 ⟨w0, fun _ _ => 0, ⟨#[], args, []⟩, hos, hsh, (Input.okWide_of_okWideB (base := 0) hok).1, (Input.okWide_of_okWideB hok).2, hrow, by
  simp only [Assume.holds]
  exact ⟨by simp, by simp, by simp, by simp, by simp⟩⟩
theorem shapedW (os : Os) (args : Array Value) : ((laidW os).forCall (fun _ _ => 0) ⟨#[], args, []⟩).Shaped Tryz.prog := World.shaped_of_ZipB (by kernel_rfl) (by kernel_rfl)
theorem laid_met (os : Os) (args : Array Value) : laidMet Tryz.prog laidL ((laidW os).forCall (fun _ _ => 0) ⟨#[], args, []⟩).memory := laidMet_laidAll args (by kernel_rfl) (by kernel_rfl)
theorem opn_int : Opn Tryz.prog 3 1 fun m => ∃ n, m = .int .i64 n ∧ (Lit.int .i64 n).wf = true := Opn.int Tryz.underlying3 (by kernel_rfl)
theorem opn_u8 : Opn Tryz.prog 5 1 fun m => ∃ n, m = .int .u8 n ∧ (Lit.int .u8 n).wf = true := Opn.int Tryz.underlying5 (by kernel_rfl)
theorem opn_ints : Opn Tryz.prog 24 1 fun m => ∃ l, m = .sl l.length l ∧ (∀ x ∈ l, ∃ n, x = .int .i64 n ∧ (Lit.int .i64 n).wf = true) ∧ l.length ≤ 140737488355328 := Opn.slice Tryz.underlying24 (by kernel_rfl) (Nat.le_of_ble_eq_true (by kernel_rfl)) (by omega) opn_int
theorem opn_bytes : Opn Tryz.prog 41 1 fun m => ∃ l, m = .sl l.length l ∧ (∀ x ∈ l, ∃ n, x = .int .u8 n ∧ (Lit.int .u8 n).wf = true) ∧ l.length ≤ 140737488355328 := Opn.slice Tryz.underlying41 (by kernel_rfl) (Nat.le_of_ble_eq_true (by kernel_rfl)) (by omega) opn_u8
theorem ints_lift {m : MV} (h : ∃ l, m = .sl l.length l ∧ (∀ x ∈ l, ∃ n, x = .int .i64 n ∧ (Lit.int .i64 n).wf = true) ∧ l.length ≤ 140737488355328) : ∃ xs : List Int, m = intsM xs ∧ xs.length ≤ 140737488355328 := by
 obtain ⟨l, rfl, h, hl⟩ := h
 obtain ⟨us, rfl, _⟩ := lift_list l h
 exact ⟨us, by unfold intsM; rw [List.length_map], by simpa using hl⟩
theorem bytes_lift {m : MV} (h : ∃ l, m = .sl l.length l ∧ (∀ x ∈ l, ∃ n, x = .int .u8 n ∧ (Lit.int .u8 n).wf = true) ∧ l.length ≤ 140737488355328) : ∃ xs : List UInt8, m = .sl xs.length (u8s xs) ∧ xs.length ≤ 140737488355328 := by
 obtain ⟨l, rfl, h, hl⟩ := h
 obtain ⟨us, hu, _⟩ := lift_list (f := fun b : UInt8 => MV.int .u8 b.toNat) (R := fun _ => True) l fun x hx => by
  obtain ⟨n, rfl, hw⟩ := h x hx
  simp [Lit.wf, IntKind.min, IntKind.max, IntKind.bits, IntKind.signed] at hw
  refine ⟨UInt8.ofNat n.toNat, ?_, trivial⟩
  congr 1
  rw [UInt8.toNat_ofNat', Nat.mod_eq_of_lt (by omega)]
  omega
 subst hu
 exact ⟨us, by unfold u8s; rw [List.length_map], by simpa using hl⟩
end
section
variable {G : GS}
attribute [local irreducible] vOpsN vOpsG vOpsD vOpGD NextD vC SeqQ BlockQ
def encodeS (t : TxS) : List UInt8 × Nat := if validTxS t ≠ 0 then ([], validTxS t) else if 4096 < (formS t).length then ([], 3) else (formS t, 0)
theorem encode_r (t : TxS) (ht : SmTx t) : SemR Tryz.prog G 44 [txM t] [] 0 (.tup [.sl (encodeS t).1.length (u8s (encodeS t).1), .int .i64 (encodeS t).2]) [] 0 := by
 have c1 := validTx_m (G := G) t ht
 have c2 := form_r (G := G) t ht
 have hfl := formS_len ht
 unfold encodeS
 generalize validTxS t = v at *
 generalize formS t = m at *
 by_cases hv : v = 0
 ·subst hv
  rw [if_neg (by simp)]
  by_cases hm : 4096 < m.length
  ·rw [if_pos hm]
   refine srq seat Tryz.func44 17 ?_
   (iterate 6 ((all_goals (refine go1 ?_)); (all_goals (first | (refine g_call3 rfl (fun _ h => h) rfl (semR_of_semC (c1)) rfl rfl ?_) | (refine g_call3 rfl (fun _ h => h) rfl (c2) rfl rfl ?_) | ((first | ((with_reducible apply n_grd); (case hf => exact ⟨rfl, rfl, rfl⟩)) | ((with_reducible apply c_cond); (case he => exact rfl))); (all_goals intro h); (all_goals (try simp only [bx] at h)); (all_goals (try (exfalso; omega)))) | skip))))
   refine ⟨[_, _], [], [], rfl, rfl, trivial, rfl, ⟨?_, ?_, trivial⟩, ?_⟩
   ·exact .inr ⟨rfl, rfl⟩
   ·exact rv
   ·exact mm
  ·rw [if_neg hm]
   refine srq seat Tryz.func44 17 ?_
   (iterate 6 ((all_goals (refine go1 ?_)); (all_goals (first | (refine g_call3 rfl (fun _ h => h) rfl (semR_of_semC (c1)) rfl rfl ?_) | (refine g_call3 rfl (fun _ h => h) rfl (c2) rfl rfl ?_) | ((first | ((with_reducible apply n_grd); (case hf => exact ⟨rfl, rfl, rfl⟩)) | ((with_reducible apply c_cond); (case he => exact rfl))); (all_goals intro h); (all_goals (try simp only [bx] at h)); (all_goals (try (exfalso; omega)))) | skip))))
   refine ⟨[_, _], [], [], rfl, rfl, trivial, rfl, ⟨?_, ?_, trivial⟩, ?_⟩
   ·exact rv
   ·exact rv
   ·exact mm
 ·rw [if_pos hv]
  refine srq seat Tryz.func44 17 ?_
  (iterate 5 ((all_goals (refine go1 ?_)); (all_goals (first | (refine g_call3 rfl (fun _ h => h) rfl (semR_of_semC (c1)) rfl rfl ?_) | (refine g_call3 rfl (fun _ h => h) rfl (c2) rfl rfl ?_) | ((first | ((with_reducible apply n_grd); (case hf => exact ⟨rfl, rfl, rfl⟩)) | ((with_reducible apply c_cond); (case he => exact rfl))); (all_goals intro h); (all_goals (try simp only [bx] at h)); (all_goals (try (exfalso; omega)))) | skip))))
  refine ⟨[_, _], [], [], rfl, rfl, trivial, rfl, ⟨?_, ?_, trivial⟩, ?_⟩
  ·exact .inr ⟨rfl, rfl⟩
  ·exact rv
  ·exact mm
theorem fieldsG_ok (B : Nat) : ∀ (k : Nat) (b : List UInt8) (at_ : Nat) (acc : List Fld), b.length ≤ B → (∀ f ∈ acc, okF f ∧ f.bytes.length ≤ B) → (∀ f ∈ (fieldsG k b at_ acc).1, okF f ∧ f.bytes.length ≤ B) ∧ (fieldsG k b at_ acc).1.length ≤ acc.length + k
 | k, [], at_, acc, _, ha => by rw [fieldsG_end]; exact ⟨ha, by dsimp only; omega⟩
 | 0, x :: b, at_, acc, _, _ => by rw [fieldsG_full (by simp)]; exact ⟨by simp, by simp⟩
 | k + 1, x :: b, at_, acc, hb, ha => by
  rw [fieldsG_step (by simp)]
  split
  ·exact ⟨by simp, by simp⟩
  ·rename_i h
   have h1 := one_ok (b := x :: b) (by omega)
   have := fieldsG_ok B k ((x :: b).drop (oneS (x :: b)).2.1) (at_ + (oneS (x :: b)).2.1) (acc ++ [(oneS (x :: b)).1]) (by rw [List.length_drop]; omega) (all_app ha fun f hf => by rw [List.mem_singleton.1 hf]; exact ⟨h1.2.2.1, by omega⟩)
   rw [List.length_append, List.length_singleton] at this
   exact ⟨this.1, by omega⟩
theorem fields_ok (b : List UInt8) : (∀ f ∈ (fieldsS b).1, okF f ∧ f.bytes.length ≤ b.length) ∧ (fieldsS b).1.length ≤ 1024 := by
 have := fieldsG_ok b.length 1024 b 0 [] (Nat.le_refl _) (by simp)
 simpa [fieldsS] using this
def rdTrS : List Fld → TrS → TrS × Bool
 | [], x => (x, true)
 | f :: r, x => if f.num = 1 ∧ f.kind = 2 then rdTrS r ⟨f.bytes, x.amt⟩ else if f.num = 2 ∧ f.kind = 0 then rdTrS r ⟨x.to_, f.val⟩ else (x, false)
def transferS (b : List UInt8) : TrS × Bool := match rdTrS (fieldsS b).1 ⟨[], 0⟩ with
 | (x, ok) => (x, ok && (decide ((fieldsS b).2.2 = 0) && (msgS (textF 1 x.to_ ++ numF 2 x.amt) == b)))
theorem sameB_m (a b : List UInt8) : SemC Tryz.prog G 142 [.sl a.length (u8s a), .sl b.length (u8s b)] (.bool (a == b)) := by
 have f1 := SomF.mk (bytesM_u8 a)
 have f2 := SomF.mk (bytesM_u8 b)
 refine scq seat Tryz.func142 10 ?_
 refine go1 ?_
 refine go0 ?_
 rfl
theorem transfer_r (b : List UInt8) (hb : b.length ≤ 5000) : SemR Tryz.prog G 203 [.sl b.length (u8s b)] [] 0 (.tup [trM (transferS b).1, .bool (transferS b).2]) [] 0 := by
 have c0 := fields_r (G := G) b (by omega)
 have hfo := fields_ok b
 generalize hr : transferS b = r
 unfold transferS at hr
 generalize fieldsS b = t at *
 obtain ⟨l, at1, e⟩ := t
 dsimp only at hr hfo c0
 obtain ⟨R, okk⟩ := r
 dsimp only
 refine srq seat Tryz.func203 63 ?_
 refine go1 ?_
 refine g_call2 rfl (fun _ h => h) rfl (c0) rfl lm ?_
 refine go1 ?_
 refine c_loop (Nat × TrS) (fun x => [(18, .int .i64 x.1), (17, .int .i64 l.length), (16, .sl l.length (l.map fldM)), (7, .ptr 1 2 0 0 []), (6, .int .i64 e), (2, .ptr 0 2 0 0 []), (0, .sl b.length (u8s b))]) (fun x => [(0, ⟨95, 2, false, 0, [.st [.str [], .int .u64 0]]⟩), (1, ⟨95, 2, false, 0, [.st [.str x.2.to_, .int .u64 x.2.amt]]⟩)]) 2 (fun x => x.1 ≤ l.length ∧ x.2.to_.length ≤ 5000 ∧ U64 x.2.amt ∧ (match rdTrS (l.drop x.1) x.2 with | (x, ok) => (x, ok && (decide (e = 0) && (msgS (textF 1 x.to_ ++ numF 2 x.amt) == b)))) = (R, okk)) (fun x => l.length - x.1) (0, ⟨[], 0⟩) ⟨Nat.zero_le _, by simp, by simp [U64], by dsimp only; rw [List.drop_zero]; exact hr⟩ (by dsimp only; exact (vm [(0, _), (1, _)] [])) ?_
 rintro ⟨k, x⟩ ⟨hk, hx1, hx2, hR⟩
 obtain ⟨to_, amt⟩ := x
 try dsimp only
 dsimp only at hk hx1 hx2 hR
 refine go1 ?_
 ((with_reducible apply c_cond); (case he => exact rfl); (all_goals intro h))
 ·have hk' : k < l.length := by have := of_decide_eq_true h; omega
  have hok := hfo.1 _ (List.getElem_mem hk')
  have hel := flds_at hk'
  rw [List.drop_eq_getElem_cons hk'] at hR
  generalize l[k] = f at *
  obtain ⟨num, kind, val, bytes⟩ := f
  replace hel : idxL (l.map fldM) l.length (k : Int) = some (.st [.int .i64 num, .int .i64 kind, .int .u64 val, .sl bytes.length (u8s bytes)]) := hel
  have hel := SomF.mk hel
  have hby := SomF.mk (bytesM_u8 bytes)
  rw [rdTrS] at hR
  dsimp only at hR hok
  by_cases g1 : num = 1 ∧ kind = 2
  ·rw [if_pos g1] at hR
   obtain ⟨rfl, rfl⟩ := g1
   (iterate 6 ((all_goals (refine go1 ?_)); (all_goals (first | ((first | ((with_reducible apply n_grd); (case hf => exact ⟨rfl, rfl, rfl⟩)) | ((with_reducible apply c_cond); (case he => exact rfl))); (all_goals intro h); (all_goals (try simp only [bx] at h)); (all_goals (try (exfalso; omega)))) | skip))))
   exact ⟨(k + 1, ⟨bytes, amt⟩), ⟨by dsimp only; omega, by dsimp only; omega, hx2, hR⟩, by show l.length - (k + 1) < l.length - k; omega, (by dsimp only; exact (vm [(0, _), (1, _)] []))⟩
  rw [if_neg g1] at hR
  by_cases g2 : num = 2 ∧ kind = 0
  ·rw [if_pos g2] at hR
   obtain ⟨rfl, rfl⟩ := g2
   (iterate 6 ((all_goals (refine go1 ?_)); (all_goals (first | ((first | ((with_reducible apply n_grd); (case hf => exact ⟨rfl, rfl, rfl⟩)) | ((with_reducible apply c_cond); (case he => exact rfl))); (all_goals intro h); (all_goals (try simp only [bx] at h)); (all_goals (try (exfalso; omega)))) | skip))))
   exact ⟨(k + 1, ⟨to_, val⟩), ⟨by dsimp only; omega, hx1, by have := hok.1; unfold okF at this; dsimp only at this ⊢; unfold U64; omega, hR⟩, by show l.length - (k + 1) < l.length - k; omega, (by dsimp only; exact (vm [(0, _), (1, _)] []))⟩
  ·rw [if_neg g2] at hR
   dsimp only at hR
   rw [Bool.false_and] at hR
   simp only [Prod.mk.injEq] at hR
   obtain ⟨rfl, rfl⟩ := hR
   (iterate 6 ((all_goals (refine go1 ?_)); (all_goals (first | ((first | ((with_reducible apply n_grd); (case hf => exact ⟨rfl, rfl, rfl⟩)) | ((with_reducible apply c_cond); (case he => exact rfl))); (all_goals intro h); (all_goals (try simp only [bx] at h)); (all_goals (try (exfalso; omega)))) | skip))))
   all_goals (refine go0 ?_; (refine ⟨[_, _], [], [], rfl, rfl, trivial, rfl, ⟨?_, ?_, trivial⟩, ?_⟩; (exact .inl ⟨rfl, rfl⟩); exact rv; exact mm))
 ·have hk' : k = l.length := by have := of_decide_eq_false h; omega
  subst hk'
  rw [List.drop_length, rdTrS] at hR
  dsimp only at hR
  rw [Bool.true_and] at hR
  have hio := inner_ok (x := ⟨to_, amt⟩) ⟨hx1, hx2⟩
  have hil := inner_len (x := ⟨to_, amt⟩) ⟨hx1, hx2⟩
  have hto := textF_ok (n := 1) (s := to_) (by omega) (by omega) 5000 hx1 (by omega)
  have d1 := text_r (G := G) [] 1 to_ (by simp) (by omega)
  rw [List.nil_append] at d1
  have d2 := number_r (G := G) (textF 1 to_) 2 amt (by omega)
  dsimp only at hio hil
  have d3 := message_r (G := G) (textF 1 to_ ++ numF 2 amt) (fun f hf => (hio.1 f hf).1) (by omega) (by omega)
  have d4 := sameB_m (G := G) (msgS (textF 1 to_ ++ numF 2 amt)) b
  unfold rowF at d1 d2
  by_cases he : e = 0
  ·subst he
   rw [decide_eq_true rfl, Bool.true_and] at hR
   simp only [Prod.mk.injEq] at hR
   obtain ⟨rfl, rfl⟩ := hR
   generalize textF 1 to_ ++ numF 2 amt = li at *
   generalize textF 1 to_ = lt at *
   generalize msgS li = mi at *
   refine go1 ?_
   refine c_draw [(0, false), (1, false), (2, false), (3, false), (4, false), (5, false), (6, true), (7, false), (8, false), (9, true), (10, true), (11, false), (12, true), (13, false), (14, false), (15, false)] ?_
   refine go1 ?_
   refine gd_callR1 rfl (fun _ h => h) rfl [] (d1) [] [] ⟨rfl, trivial, rfl, lm, mm⟩ rfl rfl rfl rfl ?_
   refine go1 ?_
   refine gd_callR1 rfl (fun _ h => h) rfl [9] (d2) [(0, 9)] [] ⟨rfl, trivial, rfl, lm, mm⟩ rfl rfl rfl rfl ?_
   refine go1 ?_
   refine gd_call1 rfl (fun _ h => h) rfl [12] (d3) rfl [(12, li.length)] mm lm rfl ?_
   refine go1 ?_
   refine gd_call1 rfl (fun _ h => h) rfl [] (semR_of_semC (d4)) rfl [] trivial lm rfl ?_
   refine go1 ?_
   refine go0 ?_
   refine ⟨[_, _], [], [], rfl, rfl, trivial, rfl, ⟨?_, ?_, trivial⟩, ?_⟩
   ·exact .inl ⟨rfl, rfl⟩
   ·exact rv
   ·exact mm
  ·rw [decide_eq_false he, Bool.false_and] at hR
   simp only [Prod.mk.injEq] at hR
   obtain ⟨rfl, rfl⟩ := hR
   refine go1 ?_
   refine c_draw [(0, false), (1, false), (2, false), (3, false), (4, false), (5, false), (6, true), (7, false), (8, false), (9, true), (10, true), (11, false), (12, true), (13, false), (14, false), (15, false)] ?_
   refine go1 ?_
   ((with_reducible apply d_guard); (case hs => exact rfl); (case hv => exact rfl); (case hd => exact rfl); (all_goals intro h))
   ·exfalso
    have : (e : Int) = 0 := by simpa using h
    omega
   refine go1 ?_
   refine go0 ?_
   refine ⟨[_, _], [], [], rfl, rfl, trivial, rfl, ⟨?_, ?_, trivial⟩, ?_⟩
   ·exact .inl ⟨rfl, rfl⟩
   ·exact rv
   ·exact mm
end
section
variable {G : GS}
attribute [local irreducible] vOpsN vOpsG vOpsD vOpGD NextD vC SeqQ BlockQ
def rdTxS : List Fld → TxS → TxS × Bool
 | [], t => (t, true)
 | f :: r, t =>
  if f.num = 1 ∧ f.kind = 2 then rdTxS r ⟨f.bytes, t.seq, t.gas, t.fee, t.memo, t.trs⟩ else
  if f.num = 2 ∧ f.kind = 0 then rdTxS r ⟨t.sender, f.val, t.gas, t.fee, t.memo, t.trs⟩ else
  if f.num = 3 ∧ f.kind = 0 then rdTxS r ⟨t.sender, t.seq, f.val, t.fee, t.memo, t.trs⟩ else
  if f.num = 4 ∧ f.kind = 0 then rdTxS r ⟨t.sender, t.seq, t.gas, f.val, t.memo, t.trs⟩ else
  if f.num = 5 ∧ f.kind = 2 then rdTxS r ⟨t.sender, t.seq, t.gas, t.fee, f.bytes, t.trs⟩ else
  if f.num = 6 ∧ f.kind = 2 then (if (transferS f.bytes).2 then rdTxS r ⟨t.sender, t.seq, t.gas, t.fee, t.memo, t.trs ++ [(transferS f.bytes).1]⟩ else (t, false)) else (t, false)
def tx0 : TxS := ⟨[], 0, 0, 0, [], []⟩
theorem rdTrS_sm : ∀ (l : List Fld) (x : TrS), (∀ f ∈ l, okF f ∧ f.bytes.length ≤ 5000) → SmTr x → SmTr (rdTrS l x).1
 | [], x, _, h => h
 | f :: r, x, hl, h => by
  have hf := hl f (by simp)
  rw [rdTrS]
  split
  ·exact rdTrS_sm r _ (fun g hg => hl g (by simp [hg])) ⟨hf.2, h.2⟩
  ·split
   ·exact rdTrS_sm r _ (fun g hg => hl g (by simp [hg])) ⟨h.1, by have := hf.1; unfold okF at this; unfold U64; dsimp only; omega⟩
   ·exact h
theorem transferS_sm {b : List UInt8} (hb : b.length ≤ 5000) : SmTr (transferS b).1 := by
 unfold transferS
 have h := fields_ok b
 have := rdTrS_sm (fieldsS b).1 ⟨[], 0⟩ (fun f hf => ⟨(h.1 f hf).1, by have := (h.1 f hf).2; omega⟩) ⟨by simp, by simp [U64]⟩
 generalize rdTrS (fieldsS b).1 ⟨[], 0⟩ = r at *
 exact this
theorem rdTxS_sm : ∀ (l : List Fld) (t : TxS), (∀ f ∈ l, okF f ∧ f.bytes.length ≤ 5000) → t.trs.length + l.length ≤ 5000 → SmTx t → SmTx (rdTxS l t).1
 | [], t, _, _, h => h
 | f :: r, t, hl, hn, h => by
  have hf := hl f (by simp)
  have hr : ∀ g ∈ r, okF g ∧ g.bytes.length ≤ 5000 := fun g hg => hl g (by simp [hg])
  have hv : U64 f.val := by have := hf.1; unfold okF at this; unfold U64; omega
  simp only [List.length_cons] at hn
  obtain ⟨h1, h2, h3, h4, h5, h6, h7⟩ := h
  rw [rdTxS]
  split
  ·exact rdTxS_sm r _ hr (by dsimp only; omega) ⟨hf.2, h2, h3, h4, h5, h6, h7⟩
  split
  ·exact rdTxS_sm r _ hr (by dsimp only; omega) ⟨h1, hv, h3, h4, h5, h6, h7⟩
  split
  ·exact rdTxS_sm r _ hr (by dsimp only; omega) ⟨h1, h2, hv, h4, h5, h6, h7⟩
  split
  ·exact rdTxS_sm r _ hr (by dsimp only; omega) ⟨h1, h2, h3, hv, h5, h6, h7⟩
  split
  ·exact rdTxS_sm r _ hr (by dsimp only; omega) ⟨h1, h2, h3, h4, hf.2, h6, h7⟩
  split
  ·split
   ·exact rdTxS_sm r _ hr (by dsimp only; rw [List.length_append, List.length_singleton]; omega) ⟨h1, h2, h3, h4, h5, by dsimp only; rw [List.length_append, List.length_singleton]; omega, all_app h7 fun x hx => by rw [List.mem_singleton.1 hx]; exact transferS_sm hf.2⟩
   ·exact ⟨h1, h2, h3, h4, h5, h6, h7⟩
  ·exact ⟨h1, h2, h3, h4, h5, h6, h7⟩
theorem read_r (l : List Fld) (hl : ∀ f ∈ l, okF f ∧ f.bytes.length ≤ 5000) (hn : l.length ≤ 1024) : SemR Tryz.prog G 141 [.sl l.length (l.map fldM)] [] 0 (.tup [txM (rdTxS l tx0).1, .bool (rdTxS l tx0).2]) [] 0 := by
 generalize hr : rdTxS l tx0 = r
 obtain ⟨R, okk⟩ := r
 dsimp only
 refine srq seat Tryz.func141 104 ?_
 refine go1 ?_
 refine c_loop (Nat × TxS) (fun x => [(11, .int .i64 x.1), (10, .int .i64 l.length), (9, .sl l.length (l.map fldM)), (4, .ptr 1 6 0 0 []), (2, .ptr 0 6 0 0 [])]) (fun x => [(0, ⟨98, 6, false, 0, [.st [.str [], .int .u64 0, .int .u64 0, .int .u64 0, .str [], .nils]]⟩), (1, ⟨98, 6, false, 0, [.st [.str x.2.sender, .int .u64 x.2.seq, .int .u64 x.2.gas, .int .u64 x.2.fee, .str x.2.memo, .ms 2 2 0 x.2.trs.length]]⟩), (2, ⟨95, 2, true, 0, x.2.trs.map trM⟩)]) 3 (fun x => x.1 ≤ l.length ∧ x.2.trs.length ≤ x.1 ∧ rdTxS (l.drop x.1) x.2 = (R, okk)) (fun x => l.length - x.1) (0, tx0) ⟨Nat.zero_le _, Nat.zero_le _, by dsimp only; rw [List.drop_zero]; exact hr⟩ (by dsimp only; exact (vm [(0, _), (1, _)] [])) ?_
 rintro ⟨k, t⟩ ⟨hk, ht, hR⟩
 obtain ⟨sender, seq, gas, fee, memo, trs⟩ := t
 try dsimp only
 dsimp only at hk ht hR
 refine go1 ?_
 ((with_reducible apply c_cond); (case he => exact rfl); (all_goals intro h))
 ·have hk' : k < l.length := by have := of_decide_eq_true h; omega
  have hok := hl _ (List.getElem_mem hk')
  have hel := flds_at hk'
  rw [List.drop_eq_getElem_cons hk'] at hR
  generalize l[k] = f at *
  obtain ⟨num, kind, val, bytes⟩ := f
  replace hel : idxL (l.map fldM) l.length (k : Int) = some (.st [.int .i64 num, .int .i64 kind, .int .u64 val, .sl bytes.length (u8s bytes)]) := hel
  have hel := SomF.mk hel
  have hby := SomF.mk (bytesM_u8 bytes)
  rw [rdTxS] at hR
  dsimp only at hR hok
  by_cases g1 : num = 1 ∧ kind = 2
  ·rw [if_pos g1] at hR
   obtain ⟨rfl, rfl⟩ := g1
   (iterate 4 ((all_goals (refine go1 ?_)); (all_goals (first | ((first | ((with_reducible apply n_grd); (case hf => exact ⟨rfl, rfl, rfl⟩)) | ((with_reducible apply c_cond); (case he => exact rfl))); (all_goals intro h); (all_goals (try simp only [bx] at h)); (all_goals (try (exfalso; omega)))) | skip))))
   exact ⟨(k + 1, ⟨bytes, seq, gas, fee, memo, trs⟩), ⟨by dsimp only; omega, by dsimp only; omega, hR⟩, by show l.length - (k + 1) < l.length - k; omega, (by dsimp only; exact (vm [(0, _), (1, _), (2, _)] []))⟩
  rw [if_neg g1] at hR
  by_cases g2 : num = 2 ∧ kind = 0
  ·rw [if_pos g2] at hR
   obtain ⟨rfl, rfl⟩ := g2
   (iterate 6 ((all_goals (refine go1 ?_)); (all_goals (first | ((first | ((with_reducible apply n_grd); (case hf => exact ⟨rfl, rfl, rfl⟩)) | ((with_reducible apply c_cond); (case he => exact rfl))); (all_goals intro h); (all_goals (try simp only [bx] at h)); (all_goals (try (exfalso; omega)))) | skip))))
   exact ⟨(k + 1, ⟨sender, val, gas, fee, memo, trs⟩), ⟨by dsimp only; omega, by dsimp only; omega, hR⟩, by show l.length - (k + 1) < l.length - k; omega, (by dsimp only; exact (vm [(0, _), (1, _), (2, _)] []))⟩
  rw [if_neg g2] at hR
  by_cases g3 : num = 3 ∧ kind = 0
  ·rw [if_pos g3] at hR
   obtain ⟨rfl, rfl⟩ := g3
   (iterate 8 ((all_goals (refine go1 ?_)); (all_goals (first | ((first | ((with_reducible apply n_grd); (case hf => exact ⟨rfl, rfl, rfl⟩)) | ((with_reducible apply c_cond); (case he => exact rfl))); (all_goals intro h); (all_goals (try simp only [bx] at h)); (all_goals (try (exfalso; omega)))) | skip))))
   exact ⟨(k + 1, ⟨sender, seq, val, fee, memo, trs⟩), ⟨by dsimp only; omega, by dsimp only; omega, hR⟩, by show l.length - (k + 1) < l.length - k; omega, (by dsimp only; exact (vm [(0, _), (1, _), (2, _)] []))⟩
  rw [if_neg g3] at hR
  by_cases g4 : num = 4 ∧ kind = 0
  ·rw [if_pos g4] at hR
   obtain ⟨rfl, rfl⟩ := g4
   (iterate 10 ((all_goals (refine go1 ?_)); (all_goals (first | ((first | ((with_reducible apply n_grd); (case hf => exact ⟨rfl, rfl, rfl⟩)) | ((with_reducible apply c_cond); (case he => exact rfl))); (all_goals intro h); (all_goals (try simp only [bx] at h)); (all_goals (try (exfalso; omega)))) | skip))))
   exact ⟨(k + 1, ⟨sender, seq, gas, val, memo, trs⟩), ⟨by dsimp only; omega, by dsimp only; omega, hR⟩, by show l.length - (k + 1) < l.length - k; omega, (by dsimp only; exact (vm [(0, _), (1, _), (2, _)] []))⟩
  rw [if_neg g4] at hR
  by_cases g5 : num = 5 ∧ kind = 2
  ·rw [if_pos g5] at hR
   obtain ⟨rfl, rfl⟩ := g5
   (iterate 12 ((all_goals (refine go1 ?_)); (all_goals (first | ((first | ((with_reducible apply n_grd); (case hf => exact ⟨rfl, rfl, rfl⟩)) | ((with_reducible apply c_cond); (case he => exact rfl))); (all_goals intro h); (all_goals (try simp only [bx] at h)); (all_goals (try (exfalso; omega)))) | skip))))
   exact ⟨(k + 1, ⟨sender, seq, gas, fee, bytes, trs⟩), ⟨by dsimp only; omega, by dsimp only; omega, hR⟩, by show l.length - (k + 1) < l.length - k; omega, (by dsimp only; exact (vm [(0, _), (1, _), (2, _)] []))⟩
  rw [if_neg g5] at hR
  by_cases g6 : num = 6 ∧ kind = 2
  ·rw [if_pos g6] at hR
   obtain ⟨rfl, rfl⟩ := g6
   have c1 := transfer_r (G := G) bytes hok.2
   generalize transferS bytes = q at *
   obtain ⟨x, b⟩ := q
   dsimp only at c1 hR
   cases b with
   | false =>
    rw [if_neg (by simp)] at hR
    simp only [Prod.mk.injEq] at hR
    obtain ⟨rfl, rfl⟩ := hR
    (iterate 16 ((all_goals (refine go1 ?_)); (all_goals (first | (refine g_call3 rfl (fun _ h => h) rfl (c1) rfl rfl ?_) | ((first | ((with_reducible apply n_grd); (case hf => exact ⟨rfl, rfl, rfl⟩)) | ((with_reducible apply c_cond); (case he => exact rfl))); (all_goals intro h); (all_goals (try simp only [bx] at h)); (all_goals (try (exfalso; omega)))) | skip))))
    all_goals (refine go0 ?_; (refine ⟨[_, _], [], [(2, trs.length)], rfl, rfl, ?_, rfl, ⟨?_, ?_, trivial⟩, ?_⟩; (exact ⟨(show trs.length ≤ (trs.map trM).length by simp), trivial⟩); (exact .inr ⟨_, rfl, lm⟩); exact rv; exact mm))
   | true =>
    rw [if_pos rfl] at hR
    (iterate 10 ((all_goals (refine go1 ?_)); (all_goals (first | (refine g_call3 rfl (fun _ h => h) rfl (c1) rfl rfl ?_) | ((first | ((with_reducible apply n_grd); (case hf => exact ⟨rfl, rfl, rfl⟩)) | ((with_reducible apply c_cond); (case he => exact rfl))); (all_goals intro h); (all_goals (try simp only [bx] at h)); (all_goals (try (exfalso; omega)))) | skip))))
    ((with_reducible apply g_mem); (case hq => exact rfl); (case hv => exact rfl); (case he => (intro R hR; refine sms hR ?_; (refine And.intro (Nat.le_refl _) ?_; refine ⟨_, rfl, ?_⟩; refine And.intro ⟨(by simp), app_ok (by kernel_rfl) pf⟩ ?_; refine ⟨(trs ++ [x]).map trM, sv (by simp; rfl), trs.length + 1, sv pf, ?_⟩); exact hR)); (case hd => exact rfl))
    refine go1 ?_
    exact ⟨(k + 1, ⟨sender, seq, gas, fee, memo, trs ++ [x]⟩), ⟨by dsimp only; omega, by dsimp only; rw [List.length_append, List.length_singleton]; omega, hR⟩, by show l.length - (k + 1) < l.length - k; omega, (by dsimp only; rw [List.length_append, List.length_singleton]; exact (vm [(0, _), (1, _), (2, _)] []))⟩
  ·rw [if_neg g6] at hR
   simp only [Prod.mk.injEq] at hR
   obtain ⟨rfl, rfl⟩ := hR
   (iterate 14 ((all_goals (refine go1 ?_)); (all_goals (first | ((first | ((with_reducible apply n_grd); (case hf => exact ⟨rfl, rfl, rfl⟩)) | ((with_reducible apply c_cond); (case he => exact rfl))); (all_goals intro h); (all_goals (try simp only [bx] at h)); (all_goals (try (exfalso; omega)))) | skip))))
   all_goals (refine go0 ?_; (refine ⟨[_, _], [], [(2, trs.length)], rfl, rfl, ?_, rfl, ⟨?_, ?_, trivial⟩, ?_⟩; (exact ⟨(show trs.length ≤ (trs.map trM).length by simp), trivial⟩); (exact .inr ⟨_, rfl, lm⟩); exact rv; exact mm))
 ·have hk' : k = l.length := by have := of_decide_eq_false h; omega
  subst hk'
  rw [List.drop_length, rdTxS] at hR
  simp only [Prod.mk.injEq] at hR
  obtain ⟨rfl, rfl⟩ := hR
  refine go1 ?_
  all_goals (refine go0 ?_; (refine ⟨[_, _], [], [(2, trs.length)], rfl, rfl, ?_, rfl, ⟨?_, ?_, trivial⟩, ?_⟩; (exact ⟨(show trs.length ≤ (trs.map trM).length by simp), trivial⟩); (exact .inr ⟨_, rfl, lm⟩); exact rv; exact mm))
end
section
variable {G : GS}
attribute [local irreducible] vOpsN vOpsG vOpsD vOpGD NextD vC SeqQ BlockQ
def decodeTxS (raw : List UInt8) : TxS × Nat :=
 if 4096 < raw.length then (tx0, 3) else
 if (fieldsS raw).2.2 ≠ 0 ∨ (rdTxS (fieldsS raw).1 tx0).2 = false ∨ formS (rdTxS (fieldsS raw).1 tx0).1 ≠ raw then (tx0, 4) else
 if validTxS (rdTxS (fieldsS raw).1 tx0).1 ≠ 0 then (tx0, validTxS (rdTxS (fieldsS raw).1 tx0).1) else ((rdTxS (fieldsS raw).1 tx0).1, 0)
theorem tx0_sm : SmTx tx0 := ⟨by simp [tx0], by simp [tx0, U64], by simp [tx0, U64], by simp [tx0, U64], by simp [tx0], by simp [tx0], by simp [tx0]⟩
theorem rd_sm {raw : List UInt8} (h : raw.length ≤ 4096) : SmTx (rdTxS (fieldsS raw).1 tx0).1 := by
 have hf := fields_ok raw
 refine rdTxS_sm _ tx0 (fun f hm => ⟨(hf.1 f hm).1, by have := (hf.1 f hm).2; omega⟩) ?_ tx0_sm
 show 0 + _ ≤ _
 omega
theorem decodeTx_r (raw : List UInt8) (hraw : raw.length ≤ 140737488355328) : SemR Tryz.prog G 91 [.sl raw.length (u8s raw)] [] 0 (.tup [txM (decodeTxS raw).1, .int .i64 (decodeTxS raw).2]) [] 0 := by
 generalize hr : decodeTxS raw = r
 obtain ⟨R, code⟩ := r
 dsimp only
 unfold decodeTxS at hr
 by_cases h1 : 4096 < raw.length
 ·rw [if_pos h1] at hr
  simp only [Prod.mk.injEq] at hr
  obtain ⟨rfl, rfl⟩ := hr
  refine srq seat Tryz.func91 46 ?_
  refine go1 ?_
  (iterate 4 ((all_goals (refine go1 ?_)); (all_goals (first | ((first | ((with_reducible apply n_grd); (case hf => exact ⟨rfl, rfl, rfl⟩)) | ((with_reducible apply c_cond); (case he => exact rfl))); (all_goals intro h); (all_goals (try simp only [bx] at h)); (all_goals (try (exfalso; omega)))) | skip))))
  all_goals (refine go0 ?_; (refine ⟨[_, _], [], [], rfl, rfl, trivial, rfl, ⟨?_, ?_, trivial⟩, ?_⟩; (exact .inr ⟨_, rfl, lm⟩); exact rv; exact mm))
 rw [if_neg h1] at hr
 have c1 := fields_r (G := G) raw (by omega)
 have hf := fields_ok raw
 have c2 := read_r (G := G) (fieldsS raw).1 (fun f hm => ⟨(hf.1 f hm).1, by have := (hf.1 f hm).2; omega⟩) hf.2
 have hsm := rd_sm (raw := raw) (by omega)
 have c3 := form_r (G := G) _ hsm
 have c4 := sameB_m (G := G) (formS (rdTxS (fieldsS raw).1 tx0).1) raw
 have c5 := validTx_m (G := G) _ hsm
 clear hf hsm
 generalize fieldsS raw = F at *
 obtain ⟨l, at_, e⟩ := F
 dsimp only at c1 c2 c3 c4 c5 hr
 generalize rdTxS l tx0 = T at *
 obtain ⟨t, ok⟩ := T
 dsimp only at c1 c2 c3 c4 c5 hr
 generalize formS t = fs at *
 generalize validTxS t = vt at *
 have hb : (fs == raw) = true ↔ fs = raw := by simp
 generalize (fs == raw) = b at *
 by_cases he : e = 0
 ·subst he
  cases ok with
  | false =>
   rw [if_pos (by simp)] at hr
   simp only [Prod.mk.injEq] at hr
   obtain ⟨rfl, rfl⟩ := hr
   refine srq seat Tryz.func91 46 ?_
   refine go1 ?_
   (iterate 12 ((all_goals (refine go1 ?_)); (all_goals (first | (refine g_call3 rfl (fun _ h => h) rfl (c1) rfl rfl ?_) | (refine g_call3 rfl (fun _ h => h) rfl (c2) rfl rfl ?_) | (refine g_call3 rfl (fun _ h => h) rfl (c3) rfl rfl ?_) | (refine g_call3 rfl (fun _ h => h) rfl (semR_of_semC (c4)) rfl rfl ?_) | (refine g_call3 rfl (fun _ h => h) rfl (semR_of_semC (c5)) rfl rfl ?_) | ((first | ((with_reducible apply n_grd); (case hf => exact ⟨rfl, rfl, rfl⟩)) | ((with_reducible apply c_cond); (case he => exact rfl))); (all_goals intro h); (all_goals (try simp only [bx] at h)); (all_goals (try (exfalso; omega)))) | skip))))
   all_goals (refine go0 ?_; (refine ⟨[_, _], [], [], rfl, rfl, trivial, rfl, ⟨?_, ?_, trivial⟩, ?_⟩; (exact .inr ⟨_, rfl, lm⟩); exact rv; exact mm))
  | true =>
   cases b with
   | false =>
    have hne : fs ≠ raw := fun e => by have := hb.2 e; simp at this
    rw [if_pos (by simp [hne])] at hr
    simp only [Prod.mk.injEq] at hr
    obtain ⟨rfl, rfl⟩ := hr
    refine srq seat Tryz.func91 46 ?_
    refine go1 ?_
    (iterate 12 ((all_goals (refine go1 ?_)); (all_goals (first | (refine g_call3 rfl (fun _ h => h) rfl (c1) rfl rfl ?_) | (refine g_call3 rfl (fun _ h => h) rfl (c2) rfl rfl ?_) | (refine g_call3 rfl (fun _ h => h) rfl (c3) rfl rfl ?_) | (refine g_call3 rfl (fun _ h => h) rfl (semR_of_semC (c4)) rfl rfl ?_) | (refine g_call3 rfl (fun _ h => h) rfl (semR_of_semC (c5)) rfl rfl ?_) | ((first | ((with_reducible apply n_grd); (case hf => exact ⟨rfl, rfl, rfl⟩)) | ((with_reducible apply c_cond); (case he => exact rfl))); (all_goals intro h); (all_goals (try simp only [bx] at h)); (all_goals (try (exfalso; omega)))) | skip))))
    all_goals (refine go0 ?_; (refine ⟨[_, _], [], [], rfl, rfl, trivial, rfl, ⟨?_, ?_, trivial⟩, ?_⟩; (exact .inr ⟨_, rfl, lm⟩); exact rv; exact mm))
   | true =>
    have heq : fs = raw := hb.1 rfl
    rw [if_neg (by simp [heq])] at hr
    by_cases hv : vt = 0
    ·subst hv
     rw [if_neg (by simp)] at hr
     simp only [Prod.mk.injEq] at hr
     obtain ⟨rfl, rfl⟩ := hr
     refine srq seat Tryz.func91 46 ?_
     refine go1 ?_
     (iterate 12 ((all_goals (refine go1 ?_)); (all_goals (first | (refine g_call3 rfl (fun _ h => h) rfl (c1) rfl rfl ?_) | (refine g_call3 rfl (fun _ h => h) rfl (c2) rfl rfl ?_) | (refine g_call3 rfl (fun _ h => h) rfl (c3) rfl rfl ?_) | (refine g_call3 rfl (fun _ h => h) rfl (semR_of_semC (c4)) rfl rfl ?_) | (refine g_call3 rfl (fun _ h => h) rfl (semR_of_semC (c5)) rfl rfl ?_) | ((first | ((with_reducible apply n_grd); (case hf => exact ⟨rfl, rfl, rfl⟩)) | ((with_reducible apply c_cond); (case he => exact rfl))); (all_goals intro h); (all_goals (try simp only [bx] at h)); (all_goals (try (exfalso; omega)))) | skip))))
     all_goals (refine go0 ?_; (refine ⟨[_, _], [], [], rfl, rfl, trivial, rfl, ⟨?_, ?_, trivial⟩, ?_⟩; (exact .inr ⟨_, rfl, lm⟩); exact rv; exact mm))
    ·rw [if_pos hv] at hr
     simp only [Prod.mk.injEq] at hr
     obtain ⟨rfl, rfl⟩ := hr
     refine srq seat Tryz.func91 46 ?_
     refine go1 ?_
     (iterate 12 ((all_goals (refine go1 ?_)); (all_goals (first | (refine g_call3 rfl (fun _ h => h) rfl (c1) rfl rfl ?_) | (refine g_call3 rfl (fun _ h => h) rfl (c2) rfl rfl ?_) | (refine g_call3 rfl (fun _ h => h) rfl (c3) rfl rfl ?_) | (refine g_call3 rfl (fun _ h => h) rfl (semR_of_semC (c4)) rfl rfl ?_) | (refine g_call3 rfl (fun _ h => h) rfl (semR_of_semC (c5)) rfl rfl ?_) | ((first | ((with_reducible apply n_grd); (case hf => exact ⟨rfl, rfl, rfl⟩)) | ((with_reducible apply c_cond); (case he => exact rfl))); (all_goals intro h); (all_goals (try simp only [bx] at h)); (all_goals (try (exfalso; omega)))) | skip))))
     all_goals (refine go0 ?_; (refine ⟨[_, _], [], [], rfl, rfl, trivial, rfl, ⟨?_, ?_, trivial⟩, ?_⟩; (exact .inr ⟨_, rfl, lm⟩); exact rv; exact mm))
 ·rw [if_pos (.inl he)] at hr
  simp only [Prod.mk.injEq] at hr
  obtain ⟨rfl, rfl⟩ := hr
  refine srq seat Tryz.func91 46 ?_
  refine go1 ?_
  (iterate 12 ((all_goals (refine go1 ?_)); (all_goals (first | (refine g_call3 rfl (fun _ h => h) rfl (c1) rfl rfl ?_) | (refine g_call3 rfl (fun _ h => h) rfl (c2) rfl rfl ?_) | (refine g_call3 rfl (fun _ h => h) rfl (c3) rfl rfl ?_) | (refine g_call3 rfl (fun _ h => h) rfl (semR_of_semC (c4)) rfl rfl ?_) | (refine g_call3 rfl (fun _ h => h) rfl (semR_of_semC (c5)) rfl rfl ?_) | ((first | ((with_reducible apply n_grd); (case hf => exact ⟨rfl, rfl, rfl⟩)) | ((with_reducible apply c_cond); (case he => exact rfl))); (all_goals intro h); (all_goals (try simp only [bx] at h)); (all_goals (try (exfalso; omega)))) | skip))))
  all_goals (refine go0 ?_; (refine ⟨[_, _], [], [], rfl, rfl, trivial, rfl, ⟨?_, ?_, trivial⟩, ?_⟩; (exact .inr ⟨_, rfl, lm⟩); exact rv; exact mm))
end
section
variable {G : GS}
attribute [local irreducible] vOpsN vOpsG vOpsD vOpGD NextD vC SeqQ BlockQ
structure AcS where
 name : List UInt8
 bal : Nat
 seq : Nat
def acM (a : AcS) : MV := .st [.str a.name, .int .u64 a.bal, .int .u64 a.seq]
def SmAc (a : AcS) : Prop := a.name.length ≤ 5000 ∧ U64 a.bal ∧ U64 a.seq
def ac0 : AcS := ⟨[], 0, 0⟩
structure LgS where
 acs : List AcS
 col : Nat
def lgM (l : LgS) : MV := .st [.sl l.acs.length (l.acs.map acM), .int .u64 l.col]
def addS (a b : Nat) : Nat × Bool := if a + b < 18446744073709551616 then (a + b, true) else (0, false)
theorem acs_at {l : List AcS} {k : Nat} (hk : k < l.length) : idxL (l.map acM) l.length (k : Int) = some (acM l[k]) := index_at hk (by simp [hk])
theorem add_m (a b : Nat) (ha : U64 a) (hb : U64 b) : SemC Tryz.prog G 127 [.int .u64 a, .int .u64 b] (.tup [.int .u64 (addS a b).1, .bool (addS a b).2]) := by
 unfold U64 at ha hb
 generalize hr : addS a b = r
 obtain ⟨R, okk⟩ := r
 unfold addS at hr
 dsimp only
 split at hr
 ·rename_i h
  simp only [Prod.mk.injEq] at hr
  obtain ⟨rfl, rfl⟩ := hr
  refine scq seat Tryz.func127 13 ?_
  refine go1 ?_
  (iterate 4 ((all_goals (refine go1 ?_)); (all_goals (first | ((first | ((with_reducible apply n_grd); (case hf => exact ⟨rfl, rfl, rfl⟩)) | ((with_reducible apply c_cond); (case he => exact rfl))); (all_goals intro h); (all_goals (try simp only [bx] at h)); (all_goals (try (exfalso; omega)))) | skip))))
  all_goals (refine go0 ?_)
  all_goals rfl
 ·rename_i h
  simp only [Prod.mk.injEq] at hr
  obtain ⟨rfl, rfl⟩ := hr
  refine scq seat Tryz.func127 13 ?_
  refine go1 ?_
  (iterate 4 ((all_goals (refine go1 ?_)); (all_goals (first | ((first | ((with_reducible apply n_grd); (case hf => exact ⟨rfl, rfl, rfl⟩)) | ((with_reducible apply c_cond); (case he => exact rfl))); (all_goals intro h); (all_goals (try simp only [bx] at h)); (all_goals (try (exfalso; omega)))) | skip))))
  all_goals (refine go0 ?_)
  all_goals rfl
def findS (name : List UInt8) : List AcS → Nat → Int
 | [], _ => -1
 | a :: r, i => if a.name = name then i else findS name r (i + 1)
theorem find_m (l : List AcS) (name : List UInt8) (hl : l.length ≤ 1000000) : SemC Tryz.prog G 80 [.sl l.length (l.map acM), .str name] (.int .i64 (findS name l 0)) := by
 generalize hr : findS name l 0 = R
 refine scq seat Tryz.func80 20 ?_
 refine go1 ?_
 refine c_loop Nat (fun k => [(9, .int .i64 k), (8, .int .i64 l.length), (7, .sl l.length (l.map acM)), (1, .str name)]) (fun _ => []) 0 (fun k => k ≤ l.length ∧ findS name (l.drop k) k = R) (fun k => l.length - k) 0 ⟨Nat.zero_le _, by rw [List.drop_zero]; exact hr⟩ (vm [] []) ?_
 rintro k ⟨hk, hR⟩
 try dsimp only
 refine go1 ?_
 ((with_reducible apply c_cond); (case he => exact rfl); (all_goals intro h))
 ·have hk' : k < l.length := by have := of_decide_eq_true h; omega
  have hel := acs_at hk'
  rw [List.drop_eq_getElem_cons hk', findS] at hR
  generalize l[k] = a at *
  obtain ⟨nm, bal, seq⟩ := a
  replace hel : idxL (l.map acM) l.length (k : Int) = some (.st [.str nm, .int .u64 bal, .int .u64 seq]) := hel
  have hel := SomF.mk hel
  dsimp only at hR
  by_cases he : nm = name
  ·rw [if_pos he] at hR
   subst he
   subst hR
   refine goe1 ?_
   refine go0 ?_
   rfl
  ·rw [if_neg he] at hR
   refine go1 ?_
   ((with_reducible apply c_cond); (case he => exact rfl); (all_goals intro h))
   ·exact absurd (eq_of_beq h) he
   ·refine go1 ?_
    exact ⟨k + 1, ⟨by show k + 1 ≤ l.length; omega, hR⟩, by show l.length - (k + 1) < l.length - k; omega, (by dsimp only; exact (vm [] []))⟩
 ·have hk' : k = l.length := by have := of_decide_eq_false h; omega
  subst hk'
  rw [List.drop_length, findS] at hR
  subst hR
  refine go1 ?_
  refine go0 ?_
  rfl
end
section
variable {G : GS}
attribute [local irreducible] vOpsN vOpsG vOpsD vOpGD NextD vC SeqQ BlockQ
def limS (n : Int) : Nat := (max 0 (min n 1073741824)).toNat
theorem limited_m (n : Int) (hn : -9223372036854775808 ≤ n ∧ n < 9223372036854775808) : SemC Tryz.prog G 204 [.int .i64 n] (.int .u64 (limS n)) := by
 refine scq seat Tryz.func204 7 ?_
 refine go1 ?_
 refine go0 ?_
 refine congrArg (MV.int .u64) ?_
 unfold limS
 split <;> split <;> omega
def mulS (a b : Nat) : Nat × Bool := if a * b < 18446744073709551616 then (a * b, true) else (0, false)
theorem mul_m (a b : Nat) (ha : U64 a) (hb : U64 b) : SemC Tryz.prog G 205 [.int .u64 a, .int .u64 b] (.tup [.int .u64 (mulS a b).1, .bool (mulS a b).2]) := by
 unfold U64 at ha hb
 have hq : 0 < a → (18446744073709551615 / a < b ↔ 18446744073709551615 < b * a) := fun h => Nat.div_lt_iff_lt_mul h
 have hm : a = 0 → a * b = 0 := fun h => by rw [h, Nat.zero_mul]
 rw [Nat.mul_comm b a] at hq
 have f1 := EqF.mk (show IntKind.u64.wrap ((18446744073709551615 : Int).tdiv (a : Int)) = ((18446744073709551615 / a : Nat) : Int) from tdivn (a := 18446744073709551615) a (by omega))
 have f2 : a * b < 18446744073709551616 → IntKind.u64.wrap ((a : Int) * (b : Int)) = ((a * b : Nat) : Int) := fun h => by
  rw [← Int.natCast_mul]
  exact wrapu_in _ (by omega) (by omega)
 have hz : (18446744073709551615 / a : Nat) < 18446744073709551616 := Nat.lt_of_le_of_lt (Nat.div_le_self _ _) (by omega)
 generalize hr : mulS a b = r
 obtain ⟨R, okk⟩ := r
 unfold mulS at hr
 generalize a * b = m at *
 generalize 18446744073709551615 / a = q at *
 dsimp only
 by_cases h : m < 18446744073709551616
 ·rw [if_pos h] at hr
  simp only [Prod.mk.injEq] at hr
  obtain ⟨rfl, rfl⟩ := hr
  have f2 := EqF.mk (f2 h)
  refine scq seat Tryz.func205 17 ?_
  refine go1 ?_
  (iterate 6 ((all_goals (refine go1 ?_)); (all_goals (first | ((first | ((with_reducible apply n_grd); (case hf => exact ⟨rfl, rfl, rfl⟩)) | ((with_reducible apply c_cond); (case he => exact rfl))); (all_goals intro h); (all_goals (try simp only [bx] at h)); (all_goals (try (exfalso; omega)))) | skip))))
  all_goals (refine go0 ?_)
  all_goals rfl
 ·rw [if_neg h] at hr
  simp only [Prod.mk.injEq] at hr
  obtain ⟨rfl, rfl⟩ := hr
  refine scq seat Tryz.func205 17 ?_
  refine go1 ?_
  (iterate 6 ((all_goals (refine go1 ?_)); (all_goals (first | ((first | ((with_reducible apply n_grd); (case hf => exact ⟨rfl, rfl, rfl⟩)) | ((with_reducible apply c_cond); (case he => exact rfl))); (all_goals intro h); (all_goals (try simp only [bx] at h)); (all_goals (try (exfalso; omega)))) | skip))))
  all_goals (refine go0 ?_)
  all_goals rfl
def usedS (size trs : Int) : Nat := 50 + limS size + 20 * limS trs
theorem used_m (x y : Int) (hx : -9223372036854775808 ≤ x ∧ x < 9223372036854775808) (hy : -9223372036854775808 ≤ y ∧ y < 9223372036854775808) : SemC Tryz.prog G 144 [.int .i64 x, .int .i64 y] (.int .u64 (usedS x y)) := by
 have c1 := limited_m (G := G) x hx
 have c2 := limited_m (G := G) y hy
 have l1 : limS x ≤ 1073741824 := by unfold limS; omega
 have l2 : limS y ≤ 1073741824 := by unfold limS; omega
 unfold usedS
 generalize limS x = u at *
 generalize limS y = v at *
 refine scq seat Tryz.func144 13 ?_
 refine go1 ?_
 (iterate 4 ((all_goals (refine go1 ?_)); (all_goals (first | (refine g_call3 rfl (fun _ h => h) rfl (semR_of_semC (c1)) rfl rfl ?_) | (refine g_call3 rfl (fun _ h => h) rfl (semR_of_semC (c2)) rfl rfl ?_) | ((first | ((with_reducible apply n_grd); (case hf => exact ⟨rfl, rfl, rfl⟩)) | ((with_reducible apply c_cond); (case he => exact rfl))); (all_goals intro h); (all_goals (try simp only [bx] at h)); (all_goals (try (exfalso; omega)))) | skip))))
 all_goals (refine go0 ?_)
 refine congrArg (MV.int .u64) ?_
 omega
end
section
variable {G : GS}
attribute [local irreducible] vOpsN vOpsG vOpsD vOpGD NextD vC SeqQ BlockQ
def getS (l : List AcS) (name : List UInt8) : AcS × Bool := match l.find? (fun a => decide (a.name = name)) with
 | some a => (a, true)
 | none => (ac0, false)
theorem findS_spec (name : List UInt8) : ∀ (l : List AcS) (i : Nat), (findS name l i = -1 ∧ l.find? (fun a => decide (a.name = name)) = none) ∨ ∃ k a, findS name l i = ((i + k : Nat) : Int) ∧ l[k]? = some a ∧ l.find? (fun a => decide (a.name = name)) = some a
 | [], i => .inl ⟨rfl, rfl⟩
 | a :: r, i => by
  by_cases h : a.name = name
  ·exact .inr ⟨0, a, by rw [findS, if_pos h]; rfl, rfl, by simp [h]⟩
  ·have hf : (a :: r).find? (fun a => decide (a.name = name)) = r.find? (fun a => decide (a.name = name)) := by simp [h]
   rw [findS, if_neg h, hf]
   rcases findS_spec name r (i + 1) with h1 | ⟨k, b, h1, h2, h3⟩
   ·exact .inl h1
   ·exact .inr ⟨k + 1, b, by rw [h1]; omega, by simpa using h2, h3⟩
theorem get_m (l : List AcS) (col : Nat) (name : List UInt8) (hl : l.length ≤ 1000000) : SemC Tryz.prog G 143 [.st [.sl l.length (l.map acM), .int .u64 col], .str name] (.tup [acM (getS l name).1, .bool (getS l name).2]) := by
 have c1 := find_m (G := G) l name hl
 rcases findS_spec name l 0 with ⟨h1, h2⟩ | ⟨k, a, h1, h2, h3⟩
 ·rw [h1] at c1
  have e : getS l name = (ac0, false) := by unfold getS; rw [h2]
  rw [e]
  refine scq seat Tryz.func143 19 ?_
  refine go1 ?_
  (iterate 6 ((all_goals (refine go1 ?_)); (all_goals (first | (refine g_call3 rfl (fun _ h => h) rfl (semR_of_semC (c1)) rfl rfl ?_) | ((first | ((with_reducible apply n_grd); (case hf => exact ⟨rfl, rfl, rfl⟩)) | ((with_reducible apply c_cond); (case he => exact rfl))); (all_goals intro h); (all_goals (try simp only [bx] at h)); (all_goals (try (exfalso; omega)))) | skip))))
  all_goals (refine go0 ?_)
  all_goals rfl
 ·rw [h1, Nat.zero_add] at c1
  have e : getS l name = (a, true) := by unfold getS; rw [h3]
  rw [e]
  obtain ⟨hk, ha⟩ := List.getElem?_eq_some_iff.1 h2
  have hel := acs_at hk
  rw [ha] at hel
  obtain ⟨nm, bal, seq⟩ := a
  replace hel : idxL (l.map acM) l.length (k : Int) = some (.st [.str nm, .int .u64 bal, .int .u64 seq]) := hel
  have hel := SomF.mk hel
  clear h1 h2 h3 e ha
  refine scq seat Tryz.func143 19 ?_
  refine go1 ?_
  (iterate 6 ((all_goals (refine go1 ?_)); (all_goals (first | (refine g_call3 rfl (fun _ h => h) rfl (semR_of_semC (c1)) rfl rfl ?_) | ((first | ((with_reducible apply n_grd); (case hf => exact ⟨rfl, rfl, rfl⟩)) | ((with_reducible apply c_cond); (case he => exact rfl))); (all_goals intro h); (all_goals (try simp only [bx] at h)); (all_goals (try (exfalso; omega)))) | skip))))
  all_goals (refine go0 ?_)
  all_goals rfl
def totS : List AcS → Nat → Nat × Bool
 | [], s => (s, true)
 | a :: r, s => if (addS s a.bal).2 then totS r (addS s a.bal).1 else (0, false)
theorem addS_u64 {a b : Nat} : U64 (addS a b).1 := by
 unfold addS U64
 split
 ·assumption
 ·show 0 < _; omega
theorem total_m (l : List AcS) (col : Nat) (hc : U64 col) (hl : l.length ≤ 1000000) (hs : ∀ a ∈ l, U64 a.bal) : SemC Tryz.prog G 82 [.st [.sl l.length (l.map acM), .int .u64 col]] (.tup [.int .u64 (totS l col).1, .bool (totS l col).2]) := by
 generalize hr : totS l col = r
 obtain ⟨R, okk⟩ := r
 dsimp only
 refine scq seat Tryz.func82 30 ?_
 refine go1 ?_
 refine c_loop (Nat × Nat) (fun x => [(14, .int .i64 x.1), (13, .int .i64 l.length), (12, .sl l.length (l.map acM)), (4, .int .u64 x.2)]) (fun _ => []) 0 (fun x => x.1 ≤ l.length ∧ U64 x.2 ∧ totS (l.drop x.1) x.2 = (R, okk)) (fun x => l.length - x.1) (0, col) ⟨Nat.zero_le _, hc, by rw [List.drop_zero]; exact hr⟩ (by dsimp only; exact (vm [] [])) ?_
 rintro ⟨k, s⟩ ⟨hk, hsU, hR⟩
 try dsimp only
 dsimp only at hk hsU hR
 refine go1 ?_
 ((with_reducible apply c_cond); (case he => exact rfl); (all_goals intro h))
 ·have hk' : k < l.length := by have := of_decide_eq_true h; omega
  have hel := acs_at hk'
  have hb := hs _ (List.getElem_mem hk')
  rw [List.drop_eq_getElem_cons hk', totS] at hR
  generalize l[k] = a at *
  obtain ⟨nm, bal, seq⟩ := a
  replace hel : idxL (l.map acM) l.length (k : Int) = some (.st [.str nm, .int .u64 bal, .int .u64 seq]) := hel
  have hel := SomF.mk hel
  dsimp only at hR hb
  have c1 := add_m (G := G) s bal hsU hb
  have hU := @addS_u64 s bal
  generalize addS s bal = p at *
  obtain ⟨v, b⟩ := p
  dsimp only at c1 hR hU
  cases b with
  | true =>
   rw [if_pos rfl] at hR
   refine go1 ?_
   (iterate 6 ((all_goals (refine go1 ?_)); (all_goals (first | (refine g_call3 rfl (fun _ h => h) rfl (semR_of_semC (c1)) rfl rfl ?_) | ((first | ((with_reducible apply n_grd); (case hf => exact ⟨rfl, rfl, rfl⟩)) | ((with_reducible apply c_cond); (case he => exact rfl))); (all_goals intro h); (all_goals (try simp only [bx] at h)); (all_goals (try (exfalso; omega)))) | skip))))
   exact ⟨(k + 1, v), ⟨by show k + 1 ≤ l.length; omega, hU, hR⟩, by show l.length - (k + 1) < l.length - k; omega, (by dsimp only; exact (vm [] []))⟩
  | false =>
   rw [if_neg (by simp)] at hR
   simp only [Prod.mk.injEq] at hR
   obtain ⟨rfl, rfl⟩ := hR
   refine go1 ?_
   (iterate 6 ((all_goals (refine go1 ?_)); (all_goals (first | (refine g_call3 rfl (fun _ h => h) rfl (semR_of_semC (c1)) rfl rfl ?_) | ((first | ((with_reducible apply n_grd); (case hf => exact ⟨rfl, rfl, rfl⟩)) | ((with_reducible apply c_cond); (case he => exact rfl))); (all_goals intro h); (all_goals (try simp only [bx] at h)); (all_goals (try (exfalso; omega)))) | skip))))
   all_goals (refine go0 ?_)
   all_goals rfl
 ·have hk' : k = l.length := by have := of_decide_eq_false h; omega
  subst hk'
  rw [List.drop_length, totS] at hR
  simp only [Prod.mk.injEq] at hR
  obtain ⟨rfl, rfl⟩ := hR
  refine go1 ?_
  refine go0 ?_
  rfl
end
section
variable {G : GS}
attribute [local irreducible] vOpsN vOpsG vOpsD vOpGD NextD vC SeqQ BlockQ
def insA (a : AcS) : List AcS → List AcS
 | [] => [a]
 | b :: r => if Op.bytesLess b.name a.name then b :: insA a r else a :: b :: r
def putS (a : AcS) (l : List AcS) : List AcS := if 0 ≤ findS a.name l 0 then l.set (findS a.name l 0).toNat a else insA a l
theorem insA_at (a : AcS) : ∀ (l : List AcS) (k : Nat), k ≤ l.length → (∀ j (hj : j < l.length), j < k → Op.bytesLess l[j].name a.name = true) → (∀ hk : k < l.length, Op.bytesLess l[k].name a.name = false) → insA a l = l.take k ++ a :: l.drop k
 | [], k, h, _, _ => by
  have : k = 0 := by simpa using h
  subst this; rfl
 | b :: r, 0, _, _, h2 => by
  have := h2 (by simp)
  simp only [List.getElem_cons_zero] at this
  rw [insA, if_neg (by rw [this]; simp)]
  rfl
 | b :: r, k + 1, h, h1, h2 => by
  have hb := h1 0 (by simp) (by omega)
  simp only [List.getElem_cons_zero] at hb
  rw [insA, if_pos hb, insA_at a r k (by simpa using h) (fun j hj hjk => by have := h1 (j + 1) (by simpa using hj) (by omega); simpa using this) (fun hk => by have := h2 (by simpa using hk); simpa using this)]
  rfl
theorem head_ac (l : List AcS) : headSize (l.map acM) 3 = true := by cases l <;> rfl
theorem insA_len (a : AcS) : ∀ l, (insA a l).length = l.length + 1
 | [] => rfl
 | b :: r => by
  rw [insA]
  split
  ·simp [insA_len a r]
  ·simp
theorem putS_len (a : AcS) (l : List AcS) : (putS a l).length ≤ l.length + 1 := by
 unfold putS
 split
 ·simp
 ·rw [insA_len]; omega
theorem put_r (a : AcS) (l : List AcS) (hl : l.length ≤ 1000000) : SemR Tryz.prog G 81 [.sl l.length (l.map acM), acM a] [] 0 (.sl (putS a l).length ((putS a l).map acM)) [] 0 := by
 have c1 := find_m (G := G) l a.name hl
 obtain ⟨nm, bal, seq⟩ := a
 dsimp only at c1
 have hspec := findS_spec nm l 0
 have hput : putS ⟨nm, bal, seq⟩ l = if 0 ≤ findS nm l 0 then l.set (findS nm l 0).toNat ⟨nm, bal, seq⟩ else insA ⟨nm, bal, seq⟩ l := rfl
 by_cases hf : findS nm l 0 = -1
 ·rw [hf] at c1 hput
  rw [if_neg (by omega)] at hput
  rw [hput]
  clear hspec hf hput
  have hins := insA_at ⟨nm, bal, seq⟩ l
  have hil := insA_len ⟨nm, bal, seq⟩ l
  dsimp only at hins
  generalize insA ⟨nm, bal, seq⟩ l = Z at *
  refine srq seat Tryz.func81 50 ?_
  refine go1 ?_
  (iterate 3 ((all_goals (refine go1 ?_)); (all_goals (first | (refine g_call3 rfl (fun _ h => h) rfl (semR_of_semC (c1)) rfl rfl ?_) | ((first | ((with_reducible apply n_grd); (case hf => exact ⟨rfl, rfl, rfl⟩)) | ((with_reducible apply c_cond); (case he => exact rfl))); (all_goals intro h); (all_goals (try simp only [bx] at h)); (all_goals (try (exfalso; omega)))) | skip))))
  refine c_loop Nat (fun k => [(7, .int .i64 k), (3, .ptr 0 3 0 0 []), (0, .sl l.length (l.map acM))]) (fun _ => [(0, ⟨91, 3, false, 0, [.st [.str nm, .int .u64 bal, .int .u64 seq]]⟩)]) 1 (fun k => k ≤ l.length ∧ ∀ j (hj : j < l.length), j < k → Op.bytesLess l[j].name nm = true) (fun k => l.length - k) 0 ⟨Nat.zero_le _, fun j hj h => absurd h (Nat.not_lt_zero _)⟩ (vm [(0, _)] []) ?_
  rintro k ⟨hki, hpre⟩
  try dsimp only
  have step : ∀ hk : k < l.length, Op.bytesLess l[k].name nm = true → (k + 1 ≤ l.length ∧ ∀ j (hj : j < l.length), j < k + 1 → Op.bytesLess l[j].name nm = true) := fun hk hb => ⟨by omega, fun j hj hjk => by
   rcases Nat.lt_or_ge j k with h | h
   ·exact hpre j hj h
   ·have : j = k := by omega
    subst this; exact hb⟩
  have done : (∀ hk : k < l.length, Op.bytesLess l[k].name nm = false) → Z = l.take k ++ ⟨nm, bal, seq⟩ :: l.drop k := fun h => hins k hki hpre h
  clear hins
  refine go1 ?_
  refine c_draw [(0, false), (1, false), (2, false), (3, false), (4, false), (5, false), (6, false), (7, false), (8, false), (9, false), (10, false), (11, false), (12, false), (13, false)] ?_
  refine go1 ?_
  ((with_reducible apply d_guard); (case hs => exact rfl); (case hv => exact rfl); (case hd => exact rfl); (all_goals intro h))
  ·have hk : k < l.length := by have := of_decide_eq_true h; omega
   have hel := acs_at hk
   replace step := step hk
   generalize he : l[k] = b at *
   obtain ⟨nm', bal', seq'⟩ := b
   replace hel : idxL (l.map acM) l.length (k : Int) = some (.st [.str nm', .int .u64 bal', .int .u64 seq']) := hel
   have hel := SomF.mk hel
   dsimp only at step
   refine go1 ?_
   ((with_reducible apply c_cond); (case he => exact rfl); (all_goals intro h))
   ·refine go1 ?_
    exact ⟨k + 1, step h, by show l.length - (k + 1) < l.length - k; omega, (by dsimp only; exact (vm [(0, _)] []))⟩
   ·have hfin := done (fun _ => by rw [he]; exact h)
    have fb1 := SomF.mk (bndHi (κ := .i64) hki)
    have fb2 := SomF.mk (bndLo (κ := .i64) hki)
    have fb3 := SideF.mk (head_ac l)
    refine go1 ?_
    refine c_draw [(0, false), (1, false), (2, false), (3, false), (4, false), (5, false), (6, false), (7, false), (8, false), (9, false), (10, false), (11, false), (12, false)] ?_
    refine go1 ?_
    ((with_reducible apply gd_mem); (case hv => exact rfl); (case he => (intro R hR; refine sms hR ?_; refine And.intro ((by show headSize (cutL _ 0 k) 3 = true; rw [cut_take]; exact head_ac _)) ?_; refine And.intro ⟨rfl, app_ok (by kernel_rfl) pf⟩ ?_; refine ⟨(l.take k).map acM, sv (by show [] ++ cutL _ 0 k = _; rw [List.nil_append, cut_take]), k, sv pf, ?_⟩; exact hR)); (case hd => exact rfl))
    refine go1 ?_
    ((with_reducible apply gd_mem); (case hv => exact rfl); (case he => (intro R hR; refine sms hR ?_; (refine And.intro (Nat.le_refl _) ?_; refine ⟨_, rfl, ?_⟩; refine And.intro ⟨(by simp <;> omega), app_ok (by kernel_rfl) pf⟩ ?_; refine ⟨(l.take k ++ [(⟨nm, bal, seq⟩ : AcS)]).map acM, sv (by simp; rfl), k+1, sv pf, ?_⟩); exact hR)); (case hd => exact rfl))
    refine go1 ?_
    ((with_reducible apply gd_mem); (case hv => exact rfl); (case he => (intro R hR; refine sms hR ?_; refine And.intro ((by show headSize (cutL _ k l.length) 3 = true; rw [cut_drop]; exact head_ac _)) ?_; refine And.intro ⟨(by simp <;> omega), app_ok (by kernel_rfl) pf⟩ ?_; refine ⟨Z.map acM, sv (by rw [hfin]; show _ ++ cutL _ k l.length = _; rw [cut_drop]; simp), Z.length, sv pf, ?_⟩; exact hR)); (case hd => exact rfl))
    refine go1 ?_
    refine ⟨[_], [], [(26, Z.length)], rfl, rfl, ?_, rfl, ⟨?_, trivial⟩, ?_⟩
    ·exact ⟨by show Z.length ≤ (Z.map acM).length; simp, trivial⟩
    ·exact .inr ⟨rfl, rfl, rfl, Nat.le_of_eq (Nat.zero_add _), cut_all acM Z⟩
    ·exact mm
  ·have hk : k = l.length := by have := of_decide_eq_false h; omega
   have hfin := done (fun h => absurd h (by omega))
   refine go1 ?_
   have fb1 := SomF.mk (bndHi (κ := .i64) hki)
   have fb2 := SomF.mk (bndLo (κ := .i64) hki)
   have fb3 := SideF.mk (head_ac l)
   refine go1 ?_
   refine c_draw [(0, false), (1, false), (2, false), (3, false), (4, false), (5, false), (6, false), (7, false), (8, false), (9, false), (10, false), (11, false), (12, false)] ?_
   refine go1 ?_
   ((with_reducible apply gd_mem); (case hv => exact rfl); (case he => (intro R hR; refine sms hR ?_; refine And.intro ((by show headSize (cutL _ 0 k) 3 = true; rw [cut_take]; exact head_ac _)) ?_; refine And.intro ⟨rfl, app_ok (by kernel_rfl) pf⟩ ?_; refine ⟨(l.take k).map acM, sv (by show [] ++ cutL _ 0 k = _; rw [List.nil_append, cut_take]), k, sv pf, ?_⟩; exact hR)); (case hd => exact rfl))
   refine go1 ?_
   ((with_reducible apply gd_mem); (case hv => exact rfl); (case he => (intro R hR; refine sms hR ?_; (refine And.intro (Nat.le_refl _) ?_; refine ⟨_, rfl, ?_⟩; refine And.intro ⟨(by simp <;> omega), app_ok (by kernel_rfl) pf⟩ ?_; refine ⟨(l.take k ++ [(⟨nm, bal, seq⟩ : AcS)]).map acM, sv (by simp; rfl), k+1, sv pf, ?_⟩); exact hR)); (case hd => exact rfl))
   refine go1 ?_
   ((with_reducible apply gd_mem); (case hv => exact rfl); (case he => (intro R hR; refine sms hR ?_; refine And.intro ((by show headSize (cutL _ k l.length) 3 = true; rw [cut_drop]; exact head_ac _)) ?_; refine And.intro ⟨(by simp <;> omega), app_ok (by kernel_rfl) pf⟩ ?_; refine ⟨Z.map acM, sv (by rw [hfin]; show _ ++ cutL _ k l.length = _; rw [cut_drop]; simp), Z.length, sv pf, ?_⟩; exact hR)); (case hd => exact rfl))
   refine go1 ?_
   refine ⟨[_], [], [(26, Z.length)], rfl, rfl, ?_, rfl, ⟨?_, trivial⟩, ?_⟩
   ·exact ⟨by show Z.length ≤ (Z.map acM).length; simp, trivial⟩
   ·exact .inr ⟨rfl, rfl, rfl, Nat.le_of_eq (Nat.zero_add _), cut_all acM Z⟩
   ·exact mm
 ·obtain ⟨k, b, h1, h2, _⟩ := hspec.resolve_left (fun h => hf h.1)
  have hk := (List.getElem?_eq_some_iff.1 h2).1
  rw [h1] at c1 hput
  rw [if_pos (by omega), Int.toNat_natCast, Nat.zero_add] at hput
  rw [Nat.zero_add] at c1
  rw [hput]
  clear h1 h2 hspec hf hput
  rw [List.length_set]
  have f1 := SomF.mk (idx_at hk)
  have hrow : nthM (l.map acM) (0 + k) = some (acM l[k]) := by rw [nthM_eq, Nat.zero_add]; simp [hk]
  generalize l[k] = b' at hrow
  obtain ⟨nm', bal', seq'⟩ := b'
  have hrow := SomF.mk (show nthM (l.map acM) (0 + k) = some (.st [.str nm', .int .u64 bal', .int .u64 seq']) from hrow)
  refine srq seat Tryz.func81 50 ?_
  refine go1 ?_
  (iterate 3 ((all_goals (refine go1 ?_)); (all_goals (first | (refine g_call3 rfl (fun _ h => h) rfl (semR_of_semC (c1)) rfl rfl ?_) | ((first | ((with_reducible apply n_grd); (case hf => exact ⟨rfl, rfl, rfl⟩)) | ((with_reducible apply c_cond); (case he => exact rfl))); (all_goals intro h); (all_goals (try simp only [bx] at h)); (all_goals (try (exfalso; omega)))) | skip))))
  ((with_reducible apply g_mem); (case hq => exact rfl); (case hv => exact rfl); (case he => (intro R hR; refine sms hR ?_; refine And.intro ((head_ac l)) ?_; refine And.intro ⟨rfl, app_ok (by kernel_rfl) pf⟩ ?_; refine ⟨l.map acM, sv (by show [] ++ l.map acM = _; rw [List.nil_append]), l.length, sv pf, ?_⟩; exact hR)); (case hd => exact rfl))
  refine go1 ?_
  refine ⟨[_], [], [(10, l.length)], rfl, rfl, ?_, rfl, ⟨?_, trivial⟩, ?_⟩
  ·exact ⟨by show l.length ≤ (setL (l.map acM) (0 + k) _).length; rw [setL_eq]; simp, trivial⟩
  ·refine .inr ⟨rfl, rfl, rfl, Nat.le_of_eq (Nat.zero_add _), ?_⟩
   show cutL (setL (l.map acM) (0 + k) (acM ⟨nm, bal, seq⟩)) 0 (0 + l.length) = (l.set k ⟨nm, bal, seq⟩).map acM
   rw [setL_eq, Nat.zero_add, ← List.map_set, cut_take, Nat.zero_add]
   rw [List.take_of_length_le (by rw [List.length_set]; omega)]
  ·exact mm
end
section
variable {G : GS}
attribute [local irreducible] vOpsN vOpsG vOpsD vOpGD NextD vC SeqQ BlockQ
def sumG : List Nat → Nat → Nat × Bool
 | [], s => (s, true)
 | x :: r, s => if (addS s x).2 then sumG r (addS s x).1 else (0, false)
def u64s (l : List Nat) : List MV := l.map fun (n : Nat) => MV.int .u64 (n : Int)
theorem u64s_at {l : List Nat} {k : Nat} (hk : k < l.length) : idxL (u64s l) l.length (k : Int) = some (.int .u64 (l[k] : Int)) := index_at hk (by simp [u64s, hk])
theorem shrD32 (m : Nat) : ((m : Int).fdiv (2 ^ (min (32 : Int).toNat IntKind.u64.bits))) = ((m / 4294967296 : Nat) : Int) := by
 rw [show min (32 : Int).toNat IntKind.u64.bits = 32 by rfl, Int.fdiv_eq_ediv_of_nonneg _ (by decide)]
 exact (Int.natCast_ediv m 4294967296).symm
theorem and_low {m : Nat} (hm : m < 18446744073709551616) : IntKind.u64.wrap ((BitVec.ofInt IntKind.u64.bits (m : Int) &&& BitVec.ofInt IntKind.u64.bits (4294967295 : Int)).toNat : Int) = ((m % 4294967296 : Nat) : Int) := by
 have e := Nat.and_two_pow_sub_one_eq_mod m 32
 rw [BitVec.toNat_and, bv_of _ _ (show m < 2 ^ IntKind.u64.bits from hm), show (4294967295 : Int) = ((4294967295 : Nat) : Int) by rfl, bv_of _ _ (show 4294967295 < 2 ^ IntKind.u64.bits by decide), show (4294967295 : Nat) = 2 ^ 32 - 1 by rfl, e, wu64]
 omega
theorem or_low {h l : Nat} (hh : h < 4294967296) (hl : l < 4294967296) : IntKind.u64.wrap ((BitVec.ofInt IntKind.u64.bits ((h * 4294967296 : Nat) : Int) ||| BitVec.ofInt IntKind.u64.bits (l : Int)).toNat : Int) = ((h * 4294967296 + l : Nat) : Int) := by
 have e : h * 4294967296 ||| l = h * 4294967296 + l := by
  have := Nat.shiftLeft_add_eq_or_of_lt (i := 32) hl h
  rw [Nat.shiftLeft_eq] at this
  exact this.symm
 rw [BitVec.toNat_or, bv_of _ _ (show h * 4294967296 < 2 ^ IntKind.u64.bits by show _ < 18446744073709551616; omega), bv_of _ _ (show l < 2 ^ IntKind.u64.bits by show _ < 18446744073709551616; omega), e, wu64]
 omega
theorem shlD32 (m : Nat) : IntKind.u64.wrap ((m : Int) * 2 ^ (min (32 : Int).toNat IntKind.u64.bits)) = ((m % 4294967296 * 4294967296 : Nat) : Int) := by
 rw [show min (32 : Int).toNat IntKind.u64.bits = 32 by rfl, wu64]
 omega
def mulDivS (a b c : Nat) : Nat × Bool := if c = 0 ∨ c ≤ a * b / 18446744073709551616 then (0, false) else (a * b / c, true)
theorem mul_hl (a b : Nat) (ha : U64 a) (hb : U64 b) : ∃ w p q r : Nat, a / 4294967296 * (b / 4294967296) = w ∧ a % 4294967296 * (b % 4294967296) = p ∧ a / 4294967296 * (b % 4294967296) = q ∧ a % 4294967296 * (b / 4294967296) = r ∧ w < 18446744065119617026 ∧ p < 18446744065119617026 ∧ q < 18446744065119617026 ∧ r < 18446744065119617026 ∧ a * b = w * 18446744073709551616 + (q + r) * 4294967296 + p ∧ a * b / 18446744073709551616 < 18446744073709551616 := by
 unfold U64 at ha hb
 have b1 : ∀ x y : Nat, x ≤ 4294967295 → y ≤ 4294967295 → x * y < 18446744065119617026 := fun x y hx hy => by
  have := Nat.mul_le_mul hx hy
  omega
 refine ⟨_, _, _, _, rfl, rfl, rfl, rfl, b1 _ _ (by omega) (by omega), b1 _ _ (by omega) (by omega), b1 _ _ (by omega) (by omega), b1 _ _ (by omega) (by omega), ?_, ?_⟩
 ·have e1 : a = a / 4294967296 * 4294967296 + a % 4294967296 := by omega
  have e2 : b = b / 4294967296 * 4294967296 + b % 4294967296 := by omega
  generalize a / 4294967296 = x at *
  generalize a % 4294967296 = y at *
  generalize b / 4294967296 = u at *
  generalize b % 4294967296 = v at *
  subst e1
  subst e2
  rw [Nat.add_mul, Nat.mul_add, Nat.mul_add, Nat.add_mul]
  have h1 : x * 4294967296 * (u * 4294967296) = x * u * 18446744073709551616 := by rw [Nat.mul_mul_mul_comm]
  have h2 : x * 4294967296 * v = x * v * 4294967296 := by rw [Nat.mul_right_comm]
  have h3 : y * (u * 4294967296) = y * u * 4294967296 := by rw [Nat.mul_assoc]
  rw [h1, h2, h3]
  omega
 ·rw [Nat.div_lt_iff_lt_mul (by omega)]
  have := Nat.mul_le_mul (show a ≤ 18446744073709551615 by omega) (show b ≤ 18446744073709551615 by omega)
  omega
theorem product_m (a b : Nat) (ha : U64 a) (hb : U64 b) : SemC Tryz.prog G 206 [.int .u64 a, .int .u64 b] (.tup [.int .u64 (a * b / 18446744073709551616 : Nat), .int .u64 (a * b % 18446744073709551616 : Nat)]) := by
 obtain ⟨w, p, q, r, hw, hp, hq, hr, bw, bp, bq, br, hab, hhi⟩ := mul_hl a b ha hb
 unfold U64 at ha hb
 have mk : ∀ x y z : Nat, x * y = z → z < 18446744065119617026 → IntKind.u64.wrap ((x : Int) * (y : Int)) = (z : Int) := fun x y z h hz => by
  rw [← Int.natCast_mul, h]
  exact wrapu_in _ (by omega) (by omega)
 have m1 := EqF.mk (mk _ _ _ hw bw)
 have m2 := EqF.mk (mk _ _ _ hp bp)
 have m3 := EqF.mk (mk _ _ _ hq bq)
 have m4 := EqF.mk (mk _ _ _ hr br)
 have s1 := EqF.mk (shrD32 a)
 have s2 := EqF.mk (shrD32 b)
 have s3 := EqF.mk (shrD32 p)
 have s4 := EqF.mk (shrD32 q)
 have s5 := EqF.mk (shrD32 r)
 have l1 := EqF.mk (and_low (m := a) ha)
 have l2 := EqF.mk (and_low (m := b) hb)
 have l3 := EqF.mk (and_low (m := p) (by omega))
 have l4 := EqF.mk (and_low (m := q) (by omega))
 have l5 := EqF.mk (and_low (m := r) (by omega))
 clear hw hp hq hr mk
 generalize a * b = n at *
 subst hab
 have hm : p / 4294967296 + q % 4294967296 + r % 4294967296 < 18446744073709551616 := by omega
 have a1 := EqF.mk (show IntKind.u64.wrap (((p / 4294967296 : Nat) : Int) + ((q % 4294967296 : Nat) : Int)) = ((p / 4294967296 + q % 4294967296 : Nat) : Int) from wrapu_in _ (by omega) (by omega))
 have a2 := EqF.mk (show IntKind.u64.wrap (((p / 4294967296 + q % 4294967296 : Nat) : Int) + ((r % 4294967296 : Nat) : Int)) = ((p / 4294967296 + q % 4294967296 + r % 4294967296 : Nat) : Int) from wrapu_in _ (by omega) (by omega))
 have s6 := EqF.mk (shrD32 (p / 4294967296 + q % 4294967296 + r % 4294967296))
 have s7 := EqF.mk (shlD32 (p / 4294967296 + q % 4294967296 + r % 4294967296))
 have o1 := EqF.mk (or_low (h := (p / 4294967296 + q % 4294967296 + r % 4294967296) % 4294967296) (l := p % 4294967296) (by omega) (by omega))
 refine scq seat Tryz.func206 56 ?_
 refine go1 ?_
 (iterate 4 ((all_goals (refine go1 ?_)); (all_goals (first | ((first | ((with_reducible apply n_grd); (case hf => exact ⟨rfl, rfl, rfl⟩)) | ((with_reducible apply c_cond); (case he => exact rfl))); (all_goals intro h); (all_goals (try simp only [bx] at h)); (all_goals (try (exfalso; omega)))) | skip))))
 all_goals (refine go0 ?_)
 refine congrArg MV.tup ?_
 refine List.cons_eq_cons.2 ⟨congrArg (MV.int .u64) ?_, List.cons_eq_cons.2 ⟨congrArg (MV.int .u64) ?_, rfl⟩⟩
 ·omega
 ·omega
theorem shr63 (m : Nat) : ((m : Int).fdiv (2 ^ (min (63 : Int).toNat IntKind.u64.bits))) = ((m / 9223372036854775808 : Nat) : Int) := by
 rw [show min (63 : Int).toNat IntKind.u64.bits = 63 by rfl, Int.fdiv_eq_ediv_of_nonneg _ (by decide)]
 exact (Int.natCast_ediv m 9223372036854775808).symm
theorem shri (m : Nat) {i : Nat} (hi : i < 64) : ((m : Int).fdiv (2 ^ (min (i : Int).toNat IntKind.u64.bits))) = ((m / 2 ^ i : Nat) : Int) := by
 rw [show min (i : Int).toNat IntKind.u64.bits = i by rw [Int.toNat_natCast]; exact Nat.min_eq_left (Nat.le_of_lt hi), Int.fdiv_eq_ediv_of_nonneg _ (by exact Int.le_of_lt (Int.pow_pos (by decide)))]
 rw [Int.natCast_ediv, Int.natCast_pow]; rfl
theorem and1 {m : Nat} (hm : m < 18446744073709551616) : IntKind.u64.wrap ((BitVec.ofInt IntKind.u64.bits (m : Int) &&& BitVec.ofInt IntKind.u64.bits (1 : Int)).toNat : Int) = ((m % 2 : Nat) : Int) := by
 have e := Nat.and_two_pow_sub_one_eq_mod m 1
 rw [BitVec.toNat_and, bv_of _ _ (show m < 2 ^ IntKind.u64.bits from hm), show (1 : Int) = ((1 : Nat) : Int) by rfl, bv_of _ _ (show 1 < 2 ^ IntKind.u64.bits by decide), show (1 : Nat) = 2 ^ 1 - 1 by rfl, e, wu64]
 omega
theorem shl1_64 (m : Nat) : IntKind.u64.wrap ((m : Int) * 2 ^ (min (1 : Int).toNat IntKind.u64.bits)) = ((2 * m % 18446744073709551616 : Nat) : Int) := by
 rw [show min (1 : Int).toNat IntKind.u64.bits = 1 by rfl, wu64]
 omega
theorem or_bit {m b : Nat} (hm : m % 2 = 0) (hb : b < 2) (h : m < 18446744073709551616) : IntKind.u64.wrap ((BitVec.ofInt IntKind.u64.bits (m : Int) ||| BitVec.ofInt IntKind.u64.bits (b : Int)).toNat : Int) = ((m + b : Nat) : Int) := by
 have e : m ||| b = m + b := by
  have := Nat.shiftLeft_add_eq_or_of_lt (i := 1) hb (m / 2)
  rw [Nat.shiftLeft_eq, show m / 2 * 2 ^ 1 = m by omega] at this
  exact this.symm
 rw [BitVec.toNat_or, bv_of _ _ (show m < 2 ^ IntKind.u64.bits from h), bv_of _ _ (show b < 2 ^ IntKind.u64.bits by show _ < 18446744073709551616; omega), e, wu64]
 omega
theorem or_one {m : Nat} (hm : m % 2 = 0) (h : m < 18446744073709551616) : IntKind.u64.wrap ((BitVec.ofInt IntKind.u64.bits (m : Int) ||| BitVec.ofInt IntKind.u64.bits (1 : Int)).toNat : Int) = ((m + 1 : Nat) : Int) := or_bit (b := 1) hm (by omega) h
theorem md_step {N c i out rest bit : Nat} (hb : N / 2 ^ i % 2 = bit) (h : N / 2 ^ (i + 1) = c * out + rest) : N / 2 ^ i = c * (2 * out) + (2 * rest + bit) := by
 have e : N / 2 ^ (i + 1) = N / 2 ^ i / 2 := by rw [Nat.pow_succ, Nat.div_div_eq_div_mul]
 rw [e] at h
 rw [show c * (2 * out) = 2 * (c * out) by rw [Nat.mul_left_comm]]
 omega
theorem low_bit (N : Nat) {i : Nat} (hi : i < 64) : N % 18446744073709551616 / 2 ^ i % 2 = N / 2 ^ i % 2 := by
 have h1 := Nat.testBit_mod_two_pow N 64 i
 rw [Nat.testBit_eq_decide_div_mod_eq, Nat.testBit_eq_decide_div_mod_eq, decide_eq_true hi, Bool.true_and, decide_eq_decide] at h1
 have e : (2 : Nat) ^ 64 = 18446744073709551616 := by rfl
 rw [e] at h1
 omega
theorem mulDiv_m (a b c : Nat) (ha : U64 a) (hb : U64 b) (hc : U64 c) : SemC Tryz.prog G 146 [.int .u64 a, .int .u64 b, .int .u64 c] (.tup [.int .u64 (mulDivS a b c).1, .bool (mulDivS a b c).2]) := by
 have c1 := product_m (G := G) a b ha hb
 obtain ⟨_, _, _, _, _, _, _, _, _, _, _, _, _, hhi⟩ := mul_hl a b ha hb
 unfold U64 at ha hb hc
 generalize hr : mulDivS a b c = r
 obtain ⟨R, okk⟩ := r
 dsimp only
 unfold mulDivS at hr
 have hlow := fun i hi => low_bit (a * b) (i := i) hi
 have hlt : (a * b) % 18446744073709551616 < 18446744073709551616 := Nat.mod_lt _ (by omega)
 by_cases h0 : c = 0 ∨ c ≤ a * b / 18446744073709551616
 ·rw [if_pos h0] at hr
  simp only [Prod.mk.injEq] at hr
  obtain ⟨rfl, rfl⟩ := hr
  generalize a * b / 18446744073709551616 = hi at *
  refine scq seat Tryz.func146 54 ?_
  refine go1 ?_
  (iterate 6 ((all_goals (refine go1 ?_)); (all_goals (first | (refine g_call3 rfl (fun _ h => h) rfl (semR_of_semC (c1)) rfl rfl ?_) | ((first | ((with_reducible apply n_grd); (case hf => exact ⟨rfl, rfl, rfl⟩)) | ((with_reducible apply c_cond); (case he => exact rfl))); (all_goals intro h); (all_goals (try simp only [bx] at h)); (all_goals (try (exfalso; omega)))) | skip))))
  all_goals (refine go0 ?_)
  all_goals rfl
 ·rw [if_neg h0] at hr
  simp only [Prod.mk.injEq] at hr
  obtain ⟨rfl, rfl⟩ := hr
  have hbig : a * b < 18446744073709551616 * c := by rw [Nat.mul_comm 18446744073709551616 c]; exact (Nat.div_lt_iff_lt_mul (by omega)).1 (by omega)
  generalize a * b = N at *
  generalize hhi' : N / 18446744073709551616 = hi at *
  generalize N % 18446744073709551616 = low at *
  have hi0 : N / 2 ^ 64 = c * 0 + hi := by rw [Nat.mul_zero, Nat.zero_add]; exact hhi'
  have hc0 : 0 < c := by omega
  refine scq seat Tryz.func146 54 ?_
  refine go1 ?_
  (iterate 6 ((all_goals (refine go1 ?_)); (all_goals (first | (refine g_call3 rfl (fun _ h => h) rfl (semR_of_semC (c1)) rfl rfl ?_) | ((first | ((with_reducible apply n_grd); (case hf => exact ⟨rfl, rfl, rfl⟩)) | ((with_reducible apply c_cond); (case he => exact rfl))); (all_goals intro h); (all_goals (try simp only [bx] at h)); (all_goals (try (exfalso; omega)))) | skip))))
  refine c_loop (Nat × Nat × Nat) (fun x => [(11, .int .i64 ((x.1 : Int) - 1)), (10, .int .u64 x.2.2), (9, .int .u64 low), (8, .int .u64 x.2.1), (2, .int .u64 c)]) (fun _ => []) 0 (fun x => x.1 ≤ 64 ∧ x.2.1 < c ∧ N / 2 ^ x.1 = c * x.2.2 + x.2.1) (fun x => x.1) (64, hi, 0) ⟨by dsimp only; omega, by dsimp only; omega, hi0⟩ (by dsimp only; exact (vm [] [])) ?_
  rintro ⟨j, rest, out⟩ ⟨hj, hrest, hq⟩
  try dsimp only
  dsimp only at hj hrest hq
  cases j with
  | zero =>
   rw [Nat.pow_zero, Nat.div_one] at hq
   have hout : N / c = out := by rw [hq, Nat.mul_add_div hc0, Nat.div_eq_of_lt hrest, Nat.add_zero]
   rw [hout]
   refine go1 ?_
   (iterate 4 ((all_goals (refine go1 ?_)); (all_goals (first | ((first | ((with_reducible apply n_grd); (case hf => exact ⟨rfl, rfl, rfl⟩)) | ((with_reducible apply c_cond); (case he => exact rfl))); (all_goals intro h); (all_goals (try simp only [bx] at h)); (all_goals (try (exfalso; omega)))) | skip))))
   all_goals (refine go0 ?_)
   all_goals rfl
  | succ i =>
   have hi6 : i < 64 := by omega
   have hcast : ((i + 1 : Nat) : Int) - 1 = (i : Int) := by omega
   rw [hcast]
   obtain ⟨bit, hbit⟩ : ∃ bit, bit = low / 2 ^ i % 2 := ⟨_, rfl⟩
   have hb2 : bit < 2 := by omega
   have hstep := md_step (bit := bit) (by rw [hbit]; exact (hlow i hi6).symm) hq
   have hsm : low / 2 ^ i < 18446744073709551616 := Nat.lt_of_le_of_lt (Nat.div_le_self _ _) hlt
   have e1 := EqF.mk (shr63 rest)
   have e2 := EqF.mk (shl1_64 rest)
   have e3 := EqF.mk (shri low hi6)
   have e4 := EqF.mk (and1 hsm)
   rw [← hbit] at e4
   have e5 := EqF.mk (or_bit (m := 2 * rest % 18446744073709551616) (by omega) hb2 (by omega))
   have e6 := EqF.mk (shl1_64 out)
   have hcap : ∀ o r, N / 2 ^ i = c * o + r → o < 18446744073709551616 := fun o r h => by
    have h1 : N / 2 ^ i ≤ N := Nat.div_le_self _ _
    refine Nat.lt_of_mul_lt_mul_left (a := c) ?_
    rw [Nat.mul_comm c 18446744073709551616]
    omega
   have ho := hcap _ _ hstep
   by_cases hge : c ≤ 2 * rest + bit
   ·have h2 : N / 2 ^ i = c * (2 * out + 1) + (2 * rest + bit - c) := by rw [hstep, Nat.mul_add, Nat.mul_one]; omega
    have ho2 := hcap _ _ h2
    have e7 := EqF.mk (show IntKind.u64.wrap (((2 * rest % 18446744073709551616 + bit : Nat) : Int) - (c : Int)) = ((2 * rest + bit - c : Nat) : Int) by rw [wu64]; omega)
    have e8 := EqF.mk (or_one (m := 2 * out % 18446744073709551616) (by omega) (by omega))
    have e9 : 2 * out % 18446744073709551616 + 1 = 2 * out + 1 := by omega
    rw [e9] at e8
    have hlt2 : 2 * rest + bit - c < c := by omega
    clear hlow hbit hstep hcap hq
    generalize 2 * rest + bit - c = r2 at *
    generalize 2 * out + 1 = o2 at *
    refine go1 ?_
    (iterate 6 ((all_goals (refine go1 ?_)); (all_goals (first | ((first | ((with_reducible apply n_grd); (case hf => exact ⟨rfl, rfl, rfl⟩)) | ((with_reducible apply c_cond); (case he => exact rfl))); (all_goals intro h); (all_goals (try simp only [bx] at h)); (all_goals (try (exfalso; omega)))) | skip))))
    all_goals (exact ⟨(i, r2, o2), ⟨by dsimp only; omega, hlt2, h2⟩, by dsimp only; omega, (by dsimp only; exact (vm [] []))⟩)
   ·have e9 : 2 * out % 18446744073709551616 = 2 * out := by omega
    rw [e9] at e6
    have e10 : 2 * rest % 18446744073709551616 + bit = 2 * rest + bit := by omega
    rw [e10] at e5
    clear hlow hbit hcap hq
    refine go1 ?_
    (iterate 6 ((all_goals (refine go1 ?_)); (all_goals (first | ((first | ((with_reducible apply n_grd); (case hf => exact ⟨rfl, rfl, rfl⟩)) | ((with_reducible apply c_cond); (case he => exact rfl))); (all_goals intro h); (all_goals (try simp only [bx] at h)); (all_goals (try (exfalso; omega)))) | skip))))
    all_goals (exact ⟨(i, 2 * rest + bit, 2 * out), ⟨by dsimp only; omega, by dsimp only; omega, hstep⟩, by dsimp only; omega, (by dsimp only; exact (vm [] []))⟩)
def prioS (fee gas : Nat) : Nat := if gas = 0 then 0 else if (mulDivS fee 1000 gas).2 then (mulDivS fee 1000 gas).1 else 18446744073709551615
end
section
variable {G : GS}
attribute [local irreducible] vOpsN vOpsG vOpsD vOpGD NextD vC SeqQ BlockQ
theorem sum_m (l : List Nat) (hl : l.length ≤ 1000000) (hs : ∀ a ∈ l, U64 a) : SemC Tryz.prog G 147 [.sl l.length (u64s l)] (.tup [.int .u64 (sumG l 0).1, .bool (sumG l 0).2]) := by
 generalize hr : sumG l 0 = r
 obtain ⟨R, okk⟩ := r
 dsimp only
 refine scq seat Tryz.func147 26 ?_
 refine go1 ?_
 refine c_loop (Nat × Nat) (fun x => [(11, .int .i64 x.1), (10, .int .i64 l.length), (9, .sl l.length (u64s l)), (4, .int .u64 x.2)]) (fun _ => []) 0 (fun x => x.1 ≤ l.length ∧ U64 x.2 ∧ sumG (l.drop x.1) x.2 = (R, okk)) (fun x => l.length - x.1) (0, 0) ⟨Nat.zero_le _, by unfold U64; omega, by rw [List.drop_zero]; exact hr⟩ (by dsimp only; exact (vm [] [])) ?_
 rintro ⟨k, s⟩ ⟨hk, hsU, hR⟩
 try dsimp only
 dsimp only at hk hsU hR
 refine go1 ?_
 ((with_reducible apply c_cond); (case he => exact rfl); (all_goals intro h))
 ·have hk' : k < l.length := by have := of_decide_eq_true h; omega
  have hel := u64s_at hk'
  have hb := hs _ (List.getElem_mem hk')
  rw [List.drop_eq_getElem_cons hk', sumG] at hR
  generalize l[k] = a at *
  have hel := SomF.mk hel
  have c1 := add_m (G := G) s a hsU hb
  have hU := @addS_u64 s a
  generalize addS s a = p at *
  obtain ⟨v, b⟩ := p
  dsimp only at c1 hR hU
  cases b with
  | true =>
   rw [if_pos rfl] at hR
   refine go1 ?_
   (iterate 6 ((all_goals (refine go1 ?_)); (all_goals (first | (refine g_call3 rfl (fun _ h => h) rfl (semR_of_semC (c1)) rfl rfl ?_) | ((first | ((with_reducible apply n_grd); (case hf => exact ⟨rfl, rfl, rfl⟩)) | ((with_reducible apply c_cond); (case he => exact rfl))); (all_goals intro h); (all_goals (try simp only [bx] at h)); (all_goals (try (exfalso; omega)))) | skip))))
   exact ⟨(k + 1, v), ⟨by show k + 1 ≤ l.length; omega, hU, hR⟩, by show l.length - (k + 1) < l.length - k; omega, (by dsimp only; exact (vm [] []))⟩
  | false =>
   rw [if_neg (by simp)] at hR
   simp only [Prod.mk.injEq] at hR
   obtain ⟨rfl, rfl⟩ := hR
   refine go1 ?_
   (iterate 6 ((all_goals (refine go1 ?_)); (all_goals (first | (refine g_call3 rfl (fun _ h => h) rfl (semR_of_semC (c1)) rfl rfl ?_) | ((first | ((with_reducible apply n_grd); (case hf => exact ⟨rfl, rfl, rfl⟩)) | ((with_reducible apply c_cond); (case he => exact rfl))); (all_goals intro h); (all_goals (try simp only [bx] at h)); (all_goals (try (exfalso; omega)))) | skip))))
   all_goals (refine go0 ?_)
   all_goals rfl
 ·have hk' : k = l.length := by have := of_decide_eq_false h; omega
  subst hk'
  rw [List.drop_length, sumG] at hR
  simp only [Prod.mk.injEq] at hR
  obtain ⟨rfl, rfl⟩ := hR
  refine go1 ?_
  refine go0 ?_
  rfl
theorem prio_m (fee gas : Nat) (h1 : U64 fee) (h2 : U64 gas) : SemC Tryz.prog G 93 [.int .u64 fee, .int .u64 gas] (.int .u64 (prioS fee gas)) := by
 have c1 := mulDiv_m (G := G) fee 1000 gas h1 (by unfold U64; omega) h2
 unfold prioS
 generalize mulDivS fee 1000 gas = p at *
 obtain ⟨v, b⟩ := p
 dsimp only at c1 ⊢
 by_cases hg : gas = 0
 ·subst hg
  rw [if_pos rfl]
  refine scq seat Tryz.func93 17 ?_
  refine go1 ?_
  (iterate 6 ((all_goals (refine go1 ?_)); (all_goals (first | (refine g_call3 rfl (fun _ h => h) rfl (semR_of_semC (c1)) rfl rfl ?_) | ((first | ((with_reducible apply n_grd); (case hf => exact ⟨rfl, rfl, rfl⟩)) | ((with_reducible apply c_cond); (case he => exact rfl))); (all_goals intro h); (all_goals (try simp only [bx] at h)); (all_goals (try (exfalso; omega)))) | skip))))
  all_goals (refine go0 ?_)
  all_goals rfl
 ·rw [if_neg hg]
  cases b with
  | true =>
   rw [if_pos rfl]
   refine scq seat Tryz.func93 17 ?_
   refine go1 ?_
   (iterate 6 ((all_goals (refine go1 ?_)); (all_goals (first | (refine g_call3 rfl (fun _ h => h) rfl (semR_of_semC (c1)) rfl rfl ?_) | ((first | ((with_reducible apply n_grd); (case hf => exact ⟨rfl, rfl, rfl⟩)) | ((with_reducible apply c_cond); (case he => exact rfl))); (all_goals intro h); (all_goals (try simp only [bx] at h)); (all_goals (try (exfalso; omega)))) | skip))))
   all_goals (refine go0 ?_)
   all_goals rfl
  | false =>
   rw [if_neg (by simp)]
   refine scq seat Tryz.func93 17 ?_
   refine go1 ?_
   (iterate 6 ((all_goals (refine go1 ?_)); (all_goals (first | (refine g_call3 rfl (fun _ h => h) rfl (semR_of_semC (c1)) rfl rfl ?_) | ((first | ((with_reducible apply n_grd); (case hf => exact ⟨rfl, rfl, rfl⟩)) | ((with_reducible apply c_cond); (case he => exact rfl))); (all_goals intro h); (all_goals (try simp only [bx] at h)); (all_goals (try (exfalso; omega)))) | skip))))
   all_goals (refine go0 ?_)
   all_goals rfl
theorem need_m (a b : Nat) (ha : U64 a) (hb : U64 b) : SemC Tryz.prog G 145 [.int .u64 a, .int .u64 b] (.tup [.int .u64 (mulS a b).1, .bool (mulS a b).2]) := by
 have c1 := mul_m (G := G) a b ha hb
 generalize mulS a b = p at *
 obtain ⟨v, b⟩ := p
 dsimp only at c1 ⊢
 refine scq seat Tryz.func145 11 ?_
 refine go1 ?_
 (iterate 6 ((all_goals (refine go1 ?_)); (all_goals (first | (refine g_call3 rfl (fun _ h => h) rfl (semR_of_semC (c1)) rfl rfl ?_) | ((first | ((with_reducible apply n_grd); (case hf => exact ⟨rfl, rfl, rfl⟩)) | ((with_reducible apply c_cond); (case he => exact rfl))); (all_goals intro h); (all_goals (try simp only [bx] at h)); (all_goals (try (exfalso; omega)))) | skip))))
 all_goals (refine go0 ?_)
 all_goals rfl
def rawsM (l : List (List UInt8)) : MV := .sl l.length (l.map rawM)
end
end Go.Proofs.YtohikcplmbkmeaaGreatDoor
