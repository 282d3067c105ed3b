/- Parts of a proof, one behind the other: B1, B3, B5, H1, H2, B6, B7, C1, C2, C3, C4, D2, D3, D4, F1, F3, F4, G1. -/
import Derived.Test.YtdjcdmnemddjlaaGreatW03
set_option maxRecDepth 20000
set_option maxHeartbeats 16000000
set_option linter.unusedVariables false
set_option linter.unusedSimpArgs false
namespace Go.Proofs.YtdjcdmnemddjlaaGreat
open Go.RowKit
section
variable {G : GS}
theorem cv8 (m : Nat) : IntKind.u8.wrap (m : Int) = ((UInt8.ofNat m).toNat : Int) := by
 rw [w8, UInt8.toNat_ofNat']
 exact (Int.natCast_emod _ 256).symm
theorem u8_all {p : UInt8 → Prop} (h : ∀ n : Fin 256, p (UInt8.ofNat n.val)) (x : UInt8) : p x := by
 have := h ⟨x.toNat, x.toNat_lt⟩
 rwa [UInt8.ofNat_toNat] at this
theorem or128_all (x : UInt8) : x ||| 128 = UInt8.ofNat (x.toNat % 128 + 128) := u8_all (p := fun x => x ||| 128 = UInt8.ofNat (x.toNat % 128 + 128)) (by decide +kernel) x
theorem or8 (x y : UInt8) : IntKind.u8.wrap ((BitVec.ofInt IntKind.u8.bits (x.toNat : Int) ||| BitVec.ofInt IntKind.u8.bits (y.toNat : Int)).toNat : Int) = ((x ||| y).toNat : Int) := by
 have h := t8 (x ||| y)
 rw [BitVec.toNat_or, bv_of _ _ (t8 x), bv_of _ _ (t8 y), ← UInt8.toNat_or, w8]; omega
theorem or128 (m : Nat) : IntKind.u8.wrap ((BitVec.ofInt IntKind.u8.bits ((UInt8.ofNat m).toNat : Int) ||| BitVec.ofInt IntKind.u8.bits (128 : Int)).toNat : Int) = ((UInt8.ofNat (m % 128 + 128)).toNat : Int) := by
 have h := or8 (UInt8.ofNat m) 128
 rw [or128_all] at h
 rw [show (UInt8.ofNat m).toNat % 128 + 128 = m % 128 + 128 by rw [UInt8.toNat_ofNat']; omega] at h
 exact h
theorem shr7 (m : Nat) : ((m : Int).fdiv (2 ^ (min (7 : Int).toNat IntKind.u64.bits))) = ((m / 128 : Nat) : Int) := by
 rw [show min (7 : Int).toNat IntKind.u64.bits = 7 by rfl, Int.fdiv_eq_ediv_of_nonneg _ (by decide)]
 exact (Int.natCast_ediv m 128).symm
theorem varS_dec {p : List UInt8} {m n : Nat} (h : p ++ varS m = varS n) (hm : ¬ m < 128) : (p ++ [UInt8.ofNat (m % 128 + 128)]) ++ varS (m / 128) = varS n := by
 rw [varS_hi hm] at h
 rw [← h, List.append_assoc]; rfl
def rowB (l : List UInt8) : VM := [(0, ⟨5, 1, true, 0, u8s l⟩)]
theorem head_b : ∀ (b : List UInt8), headSize (u8s b) 1 = true
 | [] => rfl
 | _ :: _ => rfl
theorem p_len {p : List UInt8} {m n : Nat} (h : p ++ varS m = varS n) (hn : n < 18446744073709551616) : p.length ≤ 10 := by
 have := (varS_len10 hn).2
 rw [← h, List.length_append] at this
 omega
theorem varint_r (b : List UInt8) (n : Nat) (hb : b.length < 500000000) (hn : n < 18446744073709551616) :
  SemR Tryz.prog G 170 [.sl b.length (u8s b), .int .u64 n] [] 0 (.ms 0 1 0 (b.length + (varS n).length)) (rowB (b ++ varS n)) 1 := by
 unfold rowB
 refine srq seat Tryz.func170 24 ?_
 refine go1 ?_
 refine g_mem rfl rfl (by intro R hR; refine sms hR ?_; refine And.intro (head_b b) ?_; refine And.intro ⟨pf, app_ok (by kernel_rfl) pf⟩ ?_; refine ⟨u8s b, sv pf, b.length, sv pf, ?_⟩; exact hR) rfl ?_
 refine go1 ?_
 refine c_loop (List UInt8 × Nat) (fun x => [(5, .ms 0 1 0 (b.length + x.1.length)), (1, .int .u64 x.2)]) (fun x => [(0, ⟨5, 1, true, 0, u8s (b ++ x.1)⟩)]) 1 (fun x => x.1 ++ varS x.2 = varS n ∧ x.2 < 18446744073709551616) (fun x => x.2) ([], n) ⟨rfl, hn⟩ (by dsimp only; rw [List.length_nil, List.append_nil]; exact (vm [(0, _)] [])) ?_
 rintro ⟨p, m⟩ ⟨hp, hm1⟩
 try dsimp only
 dsimp only at hp hm1
 refine go1 ?_
 refine c_cond rfl (fun h => ?_) (fun h => ?_)
 ·have hm : ¬ m < 128 := by have := of_decide_eq_true h; omega
  have h2 := varS_dec hp hm
  have l2 := p_len hp hn
  (have fct := EqF.mk (cv8 m); have fct := EqF.mk (or128 m); have fct := EqF.mk (shr7 m); refine go1 ?_)
  refine g_mem rfl rfl (by intro R hR; refine sms hR ?_; (refine And.intro (Nat.le_refl _) ?_; refine ⟨_, rfl, ?_⟩; refine And.intro ⟨(by simp [u8s]), app_ok (by kernel_rfl) pf⟩ ?_; refine ⟨u8s (b ++ (p ++ [UInt8.ofNat (m % 128 + 128)])), sv (by simp [u8s, cutL, setL, repM]), b.length + (p.length + 1), sv pf, ?_⟩); exact hR) rfl ?_
  (have fct := EqF.mk (shr7 m); refine go1 ?_)
  exact ⟨(p ++ [UInt8.ofNat (m % 128 + 128)], m / 128), ⟨h2, by dsimp only; omega⟩, by dsimp only; omega, by dsimp only; rw [List.length_append, List.length_singleton]; exact (vm [(0, _)] [])⟩
 ·have hm : m < 128 := by have := of_decide_eq_false h; omega
  have l2 := p_len hp hn
  rw [varS_lo hm] at hp
  have l3 : (varS n).length = p.length + 1 := by rw [← hp]; simp
  (have fct := EqF.mk (cv8 m); refine go1 ?_)
  refine g_mem rfl rfl (by intro R hR; refine sms hR ?_; (refine And.intro (Nat.le_refl _) ?_; refine ⟨_, rfl, ?_⟩; refine And.intro ⟨(by simp [u8s]), app_ok (by kernel_rfl) pf⟩ ?_; refine ⟨u8s (b ++ varS n), sv (by rw [← hp]; simp [u8s, cutL, setL, repM]), b.length + (varS n).length, sv pf, ?_⟩); exact hR) rfl ?_
  refine go1 ?_
  exact eb [_] [(0, 7)] []
theorem pvarint_r (b : List UInt8) (n : Nat) (hb : b.length < 500000000) (hn : n < 18446744073709551616) :
  SemR Tryz.prog G 213 [.sl b.length (u8s b), .int .u64 n] [] 0 (.ms 0 1 0 (b.length + (varS n).length)) (rowB (b ++ varS n)) 1 := by
 unfold rowB
 refine srq seat Tryz.func213 23 ?_
 refine go1 ?_
 refine g_mem rfl rfl (by intro R hR; refine sms hR ?_; refine And.intro (head_b b) ?_; refine And.intro (app_ok1 (by kernel_rfl) (by omega)) ?_; exact hR) rfl ?_
 refine go1 ?_
 refine c_loop (List UInt8 × Nat) (fun x => [(5, .ms 0 1 0 (b.length + x.1.length)), (1, .int .u64 x.2)]) (fun x => [(0, ⟨5, 1, true, 0, u8s (b ++ x.1)⟩)]) 1 (fun x => x.1 ++ varS x.2 = varS n ∧ x.2 < 18446744073709551616) (fun x => x.2) ([], n) ⟨rfl, hn⟩ (by dsimp only; rw [List.length_nil, List.append_nil]; exact (vm [(0, _)] [])) ?_
 rintro ⟨p, m⟩ ⟨hp, hm1⟩
 try dsimp only
 dsimp only at hp hm1
 refine go1 ?_
 refine c_cond rfl (fun h => ?_) (fun h => ?_)
 ·have hm : ¬ m < 128 := by have := of_decide_eq_true h; omega
  have h2 := varS_dec hp hm
  have l2 := p_len hp hn
  (have fct := EqF.mk (cv8 m); have fct := EqF.mk (or128 m); have fct := EqF.mk (shr7 m); refine go1 ?_)
  refine g_mem rfl rfl (by intro R hR; refine sms hR ?_; (refine And.intro (Nat.le_refl _) ?_; refine ⟨_, rfl, ?_⟩; refine And.intro ⟨(by simp [u8s]), app_ok (by kernel_rfl) pf⟩ ?_; refine ⟨u8s (b ++ (p ++ [UInt8.ofNat (m % 128 + 128)])), sv (by simp [u8s, cutL, setL, repM]), b.length + (p.length + 1), sv pf, ?_⟩); exact hR) rfl ?_
  (have fct := EqF.mk (shr7 m); refine go1 ?_)
  exact ⟨(p ++ [UInt8.ofNat (m % 128 + 128)], m / 128), ⟨h2, by dsimp only; omega⟩, by dsimp only; omega, by dsimp only; rw [List.length_append, List.length_singleton]; exact (vm [(0, _)] [])⟩
 ·have hm : m < 128 := by have := of_decide_eq_false h; omega
  have l2 := p_len hp hn
  rw [varS_lo hm] at hp
  have l3 : (varS n).length = p.length + 1 := by rw [← hp]; simp
  (have fct := EqF.mk (cv8 m); refine go1 ?_)
  refine g_mem rfl rfl (by intro R hR; refine sms hR ?_; (refine And.intro (Nat.le_refl _) ?_; refine ⟨_, rfl, ?_⟩; refine And.intro ⟨(by simp [u8s]), app_ok (by kernel_rfl) pf⟩ ?_; refine ⟨u8s (b ++ varS n), sv (by rw [← hp]; simp [u8s, cutL, setL, repM]), b.length + (varS n).length, sv pf, ?_⟩); exact hR) rfl ?_
  refine go1 ?_
  exact eb [_] [(0, 7)] []
end
section
variable {G : GS}
attribute [local irreducible] vOpsN vOpsG vOpsD vOpGD NextD vC SeqQ BlockQ
def fldM (f : Fld) : MV := .st [.int .i64 f.num, .int .i64 f.kind, .int .u64 f.val, .sl f.bytes.length (u8s f.bytes)]
theorem cut_u8 (b : List UInt8) (x y : Nat) : cutL (u8s b) x y = u8s ((b.drop x).take (y - x)) := by simp [cutL, u8s]
theorem head_cut (b : List UInt8) (x y : Nat) : headSize (cutL (u8s b) x y) 1 = true := by rw [cut_u8]; exact head_b _
theorem bndLo {n k : Nat} {κ : IntKind} (h : k ≤ n) : bounds n (some (.int κ (k : Int))) none = some (k, n) := by
 unfold bounds
 dsimp only
 rw [if_pos ⟨by omega, by omega⟩]
 simp
theorem bndHi {n k : Nat} {κ : IntKind} (h : k ≤ n) : bounds n none (some (.int κ (k : Int))) = some (0, k) := by
 unfold bounds
 dsimp only
 rw [if_pos ⟨by omega, by omega⟩]
 simp
end
section
variable {G : GS}
attribute [local irreducible] vOpsN vOpsG vOpsD vOpGD NextD vC SeqQ BlockQ
theorem fieldS_0 {f : Fld} (h : f.kind = 0) : fieldS f = varS (f.num * 8 + f.kind) ++ varS f.val := by unfold fieldS; rw [if_pos h]
theorem fieldS_2 {f : Fld} (h : f.kind = 2) : fieldS f = varS (f.num * 8 + f.kind) ++ (varS f.bytes.length ++ f.bytes) := by unfold fieldS; rw [if_neg (by omega)]
theorem right_m (f : Fld) (hf : okF f) : SemC Tryz.prog G 184 [fldM f] (.bool true) := by
 obtain ⟨num, kind, val, bytes⟩ := f
 obtain ⟨h1, h2, h3⟩ := hf
 dsimp only at h1 h2 h3
 unfold fldM
 dsimp only
 refine scq seat Tryz.func184 30 ?_
 refine go1 ?_
 refine n_guard rfl rfl (fun h => ?_) rfl (fun h => ?_)
 rotate_left
 ·exfalso
  have : (num : Int) < 1 := by simpa using h
  omega
 refine go1 ?_
 refine c_cond rfl (fun h => ?_) (fun h => ?_)
 ·exfalso
  have := of_decide_eq_true h
  omega
 rcases h3 with ⟨rfl, rfl, hv⟩ | ⟨rfl, rfl, hv⟩
 ·refine go1 ?_
  refine go0 ?_
  rfl
 ·refine go1 ?_
  refine go0 ?_
  rfl
theorem pvalid_m (f : Fld) (hf : okF f) : SemC Tryz.prog G 212 [fldM f] (.bool true) := by
 obtain ⟨num, kind, val, bytes⟩ := f
 obtain ⟨h1, h2, h3⟩ := hf
 dsimp only at h1 h2 h3
 unfold fldM
 dsimp only
 refine scq seat Tryz.func212 30 ?_
 refine go1 ?_
 refine n_guard rfl rfl (fun h => ?_) rfl (fun h => ?_)
 rotate_left
 ·exfalso
  have : (num : Int) < 1 := by simpa using h
  omega
 refine go1 ?_
 refine c_cond rfl (fun h => ?_) (fun h => ?_)
 ·exfalso
  have := of_decide_eq_true h
  omega
 rcases h3 with ⟨rfl, rfl, hv⟩ | ⟨rfl, rfl, hv⟩
 ·refine go1 ?_
  refine go0 ?_
  rfl
 ·refine go1 ?_
  refine go0 ?_
  rfl
theorem ptag_m (f : Fld) (hf : okF f) : SemC Tryz.prog G 214 [fldM f] (.int .u64 ((f.num * 8 + f.kind : Nat) : Int)) := by
 obtain ⟨num, kind, val, bytes⟩ := f
 obtain ⟨h1, h2, h3⟩ := hf
 dsimp only at h1 h2 h3
 unfold fldM
 dsimp only
 refine scq seat Tryz.func214 10 ?_
 refine go1 ?_
 refine go0 ?_
 exact congrArg (MV.int .u64) (by omega)
theorem varint_g (b : List UInt8) (n : Nat) (hb : b.length < 500000000) (hn : n < 18446744073709551616) :
  SemR Tryz.prog G 170 [.sl b.length (u8s b), .int .u64 n] [] 0 (.ms 0 1 0 (b ++ varS n).length) (rowB (b ++ varS n)) 1 := by
 rw [List.length_append]; exact varint_r b n hb hn
theorem pvarint_g (b : List UInt8) (n : Nat) (hb : b.length < 500000000) (hn : n < 18446744073709551616) :
  SemR Tryz.prog G 213 [.sl b.length (u8s b), .int .u64 n] [] 0 (.ms 0 1 0 (b ++ varS n).length) (rowB (b ++ varS n)) 1 := by
 rw [List.length_append]; exact pvarint_r b n hb hn
theorem field_r (b : List UInt8) (f : Fld) (hf : okF f) (hb : b.length + f.bytes.length < 400000000) :
  SemR Tryz.prog G 144 [.sl b.length (u8s b), fldM f] [] 0 (.tup [.ms 0 1 0 (b ++ fieldS f).length, .int .i64 0]) (rowB (b ++ fieldS f)) 1 := by
 have hr := right_m (G := G) f hf
 obtain ⟨num, kind, val, bytes⟩ := f
 obtain ⟨h1, h2, h3⟩ := hf
 dsimp only at h1 h2 h3
 have l1 := varS_len10 (n := num * 8 + kind) (by omega)
 have c1 := varint_g (G := G) b (num * 8 + kind) (by dsimp only at hb; omega) (by omega)
 have e0 := fieldS_0 (f := ⟨num, kind, val, bytes⟩)
 have e2 := fieldS_2 (f := ⟨num, kind, val, bytes⟩)
 unfold rowB at *
 unfold fldM at *
 dsimp only at hr hb e0 e2
 dsimp only
 generalize hp : b ++ varS (num * 8 + kind) = p at *
 refine srq seat Tryz.func144 36 ?_
 refine go1 ?_
 refine yv (hr) ?_
 have hpl : p.length ≤ b.length + 10 := by rw [← hp, List.length_append]; omega
 refine go1 ?_
 refine yc (c1) [] ?_
 refine go1 ?_
 rcases h3 with ⟨rfl, rfl, hv⟩ | ⟨rfl, rfl, hv⟩
 ·have c2 := varint_g (G := G) p val (by omega) hv
  rw [e0 rfl, ← List.append_assoc, hp]
  unfold rowB at c2
  generalize p ++ varS val = q at *
  refine go1 ?_
  refine g_callR1 rfl (fun _ h => h) rfl (c2) [] [(14, p.length)] ⟨rfl, mm, rfl, lm, mm⟩ rfl rfl ?_
  refine go1 ?_
  exact eb [_, _] [(0, 22)] []
 ·have c2 := varint_g (G := G) p bytes.length (by omega) hv
  rw [e2 rfl, ← List.append_assoc, hp, ← List.append_assoc]
  have hql : (p ++ varS bytes.length).length ≤ p.length + 10 := by rw [List.length_append]; have := (varS_len10 hv).2; omega
  unfold rowB at c2
  generalize p ++ varS bytes.length = q at *
  refine go1 ?_
  refine c_draw [(0, false), (1, false), (2, false), (3, false), (4, false), (5, true), (6, false), (7, false), (8, false), (9, false), (10, false)] ?_
  refine go1 ?_
  refine gd_callR1 rfl (fun _ h => h) rfl [14] (c2) [] [(14, p.length)] ⟨rfl, mm, rfl, lm, mm⟩ rfl rfl rfl rfl rfl ?_
  refine go1 ?_
  refine gd_mem rfl (by intro R hR; refine sms hR ?_; refine And.intro (head_b bytes) ?_; refine And.intro ⟨(by simp [u8s]), app_ok (by kernel_rfl) pf⟩ ?_; refine ⟨u8s (q ++ bytes), sv (by simp [u8s]), (q ++ bytes).length, sv pf, ?_⟩; exact hR) rfl ?_
  refine go1 ?_
  exact eb [_, _] [(0, 27)] []
theorem pfield_r (b : List UInt8) (f : Fld) (hf : okF f) (hb : b.length + f.bytes.length < 400000000) :
  SemR Tryz.prog G 168 [.sl b.length (u8s b), fldM f] [] 0 (.tup [.ms 0 1 0 (b ++ fieldS f).length, .int .i64 0]) (rowB (b ++ fieldS f)) 1 := by
 have hr := pvalid_m (G := G) f hf
 have ht := ptag_m (G := G) f hf
 obtain ⟨num, kind, val, bytes⟩ := f
 obtain ⟨h1, h2, h3⟩ := hf
 dsimp only at h1 h2 h3
 have l1 := varS_len10 (n := num * 8 + kind) (by omega)
 have c1 := pvarint_g (G := G) b (num * 8 + kind) (by dsimp only at hb; omega) (by omega)
 have e0 := fieldS_0 (f := ⟨num, kind, val, bytes⟩)
 have e2 := fieldS_2 (f := ⟨num, kind, val, bytes⟩)
 unfold rowB at *
 unfold fldM at *
 dsimp only at hr ht hb e0 e2
 dsimp only
 generalize hp : b ++ varS (num * 8 + kind) = p at *
 refine srq seat Tryz.func168 30 ?_
 refine go1 ?_
 refine yv (hr) ?_
 refine go1 ?_
 refine yv (ht) ?_
 have hpl : p.length ≤ b.length + 10 := by rw [← hp, List.length_append]; omega
 refine go1 ?_
 refine yc (c1) [] ?_
 refine go1 ?_
 rcases h3 with ⟨rfl, rfl, hv⟩ | ⟨rfl, rfl, hv⟩
 ·have c2 := pvarint_g (G := G) p val (by omega) hv
  rw [e0 rfl, ← List.append_assoc, hp]
  unfold rowB at c2
  generalize p ++ varS val = q at *
  refine go1 ?_
  refine g_callR1 rfl (fun _ h => h) rfl (c2) [] [(7, p.length)] ⟨rfl, mm, rfl, lm, mm⟩ rfl rfl ?_
  refine go1 ?_
  exact eb [_, _] [(0, 15)] []
 ·have c2 := pvarint_g (G := G) p bytes.length (by omega) hv
  rw [e2 rfl, ← List.append_assoc, hp, ← List.append_assoc]
  have hql : (p ++ varS bytes.length).length ≤ p.length + 10 := by rw [List.length_append]; have := (varS_len10 hv).2; omega
  unfold rowB at c2
  generalize p ++ varS bytes.length = q at *
  refine go1 ?_
  refine c_draw [(0, false), (1, false), (2, false), (3, false), (4, false), (5, true), (6, false), (7, false), (8, false), (9, false), (10, false)] ?_
  refine go1 ?_
  refine gd_callR1 rfl (fun _ h => h) rfl [7] (c2) [] [(7, p.length)] ⟨rfl, mm, rfl, lm, mm⟩ rfl rfl rfl rfl rfl ?_
  refine go1 ?_
  refine gd_mem rfl (by intro R hR; refine sms hR ?_; refine And.intro (head_b bytes) ?_; refine And.intro ⟨(by simp [u8s]), app_ok (by kernel_rfl) pf⟩ ?_; refine ⟨u8s (q ++ bytes), sv (by simp [u8s]), (q ++ bytes).length, sv pf, ?_⟩; exact hR) rfl ?_
  refine go1 ?_
  exact eb [_, _] [(0, 20)] []
end
section
variable {G : GS}
structure W8 where
 a : UInt32
 b : UInt32
 c : UInt32
 d : UInt32
 e : UInt32
 f : UInt32
 g : UInt32
 h : UInt32
def W8.toM (s : W8) : MV := .arr 8 1 [u32M s.a, u32M s.b, u32M s.c, u32M s.d, u32M s.e, u32M s.f, u32M s.g, u32M s.h]
def turnU (x : UInt32) (n : Nat) : UInt32 := (x >>> UInt32.ofNat n) ||| (x <<< UInt32.ofNat (32 - n))
def kL : List UInt32 := [1116352408, 1899447441, 3049323471, 3921009573, 961987163, 1508970993, 2453635748, 2870763221, 3624381080, 310598401, 607225278, 1426881987, 1925078388, 2162078206, 2614888103, 3248222580, 3835390401, 4022224774, 264347078, 604807628, 770255983, 1249150122, 1555081692, 1996064986, 2554220882, 2821834349, 2952996808, 3210313671, 3336571891, 3584528711, 113926993, 338241895, 666307205, 773529912, 1294757372, 1396182291, 1695183700, 1986661051, 2177026350, 2456956037, 2730485921, 2820302411, 3259730800, 3345764771, 3516065817, 3600352804, 4094571909, 275423344, 430227734, 506948616, 659060556, 883997877, 958139571, 1322822218, 1537002063, 1747873779, 1955562222, 2024104815, 2227730452, 2361852424, 2428436474, 2756734187, 3204031479, 3329325298]
def wsM (l : List UInt32) : MV := .arr 64 1 (l.map u32M)
def beU (b : List UInt8) (k : Nat) : UInt32 := (b.getD (4 * k) 0).toUInt32 <<< UInt32.ofNat 24 ||| (b.getD (4 * k + 1) 0).toUInt32 <<< UInt32.ofNat 16 ||| (b.getD (4 * k + 2) 0).toUInt32 <<< UInt32.ofNat 8 ||| (b.getD (4 * k + 3) 0).toUInt32
def fillW (b : List UInt8) : Nat → List UInt32
 | 0 => List.replicate 64 0
 | t + 1 => (fillW b t).set t (beU b t)
def stepW (l : List UInt32) (t : Nat) : UInt32 :=
 (turnU (l.getD (t - 2) 0) 17 ^^^ turnU (l.getD (t - 2) 0) 19 ^^^ l.getD (t - 2) 0 >>> UInt32.ofNat 10) + l.getD (t - 7) 0 + (turnU (l.getD (t - 15) 0) 7 ^^^ turnU (l.getD (t - 15) 0) 18 ^^^ l.getD (t - 15) 0 >>> UInt32.ofNat 3) + l.getD (t - 16) 0
def moreW (b : List UInt8) : Nat → List UInt32
 | 0 => fillW b 16
 | t + 1 => (moreW b t).set (16 + t) (stepW (moreW b t) (16 + t))
theorem fillW_len (b : List UInt8) : ∀ t, (fillW b t).length = 64
 | 0 => by simp [fillW]
 | t + 1 => by simp [fillW, fillW_len b t]
theorem moreW_len (b : List UInt8) : ∀ t, (moreW b t).length = 64
 | 0 => fillW_len b 16
 | t + 1 => by simp [moreW, moreW_len b t]
def tmp1 (k w : UInt32) (s : W8) : UInt32 := s.h + (turnU s.e 6 ^^^ turnU s.e 11 ^^^ turnU s.e 25) + (s.e &&& s.f ^^^ ~~~s.e &&& s.g) + k + w
def tmp2 (s : W8) : UInt32 := (turnU s.a 2 ^^^ turnU s.a 13 ^^^ turnU s.a 22) + (s.a &&& s.b ^^^ s.a &&& s.c ^^^ s.b &&& s.c)
def roundS (k w : UInt32) (s : W8) : W8 := ⟨tmp1 k w s + tmp2 s, s.a, s.b, s.c, s.d + tmp1 k w s, s.e, s.f, s.g⟩
def rounds (k w : List UInt32) (s : W8) : Nat → W8
 | 0 => s
 | t + 1 => roundS (k.getD t 0) (w.getD t 0) (rounds k w s t)
def addW (h s : W8) : Nat → W8
 | 0 => h
 | 1 => ⟨h.a + s.a, h.b, h.c, h.d, h.e, h.f, h.g, h.h⟩
 | 2 => ⟨h.a + s.a, h.b + s.b, h.c, h.d, h.e, h.f, h.g, h.h⟩
 | 3 => ⟨h.a + s.a, h.b + s.b, h.c + s.c, h.d, h.e, h.f, h.g, h.h⟩
 | 4 => ⟨h.a + s.a, h.b + s.b, h.c + s.c, h.d + s.d, h.e, h.f, h.g, h.h⟩
 | 5 => ⟨h.a + s.a, h.b + s.b, h.c + s.c, h.d + s.d, h.e + s.e, h.f, h.g, h.h⟩
 | 6 => ⟨h.a + s.a, h.b + s.b, h.c + s.c, h.d + s.d, h.e + s.e, h.f + s.f, h.g, h.h⟩
 | 7 => ⟨h.a + s.a, h.b + s.b, h.c + s.c, h.d + s.d, h.e + s.e, h.f + s.f, h.g + s.g, h.h⟩
 | _ => ⟨h.a + s.a, h.b + s.b, h.c + s.c, h.d + s.d, h.e + s.e, h.f + s.f, h.g + s.g, h.h + s.h⟩
def blockS (h : W8) (b : List UInt8) : W8 := addW h (rounds kL (moreW b 48) h 64) 8
theorem index_of {l : List MV} {n : Nat} {j : Int} {x : MV} (k : Nat) (hj : j = k) (hk : k < n) (hx : l[k]? = some x) : idxL l n j = some x := by
 subst hj; exact index_at hk hx
theorem idx_of {n : Nat} {j : Int} (k : Nat) (hj : j = k) (hk : k < n) : idx n j = some k := by
 subst hj; exact idx_at hk
theorem u8_at {b : List UInt8} {k : Nat} (h : k < b.length) : (u8s b)[k]? = some (u8M (b.getD k 0)) := by simp [u8s, h]
theorem ws_get {l : List UInt32} {k : Nat} (h : k < l.length) : getPO (wsM l) ([] ++ [k]) (0 + k * 1) = some (u32M (l.getD k 0)) := by
 show (match nthM (l.map u32M) k with | some m => bif Nat.ble (k * 1) (0 + k * 1) then getPO m [] (0 + k * 1 - k * 1) else none | none => none) = _
 have e : nthM (l.map u32M) k = some (u32M (l.getD k 0)) := by rw [nthM_eq]; simp [h]
 rw [e]
 have e2 : Nat.ble (k * 1) (0 + k * 1) = true := by simp
 simp only [e2, cond_true]
 simp [getPO]
theorem ws_set {l : List UInt32} {k : Nat} (h : k < l.length) (x : UInt32) : setPO (wsM l) ([] ++ [k]) (0 + k * 1) (u32M x) = some (wsM (l.set k x)) := by
 show (match nthM (l.map u32M) k with | some m => bif Nat.ble (k * 1) (0 + k * 1) && (u32M x).idFree then (match setPO m [] (0 + k * 1 - k * 1) (u32M x) with | some m' => some (MV.arr 64 1 (setL (l.map u32M) k m')) | none => none) else none | none => none) = _
 have e : nthM (l.map u32M) k = some (u32M (l.getD k 0)) := by rw [nthM_eq]; simp [h]
 rw [e]
 have e2 : Nat.ble (k * 1) (0 + k * 1) = true := by simp
 simp only [e2]
 simp [setPO, setL_eq, MV.idFree, MV.size, MV.isAgg, wsM, List.map_set]
def W8.nth (s : W8) : Nat → UInt32
 | 0 => s.a
 | 1 => s.b
 | 2 => s.c
 | 3 => s.d
 | 4 => s.e
 | 5 => s.f
 | 6 => s.g
 | _ => s.h
theorem get8 (s : W8) {i : Nat} (hi : i < 8) : getPO s.toM ([] ++ [i]) (0 + i * 1) = some (u32M (s.nth i)) := by
 have h8 : i = 0 ∨ i = 1 ∨ i = 2 ∨ i = 3 ∨ i = 4 ∨ i = 5 ∨ i = 6 ∨ i = 7 := by omega
 rcases h8 with rfl | rfl | rfl | rfl | rfl | rfl | rfl | rfl <;> rfl
theorem set8 (h s : W8) {i : Nat} (hi : i < 8) : setPO (addW h s i).toM ([] ++ [i]) (0 + i * 1) (u32M ((addW h s i).nth i + s.nth i)) = some (addW h s (i + 1)).toM := by
 have h8 : i = 0 ∨ i = 1 ∨ i = 2 ∨ i = 3 ∨ i = 4 ∨ i = 5 ∨ i = 6 ∨ i = 7 := by omega
 rcases h8 with rfl | rfl | rfl | rfl | rfl | rfl | rfl | rfl <;> rfl
theorem turn_m (x : UInt32) (n : Nat) (h0 : 0 < n) (h1 : n < 32) : SemC Tryz.prog G 151 [u32M x, .int .i64 n] (u32M (turnU x n)) := by
 refine scq seat Tryz.func151 13 ?_
 refine gow0 ?_
 refine ⟨[(0, false), (1, false), (2, false), (3, false), (4, false), (5, false), (6, false), (7, false), (8, false)], ?_⟩
 refine ⟨by omega, _, sv (shr32 x n h1), ?_⟩
 refine ⟨((32 - n : Nat) : Int), sv ((wrap_in _ (by omega) (by omega)).trans (by omega)), ?_⟩
 refine ⟨by omega, _, sv (shl32 x (32 - n) (by omega)), ?_⟩
 refine gow0 ?_
 rfl
theorem constants_m : SemC Tryz.prog G 152 [] (wsM kL) := by
 refine scq seat Tryz.func152 2 ?_
 refine gow0 ?_
 rfl
theorem block_m (h : W8) (b : List UInt8) (hb : b.length = 64) : SemC Tryz.prog G 101 [h.toM, .sl 64 (u8s b)] (blockS h b).toM := by
 unfold blockS
 refine scq seat Tryz.func101 193 ?_
 refine gow0 ?_
 refine ⟨Nat, fun t => [(6, .int .i64 t), (5, .ptr 2 64 0 0 []), (4, .ptr 1 8 0 0 []), (2, .ptr 0 8 0 0 []), (1, .sl 64 (u8s b))], fun t => [(0, ⟨186, 8, false, 0, [h.toM]⟩), (1, ⟨186, 8, false, 0, [W8.toM ⟨0, 0, 0, 0, 0, 0, 0, 0⟩]⟩), (2, ⟨249, 64, false, 0, [wsM (fillW b t)]⟩)], 3, fun t => t ≤ 16, fun t => 16 - t, ⟨0, by omega, (vm [(0, 0), (1, 1), (2, 2)] [])⟩, ?_⟩
 intro t ht
 refine gow0 ?_
 refine ⟨fun hc => ?_, fun hc => ?_⟩
 ·have ht' : t < 16 := by have := of_decide_eq_true hc; omega
  have hl := fillW_len b t
  refine gow0 ?_
  refine ⟨[(0, false), (1, false), (2, false), (3, false), (4, false), (5, false), (6, false), (7, false), (8, false), (9, false), (10, false), (11, false), (12, false), (13, false), (14, false), (15, false), (16, false), (17, false), (18, false), (19, false), (20, false), (21, false), (22, false), (23, false), (24, false), (25, false), (26, false), (27, false), (28, false), (29, false), (30, false), (31, false), (32, false), (33, false), (34, false), (35, false)], ?_⟩
  refine gow0 ?_
  refine ⟨_, index_of (4 * t) (by omega) (by omega) (u8_at (by omega)), ?_⟩
  refine gow0 ?_
  refine ⟨_, index_of (4 * t + 1) (by omega) (by omega) (u8_at (by omega)), ?_⟩
  refine gow0 ?_
  refine ⟨_, index_of (4 * t + 2) (by omega) (by omega) (u8_at (by omega)), ?_⟩
  refine gow0 ?_
  refine ⟨_, index_of (4 * t + 3) (by omega) (by omega) (u8_at (by omega)), ?_⟩
  refine gow0 ?_
  refine ⟨_, idx_at (by omega), ?_⟩
  refine gow0 ?_
  refine ⟨_, ws_set (by omega) _, ?_⟩
  refine gow0 ?_
  exact ⟨t + 1, by omega, by show 16 - (t + 1) < 16 - t; omega, (vm [(0, 0), (1, 1), (2, 2)] [])⟩
 ·have ht' : t = 16 := by have := of_decide_eq_false hc; omega
  subst ht'
  refine gow0 ?_
  refine ⟨Nat, fun t => [(7, .int .i64 ((16 + t : Nat) : Int)), (5, .ptr 2 64 0 0 []), (4, .ptr 1 8 0 0 []), (2, .ptr 0 8 0 0 [])], fun t => [(0, ⟨186, 8, false, 0, [h.toM]⟩), (1, ⟨186, 8, false, 0, [W8.toM ⟨0, 0, 0, 0, 0, 0, 0, 0⟩]⟩), (2, ⟨249, 64, false, 0, [wsM (moreW b t)]⟩)], 3, fun t => t ≤ 48, fun t => 48 - t, ⟨0, by omega, (vm [(0, 0), (1, 1), (2, 2)] [])⟩, ?_⟩
  intro t ht
  refine gow0 ?_
  refine ⟨fun hc => ?_, fun hc => ?_⟩
  ·have ht' : t < 48 := by have := of_decide_eq_true hc; omega
   have hl := moreW_len b t
   refine gow0 ?_
   refine ⟨[(0, false), (1, false), (2, false), (3, false), (4, false), (5, false), (6, false), (7, false), (8, false), (9, false)], ?_⟩
   refine gow0 ?_
   refine ⟨_, idx_of (16 + t - 15) (by omega) (by omega), ?_⟩
   refine gow0 ?_
   refine ⟨_, ws_get (by omega), ?_⟩
   refine gow0 ?_
   refine ⟨_, idx_of (16 + t - 2) (by omega) (by omega), ?_⟩
   refine gow0 ?_
   refine ⟨_, ws_get (by omega), ?_⟩
   refine gow0 ?_
   refine ⟨[(0, false), (1, false), (2, false), (3, false), (4, false), (5, false), (6, false), (7, false), (8, false), (9, false), (10, false), (11, false), (12, false), (13, false), (14, false), (15, false), (16, false), (17, false), (18, false), (19, false), (20, false), (21, false), (22, false), (23, false), (24, false), (25, false), (26, false), (27, false), (28, false), (29, false)], ?_⟩
   refine ⟨_, turn_m _ 17 (by omega) (by omega), ?_⟩
   refine ⟨_, turn_m _ 19 (by omega) (by omega), ?_⟩
   refine gow0 ?_
   refine ⟨_, idx_of (16 + t - 7) (by omega) (by omega), ?_⟩
   refine gow0 ?_
   refine ⟨_, ws_get (by omega), ?_⟩
   refine gow0 ?_
   refine ⟨_, turn_m _ 7 (by omega) (by omega), ?_⟩
   refine ⟨_, turn_m _ 18 (by omega) (by omega), ?_⟩
   refine gow0 ?_
   refine ⟨_, idx_of (16 + t - 16) (by omega) (by omega), ?_⟩
   refine gow0 ?_
   refine ⟨_, ws_get (by omega), ?_⟩
   refine gow0 ?_
   refine ⟨_, idx_of (16 + t) (by omega) (by omega), ?_⟩
   refine gow0 ?_
   refine ⟨_, ws_set (by omega) _, ?_⟩
   refine gow0 ?_
   exact ⟨t + 1, by show t + 1 ≤ 48; omega, by show 48 - (t + 1) < 48 - t; omega, (vm [(0, 0), (1, 1), (2, 2)] [])⟩
  ·have ht' : t = 48 := by have := of_decide_eq_false hc; omega
   subst ht'
   refine gow0 ?_
   refine .inl ⟨_, constants_m, ?_⟩
   refine gow0 ?_
   have hl := moreW_len b 48
   have hk : kL.length = 64 := rfl
   dsimp only
   generalize moreW b 48 = ws at *
   generalize kL = kl at *
   refine gow0 ?_
   refine ⟨Nat, fun t => [(12, .int .i64 t), (11, .ptr 4 8 0 0 []), (10, .ptr 3 64 0 0 []), (5, .ptr 2 64 0 0 []), (4, .ptr 1 8 0 0 []), (2, .ptr 0 8 0 0 [])], fun t => [(0, ⟨186, 8, false, 0, [h.toM]⟩), (1, ⟨186, 8, false, 0, [W8.toM ⟨0, 0, 0, 0, 0, 0, 0, 0⟩]⟩), (2, ⟨249, 64, false, 0, [wsM ws]⟩), (3, ⟨249, 64, false, 0, [wsM kl]⟩), (4, ⟨186, 8, false, 0, [(rounds kl ws h t).toM]⟩)], 5, fun t => t ≤ 64, fun t => 64 - t, ⟨0, by omega, (vm [(0, 0), (1, 1), (2, 2), (3, 6), (4, 9)] [])⟩, ?_⟩
   intro t ht
   refine gow0 ?_
   refine ⟨fun hc => ?_, fun hc => ?_⟩
   ·have ht' : t < 64 := by have := of_decide_eq_true hc; omega
    refine gow0 ?_
    refine ⟨[(0, false), (1, false), (2, false), (3, false), (4, false), (5, false)], ?_⟩
    refine gow0 ?_
    refine ⟨[(0, false), (1, false), (2, false), (3, false), (4, false), (5, false), (6, false), (7, false), (8, false), (9, false), (10, false), (11, false), (12, false), (13, false), (14, false), (15, false), (16, false), (17, false), (18, false), (19, false), (20, false), (21, false), (22, false), (23, false), (24, false), (25, false), (26, false), (27, false), (28, false), (29, false), (30, false)], ?_⟩
    refine gow0 ?_
    refine ⟨_, turn_m _ 6 (by omega) (by omega), ?_⟩
    refine ⟨_, turn_m _ 11 (by omega) (by omega), ?_⟩
    refine gow0 ?_
    refine ⟨_, turn_m _ 25 (by omega) (by omega), ?_⟩
    refine gow0 ?_
    refine ⟨_, idx_at (by omega), ?_⟩
    refine gow0 ?_
    refine ⟨_, ws_get (by omega), ?_⟩
    refine gow0 ?_
    refine ⟨_, idx_at (by omega), ?_⟩
    refine gow0 ?_
    refine ⟨_, ws_get (by omega), ?_⟩
    refine gow0 ?_
    refine ⟨[(0, false), (1, false), (2, false), (3, false), (4, false), (5, false), (6, false), (7, false), (8, false), (9, false), (10, false), (11, false), (12, false), (13, false), (14, false), (15, false), (16, false), (17, false), (18, false), (19, false), (20, false), (21, false), (22, false), (23, false), (24, false)], ?_⟩
    refine ⟨_, turn_m _ 2 (by omega) (by omega), ?_⟩
    refine ⟨_, turn_m _ 13 (by omega) (by omega), ?_⟩
    refine gow0 ?_
    refine ⟨_, turn_m _ 22 (by omega) (by omega), ?_⟩
    refine gow0 ?_
    exact ⟨t + 1, by show t + 1 ≤ 64; omega, by show 64 - (t + 1) < 64 - t; omega, (vm [(0, 0), (1, 1), (2, 2), (3, 3), (4, 4)] [])⟩
   ·have ht' : t = 64 := by have := of_decide_eq_false hc; omega
    subst ht'
    refine gow0 ?_
    refine ⟨Nat, fun i => [(180, .int .i64 i), (11, .ptr 2 8 0 0 []), (4, .ptr 1 8 0 0 []), (2, .ptr 0 8 0 0 [])], fun i => [(0, ⟨186, 8, false, 0, [(addW h (rounds kl ws h 64) i).toM]⟩), (1, ⟨186, 8, false, 0, [W8.toM ⟨0, 0, 0, 0, 0, 0, 0, 0⟩]⟩), (2, ⟨186, 8, false, 0, [(rounds kl ws h 64).toM]⟩)], 3, fun i => i ≤ 8, fun i => 8 - i, ⟨0, by omega, (vm [(0, 0), (1, 1), (2, 4)] [])⟩, ?_⟩
    intro i hi
    refine gow0 ?_
    refine ⟨fun hc => ?_, fun hc => ?_⟩
    ·have hi' : i < 8 := by have := of_decide_eq_true hc; omega
     refine gow0 ?_
     refine ⟨[(0, false), (1, false), (2, false), (3, false), (4, false), (5, false), (6, false), (7, false), (8, false)], ?_⟩
     generalize rounds kl ws h 64 = s at *
     refine gow0 ?_
     refine ⟨_, idx_at (by omega), ?_⟩
     refine gow0 ?_
     refine ⟨_, get8 _ hi', ?_⟩
     refine gow0 ?_
     refine ⟨_, idx_at (by omega), ?_⟩
     refine gow0 ?_
     refine ⟨_, get8 _ hi', ?_⟩
     refine gow0 ?_
     refine ⟨_, idx_at (by omega), ?_⟩
     refine gow0 ?_
     refine ⟨_, set8 h s hi', ?_⟩
     refine gow0 ?_
     exact ⟨i + 1, by show i + 1 ≤ 8; omega, by show 8 - (i + 1) < 8 - i; omega, (vm [(0, 0), (1, 1), (2, 2)] [])⟩
    ·have hi' : i = 8 := by have := of_decide_eq_false hc; omega
     subst hi'
     refine gow0 ?_
     rfl
end
section
variable {G : GS}
theorem quo_nat (i n : Nat) (h : i < 4611686018427387904) : IntKind.i64.wrap ((i : Int).tdiv (n : Int)) = ((i / n : Nat) : Int) := by
 have e : (i : Int).tdiv (n : Int) = ((i / n : Nat) : Int) := rfl
 have := Nat.div_le_self i n
 generalize i / n = q at *
 rw [e, wrap_in _ (by omega) (by omega)]
theorem bounds_at {n a c : Nat} {k k' : IntKind} {lo hi : Int} (ha : lo = (a : Int)) (hc : hi = (c : Int)) (h1 : a ≤ c) (h2 : c ≤ n) : bounds n (some (.int k lo)) (some (.int k' hi)) = some (a, c) := by
 subst ha; subst hc
 unfold bounds
 simp only
 rw [if_pos (by omega)]
 simp only [Int.toNat_natCast]
 rw [if_pos (by omega)]
theorem head_u8 (m : List UInt8) : headSize (u8s m) 1 = true := by cases m <;> rfl
def padN (n : Nat) : Nat := (119 - n % 64) % 64
def byteAt (n k : Nat) : UInt8 := UInt8.ofNat (n / 2 ^ (8 * (7 - k)))
def be64 (n : Nat) : List UInt8 := (List.range 8).map (byteAt n)
def padS (b : List UInt8) : List UInt8 := b ++ [128] ++ List.replicate (padN b.length) 0 ++ be64 (8 * b.length)
def initW : W8 := ⟨1779033703, 3144134277, 1013904242, 2773480762, 1359893119, 2600822924, 528734635, 1541459225⟩
def absorb (s : W8) (m : List UInt8) : Nat → W8
 | 0 => s
 | k + 1 => blockS (absorb s m k) ((m.drop (64 * k)).take 64)
def outAt (s : W8) (i : Nat) : UInt8 := (s.nth (i / 4) >>> UInt32.ofNat (24 - i % 4 * 8)).toUInt8
def outK (s : W8) : Nat → List UInt8
 | 0 => List.replicate 32 0
 | i + 1 => (outK s i).set i (outAt s i)
theorem outK_len (s : W8) : ∀ i, (outK s i).length = 32
 | 0 => by simp [outK]
 | i + 1 => by simp [outK, outK_len s i]
def shaS (b : List UInt8) : List UInt8 := outK (absorb initW (padS b) ((padS b).length / 64)) 32
theorem shaS_len (b : List UInt8) : (shaS b).length = 32 := outK_len _ _
def keyM (k : List UInt8) : MV := .arr 32 1 (u8s k)
theorem padS_len (b : List UInt8) : (padS b).length = b.length + 9 + padN b.length := by simp [padS, be64]; omega
theorem padS_div (b : List UInt8) : (padS b).length = 64 * ((padS b).length / 64) := by rw [padS_len]; unfold padN; omega
theorem key_get {k : List UInt8} {i : Nat} (h : i < k.length) : getPO (keyM k) ([] ++ [i]) (0 + i * 1) = some (u8M (k.getD i 0)) := by
 show (match nthM (u8s k) i with | some m => bif Nat.ble (i * 1) (0 + i * 1) then getPO m [] (0 + i * 1 - i * 1) else none | none => none) = _
 have e : nthM (u8s k) i = some (u8M (k.getD i 0)) := by rw [nthM_eq]; exact u8_at h
 rw [e]
 have e2 : Nat.ble (i * 1) (0 + i * 1) = true := by simp
 simp only [e2, cond_true]
 simp [getPO]
theorem key_set {k : List UInt8} {i : Nat} (h : i < k.length) (x : UInt8) : setPO (keyM k) ([] ++ [i]) (0 + i * 1) (u8M x) = some (keyM (k.set i x)) := by
 show (match nthM (u8s k) i with | some m => bif Nat.ble (i * 1) (0 + i * 1) && (u8M x).idFree then (match setPO m [] (0 + i * 1 - i * 1) (u8M x) with | some m' => some (MV.arr 32 1 (setL (u8s k) i m')) | none => none) else none | none => none) = _
 have e : nthM (u8s k) i = some (u8M (k.getD i 0)) := by rw [nthM_eq]; exact u8_at h
 rw [e]
 have e2 : Nat.ble (i * 1) (0 + i * 1) = true := by simp
 simp only [e2]
 simp [setPO, setL_eq, MV.idFree, MV.size, MV.isAgg, keyM, u8s, List.map_set]
theorem byteAt_eq (n k : Nat) (hk : k < 8) : IntKind.u8.wrap (((n : Int) * 8).fdiv (2 ^ (min (8 * (7 - (k : Int))).toNat IntKind.u64.bits))) = ((byteAt (8 * n) k).toNat : Int) := by
 have e : min (8 * (7 - (k : Int))).toNat IntKind.u64.bits = 8 * (7 - k) := by simp [IntKind.bits]; omega
 have e2 : ((n : Int) * 8) = ((8 * n : Nat) : Int) := by omega
 rw [e, e2, Int.fdiv_eq_ediv_of_nonneg _ (Int.le_of_lt (Int.pow_pos (by omega))), w8, byteAt, UInt8.toNat_ofNat']
 have e3 : (2 : Int) ^ (8 * (7 - k)) = ((2 ^ (8 * (7 - k)) : Nat) : Int) := by rw [Int.natCast_pow]; rfl
 rw [e3, ← Int.natCast_ediv]
 exact (Int.natCast_emod _ 256).symm
theorem sha_m (b : List UInt8) (hb : b.length < 536870912) : SemC Tryz.prog G 50 [.sl b.length (u8s b)] (keyM (shaS b)) := by
 have hp : padN b.length < 64 := by unfold padN; omega
 refine scq seat Tryz.func50 69 ?_
 refine gow0 ?_
 refine ⟨head_u8 b, ?_⟩
 refine gow0 ?_
 (refine And.intro ⟨pf, app_ok (by kernel_rfl) pf⟩ ?_; refine ⟨u8s b, sv pf, b.length, sv pf, ?_⟩)
 refine gow0 ?_
 (refine And.intro (Nat.le_refl _) ?_; refine ⟨_, rfl, ?_⟩; refine And.intro ⟨pf, app_ok (by kernel_rfl) pf⟩ ?_; refine ⟨u8s (b ++ [128]), sv pf, b.length + 1, sv pf, ?_⟩)
 refine gow0 ?_
 refine ⟨Nat, fun k => [(3, .ms 1 1 0 (b.length + 1 + k)), (2, .ptr 0 32 0 0 []), (0, .sl b.length (u8s b))], fun k => [(0, ⟨40, 32, false, 0, [keyM (List.replicate 32 0)]⟩), (1, ⟨5, 1, true, 0, u8s (b ++ [128] ++ List.replicate k 0)⟩)], 2, fun k => k ≤ padN b.length, fun k => padN b.length - k, ⟨0, Nat.zero_le _, (vm [(0, _), (1, _)] [])⟩, ?_⟩
 intro k hk
 refine gow0 ?_
 refine ⟨fun hc => ?_, fun hc => ?_⟩
 ·have hk' : k < padN b.length := by
   have hc : ((b.length + 1 + k : Nat) : Int).tmod (64 : Int) ≠ 56 := by simpa using hc
   have e : ((b.length + 1 + k : Nat) : Int).tmod (64 : Int) = (((b.length + 1 + k) % 64 : Nat) : Int) := rfl
   unfold padN at hk ⊢
   omega
  refine gow0 ?_
  (refine And.intro (Nat.le_refl _) ?_; refine ⟨_, rfl, ?_⟩; refine And.intro ⟨pf, app_ok (by kernel_rfl) pf⟩ ?_; refine ⟨u8s (b ++ [128] ++ List.replicate (k + 1) 0), sv pf, b.length + 1 + (k + 1), sv pf, ?_⟩)
  refine gow0 ?_
  exact ⟨k + 1, by show k + 1 ≤ padN b.length; omega, by show padN b.length - (k + 1) < padN b.length - k; omega, (vm [(0, _), (1, _)] [])⟩
 ·have hk' : k = padN b.length := by
   have hc : ((b.length + 1 + k : Nat) : Int).tmod (64 : Int) = 56 := by simpa using hc
   have e : ((b.length + 1 + k : Nat) : Int).tmod (64 : Int) = (((b.length + 1 + k) % 64 : Nat) : Int) := rfl
   unfold padN at hk ⊢
   omega
  subst hk'
  refine gow0 ?_
  refine ⟨Nat, fun k => [(5, .int .i64 (7 - (k : Int))), (4, .int .u64 ((b.length : Int) * 8)), (3, .ms 1 1 0 (b.length + 1 + padN b.length + k)), (2, .ptr 0 32 0 0 [])], fun k => [(0, ⟨40, 32, false, 0, [keyM (List.replicate 32 0)]⟩), (1, ⟨5, 1, true, 0, u8s (b ++ [128] ++ List.replicate (padN b.length) 0 ++ (List.range k).map (byteAt (8 * b.length)))⟩)], 2, fun k => k ≤ 8, fun k => 8 - k, ⟨0, Nat.zero_le _, (vm [(0, _), (1, _)] [])⟩, ?_⟩
  intro k hk
  refine gow0 ?_
  refine ⟨fun hc => ?_, fun hc => ?_⟩
  ·have hk' : k < 8 := by have := of_decide_eq_true hc; omega
   (repeat ((try conv => whnf); first | (with_reducible refine ⟨_, sv (byteAt_eq _ _ hk'), ?_⟩) | (with_reducible refine Rt.go ?_) | (with_reducible refine Rs.go ?_) | (with_reducible refine or_len ?_) | (with_reducible refine And.intro (Nat.zero_le _) ?_) | (with_reducible refine And.intro rfl ?_) | (with_reducible refine ⟨fun _ => ?_, fun h => Bool.noConfusion h⟩) | (with_reducible refine ⟨fun h => Bool.noConfusion h, fun _ => ?_⟩) | (with_reducible refine ⟨_, sv (add32 _ _), ?_⟩) | (with_reducible refine ⟨_, sv (xor32 _ _), ?_⟩) | (with_reducible refine ⟨_, sv (and32 _ _), ?_⟩) | (with_reducible refine ⟨_, sv (or32 _ _), ?_⟩) | (with_reducible refine ⟨_, sv (not32 _), ?_⟩) | (with_reducible refine ⟨_, sv (shlI _ _ (by omega) (by omega)), ?_⟩) | (with_reducible refine ⟨_, sv (shrI _ _ (by omega) (by omega)), ?_⟩) | (with_reducible refine ⟨_, sv (conv832 _), ?_⟩) | (with_reducible refine ⟨_, sv (conv328 _), ?_⟩) | (with_reducible refine ⟨_, sv (wrap_in _ (by omega) (by omega)), ?_⟩) | (with_reducible refine ⟨_, sv (wrapu_in _ (by omega) (by omega)), ?_⟩) | (with_reducible refine ⟨_, sv (wrap8_in _ (by omega) (by omega)), ?_⟩) | refine ⟨_, rfl, ?_⟩ | refine And.intro (show okDraw _ _ _ = true by kernel_rfl) ?_ | refine And.intro (by omega) ?_))
   (refine And.intro (Nat.le_refl _) ?_; refine ⟨_, rfl, ?_⟩; refine And.intro ⟨pf, app_ok (by kernel_rfl) pf⟩ ?_; refine ⟨u8s (b ++ [128] ++ List.replicate (padN b.length) 0 ++ (List.range (k + 1)).map (byteAt (8 * b.length))), sv pf, b.length + 1 + padN b.length + (k + 1), sv pf, ?_⟩)
   refine gow0 ?_
   exact ⟨k + 1, by show k + 1 ≤ 8; omega, by show 8 - (k + 1) < 8 - k; omega, (vm [(0, _), (1, _)] [])⟩
  ·have hk' : k = 8 := by have := of_decide_eq_false hc; omega
   subst hk'
   have hm : b ++ [128] ++ List.replicate (padN b.length) 0 ++ (List.range 8).map (byteAt (8 * b.length)) = padS b := rfl
   have hl := padS_len b
   have hd := padS_div b
   have hlm : b.length + 1 + padN b.length + 8 = (padS b).length := by omega
   unfold shaS
   dsimp only
   rw [hm, hlm]
   generalize (padS b).length / 64 = q at *
   have hq : (padS b).length < 2000000000 := by omega
   generalize padS b = m at *
   refine gow0 ?_
   refine ⟨Nat, fun k => [(7, .int .i64 ((64 * k : Nat) : Int)), (6, .ptr 1 8 0 0 []), (3, .sl m.length (u8s m)), (2, .ptr 0 32 0 0 [])], fun k => [(0, ⟨40, 32, false, 0, [keyM (List.replicate 32 0)]⟩), (1, ⟨186, 8, false, 0, [(absorb initW m k).toM]⟩)], 2, fun k => k ≤ q, fun k => q - k, ⟨0, Nat.zero_le _, (vm [(0, _), (1, _)] [(1, m.length)])⟩, ?_⟩
   intro k hk
   refine gow0 ?_
   refine ⟨fun hc => ?_, fun hc => ?_⟩
   ·have hk' : k < q := by have := of_decide_eq_true hc; omega
    refine gow0 ?_
    refine ⟨[(0, false), (1, false), (2, false), (3, false), (4, false), (5, false), (6, false), (7, false)], ?_⟩
    refine gow0 ?_
    refine ⟨_, bounds_at (a := 64 * k) (c := 64 * k + 64) rfl (by omega) (by omega) (by omega), head_u8 m, ?_⟩
    refine ⟨u8s ((m.drop (64 * k)).take 64), sv ((cut_u8 _ _ _).trans (by rw [show 64 * k + 64 - 64 * k = 64 by omega])), 64, sv (by omega), ?_⟩
    refine ⟨_, block_m _ _ (by simp; omega), ?_⟩
    refine gow0 ?_
    exact ⟨k + 1, by show k + 1 ≤ q; omega, by show q - (k + 1) < q - k; omega, (vm [(0, _), (1, _)] [])⟩
   ·have hk' : k = q := by have := of_decide_eq_false hc; omega
    subst hk'
    dsimp only
    generalize absorb initW m k = s at *
    refine gow0 ?_
    refine ⟨Nat, fun i => [(52, .int .i64 i), (8, .ptr 2 32 0 0 []), (6, .ptr 1 8 0 0 []), (2, .ptr 0 32 0 0 [])], fun i => [(0, ⟨40, 32, false, 0, [keyM (List.replicate 32 0)]⟩), (1, ⟨186, 8, false, 0, [s.toM]⟩), (2, ⟨40, 32, false, 0, [keyM (outK s i)]⟩)], 3, fun i => i ≤ 32, fun i => 32 - i, ⟨0, Nat.zero_le _, (vm [(0, _), (1, _), (2, _)] [])⟩, ?_⟩
    intro i hi
    refine gow0 ?_
    refine ⟨fun hc => ?_, fun hc => ?_⟩
    ·have hi' : i < 32 := by have := of_decide_eq_true hc; omega
     have hl := outK_len s i
     have e1 : IntKind.i64.wrap ((i : Int).tmod 4 * 8) = ((i % 4 * 8 : Nat) : Int) := by
      have e : (i : Int).tmod 4 = ((i % 4 : Nat) : Int) := rfl
      rw [e, wrap_in _ (by omega) (by omega)]; omega
     have e2 : IntKind.i64.wrap (24 - ((i % 4 * 8 : Nat) : Int)) = ((24 - i % 4 * 8 : Nat) : Int) := by
      rw [wrap_in _ (by omega) (by omega)]; omega
     (repeat ((try conv => whnf); first | (with_reducible refine ⟨_, sv (quo_nat i 4 (by omega)), ?_⟩) | (with_reducible refine Rt.go ?_) | (with_reducible refine Rs.go ?_) | (with_reducible refine or_len ?_) | (with_reducible refine And.intro (Nat.zero_le _) ?_) | (with_reducible refine And.intro rfl ?_) | (with_reducible refine ⟨fun _ => ?_, fun h => Bool.noConfusion h⟩) | (with_reducible refine ⟨fun h => Bool.noConfusion h, fun _ => ?_⟩) | (with_reducible refine ⟨_, sv (add32 _ _), ?_⟩) | (with_reducible refine ⟨_, sv (xor32 _ _), ?_⟩) | (with_reducible refine ⟨_, sv (and32 _ _), ?_⟩) | (with_reducible refine ⟨_, sv (or32 _ _), ?_⟩) | (with_reducible refine ⟨_, sv (not32 _), ?_⟩) | (with_reducible refine ⟨_, sv (shlI _ _ (by omega) (by omega)), ?_⟩) | (with_reducible refine ⟨_, sv (shrI _ _ (by omega) (by omega)), ?_⟩) | (with_reducible refine ⟨_, sv (conv832 _), ?_⟩) | (with_reducible refine ⟨_, sv (conv328 _), ?_⟩) | (with_reducible refine ⟨_, sv (wrap_in _ (by omega) (by omega)), ?_⟩) | (with_reducible refine ⟨_, sv (wrapu_in _ (by omega) (by omega)), ?_⟩) | (with_reducible refine ⟨_, sv (wrap8_in _ (by omega) (by omega)), ?_⟩) | refine ⟨_, rfl, ?_⟩ | refine And.intro (show okDraw _ _ _ = true by kernel_rfl) ?_ | refine And.intro (by omega) ?_))
     refine ⟨_, idx_of (i / 4) rfl (by omega), ?_⟩
     refine gow0 ?_
     refine ⟨_, get8 _ (by omega), ?_⟩
     (repeat ((try conv => whnf); first | (with_reducible refine ⟨_, sv e1, ?_⟩) | (with_reducible refine ⟨_, sv e2, ?_⟩) | (with_reducible refine ⟨_, sv (shr32 _ (24 - i % 4 * 8) (by omega)), ?_⟩) | (with_reducible refine Rt.go ?_) | (with_reducible refine Rs.go ?_) | (with_reducible refine or_len ?_) | (with_reducible refine And.intro (Nat.zero_le _) ?_) | (with_reducible refine And.intro rfl ?_) | (with_reducible refine ⟨fun _ => ?_, fun h => Bool.noConfusion h⟩) | (with_reducible refine ⟨fun h => Bool.noConfusion h, fun _ => ?_⟩) | (with_reducible refine ⟨_, sv (add32 _ _), ?_⟩) | (with_reducible refine ⟨_, sv (xor32 _ _), ?_⟩) | (with_reducible refine ⟨_, sv (and32 _ _), ?_⟩) | (with_reducible refine ⟨_, sv (or32 _ _), ?_⟩) | (with_reducible refine ⟨_, sv (not32 _), ?_⟩) | (with_reducible refine ⟨_, sv (shlI _ _ (by omega) (by omega)), ?_⟩) | (with_reducible refine ⟨_, sv (shrI _ _ (by omega) (by omega)), ?_⟩) | (with_reducible refine ⟨_, sv (conv832 _), ?_⟩) | (with_reducible refine ⟨_, sv (conv328 _), ?_⟩) | (with_reducible refine ⟨_, sv (wrap_in _ (by omega) (by omega)), ?_⟩) | (with_reducible refine ⟨_, sv (wrapu_in _ (by omega) (by omega)), ?_⟩) | (with_reducible refine ⟨_, sv (wrap8_in _ (by omega) (by omega)), ?_⟩) | refine ⟨_, rfl, ?_⟩ | refine And.intro (show okDraw _ _ _ = true by kernel_rfl) ?_ | refine And.intro (by omega) ?_))
     refine ⟨_, idx_at (by omega), ?_⟩
     refine gow0 ?_
     refine ⟨_, key_set (by omega) _, ?_⟩
     refine gow0 ?_
     exact ⟨i + 1, by show i + 1 ≤ 32; omega, by show 32 - (i + 1) < 32 - i; omega, (vm [(0, _), (1, _), (2, _)] [])⟩
    ·have hi' : i = 32 := by have := of_decide_eq_false hc; omega
     subst hi'
     refine gow0 ?_
     rfl
end
section
variable {G : GS}
attribute [local irreducible] vOpsN vOpsG vOpsD vOpGD NextD vC SeqQ BlockQ
theorem msgS_succ (l : List Fld) {k : Nat} (hk : k < l.length) : msgS (l.take (k + 1)) = msgS (l.take k) ++ fieldS l[k] := by
 unfold msgS
 rw [List.take_succ_eq_append_getElem hk, List.map_append, List.flatten_append]; simp
theorem msgS_take (l : List Fld) (k : Nat) : (msgS (l.take k)).length ≤ (msgS l).length := by
 have : msgS (l.take k) ++ msgS (l.drop k) = msgS l := by
  unfold msgS
  rw [← List.flatten_append, ← List.map_append, List.take_append_drop]
 rw [← this, List.length_append]; omega
theorem fieldS_bytes {f : Fld} (hf : okF f) : f.bytes.length ≤ (fieldS f).length := by
 unfold okF at hf
 unfold fieldS
 split
 ·have : f.bytes = [] := by
   rcases hf.2.2 with h | h
   ·exact h.2.1
   ·omega
  rw [this]; simp
 ·simp only [List.length_append]; omega
def halfS : Nat → Nat → Nat → Nat
 | 0, _, k => k
 | f + 1, n, k => if k < n - k then halfS f n (k * 2) else k
theorem halfS_lt : ∀ (f n k : Nat), k < n → 1 ≤ k → 1 ≤ halfS f n k ∧ halfS f n k < n
 | 0, n, k, h, h1 => ⟨h1, h⟩
 | f + 1, n, k, h, h1 => by
  rw [halfS]
  split
  ·exact halfS_lt f n (k * 2) (by omega) (by omega)
  ·exact ⟨h1, h⟩
def hlf (n : Nat) : Nat := halfS n n 1
theorem hlf_lt {n : Nat} (h : 2 ≤ n) : 1 ≤ hlf n ∧ hlf n < n := halfS_lt n n 1 (by omega) (by omega)
theorem half_m (n : Nat) (h2 : 1 ≤ n) (hn : n < 4000000000) : SemC Tryz.prog G 142 [.int .i64 n] (.int .i64 (hlf n)) := by
 generalize hr : hlf n = r
 unfold hlf at hr
 refine scq seat Tryz.func142 12 ?_
 refine go1 ?_
 refine c_loop (Nat × Nat) (fun x => [(3, .int .i64 x.2), (0, .int .i64 n)]) (fun _ => []) 0 (fun x => halfS x.1 n x.2 = r ∧ 1 ≤ x.2 ∧ x.2 ≤ n ∧ n ≤ x.1 + x.2) (fun x => x.1) (n, 1) ⟨hr, by dsimp only; omega, by dsimp only; omega, by dsimp only; omega⟩ (by dsimp only; exact (vm [] [])) ?_
 rintro ⟨f, k⟩ ⟨hk, h1, h3, h4⟩
 try dsimp only
 dsimp only at hk h1 h3 h4
 refine go1 ?_
 refine c_cond rfl (fun h => ?_) (fun h => ?_)
 ·have hlt : k < n - k := by have := of_decide_eq_true h; omega
  match f, hk, h4 with
  | 0, hk, h4 => exfalso; omega
  | f + 1, hk, h4 =>
  rw [halfS, if_pos hlt] at hk
  refine go1 ?_
  refine ⟨(f, k * 2), ⟨hk, by dsimp only; omega, by dsimp only; omega, by dsimp only; omega⟩, by show f < f + 1; omega, ?_⟩
  dsimp only
  rw [show ((k * 2 : Nat) : Int) = (k : Int) * 2 by omega]
  exact (vm [] [])
 ·have hlt : ¬ k < n - k := by have := of_decide_eq_false h; omega
  have : halfS f n k = k := by cases f with | zero => rfl | succ f => rw [halfS, if_neg hlt]
  rw [this] at hk
  subst hk
  refine go1 ?_
  refine go0 ?_
  rfl
theorem rleaf_m (b : List UInt8) (hb : b.length < 400000000) : SemC Tryz.prog G 141 [.sl b.length (u8s b)] (keyM (shaS (0 :: b))) := by
 have c1 := sha_m (G := G) (0 :: b) (by simp only [List.length_cons]; omega)
 rw [List.length_cons] at c1
 refine scq seat Tryz.func141 7 ?_
 refine go1 ?_
 refine g_mem rfl rfl (by intro R hR; refine sms hR ?_; refine And.intro (head_b b) ?_; refine And.intro ⟨(by simp [setL, repM]), app_ok (by kernel_rfl) pf⟩ ?_; refine ⟨u8s (0 :: b), sv (by simp [u8s, setL, repM]), b.length + 1, sv pf, ?_⟩; exact hR) rfl ?_
 refine go1 ?_
 refine g_call1 rfl (fun _ h => h) rfl (semR_of_semC (c1)) rfl [(3, b.length + 1)] mm lm ?_
 refine go1 ?_
 refine go0 ?_
 rfl
end
section
variable {G : GS}
attribute [local irreducible] vOpsN vOpsG vOpsD vOpGD NextD vC SeqQ BlockQ
theorem cut_key {a : List UInt8} (ha : a.length = 32) : cutL (u8s a) 0 32 = u8s a := by rw [cut_u8, List.drop_zero, List.take_of_length_le (by omega)]
theorem rinner_m (a b : List UInt8) (ha : a.length = 32) (hb : b.length = 32) : SemC Tryz.prog G 143 [keyM a, keyM b] (keyM (shaS (1 :: (a ++ b)))) := by
 have c1 := sha_m (G := G) (1 :: (a ++ b)) (by simp only [List.length_cons, List.length_append]; omega)
 have hql : (1 :: (a ++ b) : List UInt8).length = 65 := by simp only [List.length_cons, List.length_append]; omega
 generalize hq : (1 :: (a ++ b) : List UInt8) = q at *
 refine scq seat Tryz.func143 11 ?_
 refine go1 ?_
 refine c_draw [(0, false), (1, false), (2, false), (3, false), (4, false), (5, true), (6, false)] ?_
 refine go1 ?_
 refine gd_mem rfl (by intro R hR; refine sms hR ?_; refine And.intro (head_cut a 0 32) ?_; refine And.intro ⟨(by simp [setL, repM]), app_ok (by kernel_rfl) pf⟩ ?_; refine ⟨u8s (1 :: a), sv (by rw [cut_key ha]; simp [u8s, setL, repM]), 33, sv pf, ?_⟩; exact hR) rfl ?_
 refine go1 ?_
 refine gd_mem rfl (by intro R hR; refine sms hR ?_; refine And.intro (head_cut b 0 32) ?_; refine And.intro ⟨(by simp [u8s, ha]), app_ok (by kernel_rfl) pf⟩ ?_; refine ⟨u8s q, sv (by rw [cut_key hb, ← hq]; simp [u8s]), q.length, sv pf, ?_⟩; exact hR) rfl ?_
 refine go1 ?_
 refine gd_call1 rfl (fun _ h => h) rfl [7] (semR_of_semC (c1)) rfl [(7, q.length)] mm lm rfl ?_
 refine go1 ?_
 refine go0 ?_
 rfl
def rawM (b : List UInt8) : MV := .sl b.length (u8s b)
def rootF : Nat → List (List UInt8) → List UInt8
 | 0, _ => shaS []
 | f + 1, l => match l with
  | [] => shaS []
  | [b] => shaS (0 :: b)
  | l => shaS (1 :: (rootF f (l.take (hlf l.length)) ++ rootF f (l.drop (hlf l.length))))
def rootS (l : List (List UInt8)) : List UInt8 := rootF l.length l
theorem rootF_two (f : Nat) {l : List (List UInt8)} (h : 2 ≤ l.length) : rootF (f + 1) l = shaS (1 :: (rootF f (l.take (hlf l.length)) ++ rootF f (l.drop (hlf l.length)))) := by
 match l, h with
 | a :: b :: r, _ => rfl
theorem rootF_len : ∀ (f : Nat) (l : List (List UInt8)), (rootF f l).length = 32
 | 0, _ => shaS_len _
 | f + 1, l => match l with
  | [] => shaS_len _
  | [_] => shaS_len _
  | _ :: _ :: _ => shaS_len _
theorem rootF_more : ∀ (f g : Nat) (l : List (List UInt8)), l.length ≤ f → l.length ≤ g → rootF f l = rootF g l
 | 0, g, l, h, _ => by
  obtain rfl := List.length_eq_zero_iff.1 (by omega : l.length = 0)
  cases g <;> rfl
 | f + 1, 0, l, _, h => by
  obtain rfl := List.length_eq_zero_iff.1 (by omega : l.length = 0)
  rfl
 | f + 1, g + 1, l, hf, hg => by
  match l with
  | [] => rfl
  | [b] => rfl
  | a :: b :: r =>
   have h2 : 2 ≤ (a :: b :: r).length := by simp only [List.length_cons]; omega
   rw [rootF_two f h2, rootF_two g h2]
   have := hlf_lt h2
   rw [rootF_more f g _ (by rw [List.length_take]; omega) (by rw [List.length_take]; omega), rootF_more f g _ (by rw [List.length_drop]; omega) (by rw [List.length_drop]; omega)]
theorem rootS_two {l : List (List UInt8)} (h : 2 ≤ l.length) : rootS l = shaS (1 :: (rootS (l.take (hlf l.length)) ++ rootS (l.drop (hlf l.length)))) := by
 obtain ⟨f, hf⟩ : ∃ f, l.length = f + 1 := ⟨l.length - 1, by omega⟩
 have := hlf_lt h
 unfold rootS
 rw [hf, rootF_two f h]
 rw [rootF_more f (l.take (hlf l.length)).length _ (by rw [List.length_take]; omega) (Nat.le_refl _), rootF_more f (l.drop (hlf l.length)).length _ (by rw [List.length_drop]; omega) (Nat.le_refl _), ← hf]
theorem rootS_len (l : List (List UInt8)) : (rootS l).length = 32 := rootF_len _ _
theorem cut_take {α : Type} (f : α → MV) (l : List α) (k : Nat) : cutL (l.map f) 0 k = (l.take k).map f := by simp [cutL, List.map_take]
theorem cut_drop {α : Type} (f : α → MV) (l : List α) (k : Nat) : cutL (l.map f) k l.length = (l.drop k).map f := by
 unfold cutL
 rw [List.take_of_length_le (by rw [List.length_drop, List.length_map]; omega), List.map_drop]
theorem head_raw : ∀ (l : List (List UInt8)), headSize (l.map rawM) 1 = true
 | [] => rfl
 | _ :: _ => rfl
theorem rroot_m : ∀ (f : Nat) (l : List (List UInt8)), l.length ≤ f → l.length < 1000000 → (∀ b ∈ l, b.length < 300000000) → SemC Tryz.prog G 97 [.sl l.length (l.map rawM)] (keyM (rootS l)) := by
 intro f
 induction f with
 | zero =>
  intro l hl _ _
  obtain rfl := List.length_eq_zero_iff.1 (by omega : l.length = 0)
  have c1 := sha_m (G := G) [] (by simp)
  refine scq seat Tryz.func97 27 ?_
  refine go1 ?_
  refine yv (c1) ?_
  refine go1 ?_
  refine go0 ?_
  rfl
 | succ f ih =>
  intro l hl hn hb
  match hh : l with
  | [] =>
   have c1 := sha_m (G := G) [] (by simp)
   refine scq seat Tryz.func97 27 ?_
   refine go1 ?_
   refine yv (c1) ?_
   refine go1 ?_
   refine go0 ?_
   rfl
  | [b] =>
   have c1 := rleaf_m (G := G) b (by have := hb b (by simp); omega)
   refine scq seat Tryz.func97 27 ?_
   refine go1 ?_
   refine yv (c1) ?_
   refine go1 ?_
   refine go0 ?_
   rfl
  | a :: b :: r =>
   rw [← hh] at hl hn hb ⊢
   have h2 : 2 ≤ l.length := by rw [hh]; simp only [List.length_cons]; omega
   clear hh
   obtain ⟨k1, k2⟩ := hlf_lt h2
   have ch := half_m (G := G) l.length (by omega) (by omega)
   have c1 := ih (l.take (hlf l.length)) (by rw [List.length_take]; omega) (by rw [List.length_take]; omega) fun x hx => hb x (List.mem_of_mem_take hx)
   have c2 := ih (l.drop (hlf l.length)) (by rw [List.length_drop]; omega) (by rw [List.length_drop]; omega) fun x hx => hb x (List.mem_of_mem_drop hx)
   have c3 := rinner_m (G := G) (rootS (l.take (hlf l.length))) (rootS (l.drop (hlf l.length))) (rootS_len _) (rootS_len _)
   rw [rootS_two h2]
   rw [List.length_take, Nat.min_eq_left (by omega), ← cut_take] at c1
   rw [List.length_drop, ← cut_drop] at c2
   generalize hlf l.length = k at *
   refine scq seat Tryz.func97 27 ?_
   refine go1 ?_
   refine c_cond rfl (fun h => ?_) (fun h => ?_)
   ·exfalso
    have : (l.length : Int) = 0 := by simpa using h
    omega
   refine go1 ?_
   refine c_cond rfl (fun h => ?_) (fun h => ?_)
   ·exfalso
    have : (l.length : Int) = 1 := by simpa using h
    omega
   refine go1 ?_
   refine yv (ch) ?_
   refine go1 ?_
   refine c_draw [(0, false), (1, false), (2, false), (3, true), (4, false), (5, false), (6, false), (7, true), (8, true), (9, false)] ?_
   (have fct := SomF.mk (bndHi (κ := .i64) (Nat.le_of_lt k2)); have fct := SomF.mk (bndLo (κ := .i64) (Nat.le_of_lt k2)); have fct := SideF.mk (head_raw l); refine go1 ?_)
   refine ydv (c1) ?_
   refine go1 ?_
   refine ydv (c2) ?_
   refine go1 ?_
   refine ydv (c3) ?_
   refine go1 ?_
   refine go0 ?_
   rfl
end
section
variable {G : GS}
attribute [local irreducible] vOpsN vOpsG vOpsD vOpGD NextD vC SeqQ BlockQ
theorem neg_u64 {n : Nat} (h0 : 0 < n) (h1 : n < 32) : IntKind.u64.wrap (0 - (n : Int)) = ((18446744073709551616 - n : Nat) : Int) := by rw [wu64]; omega
theorem and31 {n : Nat} (h0 : 0 < n) (h1 : n < 32) : IntKind.u64.wrap ((BitVec.ofInt IntKind.u64.bits ((18446744073709551616 - n : Nat) : Int) &&& BitVec.ofInt IntKind.u64.bits (31 : Int)).toNat : Int) = ((32 - n : Nat) : Int) := by
 have e : (18446744073709551616 - n) &&& 31 = 32 - n := by
  have := Nat.and_two_pow_sub_one_eq_mod (18446744073709551616 - n) 5
  rw [show (2 ^ 5 - 1 : Nat) = 31 by rfl] at this
  rw [this]; omega
 rw [BitVec.toNat_and, bv_of _ _ (show 18446744073709551616 - n < 2 ^ IntKind.u64.bits by show _ < 18446744073709551616; omega), show (BitVec.ofInt IntKind.u64.bits (31 : Int)).toNat = 31 by rfl, e, wu64]
 omega
theorem sub32 {n : Nat} (h0 : 0 < n) (h1 : n < 32) : IntKind.u64.wrap (32 - ((32 - n : Nat) : Int)) = (n : Int) := by rw [wu64]; omega
theorem rot_m (x : UInt32) (n : Nat) (h0 : 0 < n) (h1 : n < 32) : SemC Tryz.prog G 243 [u32M x, .int .i64 (0 - (n : Int))] (u32M (turnU x n)) := by
 have e : turnU x n = (x <<< UInt32.ofNat (32 - n)) ||| (x >>> UInt32.ofNat n) := by unfold turnU; rw [UInt32.or_comm]
 refine scq seat Tryz.func243 17 ?_
 (have fct := EqF.mk (neg_u64 h0 h1); have fct := EqF.mk (and31 h0 h1); have fct := EqF.mk (sub32 h0 h1); have fct := EqF.mk (shl32 x (32 - n) (by omega)); have fct := EqF.mk (shr32 x n h1); refine gow1 ?_)
 refine go0 ?_
 exact congrArg u32M e.symm
theorem right_m' (x : UInt32) (n : Nat) (h0 : 0 < n) (h1 : n < 32) : SemC Tryz.prog G 229 [u32M x, .int .i64 n] (u32M (turnU x n)) := by
 have c1 := rot_m (G := G) x n h0 h1
 refine scq seat Tryz.func229 9 ?_
 refine go1 ?_
 refine yv (c1) ?_
 refine go1 ?_
 refine go0 ?_
 rfl
def bitsN (n : Nat) : Nat := if n = 0 then 0 else n.log2 + 1
theorem tab_at {l : List UInt8} (hl : l = (List.range 256).map fun i => UInt8.ofNat (bitsN i)) {j : Nat} (hj : j < 256) : idxS l (j : Int) = some (UInt8.ofNat (bitsN j)) := by
 subst hl
 unfold idxS
 rw [if_pos (by omega)]
 simp [hj]
theorem bitsN_spec {n : Nat} (h : 0 < n) : ∃ k, bitsN n = k + 1 ∧ 2 ^ k ≤ n ∧ n < 2 ^ (k + 1) := ⟨n.log2, by unfold bitsN; rw [if_neg (by omega)], Nat.log2_self_le (by omega), Nat.lt_log2_self⟩
theorem bitsN_small {n : Nat} (h : n < 256) : bitsN n ≤ 8 := by
 rcases Nat.eq_zero_or_pos n with rfl | h0
 ·decide
 ·obtain ⟨k, h1, h2, _⟩ := bitsN_spec h0
  rw [h1]
  rcases Nat.lt_or_ge k 8 with h3 | h3
  ·omega
  ·have : 2 ^ 8 ≤ 2 ^ k := Nat.pow_le_pow_right (by omega) h3
   omega
theorem shr8_64 (m : Nat) : ((m : Int).fdiv (2 ^ (min (8 : Int).toNat IntKind.u64.bits))) = ((m / 256 : Nat) : Int) := by
 rw [show min (8 : Int).toNat IntKind.u64.bits = 8 by rfl, Int.fdiv_eq_ediv_of_nonneg _ (by decide)]
 exact (Int.natCast_ediv m 256).symm
theorem len64_m (x : Nat) (h0 : 0 < x) (hx : x < 65536) : ∃ k, 2 ^ k ≤ x ∧ x < 2 ^ (k + 1) ∧ SemC Tryz.prog G 242 [.int .u64 x] (.int .i64 ((k + 1 : Nat) : Int)) := by
 by_cases hs : x < 256
 ·obtain ⟨k, hk, h1, h2⟩ := bitsN_spec h0
  have hy : x < 256 := hs
  have hb := bitsN_small hs
  refine ⟨k, h1, h2, ?_⟩
  rw [← hk]
  have hn : (UInt8.ofNat (bitsN x)).toNat = bitsN x := ofNat_toNat (by omega)
  refine scq seat Tryz.func242 25 ?_
  refine go1 ?_
  refine c_cond rfl (fun h => ?_) (fun h => ?_)
  ·exfalso
   have := of_decide_eq_true h
   omega
  refine go1 ?_
  refine c_cond rfl (fun h => ?_) (fun h => ?_)
  ·exfalso
   have := of_decide_eq_true h
   omega
  refine go1 ?_
  refine c_cond rfl (fun h => ?_) (fun h => ?_)
  ·exfalso
   have := of_decide_eq_true h
   omega
  refine go1 ?_
  ((with_reducible apply g_val); (case hq => exact rfl); (case hv => exact rfl); (case he => (intro R hR; (try conv => whnf); refine ⟨_, tab_at (by kernel_rfl) hy, ?_⟩; exact hR)); (case hd => exact rfl))
  rw [hn]
  refine go1 ?_
  refine go0 ?_
  exact congrArg (MV.int .i64) (by omega)
 ·have hd0 : 0 < x / 256 := by omega
  have hy : x / 256 < 256 := by omega
  obtain ⟨k, hk, h1, h2⟩ := bitsN_spec hd0
  have hb := bitsN_small hy
  have p1 : 2 ^ (k + 8) = 2 ^ k * 256 := by rw [Nat.pow_add]
  have p2 : 2 ^ (k + 8 + 1) = 2 ^ (k + 1) * 256 := by rw [show k + 8 + 1 = k + 1 + 8 by omega, Nat.pow_add]
  refine ⟨k + 8, by rw [p1]; omega, by rw [p2]; omega, ?_⟩
  rw [show k + 8 + 1 = 8 + bitsN (x / 256) by omega]
  have hn : (UInt8.ofNat (bitsN (x / 256))).toNat = bitsN (x / 256) := ofNat_toNat (by omega)
  have hsh := shr8_64 x
  generalize x / 256 = y at *
  refine scq seat Tryz.func242 25 ?_
  refine go1 ?_
  refine c_cond rfl (fun h => ?_) (fun h => ?_)
  ·exfalso
   have := of_decide_eq_true h
   omega
  refine go1 ?_
  refine c_cond rfl (fun h => ?_) (fun h => ?_)
  ·exfalso
   have := of_decide_eq_true h
   omega
  refine go1 ?_
  refine c_cond rfl (fun h => ?_) (fun h => ?_)
  rotate_left
  ·exfalso
   have := of_decide_eq_false h
   omega
  (have fct := EqF.mk (hsh); refine go1 ?_)
  ((with_reducible apply g_val); (case hq => exact rfl); (case hv => exact rfl); (case he => (intro R hR; (try conv => whnf); refine ⟨_, tab_at (by kernel_rfl) hy, ?_⟩; exact hR)); (case hd => exact rfl))
  rw [hn]
  refine go1 ?_
  refine go0 ?_
  exact congrArg (MV.int .i64) (by omega)
theorem halfS_pow : ∀ (f n k : Nat), k < n → 1 ≤ k → n ≤ f + k → ∃ m, halfS f n k = k * 2 ^ m ∧ k * 2 ^ m < n ∧ n ≤ 2 * (k * 2 ^ m)
 | 0, n, k, h, h1, hf => by omega
 | f + 1, n, k, h, h1, hf => by
  rw [halfS]
  split
  ·obtain ⟨m, q1, q2, q3⟩ := halfS_pow f n (k * 2) (by omega) (by omega) (by omega)
   have e : k * 2 * 2 ^ m = k * 2 ^ (m + 1) := by rw [Nat.pow_succ, Nat.mul_assoc, Nat.mul_comm 2]
   rw [e] at q1 q2 q3
   exact ⟨m + 1, q1, q2, q3⟩
  ·exact ⟨0, by simp, by simpa using h, by simp; omega⟩
theorem hlf_pow {n k : Nat} (h2 : 2 ≤ n) (h1 : 2 ^ k ≤ n - 1) (h3 : n - 1 < 2 ^ (k + 1)) : hlf n = 2 ^ k := by
 obtain ⟨m, q1, q2, q3⟩ := halfS_pow n n 1 (by omega) (by omega) (by omega)
 rw [Nat.one_mul] at q1 q2 q3
 unfold hlf
 rw [q1]
 have e : m = k := by
  rcases Nat.lt_trichotomy m k with h | h | h
  ·have h4 : 2 ^ (m + 1) ≤ 2 ^ k := Nat.pow_le_pow_right (by omega) h
   rw [Nat.pow_succ] at h4; omega
  ·exact h
  ·have h4 : 2 ^ (k + 1) ≤ 2 ^ m := Nat.pow_le_pow_right (by omega) h
   omega
 rw [e]
theorem shl1 {k : Nat} (h : k < 62) : IntKind.i64.wrap (1 * 2 ^ (min (k : Int).toNat IntKind.i64.bits)) = ((2 ^ k : Nat) : Int) := by
 have e : min (k : Int).toNat IntKind.i64.bits = k := by simp [IntKind.bits]; omega
 have h4 : 2 ^ k ≤ 2 ^ 61 := Nat.pow_le_pow_right (by omega) (by omega)
 have e2 : (1 * 2 ^ k : Int) = ((2 ^ k : Nat) : Int) := by rw [Int.one_mul, Int.natCast_pow]; rfl
 rw [e, e2]
 generalize 2 ^ k = p at *
 exact wrap_in _ (by omega) (by omega)
theorem phalf_m (n : Nat) (h2 : 2 ≤ n) (hn : n < 65536) : SemC Tryz.prog G 208 [.int .i64 n] (.int .i64 (hlf n)) := by
 obtain ⟨k, h1, h3, c1⟩ := len64_m (G := G) (n - 1) (by omega) (by omega)
 rw [hlf_pow h2 h1 h3]
 have hk : k < 62 := by
  rcases Nat.lt_or_ge k 62 with h | h
  ·exact h
  ·have : 2 ^ 62 ≤ 2 ^ k := Nat.pow_le_pow_right (by omega) h
   omega
 have c2 : SemC Tryz.prog G 225 [.int .u64 ((n - 1 : Nat) : Int)] (.int .i64 ((k + 1 : Nat) : Int)) := by
  refine scq seat Tryz.func225 8 ?_
  refine go1 ?_
  refine yv (c1) ?_
  refine go1 ?_
  refine go0 ?_
  rfl
 have e : (((k + 1 : Nat) : Int)) - 1 = (k : Int) := by omega
 have hs := shl1 hk
 refine scq seat Tryz.func208 9 ?_
 refine go1 ?_
 refine yv (c2) ?_
 have ew : IntKind.i64.wrap (((k + 1 : Nat) : Int) - 1) = (k : Int) := (wrap_in _ (by omega) (by omega)).trans e
 (have fct := EqF.mk (ew); have fct := EqF.mk (hs); refine go1 ?_)
 refine go0 ?_
 rfl
end
section
variable {G : GS}
theorem schedule_m (b : List UInt8) (hb : b.length = 64) : SemC Tryz.prog G 227 [.sl 64 (u8s b)] (wsM (moreW b 48)) := by
 refine scq seat Tryz.func227 93 ?_
 refine gow0 ?_
 refine ⟨Nat, fun t => [(10, .int .i64 t), (3, .ptr 1 64 0 0 []), (2, .ptr 0 64 0 0 []), (0, .sl 64 (u8s b))], fun t => [(0, ⟨249, 64, false, 0, [wsM (List.replicate 64 0)]⟩), (1, ⟨249, 64, false, 0, [wsM (fillW b t)]⟩)], 2, fun t => t ≤ 16, fun t => 16 - t, ⟨0, by omega, (vm [(0, _), (1, _)] [])⟩, ?_⟩
 intro t ht
 refine gow0 ?_
 refine ⟨fun hc => ?_, fun hc => ?_⟩
 ·have ht' : t < 16 := by have := of_decide_eq_true hc; omega
  have hl := fillW_len b t
  refine gow0 ?_
  refine ⟨[(0, false), (1, false), (2, false), (3, false), (4, false), (5, false), (6, false), (7, false), (8, false), (9, false), (10, false), (11, false), (12, false), (13, false), (14, false), (15, false), (16, false), (17, false), (18, false), (19, false), (20, false), (21, false), (22, false), (23, false), (24, false), (25, false), (26, false), (27, false), (28, false), (29, false), (30, false), (31, false), (32, false), (33, false), (34, false), (35, false)], ?_⟩
  refine gow0 ?_
  refine ⟨_, index_of (4 * t) (by omega) (by omega) (u8_at (by omega)), ?_⟩
  refine gow0 ?_
  refine ⟨_, index_of (4 * t + 1) (by omega) (by omega) (u8_at (by omega)), ?_⟩
  refine gow0 ?_
  refine ⟨_, index_of (4 * t + 2) (by omega) (by omega) (u8_at (by omega)), ?_⟩
  refine gow0 ?_
  refine ⟨_, index_of (4 * t + 3) (by omega) (by omega) (u8_at (by omega)), ?_⟩
  refine gow0 ?_
  refine ⟨_, idx_at (by omega), ?_⟩
  refine gow0 ?_
  refine ⟨_, ws_set (by omega) _, ?_⟩
  refine gow0 ?_
  exact ⟨t + 1, by omega, by show 16 - (t + 1) < 16 - t; omega, (vm [(0, _), (1, _)] [])⟩
 ·have ht' : t = 16 := by have := of_decide_eq_false hc; omega
  subst ht'
  refine gow0 ?_
  refine ⟨Nat, fun t => [(5, .int .i64 ((16 + t : Nat) : Int)), (3, .ptr 1 64 0 0 []), (2, .ptr 0 64 0 0 [])], fun t => [(0, ⟨249, 64, false, 0, [wsM (List.replicate 64 0)]⟩), (1, ⟨249, 64, false, 0, [wsM (moreW b t)]⟩)], 2, fun t => t ≤ 48, fun t => 48 - t, ⟨0, by omega, (vm [(0, _), (1, _)] [])⟩, ?_⟩
  intro t ht
  refine gow0 ?_
  refine ⟨fun hc => ?_, fun hc => ?_⟩
  ·have ht' : t < 48 := by have := of_decide_eq_true hc; omega
   have hl := moreW_len b t
   refine gow0 ?_
   refine ⟨[(0, false), (1, false), (2, false), (3, false), (4, false), (5, false), (6, false), (7, false), (8, false), (9, false)], ?_⟩
   refine gow0 ?_
   refine ⟨_, idx_of (16 + t - 15) (by omega) (by omega), ?_⟩
   refine gow0 ?_
   refine ⟨_, ws_get (by omega), ?_⟩
   refine gow0 ?_
   refine ⟨_, idx_of (16 + t - 2) (by omega) (by omega), ?_⟩
   refine gow0 ?_
   refine ⟨_, ws_get (by omega), ?_⟩
   refine gow0 ?_
   refine .inl ⟨_, right_m' _ 7 (by omega) (by omega), ?_⟩
   refine gow0 ?_
   refine .inl ⟨_, right_m' _ 18 (by omega) (by omega), ?_⟩
   refine gow0 ?_
   refine .inl ⟨_, right_m' _ 17 (by omega) (by omega), ?_⟩
   refine gow0 ?_
   refine .inl ⟨_, right_m' _ 19 (by omega) (by omega), ?_⟩
   refine gow0 ?_
   refine ⟨[(0, false), (1, false), (2, false), (3, false), (4, false), (5, false), (6, false), (7, false), (8, false), (9, false), (10, false), (11, false), (12, false), (13, false), (14, false), (15, false)], ?_⟩
   refine gow0 ?_
   refine ⟨_, idx_of (16 + t - 7) (by omega) (by omega), ?_⟩
   refine gow0 ?_
   refine ⟨_, ws_get (by omega), ?_⟩
   refine gow0 ?_
   refine ⟨_, idx_of (16 + t - 16) (by omega) (by omega), ?_⟩
   refine gow0 ?_
   refine ⟨_, ws_get (by omega), ?_⟩
   refine gow0 ?_
   refine ⟨_, idx_of (16 + t) (by omega) (by omega), ?_⟩
   refine gow0 ?_
   refine ⟨_, ws_set (by omega) _, ?_⟩
   refine gow0 ?_
   exact ⟨t + 1, by show t + 1 ≤ 48; omega, by show 48 - (t + 1) < 48 - t; omega, (vm [(0, _), (1, _)] [])⟩
  ·have ht' : t = 48 := by have := of_decide_eq_false hc; omega
   subst ht'
   refine gow0 ?_
   rfl
set_option maxRecDepth 40000 in
theorem rounds_r : SemR Tryz.prog G 228 [] [] 0 (.ptr 0 64 0 0 []) [(0, ⟨249, 64, false, 0, [wsM kL]⟩)] 1 := by
 refine srq seat Tryz.func228 3 ?_
 refine go1 ?_
 exact eb [_] [(0, 2)] []
set_option maxRecDepth 40000 in
theorem begin_m : SemC Tryz.prog G 210 [] initW.toM := by
 refine scq seat Tryz.func210 2 ?_
 refine go1 ?_
 refine go0 ?_
 rfl
def roundP (k w : UInt32) (s : W8) : W8 := ⟨tmp1 k w s + (turnU s.a 2 ^^^ turnU s.a 13 ^^^ turnU s.a 22) + (s.a &&& s.b ^^^ s.a &&& s.c ^^^ s.b &&& s.c), s.a, s.b, s.c, s.d + tmp1 k w s, s.e, s.f, s.g⟩
theorem roundP_eq (k w : UInt32) (s : W8) : roundS k w s = roundP k w s := by
 unfold roundS roundP tmp2
 rw [UInt32.add_assoc]
theorem wblock_m (h : W8) (b : List UInt8) (hb : b.length = 64) : SemC Tryz.prog G 211 [h.toM, .sl 64 (u8s b)] (blockS h b).toM := by
 have c1 := schedule_m (G := G) b hb
 have hl := moreW_len b 48
 have hk : kL.length = 64 := rfl
 have c2 := rounds_r (G := G)
 unfold blockS
 generalize moreW b 48 = ws at *
 generalize kL = kl at *
 refine scq seat Tryz.func211 119 ?_
 refine gow1 ?_
 refine yv (c1) ?_
 refine gow1 ?_
 refine yc (c2) [] ?_
 refine gow1 ?_
 refine ⟨Nat, fun t => [(21, .int .i64 t), (7, .ptr 4 8 0 0 []), (6, .ptr 3 64 0 0 []), (5, .ptr 2 64 0 0 []), (4, .ptr 1 8 0 0 []), (2, .ptr 0 8 0 0 [])], fun t => [(0, ⟨315, 8, false, 0, [h.toM]⟩), (1, ⟨315, 8, false, 0, [W8.toM ⟨0, 0, 0, 0, 0, 0, 0, 0⟩]⟩), (2, ⟨249, 64, false, 0, [wsM ws]⟩), (3, ⟨249, 64, false, 0, [wsM kl]⟩), (4, ⟨315, 8, false, 0, [(rounds kl ws h t).toM]⟩)], 5, fun t => t ≤ 64, fun t => 64 - t, ⟨0, by omega, (vm [(0, 0), (1, 1), (2, 4), (3, 3), (4, 8)] [])⟩, ?_⟩
 intro t ht
 refine gow0 ?_
 refine ⟨fun hc => ?_, fun hc => ?_⟩
 ·have ht' : t < 64 := by have := of_decide_eq_true hc; omega
  have hr : rounds kl ws h (t + 1) = roundP (kl.getD t 0) (ws.getD t 0) (rounds kl ws h t) := roundP_eq _ _ _
  dsimp only
  generalize rounds kl ws h t = s at *
  refine gow0 ?_
  refine ⟨[(0, false), (1, false), (2, false), (3, false), (4, false), (5, false)], ?_⟩
  refine gow0 ?_
  refine .inl ⟨_, right_m' _ 6 (by omega) (by omega), ?_⟩
  refine gow0 ?_
  refine .inl ⟨_, right_m' _ 11 (by omega) (by omega), ?_⟩
  refine gow0 ?_
  refine .inl ⟨_, right_m' _ 25 (by omega) (by omega), ?_⟩
  refine gow0 ?_
  refine ⟨[(0, false), (1, false), (2, false), (3, false), (4, false), (5, false), (6, false), (7, false), (8, false), (9, false), (10, false), (11, false), (12, false), (13, false), (14, false), (15, false), (16, false)], ?_⟩
  refine gow0 ?_
  refine ⟨_, idx_at (by omega), ?_⟩
  refine gow0 ?_
  refine ⟨_, ws_get (by omega), ?_⟩
  refine gow0 ?_
  refine ⟨_, idx_at (by omega), ?_⟩
  refine gow0 ?_
  refine ⟨_, ws_get (by omega), ?_⟩
  refine gow0 ?_
  refine .inl ⟨_, right_m' _ 2 (by omega) (by omega), ?_⟩
  refine gow0 ?_
  refine .inl ⟨_, right_m' _ 13 (by omega) (by omega), ?_⟩
  refine gow0 ?_
  refine .inl ⟨_, right_m' _ 22 (by omega) (by omega), ?_⟩
  refine gow0 ?_
  exact ⟨t + 1, by show t + 1 ≤ 64; omega, by show 64 - (t + 1) < 64 - t; omega, (by dsimp only; rw [hr]; exact (vm [(0, _), (1, _), (2, _), (3, _), (4, _)] []))⟩
 ·have ht' : t = 64 := by have := of_decide_eq_false hc; omega
  subst ht'
  dsimp only
  generalize rounds kl ws h 64 = s at *
  refine gow0 ?_
  refine ⟨Nat, fun i => [(106, .int .i64 i), (7, .ptr 2 8 0 0 []), (4, .ptr 1 8 0 0 []), (2, .ptr 0 8 0 0 [])], fun i => [(0, ⟨315, 8, false, 0, [(addW h s i).toM]⟩), (1, ⟨315, 8, false, 0, [W8.toM ⟨0, 0, 0, 0, 0, 0, 0, 0⟩]⟩), (2, ⟨315, 8, false, 0, [s.toM]⟩)], 3, fun i => i ≤ 8, fun i => 8 - i, ⟨0, by omega, (vm [(0, 0), (1, 1), (2, 4)] [])⟩, ?_⟩
  intro i hi
  refine gow0 ?_
  refine ⟨fun hc => ?_, fun hc => ?_⟩
  ·have hi' : i < 8 := by have := of_decide_eq_true hc; omega
   refine gow0 ?_
   refine ⟨[(0, false), (1, false), (2, false), (3, false), (4, false), (5, false), (6, false), (7, false), (8, false)], ?_⟩
   refine gow0 ?_
   refine ⟨_, idx_at (by omega), ?_⟩
   refine gow0 ?_
   refine ⟨_, get8 _ hi', ?_⟩
   refine gow0 ?_
   refine ⟨_, idx_at (by omega), ?_⟩
   refine gow0 ?_
   refine ⟨_, get8 _ hi', ?_⟩
   refine gow0 ?_
   refine ⟨_, idx_at (by omega), ?_⟩
   refine gow0 ?_
   refine ⟨_, set8 h s hi', ?_⟩
   refine gow0 ?_
   exact ⟨i + 1, by show i + 1 ≤ 8; omega, by show 8 - (i + 1) < 8 - i; omega, (vm [(0, _), (1, _), (2, _)] [])⟩
  ·have hi' : i = 8 := by have := of_decide_eq_false hc; omega
   subst hi'
   refine gow0 ?_
   rfl
end
section
variable {G : GS}
attribute [local irreducible] vOpsN vOpsG vOpsD vOpGD NextD vC SeqQ BlockQ
theorem absorb_app (s : W8) (m b : List UInt8) : ∀ q, 64 * q ≤ m.length → absorb s (m ++ b) q = absorb s m q
 | 0, _ => rfl
 | q + 1, h => by
  rw [absorb, absorb, absorb_app s m b q (by omega)]
  congr 1
  rw [List.drop_append_of_le_length (by omega), List.take_append_of_le_length (by rw [List.length_drop]; omega)]
def digM (m : List UInt8) : MV := .st [(absorb initW m (m.length / 64)).toM, .sl (m.length % 64) (u8s (m.drop (64 * (m.length / 64)))), .int .i64 m.length]
def digB (m : List UInt8) : VM := [(0, ⟨318, 10, false, 0, [digM m]⟩)]
abbrev digP : MV := .ptr 0 10 0 0 []
set_option maxRecDepth 40000 in
theorem new_r : SemR Tryz.prog G 165 [] [] 0 digP (digB []) 1 := by
 unfold digB digM
 refine srq seat Tryz.func165 4 ?_
 refine go1 ?_
 refine yv (begin_m) ?_
 refine go1 ?_
 refine ⟨[_], [(0, 2)], [], rfl, rfl, trivial, rfl, ⟨?_, trivial⟩, ?_⟩
 ·exact rv
 ·exact ⟨.inr ⟨_, _, rfl, rfl, rfl, rfl, .inl rfl, .inl rfl, .inr ⟨.inr ⟨_, rfl, ⟨rfl, rfl⟩, .inr ⟨rfl, rfl⟩, ⟨rfl, rfl⟩, trivial⟩, trivial⟩⟩, trivial⟩
theorem write_r (m b : List UInt8) (hm : m.length + b.length < 1000000000) : SemR Tryz.prog G 166 [digP, .sl b.length (u8s b)] (digB m) 1 (.tup []) (digB (m ++ b)) 1 := by
 have hq : 64 * (m.length / 64) ≤ m.length := by omega
 have hz : m.drop (64 * (m.length / 64)) ++ b = (m ++ b).drop (64 * (m.length / 64)) := (List.drop_append_of_le_length hq).symm
 have hl0 : (m.drop (64 * (m.length / 64))).length = m.length % 64 := by rw [List.length_drop]; omega
 have hab := absorb_app initW m b (m.length / 64) hq
 have hlen : (m ++ b).length = m.length + b.length := List.length_append
 unfold digB digM
 rw [← hab]
 generalize hM : m ++ b = M at *
 generalize hqq : m.length / 64 = q at *
 generalize hr0 : m.drop (64 * q) = r0 at *
 rw [← hl0]
 refine srq seat Tryz.func166 43 ?_
 refine go1 ?_
 refine g_mem rfl rfl (by intro R hR; refine sms hR ?_; refine And.intro (head_b r0) ?_; refine And.intro (app_ok1 (by kernel_rfl) (by omega)) ?_; exact hR) rfl ?_
 refine go1 ?_
 have hw0 : (M.drop (64 * q)).length = r0.length + b.length := by rw [← hz, List.length_append]
 refine g_mem rfl rfl (by intro R hR; refine sms hR ?_; refine And.intro (head_b b) ?_; refine And.intro ⟨(by simp [u8s]), app_ok (by kernel_rfl) pf⟩ ?_; refine ⟨u8s (M.drop (64 * q)), sv (by rw [← hz]; simp [u8s]), (M.drop (64 * q)).length, sv pf, ?_⟩; exact hR) rfl ?_
 refine go1 ?_
 refine c_loop Nat (fun k => [(4, .sl (M.drop (64 * (q + k))).length (u8s (M.drop (64 * (q + k))))), (0, digP)]) (fun k => [(0, ⟨318, 10, false, 0, [.st [(absorb initW M (q + k)).toM, .sl r0.length (u8s r0), .int .i64 M.length]]⟩)]) 1 (fun k => 64 * (q + k) ≤ M.length) (fun k => M.length - k) 0 (by omega) ?_ ?_
 ·rw [Nat.add_zero, hlen, Int.natCast_add]
  exact (vm [] [(19, (M.drop (64 * q)).length)])
 intro k hk
 try dsimp only
 have hwl : (M.drop (64 * (q + k))).length = M.length - 64 * (q + k) := List.length_drop
 have hnext : (M.drop (64 * (q + k))).drop 64 = M.drop (64 * (q + (k + 1))) := by rw [List.drop_drop, show 64 * (q + k) + 64 = 64 * (q + (k + 1)) by omega]
 have habs : absorb initW M (q + (k + 1)) = blockS (absorb initW M (q + k)) ((M.drop (64 * (q + k))).take 64) := rfl
 by_cases hlast : 64 ≤ M.length - 64 * (q + k)
 ·generalize absorb initW M (q + k) = S at *
  generalize hw : M.drop (64 * (q + k)) = w at *
  have hb1 : bounds w.length none (some (.int .i64 64)) = some (0, 64) := bndHi (k := 64) (by omega)
  have hb2 : bounds w.length (some (.int .i64 64)) none = some (64, w.length) := bndLo (k := 64) (by omega)
  have hc1 : cutL (u8s w) 0 64 = u8s (w.take 64) := by rw [cut_u8, List.drop_zero]
  have hc2 : cutL (u8s w) 64 w.length = u8s (w.drop 64) := by rw [cut_u8, List.take_of_length_le (by rw [List.length_drop]; omega)]
  have hc3 : w.length - 64 = (w.drop 64).length := List.length_drop.symm
  have c1 := wblock_m (G := G) S (w.take 64) (by rw [List.length_take]; omega)
  refine go1 ?_
  refine c_cond rfl (fun h => ?_) (fun h => ?_)
  rotate_left
  ·exfalso
   have := of_decide_eq_false h
   omega
  refine go1 ?_
  refine c_draw [(0, false), (1, false), (2, false), (3, false), (4, false), (5, false), (6, false), (7, true), (8, false), (9, false), (10, false)] ?_
  (have fct := SomF.mk (hb1); have fct := SomF.mk (hb2); have fct := EqF.mk (hc1); have fct := EqF.mk (hc2); have fct := EqF.mk (hc3); have fct := SideF.mk (head_b w); refine go1 ?_)
  refine ydv (c1) ?_
  (have fct := SomF.mk (hb1); have fct := SomF.mk (hb2); have fct := EqF.mk (hc1); have fct := EqF.mk (hc2); have fct := EqF.mk (hc3); have fct := SideF.mk (head_b w); refine go1 ?_)
  exact ⟨k + 1, by show 64 * (q + (k + 1)) ≤ M.length; omega, by show M.length - (k + 1) < M.length - k; omega, (by dsimp only; rw [← hnext, habs]; exact (vm [] []))⟩
 ·have e1 : M.length / 64 = q + k := by omega
  have e2 : M.length % 64 = (M.drop (64 * (q + k))).length := by omega
  rw [e1, e2]
  generalize absorb initW M (q + k) = S at *
  generalize hw : M.drop (64 * (q + k)) = w at *
  refine go1 ?_
  refine c_cond rfl (fun h => ?_) (fun h => ?_)
  ·exfalso
   have := of_decide_eq_true h
   omega
  refine go1 ?_
  refine g_mem rfl rfl (by intro R hR; refine sms hR ?_; refine And.intro (head_b w) ?_; refine And.intro (app_ok1 (by kernel_rfl) (by omega)) ?_; exact hR) rfl ?_
  refine go1 ?_
  refine ⟨[], [], [(6, w.length)], rfl, rfl, ?_, rfl, trivial, ?_⟩
  ·exact ⟨by show w.length ≤ (u8s w).length; simp [u8s], trivial⟩
  ·exact ⟨.inr ⟨_, _, rfl, rfl, rfl, rfl, .inl rfl, .inl rfl, .inr ⟨.inr ⟨_, rfl, ⟨rfl, rfl⟩, .inr ⟨rfl, rfl, rfl, Nat.le_of_eq (Nat.zero_add _), cut_all _ _⟩, ⟨rfl, rfl⟩, trivial⟩, trivial⟩⟩, trivial⟩
theorem rem64 (n : Nat) : (n : Int).tmod 64 = ((n % 64 : Nat) : Int) := rfl
theorem shrN (n k : Nat) (hk : k < 8) : IntKind.u8.wrap (((n : Nat) : Int).fdiv (2 ^ (min (56 - 8 * (k : Int)).toNat IntKind.u64.bits))) = ((byteAt n k).toNat : Int) := by
 have e : min (56 - 8 * (k : Int)).toNat IntKind.u64.bits = 8 * (7 - k) := by simp [IntKind.bits]; omega
 rw [e, Int.fdiv_eq_ediv_of_nonneg _ (Int.le_of_lt (Int.pow_pos (by omega))), w8, byteAt, UInt8.toNat_ofNat']
 have e3 : (2 : Int) ^ (8 * (7 - k)) = ((2 ^ (8 * (7 - k)) : Nat) : Int) := by rw [Int.natCast_pow]; rfl
 rw [e3, ← Int.natCast_ediv]
 exact (Int.natCast_emod _ 256).symm
theorem pad_drop (m : List UInt8) (q : Nat) (hq : 64 * q ≤ m.length) : (padS m).drop (64 * q) = m.drop (64 * q) ++ [128] ++ List.replicate (padN m.length) 0 ++ be64 (8 * m.length) := by
 unfold padS
 rw [List.append_assoc, List.append_assoc, List.drop_append_of_le_length hq, ← List.append_assoc, ← List.append_assoc]
theorem absorb_pad (m : List UInt8) (q : Nat) (hq : 64 * q ≤ m.length) : absorb initW (padS m) q = absorb initW m q := by
 unfold padS
 rw [List.append_assoc, List.append_assoc]
 exact absorb_app _ _ _ _ hq
theorem nth8 (S : W8) {i : Nat} (h : i < 8) : idxL [u32M S.a, u32M S.b, u32M S.c, u32M S.d, u32M S.e, u32M S.f, u32M S.g, u32M S.h] 8 (i : Int) = some (u32M (S.nth i)) := by
 have h8 : i = 0 ∨ i = 1 ∨ i = 2 ∨ i = 3 ∨ i = 4 ∨ i = 5 ∨ i = 6 ∨ i = 7 := by omega
 rcases h8 with rfl | rfl | rfl | rfl | rfl | rfl | rfl | rfl <;> rfl
theorem out4 (S : W8) (i : Nat) : outK S (4 * (i + 1)) = ((((outK S (4 * i)).set (4 * i) (S.nth i >>> UInt32.ofNat 24).toUInt8).set (4 * i + 1) (S.nth i >>> UInt32.ofNat 16).toUInt8).set (4 * i + 2) (S.nth i >>> UInt32.ofNat 8).toUInt8).set (4 * i + 3) (S.nth i).toUInt8 := by
 have e : outK S (4 * (i + 1)) = ((((outK S (4 * i)).set (4 * i) (outAt S (4 * i))).set (4 * i + 1) (outAt S (4 * i + 1))).set (4 * i + 2) (outAt S (4 * i + 2))).set (4 * i + 3) (outAt S (4 * i + 3)) := rfl
 rw [e]
 unfold outAt
 rw [show 4 * i / 4 = i by omega, show (4 * i + 1) / 4 = i by omega, show (4 * i + 2) / 4 = i by omega, show (4 * i + 3) / 4 = i by omega, show 24 - 4 * i % 4 * 8 = 24 by omega, show 24 - (4 * i + 1) % 4 * 8 = 16 by omega, show 24 - (4 * i + 2) % 4 * 8 = 8 by omega, show 24 - (4 * i + 3) % 4 * 8 = 0 by omega]
 rw [show UInt32.ofNat 0 = 0 by rfl, UInt32.shiftRight_zero]
theorem sum_r (m : List UInt8) (hm : m.length < 1000000000) : SemR Tryz.prog G 167 [digP] (digB m) 1 (keyM (shaS m)) (digB m) 1 := by
 have hq : 64 * (m.length / 64) ≤ m.length := by omega
 have hl0 : (m.drop (64 * (m.length / 64))).length = m.length % 64 := by rw [List.length_drop]; omega
 have hpd := pad_drop m _ hq
 have hpa := absorb_pad m _ hq
 have hpl := padS_len m
 have hpv := padS_div m
 have hp : padN m.length < 64 := by unfold padN; omega
 have hpn : (m.length % 64 + 1 + padN m.length) % 64 = 56 := by unfold padN; omega
 have hpf : ∀ k, k < padN m.length → (m.length % 64 + 1 + k) % 64 ≠ 56 := by unfold padN; intro k hk; omega
 unfold digB digM shaS
 rw [← hl0] at hpn hpf ⊢
 generalize hqq : m.length / 64 = q at *
 generalize hr0 : m.drop (64 * q) = r0 at *
 generalize hpN : padN m.length = pn at *
 generalize hP : padS m = P at *
 rw [← hpa]
 refine srq seat Tryz.func167 90 ?_
 refine go1 ?_
 refine g_mem rfl rfl (by intro R hR; refine sms hR ?_; refine And.intro (head_b r0) ?_; refine And.intro (app_ok1 (by kernel_rfl) (by omega)) ?_; exact hR) rfl ?_
 refine go1 ?_
 refine g_mem rfl rfl (by intro R hR; refine sms hR ?_; (refine And.intro (Nat.le_refl _) ?_; refine ⟨_, rfl, ?_⟩; refine And.intro ⟨(by simp [u8s]), app_ok (by kernel_rfl) pf⟩ ?_; refine ⟨u8s (r0 ++ [128]), sv (by simp [u8s, setL, repM, cutL]), r0.length + 1, sv pf, ?_⟩); exact hR) rfl ?_
 refine go1 ?_
 have hTl : r0.length + 1 + pn + 8 = (P.drop (64 * q)).length := by rw [hpd]; simp [be64]; omega
 refine c_loop Nat (fun k => [(4, .ms 3 1 0 (r0.length + 1 + k)), (3, .ptr 2 32 0 0 []), (2, .ptr 1 32 0 0 []), (0, digP)]) (fun k => [(0, ⟨318, 10, false, 0, [.st [(absorb initW P q).toM, .sl r0.length (u8s r0), .int .i64 m.length]]⟩), (1, ⟨40, 32, false, 0, [keyM (List.replicate 32 0)]⟩), (2, ⟨40, 32, false, 0, [keyM (List.replicate 32 0)]⟩), (3, ⟨5, 1, true, 0, u8s (r0 ++ [128] ++ List.replicate k 0)⟩)]) 4 (fun k => k ≤ pn) (fun k => pn - k) 0 (Nat.zero_le _) (vm [(1, _), (2, _), (3, _)] []) ?_
 intro k hk
 try dsimp only
 (have fct := EqF.mk (rem64 (r0.length + 1 + k)); refine go1 ?_)
 refine c_cond rfl (fun h => ?_) (fun h => ?_)
 ·have hk' : k < pn := by
   have h1 : (((r0.length + 1 + k) % 64 : Nat) : Int) ≠ 56 := by simpa using h
   rcases Nat.lt_or_ge k pn with h2 | h2
   ·exact h2
   ·have : k = pn := by omega
    subst this
    rw [hpn] at h1
    exact absurd rfl h1
  refine go1 ?_
  refine g_mem rfl rfl (by intro R hR; refine sms hR ?_; (refine And.intro (Nat.le_refl _) ?_; refine ⟨_, rfl, ?_⟩; refine And.intro ⟨pf, app_ok (by kernel_rfl) pf⟩ ?_; refine ⟨u8s (r0 ++ [128] ++ List.replicate (k + 1) 0), sv pf, r0.length + 1 + (k + 1), sv pf, ?_⟩); exact hR) rfl ?_
  refine go1 ?_
  exact ⟨k + 1, by show k + 1 ≤ pn; omega, by show pn - (k + 1) < pn - k; omega, (by dsimp only; exact (vm [(1, _), (2, _), (3, _)] []))⟩
 ·have hk' : k = pn := by
   have h1 : (((r0.length + 1 + k) % 64 : Nat) : Int) = 56 := by simpa using h
   rcases Nat.lt_or_ge k pn with h2 | h2
   ·have := hpf k h2; omega
   ·omega
  subst hk'
  refine go1 ?_
  refine c_loop Nat (fun j => [(6, .int .i64 (56 - 8 * (j : Int))), (5, .int .u64 ((8 * m.length : Nat) : Int)), (4, .ms 3 1 0 (r0.length + 1 + k + j)), (3, .ptr 2 32 0 0 []), (2, .ptr 1 32 0 0 []), (0, digP)]) (fun j => [(0, ⟨318, 10, false, 0, [.st [(absorb initW P q).toM, .sl r0.length (u8s r0), .int .i64 m.length]]⟩), (1, ⟨40, 32, false, 0, [keyM (List.replicate 32 0)]⟩), (2, ⟨40, 32, false, 0, [keyM (List.replicate 32 0)]⟩), (3, ⟨5, 1, true, 0, u8s (r0 ++ [128] ++ List.replicate k 0 ++ (List.range j).map (byteAt (8 * m.length)))⟩)]) 4 (fun j => j ≤ 8) (fun j => 8 - j) 0 (Nat.zero_le _) (by rw [List.range_zero, List.map_nil, List.append_nil]; exact (vm [(1, _), (2, _), (3, _)] [])) ?_
  intro j hj
  try dsimp only
  refine go1 ?_
  refine c_cond rfl (fun h => ?_) (fun h => ?_)
  ·have hj' : j < 8 := by have := of_decide_eq_true h; omega
   (have fct := EqF.mk (shrN (8 * m.length) j hj'); refine go1 ?_)
   refine g_mem rfl rfl (by intro R hR; refine sms hR ?_; (refine And.intro (Nat.le_refl _) ?_; refine ⟨_, rfl, ?_⟩; refine And.intro ⟨pf, app_ok (by kernel_rfl) pf⟩ ?_; refine ⟨u8s (r0 ++ [128] ++ List.replicate k 0 ++ (List.range (j + 1)).map (byteAt (8 * m.length))), sv pf, r0.length + 1 + k + (j + 1), sv pf, ?_⟩); exact hR) rfl ?_
   refine go1 ?_
   exact ⟨j + 1, by show j + 1 ≤ 8; omega, by show 8 - (j + 1) < 8 - j; omega, (by dsimp only; exact (vm [(1, _), (2, _), (3, _)] []))⟩
  ·have hj' : j = 8 := by have := of_decide_eq_false h; omega
   subst hj'
   have hbe : (List.range 8).map (byteAt (8 * m.length)) = be64 (8 * m.length) := rfl
   rw [hbe, ← hpd, hTl]
   refine go1 ?_
   refine c_loop Nat (fun k => [(7, .ptr 3 8 0 0 []), (4, .sl (P.drop (64 * (q + k))).length (u8s (P.drop (64 * (q + k))))), (3, .ptr 2 32 0 0 []), (2, .ptr 1 32 0 0 []), (0, digP)]) (fun k => [(0, ⟨318, 10, false, 0, [.st [(absorb initW P q).toM, .sl r0.length (u8s r0), .int .i64 m.length]]⟩), (1, ⟨40, 32, false, 0, [keyM (List.replicate 32 0)]⟩), (2, ⟨40, 32, false, 0, [keyM (List.replicate 32 0)]⟩), (3, ⟨315, 8, false, 0, [(absorb initW P (q + k)).toM]⟩)]) 4 (fun k => 64 * (q + k) ≤ P.length) (fun k => P.length - k) 0 (by omega) (by rw [Nat.add_zero]; exact (vm [(1, _), (2, _), (3, _)] [(3, (P.drop (64 * q)).length)])) ?_
   intro k hk
   try dsimp only
   have hwl : (P.drop (64 * (q + k))).length = P.length - 64 * (q + k) := List.length_drop
   have hnext : (P.drop (64 * (q + k))).drop 64 = P.drop (64 * (q + (k + 1))) := by rw [List.drop_drop, show 64 * (q + k) + 64 = 64 * (q + (k + 1)) by omega]
   have habs : absorb initW P (q + (k + 1)) = blockS (absorb initW P (q + k)) ((P.drop (64 * (q + k))).take 64) := rfl
   by_cases hlast : 64 * (q + k) < P.length
   ·generalize absorb initW P (q + k) = S at *
    generalize hw : P.drop (64 * (q + k)) = w at *
    have hb1 : bounds w.length none (some (.int .i64 64)) = some (0, 64) := bndHi (k := 64) (by omega)
    have hb2 : bounds w.length (some (.int .i64 64)) none = some (64, w.length) := bndLo (k := 64) (by omega)
    have hc1 : cutL (u8s w) 0 64 = u8s (w.take 64) := by rw [cut_u8, List.drop_zero]
    have hc2 : cutL (u8s w) 64 w.length = u8s (w.drop 64) := by rw [cut_u8, List.take_of_length_le (by rw [List.length_drop]; omega)]
    have hc3 : w.length - 64 = (w.drop 64).length := List.length_drop.symm
    have c1 := wblock_m (G := G) S (w.take 64) (by rw [List.length_take]; omega)
    refine go1 ?_
    refine c_cond rfl (fun h => ?_) (fun h => ?_)
    rotate_left
    ·exfalso
     have := of_decide_eq_false h
     omega
    refine go1 ?_
    refine c_draw [(0, false), (1, false), (2, false), (3, true), (4, false)] ?_
    (have fct := SomF.mk (hb1); have fct := SomF.mk (hb2); have fct := EqF.mk (hc1); have fct := EqF.mk (hc2); have fct := EqF.mk (hc3); have fct := SideF.mk (head_b w); refine go1 ?_)
    refine ydv (c1) ?_
    (have fct := SomF.mk (hb1); have fct := SomF.mk (hb2); have fct := EqF.mk (hc1); have fct := EqF.mk (hc2); have fct := EqF.mk (hc3); have fct := SideF.mk (head_b w); refine go1 ?_)
    exact ⟨k + 1, by show 64 * (q + (k + 1)) ≤ P.length; omega, by show P.length - (k + 1) < P.length - k; omega, (by dsimp only; rw [← hnext, habs]; exact (vm [(1, _), (2, _), (3, _)] []))⟩
   ·have e1 : P.length / 64 = q + k := by omega
    rw [e1]
    generalize absorb initW P (q + k) = S at *
    generalize hw : P.drop (64 * (q + k)) = w at *
    refine go1 ?_
    refine c_cond rfl (fun h => ?_) (fun h => ?_)
    ·exfalso
     have := of_decide_eq_true h
     omega
    refine go1 ?_
    refine c_loop Nat (fun i => [(58, .int .i64 i), (57, S.toM), (3, .ptr 2 32 0 0 []), (2, .ptr 1 32 0 0 []), (0, digP)]) (fun i => [(0, ⟨318, 10, false, 0, [.st [(absorb initW P q).toM, .sl r0.length (u8s r0), .int .i64 m.length]]⟩), (1, ⟨40, 32, false, 0, [keyM (List.replicate 32 0)]⟩), (2, ⟨40, 32, false, 0, [keyM (outK S (4 * i))]⟩)]) 3 (fun i => i ≤ 8) (fun i => 8 - i) 0 (Nat.zero_le _) (vm [(1, _), (2, _)] []) ?_
    intro i hi
    try dsimp only
    refine go1 ?_
    refine c_cond rfl (fun h => ?_) (fun h => ?_)
    ·have hi' : i < 8 := by have := of_decide_eq_true h; omega
     have hix : idxL [u32M S.a, u32M S.b, u32M S.c, u32M S.d, u32M S.e, u32M S.f, u32M S.g, u32M S.h] 8 (i : Int) = some (u32M (S.nth i)) := nth8 S hi'
     have hol := outK_len S (4 * i)
     have hout := out4 S i
     generalize S.nth i = x at *
     generalize outK S (4 * i) = ok at *
     have s24 : (x.toNat : Int).fdiv (2 ^ (min (24 : Int).toNat IntKind.u32.bits)) = ((x >>> UInt32.ofNat 24).toNat : Int) := shr32 x 24 (by omega)
     have s16 : (x.toNat : Int).fdiv (2 ^ (min (16 : Int).toNat IntKind.u32.bits)) = ((x >>> UInt32.ofNat 16).toNat : Int) := shr32 x 16 (by omega)
     have s8 : (x.toNat : Int).fdiv (2 ^ (min (8 : Int).toNat IntKind.u32.bits)) = ((x >>> UInt32.ofNat 8).toNat : Int) := shr32 x 8 (by omega)
     have v24 := conv328 (x >>> UInt32.ofNat 24)
     have v16 := conv328 (x >>> UInt32.ofNat 16)
     have v8 := conv328 (x >>> UInt32.ofNat 8)
     have v0 := conv328 x
     generalize (x >>> UInt32.ofNat 24) = y24 at *
     generalize (x >>> UInt32.ofNat 16) = y16 at *
     generalize (x >>> UInt32.ofNat 8) = y8 at *
     have j0 : idx 32 (4 * (i : Int)) = some (4 * i) := idx_of (4 * i) (by omega) (by omega)
     have j1 : idx 32 (4 * (i : Int) + 1) = some (4 * i + 1) := idx_of (4 * i + 1) (by omega) (by omega)
     have j2 : idx 32 (4 * (i : Int) + 2) = some (4 * i + 2) := idx_of (4 * i + 2) (by omega) (by omega)
     have j3 : idx 32 (4 * (i : Int) + 3) = some (4 * i + 3) := idx_of (4 * i + 3) (by omega) (by omega)
     have k0 := key_set (k := ok) (i := 4 * i) (by omega) y24.toUInt8
     have k1 := key_set (k := ok.set (4 * i) y24.toUInt8) (i := 4 * i + 1) (by rw [List.length_set]; omega) y16.toUInt8
     have k2 := key_set (k := (ok.set (4 * i) y24.toUInt8).set (4 * i + 1) y16.toUInt8) (i := 4 * i + 2) (by rw [List.length_set, List.length_set]; omega) y8.toUInt8
     have k3 := key_set (k := ((ok.set (4 * i) y24.toUInt8).set (4 * i + 1) y16.toUInt8).set (4 * i + 2) y8.toUInt8) (i := 4 * i + 3) (by rw [List.length_set, List.length_set, List.length_set]; omega) x.toUInt8
     (have fct := SomF.mk (hix); have fct := EqF.mk (s24); have fct := EqF.mk (s16); have fct := EqF.mk (s8); have fct := EqF.mk (v24); have fct := EqF.mk (v16); have fct := EqF.mk (v8); have fct := EqF.mk (v0); have fct := SomF.mk (j0); have fct := SomF.mk (j1); have fct := SomF.mk (j2); have fct := SomF.mk (j3); have fct := SomF.mk (k0); have fct := SomF.mk (k1); have fct := SomF.mk (k2); have fct := SomF.mk (k3); refine go1 ?_)
     exact ⟨i + 1, by show i + 1 ≤ 8; omega, by show 8 - (i + 1) < 8 - i; omega, (by dsimp only; rw [hout]; exact (vm [(1, _), (2, _)] []))⟩
    ·have hi' : i = 8 := by have := of_decide_eq_false h; omega
     subst hi'
     refine go1 ?_
     refine go0 ?_
     exact en [_]
end
section
variable {G : GS}
attribute [local irreducible] vOpsN vOpsG vOpsD vOpGD NextD vC SeqQ BlockQ
theorem write_g (m b M : List UInt8) (hM : m ++ b = M) (hm : m.length + b.length < 1000000000) : SemR Tryz.prog G 166 [digP, .sl b.length (u8s b)] (digB m) 1 (.tup []) (digB M) 1 := by
 subst hM; exact write_r m b hm
theorem psha_m (b : List UInt8) (hb : b.length < 500000000) : SemC Tryz.prog G 111 [.sl b.length (u8s b)] (keyM (shaS b)) := by
 have c1 := new_r (G := G)
 have c2 := write_g (G := G) [] b b rfl (by simp; omega)
 have c3 := sum_r (G := G) b (by omega)
 unfold digB at c1 c2 c3
 refine scq seat Tryz.func111 10 ?_
 refine go1 ?_
 refine yc (c1) [] ?_
 refine go1 ?_
 refine yc (c2) [(0, 1)] ?_
 refine go1 ?_
 refine yc (c3) [(0, 1)] ?_
 refine go1 ?_
 refine go0 ?_
 rfl
theorem pleaf_m (b : List UInt8) (hb : b.length < 500000000) : SemC Tryz.prog G 207 [.sl b.length (u8s b)] (keyM (shaS (0 :: b))) := by
 have c1 := new_r (G := G)
 have c2 := write_g (G := G) [] [0] [0] rfl (by simp)
 have c3 := write_g (G := G) [0] b (0 :: b) rfl (by simp only [List.length_cons, List.length_nil]; omega)
 have c4 := sum_r (G := G) (0 :: b) (by simp only [List.length_cons]; omega)
 unfold digB at c1 c2 c3 c4
 refine scq seat Tryz.func207 13 ?_
 refine go1 ?_
 refine yc (c1) [] ?_
 refine go1 ?_
 refine g_callR1 rfl (fun _ h => h) rfl (c2) [(0, 1)] [(4, 1)] ⟨rfl, mm, rfl, lm, mm⟩ rfl rfl ?_
 refine go1 ?_
 refine yc (c3) [(0, 1)] ?_
 refine go1 ?_
 refine yc (c4) [(0, 1)] ?_
 refine go1 ?_
 refine go0 ?_
 rfl
theorem pinner_m (a b : List UInt8) (ha : a.length = 32) (hb : b.length = 32) : SemC Tryz.prog G 209 [keyM a, keyM b] (keyM (shaS (1 :: (a ++ b)))) := by
 have c1 := new_r (G := G)
 have c2 := write_g (G := G) [] [1] [1] rfl (by simp)
 have c3 := write_g (G := G) [1] a (1 :: a) rfl (by simp only [List.length_cons, List.length_nil]; omega)
 have c4 := write_g (G := G) (1 :: a) b (1 :: (a ++ b)) rfl (by simp only [List.length_cons]; omega)
 have c5 := sum_r (G := G) (1 :: (a ++ b)) (by simp only [List.length_cons, List.length_append]; omega)
 rw [ha, ← cut_key ha] at c3
 rw [hb, ← cut_key hb] at c4
 unfold digB at c1 c2 c3 c4 c5
 refine scq seat Tryz.func209 18 ?_
 refine go1 ?_
 refine yc (c1) [] ?_
 refine go1 ?_
 refine g_callR1 rfl (fun _ h => h) rfl (c2) [(0, 3)] [(6, 1)] ⟨rfl, mm, rfl, lm, mm⟩ rfl rfl ?_
 refine go1 ?_
 refine yc (c3) [(0, 3)] ?_
 refine go1 ?_
 refine yc (c4) [(0, 3)] ?_
 refine go1 ?_
 refine yc (c5) [(0, 3)] ?_
 refine go1 ?_
 refine go0 ?_
 rfl
theorem proot_m : ∀ (f : Nat) (l : List (List UInt8)), l.length ≤ f → l.length < 60000 → (∀ b ∈ l, b.length < 300000000) → SemC Tryz.prog G 164 [.sl l.length (l.map rawM)] (keyM (rootS l)) := by
 intro f
 induction f with
 | zero =>
  intro l hl _ _
  obtain rfl := List.length_eq_zero_iff.1 (by omega : l.length = 0)
  have c1 := psha_m (G := G) [] (by simp)
  refine scq seat Tryz.func164 27 ?_
  refine go1 ?_
  refine yv (c1) ?_
  refine go1 ?_
  refine go0 ?_
  rfl
 | succ f ih =>
  intro l hl hn hb
  match hh : l with
  | [] =>
   have c1 := psha_m (G := G) [] (by simp)
   refine scq seat Tryz.func164 27 ?_
   refine go1 ?_
   refine yv (c1) ?_
   refine go1 ?_
   refine go0 ?_
   rfl
  | [b] =>
   have c1 := pleaf_m (G := G) b (by have := hb b (by simp); omega)
   refine scq seat Tryz.func164 27 ?_
   refine go1 ?_
   refine yv (c1) ?_
   refine go1 ?_
   refine go0 ?_
   rfl
  | a :: b :: r =>
   rw [← hh] at hl hn hb ⊢
   have h2 : 2 ≤ l.length := by rw [hh]; simp only [List.length_cons]; omega
   clear hh
   obtain ⟨k1, k2⟩ := hlf_lt h2
   have ch := phalf_m (G := G) l.length (by omega) (by omega)
   have c1 := ih (l.take (hlf l.length)) (by rw [List.length_take]; omega) (by rw [List.length_take]; omega) fun x hx => hb x (List.mem_of_mem_take hx)
   have c2 := ih (l.drop (hlf l.length)) (by rw [List.length_drop]; omega) (by rw [List.length_drop]; omega) fun x hx => hb x (List.mem_of_mem_drop hx)
   have c3 := pinner_m (G := G) (rootS (l.take (hlf l.length))) (rootS (l.drop (hlf l.length))) (rootS_len _) (rootS_len _)
   rw [rootS_two h2]
   rw [List.length_take, Nat.min_eq_left (by omega), ← cut_take] at c1
   rw [List.length_drop, ← cut_drop] at c2
   generalize hlf l.length = k at *
   refine scq seat Tryz.func164 27 ?_
   refine go1 ?_
   refine c_cond rfl (fun h => ?_) (fun h => ?_)
   ·exfalso
    have : (l.length : Int) = 0 := by simpa using h
    omega
   refine go1 ?_
   refine c_cond rfl (fun h => ?_) (fun h => ?_)
   ·exfalso
    have : (l.length : Int) = 1 := by simpa using h
    omega
   refine go1 ?_
   refine yv (ch) ?_
   refine go1 ?_
   refine c_draw [(0, false), (1, false), (2, false), (3, true), (4, false), (5, false), (6, false), (7, true), (8, true), (9, false)] ?_
   (have fct := SomF.mk (bndHi (κ := .i64) (Nat.le_of_lt k2)); have fct := SomF.mk (bndLo (κ := .i64) (Nat.le_of_lt k2)); have fct := SideF.mk (head_raw l); refine go1 ?_)
   refine ydv (c1) ?_
   refine go1 ?_
   refine ydv (c2) ?_
   refine go1 ?_
   refine ydv (c3) ?_
   refine go1 ?_
   refine go0 ?_
   rfl
end
section
variable {G : GS}
attribute [local irreducible] vOpsN vOpsG vOpsD vOpGD NextD vC SeqQ BlockQ
abbrev U64 (n : Nat) : Prop := n < 18446744073709551616
theorem fieldS_len {f : Fld} (hf : okF f) : (fieldS f).length ≤ f.bytes.length + 20 := by
 have h1 := (varS_len10 (n := f.num * 8 + f.kind) (by unfold okF at hf; omega)).2
 unfold fieldS
 rw [List.length_append]
 split
 ·have h2 := (varS_len10 (n := f.val) (by unfold okF at hf; omega)).2
  omega
 ·rename_i hk
  have h2 := (varS_len10 (n := f.bytes.length) (by unfold okF at hf; omega)).2
  rw [List.length_append]; omega
theorem msgS_len_le (B : Nat) : ∀ (l : List Fld), (∀ f ∈ l, okF f ∧ f.bytes.length ≤ B) → (msgS l).length ≤ l.length * (B + 20)
 | [], _ => by simp [msgS]
 | f :: l, h => by
  have h1 := fieldS_len (h f (by simp)).1
  have h2 := (h f (by simp)).2
  have ih := msgS_len_le B l fun g hg => h g (by simp [hg])
  have e : msgS (f :: l) = fieldS f ++ msgS l := by simp [msgS]
  rw [e, List.length_append, List.length_cons, Nat.add_mul]
  omega
theorem all_app {α : Type} {p : α → Prop} {a b : List α} (ha : ∀ x ∈ a, p x) (hb : ∀ x ∈ b, p x) : ∀ x ∈ a ++ b, p x := fun x hx => (List.mem_append.1 hx).elim (ha x) (hb x)
end
section
mutual
theorem relV_self {σ : Nat → Option Nat} {fz : Fz} : ∀ (m : MV), m.idFree = true → relV σ fz m m
 | .st l, h => .inl ⟨rfl, h⟩
 | .fn f l, h => .inl ⟨rfl, h⟩
 | .ifc t v, h => .inl ⟨rfl, h⟩
 | .sl .., _ => .inl rfl
 | .ep .., _ => .inl rfl
 | .ptr .., h => by cases h
 | .ms .., h => by cases h
 | .tup .., h => by cases h
 | .undef, h => by cases h
 | .int .., _ => ⟨rfl, rfl⟩
 | .bool .., _ => ⟨rfl, rfl⟩
 | .str .., _ => ⟨rfl, rfl⟩
 | .nilp, _ => ⟨rfl, rfl⟩
 | .gp .., _ => ⟨rfl, rfl⟩
 | .nils, _ => ⟨rfl, rfl⟩
 | .nilf, _ => ⟨rfl, rfl⟩
 | .nili, _ => ⟨rfl, rfl⟩
 | .arr .., _ => ⟨rfl, rfl⟩
theorem relVs_self {σ : Nat → Option Nat} {fz : Fz} : ∀ (l : List MV), MV.idFrees l = true → relV.relVs σ fz l l
 | [], _ => trivial
 | m :: l, h => by
  simp only [MV.idFrees, Bool.and_eq_true] at h
  exact ⟨relV_self m h.1, relVs_self l h.2⟩
end
section
variable {Pg : Program} {T : Tab} {N : Nat} {ents : List FuncId} {G : GS} {ops : Array Oper} {d : Tmp} {ty : TypeId} {pos : String} {after : Array Edge} {g : Option (Nat × Bool)} {rest : List Oper} {K : VK} {E : VE} {M : VM} {n : Nat} {f : Operand} {args : Array Operand} {ats : Array TypeId} {f0 : FuncId} {vs : List MV} {res : MV}
theorem g_call3 (hd : Nat.blt d N = true) (h1 : ∀ R : FuncId × List MV → Prop, R (f0, vs) → (vArgs E f args.toList).runP R) (h2 : ents.contains f0 = true) (hc : SemR Pg G f0 vs [] 0 res [] 0) (hf : nfree res = true) (hi : MV.idFrees vs = true)
  (h : vOpsN Pg T N ents G ops rest K ((d, res) :: E) M n) : vOpsG Pg T N ents G ops ⟨some d, .call ⟨.value f, args, ats⟩, ty, pos, after, g⟩ rest K E M n :=
 g_call2 hd h1 h2 hc hf (relVs_self vs hi) h
end
variable {G : GS}
attribute [local irreducible] vOpsN vOpsG vOpsD vOpGD NextD vC SeqQ BlockQ
theorem idxS_at {s : List UInt8} {i : Nat} (h : i < s.length) : idxS s (i : Int) = some (s.getD i 0) := by
 unfold idxS
 rw [if_pos (by omega)]
 simp [h]
end
section
variable {G : GS}
attribute [local irreducible] vOpsN vOpsG vOpsD vOpGD NextD vC SeqQ BlockQ
def okCh (c : UInt8) : Bool := decide (97 ≤ c.toNat ∧ c.toNat ≤ 122 ∨ 48 ≤ c.toNat ∧ c.toNat ≤ 57 ∨ c.toNat = 45)
def nameS (s : List UInt8) : Bool := s.all okCh && decide (1 ≤ s.length ∧ s.length ≤ 20)
theorem name_m (s : List UInt8) (hs : s.length ≤ 140737488355328) : SemC Tryz.prog G 185 [.str s] (.bool (nameS s)) := by
 generalize hr : nameS s = r
 unfold nameS at hr
 refine scq seat Tryz.func185 41 ?_
 refine go1 ?_
 refine c_loop Nat (fun i => [(3, .int .i64 i), (0, .str s)]) (fun _ => []) 0 (fun i => i ≤ s.length ∧ (s.take i).all okCh = true) (fun i => s.length - i) 0 ⟨Nat.zero_le _, by simp⟩ (vm [] []) ?_
 rintro i ⟨hi, hp⟩
 try dsimp only
 refine go1 ?_
 refine c_cond rfl (fun h => ?_) (fun h => ?_)
 ·have hi' : i < s.length := by have := of_decide_eq_true h; omega
  have f0 := SomF.mk (idxS_at hi')
  have hsu : (s.take (i + 1)).all okCh = ((s.take i).all okCh && okCh (s.getD i 0)) := by
   rw [List.take_succ_eq_append_getElem hi', List.all_append]; simp [hi']
  have hall : okCh (s.getD i 0) = false → s.all okCh = false := fun h => by
   rw [← List.take_append_drop (i + 1) s, List.all_append, hsu, h]; simp
  generalize s.getD i 0 = c at *
  by_cases hc : okCh c = true
  ·rw [hp, hc] at hsu
   have hc' := of_decide_eq_true hc
   (iterate 6 ((all_goals (refine go1 ?_)); (all_goals (first | (refine n_guard rfl rfl (fun h => ?_) rfl (fun h => ?_); all_goals ((try simp only [pl] at h); (try (exfalso; omega)))) | (refine c_cond rfl (fun h => ?_) (fun h => ?_); all_goals ((try simp only [pl] at h); (try (exfalso; omega)))) | skip))))
   all_goals exact ⟨i + 1, ⟨by omega, by rw [hsu]; rfl⟩, by show s.length - (i + 1) < s.length - i; omega, (by dsimp only; exact (vm [] []))⟩
  ·have hcf : okCh c = false := by simpa using hc
   rw [hall hcf, Bool.false_and] at hr
   subst hr
   have hc' := of_decide_eq_false hcf
   (iterate 6 ((all_goals (refine go1 ?_)); (all_goals (first | (refine n_guard rfl rfl (fun h => ?_) rfl (fun h => ?_); all_goals ((try simp only [pl] at h); (try (exfalso; omega)))) | (refine c_cond rfl (fun h => ?_) (fun h => ?_); all_goals ((try simp only [pl] at h); (try (exfalso; omega)))) | skip))))
   all_goals (refine go0 ?_; rfl)
 ·have hi' : i = s.length := by have := of_decide_eq_false h; omega
  subst hi'
  rw [List.take_length] at hp
  rw [hp, Bool.true_and] at hr
  subst hr
  (iterate 3 ((all_goals (refine go1 ?_)); (all_goals (first | (refine n_guard rfl rfl (fun h => ?_) rfl (fun h => ?_); all_goals ((try simp only [pl] at h); (try (exfalso; omega)))) | (refine c_cond rfl (fun h => ?_) (fun h => ?_); all_goals ((try simp only [pl] at h); (try (exfalso; omega)))) | skip))))
  all_goals (refine go0 ?_; exact congrArg MV.bool (by first | exact decide_eq_decide.2 (by omega) | exact (decide_eq_false (by omega)).symm))
end
section
variable {G : GS}
attribute [local irreducible] vOpsN vOpsG vOpsD vOpGD NextD vC SeqQ BlockQ
structure AcS where
 name : List UInt8
 bal : Nat
 seq : Nat
def acM (a : AcS) : MV := .st [.str a.name, .int .u64 a.bal, .int .u64 a.seq]
def SmAc (a : AcS) : Prop := a.name.length ≤ 5000 ∧ U64 a.bal ∧ U64 a.seq
def ac0 : AcS := ⟨[], 0, 0⟩
structure LgS where
 acs : List AcS
 col : Nat
def lgM (l : LgS) : MV := .st [.sl l.acs.length (l.acs.map acM), .int .u64 l.col]
def addS (a b : Nat) : Nat × Bool := if a + b < 18446744073709551616 then (a + b, true) else (0, false)
theorem acs_at {l : List AcS} {k : Nat} (hk : k < l.length) : idxL (l.map acM) l.length (k : Int) = some (acM l[k]) := index_at hk (by simp [hk])
theorem add_m (a b : Nat) (ha : U64 a) (hb : U64 b) : SemC Tryz.prog G 217 [.int .u64 a, .int .u64 b] (.tup [.int .u64 (addS a b).1, .bool (addS a b).2]) := by
 unfold U64 at ha hb
 generalize hr : addS a b = r
 obtain ⟨R, okk⟩ := r
 unfold addS at hr
 dsimp only
 split at hr
 ·rename_i h
  simp only [Prod.mk.injEq] at hr
  obtain ⟨rfl, rfl⟩ := hr
  refine scq seat Tryz.func217 13 ?_
  refine go1 ?_
  (iterate 4 ((all_goals (refine go1 ?_)); (all_goals (first | (refine n_guard rfl rfl (fun h => ?_) rfl (fun h => ?_); all_goals ((try simp only [pl] at h); (try (exfalso; omega)))) | (refine c_cond rfl (fun h => ?_) (fun h => ?_); all_goals ((try simp only [pl] at h); (try (exfalso; omega)))) | skip))))
  all_goals (refine go0 ?_)
  all_goals rfl
 ·rename_i h
  simp only [Prod.mk.injEq] at hr
  obtain ⟨rfl, rfl⟩ := hr
  refine scq seat Tryz.func217 13 ?_
  refine go1 ?_
  (iterate 4 ((all_goals (refine go1 ?_)); (all_goals (first | (refine n_guard rfl rfl (fun h => ?_) rfl (fun h => ?_); all_goals ((try simp only [pl] at h); (try (exfalso; omega)))) | (refine c_cond rfl (fun h => ?_) (fun h => ?_); all_goals ((try simp only [pl] at h); (try (exfalso; omega)))) | skip))))
  all_goals (refine go0 ?_)
  all_goals rfl
def findS (name : List UInt8) : List AcS → Nat → Int
 | [], _ => -1
 | a :: r, i => if a.name = name then i else findS name r (i + 1)
theorem find_m (l : List AcS) (name : List UInt8) (hl : l.length ≤ 1000000) : SemC Tryz.prog G 194 [.sl l.length (l.map acM), .str name] (.int .i64 (findS name l 0)) := by
 generalize hr : findS name l 0 = R
 refine scq seat Tryz.func194 20 ?_
 refine go1 ?_
 refine c_loop Nat (fun k => [(9, .int .i64 k), (8, .int .i64 l.length), (7, .sl l.length (l.map acM)), (1, .str name)]) (fun _ => []) 0 (fun k => k ≤ l.length ∧ findS name (l.drop k) k = R) (fun k => l.length - k) 0 ⟨Nat.zero_le _, by rw [List.drop_zero]; exact hr⟩ (vm [] []) ?_
 rintro k ⟨hk, hR⟩
 try dsimp only
 refine go1 ?_
 refine c_cond rfl (fun h => ?_) (fun h => ?_)
 ·have hk' : k < l.length := by have := of_decide_eq_true h; omega
  have hel := acs_at hk'
  rw [List.drop_eq_getElem_cons hk', findS] at hR
  generalize l[k] = a at *
  obtain ⟨nm, bal, seq⟩ := a
  replace hel : idxL (l.map acM) l.length (k : Int) = some (.st [.str nm, .int .u64 bal, .int .u64 seq]) := hel
  have hel := SomF.mk hel
  dsimp only at hR
  by_cases he : nm = name
  ·rw [if_pos he] at hR
   subst he
   subst hR
   refine goe1 ?_
   refine go0 ?_
   rfl
  ·rw [if_neg he] at hR
   refine go1 ?_
   refine c_cond rfl (fun h => ?_) (fun h => ?_)
   ·exact absurd (eq_of_beq h) he
   ·refine go1 ?_
    exact ⟨k + 1, ⟨by show k + 1 ≤ l.length; omega, hR⟩, by show l.length - (k + 1) < l.length - k; omega, (by dsimp only; exact (vm [] []))⟩
 ·have hk' : k = l.length := by have := of_decide_eq_false h; omega
  subst hk'
  rw [List.drop_length, findS] at hR
  subst hR
  refine go1 ?_
  refine go0 ?_
  rfl
end
section
variable {G : GS}
attribute [local irreducible] vOpsN vOpsG vOpsD vOpGD NextD vC SeqQ BlockQ
def getS (l : List AcS) (name : List UInt8) : AcS × Bool := match l.find? (fun a => decide (a.name = name)) with
 | some a => (a, true)
 | none => (ac0, false)
theorem findS_spec (name : List UInt8) : ∀ (l : List AcS) (i : Nat), (findS name l i = -1 ∧ l.find? (fun a => decide (a.name = name)) = none) ∨ ∃ k a, findS name l i = ((i + k : Nat) : Int) ∧ l[k]? = some a ∧ l.find? (fun a => decide (a.name = name)) = some a
 | [], i => .inl ⟨rfl, rfl⟩
 | a :: r, i => by
  by_cases h : a.name = name
  ·exact .inr ⟨0, a, by rw [findS, if_pos h]; rfl, rfl, by simp [h]⟩
  ·have hf : (a :: r).find? (fun a => decide (a.name = name)) = r.find? (fun a => decide (a.name = name)) := by simp [h]
   rw [findS, if_neg h, hf]
   rcases findS_spec name r (i + 1) with h1 | ⟨k, b, h1, h2, h3⟩
   ·exact .inl h1
   ·exact .inr ⟨k + 1, b, by rw [h1]; omega, by simpa using h2, h3⟩
def totS : List AcS → Nat → Nat × Bool
 | [], s => (s, true)
 | a :: r, s => if (addS s a.bal).2 then totS r (addS s a.bal).1 else (0, false)
theorem addS_u64 {a b : Nat} : U64 (addS a b).1 := by
 unfold addS U64
 split
 ·assumption
 ·show 0 < _; omega
theorem total_m (l : List AcS) (col : Nat) (hc : U64 col) (hl : l.length ≤ 1000000) (hs : ∀ a ∈ l, U64 a.bal) : SemC Tryz.prog G 186 [.st [.sl l.length (l.map acM), .int .u64 col]] (.tup [.int .u64 (totS l col).1, .bool (totS l col).2]) := by
 generalize hr : totS l col = r
 obtain ⟨R, okk⟩ := r
 dsimp only
 refine scq seat Tryz.func186 30 ?_
 refine go1 ?_
 refine c_loop (Nat × Nat) (fun x => [(14, .int .i64 x.1), (13, .int .i64 l.length), (12, .sl l.length (l.map acM)), (4, .int .u64 x.2)]) (fun _ => []) 0 (fun x => x.1 ≤ l.length ∧ U64 x.2 ∧ totS (l.drop x.1) x.2 = (R, okk)) (fun x => l.length - x.1) (0, col) ⟨Nat.zero_le _, hc, by rw [List.drop_zero]; exact hr⟩ (by dsimp only; exact (vm [] [])) ?_
 rintro ⟨k, s⟩ ⟨hk, hsU, hR⟩
 try dsimp only
 dsimp only at hk hsU hR
 refine go1 ?_
 refine c_cond rfl (fun h => ?_) (fun h => ?_)
 ·have hk' : k < l.length := by have := of_decide_eq_true h; omega
  have hel := acs_at hk'
  have hb := hs _ (List.getElem_mem hk')
  rw [List.drop_eq_getElem_cons hk', totS] at hR
  generalize l[k] = a at *
  obtain ⟨nm, bal, seq⟩ := a
  replace hel : idxL (l.map acM) l.length (k : Int) = some (.st [.str nm, .int .u64 bal, .int .u64 seq]) := hel
  have hel := SomF.mk hel
  dsimp only at hR hb
  have c1 := add_m (G := G) s bal hsU hb
  have hU := @addS_u64 s bal
  generalize addS s bal = p at *
  obtain ⟨v, b⟩ := p
  dsimp only at c1 hR hU
  cases b with
  | true =>
   rw [if_pos rfl] at hR
   refine go1 ?_
   (iterate 6 ((all_goals (refine go1 ?_)); (all_goals (first | (refine g_call3 rfl (fun _ h => h) rfl (semR_of_semC (c1)) rfl rfl ?_) | (refine n_guard rfl rfl (fun h => ?_) rfl (fun h => ?_); all_goals ((try simp only [pl] at h); (try (exfalso; omega)))) | (refine c_cond rfl (fun h => ?_) (fun h => ?_); all_goals ((try simp only [pl] at h); (try (exfalso; omega)))) | skip))))
   exact ⟨(k + 1, v), ⟨by show k + 1 ≤ l.length; omega, hU, hR⟩, by show l.length - (k + 1) < l.length - k; omega, (by dsimp only; exact (vm [] []))⟩
  | false =>
   rw [if_neg (by simp)] at hR
   simp only [Prod.mk.injEq] at hR
   obtain ⟨rfl, rfl⟩ := hR
   refine go1 ?_
   (iterate 6 ((all_goals (refine go1 ?_)); (all_goals (first | (refine g_call3 rfl (fun _ h => h) rfl (semR_of_semC (c1)) rfl rfl ?_) | (refine n_guard rfl rfl (fun h => ?_) rfl (fun h => ?_); all_goals ((try simp only [pl] at h); (try (exfalso; omega)))) | (refine c_cond rfl (fun h => ?_) (fun h => ?_); all_goals ((try simp only [pl] at h); (try (exfalso; omega)))) | skip))))
   all_goals (refine go0 ?_)
   all_goals rfl
 ·have hk' : k = l.length := by have := of_decide_eq_false h; omega
  subst hk'
  rw [List.drop_length, totS] at hR
  simp only [Prod.mk.injEq] at hR
  obtain ⟨rfl, rfl⟩ := hR
  refine go1 ?_
  refine go0 ?_
  rfl
end
section
variable {G : GS}
attribute [local irreducible] vOpsN vOpsG vOpsD vOpGD NextD vC SeqQ BlockQ
def insA (a : AcS) : List AcS → List AcS
 | [] => [a]
 | b :: r => if Op.bytesLess b.name a.name then b :: insA a r else a :: b :: r
def putS (a : AcS) (l : List AcS) : List AcS := if 0 ≤ findS a.name l 0 then l.set (findS a.name l 0).toNat a else insA a l
theorem insA_at (a : AcS) : ∀ (l : List AcS) (k : Nat), k ≤ l.length → (∀ j (hj : j < l.length), j < k → Op.bytesLess l[j].name a.name = true) → (∀ hk : k < l.length, Op.bytesLess l[k].name a.name = false) → insA a l = l.take k ++ a :: l.drop k
 | [], k, h, _, _ => by
  have : k = 0 := by simpa using h
  subst this; rfl
 | b :: r, 0, _, _, h2 => by
  have := h2 (by simp)
  simp only [List.getElem_cons_zero] at this
  rw [insA, if_neg (by rw [this]; simp)]
  rfl
 | b :: r, k + 1, h, h1, h2 => by
  have hb := h1 0 (by simp) (by omega)
  simp only [List.getElem_cons_zero] at hb
  rw [insA, if_pos hb, insA_at a r k (by simpa using h) (fun j hj hjk => by have := h1 (j + 1) (by simpa using hj) (by omega); simpa using this) (fun hk => by have := h2 (by simpa using hk); simpa using this)]
  rfl
theorem head_ac (l : List AcS) : headSize (l.map acM) 3 = true := by cases l <;> rfl
theorem insA_len (a : AcS) : ∀ l, (insA a l).length = l.length + 1
 | [] => rfl
 | b :: r => by
  rw [insA]
  split
  ·simp [insA_len a r]
  ·simp
theorem putS_len (a : AcS) (l : List AcS) : (putS a l).length ≤ l.length + 1 := by
 unfold putS
 split
 ·simp
 ·rw [insA_len]; omega
theorem put_r (a : AcS) (l : List AcS) (hl : l.length ≤ 1000000) : SemR Tryz.prog G 193 [.sl l.length (l.map acM), acM a] [] 0 (.sl (putS a l).length ((putS a l).map acM)) [] 0 := by
 have c1 := find_m (G := G) l a.name hl
 obtain ⟨nm, bal, seq⟩ := a
 dsimp only at c1
 have hspec := findS_spec nm l 0
 have hput : putS ⟨nm, bal, seq⟩ l = if 0 ≤ findS nm l 0 then l.set (findS nm l 0).toNat ⟨nm, bal, seq⟩ else insA ⟨nm, bal, seq⟩ l := rfl
 by_cases hf : findS nm l 0 = -1
 ·rw [hf] at c1 hput
  rw [if_neg (by omega)] at hput
  rw [hput]
  clear hspec hf hput
  have hins := insA_at ⟨nm, bal, seq⟩ l
  have hil := insA_len ⟨nm, bal, seq⟩ l
  dsimp only at hins
  generalize insA ⟨nm, bal, seq⟩ l = Z at *
  refine srq seat Tryz.func193 50 ?_
  refine go1 ?_
  (iterate 3 ((all_goals (refine go1 ?_)); (all_goals (first | (refine g_call3 rfl (fun _ h => h) rfl (semR_of_semC (c1)) rfl rfl ?_) | (refine n_guard rfl rfl (fun h => ?_) rfl (fun h => ?_); all_goals ((try simp only [pl] at h); (try (exfalso; omega)))) | (refine c_cond rfl (fun h => ?_) (fun h => ?_); all_goals ((try simp only [pl] at h); (try (exfalso; omega)))) | skip))))
  refine c_loop Nat (fun k => [(7, .int .i64 k), (3, .ptr 0 3 0 0 []), (0, .sl l.length (l.map acM))]) (fun _ => [(0, ⟨126, 3, false, 0, [.st [.str nm, .int .u64 bal, .int .u64 seq]]⟩)]) 1 (fun k => k ≤ l.length ∧ ∀ j (hj : j < l.length), j < k → Op.bytesLess l[j].name nm = true) (fun k => l.length - k) 0 ⟨Nat.zero_le _, fun j hj h => absurd h (Nat.not_lt_zero _)⟩ (vm [(0, _)] []) ?_
  rintro k ⟨hki, hpre⟩
  try dsimp only
  have step : ∀ hk : k < l.length, Op.bytesLess l[k].name nm = true → (k + 1 ≤ l.length ∧ ∀ j (hj : j < l.length), j < k + 1 → Op.bytesLess l[j].name nm = true) := fun hk hb => ⟨by omega, fun j hj hjk => by
   rcases Nat.lt_or_ge j k with h | h
   ·exact hpre j hj h
   ·have : j = k := by omega
    subst this; exact hb⟩
  have done : (∀ hk : k < l.length, Op.bytesLess l[k].name nm = false) → Z = l.take k ++ ⟨nm, bal, seq⟩ :: l.drop k := fun h => hins k hki hpre h
  clear hins
  refine go1 ?_
  refine c_draw [(0, false), (1, false), (2, false), (3, false), (4, false), (5, false), (6, false), (7, false), (8, false), (9, false), (10, false), (11, false), (12, false), (13, false)] ?_
  refine go1 ?_
  refine d_guard rfl rfl (fun h => ?_) rfl (fun h => ?_)
  ·have hk : k < l.length := by have := of_decide_eq_true h; omega
   have hel := acs_at hk
   replace step := step hk
   generalize he : l[k] = b at *
   obtain ⟨nm', bal', seq'⟩ := b
   replace hel : idxL (l.map acM) l.length (k : Int) = some (.st [.str nm', .int .u64 bal', .int .u64 seq']) := hel
   have hel := SomF.mk hel
   dsimp only at step
   refine go1 ?_
   refine c_cond rfl (fun h => ?_) (fun h => ?_)
   ·refine go1 ?_
    exact ⟨k + 1, step h, by show l.length - (k + 1) < l.length - k; omega, (by dsimp only; exact (vm [(0, _)] []))⟩
   ·have hfin := done (fun _ => by rw [he]; exact h)
    have fb1 := SomF.mk (bndHi (κ := .i64) hki)
    have fb2 := SomF.mk (bndLo (κ := .i64) hki)
    have fb3 := SideF.mk (head_ac l)
    refine go1 ?_
    refine c_draw [(0, false), (1, false), (2, false), (3, false), (4, false), (5, false), (6, false), (7, false), (8, false), (9, false), (10, false), (11, false), (12, false)] ?_
    refine go1 ?_
    refine gd_mem rfl (by intro R hR; refine sms hR ?_; refine And.intro ((by show headSize (cutL _ 0 k) 3 = true; rw [cut_take]; exact head_ac _)) ?_; refine And.intro ⟨rfl, app_ok (by kernel_rfl) pf⟩ ?_; refine ⟨(l.take k).map acM, sv (by show [] ++ cutL _ 0 k = _; rw [List.nil_append, cut_take]), k, sv pf, ?_⟩; exact hR) rfl ?_
    refine go1 ?_
    refine gd_mem rfl (by intro R hR; refine sms hR ?_; (refine And.intro (Nat.le_refl _) ?_; refine ⟨_, rfl, ?_⟩; refine And.intro ⟨(by simp <;> omega), app_ok (by kernel_rfl) pf⟩ ?_; refine ⟨(l.take k ++ [(⟨nm, bal, seq⟩ : AcS)]).map acM, sv (by simp; rfl), k+1, sv pf, ?_⟩); exact hR) rfl ?_
    refine go1 ?_
    refine gd_mem rfl (by intro R hR; refine sms hR ?_; refine And.intro ((by show headSize (cutL _ k l.length) 3 = true; rw [cut_drop]; exact head_ac _)) ?_; refine And.intro ⟨(by simp <;> omega), app_ok (by kernel_rfl) pf⟩ ?_; refine ⟨Z.map acM, sv (by rw [hfin]; show _ ++ cutL _ k l.length = _; rw [cut_drop]; simp), Z.length, sv pf, ?_⟩; exact hR) rfl ?_
    refine go1 ?_
    refine ⟨[_], [], [(26, Z.length)], rfl, rfl, ?_, rfl, ⟨?_, trivial⟩, ?_⟩
    ·exact ⟨by show Z.length ≤ (Z.map acM).length; simp, trivial⟩
    ·exact .inr ⟨rfl, rfl, rfl, Nat.le_of_eq (Nat.zero_add _), cut_all acM Z⟩
    ·exact mm
  ·have hk : k = l.length := by have := of_decide_eq_false h; omega
   have hfin := done (fun h => absurd h (by omega))
   refine go1 ?_
   have fb1 := SomF.mk (bndHi (κ := .i64) hki)
   have fb2 := SomF.mk (bndLo (κ := .i64) hki)
   have fb3 := SideF.mk (head_ac l)
   refine go1 ?_
   refine c_draw [(0, false), (1, false), (2, false), (3, false), (4, false), (5, false), (6, false), (7, false), (8, false), (9, false), (10, false), (11, false), (12, false)] ?_
   refine go1 ?_
   refine gd_mem rfl (by intro R hR; refine sms hR ?_; refine And.intro ((by show headSize (cutL _ 0 k) 3 = true; rw [cut_take]; exact head_ac _)) ?_; refine And.intro ⟨rfl, app_ok (by kernel_rfl) pf⟩ ?_; refine ⟨(l.take k).map acM, sv (by show [] ++ cutL _ 0 k = _; rw [List.nil_append, cut_take]), k, sv pf, ?_⟩; exact hR) rfl ?_
   refine go1 ?_
   refine gd_mem rfl (by intro R hR; refine sms hR ?_; (refine And.intro (Nat.le_refl _) ?_; refine ⟨_, rfl, ?_⟩; refine And.intro ⟨(by simp <;> omega), app_ok (by kernel_rfl) pf⟩ ?_; refine ⟨(l.take k ++ [(⟨nm, bal, seq⟩ : AcS)]).map acM, sv (by simp; rfl), k+1, sv pf, ?_⟩); exact hR) rfl ?_
   refine go1 ?_
   refine gd_mem rfl (by intro R hR; refine sms hR ?_; refine And.intro ((by show headSize (cutL _ k l.length) 3 = true; rw [cut_drop]; exact head_ac _)) ?_; refine And.intro ⟨(by simp <;> omega), app_ok (by kernel_rfl) pf⟩ ?_; refine ⟨Z.map acM, sv (by rw [hfin]; show _ ++ cutL _ k l.length = _; rw [cut_drop]; simp), Z.length, sv pf, ?_⟩; exact hR) rfl ?_
   refine go1 ?_
   refine ⟨[_], [], [(26, Z.length)], rfl, rfl, ?_, rfl, ⟨?_, trivial⟩, ?_⟩
   ·exact ⟨by show Z.length ≤ (Z.map acM).length; simp, trivial⟩
   ·exact .inr ⟨rfl, rfl, rfl, Nat.le_of_eq (Nat.zero_add _), cut_all acM Z⟩
   ·exact mm
 ·obtain ⟨k, b, h1, h2, _⟩ := hspec.resolve_left (fun h => hf h.1)
  have hk := (List.getElem?_eq_some_iff.1 h2).1
  rw [h1] at c1 hput
  rw [if_pos (by omega), Int.toNat_natCast, Nat.zero_add] at hput
  rw [Nat.zero_add] at c1
  rw [hput]
  clear h1 h2 hspec hf hput
  rw [List.length_set]
  have f1 := SomF.mk (idx_at hk)
  have hrow : nthM (l.map acM) (0 + k) = some (acM l[k]) := by rw [nthM_eq, Nat.zero_add]; simp [hk]
  generalize l[k] = b' at hrow
  obtain ⟨nm', bal', seq'⟩ := b'
  have hrow := SomF.mk (show nthM (l.map acM) (0 + k) = some (.st [.str nm', .int .u64 bal', .int .u64 seq']) from hrow)
  refine srq seat Tryz.func193 50 ?_
  refine go1 ?_
  (iterate 3 ((all_goals (refine go1 ?_)); (all_goals (first | (refine g_call3 rfl (fun _ h => h) rfl (semR_of_semC (c1)) rfl rfl ?_) | (refine n_guard rfl rfl (fun h => ?_) rfl (fun h => ?_); all_goals ((try simp only [pl] at h); (try (exfalso; omega)))) | (refine c_cond rfl (fun h => ?_) (fun h => ?_); all_goals ((try simp only [pl] at h); (try (exfalso; omega)))) | skip))))
  refine g_mem rfl rfl (by intro R hR; refine sms hR ?_; refine And.intro ((head_ac l)) ?_; refine And.intro ⟨rfl, app_ok (by kernel_rfl) pf⟩ ?_; refine ⟨l.map acM, sv (by show [] ++ l.map acM = _; rw [List.nil_append]), l.length, sv pf, ?_⟩; exact hR) rfl ?_
  refine go1 ?_
  refine ⟨[_], [], [(10, l.length)], rfl, rfl, ?_, rfl, ⟨?_, trivial⟩, ?_⟩
  ·exact ⟨by show l.length ≤ (setL (l.map acM) (0 + k) _).length; rw [setL_eq]; simp, trivial⟩
  ·refine .inr ⟨rfl, rfl, rfl, Nat.le_of_eq (Nat.zero_add _), ?_⟩
   show cutL (setL (l.map acM) (0 + k) (acM ⟨nm, bal, seq⟩)) 0 (0 + l.length) = (l.set k ⟨nm, bal, seq⟩).map acM
   rw [setL_eq, Nat.zero_add, ← List.map_set, cut_take, Nat.zero_add]
   rw [List.take_of_length_le (by rw [List.length_set]; omega)]
  ·exact mm
end
section
variable {G : GS}
attribute [local irreducible] vOpsN vOpsG vOpsD vOpGD NextD vC SeqQ BlockQ
def sumG : List Nat → Nat → Nat × Bool
 | [], s => (s, true)
 | x :: r, s => if (addS s x).2 then sumG r (addS s x).1 else (0, false)
def u64s (l : List Nat) : List MV := l.map fun (n : Nat) => MV.int .u64 (n : Int)
theorem u64s_at {l : List Nat} {k : Nat} (hk : k < l.length) : idxL (u64s l) l.length (k : Int) = some (.int .u64 (l[k] : Int)) := index_at hk (by simp [u64s, hk])
end
end Go.Proofs.YtdjcdmnemddjlaaGreat
