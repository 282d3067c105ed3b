/- ChainChecks: whatever the input (of bulk at most 1048576), the law answers true, and its arguments read as before. Conditions: the bound on what the arguments hold. -/
import Derived.Deep.CondSized
import Derived.Test.YtoagomdghimlbaaGreatW07
set_option maxRecDepth 20000
set_option maxHeartbeats 16000000
namespace Go.Proofs.YtoagomdghimlbaaGreat
open Go.RowKit
section
open Go.ChangeShapes Go.WideShapes Go.ChangeAt Go.RowKit
theorem u8_lift : ∀ (l : List Int), (∀ y ∈ l, (Lit.int .u8 y).wf = true) → ∃ bs : List UInt8, l.map (MV.int .u8) = u8s bs ∧ bs.length = l.length
 | [], _ => ⟨[], rfl, rfl⟩
 | y :: l, h => by
  obtain ⟨bs, h1, h2⟩ := u8_lift l fun z hz => h z (by simp [hz])
  have hy := h y (by simp)
  have hy : 0 ≤ y ∧ y < 256 := by
   simp [Lit.wf, IntKind.min, IntKind.max, IntKind.signed, IntKind.bits] at hy
   omega
  refine ⟨UInt8.ofNat y.toNat :: bs, ?_, by simp [h2]⟩
  show MV.int .u8 y :: l.map (MV.int .u8) = MV.int .u8 ((UInt8.ofNat y.toNat).toNat : Int) :: u8s bs
  rw [h1, UInt8.toNat_ofNat']
  congr 2
  omega
theorem opn_u8s : Opn Tryz.prog 64 1 fun m => ∃ l, m = .sl l.length l ∧ (∀ x ∈ l, ∃ n, x = .int .u8 n ∧ (Lit.int .u8 n).wf = true) ∧ l.length ≤ 140737488355328 := Opn.slice Tryz.underlying64 (by kernel_rfl) (Nat.le_of_ble_eq_true (by kernel_rfl)) (by omega) (Opn.int Tryz.underlying5 (by kernel_rfl))
def okRaw (m : MV) : Prop := ∃ l, m = .sl l.length l ∧ (∀ x ∈ l, ∃ n, x = .int .u8 n ∧ (Lit.int .u8 n).wf = true) ∧ l.length ≤ 140737488355328
def okNum (k : IntKind) (m : MV) : Prop := ∃ n, m = .int k n ∧ (Lit.int k n).wf = true
def okKey (m : MV) : Prop := ∃ l : List Int, m = .arr 32 1 (l.map (.int .u8)) ∧ l.length = 32 ∧ ∀ y ∈ l, (Lit.int .u8 y).wf = true
theorem OpnL.cons {P : Program} {o n : Nat} {Q : MV → Prop} {f : Field} {fs : List Field} {qs : List (Nat × (MV → Prop))} (h1 : f.offset = o) (h2 : Opn P f.type n Q) (h3 : OpnL P (o + n) fs qs) : OpnL P o (f :: fs) ((n, Q) :: qs) := ⟨h1, h2, h3⟩
theorem OpnL.nil {P : Program} {o : Nat} : OpnL P o [] [] := trivial
theorem opn_key : Opn Tryz.prog 25 32 okKey := Opn.arr Tryz.underlying25 Tryz.underlying5 (by kernel_rfl) (by kernel_rfl)
theorem opn_i64 : Opn Tryz.prog 3 1 (okNum .i64) := opn_int
theorem opn_raw : Opn Tryz.prog 64 1 okRaw := opn_u8s
theorem AllQ.cons {q : Nat × (MV → Prop)} {qs : List (Nat × (MV → Prop))} : ∀ {l : List MV}, AllQ (q :: qs) l → ∃ m r, l = m :: r ∧ q.2 m ∧ AllQ qs r
 | [], h => h.elim
 | m :: r, h => ⟨m, r, rfl, h.1, h.2⟩
theorem AllQ.nil : ∀ {l : List MV}, AllQ [] l → l = []
 | [], _ => rfl
 | _ :: _, h => h.elim
theorem opn_raws : Opn Tryz.prog 23 1 fun m => ∃ l, m = .sl l.length l ∧ (∀ x ∈ l, okRaw x) ∧ l.length ≤ 140737488355328 := Opn.slice Tryz.underlying23 (by kernel_rfl) (Nat.le_of_ble_eq_true (by kernel_rfl)) (by omega) opn_raw
theorem bulk_mem : ∀ (l : List MV) (m : MV), m ∈ l → m.bulk ≤ MV.bulks l
 | [], m, h => by cases h
 | x :: l, m, h => by
  rcases List.mem_cons.1 h with rfl | h
  ·simp only [MV.bulks]; omega
  ·have := bulk_mem l m h
   simp only [MV.bulks]; omega
theorem raw_lift {m : MV} (h : okRaw m) : ∃ r : List UInt8, m = rawM r := by
 obtain ⟨l, rfl, h, hl⟩ := h
 obtain ⟨us, rfl, hu⟩ := lift_list l h
 obtain ⟨bs, e, hb⟩ := u8_lift us hu
 exact ⟨bs, by rw [e]; unfold rawM; simp [u8s, hb]⟩
theorem raw_bulk (r : List UInt8) : r.length ≤ (rawM r).bulk := by
 have h1 := bulks_len (u8s r)
 unfold rawM
 simp only [u8s, List.length_map] at h1
 simp only [MV.bulk, u8s]
 omega
def OkRaws (B : Nat) (l : List (List UInt8)) : Prop := l.length ≤ B ∧ ∀ r ∈ l, r.length ≤ B
theorem raws_lift0 {m : MV} (h : ∃ l, m = .sl l.length l ∧ (∀ x ∈ l, okRaw x) ∧ l.length ≤ 140737488355328) {B : Nat} (hB : m.bulk ≤ B) : ∃ rs : List (List UInt8), m = .sl rs.length (rs.map rawM) ∧ OkRaws B rs := by
 obtain ⟨l, rfl, h, hl⟩ := h
 have h2 : ∀ x ∈ l, ∃ r : List UInt8, x = rawM r ∧ True := fun x hx => by
  obtain ⟨r, e⟩ := raw_lift (h x hx)
  exact ⟨r, e, trivial⟩
 obtain ⟨rs, rfl, _⟩ := lift_list l h2
 have h3 := bulks_len (rs.map rawM)
 simp only [MV.bulk, List.length_map] at hB h3
 refine ⟨rs, by rw [List.length_map], by omega, fun r hr => ?_⟩
 have h4 := bulk_mem (rs.map rawM) (rawM r) (List.mem_map.2 ⟨r, hr, rfl⟩)
 have h5 := raw_bulk r
 omega
theorem raws_lift {m : MV} (h : ∃ l, m = .sl l.length l ∧ (∀ x ∈ l, okRaw x) ∧ l.length ≤ 140737488355328) {B : Nat} (hB : m.bulk ≤ B) : ∃ rs : List (List UInt8), m = rawsM rs ∧ OkRaws B rs := raws_lift0 h hB
theorem key_lift {m : MV} (h : okKey m) : ∃ k : List UInt8, m = keyM k ∧ k.length = 32 := by
 obtain ⟨l, rfl, hl, h⟩ := h
 obtain ⟨kb, e, hk⟩ := u8_lift l h
 exact ⟨kb, by unfold keyM; rw [e], by omega⟩
theorem num_lift {m : MV} (h : okNum .i64 m) : ∃ n : Int, m = .int .i64 n ∧ I64 n := by
 obtain ⟨n, rfl, h⟩ := h
 simp [Lit.wf, IntKind.min, IntKind.max, IntKind.signed, IntKind.bits] at h
 exact ⟨n, rfl, by unfold I64; omega⟩
def okRows (m : MV) : Prop := ∃ l, m = .sl l.length l ∧ (∀ x ∈ l, okRaw x) ∧ l.length ≤ 140737488355328
def qsH : List (Nat × (MV → Prop)) := [(1, okNum .i64), (1, okNum .i64), (1, okNum .i64), (32, okKey), (32, okKey), (32, okKey), (32, okKey)]
def okHead (m : MV) : Prop := ∃ l, m = .st l ∧ AllQ qsH l
theorem opn_head : Opn Tryz.prog 27 131 okHead := by
 refine Opn.struct (P := Tryz.prog) (qs := qsH) Tryz.underlying27 (by kernel_rfl) ?_
 unfold qsH
 refine .cons rfl opn_i64 ?_
 refine .cons rfl opn_i64 ?_
 refine .cons rfl opn_i64 ?_
 refine .cons rfl opn_key ?_
 refine .cons rfl opn_key ?_
 refine .cons rfl opn_key ?_
 refine .cons rfl opn_key ?_
 exact .nil
def qsB : List (Nat × (MV → Prop)) := [(131, okHead), (1, okRows)]
theorem opn_block : Opn Tryz.prog 29 132 fun m => ∃ l, m = .st l ∧ AllQ qsB l := by
 refine Opn.struct (P := Tryz.prog) (qs := qsB) Tryz.underlying29 (by kernel_rfl) ?_
 unfold qsB
 refine .cons rfl opn_head ?_
 refine .cons rfl opn_raws ?_
 exact .nil
def qsT : List (Nat × (MV → Prop)) := [(1, okNum .i64), (1, okNum .i64), (32, okKey), (32, okKey), (32, okKey)]
theorem opn_tip : Opn Tryz.prog 33 98 fun m => ∃ l, m = .st l ∧ AllQ qsT l := by
 refine Opn.struct (P := Tryz.prog) (qs := qsT) Tryz.underlying33 (by kernel_rfl) ?_
 unfold qsT
 refine .cons rfl opn_i64 ?_
 refine .cons rfl opn_i64 ?_
 refine .cons rfl opn_key ?_
 refine .cons rfl opn_key ?_
 refine .cons rfl opn_key ?_
 exact .nil
theorem head_lift {m : MV} (h : okHead m) : ∃ x : HdS, m = hdM x ∧ HdOk x := by
 obtain ⟨l, rfl, h⟩ := h
 unfold qsH at h
 obtain ⟨_, l1, rfl, h1, g1⟩ := h.cons
 obtain ⟨_, l2, rfl, h2, g2⟩ := g1.cons
 obtain ⟨_, l3, rfl, h3, g3⟩ := g2.cons
 obtain ⟨_, l4, rfl, h4, g4⟩ := g3.cons
 obtain ⟨_, l5, rfl, h5, g5⟩ := g4.cons
 obtain ⟨_, l6, rfl, h6, g6⟩ := g5.cons
 obtain ⟨_, l7, rfl, h7, g7⟩ := g6.cons
 obtain rfl := g7.nil
 obtain ⟨a1, rfl, b1⟩ := num_lift h1
 obtain ⟨a2, rfl, b2⟩ := num_lift h2
 obtain ⟨a3, rfl, b3⟩ := num_lift h3
 obtain ⟨a4, rfl, b4⟩ := key_lift h4
 obtain ⟨a5, rfl, b5⟩ := key_lift h5
 obtain ⟨a6, rfl, b6⟩ := key_lift h6
 obtain ⟨a7, rfl, b7⟩ := key_lift h7
 exact ⟨⟨a1, a2, a3, a4, a5, a6, a7⟩, rfl, b1, b2, b3, b4, b5, b6, b7⟩
theorem tip_lift {m : MV} (h : ∃ l, m = .st l ∧ AllQ qsT l) : ∃ x : TipS, m = tipM x ∧ TipOk x := by
 obtain ⟨l, rfl, h⟩ := h
 unfold qsT at h
 obtain ⟨_, l1, rfl, h1, g1⟩ := h.cons
 obtain ⟨_, l2, rfl, h2, g2⟩ := g1.cons
 obtain ⟨_, l3, rfl, h3, g3⟩ := g2.cons
 obtain ⟨_, l4, rfl, h4, g4⟩ := g3.cons
 obtain ⟨_, l5, rfl, h5, g5⟩ := g4.cons
 obtain rfl := g5.nil
 obtain ⟨a1, rfl, b1⟩ := num_lift h1
 obtain ⟨a2, rfl, b2⟩ := num_lift h2
 obtain ⟨a3, rfl, b3⟩ := key_lift h3
 obtain ⟨a4, rfl, b4⟩ := key_lift h4
 obtain ⟨a5, rfl, b5⟩ := key_lift h5
 exact ⟨⟨a1, a2, a3, a4, a5⟩, rfl, b1, b2, b3, b4, b5⟩
theorem block_lift {m : MV} (h : ∃ l, m = .st l ∧ AllQ qsB l) {B : Nat} (hB : m.bulk ≤ B) : ∃ x : BlkS, m = blkM x ∧ HdOk x.hd ∧ OkRaws B x.txs := by
 obtain ⟨l, rfl, h⟩ := h
 unfold qsB at h
 obtain ⟨_, l1, rfl, h1, g1⟩ := h.cons
 obtain ⟨_, l2, rfl, h2, g2⟩ := g1.cons
 obtain rfl := g2.nil
 obtain ⟨x, rfl, hx⟩ := head_lift h1
 simp only [MV.bulk, MV.bulks] at hB
 obtain ⟨rs, rfl, hr⟩ := raws_lift0 h2 (B := B) (by omega)
 exact ⟨⟨x, rs⟩, rfl, hx, hr⟩
end
section
variable {G : GS}
attribute [local irreducible] vOpsN vOpsG vOpsD vOpGD NextD vC SeqQ BlockQ
theorem hk3_get {a b c : Int} {k1 k2 k3 k4 : List UInt8} {x : MV} {i : Nat} (h : i < k1.length) : getPO (.st [.st [.int .i64 a, .int .i64 b, .int .i64 c, keyM k1, keyM k2, keyM k3, keyM k4], x]) ([] ++ [0] ++ [3] ++ [i]) (0 + 0 + 3 + i * 1) = some (u8M (k1.getD i 0)) := by
 show (bif Nat.ble 0 (0 + 0 + 3 + i * 1) then (bif Nat.ble 3 (0 + 0 + 3 + i * 1 - 0) then getPO (keyM k1) ([] ++ [i]) (0 + 0 + 3 + i * 1 - 0 - 3) else none) else none) = _
 have e1 : Nat.ble 0 (0 + 0 + 3 + i * 1) = true := by rw [Nat.ble_eq]; omega
 have e2 : Nat.ble 3 (0 + 0 + 3 + i * 1 - 0) = true := by rw [Nat.ble_eq]; omega
 rw [e1, e2, show 0 + 0 + 3 + i * 1 - 0 - 3 = 0 + i * 1 by omega]
 exact key_get h
theorem hk3_set {a b c : Int} {k1 k2 k3 k4 : List UInt8} {x : MV} {i : Nat} (h : i < k1.length) (y : UInt8) : setPO (.st [.st [.int .i64 a, .int .i64 b, .int .i64 c, keyM k1, keyM k2, keyM k3, keyM k4], x]) ([] ++ [0] ++ [3] ++ [i]) (0 + 0 + 3 + i * 1) (u8M y) = some (.st [.st [.int .i64 a, .int .i64 b, .int .i64 c, keyM (k1.set i y), keyM k2, keyM k3, keyM k4], x]) := by
 show (bif Nat.ble 0 (0 + 0 + 3 + i * 1) then (match (bif Nat.ble 3 (0 + 0 + 3 + i * 1 - 0) then (match setPO (keyM k1) ([] ++ [i]) (0 + 0 + 3 + i * 1 - 0 - 3) (u8M y) with | some m' => some (.st (setL [.int .i64 a, .int .i64 b, .int .i64 c, keyM k1, keyM k2, keyM k3, keyM k4] 3 m')) | none => none) else none) with | some m' => some (MV.st (setL [.st [.int .i64 a, .int .i64 b, .int .i64 c, keyM k1, keyM k2, keyM k3, keyM k4], x] 0 m')) | none => none) else none) = _
 have e1 : Nat.ble 0 (0 + 0 + 3 + i * 1) = true := by rw [Nat.ble_eq]; omega
 have e2 : Nat.ble 3 (0 + 0 + 3 + i * 1 - 0) = true := by rw [Nat.ble_eq]; omega
 rw [e1, e2, show 0 + 0 + 3 + i * 1 - 0 - 3 = 0 + i * 1 by omega, key_set h y]
 rfl
theorem hk4_get {a b c : Int} {k1 k2 k3 k4 : List UInt8} {x : MV} {i : Nat} (h : i < k2.length) : getPO (.st [.st [.int .i64 a, .int .i64 b, .int .i64 c, keyM k1, keyM k2, keyM k3, keyM k4], x]) ([] ++ [0] ++ [4] ++ [i]) (0 + 0 + 35 + i * 1) = some (u8M (k2.getD i 0)) := by
 show (bif Nat.ble 0 (0 + 0 + 35 + i * 1) then (bif Nat.ble 35 (0 + 0 + 35 + i * 1 - 0) then getPO (keyM k2) ([] ++ [i]) (0 + 0 + 35 + i * 1 - 0 - 35) else none) else none) = _
 have e1 : Nat.ble 0 (0 + 0 + 35 + i * 1) = true := by rw [Nat.ble_eq]; omega
 have e2 : Nat.ble 35 (0 + 0 + 35 + i * 1 - 0) = true := by rw [Nat.ble_eq]; omega
 rw [e1, e2, show 0 + 0 + 35 + i * 1 - 0 - 35 = 0 + i * 1 by omega]
 exact key_get h
theorem hk4_set {a b c : Int} {k1 k2 k3 k4 : List UInt8} {x : MV} {i : Nat} (h : i < k2.length) (y : UInt8) : setPO (.st [.st [.int .i64 a, .int .i64 b, .int .i64 c, keyM k1, keyM k2, keyM k3, keyM k4], x]) ([] ++ [0] ++ [4] ++ [i]) (0 + 0 + 35 + i * 1) (u8M y) = some (.st [.st [.int .i64 a, .int .i64 b, .int .i64 c, keyM k1, keyM (k2.set i y), keyM k3, keyM k4], x]) := by
 show (bif Nat.ble 0 (0 + 0 + 35 + i * 1) then (match (bif Nat.ble 35 (0 + 0 + 35 + i * 1 - 0) then (match setPO (keyM k2) ([] ++ [i]) (0 + 0 + 35 + i * 1 - 0 - 35) (u8M y) with | some m' => some (.st (setL [.int .i64 a, .int .i64 b, .int .i64 c, keyM k1, keyM k2, keyM k3, keyM k4] 4 m')) | none => none) else none) with | some m' => some (MV.st (setL [.st [.int .i64 a, .int .i64 b, .int .i64 c, keyM k1, keyM k2, keyM k3, keyM k4], x] 0 m')) | none => none) else none) = _
 have e1 : Nat.ble 0 (0 + 0 + 35 + i * 1) = true := by rw [Nat.ble_eq]; omega
 have e2 : Nat.ble 35 (0 + 0 + 35 + i * 1 - 0) = true := by rw [Nat.ble_eq]; omega
 rw [e1, e2, show 0 + 0 + 35 + i * 1 - 0 - 35 = 0 + i * 1 by omega, key_set h y]
 rfl
theorem hk5_get {a b c : Int} {k1 k2 k3 k4 : List UInt8} {x : MV} {i : Nat} (h : i < k3.length) : getPO (.st [.st [.int .i64 a, .int .i64 b, .int .i64 c, keyM k1, keyM k2, keyM k3, keyM k4], x]) ([] ++ [0] ++ [5] ++ [i]) (0 + 0 + 67 + i * 1) = some (u8M (k3.getD i 0)) := by
 show (bif Nat.ble 0 (0 + 0 + 67 + i * 1) then (bif Nat.ble 67 (0 + 0 + 67 + i * 1 - 0) then getPO (keyM k3) ([] ++ [i]) (0 + 0 + 67 + i * 1 - 0 - 67) else none) else none) = _
 have e1 : Nat.ble 0 (0 + 0 + 67 + i * 1) = true := by rw [Nat.ble_eq]; omega
 have e2 : Nat.ble 67 (0 + 0 + 67 + i * 1 - 0) = true := by rw [Nat.ble_eq]; omega
 rw [e1, e2, show 0 + 0 + 67 + i * 1 - 0 - 67 = 0 + i * 1 by omega]
 exact key_get h
theorem hk5_set {a b c : Int} {k1 k2 k3 k4 : List UInt8} {x : MV} {i : Nat} (h : i < k3.length) (y : UInt8) : setPO (.st [.st [.int .i64 a, .int .i64 b, .int .i64 c, keyM k1, keyM k2, keyM k3, keyM k4], x]) ([] ++ [0] ++ [5] ++ [i]) (0 + 0 + 67 + i * 1) (u8M y) = some (.st [.st [.int .i64 a, .int .i64 b, .int .i64 c, keyM k1, keyM k2, keyM (k3.set i y), keyM k4], x]) := by
 show (bif Nat.ble 0 (0 + 0 + 67 + i * 1) then (match (bif Nat.ble 67 (0 + 0 + 67 + i * 1 - 0) then (match setPO (keyM k3) ([] ++ [i]) (0 + 0 + 67 + i * 1 - 0 - 67) (u8M y) with | some m' => some (.st (setL [.int .i64 a, .int .i64 b, .int .i64 c, keyM k1, keyM k2, keyM k3, keyM k4] 5 m')) | none => none) else none) with | some m' => some (MV.st (setL [.st [.int .i64 a, .int .i64 b, .int .i64 c, keyM k1, keyM k2, keyM k3, keyM k4], x] 0 m')) | none => none) else none) = _
 have e1 : Nat.ble 0 (0 + 0 + 67 + i * 1) = true := by rw [Nat.ble_eq]; omega
 have e2 : Nat.ble 67 (0 + 0 + 67 + i * 1 - 0) = true := by rw [Nat.ble_eq]; omega
 rw [e1, e2, show 0 + 0 + 67 + i * 1 - 0 - 67 = 0 + i * 1 by omega, key_set h y]
 rfl
theorem hk6_get {a b c : Int} {k1 k2 k3 k4 : List UInt8} {x : MV} {i : Nat} (h : i < k4.length) : getPO (.st [.st [.int .i64 a, .int .i64 b, .int .i64 c, keyM k1, keyM k2, keyM k3, keyM k4], x]) ([] ++ [0] ++ [6] ++ [i]) (0 + 0 + 99 + i * 1) = some (u8M (k4.getD i 0)) := by
 show (bif Nat.ble 0 (0 + 0 + 99 + i * 1) then (bif Nat.ble 99 (0 + 0 + 99 + i * 1 - 0) then getPO (keyM k4) ([] ++ [i]) (0 + 0 + 99 + i * 1 - 0 - 99) else none) else none) = _
 have e1 : Nat.ble 0 (0 + 0 + 99 + i * 1) = true := by rw [Nat.ble_eq]; omega
 have e2 : Nat.ble 99 (0 + 0 + 99 + i * 1 - 0) = true := by rw [Nat.ble_eq]; omega
 rw [e1, e2, show 0 + 0 + 99 + i * 1 - 0 - 99 = 0 + i * 1 by omega]
 exact key_get h
theorem hk6_set {a b c : Int} {k1 k2 k3 k4 : List UInt8} {x : MV} {i : Nat} (h : i < k4.length) (y : UInt8) : setPO (.st [.st [.int .i64 a, .int .i64 b, .int .i64 c, keyM k1, keyM k2, keyM k3, keyM k4], x]) ([] ++ [0] ++ [6] ++ [i]) (0 + 0 + 99 + i * 1) (u8M y) = some (.st [.st [.int .i64 a, .int .i64 b, .int .i64 c, keyM k1, keyM k2, keyM k3, keyM (k4.set i y)], x]) := by
 show (bif Nat.ble 0 (0 + 0 + 99 + i * 1) then (match (bif Nat.ble 99 (0 + 0 + 99 + i * 1 - 0) then (match setPO (keyM k4) ([] ++ [i]) (0 + 0 + 99 + i * 1 - 0 - 99) (u8M y) with | some m' => some (.st (setL [.int .i64 a, .int .i64 b, .int .i64 c, keyM k1, keyM k2, keyM k3, keyM k4] 6 m')) | none => none) else none) with | some m' => some (MV.st (setL [.st [.int .i64 a, .int .i64 b, .int .i64 c, keyM k1, keyM k2, keyM k3, keyM k4], x] 0 m')) | none => none) else none) = _
 have e1 : Nat.ble 0 (0 + 0 + 99 + i * 1) = true := by rw [Nat.ble_eq]; omega
 have e2 : Nat.ble 99 (0 + 0 + 99 + i * 1 - 0) = true := by rw [Nat.ble_eq]; omega
 rw [e1, e2, show 0 + 0 + 99 + i * 1 - 0 - 99 = 0 + i * 1 by omega, key_set h y]
 rfl
abbrev GoodB (x : BlkS) : Prop := HdOk x.hd ∧ x.txs.length ≤ 1001 ∧ ∀ r ∈ x.txs, r.length < 300000000
theorem checks_r (k : List Int) (raw : BlkS) (tip : TipS) (field by_ nodes mb : Int) (hk : k.length ≤ 140737488355328) (hraw : HdOk raw.hd) (hrn : raw.txs.length < 1000000000) (hrl : ∀ r ∈ raw.txs, r.length < 300000000) (htip : TipOk tip) (_i1 : I64 field) (i2 : I64 by_) (i3 : I64 nodes) (i4 : I64 mb) : SemR Tryz.prog G 4 [intsM k, blkM raw, tipM tip, .int .i64 field, .int .i64 by_, .int .i64 nodes, .int .i64 mb] [] 0 (.bool true) [] 0 := by
 have cL := long27_m (G := G) k hk
 have cK := known27_m (G := G)
 refine srq seat Tryz.func4 252 ?_
 refine go1 ?_
 refine g_call1 rfl hhq rfl (src (cL)) rfl [(4, 1)] mm lm ?_
 refine go1 ?_
 (refine n_grd ⟨rfl, rfl, rfl⟩ ?_ ?_ <;> intro h)
 ·refine go1 ?_
  (refine c_cond rfl ?_ ?_ <;> intro h)
  ·refine go1 ?_
   refine g_callC (src (cK)) rfl rfl hhq (by kernel_rfl) ?_
   refine go1 ?_
   refine go0 ?_
   (refine ret_r [_] rfl (by kernel_rfl) ?_; (refine go0 ?_); exact rfl)
  ·have hr10 : raw.txs.length ≤ 10 := by have := of_decide_eq_false h; omega
   refine go1 ?_
   refine g_callE1 rfl hhq rfl (scene_e (G := G) k) [] [] ⟨rfl, trivial, rfl, lm, mm⟩ rfl ?_
   rintro _ _ _ ⟨N, n, acs, bl, hN, rfl, rfl, rfl, hw, ha, hsm⟩
   refine ⟨rfl, ?_⟩
   obtain ⟨w1, w2, w3, w4, w5, w6⟩ := hw
   obtain ⟨m5, hm5, c5⟩ := next_b (G := G) k N 5 (by omega) (by omega) (by omega)
   have cR := raws_r (G := G) k (N + 1) n.st.app 4 (by omega) w1 (by omega)
   have hR := rawsS_ok (L := k) (N := N + 1) (n := 4) w1 (by omega)
   generalize rawsS k (N + 1) n.st.app 4 = RR at *
   obtain ⟨m, K1⟩ := RR
   dsimp only at cR hR
   have hrem : EqF ((n.tip.height + 1).tmod 3) ((n.tip.height + 1) % 3) := EqF.mk (Int.tmod_eq_emod_of_nonneg (by omega))
   have hpr := Int.emod_nonneg (n.tip.height + 1) (show (3 : Int) ≠ 0 by omega)
   have hpr2 := Int.emod_lt_of_pos (n.tip.height + 1) (show (0 : Int) < 3 by omega)
   generalize (n.tip.height + 1) % 3 = pr at *
   have cM := make_r (G := G) n.tip (n.st.time + m5) pr m (by omega) (by omega) (by omega) (fun x hx => by have := hR.1 x hx; omega)
   have hbk := makeS_ok (time := n.st.time + m5) (prop := pr) w2 (by omega) (by omega) (by unfold I64; omega) (by unfold I64; omega) (by omega) hR.1
   generalize makeS n.tip (n.st.time + m5) pr m = b at *
   have cP1 := place_m (G := G) by_ 32 (by omega) (by omega)
   have hp1 : 0 ≤ by_ % 32 ∧ by_ % 32 < 32 := ⟨Int.emod_nonneg _ (by omega), Int.emod_lt_of_pos _ (by omega)⟩
   obtain ⟨i, hi⟩ : ∃ i : Nat, by_ % 32 = i := ⟨(by_ % 32).toNat, by omega⟩
   rw [hi] at cP1 hp1
   have cP2 := place_m (G := G) field 10 (by omega) (by omega)
   generalize field % 10 = fl at *
   refine go1 ?_
   refine c_draw [(0, false), (1, false), (2, false), (3, false), (4, true), (5, false), (6, false), (7, false), (8, false), (9, false), (10, false), (11, false), (12, false), (13, true), (14, true), (15, false), (16, false)] ?_
   refine go1 ?_
   refine gd_callR1 rfl hhq rfl [12] (c5) [(0, 12)] [] ⟨rfl, trivial, rfl, lm, mm⟩ rfl rfl rfl rfl ?_
   refine go1 ?_
   refine gd_callR1 rfl hhq rfl [12] (cR) [(0, 12)] [] ⟨rfl, trivial, rfl, lm, mm⟩ rfl rfl rfl rfl ?_
   refine go1 ?_
   refine gd_call1 rfl hhq rfl [] (cM) rfl [] trivial lm rfl ?_
   refine go1 ?_
   refine g_callC (src (cP1)) rfl rfl hhq (by kernel_rfl) ?_
   refine go1 ?_
   refine g_callC (src (cP2)) rfl rfl hhq (by kernel_rfl) ?_
   refine gos ?_
   refine gos ?_
   refine gos ?_
   refine n_re ([(68, .int .i64 fl), (24, .int .i64 (i : Int)), (65, .int .i64 by_), (23, .ptr 47 132 0 (0 + 0) ([] ++ [0])), (21, .ptr 44 132 0 0 []), (22, .ptr 47 132 0 0 []), (15, .ptr 20 98 0 0 []), (17, .ptr 21 12 0 0 []), (9, .ptr 1 98 0 0 []), (8, .ptr 0 132 0 0 []), (5, .int .i64 nodes), (6, .int .i64 mb), (4, .int .i64 by_)]) ([(0, ⟨29, 132, false, 0, [blkM raw]⟩), (1, ⟨33, 98, false, 0, [tipM tip]⟩), (20, ⟨33, 98, false, 0, [tipM n.tip]⟩), (44, ⟨29, 132, false, 0, [blkM b]⟩), (47, ⟨29, 132, false, 0, [blkM b]⟩), (21, ⟨37, 12, false, 0, [cfM n.st.cfg]⟩)]) [] trivial rfl mm mm ?_
   refine go1 ?_
   refine q_joinB BlkS (fun _ => [(21, .ptr 3 132 0 0 []), (22, .ptr 4 132 0 0 []), (15, .ptr 2 98 0 0 []), (17, .ptr 5 12 0 0 []), (9, .ptr 1 98 0 0 []), (8, .ptr 0 132 0 0 []), (5, .int .i64 nodes), (6, .int .i64 mb)]) (fun x => [(0, ⟨29, 132, false, 0, [blkM raw]⟩), (1, ⟨33, 98, false, 0, [tipM tip]⟩), (2, ⟨33, 98, false, 0, [tipM n.tip]⟩), (3, ⟨29, 132, false, 0, [blkM b]⟩), (4, ⟨29, 132, false, 0, [blkM x]⟩), (5, ⟨37, 12, false, 0, [cfM n.st.cfg]⟩)]) (fun _ => 6) GoodB (fun JQ hj => ?_) (fun x hx => ?_)
   ·obtain ⟨⟨bh, bt, bp, bpar, btx, bap, bre⟩, btxs⟩ := b
    obtain ⟨⟨g1, g2, g3, g4, g5, g6, g7⟩, gn, gl0⟩ := hbk
    dsimp only at g1 g2 g3 g4 g5 g6 g7 gn gl0
    have gl : ∀ r ∈ btxs, r.length < 300000000 := fun r hr => by have := gl0 r hr; omega
    dsimp only [blkM, hdM]
    (refine c_cond rfl ?_ ?_ <;> intro h)
    ·refine go1 ?_
     exact hj.nrm ⟨⟨by_, bt, bp, bpar, btx, bap, bre⟩, btxs⟩ ⟨⟨i2, g2, g3, g4, g5, g6, g7⟩, Nat.le_succ_of_le gn, gl⟩ (by dsimp only; exact vm [(0, _), (1, _), (2, _), (3, _), (4, _), (5, _)] [])
    ·refine go1 ?_
     (refine c_cond rfl ?_ ?_ <;> intro h)
     ·have cq := place_m (G := G) by_ 3 (by omega) (by omega)
      have hq : 0 ≤ by_ % 3 ∧ by_ % 3 < 3 := ⟨Int.emod_nonneg _ (by omega), Int.emod_lt_of_pos _ (by omega)⟩
      generalize by_ % 3 = q at *
      refine go1 ?_
      refine c_draw [(0, false), (1, false), (2, false), (3, false), (4, true), (5, false), (6, false), (7, false), (8, false), (9, false)] ?_
      refine go1 ?_
      refine gd_call1 rfl hhq rfl [] (src (cq)) rfl [] trivial (relVs_self _ (by kernel_rfl)) rfl ?_
      refine go1 ?_
      exact hj.nrm ⟨⟨bh, n.tip.time + q - 1, bp, bpar, btx, bap, bre⟩, btxs⟩ ⟨⟨g1, by unfold I64; dsimp only; omega, g3, g4, g5, g6, g7⟩, Nat.le_succ_of_le gn, gl⟩ (by dsimp only; exact vm [(0, _), (1, _), (2, _), (3, _), (4, _), (5, _)] [])
     ·refine go1 ?_
      (refine c_cond rfl ?_ ?_ <;> intro h)
      ·have cq := place_m (G := G) by_ 5 (by omega) (by omega)
       have hq : 0 ≤ by_ % 5 ∧ by_ % 5 < 5 := ⟨Int.emod_nonneg _ (by omega), Int.emod_lt_of_pos _ (by omega)⟩
       generalize by_ % 5 = q at *
       refine go1 ?_
       refine g_callC (src (cq)) rfl rfl hhq (by kernel_rfl) ?_
       refine go1 ?_
       exact hj.nrm ⟨⟨bh, bt, q - 1, bpar, btx, bap, bre⟩, btxs⟩ ⟨⟨g1, g2, by unfold I64; dsimp only; omega, g4, g5, g6, g7⟩, Nat.le_succ_of_le gn, gl⟩ (by dsimp only; exact vm [(0, _), (1, _), (2, _), (3, _), (4, _), (5, _)] [])
      ·refine go1 ?_
       (refine c_cond rfl ?_ ?_ <;> intro h)
       ·have hia : i < bpar.length := by omega
        have qaa := SomF.mk (hk3_get (a := bh) (b := bt) (c := bp) (k1 := bpar) (k2 := btx) (k3 := bap) (k4 := bre) (x := .sl btxs.length (btxs.map rawM)) hia)
        have qba := SomF.mk (hk3_set (a := bh) (b := bt) (c := bp) (k1 := bpar) (k2 := btx) (k3 := bap) (k4 := bre) (x := .sl btxs.length (btxs.map rawM)) hia (UInt8.ofNat ((bpar.getD i 0).toNat + 1)))
        have qca := inc8 (bpar.getD i 0)
        have hla : (bpar.set i (UInt8.ofNat ((bpar.getD i 0).toNat + 1))).length = 32 := by rw [List.length_set]; exact g4
        generalize bpar.getD i 0 = ya at *
        generalize bpar.set i (UInt8.ofNat (ya.toNat + 1)) = K2 at *
        refine go1 ?_
        refine c_draw [(0, false), (1, false), (2, false), (3, false), (4, false), (5, false), (6, false), (7, false), (8, false), (9, false), (10, false)] ?_
        refine go1 ?_
        exact hj.nrm ⟨⟨bh, bt, bp, K2, btx, bap, bre⟩, btxs⟩ ⟨⟨g1, g2, g3, hla, g5, g6, g7⟩, Nat.le_succ_of_le gn, gl⟩ (by dsimp only; exact vm [(0, _), (1, _), (2, _), (3, _), (4, _), (5, _)] [])
       ·refine go1 ?_
        (refine c_cond rfl ?_ ?_ <;> intro h)
        ·have hia : i < bap.length := by omega
         have qaa := SomF.mk (hk5_get (a := bh) (b := bt) (c := bp) (k1 := bpar) (k2 := btx) (k3 := bap) (k4 := bre) (x := .sl btxs.length (btxs.map rawM)) hia)
         have qba := SomF.mk (hk5_set (a := bh) (b := bt) (c := bp) (k1 := bpar) (k2 := btx) (k3 := bap) (k4 := bre) (x := .sl btxs.length (btxs.map rawM)) hia (UInt8.ofNat ((bap.getD i 0).toNat + 1)))
         have qca := inc8 (bap.getD i 0)
         have hla : (bap.set i (UInt8.ofNat ((bap.getD i 0).toNat + 1))).length = 32 := by rw [List.length_set]; exact g6
         generalize bap.getD i 0 = ya at *
         generalize bap.set i (UInt8.ofNat (ya.toNat + 1)) = K2 at *
         refine go1 ?_
         refine c_draw [(0, false), (1, false), (2, false), (3, false), (4, false), (5, false), (6, false), (7, false), (8, false), (9, false), (10, false)] ?_
         refine go1 ?_
         exact hj.nrm ⟨⟨bh, bt, bp, bpar, btx, K2, bre⟩, btxs⟩ ⟨⟨g1, g2, g3, g4, g5, hla, g7⟩, Nat.le_succ_of_le gn, gl⟩ (by dsimp only; exact vm [(0, _), (1, _), (2, _), (3, _), (4, _), (5, _)] [])
        ·refine go1 ?_
         (refine c_cond rfl ?_ ?_ <;> intro h)
         ·have hia : i < bre.length := by omega
          have qaa := SomF.mk (hk6_get (a := bh) (b := bt) (c := bp) (k1 := bpar) (k2 := btx) (k3 := bap) (k4 := bre) (x := .sl btxs.length (btxs.map rawM)) hia)
          have qba := SomF.mk (hk6_set (a := bh) (b := bt) (c := bp) (k1 := bpar) (k2 := btx) (k3 := bap) (k4 := bre) (x := .sl btxs.length (btxs.map rawM)) hia (UInt8.ofNat ((bre.getD i 0).toNat + 1)))
          have qca := inc8 (bre.getD i 0)
          have hla : (bre.set i (UInt8.ofNat ((bre.getD i 0).toNat + 1))).length = 32 := by rw [List.length_set]; exact g7
          generalize bre.getD i 0 = ya at *
          generalize bre.set i (UInt8.ofNat (ya.toNat + 1)) = K2 at *
          refine go1 ?_
          refine c_draw [(0, false), (1, false), (2, false), (3, false), (4, false), (5, false), (6, false), (7, false), (8, false), (9, false), (10, false)] ?_
          refine go1 ?_
          exact hj.nrm ⟨⟨bh, bt, bp, bpar, btx, bap, K2⟩, btxs⟩ ⟨⟨g1, g2, g3, g4, g5, g6, hla⟩, Nat.le_succ_of_le gn, gl⟩ (by dsimp only; exact vm [(0, _), (1, _), (2, _), (3, _), (4, _), (5, _)] [])
         ·refine go1 ?_
          (refine c_cond rfl ?_ ?_ <;> intro h)
          ·have hia : i < btx.length := by omega
           have qaa := SomF.mk (hk4_get (a := bh) (b := bt) (c := bp) (k1 := bpar) (k2 := btx) (k3 := bap) (k4 := bre) (x := .sl btxs.length (btxs.map rawM)) hia)
           have qba := SomF.mk (hk4_set (a := bh) (b := bt) (c := bp) (k1 := bpar) (k2 := btx) (k3 := bap) (k4 := bre) (x := .sl btxs.length (btxs.map rawM)) hia (UInt8.ofNat ((btx.getD i 0).toNat + 1)))
           have qca := inc8 (btx.getD i 0)
           have hla : (btx.set i (UInt8.ofNat ((btx.getD i 0).toNat + 1))).length = 32 := by rw [List.length_set]; exact g5
           generalize btx.getD i 0 = ya at *
           generalize btx.set i (UInt8.ofNat (ya.toNat + 1)) = K2 at *
           refine go1 ?_
           refine c_draw [(0, false), (1, false), (2, false), (3, false), (4, false), (5, false), (6, false), (7, false), (8, false), (9, false), (10, false)] ?_
           refine go1 ?_
           exact hj.nrm ⟨⟨bh, bt, bp, bpar, K2, bap, bre⟩, btxs⟩ ⟨⟨g1, g2, g3, g4, hla, g6, g7⟩, Nat.le_succ_of_le gn, gl⟩ (by dsimp only; exact vm [(0, _), (1, _), (2, _), (3, _), (4, _), (5, _)] [])
          ·refine go1 ?_
           (refine c_cond rfl ?_ ?_ <;> intro h)
           ·obtain ⟨W2, hW2⟩ : ∃ W2, W2 = btxs ++ [([1] : List UInt8)] := ⟨_, rfl⟩
            have hW2l : W2.length = btxs.length + 1 := by rw [hW2]; simp
            have hWg : ∀ r ∈ W2, r.length < 300000000 := fun r hr => by
             rw [hW2] at hr
             rcases List.mem_append.1 hr with hr | hr
             ·exact gl r hr
             ·rw [List.mem_singleton.1 hr]; show 1 < 300000000; omega
            refine go1 ?_
            ((with_reducible apply g_mem); (case hq => exact rfl); (case hv => exact rfl); (case he => (intro R hR; refine sms hR ?_; refine And.intro ((head_raw btxs)) ?_; refine And.intro ⟨rfl, app_ok (by kernel_rfl) pf⟩ ?_; refine ⟨btxs.map rawM, sv (by rfl), btxs.length, sv pf, ?_⟩; exact hR)); (case hd => exact rfl))
            refine go1 ?_
            ((with_reducible apply g_mem); (case hq => exact rfl); (case hv => exact rfl); (case he => (intro R hR; refine sms hR ?_; refine And.intro (Nat.le_refl 1) ?_; refine ⟨[.int .u8 1], sv rfl, ?_⟩; exact hR)); (case hd => exact rfl))
            refine go1 ?_
            ((with_reducible apply g_mem); (case hq => exact rfl); (case hv => exact rfl); (case he => (intro R hR; refine sms hR ?_; (refine And.intro (Nat.le_refl _) ?_; refine ⟨_, rfl, ?_⟩; refine And.intro ⟨(by simp), app_ok (by kernel_rfl) pf⟩ ?_; refine ⟨W2.map rawM, sv (by rw [hW2, List.map_append]; rfl), W2.length, sv pf, ?_⟩); exact hR)); (case hd => exact rfl))
            refine go1 ?_
            exact hj.nrm ⟨⟨bh, bt, bp, bpar, btx, bap, bre⟩, W2⟩ ⟨⟨g1, g2, g3, g4, g5, g6, g7⟩, by show W2.length ≤ 1001; omega, hWg⟩ (by dsimp only; exact vm [(0, _), (1, _), (2, _), (3, _), (4, _), (5, _)] [(76, W2.length)])
           ·refine go1 ?_
            (refine c_cond rfl ?_ ?_ <;> intro h)
            ·have cq := place_m (G := G) by_ 2 (by omega) (by omega)
             have hq : 0 ≤ by_ % 2 ∧ by_ % 2 < 2 := ⟨Int.emod_nonneg _ (by omega), Int.emod_lt_of_pos _ (by omega)⟩
             generalize by_ % 2 = q at *
             refine go1 ?_
             refine g_callC (src (cq)) rfl rfl hhq (by kernel_rfl) ?_
             refine go1 ?_
             exact hj.nrm ⟨⟨bh, 1099511627776 + q, bp, bpar, btx, bap, bre⟩, btxs⟩ ⟨⟨g1, by unfold I64; dsimp only; omega, g3, g4, g5, g6, g7⟩, Nat.le_succ_of_le gn, gl⟩ (by dsimp only; exact vm [(0, _), (1, _), (2, _), (3, _), (4, _), (5, _)] [])
            ·refine go1 ?_
             have hia : i < bpar.length := by omega
             have qaa := SomF.mk (hk3_get (a := bh) (b := bt) (c := bp) (k1 := bpar) (k2 := btx) (k3 := bap) (k4 := bre) (x := .sl btxs.length (btxs.map rawM)) hia)
             have qba := SomF.mk (hk3_set (a := bh) (b := bt) (c := bp) (k1 := bpar) (k2 := btx) (k3 := bap) (k4 := bre) (x := .sl btxs.length (btxs.map rawM)) hia (UInt8.ofNat ((bpar.getD i 0).toNat + 1)))
             have qca := inc8 (bpar.getD i 0)
             have hla : (bpar.set i (UInt8.ofNat ((bpar.getD i 0).toNat + 1))).length = 32 := by rw [List.length_set]; exact g4
             generalize bpar.getD i 0 = ya at *
             generalize bpar.set i (UInt8.ofNat (ya.toNat + 1)) = K2 at *
             have hib : i < bap.length := by omega
             have qab := SomF.mk (hk5_get (a := bh) (b := bt) (c := bp) (k1 := K2) (k2 := btx) (k3 := bap) (k4 := bre) (x := .sl btxs.length (btxs.map rawM)) hib)
             have qbb := SomF.mk (hk5_set (a := bh) (b := bt) (c := bp) (k1 := K2) (k2 := btx) (k3 := bap) (k4 := bre) (x := .sl btxs.length (btxs.map rawM)) hib (UInt8.ofNat ((bap.getD i 0).toNat + 1)))
             have qcb := inc8 (bap.getD i 0)
             have hlb : (bap.set i (UInt8.ofNat ((bap.getD i 0).toNat + 1))).length = 32 := by rw [List.length_set]; exact g6
             generalize bap.getD i 0 = yb at *
             generalize bap.set i (UInt8.ofNat (yb.toNat + 1)) = K3 at *
             have hic : i < btx.length := by omega
             have qac := SomF.mk (hk4_get (a := bh) (b := bt) (c := bp) (k1 := K2) (k2 := btx) (k3 := K3) (k4 := bre) (x := .sl btxs.length (btxs.map rawM)) hic)
             have qbc := SomF.mk (hk4_set (a := bh) (b := bt) (c := bp) (k1 := K2) (k2 := btx) (k3 := K3) (k4 := bre) (x := .sl btxs.length (btxs.map rawM)) hic (UInt8.ofNat ((btx.getD i 0).toNat + 1)))
             have qcc := inc8 (btx.getD i 0)
             have hlc : (btx.set i (UInt8.ofNat ((btx.getD i 0).toNat + 1))).length = 32 := by rw [List.length_set]; exact g5
             generalize btx.getD i 0 = yc at *
             generalize btx.set i (UInt8.ofNat (yc.toNat + 1)) = K4 at *
             refine go1 ?_
             refine c_draw [(0, false), (1, false), (2, false), (3, false), (4, false), (5, false), (6, false), (7, false), (8, false), (9, false), (10, false)] ?_
             refine go1 ?_
             refine c_draw [(0, false), (1, false), (2, false), (3, false), (4, false), (5, false), (6, false), (7, false), (8, false), (9, false), (10, false)] ?_
             refine go1 ?_
             refine c_draw [(0, false), (1, false), (2, false), (3, false), (4, false), (5, false), (6, false), (7, false), (8, false), (9, false), (10, false)] ?_
             refine go1 ?_
             exact hj.nrm ⟨⟨bh, bt, bp, K2, K4, K3, bre⟩, btxs⟩ ⟨⟨g1, g2, g3, hla, hlc, hlb, g7⟩, Nat.le_succ_of_le gn, gl⟩ (by dsimp only; exact vm [(0, _), (1, _), (2, _), (3, _), (4, _), (5, _)] [])
   ·obtain ⟨x1, x2, x3⟩ := hx
    have hb1 := hbk.hd
    have hb2 := hbk.n
    have hb3 := hbk.len
    have cQ1 := place_m (G := G) nodes 10 (by omega) (by omega)
    have hq1 : 0 ≤ nodes % 10 ∧ nodes % 10 < 10 := ⟨Int.emod_nonneg _ (by omega), Int.emod_lt_of_pos _ (by omega)⟩
    generalize nodes % 10 = q1 at *
    have cQ2 := place_m (G := G) mb 300 (by omega) (by omega)
    have hq2 : 0 ≤ mb % 300 ∧ mb % 300 < 300 := ⟨Int.emod_nonneg _ (by omega), Int.emod_lt_of_pos _ (by omega)⟩
    generalize mb % 300 = q2 at *
    clear cL cR cM cP1 cP2 c5 hrem hbk
    refine go1 ?_
    refine c_loop Nat (fun j => [(195, .int .i64 j), (194, .int .i64 (3 : Nat)), (193, .sl 3 [blkM b, blkM x, blkM raw]), (17, .ptr 5 12 0 0 []), (15, .ptr 2 98 0 0 []), (9, .ptr 1 98 0 0 []), (5, .int .i64 nodes), (6, .int .i64 mb)]) (fun _ => [(1, ⟨33, 98, false, 0, [tipM tip]⟩), (2, ⟨33, 98, false, 0, [tipM n.tip]⟩), (5, ⟨37, 12, false, 0, [cfM n.st.cfg]⟩)]) 6 (fun j => j ≤ 3) (fun j => 3 - j) 0 (by omega) (vm [(1, _), (2, _), (5, _)] [(9, 3)]) ?_
    intro j hj
    try dsimp only
    refine go1 ?_
    (refine c_cond rfl ?_ ?_ <;> intro h)
    ·have hj2 : j < 3 := by have := of_decide_eq_true h; omega
     obtain ⟨v, hel, v1, v2, v3⟩ : ∃ v : BlkS, SomF (idxL [blkM b, blkM x, blkM raw] 3 (j : Int)) (blkM v) ∧ HdOk v.hd ∧ v.txs.length < 60000 ∧ ∀ r ∈ v.txs, r.length < 300000000 := by
      have h3 : j = 0 ∨ j = 1 ∨ j = 2 := by omega
      rcases h3 with rfl | rfl | rfl
      ·exact ⟨b, SomF.mk (index_at (by omega) rfl), hb1, by omega, fun r hr => by have := hb3 r hr; omega⟩
      ·exact ⟨x, SomF.mk (index_at (by omega) rfl), x1, by omega, x3⟩
      ·exact ⟨raw, SomF.mk (index_at (by omega) rfl), hraw, by omega, hrl⟩
     refine go1 ?_
     refine c_draw [(0, false), (1, false), (2, false), (3, false), (4, false), (5, false), (6, false), (7, false), (8, true), (9, false), (10, true), (11, false), (12, false), (13, false), (14, false)] ?_
     refine go1 ?_
     refine gd_call1 rfl hhq rfl [] (src (cQ1)) rfl [] trivial (relVs_self _ (by kernel_rfl)) rfl ?_
     refine go1 ?_
     refine gd_call1 rfl hhq rfl [] (src (cQ2)) rfl [] trivial (relVs_self _ (by kernel_rfl)) rfl ?_
     refine go1 ?_
     refine c_loop Nat (fun i => [(213, .int .i64 i), (212, .int .i64 (4 : Nat)), (211, .sl 4 [.arr 2 1 [.int .i64 3, .int .i64 1000], .arr 2 1 [.int .i64 nodes, .int .i64 mb], .arr 2 1 [.int .i64 1, .int .i64 n.st.cfg.blkB], .arr 2 1 [.int .i64 q1, .int .i64 q2]]), (26, .ptr 6 132 0 0 []), (195, .int .i64 j), (194, .int .i64 (3 : Nat)), (193, .sl 3 [blkM b, blkM x, blkM raw]), (17, .ptr 5 12 0 0 []), (15, .ptr 2 98 0 0 []), (9, .ptr 1 98 0 0 []), (5, .int .i64 nodes), (6, .int .i64 mb)]) (fun _ => [(1, ⟨33, 98, false, 0, [tipM tip]⟩), (2, ⟨33, 98, false, 0, [tipM n.tip]⟩), (5, ⟨37, 12, false, 0, [cfM n.st.cfg]⟩), (6, ⟨29, 132, false, 0, [blkM v]⟩)]) 7 (fun i => i ≤ 4) (fun i => 4 - i) 0 (by omega) (vm [(1, _), (2, _), (5, _), (6, 9)] [(23, 4)]) ?_
     intro i hi2
     try dsimp only
     refine go1 ?_
     (refine c_cond rfl ?_ ?_ <;> intro h)
     ·have hj3 : i < 4 := by have := of_decide_eq_true h; omega
      obtain ⟨a1, a2, hel2, ha1, ha2⟩ : ∃ a1 a2 : Int, SomF (idxL [.arr 2 1 [.int .i64 3, .int .i64 1000], .arr 2 1 [.int .i64 nodes, .int .i64 mb], .arr 2 1 [.int .i64 1, .int .i64 n.st.cfg.blkB], .arr 2 1 [.int .i64 q1, .int .i64 q2]] 4 (i : Int)) (.arr 2 1 [.int .i64 a1, .int .i64 a2]) ∧ I64 a1 ∧ I64 a2 := by
       have h3 : i = 0 ∨ i = 1 ∨ i = 2 ∨ i = 3 := by omega
       rcases h3 with rfl | rfl | rfl | rfl
       ·exact ⟨3, 1000, SomF.mk (index_at (by omega) rfl), by unfold I64; omega, by unfold I64; omega⟩
       ·exact ⟨nodes, mb, SomF.mk (index_at (by omega) rfl), i3, i4⟩
       ·exact ⟨1, n.st.cfg.blkB, SomF.mk (index_at (by omega) rfl), by unfold I64; omega, w6⟩
       ·exact ⟨q1, q2, SomF.mk (index_at (by omega) rfl), by unfold I64; omega, by unfold I64; omega⟩
      have cA1 := pchk_m (G := G) n.tip v a1 a2 w2 v1 ha1 ha2 v2 v3
      have cB1 := rchk_m (G := G) n.tip v a1 a2 w2 v1 ha1 ha2 v2 v3
      have cA2 := pchk_m (G := G) tip v a1 a2 htip v1 ha1 ha2 v2 v3
      have cB2 := rchk_m (G := G) tip v a1 a2 htip v1 ha1 ha2 v2 v3
      generalize chkS n.tip v a1 a2 = r1 at *
      generalize chkS tip v a1 a2 = r2 at *
      refine go1 ?_
      refine c_draw [(0, false), (1, false), (2, false), (3, false), (4, false), (5, false), (6, true), (7, false), (8, false), (9, false), (10, false), (11, false), (12, false), (13, true), (14, false), (15, false), (16, false), (17, false), (18, false), (19, false), (20, false), (21, false), (22, true), (23, false), (24, false), (25, false), (26, false), (27, false), (28, false), (29, true), (30, false), (31, false)] ?_
      refine go1 ?_
      refine gd_call1 rfl hhq rfl [] (src (cA1)) rfl [] trivial lm rfl ?_
      refine go1 ?_
      refine gd_call1 rfl hhq rfl [] (src (cB1)) rfl [] trivial lm rfl ?_
      refine go1 ?_
      ((with_reducible apply d_guard); (case hs => exact rfl); (case hv => exact rfl); (case hd => exact rfl); (all_goals intro h))
      ·refine go1 ?_
       refine gd_call1 rfl hhq rfl [] (src (cA2)) rfl [] trivial lm rfl ?_
       refine go1 ?_
       refine gd_call1 rfl hhq rfl [] (src (cB2)) rfl [] trivial lm rfl ?_
       refine go1 ?_
       (refine c_cond rfl ?_ ?_ <;> intro h)
       ·exact absurd h (by simp)
       ·refine go1 ?_
        exact ⟨i + 1, by omega, by dsimp only; omega, (by dsimp only; exact vm [(1, _), (2, _), (5, _), (6, _)] [])⟩
      ·exact absurd h (by simp)
     ·refine go1 ?_
      exact ⟨j + 1, by omega, by dsimp only; omega, (by dsimp only; exact vm [(1, _), (2, _), (5, _)] [])⟩
    ·refine go1 ?_
     refine g_callC (src (cK)) rfl rfl hhq (by kernel_rfl) ?_
     refine go1 ?_
     (refine ret_r [_] rfl (by kernel_rfl) ?_; (refine go0 ?_); exact rfl)
 ·refine go1 ?_
  refine g_callC (src (cK)) rfl rfl hhq (by kernel_rfl) ?_
  refine go1 ?_
  refine go0 ?_
  (refine ret_r [_] rfl (by kernel_rfl) ?_; (refine go0 ?_); exact rfl)
end
section
theorem chainChecks_core (k : List Int) (hk : k.length ≤ 140737488355328) (b : BlkS) (hb : HdOk b.hd ∧ OkRaws 1048576 b.txs) (t : TipS) (ht : TipOk t) (a1 : Int) (h1 : (Lit.int .i64 a1).wf = true) (a2 : Int) (h2 : (Lit.int .i64 a2).wf = true) (a3 : Int) (h3 : (Lit.int .i64 a3).wf = true) (a4 : Int) (h4 : (Lit.int .i64 a4).wf = true) : SemC Tryz.prog G0 4 [intsM k, blkM b, tipM t, .int .i64 a1, .int .i64 a2, .int .i64 a3, .int .i64 a4] (.bool true) := by
 simp [Lit.wf, IntKind.min, IntKind.max, IntKind.signed, IntKind.bits] at h1 h2 h3 h4
 exact semC_of_semR (checks_r k b t a1 a2 a3 a4 hk hb.1 (by have := hb.2.1; omega) (fun x hx => by have := hb.2.2 x hx; omega) ht (by unfold I64; omega) (by unfold I64; omega) (by unfold I64; omega) (by unfold I64; omega))
end
end Go.Proofs.YtoagomdghimlbaaGreat
namespace Go.Proofs.YtoagomdghimlbaaGreat.chainChecks
open Go.ChangeShapes Go.WideShapes Go.ChangeAt Go.RowKit Go.Proofs.YtoagomdghimlbaaGreat
set_option maxRecDepth 100000 in
theorem contract (H : Type) (enc : TypeId × Value → H) (W : World) (base : Nat) (args : Array Value) (ds gs : List (DataW H)) (before : List MemPlace)
  (hval : ∀ (j : Nat) t v, Tryz.f4.params[j]? = some t → args[j]? = some v → Value.okWide Tryz.prog W .any base t v)
  (hW : DataW.Whole enc Tryz.prog Tryz.f4.params.toList Rows.chainChecksSpec.vars false W args.toList ds gs before)
  (hw : (DataW.weightsEach Tryz.prog (Tryz.f4.params.toList ++ Rows.chainChecksSpec.plain.varTypes Tryz.prog) (ds ++ gs)).all (· ≤ reachBytes) = true) (hkk : Rows.uptoSmall H (ds ++ gs) = true) :
  Calls Tryz.prog 4 args W fun e W' => ∃ v, e = .returned v ∧ Rows.chainChecksSpec.post enc Tryz.prog Tryz.f4 false true false false W args v W' := by
 have hW' := hW
 obtain ⟨p, q, hA0, hV, rfl, hfz, hnd⟩ := hW
 have hA : DataW.TrodAll enc Tryz.prog W 0 (fun _ => true) true Tryz.f4.params.toList args.toList ds p := hA0
 rw [Tryz.params4] at hA hval hw
 obtain ⟨v0, vs0, d0, ds0, p0, q0, hargs, rfl, rfl, h0, r0⟩ := trodAll_cons hA
 obtain ⟨v1, vs1, d1, ds1, p1, q1, rfl, rfl, rfl, h1, r1⟩ := trodAll_cons r0
 obtain ⟨v2, vs2, d2, ds2, p2, q2, rfl, rfl, rfl, h2, r2⟩ := trodAll_cons r1
 obtain ⟨v3, vs3, d3, ds3, p3, q3, rfl, rfl, rfl, h3, r3⟩ := trodAll_cons r2
 obtain ⟨v4, vs4, d4, ds4, p4, q4, rfl, rfl, rfl, h4, r4⟩ := trodAll_cons r3
 obtain ⟨v5, vs5, d5, ds5, p5, q5, rfl, rfl, rfl, h5, r5⟩ := trodAll_cons r4
 obtain ⟨v6, vs6, d6, ds6, p6, q6, rfl, rfl, rfl, h6, r6⟩ := trodAll_cons r5
 obtain ⟨rfl, rfl, rfl⟩ := trodAll_nil r6
 obtain rfl : args = #[v0, v1, v2, v3, v4, v5, v6] := by cases args; simp_all
 obtain ⟨rfl, rfl⟩ := trodVars_none hV
 have k0 := h0
 have lt0 : ∀ x ∈ p0, x.block < W.heap.size := by obtain ⟨m, hm⟩ := k0; exact DataW.trod_lt m _ _ _ hm
 have k1 := h1
 have lt1 : ∀ x ∈ p1, x.block < W.heap.size := by obtain ⟨m, hm⟩ := k1; exact DataW.trod_lt m _ _ _ hm
 have k2 := h2
 have lt2 : ∀ x ∈ p2, x.block < W.heap.size := by obtain ⟨m, hm⟩ := k2; exact DataW.trod_lt m _ _ _ hm
 have k3 := h3
 have lt3 : ∀ x ∈ p3, x.block < W.heap.size := by obtain ⟨m, hm⟩ := k3; exact DataW.trod_lt m _ _ _ hm
 have k4 := h4
 have lt4 : ∀ x ∈ p4, x.block < W.heap.size := by obtain ⟨m, hm⟩ := k4; exact DataW.trod_lt m _ _ _ hm
 have k5 := h5
 have lt5 : ∀ x ∈ p5, x.block < W.heap.size := by obtain ⟨m, hm⟩ := k5; exact DataW.trod_lt m _ _ _ hm
 have k6 := h6
 have lt6 : ∀ x ∈ p6, x.block < W.heap.size := by obtain ⟨m, hm⟩ := k6; exact DataW.trod_lt m _ _ _ hm
 simp only [List.append_nil] at hW'
 have hkk : Rows.uptoBulkAll [d0, d1, d2, d3, d4, d5, d6] ≤ 1048576 := of_decide_eq_true hkk
 simp only [Rows.uptoBulkAll] at hkk
 have hw : (d0.weights Tryz.prog 22 ++ (d1.weights Tryz.prog 29 ++ (d2.weights Tryz.prog 33 ++ (d3.weights Tryz.prog 3 ++ (d4.weights Tryz.prog 3 ++ (d5.weights Tryz.prog 3 ++ (d6.weights Tryz.prog 3 ++ (DataW.weightsEach Tryz.prog (Rows.chainChecksSpec.plain.varTypes Tryz.prog) [])))))))).all (· ≤ reachBytes) = true := hw
 simp only [List.all_append, Bool.and_eq_true] at hw
 obtain ⟨hw0, hw1, hw2, hw3, hw4, hw5, hw6, _⟩ := hw
 obtain ⟨A0, n0, cap0, rfl⟩ := okWide_slice Tryz.underlying22 (hval 0 22 v0 rfl rfl)
 obtain ⟨fuel0, hf0⟩ := h0
 obtain ⟨_, m0, hm0, hr0, hb0⟩ := opn_ints.2 enc W _ true fuel0 _ d0 p0 hf0 hw0
 obtain ⟨x0, rfl, hx0⟩ := ints_lift hm0
 obtain ⟨A1, rfl, _⟩ := okWide_struct Tryz.underlying29 (hval 1 29 v1 rfl rfl)
 obtain ⟨fuel1, hf1⟩ := h1
 obtain ⟨_, m1, hm1, hr1, hb1⟩ := opn_block.2 enc W _ true fuel1 _ d1 p1 hf1 hw1
 obtain ⟨x1, rfl, hx1⟩ := block_lift hm1 (B := 1048576) (Nat.le_trans hb1 (by omega))
 obtain ⟨A2, rfl, _⟩ := okWide_struct Tryz.underlying33 (hval 2 33 v2 rfl rfl)
 obtain ⟨fuel2, hf2⟩ := h2
 obtain ⟨_, m2, hm2, hr2, hb2⟩ := opn_tip.2 enc W _ true fuel2 _ d2 p2 hf2 hw2
 obtain ⟨x2, rfl, hx2⟩ := tip_lift hm2
 obtain ⟨a3, rfl, rfl, rfl, wa3⟩ := open_int Tryz.underlying3 (hval 3 3 v3 rfl rfl) h3
 obtain ⟨a4, rfl, rfl, rfl, wa4⟩ := open_int Tryz.underlying3 (hval 4 3 v4 rfl rfl) h4
 obtain ⟨a5, rfl, rfl, rfl, wa5⟩ := open_int Tryz.underlying3 (hval 5 3 v5 rfl rfl) h5
 obtain ⟨a6, rfl, rfl, rfl, wa6⟩ := open_int Tryz.underlying3 (hval 6 3 v6 rfl rfl) h6
 refine (chainChecks_core x0 hx0 x1 hx1 x2 hx2 a3 wa3 a4 wa4 a5 wa5 a6 wa6 W (allP W) [_, _, _, _, _, _, _] trivial (fun b o h => h) (.cons (.val [_] hr0) (.cons (.val _ hr1) (.cons (.val _ hr2) (.cons (.val [_] .int) (.cons (.val [_] .int) (.cons (.val [_] .int) (.cons (.val [_] .int) .nil)))))))).mono fun e W' ⟨v, he, hv, bel⟩ => ?_
 subst he
 obtain rfl := hv.bool_
 exact ⟨_, rfl, _, _, _, [], _, [], hW', trodAll_mk1 (shut_bool Tryz.underlying4 _), (trodAll_cons_mk (Below.trod laidOut (by kernel_rfl) (of_decide_eq_true (by kernel_rfl)) k0 bel lt0) (trodAll_cons_mk (Below.trod laidOut (by kernel_rfl) (of_decide_eq_true (by kernel_rfl)) k1 bel lt1) (trodAll_cons_mk (Below.trod laidOut (by kernel_rfl) (of_decide_eq_true (by kernel_rfl)) k2 bel lt2) (trodAll_cons_mk (shut_int Tryz.underlying3 wa3) (trodAll_cons_mk (shut_int Tryz.underlying3 wa4) (trodAll_cons_mk (shut_int Tryz.underlying3 wa5) (trodAll_cons_mk (shut_int Tryz.underlying3 wa6) trodAll_mk0))))))), rfl, bel.frame _, fun h => by cases h⟩
set_option maxRecDepth 100000 in
theorem lifted (os : Os) (started : os.Started) (H : Type) (enc : TypeId × Value → H) (F : Stop.Interp) :
  ReturnsInHanded {} Tryz.checked os 4 .any ((Rows.OpenSpec.upto Rows.chainChecksSpec).pre6 enc Tryz.prog Tryz.f4 Rows.chainChecksUptoRow.domain false) (((Rows.OpenSpec.upto Rows.chainChecksSpec).at F).post enc Tryz.prog Tryz.f4 false true false false) := by
 refine returnsInHanded_of_cond_sized (C := Tryz.checked) (s := Rows.OpenSpec.upto Rows.chainChecksSpec) (k := Rows.uptoSmall) rfl own started (by kernel_rfl) Tryz.func4
  (OpenSpec.witness (enc := enc) (C := Tryz.checked) (s := Rows.OpenSpec.upto Rows.chainChecksSpec) (k := Rows.uptoSmall) rfl false ⟨#[], #[.slice none 0 0, .agg #[.int .i64 0, .int .i64 0, .int .i64 0, .int .u8 0, .int .u8 0, .int .u8 0, .int .u8 0, .int .u8 0, .int .u8 0, .int .u8 0, .int .u8 0, .int .u8 0, .int .u8 0, .int .u8 0, .int .u8 0, .int .u8 0, .int .u8 0, .int .u8 0, .int .u8 0, .int .u8 0, .int .u8 0, .int .u8 0, .int .u8 0, .int .u8 0, .int .u8 0, .int .u8 0, .int .u8 0, .int .u8 0, .int .u8 0, .int .u8 0, .int .u8 0, .int .u8 0, .int .u8 0, .int .u8 0, .int .u8 0, .int .u8 0, .int .u8 0, .int .u8 0, .int .u8 0, .int .u8 0, .int .u8 0, .int .u8 0, .int .u8 0, .int .u8 0, .int .u8 0, .int .u8 0, .int .u8 0, .int .u8 0, .int .u8 0, .int .u8 0, .int .u8 0, .int .u8 0, .int .u8 0, .int .u8 0, .int .u8 0, .int .u8 0, .int .u8 0, .int .u8 0, .int .u8 0, .int .u8 0, .int .u8 0, .int .u8 0, .int .u8 0, .int .u8 0, .int .u8 0, .int .u8 0, .int .u8 0, .int .u8 0, .int .u8 0, .int .u8 0, .int .u8 0, .int .u8 0, .int .u8 0, .int .u8 0, .int .u8 0, .int .u8 0, .int .u8 0, .int .u8 0, .int .u8 0, .int .u8 0, .int .u8 0, .int .u8 0, .int .u8 0, .int .u8 0, .int .u8 0, .int .u8 0, .int .u8 0, .int .u8 0, .int .u8 0, .int .u8 0, .int .u8 0, .int .u8 0, .int .u8 0, .int .u8 0, .int .u8 0, .int .u8 0, .int .u8 0, .int .u8 0, .int .u8 0, .int .u8 0, .int .u8 0, .int .u8 0, .int .u8 0, .int .u8 0, .int .u8 0, .int .u8 0, .int .u8 0, .int .u8 0, .int .u8 0, .int .u8 0, .int .u8 0, .int .u8 0, .int .u8 0, .int .u8 0, .int .u8 0, .int .u8 0, .int .u8 0, .int .u8 0, .int .u8 0, .int .u8 0, .int .u8 0, .int .u8 0, .int .u8 0, .int .u8 0, .int .u8 0, .int .u8 0, .int .u8 0, .int .u8 0, .int .u8 0, .int .u8 0, .int .u8 0, .slice none 0 0], .agg #[.int .i64 0, .int .i64 0, .int .u8 0, .int .u8 0, .int .u8 0, .int .u8 0, .int .u8 0, .int .u8 0, .int .u8 0, .int .u8 0, .int .u8 0, .int .u8 0, .int .u8 0, .int .u8 0, .int .u8 0, .int .u8 0, .int .u8 0, .int .u8 0, .int .u8 0, .int .u8 0, .int .u8 0, .int .u8 0, .int .u8 0, .int .u8 0, .int .u8 0, .int .u8 0, .int .u8 0, .int .u8 0, .int .u8 0, .int .u8 0, .int .u8 0, .int .u8 0, .int .u8 0, .int .u8 0, .int .u8 0, .int .u8 0, .int .u8 0, .int .u8 0, .int .u8 0, .int .u8 0, .int .u8 0, .int .u8 0, .int .u8 0, .int .u8 0, .int .u8 0, .int .u8 0, .int .u8 0, .int .u8 0, .int .u8 0, .int .u8 0, .int .u8 0, .int .u8 0, .int .u8 0, .int .u8 0, .int .u8 0, .int .u8 0, .int .u8 0, .int .u8 0, .int .u8 0, .int .u8 0, .int .u8 0, .int .u8 0, .int .u8 0, .int .u8 0, .int .u8 0, .int .u8 0, .int .u8 0, .int .u8 0, .int .u8 0, .int .u8 0, .int .u8 0, .int .u8 0, .int .u8 0, .int .u8 0, .int .u8 0, .int .u8 0, .int .u8 0, .int .u8 0, .int .u8 0, .int .u8 0, .int .u8 0, .int .u8 0, .int .u8 0, .int .u8 0, .int .u8 0, .int .u8 0, .int .u8 0, .int .u8 0, .int .u8 0, .int .u8 0, .int .u8 0, .int .u8 0, .int .u8 0, .int .u8 0, .int .u8 0, .int .u8 0, .int .u8 0, .int .u8 0], .int .i64 0, .int .i64 0, .int .i64 0, .int .i64 0], []⟩ 8 (by kernel_rfl) (by kernel_rfl) (by kernel_rfl)
   (x := ([.nil, .agg [.agg [.lit (.int .i64 0), .lit (.int .i64 0), .lit (.int .i64 0), .agg [.lit (.int .u8 0), .lit (.int .u8 0), .lit (.int .u8 0), .lit (.int .u8 0), .lit (.int .u8 0), .lit (.int .u8 0), .lit (.int .u8 0), .lit (.int .u8 0), .lit (.int .u8 0), .lit (.int .u8 0), .lit (.int .u8 0), .lit (.int .u8 0), .lit (.int .u8 0), .lit (.int .u8 0), .lit (.int .u8 0), .lit (.int .u8 0), .lit (.int .u8 0), .lit (.int .u8 0), .lit (.int .u8 0), .lit (.int .u8 0), .lit (.int .u8 0), .lit (.int .u8 0), .lit (.int .u8 0), .lit (.int .u8 0), .lit (.int .u8 0), .lit (.int .u8 0), .lit (.int .u8 0), .lit (.int .u8 0), .lit (.int .u8 0), .lit (.int .u8 0), .lit (.int .u8 0), .lit (.int .u8 0)], .agg [.lit (.int .u8 0), .lit (.int .u8 0), .lit (.int .u8 0), .lit (.int .u8 0), .lit (.int .u8 0), .lit (.int .u8 0), .lit (.int .u8 0), .lit (.int .u8 0), .lit (.int .u8 0), .lit (.int .u8 0), .lit (.int .u8 0), .lit (.int .u8 0), .lit (.int .u8 0), .lit (.int .u8 0), .lit (.int .u8 0), .lit (.int .u8 0), .lit (.int .u8 0), .lit (.int .u8 0), .lit (.int .u8 0), .lit (.int .u8 0), .lit (.int .u8 0), .lit (.int .u8 0), .lit (.int .u8 0), .lit (.int .u8 0), .lit (.int .u8 0), .lit (.int .u8 0), .lit (.int .u8 0), .lit (.int .u8 0), .lit (.int .u8 0), .lit (.int .u8 0), .lit (.int .u8 0), .lit (.int .u8 0)], .agg [.lit (.int .u8 0), .lit (.int .u8 0), .lit (.int .u8 0), .lit (.int .u8 0), .lit (.int .u8 0), .lit (.int .u8 0), .lit (.int .u8 0), .lit (.int .u8 0), .lit (.int .u8 0), .lit (.int .u8 0), .lit (.int .u8 0), .lit (.int .u8 0), .lit (.int .u8 0), .lit (.int .u8 0), .lit (.int .u8 0), .lit (.int .u8 0), .lit (.int .u8 0), .lit (.int .u8 0), .lit (.int .u8 0), .lit (.int .u8 0), .lit (.int .u8 0), .lit (.int .u8 0), .lit (.int .u8 0), .lit (.int .u8 0), .lit (.int .u8 0), .lit (.int .u8 0), .lit (.int .u8 0), .lit (.int .u8 0), .lit (.int .u8 0), .lit (.int .u8 0), .lit (.int .u8 0), .lit (.int .u8 0)], .agg [.lit (.int .u8 0), .lit (.int .u8 0), .lit (.int .u8 0), .lit (.int .u8 0), .lit (.int .u8 0), .lit (.int .u8 0), .lit (.int .u8 0), .lit (.int .u8 0), .lit (.int .u8 0), .lit (.int .u8 0), .lit (.int .u8 0), .lit (.int .u8 0), .lit (.int .u8 0), .lit (.int .u8 0), .lit (.int .u8 0), .lit (.int .u8 0), .lit (.int .u8 0), .lit (.int .u8 0), .lit (.int .u8 0), .lit (.int .u8 0), .lit (.int .u8 0), .lit (.int .u8 0), .lit (.int .u8 0), .lit (.int .u8 0), .lit (.int .u8 0), .lit (.int .u8 0), .lit (.int .u8 0), .lit (.int .u8 0), .lit (.int .u8 0), .lit (.int .u8 0), .lit (.int .u8 0), .lit (.int .u8 0)]], .nil], .agg [.lit (.int .i64 0), .lit (.int .i64 0), .agg [.lit (.int .u8 0), .lit (.int .u8 0), .lit (.int .u8 0), .lit (.int .u8 0), .lit (.int .u8 0), .lit (.int .u8 0), .lit (.int .u8 0), .lit (.int .u8 0), .lit (.int .u8 0), .lit (.int .u8 0), .lit (.int .u8 0), .lit (.int .u8 0), .lit (.int .u8 0), .lit (.int .u8 0), .lit (.int .u8 0), .lit (.int .u8 0), .lit (.int .u8 0), .lit (.int .u8 0), .lit (.int .u8 0), .lit (.int .u8 0), .lit (.int .u8 0), .lit (.int .u8 0), .lit (.int .u8 0), .lit (.int .u8 0), .lit (.int .u8 0), .lit (.int .u8 0), .lit (.int .u8 0), .lit (.int .u8 0), .lit (.int .u8 0), .lit (.int .u8 0), .lit (.int .u8 0), .lit (.int .u8 0)], .agg [.lit (.int .u8 0), .lit (.int .u8 0), .lit (.int .u8 0), .lit (.int .u8 0), .lit (.int .u8 0), .lit (.int .u8 0), .lit (.int .u8 0), .lit (.int .u8 0), .lit (.int .u8 0), .lit (.int .u8 0), .lit (.int .u8 0), .lit (.int .u8 0), .lit (.int .u8 0), .lit (.int .u8 0), .lit (.int .u8 0), .lit (.int .u8 0), .lit (.int .u8 0), .lit (.int .u8 0), .lit (.int .u8 0), .lit (.int .u8 0), .lit (.int .u8 0), .lit (.int .u8 0), .lit (.int .u8 0), .lit (.int .u8 0), .lit (.int .u8 0), .lit (.int .u8 0), .lit (.int .u8 0), .lit (.int .u8 0), .lit (.int .u8 0), .lit (.int .u8 0), .lit (.int .u8 0), .lit (.int .u8 0)], .agg [.lit (.int .u8 0), .lit (.int .u8 0), .lit (.int .u8 0), .lit (.int .u8 0), .lit (.int .u8 0), .lit (.int .u8 0), .lit (.int .u8 0), .lit (.int .u8 0), .lit (.int .u8 0), .lit (.int .u8 0), .lit (.int .u8 0), .lit (.int .u8 0), .lit (.int .u8 0), .lit (.int .u8 0), .lit (.int .u8 0), .lit (.int .u8 0), .lit (.int .u8 0), .lit (.int .u8 0), .lit (.int .u8 0), .lit (.int .u8 0), .lit (.int .u8 0), .lit (.int .u8 0), .lit (.int .u8 0), .lit (.int .u8 0), .lit (.int .u8 0), .lit (.int .u8 0), .lit (.int .u8 0), .lit (.int .u8 0), .lit (.int .u8 0), .lit (.int .u8 0), .lit (.int .u8 0), .lit (.int .u8 0)]], .lit (.int .i64 0), .lit (.int .i64 0), .lit (.int .i64 0), .lit (.int .i64 0)], [], [])) (by kernel_rfl) rfl (by kernel_rfl)) ?_
 intro W base args ds gs before hval hW _ hk hw _
 exact contract H enc W base args ds gs before hval hW hw hk
theorem said : Rows.ChainChecksUptoSaid :=
 OpenClaim.holds_of_cond 4 Tryz.f4 rfl rfl rfl rfl rfl rfl rfl ⟨rfl, rfl, rfl, rfl, rfl⟩ rfl rfl rfl rfl rfl (by kernel_rfl) Tryz.func4 (by kernel_rfl)
  (of_decide_eq_true (by kernel_rfl)) (by unfold Func.isWrapper; first | (rw [if_pos (by decide +kernel)]; kernel_rfl) | (rw [if_neg (by decide +kernel)]; exact ⟨rfl, rfl⟩))
  (fun os started H enc _ F => lifted os started H enc F)
end Go.Proofs.YtoagomdghimlbaaGreat.chainChecks
