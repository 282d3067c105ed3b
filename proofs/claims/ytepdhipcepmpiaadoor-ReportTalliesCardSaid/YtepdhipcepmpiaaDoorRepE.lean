/- The fixed example of the reports. -/
import Derived.Test.YtepdhipcepmpiaaDoorRepD
namespace Go.Proofs.YtepdhipcepmpiaaDoor
open Go.RowKit

def opCells (k : Int) : List Value := [.int .i64 k, .int .i64 0, .int .i64 0, .int .i64 0, .slice none 0 0]
theorem op_zero (w : World) (S : Fp) (k : Int) (hk : (Lit.int .i64 k).wf = true) : Rp.op.rel w S (opCells k) ⟨k, 0, 0, 0, []⟩ :=
  Rp.op_mk rfl ⟨rfl, hk⟩ ⟨rfl, rfl⟩ ⟨rfl, rfl⟩ ⟨rfl, rfl⟩ ⟨none, 0, rfl, Sl.nil_ _ _ _⟩
def key0 : List Int := List.replicate 32 0
def key0V : List Value := List.replicate 32 (.int .u8 0)
def replyCells (e : Int) : List Value := .int .i64 e :: (key0V ++ .int .u64 0 :: .slice none 0 0 :: .slice none 0 0 :: .slice none 0 0 :: .slice none 0 0 :: .slice none 0 0 :: .slice none 0 0 :: .int .i64 0 :: key0V)
def reply0 (e : Int) : MReply := ⟨e, key0, 0, [], [], [], [], [], [], 0, key0⟩
theorem key_zero (w : World) (S : Fp) : Rp.key.rel w S key0V key0 := ⟨by simp [key0, key0V], by simp [key0], by simp [key0]; rfl⟩
theorem reply_zero (w : World) (S : Fp) (e : Int) (he : (Lit.int .i64 e).wf = true) : Rp.reply.rel w S (replyCells e) (reply0 e) :=
  Rp.reply_mk rfl ⟨rfl, he⟩ (key_zero w S) ⟨rfl, rfl⟩ ⟨none, 0, rfl, Sl.nil_ _ _ _⟩ ⟨none, 0, rfl, Sl.nil_ _ _ _⟩ ⟨none, 0, rfl, Sl.nil_ _ _ _⟩ ⟨none, 0, rfl, Sl.nil_ _ _ _⟩ ⟨none, 0, rfl, Sl.nil_ _ _ _⟩ ⟨none, 0, rfl, Sl.nil_ _ _ _⟩ ⟨rfl, rfl⟩ (key_zero w S)

def exC : MCounts := ⟨2, 1, 1, 0, 0, 0, 0, 0, 1⟩
theorem exC_ok : CntOK exC := fun k => by
  match k with
  | 0 | 1 | 2 | 3 | 4 | 5 | 6 | 7 | 8 => decide
  | n + 9 => show -9223372036854775808 ≤ (1 : Int) ∧ (1 : Int) < 9223372036854775808; decide
theorem ex_tally : tally [⟨1, 0, 0, 0, []⟩, ⟨2, 0, 0, 0, []⟩, ⟨3, 0, 0, 0, []⟩] [reply0 0, reply0 24, reply0 0] 1 = exC := by
  simp [tally, tallyTo, tallyStep, reply0, wrap64, exC, zeroCounts]
theorem ex_text : (textL exC 9).take 12 = [115, 117, 98, 109, 105, 116, 116, 101, 100, 32, 50, 10] := by
  have h : textL exC 1 = [115, 117, 98, 109, 105, 116, 116, 101, 100, 32, 50, 10] := by
    simp [textL, lineL, num, exC, Lib.itoa, nameL, Lib.decDigits]
  have pre : ∀ k, textL exC 1 <+: textL exC (k + 1) := by
    intro k
    induction k with
    | zero => exact List.prefix_refl _
    | succ k ih => exact ih.trans (List.prefix_append _ _)
  obtain ⟨r, hr⟩ := pre 8
  rw [← hr, h]
  rfl

theorem slice_head (l : List UInt8) (n : Nat) (h : n ≤ l.length) (w : World) : (Instr.sliceAt 9 (.string ⟨l.toArray⟩) none (some (.int .i64 n)) none).run Tryd.prog w = .ok (.string ⟨(l.take n).toArray⟩) w := by
  have hu := Tryd.underlying9
  have h1 : (Instr.sliceAt 9 (.string ⟨l.toArray⟩) none (some (.int .i64 n)) none).run Tryd.prog w = (Instr.slice 9 (.string ⟨l.toArray⟩) none (some (.int .i64 n)) none).run Tryd.prog w := run_sliceAt_string _ _ _ _ _ _ hu
  rw [h1, run_slice_string_h _ _ _ hu _ _ (by omega) (by simp [ByteArray.size]; omega)]
  congr 2
  apply ByteArray.ext
  simp
set_option maxRecDepth 100000 in
theorem known_c (w : World) (htab : Lib.TabIs Tryd.prog w "internal/strconv.uint64pow10" .u64 Lib.pow10Tab) :
    Calls Tryd.prog 6 #[] w fun e w' => e = .returned (.bool true) ∧ Below w.heap.size w w' := by
  have htabB := Lib.tabBelow_of_tabIs htab
  refine calls_of_vc seat Tryd.func6 rfl rfl (Nat.le_of_ble_eq_true rfl) (N := 40) (args := []) (Nat.le_of_ble_eq_true rfl) rfl (A.start w) ?_
  refine ⟨⟨rfl, trivial⟩, ⟨rfl, trivial⟩, ⟨rfl, trivial⟩, ⟨rfl, rfl, rfl, trivial⟩, ?_⟩
  intro g0 _
  refine ⟨trivial, ⟨rfl, trivial⟩, trivial, ⟨rfl, rfl, rfl, trivial⟩, ?_⟩
  intro g1 _
  intro w1 hA
  refine (tally_c (some ⟨g0, 0, none⟩) (some ⟨g1, 0, none⟩) 3 3 1 [⟨1, 0, 0, 0, []⟩, ⟨2, 0, 0, 0, []⟩, ⟨3, 0, 0, 0, []⟩] [reply0 0, reply0 24, reply0 0] w1 Every
    (Sl.of_blk (cells := opCells 1 ++ (opCells 2 ++ (opCells 3 ++ []))) (hA.blk 0 _ rfl) trivial ⟨_, _, rfl, op_zero _ _ _ rfl, _, _, rfl, op_zero _ _ _ rfl, _, _, rfl, op_zero _ _ _ rfl, rfl⟩ (by decide))
    (Sl.of_blk (cells := replyCells 0 ++ (replyCells 24 ++ (replyCells 0 ++ []))) (hA.blk 1 _ rfl) trivial ⟨_, _, rfl, reply_zero _ _ _ rfl, _, _, rfl, reply_zero _ _ _ rfl, _, _, rfl, reply_zero _ _ _ rfl, rfl⟩ (by decide))).mono ?_
  rintro e w2 ⟨rfl, hb⟩
  refine ⟨.val (.agg (cntV exC)), _, _, by rw [ex_tally]; rfl, hA.below' hb, ?_⟩
  intro g2 _
  refine ⟨rfl, rfl, rfl, rfl, ?_⟩
  refine ⟨rfl, rfl, ?_⟩
  intro w3 hA
  refine (balanced_c exC w3).mono ?_
  rintro e w4 ⟨rfl, hb⟩
  refine ⟨.lit true, _, _, by rw [show balB exC = true by simp [balB, exC, wrap64]]; rfl, hA.below' hb, ?_⟩
  refine ⟨_, rfl, rfl, ?_⟩
  refine ⟨fun _ => ?_, fun h => absurd h (by decide)⟩
  refine ⟨_, rfl, rfl, ?_⟩
  refine ⟨fun _ => ?_, fun h => absurd h (by decide)⟩
  refine ⟨trivial, ?_⟩
  intro w5 hA
  refine (balanced_c ⟨0, 0, 0, 0, 0, 0, 0, 0, 0⟩ w5).mono ?_
  rintro e w6 ⟨rfl, hb⟩
  refine ⟨.lit true, _, _, by rw [show balB ⟨0, 0, 0, 0, 0, 0, 0, 0, 0⟩ = true by simp [balB, wrap64]]; rfl, hA.below' hb, ?_⟩
  refine ⟨⟨rfl, trivial⟩, ?_⟩
  intro w7 hA
  refine (balanced_c ⟨0, 0, 0, 0, 0, 0, 0, 0, 2⟩ w7).mono ?_
  rintro e w8 ⟨rfl, hb⟩
  refine ⟨.lit false, _, _, by rw [show balB ⟨0, 0, 0, 0, 0, 0, 0, 0, 2⟩ = false by simp [balB, wrap64]]; rfl, hA.below' hb, ?_⟩
  refine ⟨rfl, rfl, ?_⟩
  intro w9 hA
  refine (format_c exC exC_ok w9 (htabB _ (hA.bel (by simp)))).mono ?_
  rintro e w10 ⟨rfl, hb⟩
  refine ⟨.val _, _, _, rfl, hA.below' hb, ?_⟩
  refine ⟨.string ⟨((textL exC 9).take 12).toArray⟩, fun w' _ => slice_head _ 12 (by have := congrArg List.length ex_text; simp at this; omega) w', ?_⟩
  intro w' hA
  refine ⟨ret_bool ?_, hA.bel (by simp)⟩
  rw [ex_text]
  simp
end Go.Proofs.YtepdhipcepmpiaaDoor
