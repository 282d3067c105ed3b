/- The text of counts: the program's Format and the reference's. -/
import Derived.Test.YtepdhipcepmpiaaDoorRepC
import Derived.Test.YtepdhipcepmpiaaDoorStr
import Derived.Lib.AppendIntMem
namespace Go.Proofs.YtepdhipcepmpiaaDoor
open Go.RowKit

def num (c : MCounts) : Nat → Int
  | 0 => c.submitted
  | 1 => c.refused
  | 2 => c.admitted
  | 3 => c.committed
  | 4 => c.evicted
  | 5 => c.expired
  | 6 => c.invalid
  | 7 => c.flushed
  | _ => c.pending
def nameL : Nat → List UInt8
  | 0 => [115, 117, 98, 109, 105, 116, 116, 101, 100]
  | 1 => [114, 101, 102, 117, 115, 101, 100]
  | 2 => [97, 100, 109, 105, 116, 116, 101, 100]
  | 3 => [99, 111, 109, 109, 105, 116, 116, 101, 100]
  | 4 => [101, 118, 105, 99, 116, 101, 100]
  | 5 => [101, 120, 112, 105, 114, 101, 100]
  | 6 => [105, 110, 118, 97, 108, 105, 100]
  | 7 => [102, 108, 117, 115, 104, 101, 100]
  | _ => [112, 101, 110, 100, 105, 110, 103]
def lineL (c : MCounts) (k : Nat) : List UInt8 := nameL k ++ [32] ++ Lib.itoa (num c k) ++ [10]
def textL (c : MCounts) : Nat → List UInt8
  | 0 => []
  | k + 1 => textL c k ++ lineL c k
/-- All fields are ints. -/
def CntOK (c : MCounts) : Prop := ∀ k, -9223372036854775808 ≤ num c k ∧ num c k < 9223372036854775808

theorem nine {p : Nat → Prop} {k : Nat} (hk : k < 9) (h0 : p 0) (h1 : p 1) (h2 : p 2) (h3 : p 3) (h4 : p 4) (h5 : p 5) (h6 : p 6) (h7 : p 7) (h8 : p 8) : p k := by
  match k, hk with
  | 0, _ => exact h0
  | 1, _ => exact h1
  | 2, _ => exact h2
  | 3, _ => exact h3
  | 4, _ => exact h4
  | 5, _ => exact h5
  | 6, _ => exact h6
  | 7, _ => exact h7
  | 8, _ => exact h8
theorem name_short (k : Nat) (hk : k < 9) : (nameL k).length ≤ 9 := nine (p := fun k => (nameL k).length ≤ 9) hk (by decide) (by decide) (by decide) (by decide) (by decide) (by decide) (by decide) (by decide) (by decide)
theorem dd_len : ∀ (k u : Nat), u < 10 ^ (k + 1) → (Lib.decDigits u).length ≤ k + 1
  | 0, u, h => by rw [Lib.decDigits, dif_pos (by simpa using h)]; simp
  | k + 1, u, h => by
    rw [Lib.decDigits]
    by_cases hu : u < 10
    · simp [hu]
    · have := dd_len k (u / 10) (by rw [Nat.pow_succ] at h; omega)
      simp [hu]
      omega
theorem itoa_len (n : Int) (h0 : -9223372036854775808 ≤ n) (h1 : n < 9223372036854775808) : (Lib.itoa n).length ≤ 20 := by
  unfold Lib.itoa
  split
  · have := dd_len 18 n.natAbs (by omega)
    simp; omega
  · have := dd_len 18 n.toNat (by omega)
    omega
theorem line_len {c : MCounts} (hc : CntOK c) {k : Nat} (hk : k < 9) : (lineL c k).length ≤ 31 := by
  have h1 := name_short k hk
  have h2 := itoa_len _ (hc k).1 (hc k).2
  simp [lineL]; omega
theorem text_len {c : MCounts} (hc : CntOK c) : ∀ k, k ≤ 9 → (textL c k).length ≤ 31 * k
  | 0, _ => by simp [textL]
  | k + 1, h => by
    have h1 := text_len hc k (by omega)
    have h2 := line_len hc (k := k) (by omega)
    simp [textL]; omega

theorem itoa_c (n : Int) (h0 : -9223372036854775808 ≤ n) (h1 : n < 9223372036854775808) (w : World) (htab : Lib.TabIs Tryd.prog w "internal/strconv.uint64pow10" .u64 Lib.pow10Tab) :
    Calls Tryd.prog 15 #[.int .i64 n] w fun e w' => e = .returned (.string ⟨(Lib.itoa n).toArray⟩) ∧ Below w.heap.size w w' := by
  refine (Tryd.strconv_Itoa n h0 (by omega) w htab).mono ?_
  rintro e w' ⟨rfl, k, os, rfl⟩
  exact ⟨rfl, Lib.below_grow _ w (Nat.le_refl _) k os⟩

theorem isBuilder_since {T e : TypeId} {B b : Nat} {bs : List Value} {wk w : World} {ex : Fp} (h : Lib.IsBuilder T e B b bs wk) (hs : Since ex wk w) (hx : ∀ x, ex x → x < B) : Lib.IsBuilder T e B b bs w := by
  have key : ∀ p, Lib.BuilderAt T e B b p bs wk → Lib.BuilderAt T e B b p bs w := by
    rintro p hb
    have hlt := hb.lt
    obtain ⟨hB, v, hbk, hown, hne⟩ := hb
    refine ⟨hB, v, (hs.block b hlt fun h => ?_).trans hbk, ownsRow_since hown hs (fun g hg h => ?_), hne⟩
    · have := hx b h; omega
    · have h1 := (hown.lt g hg).1
      have h2 := hx g h
      omega
  exact h.imp (key _) (key _)

def numsV (c : MCounts) : List Value := [.int .i64 (num c 0), .int .i64 (num c 1), .int .i64 (num c 2), .int .i64 (num c 3), .int .i64 (num c 4), .int .i64 (num c 5), .int .i64 (num c 6), .int .i64 (num c 7), .int .i64 (num c 8)]
def namesV : List Value := [.string ⟨(nameL 0).toArray⟩, .string ⟨(nameL 1).toArray⟩, .string ⟨(nameL 2).toArray⟩, .string ⟨(nameL 3).toArray⟩, .string ⟨(nameL 4).toArray⟩, .string ⟨(nameL 5).toArray⟩, .string ⟨(nameL 6).toArray⟩, .string ⟨(nameL 7).toArray⟩, .string ⟨(nameL 8).toArray⟩]

theorem line_app (c : MCounts) (k : Nat) : (⟨(textL c k).toArray⟩ ++ (⟨(nameL k).toArray⟩ ++ ⟨#[32]⟩ ++ ⟨(Lib.itoa (num c k)).toArray⟩ ++ ⟨#[10]⟩) : ByteArray) = ⟨(textL c (k + 1)).toArray⟩ := by
  rw [show (⟨#[32]⟩ : ByteArray) = ⟨[32].toArray⟩ from rfl, show (⟨#[10]⟩ : ByteArray) = ⟨[10].toArray⟩ from rfl, ba_app, ba_app, ba_app, ba_app]
  simp [textL, lineL]

theorem formatCounts_c (c : MCounts) (hc : CntOK c) (w : World) :
    Calls Tryd.prog 13 #[.agg (cntV c)] w fun e w' => e = .returned (.string ⟨(textL c 9).toArray⟩) ∧ Below w.heap.size w w' := by
  have hnum : ∀ k, k < 9 → (numsV c)[k]? = some (.int .i64 (num c k)) := fun k hk => nine (p := fun k => (numsV c)[k]? = some (.int .i64 (num c k))) hk rfl rfl rfl rfl rfl rfl rfl rfl rfl
  have hname : ∀ k, k < 9 → namesV[k]? = some (.string ⟨(nameL k).toArray⟩) := fun k hk => nine (p := fun k => namesV[k]? = some (.string ⟨(nameL k).toArray⟩)) hk rfl rfl rfl rfl rfl rfl rfl rfl rfl
  refine calls_of_vc seat Tryd.func13 rfl rfl (Nat.le_of_ble_eq_true rfl) (N := 46) (args := [.val (.agg (cntV c))]) (Nat.le_of_ble_eq_true rfl) rfl (A.start w) ?_
  intro g0 _
  refine ⟨⟨rfl, rfl, rfl, rfl, rfl, rfl, rfl, rfl, rfl, trivial⟩, ?_⟩
  intro g1 _
  refine ⟨_, rfl, rfl, _, rfl, rfl, _, rfl, rfl, _, rfl, rfl, _, rfl, rfl, _, rfl, rfl, _, rfl, rfl, _, rfl, rfl, _, rfl, rfl, ?_⟩
  refine ⟨⟨rfl, rfl, rfl, rfl, rfl, rfl, rfl, rfl, rfl, trivial⟩, ?_⟩
  intro g2 _
  refine ⟨Nat, fun k => [(28, .val (.int .i64 k)), (27, .val (.int .i64 9)), (26, .val (.slice (some ⟨g2, 0, none⟩) 9 9)), (4, .val (.slice (some ⟨g1, 0, none⟩) 9 9)), (3, .val (.string ⟨(textL c k).toArray⟩))],
    fun _ => [(2, ⟨g2, 3, (numsV c).map SV.val⟩), (1, ⟨g1, 9, namesV.map SV.val⟩)], fun _ => [(w, fun _ => False)], fun k => k ≤ 9, fun k => 9 - k, ?_, ?_⟩
  · intro w1 hA
    exact ⟨0, by omega, ⟨⟨_, rfl, rfl⟩, ⟨_, rfl, rfl⟩, ⟨_, rfl, rfl⟩, ⟨_, rfl, rfl⟩, ⟨_, rfl, rfl⟩, trivial⟩, hA.sub ⟨rfl, rfl, trivial⟩⟩
  intro k hk
  refine ⟨fun h => ?_, fun h => ?_⟩
  · have hk9 : k < 9 := by have : (k : Int) < 9 := by simpa using h
                           omega
    have hl1 := name_short k hk9
    have hl2 := itoa_len _ (hc k).1 (hc k).2
    have hl3 := text_len hc k (by omega)
    refine ⟨g2, 0, k, rfl, rfl, hk9, ?_⟩
    refine ⟨_, fun w' hA => ldk seat.tab rfl rfl (i := 2) rfl rfl (nth_val (n := 0 + k * 1) (by rw [Nat.zero_add, Nat.mul_one]; exact hnum k hk9)) hA, ?_⟩
    refine ⟨[(28, .val (.int .i64 k)), (27, .val (.int .i64 9)), (26, .val (.slice (some ⟨g2, 0, none⟩) 9 9)), (4, .val (.slice (some ⟨g1, 0, none⟩) 9 9)), (3, .val (.string ⟨(textL c k).toArray⟩)), (5, .val (.int .i64 k)), (6, .val (.int .i64 (num c k)))], ⟨⟨_, rfl, rfl⟩, ⟨_, rfl, rfl⟩, ⟨_, rfl, rfl⟩, ⟨_, rfl, rfl⟩, ⟨_, rfl, rfl⟩, ⟨_, rfl, rfl⟩, ⟨_, rfl, rfl⟩, trivial⟩, (.take 0 (.take 1 (.take 2 (.take 6 (.alt 3 (.alt 4 (.take 5 (.alt 7 (.take 8 (.take 9 (.take 10 (.take 11 .done)))) .stop)) (.alt 7 (.alt 4 (.take 5 (.take 8 (.take 9 (.take 10 (.take 11 .done))))) .stop) .stop)) (.alt 7 (.alt 3 (.alt 4 (.take 5 (.take 8 (.take 9 (.take 10 (.take 11 .done))))) .stop) .stop) .stop)))))), by kernel_rfl, ?_⟩
    have hkk : IntKind.i64.wrap ((k : Int) + 1) = ((k + 1 : Nat) : Int) := by rw [wrap_in _ (by omega) (by omega)]; rfl
    have hld : ∀ {M : Mem} {H : Hist} {w' : World}, A M H w' → M.find 1 = some ⟨g1, 9, namesV.map SV.val⟩ → (loadVar 9 ⟨g1, 0 + k * 1, none⟩).run Tryd.prog w' = .ok (.string ⟨(nameL k).toArray⟩) w' :=
      fun hA hi => ldk seat.tab rfl rfl hi rfl (nth_val (n := 0 + k * 1) (by rw [Nat.zero_add, Nat.mul_one]; exact hname k hk9)) hA
    refine ⟨⟨g1, 0, k, rfl, rfl, hk9, ?_⟩, ?_⟩
    · refine ⟨⟨_, fun w' hA => hld hA rfl, ?_⟩, ?_⟩
      · refine ⟨by simp [ByteArray.size]; omega, ?_⟩
        intro w1 hA
        refine (decimal_c (num c k) (hc k).1 (hc k).2 w1).mono ?_
        rintro e w2 ⟨rfl, hb⟩
        refine ⟨.val _, _, _, rfl, hA.below' hb, ?_⟩
        refine ⟨by simp [ByteArray.size]; omega, by simp [ByteArray.size]; omega, by simp [ByteArray.size]; omega, ?_⟩
        refine ⟨_, hkk, ?_⟩
        intro w' hA
        exact ⟨k + 1, by omega, by show 9 - (k + 1) < 9 - k; omega, ⟨⟨_, rfl, rfl⟩, ⟨_, rfl, rfl⟩, ⟨_, rfl, rfl⟩, ⟨_, rfl, rfl⟩, ⟨_, rfl, congrArg Value.string (line_app c k)⟩, trivial⟩, hA⟩
      · intro w1 hA
        refine (decimal_c (num c k) (hc k).1 (hc k).2 w1).mono ?_
        rintro e w2 ⟨rfl, hb⟩
        refine ⟨.val _, _, _, rfl, hA.below' hb, ?_⟩
        refine ⟨_, fun w' hA => hld hA rfl, ?_⟩
        refine ⟨by simp [ByteArray.size]; omega, by simp [ByteArray.size]; omega, by simp [ByteArray.size]; omega, by simp [ByteArray.size]; omega, ?_⟩
        refine ⟨_, hkk, ?_⟩
        intro w' hA
        exact ⟨k + 1, by omega, by show 9 - (k + 1) < 9 - k; omega, ⟨⟨_, rfl, rfl⟩, ⟨_, rfl, rfl⟩, ⟨_, rfl, rfl⟩, ⟨_, rfl, rfl⟩, ⟨_, rfl, congrArg Value.string (line_app c k)⟩, trivial⟩, hA⟩
    · intro w1 hA
      refine (decimal_c (num c k) (hc k).1 (hc k).2 w1).mono ?_
      rintro e w2 ⟨rfl, hb⟩
      refine ⟨.val _, _, _, rfl, hA.below' hb, ?_⟩
      refine ⟨g1, 0, k, rfl, rfl, hk9, ?_⟩
      refine ⟨_, fun w' hA => hld hA rfl, ?_⟩
      refine ⟨by simp [ByteArray.size]; omega, by simp [ByteArray.size]; omega, by simp [ByteArray.size]; omega, by simp [ByteArray.size]; omega, ?_⟩
      refine ⟨_, hkk, ?_⟩
      intro w' hA
      exact ⟨k + 1, by omega, by show 9 - (k + 1) < 9 - k; omega, ⟨⟨_, rfl, rfl⟩, ⟨_, rfl, rfl⟩, ⟨_, rfl, rfl⟩, ⟨_, rfl, rfl⟩, ⟨_, rfl, congrArg Value.string (line_app c k)⟩, trivial⟩, hA⟩
  · intro w' hA
    have e : k = 9 := by have : ¬ (k : Int) < 9 := by simpa using h
                         omega
    subst e
    exact ⟨rfl, hA.bel (by simp)⟩

theorem format_c (c : MCounts) (hc : CntOK c) (w : World) (htab : Lib.TabIs Tryd.prog w "internal/strconv.uint64pow10" .u64 Lib.pow10Tab) :
    Calls Tryd.prog 12 #[.agg (cntV c)] w fun e w' => e = .returned (.string ⟨(textL c 9).toArray⟩) ∧ Below w.heap.size w w' := by
  have hnum : ∀ k, k < 9 → (numsV c)[k]? = some (.int .i64 (num c k)) := fun k hk => nine (p := fun k => (numsV c)[k]? = some (.int .i64 (num c k))) hk rfl rfl rfl rfl rfl rfl rfl rfl rfl
  have hname : ∀ k, k < 9 → namesV[k]? = some (.string ⟨(nameL k).toArray⟩) := fun k hk => nine (p := fun k => namesV[k]? = some (.string ⟨(nameL k).toArray⟩)) hk rfl rfl rfl rfl rfl rfl rfl rfl rfl
  have htabB := Lib.tabBelow_of_tabIs htab
  refine calls_of_vc seat Tryd.func12 rfl rfl (Nat.le_of_ble_eq_true rfl) (N := 44) (args := [.val (.agg (cntV c))]) (Nat.le_of_ble_eq_true rfl) rfl (A.start w) ?_
  intro g0 _
  refine ⟨⟨rfl, rfl, rfl, rfl, rfl, rfl, rfl, rfl, rfl, trivial⟩, ?_⟩
  intro g1 _
  refine ⟨rfl, rfl, rfl, rfl, ?_⟩
  refine ⟨_, rfl, rfl, _, rfl, rfl, _, rfl, rfl, _, rfl, rfl, _, rfl, rfl, _, rfl, rfl, _, rfl, rfl, _, rfl, rfl, _, rfl, rfl, ?_⟩
  refine ⟨⟨rfl, rfl, rfl, rfl, rfl, rfl, rfl, rfl, rfl, trivial⟩, ?_⟩
  intro g2 _
  refine ⟨rfl, rfl, rfl, rfl, ?_⟩
  intro g3 hg3
  refine ⟨rfl, rfl, ?_⟩
  have hab : Above [(2, (⟨g2, 45, (numsV c).map SV.val⟩ : KB))] g3 := fun i kb hi => hg3 i kb (MSub.find (M' := [(2, (⟨g2, 45, (numsV c).map SV.val⟩ : KB))]) ⟨rfl, trivial⟩ i kb hi)
  refine ⟨Nat × World, fun x => [(29, .val (.int .i64 x.1)), (28, .val (.agg ⟨namesV⟩)), (4, .ptr 2 g2 0), (5, .val (.pointer (some ⟨g3, 0, none⟩)))],
    fun _ => [(2, ⟨g2, 45, (numsV c).map SV.val⟩)], fun x => [(x.2, Mem.gs [(2, ⟨g2, 45, (numsV c).map SV.val⟩)]), (w, fun _ => False)],
    fun x => x.1 ≤ 9 ∧ Lib.IsBuilder 48 5 g3 g3 (Lib.byteCells (textL c x.1)) x.2 ∧ w.heap.size ≤ g3, fun x => 9 - x.1, ?_, ?_⟩
  · intro w1 hA
    have hb := hA.blk 3 _ rfl
    refine ⟨(0, w1), ⟨by omega, .inl ⟨Nat.le_refl _, .slice none 0 0, hb.heap, World.ownsRow_nil _ _ _ _, by simp [Value.ownBlock]⟩, hA.at_start (p := (w, fun _ => False)) (by simp) 3 rfl (fun h => h)⟩, ⟨⟨_, rfl, rfl⟩, ⟨_, rfl, rfl⟩, ⟨_, rfl, rfl⟩, ⟨_, rfl, rfl⟩, trivial⟩, (hA.sub (M' := [(2, (⟨g2, 45, (numsV c).map SV.val⟩ : KB))]) ⟨rfl, trivial⟩).now⟩
  rintro ⟨k, wk⟩ ⟨hk, hbu, hg3w⟩
  have hk : k ≤ 9 := hk
  have hbu : Lib.IsBuilder 48 5 g3 g3 (Lib.byteCells (textL c k)) wk := hbu
  refine ⟨fun h => ?_, fun h => ?_⟩
  · have hk9 : k < 9 := by have : (k : Int) < 9 := by simpa using h
                           omega
    have hl1 := name_short k hk9
    have hl2 := itoa_len _ (hc k).1 (hc k).2
    have hl3 := text_len hc k (by omega)
    have hl4 := line_len hc hk9
    have hkk : IntKind.i64.wrap ((k : Int) + 1) = ((k + 1 : Nat) : Int) := by rw [wrap_in _ (by omega) (by omega)]; rfl
    refine ⟨_, fun w' hA => index1 seat.tab rfl rfl rfl hk9 (hname k hk9) w', ?_⟩
    refine ⟨by simp [ByteArray.size]; omega, ?_⟩
    refine ⟨k, rfl, hk9, ?_⟩
    refine ⟨_, nth_val (n := 0 + k * 1) (by rw [Nat.zero_add, Nat.mul_one]; exact hnum k hk9), rfl, ?_⟩
    intro w1 hA
    refine (itoa_c (num c k) (hc k).1 (hc k).2 w1 (htabB _ (hA.bel (by simp)))).mono ?_
    rintro e w2 ⟨rfl, hb⟩
    refine ⟨.val _, _, _, rfl, hA.below' hb, ?_⟩
    refine ⟨by simp [ByteArray.size]; omega, by simp [ByteArray.size]; omega, ?_⟩
    intro w3 hA3
    have hbu3 := isBuilder_since hbu (hA3.since (wk, _) (List.Mem.head _)) (fun x hx => Mem.gs_above hab hx)
    have hlt3 : g3 ≤ w3.heap.size := by rcases hbu3 with h | h <;> exact Nat.le_of_lt h.lt
    refine (writeString_any g3 g3 _ _ w3 hbu3 (by rw [Lib.byteCells_length]; simp [ByteArray.size]; omega) hlt3).mono ?_
    rintro e w4 ⟨rfl, hbu4, hb4⟩
    refine ⟨.val _, _, (w4, Mem.gs [(2, ⟨g2, 45, (numsV c).map SV.val⟩)]) :: [(w, fun _ => False)], rfl, hA3.belowB hb4 hab (by intro p hp; simp at hp; subst hp; exact ⟨by simp, hg3w⟩), ?_⟩
    refine ⟨_, hkk, ?_⟩
    intro w' hA
    have hbu' : Lib.IsBuilder 48 5 g3 g3 (Lib.byteCells (textL c (k + 1))) w4 := by
      refine .inr ?_
      rw [Lib.strCells_eq, ← Lib.byteCells_append] at hbu4
      have e : textL c k ++ (⟨(nameL k).toArray⟩ ++ ⟨#[32]⟩ ++ ⟨(Lib.itoa (num c k)).toArray⟩ ++ ⟨#[10]⟩ : ByteArray).data.toList = textL c (k + 1) := by
        simp [textL, lineL]
      rw [← e]
      exact hbu4
    exact ⟨(k + 1, w4), ⟨by show k + 1 ≤ 9; omega, hbu', hg3w⟩, by show 9 - (k + 1) < 9 - k; omega, ⟨⟨_, rfl, rfl⟩, ⟨_, rfl, rfl⟩, ⟨_, rfl, rfl⟩, ⟨_, rfl, rfl⟩, trivial⟩, hA⟩
  · have e : k = 9 := by have : ¬ (k : Int) < 9 := by simpa using h
                         omega
    subst e
    intro w1 hA
    have hbu1 := isBuilder_since hbu (hA.since (wk, _) (List.Mem.head _)) (fun x hx => Mem.gs_above hab hx)
    have hlt1 : g3 ≤ w1.heap.size := by rcases hbu1 with h | h <;> exact Nat.le_of_lt h.lt
    refine (Tryd.Builder_String_any g3 g3 _ w1 hbu1 hlt1).mono ?_
    rintro e w2 ⟨rfl, hb⟩
    refine ⟨.val _, _, [(w2, Mem.gs [(2, ⟨g2, 45, (numsV c).map SV.val⟩)]), (w, fun _ => False)], rfl, hA.belowB hb hab (by intro p hp; simp at hp; subst hp; exact ⟨by simp, hg3w⟩), ?_⟩
    intro w' hA
    exact ⟨rfl, hA.bel (by simp)⟩
end Go.Proofs.YtepdhipcepmpiaaDoor
