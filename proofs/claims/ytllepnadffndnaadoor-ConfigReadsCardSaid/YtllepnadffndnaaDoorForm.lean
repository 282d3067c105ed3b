/- The texts of configurations: Format and FormatConfig. -/
import Derived.Test.YtllepnadffndnaaDoorCfgE
import Derived.Test.YtllepnadffndnaaDoorDec
import Derived.Test.YtllepnadffndnaaDoorFmt
import Derived.Test.YtllepnadffndnaaDoorStr
import Derived.Test.YtllepnadffndnaaDoorText
namespace Go.Proofs.YtllepnadffndnaaDoor
open Go.RowKit

def wideT (v : Wide) : Bs := if v.minus then [45, 49] else Lib.decDigits v.n.toNat
def valT (c : MConfig) (k : Nat) : Bs := wideT (valueF c k).1
def lineT (c : MConfig) (k : Nat) : Bs := nameL k ++ [32] ++ valT c k ++ [10]
def textTo (c : MConfig) : Nat → Bs
  | 0 => []
  | k + 1 => textTo c k ++ lineT c k
def formT (c : MConfig) : Bs := if validC c = 0 then textTo c 12 else []
theorem nameL_short (k : Nat) : (nameL k).length ≤ 12 := by
  unfold nameL
  split <;> decide
theorem wideT_len (v : Wide) (h : v.n.toNat < 18446744073709551616) : (wideT v).length ≤ 20 := by
  unfold wideT
  split
  · decide
  · exact dd_len 19 _ (by omega)
theorem valueF_range {c : MConfig} (hc : CfgOK c) (k : Nat) : 0 ≤ (valueF c k).1.n ∧ (valueF c k).1.n < 18446744073709551616 := by
  have key : ∀ p, 0 ≤ (valInt p).1.n ∧ (valInt p).1.n < 18446744073709551616 := by
    intro p
    unfold valInt
    split
    · decide
    · split
      · decide
      · exact wrapu_range p
  unfold valueF
  split
  · cases c.keepInvalid <;> decide
  · exact hc.price
  · exact key _
theorem lineT_len {c : MConfig} (hc : CfgOK c) (k : Nat) : (lineT c k).length ≤ 34 := by
  have h1 := nameL_short k
  have h2 := wideT_len (valueF c k).1 (by have := valueF_range hc k; omega)
  simp only [lineT, valT, List.length_append, List.length_cons, List.length_nil]
  omega
theorem textTo_len {c : MConfig} (hc : CfgOK c) : ∀ k, (textTo c k).length ≤ 34 * k
  | 0 => by simp [textTo]
  | k + 1 => by
    have h1 := textTo_len hc k
    have h2 := lineT_len hc k
    simp only [textTo, List.length_append]
    omega
theorem line_app (c : MConfig) (k : Nat) : (⟨(textTo c k).toArray⟩ ++ (⟨(nameL k).toArray⟩ ++ ⟨#[32]⟩ ++ ⟨(valT c k).toArray⟩ ++ ⟨#[10]⟩) : ByteArray) = ⟨(textTo c (k + 1)).toArray⟩ := by
  rw [show (⟨#[32]⟩ : ByteArray) = ⟨[32].toArray⟩ from rfl, show (⟨#[10]⟩ : ByteArray) = ⟨[10].toArray⟩ from rfl, ba_app, ba_app, ba_app, ba_app]
  rfl

set_option maxRecDepth 100000 in
set_option maxHeartbeats 1000000 in
theorem cformat_c (c : MConfig) (hcok : CfgOK c) (w : World) (htab : Lib.TabIs Tryd.prog w "internal/strconv.uint64pow10" .u64 Lib.pow10Tab) :
    Calls Tryd.prog 17 #[.agg ⟨cfgV c⟩] w fun e w' => e = .returned (.tuple #[.string ⟨(formT c).toArray⟩, .int .i64 (validC c)]) ∧ Below w.heap.size w w' := by
  have htabB := Lib.tabBelow_of_tabIs htab
  have hval := value_c c
  have hvd := validate_c c
  have htl := textTo_len hcok
  have hvr := valueF_range hcok
  have hll := lineT_len hcok
  have hform : validC c = 0 → formT c = textTo c 12 := fun h => by rw [formT, if_pos h]
  have hform1 : validC c ≠ 0 → formT c = [] := fun h => by rw [formT, if_neg h]
  have hla := line_app c
  have hvt : ∀ k, valT c k = wideT (valueF c k).1 := fun _ => rfl
  have hlt : ∀ k, textTo c (k + 1) = textTo c k ++ (nameL k ++ [32] ++ valT c k ++ [10]) := fun _ => rfl
  have hl0 : ∀ k, lineT c k = nameL k ++ [32] ++ valT c k ++ [10] := fun _ => rfl
  have h00 : textTo c 0 = [] := rfl
  generalize hv0 : validC c = v0 at *
  generalize hT : textTo c = T at *
  generalize hF : formT c = F at *
  generalize hV : valT c = V at *
  generalize hLL : lineT c = LL at *
  generalize hW : valueF c = W at *
  clear hv0 hT hF hV hLL hW hcok
  obtain ⟨c0, c1, c2, c3, c4, c5, c6, c7, c8, c9, c10, c11⟩ := c
  refine calls_of_vc seat Tryd.func17 rfl rfl (Nat.le_of_ble_eq_true rfl) (N := 42) (args := [.val (.agg ⟨cfgV ⟨c0, c1, c2, c3, c4, c5, c6, c7, c8, c9, c10, c11⟩⟩)]) (Nat.le_of_ble_eq_true rfl) rfl (A.start w) ?_
  intro g0 _
  refine ⟨rfl, rfl, ?_⟩
  (intro w1 hA; refine (hvd w1).mono ?_; rintro e w2 ⟨rfl, hb⟩; refine ⟨.val _, _, _, rfl, hA.below' hb, ?_⟩)
  refine ⟨fun h => ?_, fun h => ?_⟩
  · have h : v0 ≠ 0 := by simpa using h
    intro w' hA
    refine ⟨?_, hA.bel (by simp)⟩
    rw [hform1 h]; rfl
  have h : v0 = 0 := by simpa using h
  intro g3 hg3
  (intro w1 hA; refine (rows_c w1).mono ?_; rintro e w2 ⟨rfl, hb⟩; refine ⟨.val _, _, _, rfl, hA.below' hb, ?_⟩)
  have hab : Above [(0, (⟨g0, 24, cfgS ⟨c0, c1, c2, c3, c4, c5, c6, c7, c8, c9, c10, c11⟩⟩ : KB))] g3 := fun i kb hi => hg3 i kb (MSub.find (M' := [(0, (⟨g0, 24, cfgS ⟨c0, c1, c2, c3, c4, c5, c6, c7, c8, c9, c10, c11⟩⟩ : KB))]) ⟨rfl, trivial⟩ i kb hi)
  refine ⟨Nat × World, fun x => [(17, .val (.int .i64 x.1)), (16, .val (.agg ⟨rowsV⟩)), (1, .ptr 0 g0 0), (5, .val (.pointer (some ⟨g3, 0, none⟩)))],
    fun _ => [(0, ⟨g0, 24, cfgS ⟨c0, c1, c2, c3, c4, c5, c6, c7, c8, c9, c10, c11⟩⟩)], fun x => [(x.2, Mem.gs [(0, ⟨g0, 24, cfgS ⟨c0, c1, c2, c3, c4, c5, c6, c7, c8, c9, c10, c11⟩⟩)]), (w, fun _ => False)],
    fun x => x.1 ≤ 12 ∧ Lib.IsBuilder 72 5 g3 g3 (Lib.byteCells (T x.1)) x.2 ∧ w.heap.size ≤ g3, fun x => 12 - x.1, ?_, ?_⟩
  · intro w1 hA
    have hb := hA.blk 1 _ rfl
    refine ⟨(0, w1), ⟨by omega, .inl ⟨Nat.le_refl _, .slice none 0 0, ?_, ?_, by simp [Value.ownBlock]⟩, hA.from_start (by simp) 1 rfl⟩, ⟨⟨_, rfl, rfl⟩, ⟨_, rfl, rfl⟩, ⟨_, rfl, rfl⟩, ⟨_, rfl, rfl⟩, trivial⟩, (hA.sub (M' := [(0, (⟨g0, 24, cfgS ⟨c0, c1, c2, c3, c4, c5, c6, c7, c8, c9, c10, c11⟩⟩ : KB))]) ⟨rfl, trivial⟩).now⟩
    · exact hb.heap
    · rw [h00]; exact World.ownsRow_nil _ _ _ _
  rintro ⟨k, wk⟩ ⟨hk, hbu, hg3w⟩
  have hk : k ≤ 12 := hk
  have hbu : Lib.IsBuilder 72 5 g3 g3 (Lib.byteCells (T k)) wk := hbu
  refine ⟨fun hx => ?_, fun hx => ?_⟩
  · have hk12 : k < 12 := by have : (k : Int) < 12 := of_decide_eq_true hx
                             omega
    have hl1 := nameL_short k
    have hl3 := htl k
    have hl4 := hll k
    have hv := hval k hk12
    have hr := hvr k
    rw [hl0] at hl4
    have hlt := hlt k
    rw [hvt] at hl4 hlt
    generalize W k = r at hv hr hl4 hlt
    obtain ⟨⟨xn, xm⟩, ok⟩ := r
    refine ⟨k, rfl, hk12, _, rowsV_at k hk12, ?_⟩
    intro g4 hg4
    refine ⟨rfl, rfl, rfl, rfl, ?_⟩
    refine ⟨rfl, rfl, ?_⟩
    (intro w1 hA; refine (hv w1).mono ?_; rintro e w2 ⟨rfl, hb⟩; refine ⟨.val _, _, _, rfl, hA.below' hb, ?_⟩)
    refine ⟨_, rfl, _, rfl, ?_⟩
    intro g5 hg5
    refine ⟨rfl, rfl, rfl, rfl, ?_⟩
    refine ⟨_, rfl, rfl, ?_⟩
    have hr0 : 0 ≤ xn := hr.1
    have hr1 : xn < 18446744073709551616 := hr.2
    cases xm
    · refine ⟨fun _ => ?_, fun h => Bool.noConfusion h⟩
      refine ⟨_, rfl, rfl, ?_⟩
      obtain ⟨u, rfl⟩ : ∃ u : Nat, xn = u := ⟨xn.toNat, by omega⟩
      intro w1 hA
      refine (formatUint_c u (by omega) w1 (htabB _ (hA.bel (by simp)))).mono ?_
      rintro e w2 ⟨rfl, hb⟩
      refine ⟨.val _, _, _, rfl, hA.below' hb, ?_⟩
      have hd : wideT (⟨(u : Int), false⟩, ok).1 = Lib.decDigits u := by simp [wideT]
      rw [hd] at hl4 hlt
      generalize Lib.decDigits u = D at *
      simp only [List.length_append, List.length_cons, List.length_nil] at hl4
      clear hA hb
      refine ⟨_, rfl, rfl, ?_⟩
      refine ⟨by simp [ByteArray.size]; omega, by simp [ByteArray.size]; omega, by simp [ByteArray.size]; omega, ?_⟩
      intro w3 hA3
      have hA3 := hA3.sub (M' := [(0, (⟨g0, 24, cfgS ⟨c0, c1, c2, c3, c4, c5, c6, c7, c8, c9, c10, c11⟩⟩ : KB))]) ⟨rfl, trivial⟩
      have hbu3 := isBuilder_since hbu (hA3.since (wk, _) (List.Mem.head _)) (fun x hx => Mem.gs_above hab hx)
      have hlt3 : g3 ≤ w3.heap.size := by rcases hbu3 with h | h <;> exact Nat.le_of_lt h.lt
      refine (writeString_any g3 g3 _ _ w3 hbu3 (by rw [Lib.byteCells_length]; simp [ByteArray.size]; omega) hlt3).mono ?_
      rintro e w4 ⟨rfl, hbu4, hb4⟩
      refine ⟨.val _, _, (w4, Mem.gs [(0, ⟨g0, 24, cfgS ⟨c0, c1, c2, c3, c4, c5, c6, c7, c8, c9, c10, c11⟩⟩)]) :: [(w, fun _ => False)], rfl, hA3.belowB hb4 hab (by intro p hp; simp at hp; subst hp; exact ⟨by simp, hg3w⟩), ?_⟩
      refine ⟨_, wrap_in _ (by omega) (by omega), ?_⟩
      intro w' hA
      have hbu' : Lib.IsBuilder 72 5 g3 g3 (Lib.byteCells (T (k + 1))) w4 := by
        refine .inr ?_
        rw [Lib.strCells_eq, ← Lib.byteCells_append] at hbu4
        rw [hlt]
        have e : (⟨(nameL k).toArray⟩ ++ ⟨#[32]⟩ ++ ⟨D.toArray⟩ ++ ⟨#[10]⟩ : ByteArray).data.toList = nameL k ++ [32] ++ D ++ [10] := by simp
        rw [← e]
        exact hbu4
      exact ⟨(k + 1, w4), ⟨by show k + 1 ≤ 12; omega, hbu', hg3w⟩, by show 12 - (k + 1) < 12 - k; omega, ⟨⟨_, rfl, rfl⟩, ⟨_, rfl, rfl⟩, ⟨_, rfl, rfl⟩, ⟨_, rfl, rfl⟩, trivial⟩, hA⟩
    · refine ⟨fun h => Bool.noConfusion h, fun _ => ?_⟩
      have hd : wideT (⟨xn, true⟩, ok).1 = [45, 49] := rfl
      rw [hd] at hl4 hlt
      obtain ⟨D, hD⟩ : ∃ D : Bs, D = [45, 49] := ⟨_, rfl⟩
      rw [← hD] at hl4 hlt
      simp only [List.length_append, List.length_cons, List.length_nil] at hl4
      rw [show (⟨#[45, 49]⟩ : ByteArray) = ⟨D.toArray⟩ by rw [hD]]
      refine ⟨_, rfl, rfl, ?_⟩
      refine ⟨by simp [ByteArray.size]; omega, by simp [ByteArray.size]; omega, by simp [ByteArray.size]; omega, ?_⟩
      intro w3 hA3
      have hA3 := hA3.sub (M' := [(0, (⟨g0, 24, cfgS ⟨c0, c1, c2, c3, c4, c5, c6, c7, c8, c9, c10, c11⟩⟩ : KB))]) ⟨rfl, trivial⟩
      have hbu3 := isBuilder_since hbu (hA3.since (wk, _) (List.Mem.head _)) (fun x hx => Mem.gs_above hab hx)
      have hlt3 : g3 ≤ w3.heap.size := by rcases hbu3 with h | h <;> exact Nat.le_of_lt h.lt
      refine (writeString_any g3 g3 _ _ w3 hbu3 (by rw [Lib.byteCells_length]; simp [ByteArray.size]; omega) hlt3).mono ?_
      rintro e w4 ⟨rfl, hbu4, hb4⟩
      refine ⟨.val _, _, (w4, Mem.gs [(0, ⟨g0, 24, cfgS ⟨c0, c1, c2, c3, c4, c5, c6, c7, c8, c9, c10, c11⟩⟩)]) :: [(w, fun _ => False)], rfl, hA3.belowB hb4 hab (by intro p hp; simp at hp; subst hp; exact ⟨by simp, hg3w⟩), ?_⟩
      refine ⟨_, wrap_in _ (by omega) (by omega), ?_⟩
      intro w' hA
      have hbu' : Lib.IsBuilder 72 5 g3 g3 (Lib.byteCells (T (k + 1))) w4 := by
        refine .inr ?_
        rw [Lib.strCells_eq, ← Lib.byteCells_append] at hbu4
        rw [hlt]
        have e : (⟨(nameL k).toArray⟩ ++ ⟨#[32]⟩ ++ ⟨D.toArray⟩ ++ ⟨#[10]⟩ : ByteArray).data.toList = nameL k ++ [32] ++ D ++ [10] := by simp
        rw [← e]
        exact hbu4
      exact ⟨(k + 1, w4), ⟨by show k + 1 ≤ 12; omega, hbu', hg3w⟩, by show 12 - (k + 1) < 12 - k; omega, ⟨⟨_, rfl, rfl⟩, ⟨_, rfl, rfl⟩, ⟨_, rfl, rfl⟩, ⟨_, rfl, rfl⟩, trivial⟩, hA⟩
  · have e : k = 12 := by have : ¬ (k : Int) < 12 := of_decide_eq_false hx
                          omega
    subst e
    intro w1 hA
    have hbu1 := isBuilder_since hbu (hA.since (wk, _) (List.Mem.head _)) (fun x hx => Mem.gs_above hab hx)
    have hlt1 : g3 ≤ w1.heap.size := by rcases hbu1 with h | h <;> exact Nat.le_of_lt h.lt
    refine (Tryd.Builder_String_any g3 g3 _ w1 hbu1 hlt1).mono ?_
    rintro e w2 ⟨rfl, hb⟩
    refine ⟨.val _, _, [(w2, Mem.gs [(0, ⟨g0, 24, cfgS ⟨c0, c1, c2, c3, c4, c5, c6, c7, c8, c9, c10, c11⟩⟩)]), (w, fun _ => False)], rfl, hA.belowB hb hab (by intro p hp; simp at hp; subst hp; exact ⟨by simp, hg3w⟩), ?_⟩
    intro w' hA
    refine ⟨?_, hA.bel (by simp)⟩
    rw [hform h, h]; rfl
end Go.Proofs.YtllepnadffndnaaDoor
