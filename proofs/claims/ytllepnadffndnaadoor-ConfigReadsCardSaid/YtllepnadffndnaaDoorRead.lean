/- The program's find and read. -/
import Derived.Test.YtllepnadffndnaaDoorRParse
import Derived.Test.YtllepnadffndnaaDoorShelf
import Derived.Lib.AtoiErrMem
import Derived.Shelf.Unicode.DecodeSlow
namespace Go.Proofs.YtllepnadffndnaaDoor
open Go.RowKit

def findF (a : Bs) : Int := match keyIdx a with | some k => k | none => -1
theorem findF_some {a : Bs} {k : Nat} (h : keyIdx a = some k) : findF a = k := by unfold findF; rw [h]
theorem findF_none {a : Bs} (h : keyIdx a = none) : findF a = -1 := by unfold findF; rw [h]
theorem keyIdx_all {a : Bs} (h : ∀ j, j < 12 → nameL j ≠ a) : keyIdx a = none := by
  cases hk : keyIdx a with
  | none => rfl
  | some k => exact absurd (keyIdx_lt hk).2 (h k (keyIdx_lt hk).1)

set_option maxRecDepth 100000 in
theorem find_c (s : ByteArray) (w : World) : Calls Tryd.prog 53 #[.string s] w fun e w' => e = .returned (.int .i64 (findF s.data.toList)) ∧ Below w.heap.size w w' := by
  generalize ha : s.data.toList = a
  have f1 := @findF_some a
  have f2 := @findF_none a
  generalize findF a = r at f1 f2 ⊢
  refine calls_of_vc seat Tryd.func53 rfl rfl (Nat.le_of_ble_eq_true rfl) (N := 16) (args := [.val (.string s)]) (Nat.le_of_ble_eq_true rfl) rfl (A.start w) ?_
  (intro w1 hA; refine (rows_c w1).mono ?_; rintro e w2 ⟨rfl, hb⟩; refine ⟨.val _, _, _, rfl, hA.below' hb, ?_⟩)
  refine ⟨Nat, fun k => [(6, .val (.int .i64 k)), (5, .val (.agg ⟨rowsV⟩)), (0, .val (.string s))], fun _ => [], fun _ => [(w, fun _ => False)], fun k => k ≤ 12 ∧ ∀ j, j < k → nameL j ≠ a, fun k => 12 - k, ?_, ?_⟩
  · intro w1 hA
    exact ⟨0, ⟨by omega, fun j hj => by omega⟩, ⟨⟨_, rfl, rfl⟩, ⟨_, rfl, rfl⟩, ⟨_, rfl, rfl⟩, trivial⟩, hA⟩
  rintro k ⟨hk, hno⟩
  refine ⟨fun h => ?_, fun h => ?_⟩
  · have hk12 : k < 12 := by have : (k : Int) < 12 := of_decide_eq_true h
                             omega
    refine ⟨k, rfl, hk12, _, rowsV_at k hk12, ?_⟩
    intro g2 _
    refine ⟨rfl, rfl, rfl, rfl, ?_⟩
    refine ⟨_, rfl, rfl, ?_⟩
    refine ⟨fun h1 => ?_, fun h1 => ?_⟩
    · have h1 : nameL k = a := by
        rw [← beq_toListBytes] at h1
        have := ba_beq h1
        rw [← ha, ← this]
      intro w' hA
      refine ⟨?_, hA.bel (by simp)⟩
      rw [f1 (keyIdx_of hk12 h1)]; rfl
    · have h1 : nameL k ≠ a := by
        intro e
        rw [str_eq] at h1
        rw [ha, ← e] at h1
        simp at h1
      refine ⟨((k + 1 : Nat) : Int), wrap_in _ (by omega) (by omega), ?_⟩
      intro w' hA
      refine ⟨k + 1, ⟨by omega, fun j hj => ?_⟩, by show 12 - (k + 1) < 12 - k; omega, ⟨⟨_, rfl, rfl⟩, ⟨_, rfl, rfl⟩, ⟨_, rfl, rfl⟩, trivial⟩, hA.sub trivial⟩
      by_cases e : j = k
      · subst e; exact h1
      · exact hno j (by omega)
  · have e : k = 12 := by have : ¬ (k : Int) < 12 := of_decide_eq_false h
                          have : k ≤ 12 := hk
                          omega
    subst e
    intro w' hA
    refine ⟨?_, hA.bel (by simp)⟩
    rw [f2 (keyIdx_all hno)]; rfl

def readT (b : Bs) (m : Bool) : Wide × Bool × Bool :=
  if b = [45, 49] ∧ m = true then (⟨0, true⟩, false, true) else
  match numberB b with
  | some n => (⟨n, false⟩, false, true)
  | none => if digitsB b then (⟨18446744073709551615, false⟩, true, true) else (⟨0, false⟩, false, false)
theorem readT_m1 {b : Bs} {m : Bool} (h : b = [45, 49]) (h2 : m = true) : readT b m = (⟨0, true⟩, false, true) := by unfold readT; rw [if_pos ⟨h, h2⟩]
theorem readT_num {b : Bs} {m : Bool} {n : Nat} (h : ¬ (b = [45, 49] ∧ m = true)) (hn : numberB b = some n) : readT b m = (⟨n, false⟩, false, true) := by unfold readT; rw [if_neg h, hn]
theorem readT_big {b : Bs} {m : Bool} (h : ¬ (b = [45, 49] ∧ m = true)) (hn : numberB b = none) (hd : digitsB b = true) : readT b m = (⟨18446744073709551615, false⟩, true, true) := by unfold readT; rw [if_neg h, hn]; simp only [hd, if_true]
theorem readT_bad {b : Bs} {m : Bool} (h : ¬ (b = [45, 49] ∧ m = true)) (hn : numberB b = none) (hd : digitsB b = false) : readT b m = (⟨0, false⟩, false, false) := by unfold readT; rw [if_neg h, hn]; simp only [hd, Bool.false_eq_true, if_false]
def readV (r : Wide × Bool × Bool) : Value := .tuple #[.agg ⟨wideV r.1⟩, .bool r.2.1, .bool r.2.2]

theorem pu_M : ∀ (l : Bs) (acc : Nat), acc < 18446744073709551616 → l.all digitB = true →
    Lib.parseUintM (2 ^ 64 - 1) acc l = if l.foldl (fun a c => a * 10 + (c.toNat - 48)) acc < 18446744073709551616 then .ok (l.foldl (fun a c => a * 10 + (c.toNat - 48)) acc) else .range
  | [], acc, h, _ => by simp [Lib.parseUintM, h]
  | c :: r, acc, h, hd => by
    simp only [List.all_cons, Bool.and_eq_true] at hd
    obtain ⟨hc, hr⟩ := hd
    have hc : 48 ≤ c.toNat ∧ c.toNat ≤ 57 := by
      simp [digitB] at hc
      omega
    have mono : ∀ (r : Bs) (b : Nat), b ≤ r.foldl (fun a c => a * 10 + (c.toNat - 48)) b := by
      intro r
      induction r with
      | nil => intro b; exact Nat.le_refl _
      | cons c r ih => intro b; exact Nat.le_trans (show b ≤ b * 10 + (c.toNat - 48) by omega) (ih _)
    have hm := mono r (acc * 10 + (c.toNat - 48))
    unfold Lib.parseUintM
    rw [if_pos hc, List.foldl_cons]
    by_cases h1 : 1844674407370955162 ≤ acc
    · rw [if_pos h1, if_neg (by omega)]
    · rw [if_neg h1]
      by_cases h2 : 18446744073709551615 < acc * 10 + (c.toNat - 48)
      · rw [if_pos h2, if_neg (by omega)]
      · rw [if_neg h2]
        exact pu_M r _ (by omega) hr
theorem pu_digits {l : Bs} (h : l ≠ []) (hd : l.all digitB = true) : Lib.parseUintB 64 l = if decVal l < 18446744073709551616 then .ok (decVal l) else .range := by
  unfold Lib.parseUintB
  rw [if_neg h]
  exact pu_M l 0 (by omega) hd

/-- What the tables and variables of the library hold. -/
structure LibOK (w : World) : Prop where
  pow10 : Lib.TabIs Tryd.prog w "internal/strconv.uint64pow10" .u64 Lib.pow10Tab
  syn : ∃ tp p, w.var? Tryd.prog "strconv.ErrSyntax" = some #[.iface tp p]
  range : ∃ tp p, w.var? Tryd.prog "strconv.ErrRange" = some #[.iface tp p]
  maxLen : ∃ m, w.cell? ⟨3, 0, none⟩ = some (.int .i64 m)
  utf8 : Lib.Utf8Tabs 0 1 w

set_option maxRecDepth 100000 in
set_option maxHeartbeats 2000000 in
theorem read_c (s : ByteArray) (hs : s.size ≤ 140737488355328) (m : Bool) (w : World) (hlib : ∀ w', Below w.heap.size w w' → LibOK w') :
    Calls Tryd.prog 54 #[.string s, .bool m] w fun e w' => e = .returned (readV (readT s.data.toList m)) ∧ Below w.heap.size w w' := by
  have hsz := str_len s
  have hm1 := str_eq s #[45, 49]
  have hemp := str_eq s #[]
  generalize hl : s.data.toList = l at *
  have q1 := @readT_m1 l m
  have q2 : ∀ {n : Nat}, ¬ (l = [45, 49] ∧ m = true) → numberB l = some n → readT l m = (⟨n, false⟩, false, true) := fun h => readT_num h
  have q3 := @readT_big l m
  have q4 : ¬ (l = [45, 49] ∧ m = true) → digitsB l = false → readT l m = (⟨0, false⟩, false, false) := fun h hd => readT_bad h (by simp [numberB, hd]) hd
  generalize readT l m = r at q1 q2 q3 q4 ⊢
  have main : ¬ (1 < l.length ∧ byteAt l 0 = 48) → l ≠ [] → (l.all digitB = true → digitsB l = true) := by
    intro h h1 h2
    have hie : l.isEmpty = false := by simpa using h1
    have : l.length = 1 ∨ byteAt l 0 ≠ 48 := by
      by_cases e : l.length = 1
      · exact .inl e
      · have hp : 0 < l.length := List.length_pos_iff.2 h1
        exact .inr fun e2 => h ⟨by omega, e2⟩
    rcases this with e | e
    · simp [digitsB, h2, hie, e]
    · simp [digitsB, h2, hie, e]
  refine calls_of_vc seat Tryd.func54 rfl rfl (Nat.le_of_ble_eq_true rfl) (N := 55) (args := [.val (.string s), .val (.bool m)]) (Nat.le_of_ble_eq_true rfl) rfl (A.start w) ?_
  intro g0 _
  refine ⟨fun h1 => ?_, fun h1 => ?_⟩
  · have h1 : l = [45, 49] := by rw [hm1] at h1; simpa using h1
    refine ⟨fun h2 => ?_, fun h2 => ?_⟩
    · refine ⟨⟨rfl, trivial⟩, ?_⟩
      refine ⟨rfl, rfl, rfl, rfl, ?_⟩
      refine ⟨rfl, rfl, ?_⟩
      intro w' hA
      refine ⟨?_, hA.bel (by simp)⟩
      rw [q1 h1 h2]; rfl
    · have hno : ¬ (l = [45, 49] ∧ m = true) := fun h => by rw [h.2] at h2; cases h2
      replace q2 := @q2
      replace q3 := q3 hno
      replace q4 := q4 hno
      have q2 : ∀ {n : Nat}, numberB l = some n → r = (⟨n, false⟩, false, true) := fun h => q2 hno h
      clear q1
      refine ⟨fun h1 => ?_, fun h1 => ?_⟩
      · have hl0 : l ≠ [] := by rw [hemp] at h1; simpa using h1
        have hp : 0 < l.length := List.length_pos_iff.2 hl0
        refine ⟨fun h2 => ?_, fun h2 => ?_⟩
        · have h2 : 1 < l.length := by have := of_decide_eq_true h2; omega
          refine ⟨0, _, rfl, by rw [hl]; exact byteAt_some hp, ?_⟩
          have e := u8eq (byteAt l 0) 48
          refine ⟨fun h3 => ?_, fun h3 => ?_⟩
          · have h3 : byteAt l 0 = 48 := eq_of_beq (e.symm.trans h3)
            refine ⟨trivial, ?_⟩
            refine ⟨rfl, rfl, rfl, rfl, ?_⟩
            refine ⟨rfl, rfl, ?_⟩
            intro w' hA
            refine ⟨?_, hA.bel (by simp)⟩
            have : (l.length == 1) = false := by simp; omega
            rw [q4 (by simp [digitsB, this, h3])]; rfl
          · have h3 : byteAt l 0 ≠ 48 := ne_of_beq_false (e.symm.trans h3)
            have hm := main (by rintro ⟨_, e⟩; exact h3 e) hl0
            clear e h3 h2
            refine ⟨Nat, fun i => [(31, .val (.int .i64 i)), (30, .val (.int .i64 s.size)), (0, .val (.string s)), (4, .ptr 0 g0 0)], fun _ => [(0, ⟨g0, 57, [.val (.int .u64 0), .val (.bool false)]⟩)], fun _ => [(w, fun _ => False)], fun i => i ≤ l.length ∧ (l.take i).all digitB = true, fun i => l.length - i, ?_, ?_⟩
            · intro w1 hA
              exact ⟨0, ⟨by omega, rfl⟩, ⟨⟨_, rfl, rfl⟩, ⟨_, rfl, rfl⟩, ⟨_, rfl, rfl⟩, ⟨_, rfl, rfl⟩, trivial⟩, hA.sub ⟨rfl, trivial⟩⟩
            rintro i ⟨hi, hall⟩
            refine ⟨fun h => ?_, fun h => ?_⟩
            · have h : i < l.length := by have := of_decide_eq_true h; omega
              have hc := byteAt_some h
              have hbad : digitB (byteAt l i) = false → digitsB l = false := fun e => by simp [digitsB, all_false h e]
              have hgood : digitB (byteAt l i) = true → (l.take (i + 1)).all digitB = true := fun e => by rw [take_all h, hall, e]; rfl
              have hdg : digitB (byteAt l i) = !(decide (((byteAt l i).toNat : Int) < 48) || decide (57 < ((byteAt l i).toNat : Int))) := rfl
              generalize byteAt l i = c at *
              refine ⟨i, c, rfl, by rw [hl]; exact hc, ?_⟩
              refine ⟨fun g1 => ?_, fun g1 => ?_⟩
              · refine ⟨i, c, rfl, by rw [hl]; exact hc, ?_⟩
                refine ⟨fun g2 => ?_, fun g2 => ?_⟩
                · refine ⟨trivial, ?_⟩
                  refine ⟨rfl, rfl, rfl, rfl, ?_⟩
                  refine ⟨rfl, rfl, ?_⟩
                  intro w' hA
                  refine ⟨?_, hA.bel (by simp)⟩
                  rw [q4 (hbad (by rw [hdg, g2]; simp))]; rfl
                · refine ⟨((i + 1 : Nat) : Int), wrap_in _ (by omega) (by omega), ?_⟩
                  intro w' hA
                  exact ⟨i + 1, ⟨by omega, hgood (by rw [hdg, g1, g2]; rfl)⟩, by show l.length - (i + 1) < l.length - i; omega, ⟨⟨_, rfl, rfl⟩, ⟨_, rfl, rfl⟩, ⟨_, rfl, rfl⟩, ⟨_, rfl, rfl⟩, trivial⟩, hA⟩
              · refine ⟨fun _ => ?_, fun h => Bool.noConfusion h⟩
                refine ⟨trivial, ?_⟩
                refine ⟨rfl, rfl, rfl, rfl, ?_⟩
                refine ⟨rfl, rfl, ?_⟩
                intro w' hA
                refine ⟨?_, hA.bel (by simp)⟩
                rw [q4 (hbad (by rw [hdg, g1]; simp))]; rfl
            · have h : ¬ i < l.length := by have := of_decide_eq_false h; omega
              have hall : l.all digitB = true := by rw [List.take_of_length_le (by omega)] at hall; exact hall
              have hd := hm hall
              have hpu := pu_digits hl0 hall
              have hnum : numberB l = if decVal l < 18446744073709551616 then some (decVal l) else none := by
                unfold numberB
                by_cases hx : decVal l < 18446744073709551616 <;> simp [hd, hx]
              by_cases hx : decVal l < 18446744073709551616
              · rw [if_pos hx] at hpu hnum
                have hq := q2 hnum
                generalize decVal l = n at hpu hq hx
                intro w1 hA
                refine (Tryd.strconv_ParseUint_10_at64_ok s (by omega) n (by rw [hl]; exact hpu) w1).mono ?_
                rintro e w2 ⟨rfl, hww⟩
                have hb : Below w1.heap.size w1 w2 := by
                  rcases hww with rfl | rfl
                  · exact Below.refl _ _
                  · exact Lib.bytesWorld_below _ _ _
                refine ⟨.val _, _, _, rfl, hA.below' hb, ?_⟩
                clear hA hb hww
                refine ⟨_, rfl, _, rfl, ?_⟩
                refine ⟨_, [], [], [], .inr rfl, .inl trivial, nofun, (.take 0 (.take 1 (.take 2 (.take 3 (.alt 4 (.take 5 (.take 6 .done)) .stop))))), by kernel_rfl, ?_⟩
                refine ⟨⟨rfl, trivial⟩, ?_⟩
                refine ⟨rfl, rfl, rfl, rfl, ?_⟩
                refine ⟨rfl, rfl, ?_⟩
                intro w' hA
                refine ⟨?_, hA.bel (by simp)⟩
                rw [hq]; rfl
              · rw [if_neg hx] at hpu hnum
                have hq := q3 hnum hd
                intro w1 hA
                obtain ⟨tp, p, hvar⟩ := (hlib w1 (hA.bel (by simp))).range
                refine (Tryd.strconv_ParseUint_10_at64_range_var s (by omega) (by rw [hl]; exact hpu) tp p w1 hvar).mono ?_
                rintro e w2 ⟨N, rfl, _, _, hb⟩
                refine ⟨.val _, _, _, rfl, hA.below' hb, ?_⟩
                clear hA hb
                refine ⟨_, rfl, _, rfl, ?_⟩
                refine ⟨_, [], [], [], .inr rfl, .inl trivial, nofun, (.take 0 (.take 1 (.take 2 (.take 3 (.alt 4 (.take 5 (.take 6 .done)) .stop))))), by kernel_rfl, ?_⟩
                refine ⟨⟨rfl, trivial⟩, ?_⟩
                refine ⟨rfl, rfl, rfl, rfl, ?_⟩
                refine ⟨rfl, rfl, ?_⟩
                intro w' hA
                refine ⟨?_, hA.bel (by simp)⟩
                rw [hq]; rfl
        · have h2 : ¬ 1 < l.length := by have := of_decide_eq_false h2; omega
          have hm := main (by rintro ⟨e, _⟩; exact h2 e) hl0
          (repeat (first | refine ⟨fun _ => ?_, fun h => Bool.noConfusion h⟩ | refine ⟨fun h => Bool.noConfusion h, fun _ => ?_⟩ | refine ⟨_, wrap_in _ (by omega) (by omega), ?_⟩ | refine ⟨_, wrapu_in _ (by omega) (by omega), ?_⟩ | refine ⟨_, wrap8_in _ (by omega) (by omega), ?_⟩ | refine ⟨_, rfl, ?_⟩ | refine ⟨rfl, ?_⟩))
          clear h2
          refine ⟨Nat, fun i => [(31, .val (.int .i64 i)), (30, .val (.int .i64 s.size)), (0, .val (.string s)), (4, .ptr 0 g0 0)], fun _ => [(0, ⟨g0, 57, [.val (.int .u64 0), .val (.bool false)]⟩)], fun _ => [(w, fun _ => False)], fun i => i ≤ l.length ∧ (l.take i).all digitB = true, fun i => l.length - i, ?_, ?_⟩
          · intro w1 hA
            exact ⟨0, ⟨by omega, rfl⟩, ⟨⟨_, rfl, rfl⟩, ⟨_, rfl, rfl⟩, ⟨_, rfl, rfl⟩, ⟨_, rfl, rfl⟩, trivial⟩, hA.sub ⟨rfl, trivial⟩⟩
          rintro i ⟨hi, hall⟩
          refine ⟨fun h => ?_, fun h => ?_⟩
          · have h : i < l.length := by have := of_decide_eq_true h; omega
            have hc := byteAt_some h
            have hbad : digitB (byteAt l i) = false → digitsB l = false := fun e => by simp [digitsB, all_false h e]
            have hgood : digitB (byteAt l i) = true → (l.take (i + 1)).all digitB = true := fun e => by rw [take_all h, hall, e]; rfl
            have hdg : digitB (byteAt l i) = !(decide (((byteAt l i).toNat : Int) < 48) || decide (57 < ((byteAt l i).toNat : Int))) := rfl
            generalize byteAt l i = c at *
            refine ⟨i, c, rfl, by rw [hl]; exact hc, ?_⟩
            refine ⟨fun g1 => ?_, fun g1 => ?_⟩
            · refine ⟨i, c, rfl, by rw [hl]; exact hc, ?_⟩
              refine ⟨fun g2 => ?_, fun g2 => ?_⟩
              · refine ⟨trivial, ?_⟩
                refine ⟨rfl, rfl, rfl, rfl, ?_⟩
                refine ⟨rfl, rfl, ?_⟩
                intro w' hA
                refine ⟨?_, hA.bel (by simp)⟩
                rw [q4 (hbad (by rw [hdg, g2]; simp))]; rfl
              · refine ⟨((i + 1 : Nat) : Int), wrap_in _ (by omega) (by omega), ?_⟩
                intro w' hA
                exact ⟨i + 1, ⟨by omega, hgood (by rw [hdg, g1, g2]; rfl)⟩, by show l.length - (i + 1) < l.length - i; omega, ⟨⟨_, rfl, rfl⟩, ⟨_, rfl, rfl⟩, ⟨_, rfl, rfl⟩, ⟨_, rfl, rfl⟩, trivial⟩, hA⟩
            · refine ⟨fun _ => ?_, fun h => Bool.noConfusion h⟩
              refine ⟨trivial, ?_⟩
              refine ⟨rfl, rfl, rfl, rfl, ?_⟩
              refine ⟨rfl, rfl, ?_⟩
              intro w' hA
              refine ⟨?_, hA.bel (by simp)⟩
              rw [q4 (hbad (by rw [hdg, g1]; simp))]; rfl
          · have h : ¬ i < l.length := by have := of_decide_eq_false h; omega
            have hall : l.all digitB = true := by rw [List.take_of_length_le (by omega)] at hall; exact hall
            have hd := hm hall
            have hpu := pu_digits hl0 hall
            have hnum : numberB l = if decVal l < 18446744073709551616 then some (decVal l) else none := by
              unfold numberB
              by_cases hx : decVal l < 18446744073709551616 <;> simp [hd, hx]
            by_cases hx : decVal l < 18446744073709551616
            · rw [if_pos hx] at hpu hnum
              have hq := q2 hnum
              generalize decVal l = n at hpu hq hx
              intro w1 hA
              refine (Tryd.strconv_ParseUint_10_at64_ok s (by omega) n (by rw [hl]; exact hpu) w1).mono ?_
              rintro e w2 ⟨rfl, hww⟩
              have hb : Below w1.heap.size w1 w2 := by
                rcases hww with rfl | rfl
                · exact Below.refl _ _
                · exact Lib.bytesWorld_below _ _ _
              refine ⟨.val _, _, _, rfl, hA.below' hb, ?_⟩
              clear hA hb hww
              refine ⟨_, rfl, _, rfl, ?_⟩
              refine ⟨_, [], [], [], .inr rfl, .inl trivial, nofun, (.take 0 (.take 1 (.take 2 (.take 3 (.alt 4 (.take 5 (.take 6 .done)) .stop))))), by kernel_rfl, ?_⟩
              refine ⟨⟨rfl, trivial⟩, ?_⟩
              refine ⟨rfl, rfl, rfl, rfl, ?_⟩
              refine ⟨rfl, rfl, ?_⟩
              intro w' hA
              refine ⟨?_, hA.bel (by simp)⟩
              rw [hq]; rfl
            · rw [if_neg hx] at hpu hnum
              have hq := q3 hnum hd
              intro w1 hA
              obtain ⟨tp, p, hvar⟩ := (hlib w1 (hA.bel (by simp))).range
              refine (Tryd.strconv_ParseUint_10_at64_range_var s (by omega) (by rw [hl]; exact hpu) tp p w1 hvar).mono ?_
              rintro e w2 ⟨N, rfl, _, _, hb⟩
              refine ⟨.val _, _, _, rfl, hA.below' hb, ?_⟩
              clear hA hb
              refine ⟨_, rfl, _, rfl, ?_⟩
              refine ⟨_, [], [], [], .inr rfl, .inl trivial, nofun, (.take 0 (.take 1 (.take 2 (.take 3 (.alt 4 (.take 5 (.take 6 .done)) .stop))))), by kernel_rfl, ?_⟩
              refine ⟨⟨rfl, trivial⟩, ?_⟩
              refine ⟨rfl, rfl, rfl, rfl, ?_⟩
              refine ⟨rfl, rfl, ?_⟩
              intro w' hA
              refine ⟨?_, hA.bel (by simp)⟩
              rw [hq]; rfl
      · have h1 : l = [] := by rw [hemp] at h1; simpa using h1
        refine ⟨fun _ => ?_, fun h => Bool.noConfusion h⟩
        refine ⟨trivial, ?_⟩
        refine ⟨rfl, rfl, rfl, rfl, ?_⟩
        refine ⟨rfl, rfl, ?_⟩
        intro w' hA
        refine ⟨?_, hA.bel (by simp)⟩
        rw [q4 (by simp [digitsB, h1])]; rfl
  · have h1 : l ≠ [45, 49] := by rw [hm1] at h1; simpa using h1
    have hno : ¬ (l = [45, 49] ∧ m = true) := fun h => h1 h.1
    (repeat (first | refine ⟨fun _ => ?_, fun h => Bool.noConfusion h⟩ | refine ⟨fun h => Bool.noConfusion h, fun _ => ?_⟩ | refine ⟨_, wrap_in _ (by omega) (by omega), ?_⟩ | refine ⟨_, wrapu_in _ (by omega) (by omega), ?_⟩ | refine ⟨_, wrap8_in _ (by omega) (by omega), ?_⟩ | refine ⟨_, rfl, ?_⟩ | refine ⟨rfl, ?_⟩))
    replace q2 := @q2
    replace q3 := q3 hno
    replace q4 := q4 hno
    have q2 : ∀ {n : Nat}, numberB l = some n → r = (⟨n, false⟩, false, true) := fun h => q2 hno h
    clear q1
    refine ⟨fun h1 => ?_, fun h1 => ?_⟩
    · have hl0 : l ≠ [] := by rw [hemp] at h1; simpa using h1
      have hp : 0 < l.length := List.length_pos_iff.2 hl0
      refine ⟨fun h2 => ?_, fun h2 => ?_⟩
      · have h2 : 1 < l.length := by have := of_decide_eq_true h2; omega
        refine ⟨0, _, rfl, by rw [hl]; exact byteAt_some hp, ?_⟩
        have e := u8eq (byteAt l 0) 48
        refine ⟨fun h3 => ?_, fun h3 => ?_⟩
        · have h3 : byteAt l 0 = 48 := eq_of_beq (e.symm.trans h3)
          refine ⟨trivial, ?_⟩
          refine ⟨rfl, rfl, rfl, rfl, ?_⟩
          refine ⟨rfl, rfl, ?_⟩
          intro w' hA
          refine ⟨?_, hA.bel (by simp)⟩
          have : (l.length == 1) = false := by simp; omega
          rw [q4 (by simp [digitsB, this, h3])]; rfl
        · have h3 : byteAt l 0 ≠ 48 := ne_of_beq_false (e.symm.trans h3)
          have hm := main (by rintro ⟨_, e⟩; exact h3 e) hl0
          clear e h3 h2
          refine ⟨Nat, fun i => [(31, .val (.int .i64 i)), (30, .val (.int .i64 s.size)), (0, .val (.string s)), (4, .ptr 0 g0 0)], fun _ => [(0, ⟨g0, 57, [.val (.int .u64 0), .val (.bool false)]⟩)], fun _ => [(w, fun _ => False)], fun i => i ≤ l.length ∧ (l.take i).all digitB = true, fun i => l.length - i, ?_, ?_⟩
          · intro w1 hA
            exact ⟨0, ⟨by omega, rfl⟩, ⟨⟨_, rfl, rfl⟩, ⟨_, rfl, rfl⟩, ⟨_, rfl, rfl⟩, ⟨_, rfl, rfl⟩, trivial⟩, hA.sub ⟨rfl, trivial⟩⟩
          rintro i ⟨hi, hall⟩
          refine ⟨fun h => ?_, fun h => ?_⟩
          · have h : i < l.length := by have := of_decide_eq_true h; omega
            have hc := byteAt_some h
            have hbad : digitB (byteAt l i) = false → digitsB l = false := fun e => by simp [digitsB, all_false h e]
            have hgood : digitB (byteAt l i) = true → (l.take (i + 1)).all digitB = true := fun e => by rw [take_all h, hall, e]; rfl
            have hdg : digitB (byteAt l i) = !(decide (((byteAt l i).toNat : Int) < 48) || decide (57 < ((byteAt l i).toNat : Int))) := rfl
            generalize byteAt l i = c at *
            refine ⟨i, c, rfl, by rw [hl]; exact hc, ?_⟩
            refine ⟨fun g1 => ?_, fun g1 => ?_⟩
            · refine ⟨i, c, rfl, by rw [hl]; exact hc, ?_⟩
              refine ⟨fun g2 => ?_, fun g2 => ?_⟩
              · refine ⟨trivial, ?_⟩
                refine ⟨rfl, rfl, rfl, rfl, ?_⟩
                refine ⟨rfl, rfl, ?_⟩
                intro w' hA
                refine ⟨?_, hA.bel (by simp)⟩
                rw [q4 (hbad (by rw [hdg, g2]; simp))]; rfl
              · refine ⟨((i + 1 : Nat) : Int), wrap_in _ (by omega) (by omega), ?_⟩
                intro w' hA
                exact ⟨i + 1, ⟨by omega, hgood (by rw [hdg, g1, g2]; rfl)⟩, by show l.length - (i + 1) < l.length - i; omega, ⟨⟨_, rfl, rfl⟩, ⟨_, rfl, rfl⟩, ⟨_, rfl, rfl⟩, ⟨_, rfl, rfl⟩, trivial⟩, hA⟩
            · refine ⟨fun _ => ?_, fun h => Bool.noConfusion h⟩
              refine ⟨trivial, ?_⟩
              refine ⟨rfl, rfl, rfl, rfl, ?_⟩
              refine ⟨rfl, rfl, ?_⟩
              intro w' hA
              refine ⟨?_, hA.bel (by simp)⟩
              rw [q4 (hbad (by rw [hdg, g1]; simp))]; rfl
          · have h : ¬ i < l.length := by have := of_decide_eq_false h; omega
            have hall : l.all digitB = true := by rw [List.take_of_length_le (by omega)] at hall; exact hall
            have hd := hm hall
            have hpu := pu_digits hl0 hall
            have hnum : numberB l = if decVal l < 18446744073709551616 then some (decVal l) else none := by
              unfold numberB
              by_cases hx : decVal l < 18446744073709551616 <;> simp [hd, hx]
            by_cases hx : decVal l < 18446744073709551616
            · rw [if_pos hx] at hpu hnum
              have hq := q2 hnum
              generalize decVal l = n at hpu hq hx
              intro w1 hA
              refine (Tryd.strconv_ParseUint_10_at64_ok s (by omega) n (by rw [hl]; exact hpu) w1).mono ?_
              rintro e w2 ⟨rfl, hww⟩
              have hb : Below w1.heap.size w1 w2 := by
                rcases hww with rfl | rfl
                · exact Below.refl _ _
                · exact Lib.bytesWorld_below _ _ _
              refine ⟨.val _, _, _, rfl, hA.below' hb, ?_⟩
              clear hA hb hww
              refine ⟨_, rfl, _, rfl, ?_⟩
              refine ⟨_, [], [], [], .inr rfl, .inl trivial, nofun, (.take 0 (.take 1 (.take 2 (.take 3 (.alt 4 (.take 5 (.take 6 .done)) .stop))))), by kernel_rfl, ?_⟩
              refine ⟨⟨rfl, trivial⟩, ?_⟩
              refine ⟨rfl, rfl, rfl, rfl, ?_⟩
              refine ⟨rfl, rfl, ?_⟩
              intro w' hA
              refine ⟨?_, hA.bel (by simp)⟩
              rw [hq]; rfl
            · rw [if_neg hx] at hpu hnum
              have hq := q3 hnum hd
              intro w1 hA
              obtain ⟨tp, p, hvar⟩ := (hlib w1 (hA.bel (by simp))).range
              refine (Tryd.strconv_ParseUint_10_at64_range_var s (by omega) (by rw [hl]; exact hpu) tp p w1 hvar).mono ?_
              rintro e w2 ⟨N, rfl, _, _, hb⟩
              refine ⟨.val _, _, _, rfl, hA.below' hb, ?_⟩
              clear hA hb
              refine ⟨_, rfl, _, rfl, ?_⟩
              refine ⟨_, [], [], [], .inr rfl, .inl trivial, nofun, (.take 0 (.take 1 (.take 2 (.take 3 (.alt 4 (.take 5 (.take 6 .done)) .stop))))), by kernel_rfl, ?_⟩
              refine ⟨⟨rfl, trivial⟩, ?_⟩
              refine ⟨rfl, rfl, rfl, rfl, ?_⟩
              refine ⟨rfl, rfl, ?_⟩
              intro w' hA
              refine ⟨?_, hA.bel (by simp)⟩
              rw [hq]; rfl
      · have h2 : ¬ 1 < l.length := by have := of_decide_eq_false h2; omega
        have hm := main (by rintro ⟨e, _⟩; exact h2 e) hl0
        (repeat (first | refine ⟨fun _ => ?_, fun h => Bool.noConfusion h⟩ | refine ⟨fun h => Bool.noConfusion h, fun _ => ?_⟩ | refine ⟨_, wrap_in _ (by omega) (by omega), ?_⟩ | refine ⟨_, wrapu_in _ (by omega) (by omega), ?_⟩ | refine ⟨_, wrap8_in _ (by omega) (by omega), ?_⟩ | refine ⟨_, rfl, ?_⟩ | refine ⟨rfl, ?_⟩))
        clear h2
        refine ⟨Nat, fun i => [(31, .val (.int .i64 i)), (30, .val (.int .i64 s.size)), (0, .val (.string s)), (4, .ptr 0 g0 0)], fun _ => [(0, ⟨g0, 57, [.val (.int .u64 0), .val (.bool false)]⟩)], fun _ => [(w, fun _ => False)], fun i => i ≤ l.length ∧ (l.take i).all digitB = true, fun i => l.length - i, ?_, ?_⟩
        · intro w1 hA
          exact ⟨0, ⟨by omega, rfl⟩, ⟨⟨_, rfl, rfl⟩, ⟨_, rfl, rfl⟩, ⟨_, rfl, rfl⟩, ⟨_, rfl, rfl⟩, trivial⟩, hA.sub ⟨rfl, trivial⟩⟩
        rintro i ⟨hi, hall⟩
        refine ⟨fun h => ?_, fun h => ?_⟩
        · have h : i < l.length := by have := of_decide_eq_true h; omega
          have hc := byteAt_some h
          have hbad : digitB (byteAt l i) = false → digitsB l = false := fun e => by simp [digitsB, all_false h e]
          have hgood : digitB (byteAt l i) = true → (l.take (i + 1)).all digitB = true := fun e => by rw [take_all h, hall, e]; rfl
          have hdg : digitB (byteAt l i) = !(decide (((byteAt l i).toNat : Int) < 48) || decide (57 < ((byteAt l i).toNat : Int))) := rfl
          generalize byteAt l i = c at *
          refine ⟨i, c, rfl, by rw [hl]; exact hc, ?_⟩
          refine ⟨fun g1 => ?_, fun g1 => ?_⟩
          · refine ⟨i, c, rfl, by rw [hl]; exact hc, ?_⟩
            refine ⟨fun g2 => ?_, fun g2 => ?_⟩
            · refine ⟨trivial, ?_⟩
              refine ⟨rfl, rfl, rfl, rfl, ?_⟩
              refine ⟨rfl, rfl, ?_⟩
              intro w' hA
              refine ⟨?_, hA.bel (by simp)⟩
              rw [q4 (hbad (by rw [hdg, g2]; simp))]; rfl
            · refine ⟨((i + 1 : Nat) : Int), wrap_in _ (by omega) (by omega), ?_⟩
              intro w' hA
              exact ⟨i + 1, ⟨by omega, hgood (by rw [hdg, g1, g2]; rfl)⟩, by show l.length - (i + 1) < l.length - i; omega, ⟨⟨_, rfl, rfl⟩, ⟨_, rfl, rfl⟩, ⟨_, rfl, rfl⟩, ⟨_, rfl, rfl⟩, trivial⟩, hA⟩
          · refine ⟨fun _ => ?_, fun h => Bool.noConfusion h⟩
            refine ⟨trivial, ?_⟩
            refine ⟨rfl, rfl, rfl, rfl, ?_⟩
            refine ⟨rfl, rfl, ?_⟩
            intro w' hA
            refine ⟨?_, hA.bel (by simp)⟩
            rw [q4 (hbad (by rw [hdg, g1]; simp))]; rfl
        · have h : ¬ i < l.length := by have := of_decide_eq_false h; omega
          have hall : l.all digitB = true := by rw [List.take_of_length_le (by omega)] at hall; exact hall
          have hd := hm hall
          have hpu := pu_digits hl0 hall
          have hnum : numberB l = if decVal l < 18446744073709551616 then some (decVal l) else none := by
            unfold numberB
            by_cases hx : decVal l < 18446744073709551616 <;> simp [hd, hx]
          by_cases hx : decVal l < 18446744073709551616
          · rw [if_pos hx] at hpu hnum
            have hq := q2 hnum
            generalize decVal l = n at hpu hq hx
            intro w1 hA
            refine (Tryd.strconv_ParseUint_10_at64_ok s (by omega) n (by rw [hl]; exact hpu) w1).mono ?_
            rintro e w2 ⟨rfl, hww⟩
            have hb : Below w1.heap.size w1 w2 := by
              rcases hww with rfl | rfl
              · exact Below.refl _ _
              · exact Lib.bytesWorld_below _ _ _
            refine ⟨.val _, _, _, rfl, hA.below' hb, ?_⟩
            clear hA hb hww
            refine ⟨_, rfl, _, rfl, ?_⟩
            refine ⟨_, [], [], [], .inr rfl, .inl trivial, nofun, (.take 0 (.take 1 (.take 2 (.take 3 (.alt 4 (.take 5 (.take 6 .done)) .stop))))), by kernel_rfl, ?_⟩
            refine ⟨⟨rfl, trivial⟩, ?_⟩
            refine ⟨rfl, rfl, rfl, rfl, ?_⟩
            refine ⟨rfl, rfl, ?_⟩
            intro w' hA
            refine ⟨?_, hA.bel (by simp)⟩
            rw [hq]; rfl
          · rw [if_neg hx] at hpu hnum
            have hq := q3 hnum hd
            intro w1 hA
            obtain ⟨tp, p, hvar⟩ := (hlib w1 (hA.bel (by simp))).range
            refine (Tryd.strconv_ParseUint_10_at64_range_var s (by omega) (by rw [hl]; exact hpu) tp p w1 hvar).mono ?_
            rintro e w2 ⟨N, rfl, _, _, hb⟩
            refine ⟨.val _, _, _, rfl, hA.below' hb, ?_⟩
            clear hA hb
            refine ⟨_, rfl, _, rfl, ?_⟩
            refine ⟨_, [], [], [], .inr rfl, .inl trivial, nofun, (.take 0 (.take 1 (.take 2 (.take 3 (.alt 4 (.take 5 (.take 6 .done)) .stop))))), by kernel_rfl, ?_⟩
            refine ⟨⟨rfl, trivial⟩, ?_⟩
            refine ⟨rfl, rfl, rfl, rfl, ?_⟩
            refine ⟨rfl, rfl, ?_⟩
            intro w' hA
            refine ⟨?_, hA.bel (by simp)⟩
            rw [hq]; rfl
    · have h1 : l = [] := by rw [hemp] at h1; simpa using h1
      refine ⟨fun _ => ?_, fun h => Bool.noConfusion h⟩
      refine ⟨trivial, ?_⟩
      refine ⟨rfl, rfl, rfl, rfl, ?_⟩
      refine ⟨rfl, rfl, ?_⟩
      intro w' hA
      refine ⟨?_, hA.bel (by simp)⟩
      rw [q4 (by simp [digitsB, h1])]; rfl
end Go.Proofs.YtllepnadffndnaaDoor
