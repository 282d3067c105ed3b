/- ConfigReads: the walk (under way). -/
import Derived.Test.YtllepnadffndnaaDoorLawC
import Derived.Test.YtllepnadffndnaaDoorLines
namespace Go.Proofs.YtllepnadffndnaaDoor
open Go.RowKit

theorem formT_len {c : MConfig} (hc : CfgOK c) : (formT c).length ≤ 408 := by
  unfold formT
  split
  · exact textTo_len hc 12
  · simp
set_option maxRecDepth 100000 in
set_option maxHeartbeats 4000000 in
theorem configReads_core (a : Option Addr) (cap : Nat) (xs : List Int) (x : Int) (_ : (Lit.int .i64 x).wf = true) (b : Int) (hb8 : (Lit.int .u8 b).wf = true) (y : Int) (_ : (Lit.int .i64 y).wf = true) (z : Int) (hz : (Lit.int .u8 z).wf = true) (w : World) (hsl : Sl (Rp.int .i64) w (Lt w.heap.size) a xs) (hlib : ∀ w', Below w.heap.size w w' → LibOK w') :
    Calls Tryd.prog 6 #[.slice a xs.length cap, .int .i64 x, .int .u8 b, .int .i64 y, .int .u8 z] w fun e w' => e = .returned (.bool true) ∧ Below w.heap.size w w' := by
  have hz : 0 ≤ z ∧ z < 256 := by
    simp [Lit.wf, IntKind.min, IntKind.max, IntKind.bits, IntKind.signed] at hz
    omega
  refine calls_of_vc seat Tryd.func6 rfl rfl (Nat.le_of_ble_eq_true rfl) (N := 111) (args := [.val (.slice a xs.length cap), .val (.int .i64 x), .val (.int .u8 b), .val (.int .i64 y), .val (.int .u8 z)]) (Nat.le_of_ble_eq_true rfl) rfl (A.start w) ?_
  refine ⟨⟨rfl, trivial⟩, ?_⟩
  intro g1 _
  intro w1 hA
  refine (long_c g1 [(a, xs.length, cap)] 1 (by simp) (by intro x hx; simp at hx; subst hx; exact hsl.1) w1 (hA.blk 0 _ rfl)).mono ?_
  rintro e w2 ⟨rfl, hb⟩
  refine ⟨.val _, _, _, rfl, hA.below' hb, ?_⟩
  clear hA hb
  refine ⟨fun _ => ?_, fun _ => ?_⟩
  · skip
    intro w1 hA
    refine (known_c w1 (fun w' hb => hlib w' ((hA.below' hb).bel (by simp)))).mono ?_
    rintro e w2 ⟨rfl, hb⟩
    refine ⟨.val _, _, _, rfl, hA.below' hb, ?_⟩
    clear hA hb
    intro w' hA
    exact ⟨rfl, hA.bel (by simp)⟩
  intro w1 hA
  refine (from_c a cap xs w1).mono ?_
  rintro e w2 ⟨g2, rfl, hg2, hk2, hb⟩
  have hS : ∀ b, Lt w.heap.size b → b ≠ g2 := by
    have := (hA.bel (w := w) (by simp)).size
    intro b hb e
    subst e
    have : b < w.heap.size := hb
    omega
  refine ⟨.val (.pointer (some ⟨g2, 0, none⟩)), [(1, ⟨g2, 84, numsV a xs cap 0⟩)], [(w, fun _ => False)], rfl, (hA.adopt hb hg2 hk2).sub ⟨rfl, trivial⟩, ?_⟩
  clear hA hb hk2
  intro w1 hA
  refine (mconfig_c g2 a cap xs 0 w1 hS (by decide) (hA.blk 1 _ rfl) (hsl.below (hA.bel (by simp)))).mono ?_
  rintro e w2 ⟨c, N', hx, _, rfl, hb2, hs2⟩
  refine ⟨.val (.agg ⟨cfgV c⟩), [], [(w, fun _ => False)], rfl, (hA.wrote (i := 1) rfl hs2 hb2).sub trivial, ?_⟩
  clear hA hb2 hs2
  have hfmt := rformat_c c hx.ok
  have hfl := formT_len hx.ok
  generalize formT c = F at hfmt hfl
  generalize validC c = vc at hfmt
  intro w1 hA
  refine (hfmt w1).mono ?_
  rintro e w2 ⟨rfl, hb⟩
  refine ⟨.val _, _, _, rfl, hA.below' hb, ?_⟩
  clear hA hb
  refine ⟨_, rfl, _, rfl, ?_⟩
  have hFl : (⟨F.toArray⟩ : ByteArray).size = F.length := by simp [ByteArray.size]
  have hFd : (⟨F.toArray⟩ : ByteArray).data.toList = F := by simp
  generalize hT : (⟨F.toArray⟩ : ByteArray) = T at *
  refine ⟨((T.size + 1 : Nat) : Int), wrap_in _ (by omega) (by omega), ?_⟩
  intro w1 hA
  refine (place_c x _ w1 (by omega) (by omega)).mono ?_
  rintro e w2 ⟨rfl, hb⟩
  refine ⟨.val _, _, _, rfl, hA.below' hb, ?_⟩
  clear hA hb
  obtain ⟨p, hp, hpl⟩ : ∃ p : Nat, x % ((T.size + 1 : Nat) : Int) = p ∧ p ≤ T.size := by
    have h1 := Int.emod_nonneg x (show ((T.size + 1 : Nat) : Int) ≠ 0 by omega)
    have h2 := Int.emod_lt_of_pos x (show (0 : Int) < ((T.size + 1 : Nat) : Int) by omega)
    exact ⟨(x % ((T.size + 1 : Nat) : Int)).toNat, by omega, by omega⟩
  rw [hp]
  obtain ⟨U, hU, hUs⟩ : ∃ U, T.extract 0 p = U ∧ U.size ≤ 408 := ⟨_, rfl, by rw [ByteArray.size_extract]; omega⟩
  obtain ⟨V, hV, hVs⟩ : ∃ V, T.extract p T.size = V ∧ V.size ≤ 408 := ⟨_, rfl, by rw [ByteArray.size_extract]; omega⟩
  obtain ⟨bb, hbb⟩ : ∃ c : UInt8, (c.toNat : Int) = b := ⟨UInt8.ofNat b.toNat, by
    simp [Lit.wf, IntKind.min, IntKind.max, IntKind.bits, IntKind.signed] at hb8
    rw [UInt8.toNat_ofNat', Nat.mod_eq_of_lt (by omega)]; omega⟩
  refine ⟨_, [], [(w, fun _ => False)], [], .inr rfl, .inl trivial, fun _ h => h, (.take 0 (.take 1 (.take 2 (.take 3 (.take 7 (.take 8 (.take 9 (.alt 4 (.alt 5 (.take 6 (.take 10 (.take 11 .done))) .stop) .stop)))))))), by kernel_rfl, ?_⟩
  refine ⟨p, rfl, Nat.zero_le _, hpl, U, hU, ?_⟩
  refine ⟨p, rfl, hpl, Nat.le_refl _, V, hV, ?_⟩
  refine ⟨⟨rfl, trivial⟩, ?_⟩
  intro g3 _
  refine ⟨List.Mem.head _, ?_⟩
  have hcv : ∀ w', A [(0, ⟨g3, 5, [.val (.int .u8 b)]⟩)] [(w, fun _ => False)] w' → (convert 38 9 (.slice (some ⟨g3, 0, none⟩) 1 1)).run Tryd.prog w' = .ok (.string ⟨[bb].toArray⟩) w' := by
    intro w' hA
    have := run_convert_bytes_back (P := Tryd.prog) w' 38 9 5 ⟨g3, 0, none⟩ 1 [bb] Tryd.underlying38 Tryd.underlying5 Tryd.underlying9 (fun j hj => by
      have hj : j = 0 := by simp at hj; omega
      subst hj
      have hb := (hA.blk 0 _ rfl).cell 0
      rw [Addr.add_mid, Nat.zero_add]
      refine hb.trans ?_
      simp [SV.den, hbb])
    exact this
  refine ⟨.string ⟨[bb].toArray⟩, fun w' hA => hcv w' hA, List.Mem.head _, ?_⟩
  have hB1 : (⟨[bb].toArray⟩ : ByteArray).size = 1 := rfl
  generalize (⟨[bb].toArray⟩ : ByteArray) = B at hB1
  refine ⟨(by first | omega | (simp only [ByteArray.size_append]; omega)), ?_⟩
  refine ⟨(by first | omega | (simp only [ByteArray.size_append]; omega)), ?_⟩
  intro w1 hA
  refine (lines_c T (by omega) w1).mono ?_
  rintro e wL ⟨vL, rfl, hwL, hb⟩
  obtain ⟨aL, cL, rfl, hsl2⟩ := hwL
  have hbase : w.heap.size ≤ wL.heap.size := Nat.le_trans (hA.bel (w := w) (by simp)).size hb.size
  have hll : ∀ x ∈ linesOf T.data.toList, x.length ≤ T.size := by simpa using (lines_len T.data.toList).2
  have hnl : (linesOf T.data.toList).length ≤ T.size + 1 := by simpa using (lines_len T.data.toList).1
  have hne : (linesOf T.data.toList).length ≠ 0 := fun h => linesOf_ne _ (List.length_eq_zero_iff.1 h)
  clear hFd
  generalize linesOf T.data.toList = ls at *
  refine ⟨.val _, [], [(wL, fun _ => False), (w, fun _ => False)], rfl, ((hA.below' hb).sub (M' := []) trivial).remember _ (fun b hb => gs_nil b hb), ?_⟩
  clear hA hb
  intro w1 hA
  refine (place_c y ls.length w1 (by omega) (by omega)).mono ?_
  rintro e w2 ⟨rfl, hb⟩
  refine ⟨.val _, _, _, rfl, hA.below' hb, ?_⟩
  clear hA hb
  generalize y % (ls.length : Int) = jj
  obtain ⟨W, hW, hWs⟩ : ∃ W, U ++ B ++ V = W ∧ W.size ≤ 1000 := ⟨_, rfl, by simp only [ByteArray.size_append]; omega⟩
  refine ⟨Nat × ByteArray, fun x => [(55, .val (.int .i64 x.1)), (54, .val (.int .i64 ls.length)), (53, .val (.slice aL ls.length cL)), (17, .val (.string x.2)), (16, .val (.int .i64 jj)), (14, .val (.string W)), (13, .val (.int .i64 p)), (11, .val (.string T)), (4, .val (.int .u8 z))],
    fun _ => [], fun _ => [(wL, fun _ => False), (w, fun _ => False)], fun x => x.1 ≤ ls.length ∧ x.2.size ≤ x.1 * 2000, fun x => ls.length - x.1, ?_, ?_⟩
  · intro w1 hA
    exact ⟨(0, ⟨#[]⟩), ⟨by omega, by show 0 ≤ _; omega⟩, ⟨⟨_, rfl, rfl⟩, ⟨_, rfl, rfl⟩, ⟨_, rfl, rfl⟩, ⟨_, rfl, rfl⟩, ⟨_, rfl, rfl⟩, ⟨_, rfl, by rw [← hW]⟩, ⟨_, rfl, rfl⟩, ⟨_, rfl, rfl⟩, ⟨_, rfl, rfl⟩, trivial⟩, hA⟩
  rintro ⟨i, G⟩ ⟨hi, hG⟩
  replace hi : i ≤ ls.length := hi
  replace hG : G.size ≤ i * 2000 := hG
  refine ⟨fun h => ?_, fun h => ?_⟩
  · have hlt : i < ls.length := by have := of_decide_eq_true h; omega
    have hlt2 : i < (ls.map fun l => (⟨l.toArray⟩ : ByteArray)).length := by simpa using hlt
    obtain ⟨b', o, cs, rfl, hSb, hr, hat, _, _⟩ := hsl2.get 1 rfl (i := i) hlt2
    obtain ⟨hcs, _⟩ : cs = [.string ((ls.map fun l => (⟨l.toArray⟩ : ByteArray))[i])] ∧ _ := hr
    subst hcs
    have hx : (ls.map fun l => (⟨l.toArray⟩ : ByteArray))[i] = strB ls[i] := by simp [strB]
    rw [hx] at hat
    have hlx := hll ls[i] (List.getElem_mem hlt)
    obtain ⟨X, hX, hXs⟩ : ∃ X, strB ls[i] = X ∧ X.size ≤ 408 := ⟨_, rfl, by simp [strB, ByteArray.size]; omega⟩
    rw [hX] at hat
    refine ⟨b', o, i, rfl, rfl, hlt, ?_⟩
    refine ⟨.string X, fun w' hA => ldS seat.tab rfl rfl hat (j := 0) rfl (by omega) (hA.since (wL, _) (List.Mem.head _)) (fun h => h), ?_⟩
    have h10 : (⟨#[10]⟩ : ByteArray).size = 1 := rfl
    have h5 : (⟨#[32, 53, 10]⟩ : ByteArray).size = 3 := rfl
    by_cases hj : (i : Int) = jj
    · have hjb : ((i : Int) == jj) = true := by simp [hj]
      have hjb2 : ((i : Int) != jj) = false := by simp [hj]
      have hz3 : Int.tmod z 3 = 0 ∨ Int.tmod z 3 = 1 ∨ Int.tmod z 3 = 2 := by
        rw [Int.tmod_eq_emod_of_nonneg hz.1]; omega
      refine ⟨fun _ => ?_, fun h => absurd (hjb2.symm.trans h) (by decide)⟩
      rcases hz3 with hz3 | hz3 | hz3
      · refine ⟨by decide, 0, hz3, ?_⟩
        refine ⟨fun h => Bool.noConfusion h, fun _ => ?_⟩
        refine ⟨fun _ => ?_, fun h => absurd (hjb.symm.trans h) (by decide)⟩
        refine ⟨by decide, 0, hz3, ?_⟩
        refine ⟨fun h => Bool.noConfusion h, fun _ => ?_⟩
        refine ⟨fun _ => ?_, fun h => absurd (hjb.symm.trans h) (by decide)⟩
        refine ⟨by decide, 0, hz3, ?_⟩
        refine ⟨fun h => Bool.noConfusion h, fun _ => ?_⟩
        refine ⟨((i + 1 : Nat) : Int), wrap_in _ (by omega) (by omega), ?_⟩
        intro w' hA
        exact ⟨(i + 1, _), ⟨by show i + 1 ≤ _; omega, by first | (show _ ≤ (i + 1) * 2000; omega) | (show _ ≤ (i + 1) * 2000; simp only [ByteArray.size_append]; omega)⟩, by show ls.length - (i + 1) < ls.length - i; omega, ⟨⟨_, rfl, rfl⟩, ⟨_, rfl, rfl⟩, ⟨_, rfl, rfl⟩, ⟨_, rfl, rfl⟩, ⟨_, rfl, rfl⟩, ⟨_, rfl, rfl⟩, ⟨_, rfl, rfl⟩, ⟨_, rfl, rfl⟩, ⟨_, rfl, rfl⟩, trivial⟩, hA⟩
      · refine ⟨by decide, 1, hz3, ?_⟩
        refine ⟨fun _ => ?_, fun h => Bool.noConfusion h⟩
        refine ⟨(by first | omega | (simp only [ByteArray.size_append]; omega)), ?_⟩
        refine ⟨(by first | omega | (simp only [ByteArray.size_append]; omega)), ?_⟩
        refine ⟨fun _ => ?_, fun h => absurd (hjb.symm.trans h) (by decide)⟩
        refine ⟨by decide, 1, hz3, ?_⟩
        refine ⟨fun _ => ?_, fun h => Bool.noConfusion h⟩
        refine ⟨(by first | omega | (simp only [ByteArray.size_append]; omega)), ?_⟩
        refine ⟨fun _ => ?_, fun h => absurd (hjb.symm.trans h) (by decide)⟩
        refine ⟨by decide, 1, hz3, ?_⟩
        refine ⟨fun h => Bool.noConfusion h, fun _ => ?_⟩
        refine ⟨((i + 1 : Nat) : Int), wrap_in _ (by omega) (by omega), ?_⟩
        intro w' hA
        exact ⟨(i + 1, _), ⟨by show i + 1 ≤ _; omega, by first | (show _ ≤ (i + 1) * 2000; omega) | (show _ ≤ (i + 1) * 2000; simp only [ByteArray.size_append]; omega)⟩, by show ls.length - (i + 1) < ls.length - i; omega, ⟨⟨_, rfl, rfl⟩, ⟨_, rfl, rfl⟩, ⟨_, rfl, rfl⟩, ⟨_, rfl, rfl⟩, ⟨_, rfl, rfl⟩, ⟨_, rfl, rfl⟩, ⟨_, rfl, rfl⟩, ⟨_, rfl, rfl⟩, ⟨_, rfl, rfl⟩, trivial⟩, hA⟩
      · refine ⟨by decide, 2, hz3, ?_⟩
        refine ⟨fun h => Bool.noConfusion h, fun _ => ?_⟩
        refine ⟨fun _ => ?_, fun h => absurd (hjb.symm.trans h) (by decide)⟩
        refine ⟨by decide, 2, hz3, ?_⟩
        refine ⟨fun h => Bool.noConfusion h, fun _ => ?_⟩
        refine ⟨fun _ => ?_, fun h => absurd (hjb.symm.trans h) (by decide)⟩
        refine ⟨by decide, 2, hz3, ?_⟩
        refine ⟨fun _ => ?_, fun h => Bool.noConfusion h⟩
        refine ⟨(by first | omega | (simp only [ByteArray.size_append]; omega)), ?_⟩
        refine ⟨(by first | omega | (simp only [ByteArray.size_append]; omega)), ?_⟩
        refine ⟨((i + 1 : Nat) : Int), wrap_in _ (by omega) (by omega), ?_⟩
        intro w' hA
        exact ⟨(i + 1, _), ⟨by show i + 1 ≤ _; omega, by first | (show _ ≤ (i + 1) * 2000; omega) | (show _ ≤ (i + 1) * 2000; simp only [ByteArray.size_append]; omega)⟩, by show ls.length - (i + 1) < ls.length - i; omega, ⟨⟨_, rfl, rfl⟩, ⟨_, rfl, rfl⟩, ⟨_, rfl, rfl⟩, ⟨_, rfl, rfl⟩, ⟨_, rfl, rfl⟩, ⟨_, rfl, rfl⟩, ⟨_, rfl, rfl⟩, ⟨_, rfl, rfl⟩, ⟨_, rfl, rfl⟩, trivial⟩, hA⟩
    · have hjb : ((i : Int) == jj) = false := by simp [hj]
      have hjb2 : ((i : Int) != jj) = true := by simp [hj]
      refine ⟨fun h => absurd (hjb2.symm.trans h) (by decide), fun _ => ?_⟩
      refine ⟨fun _ => ?_, fun h => Bool.noConfusion h⟩
      refine ⟨(by first | omega | (simp only [ByteArray.size_append]; omega)), ?_⟩
      refine ⟨(by first | omega | (simp only [ByteArray.size_append]; omega)), ?_⟩
      refine ⟨fun h => absurd (hjb.symm.trans h) (by decide), fun _ => ?_⟩
      refine ⟨fun h => Bool.noConfusion h, fun _ => ?_⟩
      refine ⟨fun h => absurd (hjb.symm.trans h) (by decide), fun _ => ?_⟩
      refine ⟨fun h => Bool.noConfusion h, fun _ => ?_⟩
      refine ⟨((i + 1 : Nat) : Int), wrap_in _ (by omega) (by omega), ?_⟩
      intro w' hA
      exact ⟨(i + 1, _), ⟨by show i + 1 ≤ _; omega, by first | (show _ ≤ (i + 1) * 2000; omega) | (show _ ≤ (i + 1) * 2000; simp only [ByteArray.size_append]; omega)⟩, by show ls.length - (i + 1) < ls.length - i; omega, ⟨⟨_, rfl, rfl⟩, ⟨_, rfl, rfl⟩, ⟨_, rfl, rfl⟩, ⟨_, rfl, rfl⟩, ⟨_, rfl, rfl⟩, ⟨_, rfl, rfl⟩, ⟨_, rfl, rfl⟩, ⟨_, rfl, rfl⟩, ⟨_, rfl, rfl⟩, trivial⟩, hA⟩
  · have e : i = ls.length := by have := of_decide_eq_false h; omega
    intro w1 hA
    refine (parses_c _ (by first | omega | (simp only [ByteArray.size_append]; omega)) w1 (fun w' hb => hlib w' ((hA.below' hb).bel (by simp)))).mono ?_
    rintro e w2 ⟨rfl, hb⟩
    refine ⟨.val _, _, _, rfl, hA.below' hb, ?_⟩
    clear hA hb
    refine ⟨fun _ => ?_, fun h => Bool.noConfusion h⟩
    refine ⟨p, rfl, Nat.zero_le _, hpl, U, hU, ?_⟩
    intro w1 hA
    refine (parses_c _ (by first | omega | (simp only [ByteArray.size_append]; omega)) w1 (fun w' hb => hlib w' ((hA.below' hb).bel (by simp)))).mono ?_
    rintro e w2 ⟨rfl, hb⟩
    refine ⟨.val _, _, _, rfl, hA.below' hb, ?_⟩
    clear hA hb
    refine ⟨fun _ => ?_, fun h => Bool.noConfusion h⟩
    intro w1 hA
    refine (parses_c _ (by first | omega | (simp only [ByteArray.size_append]; omega)) w1 (fun w' hb => hlib w' ((hA.below' hb).bel (by simp)))).mono ?_
    rintro e w2 ⟨rfl, hb⟩
    refine ⟨.val _, _, _, rfl, hA.below' hb, ?_⟩
    clear hA hb
    refine ⟨fun _ => ?_, fun h => Bool.noConfusion h⟩
    intro w1 hA
    refine (known_c w1 (fun w' hb => hlib w' ((hA.below' hb).bel (by simp)))).mono ?_
    rintro e w2 ⟨rfl, hb⟩
    refine ⟨.val _, _, _, rfl, hA.below' hb, ?_⟩
    clear hA hb
    intro w' hA
    exact ⟨rfl, hA.bel (by simp)⟩
end Go.Proofs.YtllepnadffndnaaDoor
