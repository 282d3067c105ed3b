/- ConfigFormats: the walk. -/
import Derived.Test.YtllepnadffndnaaDoorLawC
import Derived.Test.YtllepnadffndnaaDoorPRead
namespace Go.Proofs.YtllepnadffndnaaDoor
open Go.RowKit

theorem ldkN {P : Program} {T : Tab} {M : Mem} {H : Hist} {w : World} (hT : TabOK P T) {t : TypeId} {d : TD} (hd : Tab.find T t = some d) (ha : d.agg = true) {i b p : Nat} {kb : KB} {l : List Value} (hi : M.find i = some kb) (hg : kb.g = b) (hl : l.length = d.size) (hv : (kb.cs.drop p).take l.length = l.map SV.val) (hA : A M H w) :
    (loadVar t ⟨b, p, none⟩).run P w = .ok (.agg ⟨l⟩) w := by
  subst hg
  refine ldn hT hd ha hl ?_ (Below.refl _ w)
  intro j v hj
  rw [(hA.blk i kb hi).cell]
  have hjl : j < l.length := (List.getElem?_eq_some_iff.1 hj).1
  have h1 : ((kb.cs.drop p).take l.length)[j]? = some (.val v) := by rw [hv]; simp [hj]
  rw [List.getElem?_take, if_pos hjl, List.getElem?_drop] at h1
  simp [h1, SV.den]
def cfg3 (a b c : MConfig) : List SV := cfgS a ++ (cfgS b ++ cfgS c)
theorem cfgV_len (c : MConfig) : (cfgV c).length = 12 := by cases c; rfl
theorem cfgS_map (c : MConfig) : cfgS c = (cfgV c).map SV.val := by cases c; rfl
theorem cfg3_at {a b c : MConfig} (ha : CfgOK a) (hb : CfgOK b) (hc : CfgOK c) {i : Nat} (h : i < 3) : ∃ x, CfgOK x ∧ ((cfg3 a b c).drop (0 + i * 12)).take (cfgV x).length = (cfgV x).map SV.val := by
  have h3 : i = 0 ∨ i = 1 ∨ i = 2 := by omega
  cases a; cases b; cases c
  rcases h3 with rfl | rfl | rfl
  · exact ⟨_, ha, rfl⟩
  · exact ⟨_, hb, rfl⟩
  · exact ⟨_, hc, rfl⟩
theorem validC_01 (c : MConfig) : validC c = 0 ∨ validC c = 1 := by unfold validC; split <;> simp
set_option maxRecDepth 100000 in
set_option maxHeartbeats 4000000 in
theorem configFormats_core (raw : MConfig) (hraw : CfgOK raw) (a : Option Addr) (cap : Nat) (xs : List Int) (fd : Int) (_ : (Lit.int .i64 fd).wf = true) (n : Int) (hn : (Lit.int .i64 n).wf = true) (w : World) (hsl : Sl (Rp.int .i64) w (Lt w.heap.size) a xs) (hlib : ∀ w', Below w.heap.size w w' → LibOK w') :
    Calls Tryd.prog 4 #[.agg ⟨cfgV raw⟩, .slice a xs.length cap, .int .i64 fd, .int .i64 n] w fun e w' => e = .returned (.bool true) ∧ Below w.heap.size w w' := by
  have hn : In64 n := by
    simp [Lit.wf, IntKind.min, IntKind.max, IntKind.bits, IntKind.signed] at hn
    unfold In64
    omega
  obtain ⟨c0, c1, c2, c3, c4, c5, c6, c7, c8, c9, c10, c11⟩ := raw
  refine calls_of_vc seat Tryd.func4 rfl rfl (Nat.le_of_ble_eq_true rfl) (N := 77) (args := [.val (.agg ⟨cfgV ⟨c0, c1, c2, c3, c4, c5, c6, c7, c8, c9, c10, c11⟩⟩), .val (.slice a xs.length cap), .val (.int .i64 fd), .val (.int .i64 n)]) (Nat.le_of_ble_eq_true rfl) rfl (A.start w) ?_
  intro g0 _
  refine ⟨⟨rfl, trivial⟩, ?_⟩
  intro g1 _
  intro w1 hA
  refine (long_c g1 [(a, xs.length, cap)] 1 (by simp) (by intro x hx; simp at hx; subst hx; exact hsl.1) w1 (hA.blk 1 _ rfl)).mono ?_
  rintro e w2 ⟨rfl, hb⟩
  refine ⟨.val _, _, _, rfl, hA.below' hb, ?_⟩
  clear hA hb
  refine ⟨fun _ => ?_, fun _ => ?_⟩
  · skip
    intro w1 hA
    refine (known_c w1 (fun w' hb => hlib w' ((hA.below' hb).bel (by simp)))).mono ?_
    rintro e w2 ⟨rfl, hb⟩
    refine ⟨.val _, _, _, rfl, hA.below' hb, ?_⟩
    clear hA hb
    intro w' hA
    exact ⟨rfl, hA.bel (by simp)⟩
  intro w1 hA
  refine (changed_c a cap xs fd n hn w1 (hsl.grow (hA.bel (by simp)))).mono ?_
  rintro e w2 ⟨⟨d0, d1, d2, d3, d4, d5, d6, d7, d8, d9, d10, d11⟩, hok, rfl, hb⟩
  refine ⟨.val _, _, _, rfl, hA.below' hb, ?_⟩
  clear hA hb
  intro g2 _
  refine ⟨rfl, rfl, rfl, rfl, ?_⟩
  refine ⟨_, [(2, ⟨g2, 24, cfgS ⟨d0, d1, d2, d3, d4, d5, d6, d7, d8, d9, d10, d11⟩⟩), (0, ⟨g0, 24, cfgS ⟨c0, c1, c2, c3, c4, c5, c6, c7, c8, c9, c10, c11⟩⟩)], [(w, fun _ => False)], [], .inr rfl, .inl ⟨rfl, rfl, trivial⟩, fun _ h => h, (.take 0 (.take 1 (.take 2 (.take 3 (.take 7 (.alt 4 (.alt 5 (.take 6 .done) .stop) .stop)))))), by kernel_rfl, ?_⟩
  refine ⟨rfl, rfl, ?_⟩
  refine ⟨rfl, rfl, ?_⟩
  intro w1 hA
  refine (changed_c a cap xs 10 n hn w1 (hsl.grow (hA.bel (by simp)))).mono ?_
  rintro e w2 ⟨⟨e0, e1, e2, e3, e4, e5, e6, e7, e8, e9, e10, e11⟩, hok2, rfl, hb⟩
  refine ⟨.val _, _, _, rfl, hA.below' hb, rfl, rfl, List.Mem.head _, ?_⟩
  clear hA hb
  refine ⟨⟨rfl, rfl, rfl, trivial⟩, ?_⟩
  intro g3 _
  refine ⟨rfl, rfl, List.Mem.head _, ?_⟩
  refine ⟨Nat, fun i => [(34, .val (.int .i64 i)), (33, .val (.int .i64 (3 : Nat))), (32, .val (.slice (some ⟨g3, 0, none⟩) 3 3))],
    fun _ => [(3, ⟨g3, 24, cfg3 ⟨c0, c1, c2, c3, c4, c5, c6, c7, c8, c9, c10, c11⟩ ⟨d0, d1, d2, d3, d4, d5, d6, d7, d8, d9, d10, d11⟩ ⟨e0, e1, e2, e3, e4, e5, e6, e7, e8, e9, e10, e11⟩⟩)], fun _ => [(w, fun _ => False)], fun i => i ≤ 3, fun i => 3 - i, ?_, ?_⟩
  · intro w1 hA
    exact ⟨0, by omega, ⟨⟨_, rfl, rfl⟩, ⟨_, rfl, rfl⟩, ⟨_, rfl, rfl⟩, trivial⟩, hA.sub ⟨rfl, trivial⟩⟩
  intro i hi
  refine ⟨fun h => ?_, fun h => ?_⟩
  · have hlt : i < 3 := by have := of_decide_eq_true h; omega
    obtain ⟨⟨x0, x1, x2, x3, x4, x5, x6, x7, x8, x9, x10, x11⟩, hx, hnx⟩ := cfg3_at hraw hok hok2 hlt
    have hpf := parse_form hx
    have hcf := cformat_c ⟨x0, x1, x2, x3, x4, x5, x6, x7, x8, x9, x10, x11⟩ hx
    have hrf := rformat_c ⟨x0, x1, x2, x3, x4, x5, x6, x7, x8, x9, x10, x11⟩ hx
    have hv01 := validC_01 ⟨x0, x1, x2, x3, x4, x5, x6, x7, x8, x9, x10, x11⟩
    generalize formT ⟨x0, x1, x2, x3, x4, x5, x6, x7, x8, x9, x10, x11⟩ = F at hpf hcf hrf
    generalize validC ⟨x0, x1, x2, x3, x4, x5, x6, x7, x8, x9, x10, x11⟩ = vc at hpf hcf hrf hv01
    refine ⟨_, _, i, rfl, rfl, hlt, ?_⟩
    refine ⟨_, fun w' hA => ldkN seat.tab rfl rfl (i := 3) (l := cfgV ⟨x0, x1, x2, x3, x4, x5, x6, x7, x8, x9, x10, x11⟩) rfl rfl rfl hnx hA, ?_⟩
    intro g4 _
    refine ⟨rfl, rfl, rfl, rfl, ?_⟩
    refine ⟨rfl, rfl, ?_⟩
    intro w1 hA
    refine (hcf w1 (hlib w1 (hA.bel (by simp))).pow10).mono ?_
    rintro e w2 ⟨rfl, hb⟩
    refine ⟨.val _, _, _, rfl, hA.below' hb, ?_⟩
    clear hA hb
    refine ⟨_, rfl, _, rfl, ?_⟩
    refine ⟨rfl, rfl, ?_⟩
    intro w1 hA
    refine (hrf w1).mono ?_
    rintro e w2 ⟨rfl, hb⟩
    refine ⟨.val _, _, _, rfl, hA.below' hb, ?_⟩
    clear hA hb
    refine ⟨_, rfl, _, rfl, ?_⟩
    refine ⟨fun _ => ?_, fun h => absurd h (by simp)⟩
    refine ⟨fun h => absurd h (by simp), fun _ => ?_⟩
    refine ⟨fun h => ?_, fun h => ?_⟩
    · have hv0 : vc = 0 := by simpa using h
      subst hv0
      have hpf := hpf rfl
      intro w1 hA
      refine (pparse_c ⟨F.toArray⟩ w1 (fun w' hb => hlib w' ((hA.below' hb).bel (by simp)))).mono ?_
      rintro e w2 ⟨rfl, hb⟩
      rw [show (⟨F.toArray⟩ : ByteArray).data.toList = F by simp, hpf]
      refine ⟨.val _, _, _, rfl, hA.below' hb, ?_⟩
      clear hA hb
      refine ⟨_, rfl, _, rfl, _, rfl, ?_⟩
      intro g5 _
      refine ⟨rfl, rfl, rfl, rfl, ?_⟩
      refine ⟨fun _ => ?_, fun h => Bool.noConfusion h⟩
      refine ⟨fun _ => ?_, fun h => Bool.noConfusion h⟩
      refine ⟨rfl, rfl, ?_⟩
      refine ⟨rfl, rfl, ?_⟩
      refine ⟨.bool false, fun w' _ => cfg_same' ⟨x0, x1, x2, x3, x4, x5, x6, x7, x8, x9, x10, x11⟩ _ _ w', ?_⟩
      refine ⟨fun h => Bool.noConfusion h, fun _ => ?_⟩
      refine ⟨((i + 1 : Nat) : Int), wrap_in _ (by omega) (by omega), ?_⟩
      intro w' hA
      exact ⟨i + 1, by omega, by show 3 - (i + 1) < 3 - i; omega, ⟨⟨_, rfl, rfl⟩, ⟨_, rfl, rfl⟩, ⟨_, rfl, rfl⟩, trivial⟩, hA.sub ⟨rfl, trivial⟩⟩
    · refine ⟨((i + 1 : Nat) : Int), wrap_in _ (by omega) (by omega), ?_⟩
      intro w' hA
      exact ⟨i + 1, by omega, by show 3 - (i + 1) < 3 - i; omega, ⟨⟨_, rfl, rfl⟩, ⟨_, rfl, rfl⟩, ⟨_, rfl, rfl⟩, trivial⟩, hA.sub ⟨rfl, trivial⟩⟩
  · skip
    intro w1 hA
    refine (known_c w1 (fun w' hb => hlib w' ((hA.below' hb).bel (by simp)))).mono ?_
    rintro e w2 ⟨rfl, hb⟩
    refine ⟨.val _, _, _, rfl, hA.below' hb, ?_⟩
    clear hA hb
    intro w' hA
    exact ⟨rfl, hA.bel (by simp)⟩
end Go.Proofs.YtllepnadffndnaaDoor
