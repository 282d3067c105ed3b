/- ConfigLimits: the plain law and the walk. -/
import Derived.Test.YtllepnadffndnaaDoorLawB
import Derived.Test.YtllepnadffndnaaDoorMake
import Derived.Laws.IdiomStrings
namespace Go.Proofs.YtllepnadffndnaaDoor
open Go.RowKit

theorem lines_nl : ∀ m : Nat, linesOf (List.replicate m 10) = List.replicate (m + 1) []
  | 0 => rfl
  | m + 1 => by
    rw [List.replicate_succ, linesOf, if_pos rfl, lines_nl m]; rfl
theorem valid_nl (m : Nat) : validS (List.replicate m 10) = true := by
  rw [← valid_eq _ _ (Nat.le_refl _), Lib.validD_ascii m _ (fun b hb => by
    have := List.eq_of_mem_replicate (List.mem_of_mem_take hb)
    subst this; decide)]
  rw [List.drop_of_length_le (by simp)]; rfl
theorem go_nl {c : MConfig} (hc : ¬ c.self ≥ c.nodes) : ∀ (k i : Nat) (seen : List Nat), goSpec (List.replicate k []) i c seen = (c, 0, 0)
  | 0, i, seen => by
    show (if c.self ≥ c.nodes then _ else _) = _
    rw [if_neg hc]
  | k + 1, i, seen => by
    rw [List.replicate_succ, goSpec, if_pos (by decide +kernel)]
    exact go_nl hc k (i + 1) seen
theorem parse_nl {m : Nat} (h : m ≤ 4096) : parseSpec (List.replicate m 10) = (defC, 0, 0) := by
  rw [parse_go (by simp; omega) (valid_nl m), lines_nl]
  exact go_nl (by decide) _ _ _
theorem parse_nl_long {m : Nat} (h : 4096 < m) : parseSpec (List.replicate m 10) = (zeroC, 0, 3) := parse_long (by simp; omega)
theorem repS_zero : ∀ m : Nat, repS m [.val (.int .u8 0)] = intsS .u8 (List.replicate m 0)
  | 0 => rfl
  | m + 1 => by
    show .val (.int .u8 0) :: repS m _ = _
    rw [repS_zero m]; rfl
def nlTo (m i : Nat) : List Int := List.replicate i 10 ++ List.replicate (m - i) 0
theorem nlTo_len {m i : Nat} (h : i ≤ m) : (nlTo m i).length = m := by simp [nlTo]; omega
theorem nlTo_set {m i : Nat} (h : i < m) : (nlTo m i).set i 10 = nlTo m (i + 1) := by
  unfold nlTo
  rw [List.set_append_right (h := by simp)]
  obtain ⟨k, hk⟩ : ∃ k, m - i = k + 1 := ⟨m - i - 1, by omega⟩
  have hk' : m - (i + 1) = k := by omega
  rw [hk, hk', List.replicate_succ, List.length_replicate, Nat.sub_self, List.set_cons_zero, List.replicate_succ', List.append_assoc]
  rfl
set_option maxRecDepth 100000 in
set_option maxHeartbeats 2000000 in
theorem configLimits_core (n : Int) (_ : (Lit.int .i64 n).wf = true) (w : World) (hlib : ∀ w', Below w.heap.size w w' → LibOK w') :
    Calls Tryd.prog 9 #[.int .i64 n] w fun e w' => e = .returned (.bool true) ∧ Below w.heap.size w w' := by
  refine calls_of_vc seat Tryd.func9 rfl rfl (Nat.le_of_ble_eq_true rfl) (N := 59) (args := [.val (.int .i64 n)]) (Nat.le_of_ble_eq_true rfl) rfl (A.start w) ?_
  intro w1 hA
  refine (place_c n 3 w1 (by decide) (by decide)).mono ?_
  rintro e w2 ⟨rfl, hb⟩
  refine ⟨.val _, _, _, rfl, hA.below' hb, ?_⟩
  clear hA hb
  obtain ⟨m, hm, hm1, hm2⟩ : ∃ m : Nat, 4095 + n % 3 = m ∧ 4095 ≤ m ∧ m ≤ 4097 := ⟨(4095 + n % 3).toNat, by omega, by omega, by omega⟩
  refine ⟨(m : Int), by rw [hm]; exact wrap_in _ (by omega) (by omega), ?_⟩
  refine ⟨m, 1, rfl, rfl, by omega, rfl, by omega, ?_⟩
  intro g hg
  refine ⟨Nat, fun i => [(14, .val (.int .i64 i)), (13, .val (.int .i64 m)), (3, .val (.slice (some ⟨g, 0, none⟩) m m))], fun i => [(0, ⟨g, 5, intsS .u8 (nlTo m i)⟩)], fun _ => [(w, fun _ => False)], fun i => i ≤ m, fun i => m - i, ?_, ?_⟩
  · intro w1 hA
    exact ⟨0, by omega, ⟨⟨_, rfl, rfl⟩, ⟨_, rfl, rfl⟩, ⟨_, rfl, rfl⟩, trivial⟩, hA.sub ⟨by rw [show nlTo m 0 = List.replicate m 0 by simp [nlTo], ← repS_zero]; rfl, trivial⟩⟩
  intro i hi
  refine ⟨fun h => ?_, fun h => ?_⟩
  · have hlt : i < m := by have := of_decide_eq_true h; omega
    refine ⟨_, _, i, rfl, rfl, hlt, ?_⟩
    refine ⟨0, _, rfl, rfl, intsS .u8 (nlTo m (i + 1)), ?_, rfl, ?_⟩
    · have := setN_at (k := .u8) (l := nlTo m i) (i := 0 + i * 1) (j := i) 10 (by omega) (by rw [nlTo_len hi]; exact hlt)
      rw [nlTo_set hlt] at this
      exact this
    refine ⟨((i + 1 : Nat) : Int), wrap_in _ (by omega) (by omega), ?_⟩
    intro w' hA
    exact ⟨i + 1, by omega, by show m - (i + 1) < m - i; omega, ⟨⟨_, rfl, rfl⟩, ⟨_, rfl, rfl⟩, ⟨_, rfl, rfl⟩, trivial⟩, hA⟩
  · have e : i = m := by have := of_decide_eq_false h; omega
    subst e
    have hnl : nlTo i i = List.replicate i 10 := by simp [nlTo]
    refine ⟨.string ⟨(List.replicate i 10).toArray⟩, fun w' hA => ?_, ?_⟩
    · have := run_convert_bytes_back (P := Tryd.prog) w' 38 9 5 ⟨g, 0, none⟩ i (List.replicate i 10) Tryd.underlying38 Tryd.underlying5 Tryd.underlying9 (fun j hj => by
        have hj : j < i := by simpa using hj
        have hb := (hA.blk 0 _ rfl).cell j
        rw [Addr.add_mid, Nat.zero_add]
        refine hb.trans ?_
        rw [hnl]
        simp [intsS, hj, SV.den])
      rw [List.length_replicate] at this
      exact this
    have hp := pparse_c ⟨(List.replicate i 10).toArray⟩
    rw [show (⟨(List.replicate i 10).toArray⟩ : ByteArray).data.toList = List.replicate i 10 by simp] at hp
    by_cases hlen : i ≤ 4096
    · rw [parse_nl hlen] at hp
      intro w1 hA
      refine (hp w1 (fun w' hb => hlib w' ((hA.below' hb).bel (by simp)))).mono ?_
      rintro e w2 ⟨rfl, hb⟩
      refine ⟨.val _, _, _, rfl, hA.below' hb, ?_⟩
      clear hA hb
      refine ⟨_, rfl, _, rfl, _, rfl, ?_⟩
      intro g1 _
      refine ⟨rfl, rfl, rfl, rfl, ?_⟩
      refine ⟨fun h => absurd (of_decide_eq_true h) (by omega), fun _ => ?_⟩
      refine ⟨_, [(1, ⟨g1, 24, cfgS defC⟩)], [(w, fun _ => False)], [], .inr rfl, .inl ⟨rfl, trivial⟩, fun _ h => h, (.take 0 (.take 1 (.take 2 (.take 3 (.take 4 (.take 5 (.take 6 (.take 7 (.alt 8 (.alt 9 (.take 10 (.take 11 (.alt 12 (.take 13 (.take 14 .done)) .stop))) .stop) .stop))))))))), by kernel_rfl, ?_⟩
      refine ⟨fun _ => ?_, fun h => Bool.noConfusion h⟩
      refine ⟨fun _ => ?_, fun h => Bool.noConfusion h⟩
      refine ⟨rfl, rfl, ?_⟩
      intro w1 hA
      refine (default_c w1).mono ?_
      rintro e w2 ⟨rfl, hb⟩
      refine ⟨.val _, _, _, rfl, hA.below' hb, rfl, List.Mem.head _, ?_⟩
      clear hA hb
      refine ⟨.bool true, fun w' _ => cfg_same defC _ _ w', rfl, List.Mem.head _, ?_⟩
      refine ⟨fun _ => ?_, fun h => Bool.noConfusion h⟩
      intro w1 hA
      refine (known_c w1 (fun w' hb => hlib w' ((hA.below' hb).bel (by simp)))).mono ?_
      rintro e w2 ⟨rfl, hb⟩
      refine ⟨.val _, _, _, rfl, hA.below' hb, rfl, List.Mem.head _, ?_⟩
      clear hA hb
      intro w' hA
      exact ⟨rfl, hA.bel (by simp)⟩
    · rw [parse_nl_long (by omega)] at hp
      intro w1 hA
      refine (hp w1 (fun w' hb => hlib w' ((hA.below' hb).bel (by simp)))).mono ?_
      rintro e w2 ⟨rfl, hb⟩
      refine ⟨.val _, _, _, rfl, hA.below' hb, ?_⟩
      clear hA hb
      refine ⟨_, rfl, _, rfl, _, rfl, ?_⟩
      intro g1 _
      refine ⟨rfl, rfl, rfl, rfl, ?_⟩
      refine ⟨fun _ => ?_, fun h => absurd (of_decide_eq_false h) (by omega)⟩
      refine ⟨fun _ => ?_, fun h => Bool.noConfusion h⟩
      refine ⟨fun _ => ?_, fun h => Bool.noConfusion h⟩
      refine ⟨rfl, rfl, ?_⟩
      refine ⟨trivial, ?_⟩
      refine ⟨.bool true, fun w' _ => cfg_same zeroC _ _ w', ?_⟩
      refine ⟨fun _ => ?_, fun h => Bool.noConfusion h⟩
      intro w1 hA
      refine (known_c w1 (fun w' hb => hlib w' ((hA.below' hb).bel (by simp)))).mono ?_
      rintro e w2 ⟨rfl, hb⟩
      refine ⟨.val _, _, _, rfl, hA.below' hb, ?_⟩
      clear hA hb
      intro w' hA
      exact ⟨rfl, hA.bel (by simp)⟩
end Go.Proofs.YtllepnadffndnaaDoor
