/- The law ReportTallies, walked. -/
import Derived.Test.YtepdhipcepmpiaaDoorRepE
namespace Go.Proofs.YtepdhipcepmpiaaDoor
open Go.RowKit

def kindOps (ks : List Int) : List MOp := ks.map fun x => ⟨x % 11, 0, 0, 0, []⟩
def kindCells (ks : List Int) : List Value := (ks.map fun x => opCells (x % 11)).flatten
theorem kind_rows (w : World) (S : Fp) : ∀ (ks : List Int), SlL Rp.op w S (kindCells ks) (kindOps ks)
  | [] => rfl
  | x :: ks => ⟨opCells (x % 11), kindCells ks, rfl, op_zero w S (x % 11) (by
      have h1 := Int.emod_nonneg x (show (11 : Int) ≠ 0 by decide)
      have h2 := Int.emod_lt_of_pos x (show (0 : Int) < 11 by decide)
      simp [Lit.wf, IntKind.min, IntKind.max, IntKind.bits, IntKind.signed]
      omega), kind_rows w S ks⟩
theorem eqFields_same (w : World) (d : Nat) (xs : Array Value) : ∀ (fs : List Field), (∀ f ∈ fs, f.type = 3 ∧ ∃ n, xs[f.offset]? = some (.int .i64 n)) → (Op.eqFields (d + 1) xs xs fs).run Tryd.prog w = .ok true w
  | [], _ => by simp [Op.eqFields]
  | f :: fs, h => by
    obtain ⟨ht, n, hn⟩ := h f List.mem_cons_self
    have ih := eqFields_same w d xs fs (fun g hg => h g (List.mem_cons_of_mem _ hg))
    have hp : (part f.type xs f.offset).run Tryd.prog w = .ok (.int .i64 n) w := by
      have ha := TD.fits_agg (seat.tab.fits (t := 3) rfl) w
      simp only [part, ht, Sem.run_bind, ha]
      simp [hn, TD.agg]
    have he : (Op.equalIn (d + 1) f.type (.int .i64 n) (.int .i64 n)).run Tryd.prog w = .ok true w := by
      rw [ht, run_equalIn_int w d _ _ _ _ _ Tryd.underlying3]
      simp
    simp only [Op.eqFields]
    split
    · simp [hp, he, ih]
    · exact ih
theorem run_eq_cnt (w : World) (x y : Operand) (a : MCounts) : (do eqGuard .eql 29 x y (.agg (cntV a)) (.agg (cntV a)); binOp .eql 29 (.agg (cntV a)) (.agg (cntV a)) : Sem Value).run Tryd.prog w = .ok (.bool true) w := by
  have hg := run_eqGuard_agg (P := Tryd.prog) w .eql 29 x y (cntV a) (cntV a) (by kernel_rfl)
  have hS : Tryd.prog.underlying 29 = some (.struct (Tryd.prog.fieldsOf 29)) := by kernel_rfl
  have hp : Tryd.prog.stoodInHeld 29 = false := by kernel_rfl
  have hall : ((Tryd.prog.fieldsOf 29).toList.all fun f => Nat.beq f.type 3 && Nat.blt f.offset 9) = true := by kernel_rfl
  rw [Sem.run_bind, hg, Result.andThen_ok, run_eql_struct, show (10000 : Nat) = 9999 + 1 from rfl, run_equalIn_agg w 9999 _ _ _ hS hp, show (9999 : Nat) = 9998 + 1 from rfl, eqFields_same w 9998]
  · rfl
  · intro f hf
    have := List.all_eq_true.1 hall f hf
    simp only [Bool.and_eq_true] at this
    refine ⟨Nat.eq_of_beq_eq_true this.1, ?_⟩
    have hlt : f.offset < 9 := by simpa [Nat.blt_eq] using this.2
    exact nine (p := fun k => ∃ n, (cntV a)[k]? = some (.int .i64 n)) hlt ⟨_, rfl⟩ ⟨_, rfl⟩ ⟨_, rfl⟩ ⟨_, rfl⟩ ⟨_, rfl⟩ ⟨_, rfl⟩ ⟨_, rfl⟩ ⟨_, rfl⟩ ⟨_, rfl⟩

theorem reportTallies_core (A0 : Option Addr) (c0 : Nat) (os : List MOp) {w : World} (h0 : Sl Rp.op w (Lt w.heap.size) A0 os) (A1 : Option Addr) (c1 : Nat) (rs : List MReply) (h1 : Sl Rp.reply w (Lt w.heap.size) A1 rs) (p : Int) (_ : (Lit.int .i64 p).wf = true)
    (A3 : Option Addr) (c3 : Nat) (ks : List Int) (h3 : Sl (Rp.int .u8) w (Lt w.heap.size) A3 ks) (htab : Lib.TabIs Tryd.prog w "internal/strconv.uint64pow10" .u64 Lib.pow10Tab) :
    Calls Tryd.prog 3 #[.slice A0 os.length c0, .slice A1 rs.length c1, .int .i64 p, .slice A3 ks.length c3] w fun e w' => e = .returned (.bool true) ∧ Below w.heap.size w w' := by
  have htabB := Lib.tabBelow_of_tabIs htab
  have l0 := h0.1
  have l1 := h1.1
  have l3 := h3.1
  refine calls_of_vc seat Tryd.func3 rfl rfl (Nat.le_of_ble_eq_true rfl) (N := 59) (args := [.val (.slice A0 os.length c0), .val (.slice A1 rs.length c1), .val (.int .i64 p), .val (.slice A3 ks.length c3)]) (Nat.le_of_ble_eq_true rfl) rfl (A.start w) ?_
  refine ⟨((os.length + rs.length : Nat) : Int), by rw [wrap_in _ (by omega) (by omega)]; omega, ((os.length + rs.length + ks.length : Nat) : Int), by rw [wrap_in _ (by omega) (by omega)]; omega, ?_⟩
  refine ⟨fun _ => ?_, fun hs => ?_⟩
  · intro w1 hA
    refine (known_c w1 (htabB _ (hA.bel (by simp)))).mono ?_
    rintro e w2 ⟨rfl, hb⟩
    refine ⟨.val _, _, _, rfl, hA.below' hb, ?_⟩
    intro w' hA
    exact ⟨rfl, hA.bel (by simp)⟩
  have hs : ¬ (60 : Int) < ((os.length + rs.length + ks.length : Nat) : Int) := by simpa using hs
  refine ⟨Nat × Value × World, fun x => [(24, .val (.int .i64 x.1)), (23, .val (.int .i64 ks.length)), (22, .val (.slice A3 ks.length c3)), (9, .val x.2.1), (0, .val (.slice A0 os.length c0)), (1, .val (.slice A1 rs.length c1)), (2, .val (.int .i64 p))],
    fun _ => [], fun x => [(x.2.2, Mem.gs []), (w, fun _ => False)], fun x => x.1 ≤ ks.length ∧ x.2.2.ownsRow w.heap.size 27 5 x.2.1 x.1 (kindCells (ks.take x.1)) ∧ w.heap.size ≤ x.2.2.heap.size, fun x => ks.length - x.1, ?_, ?_⟩
  · intro w1 hA
    exact ⟨(0, .slice none 0 0, w1), ⟨by simp, World.ownsRow_nil _ _ _ _, (hA.bel (by simp)).size⟩, ⟨⟨_, rfl, rfl⟩, ⟨_, rfl, rfl⟩, ⟨_, rfl, rfl⟩, ⟨_, rfl, rfl⟩, ⟨_, rfl, rfl⟩, ⟨_, rfl, rfl⟩, ⟨_, rfl, rfl⟩, trivial⟩, hA.now⟩
  rintro ⟨k, v, wk⟩ ⟨hk, hown, hsz⟩
  have hk : k ≤ ks.length := hk
  have hown : wk.ownsRow w.heap.size 27 5 v k (kindCells (ks.take k)) := hown
  have hsz : w.heap.size ≤ wk.heap.size := hsz
  refine ⟨fun h => ?_, fun h => ?_⟩
  · have hk3 : k < ks.length := by have : (k : Int) < ks.length := by simpa using h
                                   omega
    obtain ⟨b, o, cs, rfl, _, hr, hat, _, _⟩ := h3.get 1 rfl hk3
    have hwf : 0 ≤ ks[k] ∧ ks[k] < 256 := by
      have := hr.2
      simp [Lit.wf, IntKind.min, IntKind.max, IntKind.bits, IntKind.signed] at this
      omega
    have hc : cs = [.int .u8 ks[k]] := hr.1
    subst hc
    have hkk : IntKind.i64.wrap ((k : Int) + 1) = ((k + 1 : Nat) : Int) := by rw [wrap_in _ (by omega) (by omega)]; rfl
    refine ⟨b, o, k, rfl, rfl, hk3, ?_⟩
    refine ⟨.int .u8 ks[k], fun w' hA => ld1 seat.tab rfl rfl hat (j := 0) rfl (by omega) (hA.bel (by simp)), ?_⟩
    refine ⟨by decide, ks[k] % 11, by rw [Int.tmod_eq_emod_of_nonneg hwf.1], ks[k] % 11, wrap_in _ (by omega) (by omega), ?_⟩
    refine ⟨⟨rfl, trivial⟩, ⟨rfl, trivial⟩, ?_⟩
    intro g _
    refine append_mem seat (M' := []) (es := 5) (n := k) (m := 1) (base := w.heap.size) (a := ⟨g, 0, none⟩) trivial (by_ := 56) rfl (by kernel_rfl) rfl rfl (by decide) (List.Mem.head _) hown (fun _ _ h => by obtain ⟨_, _, h, _⟩ := h; cases h) (H' := [(w, fun _ => False)]) (fun p hp => by simp at hp; subst hp; exact ⟨by simp, Nat.le_refl _⟩) hsz (news := opCells (ks[k] % 11)) rfl (fun w' hA j u hj => ?_) (fun u hu => ?_) (by unfold maxLen; omega) (by omega) ?_
    · rw [Addr.add_mid]
      exact (hA.blk 0 _ rfl).range j u hj
    · simp [opCells] at hu
      rcases hu with rfl | rfl | rfl <;> rfl
    intro v' w' hown'
    refine ⟨_, hkk, ?_⟩
    intro w2 hA
    refine ⟨(k + 1, v', w2), ⟨by show k + 1 ≤ _; omega, ?_, ?_⟩, by show ks.length - (k + 1) < ks.length - k; omega, ⟨⟨_, rfl, rfl⟩, ⟨_, rfl, rfl⟩, ⟨_, rfl, rfl⟩, ⟨_, rfl, rfl⟩, ⟨_, rfl, rfl⟩, ⟨_, rfl, rfl⟩, ⟨_, rfl, rfl⟩, trivial⟩, (hA.hist (by simp)).now⟩
    · have h := ownsRow_since hown' (hA.since (w', _) (List.Mem.head _)) (fun _ _ h => by obtain ⟨_, _, h, _⟩ := h; cases h)
      have e : kindCells (ks.take (k + 1)) = kindCells (ks.take k) ++ opCells (ks[k] % 11) := by
        have ht : ks.take (k + 1) = ks.take k ++ [ks[k]] := by rw [List.take_add_one, List.getElem?_eq_getElem hk3]; rfl
        rw [ht]
        simp only [kindCells, List.map_append, List.flatten_append, List.map_cons, List.map_nil, List.flatten_cons, List.flatten_nil, List.append_nil]
      show w2.ownsRow _ _ _ _ (k + 1) (kindCells (ks.take (k + 1)))
      rw [e]
      exact h
    · exact (hA.bel (by simp)).size
  have e : k = ks.length := by have : ¬ (k : Int) < ks.length := by simpa using h
                               omega
  subst e
  rw [List.take_length] at hown
  obtain ⟨A', c', rfl, hsl⟩ := Sl.of_own (r := Rp.op) (S := Every) (ys := kindOps ks) hown (fun _ _ _ => trivial) (kind_rows _ _ ks) (by simp [kindOps]) (by omega)
  have hsl' : ∀ {w' : World}, Since (Mem.gs []) wk w' → Sl Rp.op w' Every A' (kindOps ks) := fun hs => hsl.keep (fun _ h => h) (fun b _ hb => hs.block b hb (fun h => by obtain ⟨_, _, h, _⟩ := h; cases h))
  -- the first comparison
  intro w1 hA
  refine (tally_c A0 A1 c0 c1 p os rs w1 Every ((h0.below (hA.bel (by simp))).more (fun _ _ => trivial)) ((h1.below (hA.bel (by simp))).more (fun _ _ => trivial))).mono ?_
  rintro e w2 ⟨rfl, hb⟩
  refine ⟨.val _, _, _, rfl, hA.below' hb, ?_⟩
  intro w1 hA
  refine (tallyRef_c A0 A1 c0 c1 p os rs w1 Every ((h0.below (hA.bel (by simp))).more (fun _ _ => trivial)) ((h1.below (hA.bel (by simp))).more (fun _ _ => trivial))).mono ?_
  rintro e w2 ⟨rfl, hb⟩
  refine ⟨.val _, _, _, rfl, hA.below' hb, ?_⟩
  refine ⟨.bool true, fun w' _ => run_eq_cnt w' _ _ _, ?_⟩
  refine ⟨fun _ => ?_, nofun⟩
  -- the second
  intro w1 hA
  refine (tally_c A' A1 c' c1 p (kindOps ks) rs w1 Every (hsl' (hA.since (wk, _) (List.Mem.head _))) ((h1.below (hA.bel (by simp))).more (fun _ _ => trivial))).mono ?_
  rintro e w2 ⟨rfl, hb⟩
  refine ⟨.val _, _, _, rfl, hA.below' hb, ?_⟩
  intro w1 hA
  refine (tallyRef_c A' A1 c' c1 p (kindOps ks) rs w1 Every (hsl' (hA.since (wk, _) (List.Mem.head _))) ((h1.below (hA.bel (by simp))).more (fun _ _ => trivial))).mono ?_
  rintro e w2 ⟨rfl, hb⟩
  refine ⟨.val _, _, _, rfl, hA.below' hb, ?_⟩
  refine ⟨.bool true, fun w' _ => run_eq_cnt w' _ _ _, ?_⟩
  refine ⟨fun _ => ?_, nofun⟩
  intro w1 hA
  refine (known_c w1 (htabB _ (hA.bel (by simp)))).mono ?_
  rintro e w2 ⟨rfl, hb⟩
  refine ⟨.val _, _, _, rfl, hA.below' hb, ?_⟩
  intro w' hA
  exact ⟨rfl, hA.bel (by simp)⟩
end Go.Proofs.YtepdhipcepmpiaaDoor
