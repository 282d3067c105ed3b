/- Parts of a proof, one behind the other: Opens, Opn, PFrame, OH, OE, OF, OJ, LSelects. -/
import GoSem.ClaimJoined
import Derived.Test.YtplkofafnbfkmaaRows
import Derived.WalkKit
import Derived.ProofKit
import Derived.OpenShut
import Derived.SizedLaws
import Derived.Test.YtplkofafnbfkmaaW05
/- What an argument of a type reads as. Printed by gendata.py. -/
namespace Go.Proofs.Ytplkofafnbfkmaa
open Go.RowKit Go.ChangeShapes Go.Deep
theorem reach_le : reachBytes ≤ 140737488355328 := by decide
/-- Whatever is read at type t is so read by r. -/
def Opens (P : Program) (t : TypeId) {α : Type} (r : Rp α) : Prop :=
  P.cellsOf t = r.size ∧ ∀ {H : Type} (enc : TypeId × Value → H) (W : World) (spare : Nat → Bool) (held : Bool) (fuel : Nat) (cs : List Value) (d : DataW H) (p : List MemPlace),
    DataW.trod enc P W 0 spare held fuel t cs = some (d, p) → (d.weights P t).all (· ≤ reachBytes) = true → ∃ x, r.rel W (Lt W.heap.size) cs x

theorem Opens.part_ {P : Program} {α : Type} {r : Rp α} {f : Field} {o : Nat} {H : Type} {enc : TypeId × Value → H} {W : World} {spare : Nat → Bool} {held : Bool} {n : Nat} {cs : List Value} {y : DataW H × List MemPlace}
    (h : Opens P f.type r) (ho : f.offset = o) (ht : DataW.trod enc P W 0 spare held n f.type ((cs.drop f.offset).take (P.cellsOf f.type)) = some y) (hw : (y.1.weights P f.type).all (· ≤ reachBytes) = true) :
    ∃ x, r.rel W (Lt W.heap.size) ((cs.drop o).take r.size) x := by
  obtain ⟨d, p⟩ := y
  rw [ho, h.1] at ht
  exact h.2 enc W spare held n _ d p ht hw
theorem Opens.int {P : Program} {t : TypeId} {k : IntKind} (hu : P.underlying t = some (.int k)) (hc : P.cellsOf t = 1) : Opens P t (Rp.int k) :=
  ⟨hc, fun enc W spare held fuel cs d p h _ => by
    obtain ⟨n, rfl, _, hw⟩ := DataW.trod_int hu h
    exact ⟨n, rfl, hw⟩⟩
theorem Opens.bool {P : Program} {t : TypeId} (hu : P.underlying t = some .bool) (hc : P.cellsOf t = 1) : Opens P t Rp.bool :=
  ⟨hc, fun enc W spare held fuel cs d p h _ => by
    obtain ⟨b, rfl, _⟩ := DataW.trod_bool hu h
    exact ⟨b, rfl⟩⟩
theorem Opens.str {P : Program} {t : TypeId} (hu : P.underlying t = some .string) (hc : P.cellsOf t = 1) : Opens P t Rp.str :=
  ⟨hc, fun enc W spare held fuel cs d p h hw => by
    obtain ⟨s, rfl, hx, _⟩ := DataW.trod_string hu h
    simp only [Prod.mk.injEq] at hx
    obtain ⟨rfl, rfl⟩ := hx
    have h2 : s.data.size ≤ reachBytes := by simpa [DataW.weights] using hw
    exact ⟨s, rfl, Nat.le_trans h2 reach_le⟩⟩
theorem Opens.arr {P : Program} {t e : TypeId} {k : IntKind} {n : Nat} (hu : P.underlying t = some (.array n e)) (he : P.underlying e = some (.int k)) (hc : P.cellsOf t = n) (hce : P.cellsOf e = 1) : Opens P t (Rp.arr k n) :=
  ⟨hc, fun enc W spare held fuel cs d p h hw => by
    obtain ⟨xs, m, _, _, hl, hlen, hi⟩ := DataW.trod_array hu h
    have key : ∀ i, i < n → ∃ y, cs[i]? = some (.int k y) ∧ (Lit.int k y).wf = true := by
      intro i hin
      have h1 := hi i hin
      rw [hce] at h1
      have hxi : xs[i]? = some (xs[i]'(by omega)) := List.getElem?_eq_getElem (by omega)
      rw [hxi] at h1
      obtain ⟨y, hy, _, hwf⟩ := DataW.trod_int he h1
      rw [Nat.mul_one] at hy
      exact ⟨y, take1 hy, hwf⟩
    refine ⟨cs.map fun | .int _ y => y | _ => 0, ?_, ?_, ?_⟩
    · apply List.ext_getElem?
      intro i
      rw [List.getElem?_map, List.getElem?_map]
      rcases Nat.lt_or_ge i n with hin | hin
      · obtain ⟨y, hy, _⟩ := key i hin
        rw [hy]; rfl
      · rw [List.getElem?_eq_none (by omega)]; rfl
    · simp; omega
    · intro y hy
      obtain ⟨v, hv, rfl⟩ := List.mem_map.1 hy
      obtain ⟨i, hi', rfl⟩ := List.mem_iff_getElem.1 hv
      obtain ⟨y, hy, hwf⟩ := key i (by omega)
      rw [List.getElem?_eq_getElem hi'] at hy
      injection hy with hy
      rw [hy]; exact hwf⟩
theorem Opens.key {P : Program} {t e : TypeId} (hu : P.underlying t = some (.array 32 e)) (he : P.underlying e = some (.int .u8)) (hc : P.cellsOf t = 32) (hce : P.cellsOf e = 1) : Opens P t Rp.key := Opens.arr hu he hc hce
theorem weightsAll_mem {H : Type} {P : Program} {e : TypeId} {l : List (DataW H)} (h : (DataW.weightsAll P e l).all (· ≤ reachBytes) = true) {d : DataW H} (hd : d ∈ l) : (d.weights P e).all (· ≤ reachBytes) = true := by
  induction l with
  | nil => cases hd
  | cons x l ih =>
    simp only [DataW.weightsAll, List.all_append, Bool.and_eq_true] at h
    rcases List.mem_cons.1 hd with rfl | hd
    · exact h.1
    · exact ih h.2 hd
theorem Opens.slice {P : Program} {t e : TypeId} {α : Type} {r : Rp α} (hu : P.underlying t = some (.slice e)) (hc : P.cellsOf t = 1) (hb : 0 < P.bytesOf e) (hpos : 0 < r.size) (hr : Opens P e r) : Opens P t (Rp.slice r) := by
  refine ⟨hc, fun {H} enc W spare held fuel cs d p h hw => ?_⟩
  rcases open_slice hu h with ⟨rfl, _⟩ | ⟨a, len, cap, m, n, D, Pl, rfl, _, hle, _, hm, hx, hi⟩
  · exact ⟨[], none, 0, rfl, by simp, fun h => absurd rfl h⟩
  · simp only [Prod.mk.injEq] at hx
    obtain ⟨rfl, rfl⟩ := hx
    simp only [DataW.weights, hu, List.all_cons, List.all_append, Bool.and_eq_true, List.length_map, List.length_range] at hw
    have hmle : len ≤ m := by rw [hm]; split <;> omega
    have hlen : len ≤ 140737488355328 := by
      have h1 := of_decide_eq_true hw.1
      have h3 := reach_le
      have h2 : len * 1 ≤ (len + (m - len)) * P.bytesOf e := Nat.mul_le_mul (by omega) hb
      omega
    have key : ∀ i, i < len → ∃ x cs', r.rel W (Lt W.heap.size) cs' x ∧ (∀ j v, cs'[j]? = some v → W.cell? (a.add (i * r.size + j)) = some v) := by
      intro i hil
      obtain ⟨cs', hc', ht⟩ := hi i (by omega)
      rw [hr.1] at hc'
      obtain ⟨_, hl, hat⟩ := World.cells?_some hc'
      have hmem : D i ∈ List.map D (List.range len) := List.mem_map.2 ⟨i, List.mem_range.2 hil, rfl⟩
      obtain ⟨x, hx⟩ := hr.2 enc W spare held n cs' (D i) (Pl i) ht (weightsAll_mem hw.2.1 hmem)
      refine ⟨x, cs', hx, fun j v hv => ?_⟩
      have hj := (List.getElem?_eq_some_iff.1 hv).1
      have := hat j (by omega)
      rw [Go.Deep.add_add] at this
      rw [this, hv]
    by_cases h0 : len = 0
    · subst h0
      exact ⟨[], some a, cap, rfl, by simp, fun h => absurd rfl h⟩
    have ex : ∃ f : Nat → α, ∀ i, i < len → ∃ cs', r.rel W (Lt W.heap.size) cs' (f i) ∧ (∀ j v, cs'[j]? = some v → W.cell? (a.add (i * r.size + j)) = some v) := by
      obtain ⟨x0, _⟩ := key 0 (by omega)
      have : Nonempty α := ⟨x0⟩
      refine ⟨fun i => Classical.epsilon fun x => ∃ cs', r.rel W (Lt W.heap.size) cs' x ∧ (∀ j v, cs'[j]? = some v → W.cell? (a.add (i * r.size + j)) = some v), fun i hil => ?_⟩
      exact Classical.epsilon_spec (key i hil)
    obtain ⟨f, hf⟩ := ex
    obtain ⟨b, o, spot⟩ := a
    have hspot : spot = none ∧ b < W.heap.size := by
      obtain ⟨cs', hr', hc'⟩ := hf 0 (by omega)
      have hl := r.len hr'
      have hv : cs'[0]? = some (cs'[0]'(by omega)) := List.getElem?_eq_getElem (by omega)
      have hcell := hc' 0 _ hv
      have e0 : (⟨b, o, spot⟩ : Addr).add (0 * r.size + 0) = ⟨b, o, spot⟩ := by simp [Addr.add]
      rw [e0] at hcell
      exact ⟨by simpa using World.cell?_spot hcell, World.block_lt_of_cell? W _ hcell⟩
    obtain ⟨rfl, hblt⟩ := hspot
    refine ⟨(List.range len).map f, some ⟨b, o, none⟩, cap, by simp, by simpa using hlen, fun _ => ⟨b, o, rfl, hblt, fun i x hx => ?_⟩⟩
    have hil : i < len := by
      have := (List.getElem?_eq_some_iff.1 hx).1
      simpa using this
    have hxi : x = f i := by
      simp [List.getElem?_range hil] at hx
      exact hx.symm
    subst hxi
    obtain ⟨cs', hr', hc'⟩ := hf i hil
    refine ⟨cs', hr', fun j v hv => ?_⟩
    have := hc' j v hv
    rw [Addr.add_mid] at this
    rw [Nat.add_assoc]
    exact this

theorem Opens.field {P : Program} {t : TypeId} {f0 f1 f2 f3 : Field} (hu : P.underlying t = some (.struct #[f0, f1, f2, f3])) (hc : P.cellsOf t = 4)
    (o0 : f0.offset = 0) (o1 : f1.offset = 1) (o2 : f2.offset = 2) (o3 : f3.offset = 3)
    (h0 : Opens P f0.type (Rp.int .i64)) (h1 : Opens P f1.type (Rp.int .i64)) (h2 : Opens P f2.type (Rp.int .u64)) (h3 : Opens P f3.type Rp.bytes) : Opens P t Rp.field := by
  refine ⟨hc, fun {H} enc W spare held fuel cs d p h hw => ?_⟩
  obtain ⟨xs, n, _, hx, hl, hlen, hf⟩ := DataW.trod_struct hu h
  simp only [Prod.mk.injEq] at hx
  obtain ⟨rfl, rfl⟩ := hx
  match xs, hlen with
  | [y0, y1, y2, y3], _ =>
    simp only [DataW.weights, hu, List.map_cons, List.map_nil, DataW.weightsEach, List.all_append, Bool.and_eq_true] at hw
    obtain ⟨w0, w1, w2, w3, _⟩ := hw
    obtain ⟨x0, r0⟩ := h0.part_ o0 (hf 0 f0 rfl) w0
    obtain ⟨x1, r1⟩ := h1.part_ o1 (hf 1 f1 rfl) w1
    obtain ⟨x2, r2⟩ := h2.part_ o2 (hf 2 f2 rfl) w2
    obtain ⟨x3, r3⟩ := h3.part_ o3 (hf 3 f3 rfl) w3
    exact ⟨⟨x0, x1, x2, x3⟩, Rp.field_mk (hl.trans hc) r0 r1 r2 r3⟩
theorem Opens.account {P : Program} {t : TypeId} {f0 f1 f2 : Field} (hu : P.underlying t = some (.struct #[f0, f1, f2])) (hc : P.cellsOf t = 3)
    (o0 : f0.offset = 0) (o1 : f1.offset = 1) (o2 : f2.offset = 2)
    (h0 : Opens P f0.type Rp.str) (h1 : Opens P f1.type (Rp.int .u64)) (h2 : Opens P f2.type (Rp.int .u64)) : Opens P t Rp.account := by
  refine ⟨hc, fun {H} enc W spare held fuel cs d p h hw => ?_⟩
  obtain ⟨xs, n, _, hx, hl, hlen, hf⟩ := DataW.trod_struct hu h
  simp only [Prod.mk.injEq] at hx
  obtain ⟨rfl, rfl⟩ := hx
  match xs, hlen with
  | [y0, y1, y2], _ =>
    simp only [DataW.weights, hu, List.map_cons, List.map_nil, DataW.weightsEach, List.all_append, Bool.and_eq_true] at hw
    obtain ⟨w0, w1, w2, _⟩ := hw
    obtain ⟨x0, r0⟩ := h0.part_ o0 (hf 0 f0 rfl) w0
    obtain ⟨x1, r1⟩ := h1.part_ o1 (hf 1 f1 rfl) w1
    obtain ⟨x2, r2⟩ := h2.part_ o2 (hf 2 f2 rfl) w2
    exact ⟨⟨x0, x1, x2⟩, Rp.account_mk (hl.trans hc) r0 r1 r2⟩
theorem Opens.ledger {P : Program} {t : TypeId} {f0 f1 : Field} (hu : P.underlying t = some (.struct #[f0, f1])) (hc : P.cellsOf t = 2)
    (o0 : f0.offset = 0) (o1 : f1.offset = 1)
    (h0 : Opens P f0.type (Rp.slice Rp.account)) (h1 : Opens P f1.type (Rp.int .u64)) : Opens P t Rp.ledger := by
  refine ⟨hc, fun {H} enc W spare held fuel cs d p h hw => ?_⟩
  obtain ⟨xs, n, _, hx, hl, hlen, hf⟩ := DataW.trod_struct hu h
  simp only [Prod.mk.injEq] at hx
  obtain ⟨rfl, rfl⟩ := hx
  match xs, hlen with
  | [y0, y1], _ =>
    simp only [DataW.weights, hu, List.map_cons, List.map_nil, DataW.weightsEach, List.all_append, Bool.and_eq_true] at hw
    obtain ⟨w0, w1, _⟩ := hw
    obtain ⟨x0, r0⟩ := h0.part_ o0 (hf 0 f0 rfl) w0
    obtain ⟨x1, r1⟩ := h1.part_ o1 (hf 1 f1 rfl) w1
    exact ⟨⟨x0, x1⟩, Rp.ledger_mk (hl.trans hc) r0 r1⟩
theorem Opens.transfer {P : Program} {t : TypeId} {f0 f1 : Field} (hu : P.underlying t = some (.struct #[f0, f1])) (hc : P.cellsOf t = 2)
    (o0 : f0.offset = 0) (o1 : f1.offset = 1)
    (h0 : Opens P f0.type Rp.str) (h1 : Opens P f1.type (Rp.int .u64)) : Opens P t Rp.transfer := by
  refine ⟨hc, fun {H} enc W spare held fuel cs d p h hw => ?_⟩
  obtain ⟨xs, n, _, hx, hl, hlen, hf⟩ := DataW.trod_struct hu h
  simp only [Prod.mk.injEq] at hx
  obtain ⟨rfl, rfl⟩ := hx
  match xs, hlen with
  | [y0, y1], _ =>
    simp only [DataW.weights, hu, List.map_cons, List.map_nil, DataW.weightsEach, List.all_append, Bool.and_eq_true] at hw
    obtain ⟨w0, w1, _⟩ := hw
    obtain ⟨x0, r0⟩ := h0.part_ o0 (hf 0 f0 rfl) w0
    obtain ⟨x1, r1⟩ := h1.part_ o1 (hf 1 f1 rfl) w1
    exact ⟨⟨x0, x1⟩, Rp.transfer_mk (hl.trans hc) r0 r1⟩
theorem Opens.tx {P : Program} {t : TypeId} {f0 f1 f2 f3 f4 f5 : Field} (hu : P.underlying t = some (.struct #[f0, f1, f2, f3, f4, f5])) (hc : P.cellsOf t = 6)
    (o0 : f0.offset = 0) (o1 : f1.offset = 1) (o2 : f2.offset = 2) (o3 : f3.offset = 3) (o4 : f4.offset = 4) (o5 : f5.offset = 5)
    (h0 : Opens P f0.type Rp.str) (h1 : Opens P f1.type (Rp.int .u64)) (h2 : Opens P f2.type (Rp.int .u64)) (h3 : Opens P f3.type (Rp.int .u64)) (h4 : Opens P f4.type Rp.str) (h5 : Opens P f5.type (Rp.slice Rp.transfer)) : Opens P t Rp.tx := by
  refine ⟨hc, fun {H} enc W spare held fuel cs d p h hw => ?_⟩
  obtain ⟨xs, n, _, hx, hl, hlen, hf⟩ := DataW.trod_struct hu h
  simp only [Prod.mk.injEq] at hx
  obtain ⟨rfl, rfl⟩ := hx
  match xs, hlen with
  | [y0, y1, y2, y3, y4, y5], _ =>
    simp only [DataW.weights, hu, List.map_cons, List.map_nil, DataW.weightsEach, List.all_append, Bool.and_eq_true] at hw
    obtain ⟨w0, w1, w2, w3, w4, w5, _⟩ := hw
    obtain ⟨x0, r0⟩ := h0.part_ o0 (hf 0 f0 rfl) w0
    obtain ⟨x1, r1⟩ := h1.part_ o1 (hf 1 f1 rfl) w1
    obtain ⟨x2, r2⟩ := h2.part_ o2 (hf 2 f2 rfl) w2
    obtain ⟨x3, r3⟩ := h3.part_ o3 (hf 3 f3 rfl) w3
    obtain ⟨x4, r4⟩ := h4.part_ o4 (hf 4 f4 rfl) w4
    obtain ⟨x5, r5⟩ := h5.part_ o5 (hf 5 f5 rfl) w5
    exact ⟨⟨x0, x1, x2, x3, x4, x5⟩, Rp.tx_mk (hl.trans hc) r0 r1 r2 r3 r4 r5⟩
theorem Opens.result {P : Program} {t : TypeId} {f0 f1 f2 f3 f4 : Field} (hu : P.underlying t = some (.struct #[f0, f1, f2, f3, f4])) (hc : P.cellsOf t = 5)
    (o0 : f0.offset = 0) (o1 : f1.offset = 1) (o2 : f2.offset = 2) (o3 : f3.offset = 3) (o4 : f4.offset = 4)
    (h0 : Opens P f0.type (Rp.int .i64)) (h1 : Opens P f1.type Rp.str) (h2 : Opens P f2.type (Rp.int .u64)) (h3 : Opens P f3.type (Rp.int .u64)) (h4 : Opens P f4.type (Rp.int .u64)) : Opens P t Rp.result := by
  refine ⟨hc, fun {H} enc W spare held fuel cs d p h hw => ?_⟩
  obtain ⟨xs, n, _, hx, hl, hlen, hf⟩ := DataW.trod_struct hu h
  simp only [Prod.mk.injEq] at hx
  obtain ⟨rfl, rfl⟩ := hx
  match xs, hlen with
  | [y0, y1, y2, y3, y4], _ =>
    simp only [DataW.weights, hu, List.map_cons, List.map_nil, DataW.weightsEach, List.all_append, Bool.and_eq_true] at hw
    obtain ⟨w0, w1, w2, w3, w4, _⟩ := hw
    obtain ⟨x0, r0⟩ := h0.part_ o0 (hf 0 f0 rfl) w0
    obtain ⟨x1, r1⟩ := h1.part_ o1 (hf 1 f1 rfl) w1
    obtain ⟨x2, r2⟩ := h2.part_ o2 (hf 2 f2 rfl) w2
    obtain ⟨x3, r3⟩ := h3.part_ o3 (hf 3 f3 rfl) w3
    obtain ⟨x4, r4⟩ := h4.part_ o4 (hf 4 f4 rfl) w4
    exact ⟨⟨x0, x1, x2, x3, x4⟩, Rp.result_mk (hl.trans hc) r0 r1 r2 r3 r4⟩
theorem Opens.app {P : Program} {t : TypeId} {f0 f1 f2 f3 f4 : Field} (hu : P.underlying t = some (.struct #[f0, f1, f2, f3, f4])) (hc : P.cellsOf t = 8)
    (o0 : f0.offset = 0) (o1 : f1.offset = 2) (o2 : f2.offset = 4) (o3 : f3.offset = 6) (o4 : f4.offset = 7)
    (h0 : Opens P f0.type Rp.ledger) (h1 : Opens P f1.type Rp.ledger) (h2 : Opens P f2.type Rp.ledger) (h3 : Opens P f3.type Rp.bool) (h4 : Opens P f4.type (Rp.int .u64)) : Opens P t Rp.app := by
  refine ⟨hc, fun {H} enc W spare held fuel cs d p h hw => ?_⟩
  obtain ⟨xs, n, _, hx, hl, hlen, hf⟩ := DataW.trod_struct hu h
  simp only [Prod.mk.injEq] at hx
  obtain ⟨rfl, rfl⟩ := hx
  match xs, hlen with
  | [y0, y1, y2, y3, y4], _ =>
    simp only [DataW.weights, hu, List.map_cons, List.map_nil, DataW.weightsEach, List.all_append, Bool.and_eq_true] at hw
    obtain ⟨w0, w1, w2, w3, w4, _⟩ := hw
    obtain ⟨x0, r0⟩ := h0.part_ o0 (hf 0 f0 rfl) w0
    obtain ⟨x1, r1⟩ := h1.part_ o1 (hf 1 f1 rfl) w1
    obtain ⟨x2, r2⟩ := h2.part_ o2 (hf 2 f2 rfl) w2
    obtain ⟨x3, r3⟩ := h3.part_ o3 (hf 3 f3 rfl) w3
    obtain ⟨x4, r4⟩ := h4.part_ o4 (hf 4 f4 rfl) w4
    exact ⟨⟨x0, x1, x2, x3, x4⟩, Rp.app_mk (hl.trans hc) r0 r1 r2 r3 r4⟩
theorem Opens.config {P : Program} {t : TypeId} {f0 f1 f2 f3 f4 f5 f6 f7 f8 f9 f10 f11 : Field} (hu : P.underlying t = some (.struct #[f0, f1, f2, f3, f4, f5, f6, f7, f8, f9, f10, f11])) (hc : P.cellsOf t = 12)
    (o0 : f0.offset = 0) (o1 : f1.offset = 1) (o2 : f2.offset = 2) (o3 : f3.offset = 3) (o4 : f4.offset = 4) (o5 : f5.offset = 5) (o6 : f6.offset = 6) (o7 : f7.offset = 7) (o8 : f8.offset = 8) (o9 : f9.offset = 9) (o10 : f10.offset = 10) (o11 : f11.offset = 11)
    (h0 : Opens P f0.type (Rp.int .i64)) (h1 : Opens P f1.type (Rp.int .i64)) (h2 : Opens P f2.type (Rp.int .i64)) (h3 : Opens P f3.type (Rp.int .i64)) (h4 : Opens P f4.type (Rp.int .i64)) (h5 : Opens P f5.type (Rp.int .i64)) (h6 : Opens P f6.type Rp.bool) (h7 : Opens P f7.type (Rp.int .i64)) (h8 : Opens P f8.type (Rp.int .i64)) (h9 : Opens P f9.type (Rp.int .u64)) (h10 : Opens P f10.type (Rp.int .i64)) (h11 : Opens P f11.type (Rp.int .i64)) : Opens P t Rp.config := by
  refine ⟨hc, fun {H} enc W spare held fuel cs d p h hw => ?_⟩
  obtain ⟨xs, n, _, hx, hl, hlen, hf⟩ := DataW.trod_struct hu h
  simp only [Prod.mk.injEq] at hx
  obtain ⟨rfl, rfl⟩ := hx
  match xs, hlen with
  | [y0, y1, y2, y3, y4, y5, y6, y7, y8, y9, y10, y11], _ =>
    simp only [DataW.weights, hu, List.map_cons, List.map_nil, DataW.weightsEach, List.all_append, Bool.and_eq_true] at hw
    obtain ⟨w0, w1, w2, w3, w4, w5, w6, w7, w8, w9, w10, w11, _⟩ := hw
    obtain ⟨x0, r0⟩ := h0.part_ o0 (hf 0 f0 rfl) w0
    obtain ⟨x1, r1⟩ := h1.part_ o1 (hf 1 f1 rfl) w1
    obtain ⟨x2, r2⟩ := h2.part_ o2 (hf 2 f2 rfl) w2
    obtain ⟨x3, r3⟩ := h3.part_ o3 (hf 3 f3 rfl) w3
    obtain ⟨x4, r4⟩ := h4.part_ o4 (hf 4 f4 rfl) w4
    obtain ⟨x5, r5⟩ := h5.part_ o5 (hf 5 f5 rfl) w5
    obtain ⟨x6, r6⟩ := h6.part_ o6 (hf 6 f6 rfl) w6
    obtain ⟨x7, r7⟩ := h7.part_ o7 (hf 7 f7 rfl) w7
    obtain ⟨x8, r8⟩ := h8.part_ o8 (hf 8 f8 rfl) w8
    obtain ⟨x9, r9⟩ := h9.part_ o9 (hf 9 f9 rfl) w9
    obtain ⟨x10, r10⟩ := h10.part_ o10 (hf 10 f10 rfl) w10
    obtain ⟨x11, r11⟩ := h11.part_ o11 (hf 11 f11 rfl) w11
    exact ⟨⟨x0, x1, x2, x3, x4, x5, x6, x7, x8, x9, x10, x11⟩, Rp.config_mk (hl.trans hc) r0 r1 r2 r3 r4 r5 r6 r7 r8 r9 r10 r11⟩
theorem Opens.item {P : Program} {t : TypeId} {f0 f1 f2 : Field} (hu : P.underlying t = some (.struct #[f0, f1, f2])) (hc : P.cellsOf t = 3)
    (o0 : f0.offset = 0) (o1 : f1.offset = 1) (o2 : f2.offset = 2)
    (h0 : Opens P f0.type (Rp.int .i64)) (h1 : Opens P f1.type (Rp.int .u64)) (h2 : Opens P f2.type (Rp.int .i64)) : Opens P t Rp.item := by
  refine ⟨hc, fun {H} enc W spare held fuel cs d p h hw => ?_⟩
  obtain ⟨xs, n, _, hx, hl, hlen, hf⟩ := DataW.trod_struct hu h
  simp only [Prod.mk.injEq] at hx
  obtain ⟨rfl, rfl⟩ := hx
  match xs, hlen with
  | [y0, y1, y2], _ =>
    simp only [DataW.weights, hu, List.map_cons, List.map_nil, DataW.weightsEach, List.all_append, Bool.and_eq_true] at hw
    obtain ⟨w0, w1, w2, _⟩ := hw
    obtain ⟨x0, r0⟩ := h0.part_ o0 (hf 0 f0 rfl) w0
    obtain ⟨x1, r1⟩ := h1.part_ o1 (hf 1 f1 rfl) w1
    obtain ⟨x2, r2⟩ := h2.part_ o2 (hf 2 f2 rfl) w2
    exact ⟨⟨x0, x1, x2⟩, Rp.item_mk (hl.trans hc) r0 r1 r2⟩
theorem Opens.handle {P : Program} {t : TypeId} {f0 f1 : Field} (hu : P.underlying t = some (.struct #[f0, f1])) (hc : P.cellsOf t = 2)
    (o0 : f0.offset = 0) (o1 : f1.offset = 1)
    (h0 : Opens P f0.type (Rp.int .i64)) (h1 : Opens P f1.type (Rp.int .i64)) : Opens P t Rp.handle := by
  refine ⟨hc, fun {H} enc W spare held fuel cs d p h hw => ?_⟩
  obtain ⟨xs, n, _, hx, hl, hlen, hf⟩ := DataW.trod_struct hu h
  simp only [Prod.mk.injEq] at hx
  obtain ⟨rfl, rfl⟩ := hx
  match xs, hlen with
  | [y0, y1], _ =>
    simp only [DataW.weights, hu, List.map_cons, List.map_nil, DataW.weightsEach, List.all_append, Bool.and_eq_true] at hw
    obtain ⟨w0, w1, _⟩ := hw
    obtain ⟨x0, r0⟩ := h0.part_ o0 (hf 0 f0 rfl) w0
    obtain ⟨x1, r1⟩ := h1.part_ o1 (hf 1 f1 rfl) w1
    exact ⟨⟨x0, x1⟩, Rp.handle_mk (hl.trans hc) r0 r1⟩
theorem Opens.entry {P : Program} {t : TypeId} {f0 f1 f2 f3 f4 f5 f6 f7 f8 f9 : Field} (hu : P.underlying t = some (.struct #[f0, f1, f2, f3, f4, f5, f6, f7, f8, f9])) (hc : P.cellsOf t = 41)
    (o0 : f0.offset = 0) (o1 : f1.offset = 32) (o2 : f2.offset = 33) (o3 : f3.offset = 34) (o4 : f4.offset = 35) (o5 : f5.offset = 36) (o6 : f6.offset = 37) (o7 : f7.offset = 38) (o8 : f8.offset = 39) (o9 : f9.offset = 40)
    (h0 : Opens P f0.type Rp.key) (h1 : Opens P f1.type Rp.bytes) (h2 : Opens P f2.type Rp.str) (h3 : Opens P f3.type (Rp.int .u64)) (h4 : Opens P f4.type (Rp.int .u64)) (h5 : Opens P f5.type (Rp.int .u64)) (h6 : Opens P f6.type (Rp.int .i64)) (h7 : Opens P f7.type (Rp.int .i64)) (h8 : Opens P f8.type (Rp.int .i64)) (h9 : Opens P f9.type Rp.ints) : Opens P t Rp.entry := by
  refine ⟨hc, fun {H} enc W spare held fuel cs d p h hw => ?_⟩
  obtain ⟨xs, n, _, hx, hl, hlen, hf⟩ := DataW.trod_struct hu h
  simp only [Prod.mk.injEq] at hx
  obtain ⟨rfl, rfl⟩ := hx
  match xs, hlen with
  | [y0, y1, y2, y3, y4, y5, y6, y7, y8, y9], _ =>
    simp only [DataW.weights, hu, List.map_cons, List.map_nil, DataW.weightsEach, List.all_append, Bool.and_eq_true] at hw
    obtain ⟨w0, w1, w2, w3, w4, w5, w6, w7, w8, w9, _⟩ := hw
    obtain ⟨x0, r0⟩ := h0.part_ o0 (hf 0 f0 rfl) w0
    obtain ⟨x1, r1⟩ := h1.part_ o1 (hf 1 f1 rfl) w1
    obtain ⟨x2, r2⟩ := h2.part_ o2 (hf 2 f2 rfl) w2
    obtain ⟨x3, r3⟩ := h3.part_ o3 (hf 3 f3 rfl) w3
    obtain ⟨x4, r4⟩ := h4.part_ o4 (hf 4 f4 rfl) w4
    obtain ⟨x5, r5⟩ := h5.part_ o5 (hf 5 f5 rfl) w5
    obtain ⟨x6, r6⟩ := h6.part_ o6 (hf 6 f6 rfl) w6
    obtain ⟨x7, r7⟩ := h7.part_ o7 (hf 7 f7 rfl) w7
    obtain ⟨x8, r8⟩ := h8.part_ o8 (hf 8 f8 rfl) w8
    obtain ⟨x9, r9⟩ := h9.part_ o9 (hf 9 f9 rfl) w9
    exact ⟨⟨x0, x1, x2, x3, x4, x5, x6, x7, x8, x9⟩, Rp.entry_mk (hl.trans hc) r0 r1 r2 r3 r4 r5 r6 r7 r8 r9⟩
theorem Opens.state {P : Program} {t : TypeId} {f0 f1 f2 f3 f4 f5 f6 : Field} (hu : P.underlying t = some (.struct #[f0, f1, f2, f3, f4, f5, f6])) (hc : P.cellsOf t = 25)
    (o0 : f0.offset = 0) (o1 : f1.offset = 12) (o2 : f2.offset = 20) (o3 : f3.offset = 21) (o4 : f4.offset = 22) (o5 : f5.offset = 23) (o6 : f6.offset = 24)
    (h0 : Opens P f0.type Rp.config) (h1 : Opens P f1.type Rp.app) (h2 : Opens P f2.type (Rp.int .i64)) (h3 : Opens P f3.type (Rp.int .i64)) (h4 : Opens P f4.type (Rp.int .i64)) (h5 : Opens P f5.type (Rp.slice Rp.entry)) (h6 : Opens P f6.type (Rp.slice Rp.key)) : Opens P t Rp.state := by
  refine ⟨hc, fun {H} enc W spare held fuel cs d p h hw => ?_⟩
  obtain ⟨xs, n, _, hx, hl, hlen, hf⟩ := DataW.trod_struct hu h
  simp only [Prod.mk.injEq] at hx
  obtain ⟨rfl, rfl⟩ := hx
  match xs, hlen with
  | [y0, y1, y2, y3, y4, y5, y6], _ =>
    simp only [DataW.weights, hu, List.map_cons, List.map_nil, DataW.weightsEach, List.all_append, Bool.and_eq_true] at hw
    obtain ⟨w0, w1, w2, w3, w4, w5, w6, _⟩ := hw
    obtain ⟨x0, r0⟩ := h0.part_ o0 (hf 0 f0 rfl) w0
    obtain ⟨x1, r1⟩ := h1.part_ o1 (hf 1 f1 rfl) w1
    obtain ⟨x2, r2⟩ := h2.part_ o2 (hf 2 f2 rfl) w2
    obtain ⟨x3, r3⟩ := h3.part_ o3 (hf 3 f3 rfl) w3
    obtain ⟨x4, r4⟩ := h4.part_ o4 (hf 4 f4 rfl) w4
    obtain ⟨x5, r5⟩ := h5.part_ o5 (hf 5 f5 rfl) w5
    obtain ⟨x6, r6⟩ := h6.part_ o6 (hf 6 f6 rfl) w6
    exact ⟨⟨x0, x1, x2, x3, x4, x5, x6⟩, Rp.state_mk (hl.trans hc) r0 r1 r2 r3 r4 r5 r6⟩
theorem Opens.reply {P : Program} {t : TypeId} {f0 f1 f2 f3 f4 f5 f6 f7 f8 f9 f10 : Field} (hu : P.underlying t = some (.struct #[f0, f1, f2, f3, f4, f5, f6, f7, f8, f9, f10])) (hc : P.cellsOf t = 73)
    (o0 : f0.offset = 0) (o1 : f1.offset = 1) (o2 : f2.offset = 33) (o3 : f3.offset = 34) (o4 : f4.offset = 35) (o5 : f5.offset = 36) (o6 : f6.offset = 37) (o7 : f7.offset = 38) (o8 : f8.offset = 39) (o9 : f9.offset = 40) (o10 : f10.offset = 41)
    (h0 : Opens P f0.type (Rp.int .i64)) (h1 : Opens P f1.type Rp.key) (h2 : Opens P f2.type (Rp.int .u64)) (h3 : Opens P f3.type (Rp.slice Rp.key)) (h4 : Opens P f4.type (Rp.slice Rp.key)) (h5 : Opens P f5.type (Rp.slice Rp.key)) (h6 : Opens P f6.type (Rp.slice Rp.key)) (h7 : Opens P f7.type (Rp.slice Rp.key)) (h8 : Opens P f8.type (Rp.slice Rp.bytes)) (h9 : Opens P f9.type (Rp.int .i64)) (h10 : Opens P f10.type Rp.key) : Opens P t Rp.reply := by
  refine ⟨hc, fun {H} enc W spare held fuel cs d p h hw => ?_⟩
  obtain ⟨xs, n, _, hx, hl, hlen, hf⟩ := DataW.trod_struct hu h
  simp only [Prod.mk.injEq] at hx
  obtain ⟨rfl, rfl⟩ := hx
  match xs, hlen with
  | [y0, y1, y2, y3, y4, y5, y6, y7, y8, y9, y10], _ =>
    simp only [DataW.weights, hu, List.map_cons, List.map_nil, DataW.weightsEach, List.all_append, Bool.and_eq_true] at hw
    obtain ⟨w0, w1, w2, w3, w4, w5, w6, w7, w8, w9, w10, _⟩ := hw
    obtain ⟨x0, r0⟩ := h0.part_ o0 (hf 0 f0 rfl) w0
    obtain ⟨x1, r1⟩ := h1.part_ o1 (hf 1 f1 rfl) w1
    obtain ⟨x2, r2⟩ := h2.part_ o2 (hf 2 f2 rfl) w2
    obtain ⟨x3, r3⟩ := h3.part_ o3 (hf 3 f3 rfl) w3
    obtain ⟨x4, r4⟩ := h4.part_ o4 (hf 4 f4 rfl) w4
    obtain ⟨x5, r5⟩ := h5.part_ o5 (hf 5 f5 rfl) w5
    obtain ⟨x6, r6⟩ := h6.part_ o6 (hf 6 f6 rfl) w6
    obtain ⟨x7, r7⟩ := h7.part_ o7 (hf 7 f7 rfl) w7
    obtain ⟨x8, r8⟩ := h8.part_ o8 (hf 8 f8 rfl) w8
    obtain ⟨x9, r9⟩ := h9.part_ o9 (hf 9 f9 rfl) w9
    obtain ⟨x10, r10⟩ := h10.part_ o10 (hf 10 f10 rfl) w10
    exact ⟨⟨x0, x1, x2, x3, x4, x5, x6, x7, x8, x9, x10⟩, Rp.reply_mk (hl.trans hc) r0 r1 r2 r3 r4 r5 r6 r7 r8 r9 r10⟩
theorem Opens.header {P : Program} {t : TypeId} {f0 f1 f2 f3 f4 f5 f6 : Field} (hu : P.underlying t = some (.struct #[f0, f1, f2, f3, f4, f5, f6])) (hc : P.cellsOf t = 131)
    (o0 : f0.offset = 0) (o1 : f1.offset = 1) (o2 : f2.offset = 2) (o3 : f3.offset = 3) (o4 : f4.offset = 35) (o5 : f5.offset = 67) (o6 : f6.offset = 99)
    (h0 : Opens P f0.type (Rp.int .i64)) (h1 : Opens P f1.type (Rp.int .i64)) (h2 : Opens P f2.type (Rp.int .i64)) (h3 : Opens P f3.type Rp.key) (h4 : Opens P f4.type Rp.key) (h5 : Opens P f5.type Rp.key) (h6 : Opens P f6.type Rp.key) : Opens P t Rp.header := by
  refine ⟨hc, fun {H} enc W spare held fuel cs d p h hw => ?_⟩
  obtain ⟨xs, n, _, hx, hl, hlen, hf⟩ := DataW.trod_struct hu h
  simp only [Prod.mk.injEq] at hx
  obtain ⟨rfl, rfl⟩ := hx
  match xs, hlen with
  | [y0, y1, y2, y3, y4, y5, y6], _ =>
    simp only [DataW.weights, hu, List.map_cons, List.map_nil, DataW.weightsEach, List.all_append, Bool.and_eq_true] at hw
    obtain ⟨w0, w1, w2, w3, w4, w5, w6, _⟩ := hw
    obtain ⟨x0, r0⟩ := h0.part_ o0 (hf 0 f0 rfl) w0
    obtain ⟨x1, r1⟩ := h1.part_ o1 (hf 1 f1 rfl) w1
    obtain ⟨x2, r2⟩ := h2.part_ o2 (hf 2 f2 rfl) w2
    obtain ⟨x3, r3⟩ := h3.part_ o3 (hf 3 f3 rfl) w3
    obtain ⟨x4, r4⟩ := h4.part_ o4 (hf 4 f4 rfl) w4
    obtain ⟨x5, r5⟩ := h5.part_ o5 (hf 5 f5 rfl) w5
    obtain ⟨x6, r6⟩ := h6.part_ o6 (hf 6 f6 rfl) w6
    exact ⟨⟨x0, x1, x2, x3, x4, x5, x6⟩, Rp.header_mk (hl.trans hc) r0 r1 r2 r3 r4 r5 r6⟩
theorem Opens.block {P : Program} {t : TypeId} {f0 f1 : Field} (hu : P.underlying t = some (.struct #[f0, f1])) (hc : P.cellsOf t = 132)
    (o0 : f0.offset = 0) (o1 : f1.offset = 131)
    (h0 : Opens P f0.type Rp.header) (h1 : Opens P f1.type (Rp.slice Rp.bytes)) : Opens P t Rp.block := by
  refine ⟨hc, fun {H} enc W spare held fuel cs d p h hw => ?_⟩
  obtain ⟨xs, n, _, hx, hl, hlen, hf⟩ := DataW.trod_struct hu h
  simp only [Prod.mk.injEq] at hx
  obtain ⟨rfl, rfl⟩ := hx
  match xs, hlen with
  | [y0, y1], _ =>
    simp only [DataW.weights, hu, List.map_cons, List.map_nil, DataW.weightsEach, List.all_append, Bool.and_eq_true] at hw
    obtain ⟨w0, w1, _⟩ := hw
    obtain ⟨x0, r0⟩ := h0.part_ o0 (hf 0 f0 rfl) w0
    obtain ⟨x1, r1⟩ := h1.part_ o1 (hf 1 f1 rfl) w1
    exact ⟨⟨x0, x1⟩, Rp.block_mk (hl.trans hc) r0 r1⟩
theorem Opens.tip {P : Program} {t : TypeId} {f0 f1 f2 f3 f4 : Field} (hu : P.underlying t = some (.struct #[f0, f1, f2, f3, f4])) (hc : P.cellsOf t = 98)
    (o0 : f0.offset = 0) (o1 : f1.offset = 1) (o2 : f2.offset = 2) (o3 : f3.offset = 34) (o4 : f4.offset = 66)
    (h0 : Opens P f0.type (Rp.int .i64)) (h1 : Opens P f1.type (Rp.int .i64)) (h2 : Opens P f2.type Rp.key) (h3 : Opens P f3.type Rp.key) (h4 : Opens P f4.type Rp.key) : Opens P t Rp.tip := by
  refine ⟨hc, fun {H} enc W spare held fuel cs d p h hw => ?_⟩
  obtain ⟨xs, n, _, hx, hl, hlen, hf⟩ := DataW.trod_struct hu h
  simp only [Prod.mk.injEq] at hx
  obtain ⟨rfl, rfl⟩ := hx
  match xs, hlen with
  | [y0, y1, y2, y3, y4], _ =>
    simp only [DataW.weights, hu, List.map_cons, List.map_nil, DataW.weightsEach, List.all_append, Bool.and_eq_true] at hw
    obtain ⟨w0, w1, w2, w3, w4, _⟩ := hw
    obtain ⟨x0, r0⟩ := h0.part_ o0 (hf 0 f0 rfl) w0
    obtain ⟨x1, r1⟩ := h1.part_ o1 (hf 1 f1 rfl) w1
    obtain ⟨x2, r2⟩ := h2.part_ o2 (hf 2 f2 rfl) w2
    obtain ⟨x3, r3⟩ := h3.part_ o3 (hf 3 f3 rfl) w3
    obtain ⟨x4, r4⟩ := h4.part_ o4 (hf 4 f4 rfl) w4
    exact ⟨⟨x0, x1, x2, x3, x4⟩, Rp.tip_mk (hl.trans hc) r0 r1 r2 r3 r4⟩
theorem Opens.op {P : Program} {t : TypeId} {f0 f1 f2 f3 f4 : Field} (hu : P.underlying t = some (.struct #[f0, f1, f2, f3, f4])) (hc : P.cellsOf t = 5)
    (o0 : f0.offset = 0) (o1 : f1.offset = 1) (o2 : f2.offset = 2) (o3 : f3.offset = 3) (o4 : f4.offset = 4)
    (h0 : Opens P f0.type (Rp.int .i64)) (h1 : Opens P f1.type (Rp.int .i64)) (h2 : Opens P f2.type (Rp.int .i64)) (h3 : Opens P f3.type (Rp.int .i64)) (h4 : Opens P f4.type Rp.bytes) : Opens P t Rp.op := by
  refine ⟨hc, fun {H} enc W spare held fuel cs d p h hw => ?_⟩
  obtain ⟨xs, n, _, hx, hl, hlen, hf⟩ := DataW.trod_struct hu h
  simp only [Prod.mk.injEq] at hx
  obtain ⟨rfl, rfl⟩ := hx
  match xs, hlen with
  | [y0, y1, y2, y3, y4], _ =>
    simp only [DataW.weights, hu, List.map_cons, List.map_nil, DataW.weightsEach, List.all_append, Bool.and_eq_true] at hw
    obtain ⟨w0, w1, w2, w3, w4, _⟩ := hw
    obtain ⟨x0, r0⟩ := h0.part_ o0 (hf 0 f0 rfl) w0
    obtain ⟨x1, r1⟩ := h1.part_ o1 (hf 1 f1 rfl) w1
    obtain ⟨x2, r2⟩ := h2.part_ o2 (hf 2 f2 rfl) w2
    obtain ⟨x3, r3⟩ := h3.part_ o3 (hf 3 f3 rfl) w3
    obtain ⟨x4, r4⟩ := h4.part_ o4 (hf 4 f4 rfl) w4
    exact ⟨⟨x0, x1, x2, x3, x4⟩, Rp.op_mk (hl.trans hc) r0 r1 r2 r3 r4⟩
theorem Opens.counts {P : Program} {t : TypeId} {f0 f1 f2 f3 f4 f5 f6 f7 f8 : Field} (hu : P.underlying t = some (.struct #[f0, f1, f2, f3, f4, f5, f6, f7, f8])) (hc : P.cellsOf t = 9)
    (o0 : f0.offset = 0) (o1 : f1.offset = 1) (o2 : f2.offset = 2) (o3 : f3.offset = 3) (o4 : f4.offset = 4) (o5 : f5.offset = 5) (o6 : f6.offset = 6) (o7 : f7.offset = 7) (o8 : f8.offset = 8)
    (h0 : Opens P f0.type (Rp.int .i64)) (h1 : Opens P f1.type (Rp.int .i64)) (h2 : Opens P f2.type (Rp.int .i64)) (h3 : Opens P f3.type (Rp.int .i64)) (h4 : Opens P f4.type (Rp.int .i64)) (h5 : Opens P f5.type (Rp.int .i64)) (h6 : Opens P f6.type (Rp.int .i64)) (h7 : Opens P f7.type (Rp.int .i64)) (h8 : Opens P f8.type (Rp.int .i64)) : Opens P t Rp.counts := by
  refine ⟨hc, fun {H} enc W spare held fuel cs d p h hw => ?_⟩
  obtain ⟨xs, n, _, hx, hl, hlen, hf⟩ := DataW.trod_struct hu h
  simp only [Prod.mk.injEq] at hx
  obtain ⟨rfl, rfl⟩ := hx
  match xs, hlen with
  | [y0, y1, y2, y3, y4, y5, y6, y7, y8], _ =>
    simp only [DataW.weights, hu, List.map_cons, List.map_nil, DataW.weightsEach, List.all_append, Bool.and_eq_true] at hw
    obtain ⟨w0, w1, w2, w3, w4, w5, w6, w7, w8, _⟩ := hw
    obtain ⟨x0, r0⟩ := h0.part_ o0 (hf 0 f0 rfl) w0
    obtain ⟨x1, r1⟩ := h1.part_ o1 (hf 1 f1 rfl) w1
    obtain ⟨x2, r2⟩ := h2.part_ o2 (hf 2 f2 rfl) w2
    obtain ⟨x3, r3⟩ := h3.part_ o3 (hf 3 f3 rfl) w3
    obtain ⟨x4, r4⟩ := h4.part_ o4 (hf 4 f4 rfl) w4
    obtain ⟨x5, r5⟩ := h5.part_ o5 (hf 5 f5 rfl) w5
    obtain ⟨x6, r6⟩ := h6.part_ o6 (hf 6 f6 rfl) w6
    obtain ⟨x7, r7⟩ := h7.part_ o7 (hf 7 f7 rfl) w7
    obtain ⟨x8, r8⟩ := h8.part_ o8 (hf 8 f8 rfl) w8
    exact ⟨⟨x0, x1, x2, x3, x4, x5, x6, x7, x8⟩, Rp.counts_mk (hl.trans hc) r0 r1 r2 r3 r4 r5 r6 r7 r8⟩
theorem Opens.netEvent {P : Program} {t : TypeId} {f0 f1 f2 f3 f4 : Field} (hu : P.underlying t = some (.struct #[f0, f1, f2, f3, f4])) (hc : P.cellsOf t = 5)
    (o0 : f0.offset = 0) (o1 : f1.offset = 1) (o2 : f2.offset = 2) (o3 : f3.offset = 3) (o4 : f4.offset = 4)
    (h0 : Opens P f0.type (Rp.int .i64)) (h1 : Opens P f1.type (Rp.int .i64)) (h2 : Opens P f2.type (Rp.int .i64)) (h3 : Opens P f3.type (Rp.int .i64)) (h4 : Opens P f4.type Rp.bytes) : Opens P t Rp.netEvent := by
  refine ⟨hc, fun {H} enc W spare held fuel cs d p h hw => ?_⟩
  obtain ⟨xs, n, _, hx, hl, hlen, hf⟩ := DataW.trod_struct hu h
  simp only [Prod.mk.injEq] at hx
  obtain ⟨rfl, rfl⟩ := hx
  match xs, hlen with
  | [y0, y1, y2, y3, y4], _ =>
    simp only [DataW.weights, hu, List.map_cons, List.map_nil, DataW.weightsEach, List.all_append, Bool.and_eq_true] at hw
    obtain ⟨w0, w1, w2, w3, w4, _⟩ := hw
    obtain ⟨x0, r0⟩ := h0.part_ o0 (hf 0 f0 rfl) w0
    obtain ⟨x1, r1⟩ := h1.part_ o1 (hf 1 f1 rfl) w1
    obtain ⟨x2, r2⟩ := h2.part_ o2 (hf 2 f2 rfl) w2
    obtain ⟨x3, r3⟩ := h3.part_ o3 (hf 3 f3 rfl) w3
    obtain ⟨x4, r4⟩ := h4.part_ o4 (hf 4 f4 rfl) w4
    exact ⟨⟨x0, x1, x2, x3, x4⟩, Rp.netEvent_mk (hl.trans hc) r0 r1 r2 r3 r4⟩
theorem Opens.letter {P : Program} {t : TypeId} {f0 f1 f2 f3 : Field} (hu : P.underlying t = some (.struct #[f0, f1, f2, f3])) (hc : P.cellsOf t = 4)
    (o0 : f0.offset = 0) (o1 : f1.offset = 1) (o2 : f2.offset = 2) (o3 : f3.offset = 3)
    (h0 : Opens P f0.type (Rp.int .i64)) (h1 : Opens P f1.type (Rp.int .i64)) (h2 : Opens P f2.type Rp.bool) (h3 : Opens P f3.type Rp.bytes) : Opens P t Rp.letter := by
  refine ⟨hc, fun {H} enc W spare held fuel cs d p h hw => ?_⟩
  obtain ⟨xs, n, _, hx, hl, hlen, hf⟩ := DataW.trod_struct hu h
  simp only [Prod.mk.injEq] at hx
  obtain ⟨rfl, rfl⟩ := hx
  match xs, hlen with
  | [y0, y1, y2, y3], _ =>
    simp only [DataW.weights, hu, List.map_cons, List.map_nil, DataW.weightsEach, List.all_append, Bool.and_eq_true] at hw
    obtain ⟨w0, w1, w2, w3, _⟩ := hw
    obtain ⟨x0, r0⟩ := h0.part_ o0 (hf 0 f0 rfl) w0
    obtain ⟨x1, r1⟩ := h1.part_ o1 (hf 1 f1 rfl) w1
    obtain ⟨x2, r2⟩ := h2.part_ o2 (hf 2 f2 rfl) w2
    obtain ⟨x3, r3⟩ := h3.part_ o3 (hf 3 f3 rfl) w3
    exact ⟨⟨x0, x1, x2, x3⟩, Rp.letter_mk (hl.trans hc) r0 r1 r2 r3⟩
end Go.Proofs.Ytplkofafnbfkmaa
/- What an argument of a type reads as, as a tree. -/
namespace Go.Proofs.Ytplkofafnbfkmaa
open Go.RowKit Go.ChangeShapes Go.Deep
def allP (W : World) : Prot := fun b _ => b < W.heap.size
mutual
/-- How many values and letters a tree holds. -/
def MV.bulk : MV → Nat
  | .str s => s.length + 1
  | .sl _ l => MV.bulks l + 1
  | .st l => MV.bulks l + 1
  | _ => 1
def MV.bulks : List MV → Nat
  | [] => 0
  | m :: l => MV.bulk m + MV.bulks l
end
theorem bulk_one {H : Type} (d : DataW H) : 1 ≤ Rows.uptoBulk d := by
  cases d with
  | lit l => cases l <;> simp [Rows.uptoBulk]
  | nil => simp [Rows.uptoBulk]
  | ptr d => simp [Rows.uptoBulk]
  | slice elems spare => simp [Rows.uptoBulk]
  | agg parts => simp [Rows.uptoBulk]
  | iface t d => simp [Rows.uptoBulk]
  | map entries => simp [Rows.uptoBulk]
  | held h => simp [Rows.uptoBulk]
theorem bulks_map {H : Type} (f : Nat → MV) (D : Nat → DataW H) : ∀ (l : List Nat), (∀ i ∈ l, (f i).bulk ≤ Rows.uptoBulk (D i)) → MV.bulks (l.map f) ≤ Rows.uptoBulkAll (l.map D)
  | [], _ => Nat.le_refl _
  | i :: l, h => by
    have h1 := h i (by simp)
    have h2 := bulks_map f D l fun j hj => h j (by simp [hj])
    simp only [List.map_cons, MV.bulks, Rows.uptoBulkAll]
    omega
theorem bulks_append : ∀ (a b : List MV), MV.bulks (a ++ b) = MV.bulks a + MV.bulks b
  | [], b => by simp [MV.bulks]
  | x :: a, b => by simp only [List.cons_append, MV.bulks, bulks_append a b]; omega
theorem bulks_len : ∀ (l : List MV), l.length ≤ MV.bulks l
  | [] => Nat.le_refl _
  | x :: l => by
    have := bulks_len l
    have h1 : 1 ≤ MV.bulk x := by cases x <;> simp [MV.bulk]
    simp only [List.length_cons, MV.bulks]; omega
/-- Whatever is read at type t is a tree that meets Q. -/
def Opn (P : Program) (t : TypeId) (n : Nat) (Q : MV → Prop) : Prop :=
  P.cellsOf t = n ∧ ∀ {H : Type} (enc : TypeId × Value → H) (W : World) (spare : Nat → Bool) (held : Bool) (fuel : Nat) (cs : List Value) (d : DataW H) (p : List MemPlace),
    DataW.trod enc P W 0 spare held fuel t cs = some (d, p) → (d.weights P t).all (· ≤ reachBytes) = true → cs.length = n ∧ ∃ m, Q m ∧ Rep W (allP W) noAdr m cs ∧ m.bulk ≤ Rows.uptoBulk d
section
variable {P : Program} {t e : TypeId}
theorem Opn.int {k : IntKind} (hu : P.underlying t = some (.int k)) (hc : P.cellsOf t = 1) : Opn P t 1 fun m => ∃ n, m = .int k n ∧ (Lit.int k n).wf = true :=
  ⟨hc, fun enc W spare held fuel cs d p h _ => by
    obtain ⟨n, rfl, _, hw⟩ := DataW.trod_int hu h
    exact ⟨rfl, _, ⟨n, rfl, hw⟩, .int, bulk_one d⟩⟩
theorem Opn.bool (hu : P.underlying t = some .bool) (hc : P.cellsOf t = 1) : Opn P t 1 fun m => ∃ b, m = .bool b :=
  ⟨hc, fun enc W spare held fuel cs d p h _ => by
    obtain ⟨b, rfl, _⟩ := DataW.trod_bool hu h
    exact ⟨rfl, _, ⟨b, rfl⟩, .bool, bulk_one d⟩⟩
theorem Opn.str (hu : P.underlying t = some .string) (hc : P.cellsOf t = 1) : Opn P t 1 fun m => ∃ s, m = .str s ∧ s.length ≤ 140737488355328 :=
  ⟨hc, fun enc W spare held fuel cs d p h hw => by
    obtain ⟨s, rfl, hx, _⟩ := DataW.trod_string hu h
    simp only [Prod.mk.injEq] at hx
    obtain ⟨rfl, rfl⟩ := hx
    have h2 : s.data.size ≤ reachBytes := by simpa [DataW.weights] using hw
    exact ⟨rfl, _, ⟨s.data.toList, rfl, by simpa using Nat.le_trans h2 reach_le⟩, .str, by simp [MV.bulk, Rows.uptoBulk]⟩⟩
theorem Opn.arr {k : IntKind} {n : Nat} (hu : P.underlying t = some (.array n e)) (he : P.underlying e = some (.int k)) (hc : P.cellsOf t = n) (hce : P.cellsOf e = 1) :
    Opn P t n fun m => ∃ l : List Int, m = .arr n 1 (l.map (.int k)) ∧ l.length = n ∧ ∀ y ∈ l, (Lit.int k y).wf = true := by
  have ho := Opens.arr hu he hc hce
  refine ⟨hc, fun enc W spare held fuel cs d p h hw => ?_⟩
  obtain ⟨x, rfl, hl, hwf⟩ := ho.2 enc W spare held fuel cs d p h hw
  refine ⟨by simpa using hl, _, ⟨x, rfl, hl, hwf⟩, ?_, bulk_one d⟩
  have e0 : x.map (Value.int k) = (x.map fun y => [Value.int k y]).flatten := by
    clear hl hwf h
    induction x with
    | nil => rfl
    | cons a x ih => rw [List.map_cons, List.map_cons, List.flatten_cons, ← ih]; rfl
  rw [e0]
  refine .arr _ (by simpa using hl) (by simpa using hl) (fun p hp => by obtain ⟨y, _, rfl⟩ := List.mem_map.1 hp; rfl) fun j m p hm hp => ?_
  rw [List.getElem?_map] at hm hp
  cases hj : x[j]? with
  | none => rw [hj] at hm; cases hm
  | some y => rw [hj] at hm hp; injection hm with hm; injection hp with hp; subst hm; subst hp; exact .int
theorem Opn.slice {n : Nat} {Q : MV → Prop} (hu : P.underlying t = some (.slice e)) (hc : P.cellsOf t = 1) (hb : 0 < P.bytesOf e) (hpos : 0 < n) (hr : Opn P e n Q) : Opn P t 1 fun m => ∃ l, m = .sl l.length l ∧ (∀ x ∈ l, Q x) ∧ l.length ≤ 140737488355328 := by
  refine ⟨hc, fun {H} enc W spare held fuel cs d p h hw => ?_⟩
  rcases open_slice hu h with ⟨rfl, _⟩ | ⟨a, len, cap, m, nn, D, Pl, rfl, _, hle, _, hm, hx, hi⟩
  · exact ⟨rfl, _, ⟨[], rfl, by simp, by simp⟩, .sl none 0 0 [] rfl rfl (fun p hp => nomatch hp) (fun _ => ⟨rfl, rfl⟩) (Nat.le_refl _) (fun h => absurd rfl h) (fun j m p h => by simp at h), bulk_one _⟩
  · simp only [Prod.mk.injEq] at hx
    obtain ⟨rfl, rfl⟩ := hx
    simp only [DataW.weights, hu, List.all_cons, List.all_append, Bool.and_eq_true, List.length_map, List.length_range] at hw
    have hmle : len ≤ m := by rw [hm]; split <;> omega
    have hlen : len ≤ 140737488355328 := by
      have h1 := of_decide_eq_true hw.1
      have h3 := reach_le
      have h2 : len * 1 ≤ (len + (m - len)) * P.bytesOf e := Nat.mul_le_mul (by omega) hb
      omega
    have key : ∀ i, i < len → ∃ x : MV × List Value, Q x.1 ∧ Rep W (allP W) noAdr x.1 x.2 ∧ x.2.length = n ∧ (∀ j v, x.2[j]? = some v → W.cell? (a.add (i * n + j)) = some v) ∧ x.1.bulk ≤ Rows.uptoBulk (D i) := by
      intro i hil
      obtain ⟨cs', hc', ht⟩ := hi i (by omega)
      rw [hr.1] at hc'
      obtain ⟨_, hl, hat⟩ := World.cells?_some hc'
      have hmem : D i ∈ List.map D (List.range len) := List.mem_map.2 ⟨i, List.mem_range.2 hil, rfl⟩
      obtain ⟨hl2, x, hx1, hx2, hx3⟩ := hr.2 enc W spare held nn cs' (D i) (Pl i) ht (weightsAll_mem hw.2.1 hmem)
      refine ⟨(x, cs'), hx1, hx2, hl2, fun j v hv => ?_, hx3⟩
      have hj : j < cs'.length := (List.getElem?_eq_some_iff.1 hv).1
      have := hat j (by omega)
      rw [Go.Deep.add_add] at this
      rw [this, hv]
    have ex : ∃ f : Nat → MV × List Value, ∀ i, i < len → Q (f i).1 ∧ Rep W (allP W) noAdr (f i).1 (f i).2 ∧ (f i).2.length = n ∧ (∀ j v, (f i).2[j]? = some v → W.cell? (a.add (i * n + j)) = some v) ∧ (f i).1.bulk ≤ Rows.uptoBulk (D i) :=
      ⟨fun i => Classical.epsilon fun x => Q x.1 ∧ Rep W (allP W) noAdr x.1 x.2 ∧ x.2.length = n ∧ (∀ j v, x.2[j]? = some v → W.cell? (a.add (i * n + j)) = some v) ∧ x.1.bulk ≤ Rows.uptoBulk (D i), fun i hil => Classical.epsilon_spec (key i hil)⟩
    obtain ⟨f, hf⟩ := ex
    refine ⟨rfl, .sl len ((List.range len).map fun i => (f i).1), ⟨(List.range len).map fun i => (f i).1, by simp, fun x hx => ?_, by simpa using hlen⟩, ?_, ?_⟩
    · obtain ⟨i, hi, rfl⟩ := List.mem_map.1 hx
      exact (hf i (List.mem_range.1 hi)).1
    case refine_3 =>
      have hb := bulks_map (fun i => (f i).1) D (List.range len) fun i hi => (hf i (List.mem_range.1 hi)).2.2.2.2
      simp only [MV.bulk, Rows.uptoBulk]
      omega
    · obtain ⟨b, o, spot⟩ := a
      have hparts : ∀ p ∈ (List.range len).map fun i => (f i).2, p.length = n := fun p hp => by
        obtain ⟨i, hi, rfl⟩ := List.mem_map.1 hp
        exact (hf i (List.mem_range.1 hi)).2.2.1
      refine .sl _ cap n ((List.range len).map fun i => (f i).2) (by simp) (by simp) hparts (fun h => nomatch h) hle (fun h0 => ?_) fun j m p hm hp => ?_
      · have hspot : spot = none := by
          obtain ⟨_, _, hl, hc', _⟩ := hf 0 (by omega)
          have hv : (f 0).2[0]? = some ((f 0).2[0]'(by omega)) := List.getElem?_eq_getElem (by omega)
          have hcell := hc' 0 _ hv
          have e0 : (⟨b, o, spot⟩ : Addr).add (0 * n + 0) = ⟨b, o, spot⟩ := by simp [Addr.add]
          rw [e0] at hcell
          simpa using World.cell?_spot hcell
        subst hspot
        refine ⟨b, o, rfl, fun j u hj => ?_⟩
        have hjl := (List.getElem?_eq_some_iff.1 hj).1
        rw [flatten_const hparts] at hjl
        simp at hjl
        obtain ⟨i, k, hk, hji⟩ : ∃ i k, k < n ∧ j = i * n + k := ⟨j / n, j % n, Nat.mod_lt _ hpos, by rw [Nat.mul_comm]; exact (Nat.div_add_mod j n).symm⟩
        have hil : i < len := by
          rcases Nat.lt_or_ge i len with h | h
          · exact h
          · have := Nat.mul_le_mul_right n h; omega
        have hget : (f i).2[k]? = some u := by
          have hl := (hf i hil).2.2.1
          have hp : ((List.range len).map fun i => (f i).2)[i]? = some (f i).2 := by simp [hil]
          have h2 : ((List.range len).map fun i => (f i).2).flatten[i * n + k]? = (f i).2[k]? := by
            have hsp := flatten_split hp
            have hpre : (((List.range len).map fun i => (f i).2).take i).flatten.length = i * n := by
              rw [flatten_const fun p hp => hparts p (List.mem_of_mem_take hp)]
              rw [List.length_take, List.length_map, List.length_range, Nat.min_eq_left (Nat.le_of_lt hil)]
            rw [hsp, List.append_assoc, List.getElem?_append_right (by omega), hpre, show i * n + k - i * n = k by omega, List.getElem?_append_left (by omega)]
          rw [← h2, ← hji]; exact hj
        have := (hf i hil).2.2.2.1 k u hget
        rw [Addr.add_mid] at this
        have hc2 : W.cell? ⟨b, o + j, none⟩ = some u := by rw [hji]; exact this
        exact ⟨hc2, World.block_lt_of_cell? W _ hc2⟩
      · rw [List.getElem?_map] at hm hp
        cases hj : (List.range len)[j]? with
        | none => rw [hj] at hm; cases hm
        | some i =>
          rw [hj] at hm hp
          injection hm with hm
          injection hp with hp
          subst hm; subst hp
          have hi : i < len := by
            have := List.mem_range.1 (List.mem_of_getElem? hj)
            exact this
          exact (hf i hi).2.1
theorem lift_list {α : Type} {f : α → MV} {R : α → Prop} : ∀ (l : List MV), (∀ x ∈ l, ∃ a, x = f a ∧ R a) → ∃ us : List α, l = us.map f ∧ ∀ a ∈ us, R a
  | [], _ => ⟨[], rfl, by simp⟩
  | x :: l, h => by
    obtain ⟨a, e, hr⟩ := h x (by simp)
    obtain ⟨us, e2, has⟩ := lift_list l fun y hy => h y (by simp [hy])
    refine ⟨a :: us, by rw [e, e2]; rfl, fun b hb => ?_⟩
    rcases List.mem_cons.1 hb with rfl | hb
    · exact hr
    · exact has b hb
/-- Fields one behind the other. -/
def OpnL (P : Program) : Nat → List Field → List (Nat × (MV → Prop)) → Prop
  | _, [], [] => True
  | o, f :: fs, q :: qs => f.offset = o ∧ Opn P f.type q.1 q.2 ∧ OpnL P (o + q.1) fs qs
  | _, _, _ => False
def sumN : List (Nat × (MV → Prop)) → Nat
  | [] => 0
  | q :: qs => q.1 + sumN qs
def AllQ : List (Nat × (MV → Prop)) → List MV → Prop
  | [], [] => True
  | q :: qs, m :: l => q.2 m ∧ AllQ qs l
  | _, _ => False
theorem OpnL.out {H : Type} (enc : TypeId × Value → H) (W : World) (spare : Nat → Bool) (held : Bool) (fuel : Nat) (cs : List Value) : ∀ (fs : List Field) (qs : List (Nat × (MV → Prop))) (xs : List (DataW H × List MemPlace)) (o : Nat), OpnL P o fs qs → xs.length = fs.length → o + sumN qs = cs.length →
    (∀ (i : Nat) (f : Field), fs[i]? = some f → DataW.trod enc P W 0 spare held fuel f.type ((cs.drop f.offset).take (P.cellsOf f.type)) = xs[i]?) → (∀ (i : Nat) (f : Field) (x : DataW H × List MemPlace), fs[i]? = some f → xs[i]? = some x → (x.1.weights P f.type).all (· ≤ reachBytes) = true) →
    ∃ (l : List MV) (parts : List (List Value)), AllQ qs l ∧ parts.length = l.length ∧ cs.drop o = parts.flatten ∧ MV.bulks l ≤ Rows.uptoBulkAll (xs.map (·.1)) ∧ ∀ (j : Nat) m p, l[j]? = some m → parts[j]? = some p → Rep W (allP W) noAdr m p
  | [], [], _, o, _, _, hs, _, _ => ⟨[], [], trivial, rfl, by simp only [sumN] at hs; rw [List.drop_eq_nil_of_le (by omega)]; rfl, Nat.zero_le _, fun j m p h => by simp at h⟩
  | f :: fs, q :: qs, x :: xs, o, ho, hl, hs, hx, hw => by
    obtain ⟨h1, h2, h3⟩ := ho
    have ht := hx 0 f rfl
    rw [h1, h2.1] at ht
    obtain ⟨d, p⟩ := x
    obtain ⟨hlen, m, hq, hr, hb⟩ := h2.2 enc W spare held fuel _ d p ht (hw 0 f (d, p) rfl rfl)
    obtain ⟨l, parts, a1, a2, a3, a5, a4⟩ := OpnL.out enc W spare held fuel cs fs qs xs (o + q.1) h3 (by simpa using hl) (by simp only [sumN] at hs; omega) (fun i f hf => hx (i + 1) f hf) fun i f x hf hx => hw (i + 1) f x hf hx
    refine ⟨m :: l, (cs.drop o).take q.1 :: parts, ⟨hq, a1⟩, by simp [a2], ?_, by simp only [List.map_cons, MV.bulks, Rows.uptoBulkAll]; omega, fun j m' p' hm hp => ?_⟩
    · rw [List.flatten_cons, ← a3, ← List.drop_drop, List.take_append_drop]
    · cases j with
      | zero => simp at hm hp; subst hm; subst hp; exact hr
      | succ j => exact a4 j m' p' (by simpa using hm) (by simpa using hp)
  | [], _ :: _, _, _, h, _, _, _, _ => h.elim
  | _ :: _, [], _, _, h, _, _, _, _ => h.elim
  | _ :: _, _ :: _, [], _, _, h, _, _, _ => by simp at h
theorem Opn.struct {fs : List Field} {qs : List (Nat × (MV → Prop))} (hu : P.underlying t = some (.struct fs.toArray)) (hc : P.cellsOf t = sumN qs) (h : OpnL P 0 fs qs) : Opn P t (sumN qs) fun m => ∃ l, m = .st l ∧ AllQ qs l := by
  refine ⟨hc, fun {H} enc W spare held fuel cs d p h' hw => ?_⟩
  obtain ⟨xs, n, _, hx, hl, hlen, hf⟩ := DataW.trod_struct hu h'
  simp only [Prod.mk.injEq] at hx
  obtain ⟨rfl, rfl⟩ := hx
  simp only [DataW.weights, hu] at hw
  have hw2 : ∀ (fs : List Field) (xs : List (DataW H × List MemPlace)), (DataW.weightsEach P (fs.map (·.type)) (xs.map (·.1))).all (· ≤ reachBytes) = true → ∀ (i : Nat) (f : Field) (x : DataW H × List MemPlace), fs[i]? = some f → xs[i]? = some x → (x.1.weights P f.type).all (· ≤ reachBytes) = true := by
    intro fs
    induction fs with
    | nil => intro xs _ i f x hf; simp at hf
    | cons g fs ih =>
      intro xs hw i f x hf hx
      cases xs with
      | nil => simp at hx
      | cons y xs =>
        simp only [List.map_cons, DataW.weightsEach, List.all_append, Bool.and_eq_true] at hw
        cases i with
        | zero => simp at hf hx; subst hf; subst hx; exact hw.1
        | succ i => exact ih xs hw.2 i f x (by simpa using hf) (by simpa using hx)
  obtain ⟨l, parts, a1, a2, a3, a5, a4⟩ := OpnL.out enc W spare held n cs fs qs xs 0 h (by simpa using hlen) (by rw [hl, hc]; omega) (fun i f hi => hf i f (by simpa using hi)) (hw2 fs xs (by simpa using hw))
  rw [List.drop_zero] at a3
  exact ⟨hl.trans hc, .st l, ⟨l, rfl, a1⟩, by rw [a3]; exact .st parts a2 a4, by simp only [MV.bulk, Rows.uptoBulk]; omega⟩
end
end Go.Proofs.Ytplkofafnbfkmaa
/- What the frames of plain rows share. -/
namespace Go.Proofs.Ytplkofafnbfkmaa
open Go.ChangeShapes Go.WideShapes Go.ChangeAt Go.RowKit
theorem own : ownKnob Try.prog.godebug = none := by kernel_rfl
theorem laidOut : laidOutB Try.prog = true := by kernel_rfl
/-- Nothing is asked of the world. -/
def G0 : GS := ⟨fun _ => True, fun _ => False, fun _ _ _ h => h.elim, fun _ _ _ _ _ _ => trivial⟩
theorem opn_int : Opn Try.prog 3 1 fun m => ∃ n, m = .int .i64 n ∧ (Lit.int .i64 n).wf = true := Opn.int Try.underlying3 (by kernel_rfl)
theorem opn_ints : Opn Try.prog 23 1 fun m => ∃ l, m = .sl l.length l ∧ (∀ x ∈ l, ∃ n, x = .int .i64 n ∧ (Lit.int .i64 n).wf = true) ∧ l.length ≤ 140737488355328 := Opn.slice Try.underlying23 (by kernel_rfl) (Nat.le_of_ble_eq_true (by kernel_rfl)) (by omega) opn_int
theorem ints_lift {m : MV} (h : ∃ l, m = .sl l.length l ∧ (∀ x ∈ l, ∃ n, x = .int .i64 n ∧ (Lit.int .i64 n).wf = true) ∧ l.length ≤ 140737488355328) : ∃ xs : List Int, m = intsM xs ∧ xs.length ≤ 140737488355328 := by
  obtain ⟨l, rfl, h, hl⟩ := h
  obtain ⟨us, rfl, _⟩ := lift_list l h
  exact ⟨us, by unfold intsM; rw [List.length_map], by simpa using hl⟩
end Go.Proofs.Ytplkofafnbfkmaa
/- Entries as arguments. -/
namespace Go.Proofs.Ytplkofafnbfkmaa
open Go.ChangeShapes Go.WideShapes Go.ChangeAt Go.RowKit
theorem u8_lift : ∀ (l : List Int), (∀ y ∈ l, (Lit.int .u8 y).wf = true) → ∃ bs : List UInt8, l.map (MV.int .u8) = u8s bs ∧ bs.length = l.length
  | [], _ => ⟨[], rfl, rfl⟩
  | y :: l, h => by
    obtain ⟨bs, h1, h2⟩ := u8_lift l fun z hz => h z (by simp [hz])
    have hy := h y (by simp)
    have hy : 0 ≤ y ∧ y < 256 := by
      simp [Lit.wf, IntKind.min, IntKind.max, IntKind.signed, IntKind.bits] at hy
      omega
    refine ⟨UInt8.ofNat y.toNat :: bs, ?_, by simp [h2]⟩
    show MV.int .u8 y :: l.map (MV.int .u8) = MV.int .u8 ((UInt8.ofNat y.toNat).toNat : Int) :: u8s bs
    rw [h1, UInt8.toNat_ofNat']
    congr 2
    omega
theorem opn_u8s : Opn Try.prog 48 1 fun m => ∃ l, m = .sl l.length l ∧ (∀ x ∈ l, ∃ n, x = .int .u8 n ∧ (Lit.int .u8 n).wf = true) ∧ l.length ≤ 140737488355328 := Opn.slice Try.underlying48 (by kernel_rfl) (Nat.le_of_ble_eq_true (by kernel_rfl)) (by omega) (Opn.int Try.underlying5 (by kernel_rfl))
def okRaw (m : MV) : Prop := ∃ l, m = .sl l.length l ∧ (∀ x ∈ l, ∃ n, x = .int .u8 n ∧ (Lit.int .u8 n).wf = true) ∧ l.length ≤ 140737488355328
def okInts (m : MV) : Prop := ∃ l, m = .sl l.length l ∧ (∀ x ∈ l, ∃ n, x = .int .i64 n ∧ (Lit.int .i64 n).wf = true) ∧ l.length ≤ 140737488355328
def okNum (k : IntKind) (m : MV) : Prop := ∃ n, m = .int k n ∧ (Lit.int k n).wf = true
def okKey (m : MV) : Prop := ∃ l : List Int, m = .arr 32 1 (l.map (.int .u8)) ∧ l.length = 32 ∧ ∀ y ∈ l, (Lit.int .u8 y).wf = true
def okStr (m : MV) : Prop := ∃ s, m = .str s ∧ s.length ≤ 140737488355328
def qsE : List (Nat × (MV → Prop)) := [(32, okKey), (1, okRaw), (1, okStr), (1, okNum .u64), (1, okNum .u64), (1, okNum .u64), (1, okNum .i64), (1, okNum .i64), (1, okNum .i64), (1, okInts)]
theorem OpnL.cons {P : Program} {o n : Nat} {Q : MV → Prop} {f : Field} {fs : List Field} {qs : List (Nat × (MV → Prop))} (h1 : f.offset = o) (h2 : Opn P f.type n Q) (h3 : OpnL P (o + n) fs qs) : OpnL P o (f :: fs) ((n, Q) :: qs) := ⟨h1, h2, h3⟩
theorem OpnL.nil {P : Program} {o : Nat} : OpnL P o [] [] := trivial
theorem opn_key : Opn Try.prog 47 32 okKey := Opn.arr Try.underlying47 Try.underlying5 (by kernel_rfl) (by kernel_rfl)
theorem opn_str : Opn Try.prog 9 1 okStr := Opn.str Try.underlying9 (by kernel_rfl)
theorem opn_u64 : Opn Try.prog 33 1 (okNum .u64) := Opn.int Try.underlying33 (by kernel_rfl)
theorem opn_i64 : Opn Try.prog 3 1 (okNum .i64) := opn_int
theorem opn_raw : Opn Try.prog 48 1 okRaw := opn_u8s
theorem opn_nums : Opn Try.prog 23 1 okInts := opn_ints
theorem opn_entry : Opn Try.prog 50 41 fun m => ∃ l, m = .st l ∧ AllQ qsE l := by
  refine Opn.struct (P := Try.prog) (qs := qsE) Try.underlying50 (by kernel_rfl) ?_
  unfold qsE
  refine .cons rfl opn_key ?_
  refine .cons rfl opn_raw ?_
  refine .cons rfl opn_str ?_
  refine .cons rfl opn_u64 ?_
  refine .cons rfl opn_u64 ?_
  refine .cons rfl opn_u64 ?_
  refine .cons rfl opn_i64 ?_
  refine .cons rfl opn_i64 ?_
  refine .cons rfl opn_i64 ?_
  refine .cons rfl opn_nums ?_
  exact .nil
theorem opn_entries : Opn Try.prog 22 1 fun m => ∃ l, m = .sl l.length l ∧ (∀ x ∈ l, ∃ y, x = .st y ∧ AllQ qsE y) ∧ l.length ≤ 140737488355328 := Opn.slice Try.underlying22 (by kernel_rfl) (Nat.le_of_ble_eq_true (by kernel_rfl)) (by omega) opn_entry
def WfE (e : Ent) : Prop := e.key.length = 32 ∧ e.raw.length ≤ 140737488355328 ∧ e.sender.length ≤ 140737488355328 ∧ e.peers.length ≤ 140737488355328
theorem AllQ.cons {q : Nat × (MV → Prop)} {qs : List (Nat × (MV → Prop))} : ∀ {l : List MV}, AllQ (q :: qs) l → ∃ m r, l = m :: r ∧ q.2 m ∧ AllQ qs r
  | [], h => h.elim
  | m :: r, h => ⟨m, r, rfl, h.1, h.2⟩
theorem AllQ.nil : ∀ {l : List MV}, AllQ [] l → l = []
  | [], _ => rfl
  | _ :: _, h => h.elim
theorem entry_lift {m : MV} (h : ∃ l, m = .st l ∧ AllQ qsE l) : ∃ e : Ent, m = entM e ∧ WfE e := by
  obtain ⟨l, rfl, h⟩ := h
  unfold qsE at h
  obtain ⟨_, l1, rfl, ⟨k, rfl, hk1, hk2⟩, g1⟩ := h.cons
  obtain ⟨_, l2, rfl, ⟨r, rfl, hr1, hr2⟩, g2⟩ := g1.cons
  obtain ⟨_, l3, rfl, ⟨s, rfl, hs⟩, g3⟩ := g2.cons
  obtain ⟨_, l4, rfl, ⟨a3, rfl, _⟩, g4⟩ := g3.cons
  obtain ⟨_, l5, rfl, ⟨a4, rfl, _⟩, g5⟩ := g4.cons
  obtain ⟨_, l6, rfl, ⟨a5, rfl, _⟩, g6⟩ := g5.cons
  obtain ⟨_, l7, rfl, ⟨a6, rfl, _⟩, g7⟩ := g6.cons
  obtain ⟨_, l8, rfl, ⟨a7, rfl, _⟩, g8⟩ := g7.cons
  obtain ⟨_, l9, rfl, ⟨a8, rfl, _⟩, g9⟩ := g8.cons
  obtain ⟨_, l10, rfl, ⟨p, rfl, hp1, hp2⟩, g10⟩ := g9.cons
  obtain rfl := g10.nil
  obtain ⟨kb, hkb, hkl⟩ := u8_lift k hk2
  obtain ⟨ri, rfl, hri⟩ := lift_list r hr1
  obtain ⟨rb, hrb, hrl⟩ := u8_lift ri hri
  obtain ⟨pi, rfl, hpi⟩ := lift_list p hp1
  refine ⟨⟨kb, rb, s, a3, a4, a5, a6, a7, a8, pi⟩, ?_, by show kb.length = 32; omega, by show rb.length ≤ _; rw [List.length_map] at hr2; omega, hs, by show pi.length ≤ _; rw [List.length_map] at hp2; omega⟩
  unfold entM keyM intsM
  rw [hkb, hrb]
  simp [u8s, hrl]
def weighE (e : Ent) : Nat := e.raw.length + e.sender.length + e.peers.length
def weighS (l : List Ent) : Nat := (l.map weighE).sum
theorem ent_bulk (e : Ent) : weighE e + 1 ≤ (entM e).bulk := by
  have h1 := bulks_len (u8s e.raw)
  have h2 := bulks_len (e.peers.map (MV.int .i64))
  simp only [u8s, List.length_map] at h1 h2
  unfold entM intsM keyM u8s weighE
  simp only [MV.bulk, MV.bulks]
  omega
theorem ents_bulk : ∀ (l : List Ent), l.length + weighS l ≤ MV.bulks (l.map entM)
  | [] => Nat.le_refl _
  | e :: l => by
    have h1 := ent_bulk e
    have h2 := ents_bulk l
    unfold weighS at h2 ⊢
    simp only [List.map_cons, List.sum_cons, List.length_cons, MV.bulks]
    omega
theorem entries_lift {m : MV} (h : ∃ l, m = .sl l.length l ∧ (∀ x ∈ l, ∃ y, x = .st y ∧ AllQ qsE y) ∧ l.length ≤ 140737488355328) {B : Nat} (hB : m.bulk ≤ B) : ∃ es : List Ent, m = .sl es.length (es.map entM) ∧ (∀ e ∈ es, WfE e) ∧ es.length + weighS es ≤ B := by
  obtain ⟨l, rfl, h, hl⟩ := h
  have h2 : ∀ x ∈ l, ∃ e : Ent, x = entM e ∧ WfE e := fun x hx => entry_lift (h x hx)
  obtain ⟨es, rfl, he⟩ := lift_list l h2
  have := ents_bulk es
  simp only [MV.bulk] at hB
  exact ⟨es, by rw [List.length_map], he, by omega⟩
end Go.Proofs.Ytplkofafnbfkmaa
/- The fixed example. -/
namespace Go.Proofs.Ytplkofafnbfkmaa
open Go.RowKit
variable {G : GS}
def smallE (n : Nat) (p : Int) : Ent := ⟨UInt8.ofNat n :: List.replicate 31 0, [UInt8.ofNat n], [], 0, 0, p, 0, 0, n, []⟩
set_option maxHeartbeats 1000000 in
set_option maxRecDepth 20000 in
theorem small_r (n : Nat) (hn : n < 4) (p : Int) : SemR Try.prog G 21 [.int .i64 n, .int .u64 p] [] 0 (entM (smallE n p)) [] 0 := by
  have h4 : n = 0 ∨ n = 1 ∨ n = 2 ∨ n = 3 := by omega
  rcases h4 with rfl | rfl | rfl | rfl <;> unfold entM <;> (
    refine semR_of_vc seat Try.func21 rfl rfl (Nat.le_of_ble_eq_true rfl) (Nat.le_of_ble_eq_true rfl) (N := 14) rfl rfl ?_
    refine go1 ?_
    refine go0 ?_
    refine ⟨[_], [], [(6, 1)], rfl, rfl, ?_, rfl, ⟨?_, trivial⟩, ?_⟩
    · exact ⟨by show 1 ≤ 1; omega, trivial⟩
    · exact .inr ⟨_, rfl, lm⟩
    · exact mm)
def keyK (n : Nat) : List UInt8 := UInt8.ofNat n :: List.replicate 31 0
def exL : List Ent := [smallE 1 1, smallE 2 2, smallE 3 2]
theorem ex1 : selS 2 1 3 100 exL = ([keyK 1], true) := by decide
theorem ex2 : selS 3 1 1 100 exL = ([keyK 1, keyK 3, keyK 2], true) := by decide
theorem ex3 : selS 3 1 0 100 [] = ([], false) := by decide
theorem exL_ok : ∀ e ∈ exL, e.raw.length ≤ 1000000 ∧ e.peers.length < 536870912 := by
  intro e he
  simp only [exL, List.mem_cons, List.not_mem_nil, or_false] at he
  rcases he with rfl | rfl | rfl <;> exact ⟨by decide, by decide⟩
set_option maxHeartbeats 4000000 in
set_option maxRecDepth 20000 in
theorem known_m : SemC Try.prog G 9 [] (.bool true) := by
  have c1 := select_r (G := G) exL (by decide) exL_ok 2 1 3 100 (by decide) (by decide)
  have c2 := select_r (G := G) exL (by decide) exL_ok 3 1 1 100 (by decide) (by decide)
  have c3 := select_r (G := G) [] (by decide) (by simp) 3 1 0 100 (by decide) (by decide)
  rw [ex1] at c1
  rw [ex2] at c2
  rw [ex3] at c3
  refine semC_of_vc seat Try.func9 rfl rfl (Nat.le_of_ble_eq_true rfl) (Nat.le_of_ble_eq_true rfl) (N := 48) rfl ?_
  refine go1 ?_
  refine g_callR1 rfl (fun _ h => h) rfl (small_r 1 (by omega) 1) [] [] ⟨rfl, trivial, rfl, lm, mm⟩ rfl rfl ?_
  refine go1 ?_
  refine g_callR1 rfl (fun _ h => h) rfl (small_r 2 (by omega) 2) [] [] ⟨rfl, trivial, rfl, lm, mm⟩ rfl rfl ?_
  refine go1 ?_
  refine g_callR1 rfl (fun _ h => h) rfl (small_r 3 (by omega) 2) [] [] ⟨rfl, trivial, rfl, lm, mm⟩ rfl rfl ?_
  refine go1 ?_
  refine g_call1 rfl (fun _ h => h) rfl (c1) rfl [(1, 3)] mm lm ?_
  refine go1 ?_
  refine g_call1 rfl (fun _ h => h) rfl (c2) rfl [(1, 3)] mm lm ?_
  refine go1 ?_
  refine g_call2 rfl (fun _ h => h) rfl (c3) rfl lm ?_
  refine go1 ?_
  refine g_call1 rfl (fun _ h => h) rfl (semR_of_semC (sameKeys_m [keyK 1] [keyK 1] (by decide) (by decide) (by decide) (by decide))) rfl [(24, 1)] mm lm ?_
  rw [decide_eq_true rfl]
  refine go1 ?_
  refine g_call1 rfl (fun _ h => h) rfl (semR_of_semC (sameKeys_m [keyK 1, keyK 3, keyK 2] [keyK 1, keyK 3, keyK 2] (by decide) (by decide) (by decide) (by decide))) rfl [(34, 3)] mm lm ?_
  rw [decide_eq_true rfl]
  refine go1 ?_
  refine go0 ?_
  rfl
end Go.Proofs.Ytplkofafnbfkmaa
/- What the statements about eviction say, in plain words. -/
namespace Go.Proofs.Ytplkofafnbfkmaa
/-- Where the choice ends, and why. -/
theorem selG_out (p s t m : Int) : ∀ (O : List Ent) (c b : Int), ∃ k, k ≤ O.length ∧ selG p s t m O c b = (O.take k, c - k, b - bytesS (O.take k)) ∧
    (∀ j (hj : j < O.length), j < k → roomS (c - j) (b - bytesS (O.take j)) s t m = false ∧ O[j].prio < p)
  | [], c, b => ⟨0, Nat.le_refl _, by simp [selG, bytesS], fun j hj => absurd hj (Nat.not_lt_zero _)⟩
  | e :: l, c, b => by
    rw [selG]
    cases hr : roomS c b s t m || decide (p ≤ e.prio) with
    | true => exact ⟨0, Nat.zero_le _, by simp [bytesS], fun j hj h => absurd h (Nat.not_lt_zero _)⟩
    | false =>
      obtain ⟨k, h1, h2, h3⟩ := selG_out p s t m l (c - 1) (b - e.raw.length)
      rw [Bool.or_eq_false_iff] at hr
      have hb : ∀ j, b - e.raw.length - bytesS (l.take j) = b - bytesS ((e :: l).take (j + 1)) := fun j => by
        rw [List.take_succ_cons]; simp [bytesS]; omega
      refine ⟨k + 1, by simp; omega, ?_, fun j hj hjk => ?_⟩
      · rw [h2, hb]
        simp only [List.take_succ_cons, Prod.mk.injEq, true_and, and_true]
        omega
      · cases j with
        | zero => exact ⟨by simpa [bytesS] using hr.1, by have := of_decide_eq_false hr.2; simpa using this⟩
        | succ j =>
          have := h3 j (by simpa using hj) (by omega)
          rw [hb] at this
          refine ⟨?_, by simpa using this.2⟩
          rw [← this.1]
          congr 1
          omega
theorem selS_false {p s t m : Int} {l : List Ent} (h : (selS p s t m l).2 = false) : (selS p s t m l).1 = [] := by
  unfold selS at h ⊢
  generalize selG p s t m (orderS l) l.length (bytesS l) = r at *
  obtain ⟨v, c, b⟩ := r
  dsimp only at h ⊢
  cases hr : roomS c b s t m with
  | true => rw [hr] at h; cases h
  | false => rfl
theorem selS_true {p s t m : Int} {l : List Ent} (h : (selS p s t m l).2 = true) : ∃ k, k ≤ (orderS l).length ∧ (selS p s t m l).1 = ((orderS l).take k).map (·.key) ∧
    (∀ j (hj : j < (orderS l).length), j < k → roomS ((l.length : Int) - j) ((bytesS l : Int) - bytesS ((orderS l).take j)) s t m = false ∧ (orderS l)[j].prio < p) ∧ roomS ((l.length : Int) - k) ((bytesS l : Int) - bytesS ((orderS l).take k)) s t m = true := by
  obtain ⟨k, h1, h2, h3⟩ := selG_out p s t m (orderS l) l.length (bytesS l)
  refine ⟨k, h1, ?_, h3, ?_⟩
  · unfold selS at h ⊢
    rw [h2] at h ⊢
    dsimp only at h ⊢
    cases hr : roomS ((l.length : Int) - k) ((bytesS l : Int) - bytesS ((orderS l).take k)) s t m with
    | true => rfl
    | false => rw [hr] at h; cases h
  · unfold selS at h
    rw [h2] at h
    dsimp only at h
    cases hr : roomS ((l.length : Int) - k) ((bytesS l : Int) - bytesS ((orderS l).take k)) s t m with
    | true => rfl
    | false => rw [hr] at h; cases h
theorem order_sorted (l : List Ent) : (orderS l).Pairwise fun a b => a.prio ≤ b.prio := by
  have h : (orderS l) = (srt (tag 0 l.reverse)).map (·.1) := (srt_tag 0 l.reverse).symm
  rw [h, List.pairwise_map]
  exact (srt_srt _ (ne_of_lt (tag_lt _ _))).imp fun hxy => by unfold ltT at hxy; omega
theorem room_iff (c b s t m : Int) (hs : 0 ≤ s) (hm : 0 ≤ m) : roomS c b s t m = decide (c + 1 ≤ t ∧ b + s ≤ m) := by
  unfold roomS
  exact decide_eq_decide.2 (by omega)
def lowS (p : Int) (l : List Ent) : List Ent := l.filter fun e => decide (e.prio < p)
theorem sel_room (p s t m : Int) : ∀ (O : List Ent), O.Pairwise (fun a b => a.prio ≤ b.prio) → ∀ (c b : Int),
    roomS (selG p s t m O c b).2.1 (selG p s t m O c b).2.2 s t m = roomS (c - (lowS p O).length) (b - bytesS (lowS p O)) s t m
  | [], _, c, b => by simp [selG, lowS, bytesS]
  | e :: l, h, c, b => by
    obtain ⟨h1, h2⟩ := List.pairwise_cons.1 h
    rw [selG]
    cases hr : roomS c b s t m with
    | true =>
      rw [Bool.true_or]
      dsimp only
      rw [hr]
      unfold roomS at hr ⊢
      have := of_decide_eq_true hr
      exact (decide_eq_true (by omega)).symm
    | false =>
      rw [Bool.false_or]
      cases hp : decide (p ≤ e.prio) with
      | true =>
        have hp := of_decide_eq_true hp
        have : lowS p (e :: l) = [] := by
          unfold lowS
          rw [List.filter_eq_nil_iff]
          intro x hx
          rcases List.mem_cons.1 hx with rfl | hx
          · simp; omega
          · have := h1 x hx; simp; omega
        rw [this]
        simp [bytesS]
      | false =>
        have hp := of_decide_eq_false hp
        have : lowS p (e :: l) = e :: lowS p l := by unfold lowS; rw [List.filter_cons_of_pos (by simp; omega)]
        have ih := sel_room p s t m l h2 (c - 1) (b - e.raw.length)
        generalize hg : selG p s t m l (c - 1) (b - e.raw.length) = r at *
        obtain ⟨v, c', b'⟩ := r
        dsimp only at ih ⊢
        rw [ih, this]
        have e1 : c - 1 - ((lowS p l).length : Int) = c - ((e :: lowS p l).length : Nat) := by simp; omega
        have e2 : b - (e.raw.length : Int) - bytesS (lowS p l) = b - bytesS (e :: lowS p l) := by simp [bytesS]; omega
        rw [e1, e2]
/-- Whether there are victims: whether there would be room without all entries of lesser priority. -/
theorem selS_ok (p s t m : Int) (l : List Ent) : (selS p s t m l).2 = roomS ((l.length : Int) - (lowS p l).length) ((bytesS l : Int) - bytesS (lowS p l)) s t m := by
  have h := sel_room p s t m (orderS l) (order_sorted l) l.length (bytesS l)
  have hp : (lowS p (orderS l)).Perm (lowS p l) := (order_perm l).filter _
  rw [hp.length_eq, bytes_perm hp] at h
  rw [← h]
  unfold selS
  generalize selG p s t m (orderS l) l.length (bytesS l) = r at *
  obtain ⟨v, c, b⟩ := r
  dsimp only
  cases hr : roomS c b s t m <;> rfl
/-- The entries that are made are small. -/
def SmallE (e : Ent) : Prop := e.key.length = 32 ∧ e.raw.length ≤ 8 ∧ e.peers.length ≤ 2
theorem entryS_small (L : List Int) (N : Nat) : SmallE (entryS L N).1 := by
  have h1 := (nextN_eq L N 9 (by omega)).2
  have h2 := (nextN_eq L (N + 1 + nextN L N 9 + 7) 3 (by omega)).2
  refine ⟨entryS_key L N, ?_, ?_⟩
  · simp only [entryS, rawE_len]; omega
  · simp only [entryS, peersE, List.length_map, List.length_range]; omega
theorem laterE_small {e : Ent} (n : Int) (h : SmallE e) : SmallE (laterE e n) := h
theorem entriesS_small (L : List Int) : ∀ (i N : Nat) (out : List Ent), (∀ e ∈ out, SmallE e) → (∀ e ∈ (entriesS L i N out).1, SmallE e) ∧ (entriesS L i N out).1.length ≤ out.length + i
  | 0, N, out, h => ⟨h, Nat.le_refl _⟩
  | i + 1, N, out, h => by
    rw [entriesS]
    split
    · have := entriesS_small L i (entryS L N).2 out h
      exact ⟨this.1, by omega⟩
    · have := entriesS_small L i ((entryS L N).2 + 1) (out ++ [laterE (entryS L N).1 (out.length * nextN L (entryS L N).2 2 : Nat)]) fun e he => by
        rcases List.mem_append.1 he with h1 | h1
        · exact h e h1
        · rw [List.mem_singleton.1 h1]; exact laterE_small _ (entryS_small L N)
      exact ⟨this.1, by have h2 := this.2; rw [List.length_append] at h2; simp only [List.length_cons, List.length_nil] at h2; omega⟩
end Go.Proofs.Ytplkofafnbfkmaa
/- Few and small entries; EvictOrders: the walk. -/
namespace Go.Proofs.Ytplkofafnbfkmaa
open Go.RowKit
variable {G : GS}
theorem weigh_succ (l : List Ent) {k : Nat} (hk : k < l.length) : weighS (l.take (k + 1)) = weighS (l.take k) + weighE l[k] := by
  unfold weighS
  rw [List.take_succ_eq_append_getElem hk, List.map_append, List.sum_append]; simp
theorem weigh_take (l : List Ent) (k : Nat) : weighS (l.take k) ≤ weighS l := by
  have : weighS (l.take k) + weighS (l.drop k) = weighS l := by
    unfold weighS
    rw [← List.sum_append, ← List.map_append, List.take_append_drop]
  omega
theorem weigh_mem {l : List Ent} {e : Ent} (h : e ∈ l) : weighE e ≤ weighS l := by
  induction l with
  | nil => cases h
  | cons x l ih =>
    unfold weighS at ih ⊢
    simp only [List.map_cons, List.sum_cons]
    rcases List.mem_cons.1 h with rfl | h
    · omega
    · have := ih h; omega
set_option maxHeartbeats 2000000 in
set_option maxRecDepth 20000 in
theorem raw_m (l : List Ent) (hl : l.length + weighS l ≤ 1048576) : SemC Try.prog G 8 [.sl l.length (l.map entM)] (.bool (decide (l.length + weighS l < 200))) := by
  refine semC_of_vc seat Try.func8 rfl rfl (Nat.le_of_ble_eq_true rfl) (Nat.le_of_ble_eq_true rfl) (N := 30) rfl ?_
  refine go1 ?_
  refine c_loop Nat (fun k => [(10, .int .i64 k), (9, .int .i64 l.length), (8, .sl l.length (l.map entM)), (3, .int .i64 ((l.length + weighS (l.take k) : Nat) : Int))]) (fun _ => []) 0 (fun k => k ≤ l.length) (fun k => l.length - k) 0 (Nat.zero_le _) ?_ ?_
  · try dsimp only
    rw [show l.length + weighS (l.take 0) = l.length by simp [weighS]]
    exact (vm [] [])
  intro k hk
  try dsimp only
  have hw := weigh_take l k
  refine go1 ?_
  ((with_reducible apply c_cond); (case he => exact rfl); (all_goals intro h))
  · have hk' : k < l.length := by have := of_decide_eq_true h; omega
    have hs := weigh_succ l hk'
    have hw2 := weigh_take l (k + 1)
    have hel := ents_at hk'
    unfold weighE at hs
    generalize l[k] = e at *
    generalize weighS (l.take k) = v at *
    (have fct := SomF.mk (hel); refine go1 ?_)
    refine ⟨k + 1, by show k + 1 ≤ l.length; omega, by show l.length - (k + 1) < l.length - k; omega, ?_⟩
    dsimp only
    rw [hs]
    exact (vm [] [])
  · have hk' : k = l.length := by have := of_decide_eq_false h; omega
    subst hk'
    rw [List.take_length]
    refine go1 ?_
    refine go0 ?_
    exact congrArg MV.bool (decide_eq_decide.2 (by omega))
/-- Entries that are few and small. -/
def FewE (l : List Ent) : Prop := l.length < 1000000 ∧ ∀ e ∈ l, e.key.length = 32 ∧ e.raw.length ≤ 1000000 ∧ e.peers.length < 536870912
theorem few_arg {l : List Ent} (h1 : ∀ e ∈ l, WfE e) (h2 : l.length + weighS l < 200) : FewE l := ⟨by omega, fun e he => by
  have h := weigh_mem he
  have hk := (h1 e he).1
  unfold weighE at h
  omega⟩
theorem few_made {l : List Ent} (h1 : ∀ e ∈ l, SmallE e) (h2 : l.length ≤ 10) : FewE l := ⟨by omega, fun e he => by
  have h := h1 e he
  unfold SmallE at h
  omega⟩
theorem few_order {l : List Ent} (h : FewE l) : FewE (orderS l) := ⟨by rw [order_len]; exact h.1, fun e he => h.2 e ((order_perm l).mem_iff.1 he)⟩
theorem sameOrder_m (l : List Ent) (h : FewE l) : SemC Try.prog G 12 [.sl l.length ((orderS l).map entM), .sl l.length ((orderS l).map entM)] (.bool true) := by
  have ho := few_order h
  have hs := sameEntries_m (G := G) (orderS l) (by have := ho.1; omega) fun e he => by have := ho.2 e he; omega
  rw [order_len] at hs
  exact hs
set_option maxHeartbeats 8000000 in
set_option maxRecDepth 20000 in
theorem evictOrders_core (l : List Ent) (hl : (∀ e ∈ l, WfE e) ∧ l.length + weighS l ≤ 1048576) (k : List Int) (hk : k.length ≤ 140737488355328) :
    SemC Try.prog G0 3 [.sl l.length (l.map entM), intsM k] (.bool true) := by
  have hlg := long_m (G := G0) k hk
  have hraw := raw_m (G := G0) l hl.2
  have hsm := entriesS_small k (nextN k 0 11) 1 [] (by simp)
  have h11 := (nextN_eq k 0 11 (by omega)).2
  have hent := entries_r (G := G0) k 10 (by omega)
  generalize entriesS k (nextN k 0 (10 + 1)) 1 [] = en at *
  obtain ⟨m, N'⟩ := en
  dsimp only at hsm hent
  obtain ⟨hsm, hml⟩ := hsm
  have hml : m.length ≤ 10 := by simp at hml; omega
  have fm := few_made hsm hml
  have om := order_r (G := G0) m fm.1 fun e he => by have := fm.2 e he; omega
  have rm := rorder_r (G := G0) m fm.1
  have sm := sameOrder_m (G := G0) m fm
  by_cases hlong : 160 < k.length
  · rw [decide_eq_true hlong] at hlg
    refine semC_of_vc seat Try.func3 rfl rfl (Nat.le_of_ble_eq_true rfl) (Nat.le_of_ble_eq_true rfl) (N := 33) rfl ?_
    refine go1 ?_
    refine g_callR1 rfl (fun _ h => h) rfl (semR_of_semC hlg) [] [(2, 1)] ⟨rfl, mm, rfl, lm, mm⟩ rfl rfl ?_
    refine go1 ?_
    refine g_call2 rfl (fun _ h => h) rfl (semR_of_semC (known_m)) rfl lm ?_
    refine go1 ?_
    refine go0 ?_
    rfl
  rw [decide_eq_false hlong] at hlg
  by_cases hsmall : l.length + weighS l < 200
  case neg =>
    rw [decide_eq_false hsmall] at hraw
    refine semC_of_vc seat Try.func3 rfl rfl (Nat.le_of_ble_eq_true rfl) (Nat.le_of_ble_eq_true rfl) (N := 33) rfl ?_
    refine go1 ?_
    refine g_callR1 rfl (fun _ h => h) rfl (semR_of_semC hlg) [] [(2, 1)] ⟨rfl, mm, rfl, lm, mm⟩ rfl rfl ?_
    refine go1 ?_
    refine g_call2 rfl (fun _ h => h) rfl (semR_of_semC (hraw)) rfl lm ?_
    refine go1 ?_
    refine g_call2 rfl (fun _ h => h) rfl (semR_of_semC (known_m)) rfl lm ?_
    refine go1 ?_
    refine go0 ?_
    rfl
  rw [decide_eq_true hsmall] at hraw
  have fl := few_arg hl.1 hsmall
  have ol := order_r (G := G0) l fl.1 fun e he => by have := fl.2 e he; omega
  have rl := rorder_r (G := G0) l fl.1
  have sl := sameOrder_m (G := G0) l fl
  refine semC_of_vc seat Try.func3 rfl rfl (Nat.le_of_ble_eq_true rfl) (Nat.le_of_ble_eq_true rfl) (N := 33) rfl ?_
  refine go1 ?_
  refine g_callR1 rfl (fun _ h => h) rfl (semR_of_semC hlg) [] [(2, 1)] ⟨rfl, mm, rfl, lm, mm⟩ rfl rfl ?_
  refine go1 ?_
  refine g_call2 rfl (fun _ h => h) rfl (semR_of_semC (hraw)) rfl lm ?_
  refine go1 ?_
  refine g_callR1 rfl (fun _ h => h) rfl (from_r k) [] [] ⟨rfl, trivial, rfl, lm, mm⟩ rfl rfl ?_
  refine go1 ?_
  refine g_callR1 rfl (fun _ h => h) rfl (hent) [(0, _)] [] ⟨rfl, trivial, rfl, lm, mm⟩ rfl rfl ?_
  refine go1 ?_
  refine g_call2 rfl (fun _ h => h) rfl (ol) rfl lm ?_
  refine go1 ?_
  refine g_call2 rfl (fun _ h => h) rfl (rl) rfl lm ?_
  refine go1 ?_
  refine g_call2 rfl (fun _ h => h) rfl (semR_of_semC (sl)) rfl lm ?_
  refine go1 ?_
  refine g_call2 rfl (fun _ h => h) rfl (om) rfl lm ?_
  refine go1 ?_
  refine g_call2 rfl (fun _ h => h) rfl (rm) rfl lm ?_
  refine go1 ?_
  refine g_call2 rfl (fun _ h => h) rfl (semR_of_semC (sm)) rfl lm ?_
  refine go1 ?_
  refine g_call2 rfl (fun _ h => h) rfl (semR_of_semC (known_m)) rfl lm ?_
  refine go1 ?_
  refine go0 ?_
  rfl
end Go.Proofs.Ytplkofafnbfkmaa
/- EvictSelects: the walk. -/
namespace Go.Proofs.Ytplkofafnbfkmaa
open Go.RowKit
variable {G : GS}
theorem selS_small {l : List Ent} (h : FewE l) (p s t m : Int) : (selS p s t m l).1.length < 1000000 ∧ ∀ v ∈ (selS p s t m l).1, v.length = 32 := by
  have h0 := h.1
  have hl := order_len l
  obtain ⟨k, h1, h2, _⟩ := selG_out p s t m (orderS l) l.length (bytesS l)
  unfold selS
  rw [h2]
  dsimp only
  split
  · refine ⟨by dsimp only; rw [List.length_map, List.length_take]; omega, fun v hv => ?_⟩
    obtain ⟨e, he, rfl⟩ := List.mem_map.1 hv
    exact ((few_order h).2 e (List.mem_of_mem_take he)).1
  · exact ⟨by simp, fun v hv => by simp at hv⟩
theorem i64_rng {s : Int} (h : (Lit.int .i64 s).wf = true) : -9223372036854775808 ≤ s ∧ s < 9223372036854775808 := by
  simp [Lit.wf, IntKind.min, IntKind.max, IntKind.signed, IntKind.bits] at h
  omega
theorem entryS_N (L : List Int) (N : Nat) : (entryS L N).2 ≤ N + 20 := by
  have h1 := (nextN_eq L N 9 (by omega)).2
  have h2 := (nextN_eq L (N + 1 + nextN L N 9 + 7) 3 (by omega)).2
  simp only [entryS]
  omega
theorem entriesS_N (L : List Int) : ∀ (i N : Nat) (out : List Ent), (entriesS L i N out).2 ≤ N + 21 * i
  | 0, N, out => Nat.le_refl _
  | i + 1, N, out => by
    have h1 := entryS_N L N
    rw [entriesS]
    split
    · have := entriesS_N L i (entryS L N).2 out
      omega
    · have := entriesS_N L i ((entryS L N).2 + 1) (out ++ [laterE (entryS L N).1 (out.length * nextN L (entryS L N).2 2 : Nat)])
      omega
abbrev slE (l : List Ent) : MV := .sl l.length (l.map entM)
abbrev tri (a b c : Int) : MV := .arr 3 1 [.int .i64 a, .int .i64 b, .int .i64 c]
theorem pick2 {l m : List Ent} (hl : FewE l) (hm : FewE m) {i : Nat} (hi : i < 2) : ∃ X, idxL [slE l, slE m] 2 (i : Int) = some (slE X) ∧ FewE X := by
  have h : i = 0 ∨ i = 1 := by omega
  rcases h with rfl | rfl
  · exact ⟨l, rfl, hl⟩
  · exact ⟨m, rfl, hm⟩
theorem pickU {p q : Int} {i : Nat} (hi : i < 2) : ∃ P, idxL [.int .u64 p, .int .u64 q] 2 (i : Int) = some (.int .u64 P) := by
  have h : i = 0 ∨ i = 1 := by omega
  rcases h with rfl | rfl
  · exact ⟨p, rfl⟩
  · exact ⟨q, rfl⟩
def In64 (s : Int) : Prop := -9223372036854775808 ≤ s ∧ s < 9223372036854775808
theorem pickT {a1 b1 c1 a2 b2 c2 a3 c3 a4 b4 : Int} (h1 : In64 a1 ∧ In64 b1 ∧ In64 c1) (h2 : In64 a2 ∧ In64 b2 ∧ In64 c2) (h3 : In64 a3 ∧ In64 c3) (h4 : In64 a4 ∧ In64 b4) {i : Nat} (hi : i < 4) :
    ∃ a b c, idxL [tri a1 b1 c1, tri a2 b2 c2, tri a3 100 c3, tri a4 b4 1000] 4 (i : Int) = some (tri a b c) ∧ In64 a ∧ In64 b ∧ In64 c := by
  have h : i = 0 ∨ i = 1 ∨ i = 2 ∨ i = 3 := by omega
  rcases h with rfl | rfl | rfl | rfl
  · exact ⟨a1, b1, c1, rfl, h1⟩
  · exact ⟨a2, b2, c2, rfl, h2⟩
  · exact ⟨a3, 100, c3, rfl, h3.1, by unfold In64; omega, h3.2⟩
  · exact ⟨a4, b4, 1000, rfl, h4.1, h4.2, by unfold In64; omega⟩
set_option maxHeartbeats 16000000 in
set_option maxRecDepth 20000 in
theorem evictSelects_core (l : List Ent) (hl : (∀ e ∈ l, WfE e) ∧ l.length + weighS l ≤ 1048576) (k : List Int) (hk : k.length ≤ 140737488355328) (p : Int) (_wp : (Lit.int .u64 p).wf = true) (s : Int) (ws : (Lit.int .i64 s).wf = true) (t : Int) (wt : (Lit.int .i64 t).wf = true) (b : Int) (wb : (Lit.int .i64 b).wf = true) :
    SemC Try.prog G0 4 [.sl l.length (l.map entM), intsM k, .int .u64 p, .int .i64 s, .int .i64 t, .int .i64 b] (.bool true) := by
  have hs := i64_rng ws
  have ht := i64_rng wt
  have hb := i64_rng wb
  have hlg := long_m (G := G0) k hk
  have hraw := raw_m (G := G0) l hl.2
  have hsm := entriesS_small k (nextN k 0 11) 1 [] (by simp)
  have h11 := (nextN_eq k 0 11 (by omega)).2
  have hNN := entriesS_N k (nextN k 0 11) 1 []
  have hent := entries_r (G := G0) k 10 (by omega)
  generalize entriesS k (nextN k 0 (10 + 1)) 1 [] = en at *
  obtain ⟨m, N'⟩ := en
  dsimp only at hsm hent hNN
  obtain ⟨hsm, hml⟩ := hsm
  have hml : m.length ≤ 10 := by simp at hml; omega
  have hNN : N' ≤ 300 := by omega
  have fm := few_made hsm hml
  by_cases hlong : 160 < k.length
  · rw [decide_eq_true hlong] at hlg
    refine semC_of_vc seat Try.func4 rfl rfl (Nat.le_of_ble_eq_true rfl) (Nat.le_of_ble_eq_true rfl) (N := 120) rfl ?_
    refine go1 ?_
    refine g_callR1 rfl (fun _ h => h) rfl (semR_of_semC hlg) [] [(2, 1)] ⟨rfl, mm, rfl, lm, mm⟩ rfl rfl ?_
    refine go1 ?_
    refine g_call2 rfl (fun _ h => h) rfl (semR_of_semC (known_m)) rfl lm ?_
    refine go1 ?_
    refine go0 ?_
    rfl
  rw [decide_eq_false hlong] at hlg
  by_cases hsmall : l.length + weighS l < 200
  case neg =>
    rw [decide_eq_false hsmall] at hraw
    refine semC_of_vc seat Try.func4 rfl rfl (Nat.le_of_ble_eq_true rfl) (Nat.le_of_ble_eq_true rfl) (N := 120) rfl ?_
    refine go1 ?_
    refine g_callR1 rfl (fun _ h => h) rfl (semR_of_semC hlg) [] [(2, 1)] ⟨rfl, mm, rfl, lm, mm⟩ rfl rfl ?_
    refine go1 ?_
    refine g_call2 rfl (fun _ h => h) rfl (semR_of_semC (hraw)) rfl lm ?_
    refine go1 ?_
    refine g_call2 rfl (fun _ h => h) rfl (semR_of_semC (known_m)) rfl lm ?_
    refine go1 ?_
    refine go0 ?_
    rfl
  rw [decide_eq_true hsmall] at hraw
  have fl := few_arg hl.1 hsmall
  refine semC_of_vc seat Try.func4 rfl rfl (Nat.le_of_ble_eq_true rfl) (Nat.le_of_ble_eq_true rfl) (N := 120) rfl ?_
  refine go1 ?_
  refine g_callR1 rfl (fun _ h => h) rfl (semR_of_semC hlg) [] [(2, 1)] ⟨rfl, mm, rfl, lm, mm⟩ rfl rfl ?_
  refine go1 ?_
  refine g_call2 rfl (fun _ h => h) rfl (semR_of_semC (hraw)) rfl lm ?_
  refine go1 ?_
  refine g_callR1 rfl (fun _ h => h) rfl (from_r k) [] [] ⟨rfl, trivial, rfl, lm, mm⟩ rfl rfl ?_
  refine go1 ?_
  refine g_callR1 rfl (fun _ h => h) rfl (hent) [(0, _)] [] ⟨rfl, trivial, rfl, lm, mm⟩ rfl rfl ?_
  refine go1 ?_
  refine c_loop (Nat × Nat) (fun x => [(42, .int .i64 x.1), (41, .int .i64 2), (40, .sl 2 [slE l, slE m]), (13, .ptr 0 2 0 0 []), (2, .int .u64 p), (3, .int .i64 s), (4, .int .i64 t), (5, .int .i64 b)]) (fun x => numB k x.2) 1 (fun x => x.1 ≤ 2 ∧ x.2 ≤ 300 + 15 * x.1) (fun x => 2 - x.1) (0, N') ⟨by dsimp only; omega, by dsimp only; omega⟩ (by dsimp only; exact (vm [(0, _)] [(15, 2)])) ?_
  rintro ⟨i, N⟩ ⟨hi, hN⟩
  try dsimp only
  dsimp only at hi hN
  refine go1 ?_
  ((with_reducible apply c_cond); (case he => exact rfl); (all_goals intro h))
  · have hi' : i < 2 := by have := of_decide_eq_true h; omega
    obtain ⟨X, hX, fX⟩ := pick2 fl fm hi'
    have h7 := (nextN_eq k N 7 (by omega)).2
    (have fct := SomF.mk (hX); refine go1 ?_)
    refine g_callR1 rfl (fun _ h => h) rfl (next_n k N 7 (by omega) (by omega) (by omega)) [(0, _)] [] ⟨rfl, trivial, rfl, lm, mm⟩ rfl rfl ?_
    refine go1 ?_
    refine c_loop (Nat × Nat) (fun x => [(52, .int .i64 x.1), (51, .int .i64 2), (50, .sl 2 [.int .u64 p, .int .u64 (nextN k N 7)]), (16, slE X), (42, .int .i64 i), (41, .int .i64 2), (40, .sl 2 [slE l, slE m]), (13, .ptr 0 2 0 0 []), (2, .int .u64 p), (3, .int .i64 s), (4, .int .i64 t), (5, .int .i64 b)]) (fun x => numB k x.2) 1 (fun x => x.1 ≤ 2 ∧ x.2 ≤ N + 1 + 7 * x.1) (fun x => 2 - x.1) (0, N + 1) ⟨by dsimp only; omega, by dsimp only; omega⟩ (by dsimp only; exact (vm [(0, _)] [(9, 2)])) ?_
    rintro ⟨j, M⟩ ⟨hj, hM⟩
    try dsimp only
    dsimp only at hj hM
    refine go1 ?_
    ((with_reducible apply c_cond); (case he => exact rfl); (all_goals intro h))
    · have hj' : j < 2 := by have := of_decide_eq_true h; omega
      obtain ⟨P, hP⟩ := pickU (p := p) (q := nextN k N 7) hj'
      have e1 := (nextN_eq k M 9 (by omega)).2
      have e2 := (nextN_eq k (M + 1) 13 (by omega)).2
      have e3 := (nextN_eq k (M + 2) 60 (by omega)).2
      have e4 := (nextN_eq k (M + 3) 9 (by omega)).2
      have e5 := (nextN_eq k (M + 4) 60 (by omega)).2
      have e6 := (nextN_eq k (M + 5) 9 (by omega)).2
      have e7 := (nextN_eq k (M + 6) 13 (by omega)).2
      (have fct := SomF.mk (hP); refine go1 ?_)
      refine g_callR1 rfl (fun _ h => h) rfl (next_n k M 9 (by omega) (by omega) (by omega)) [(0, _)] [] ⟨rfl, trivial, rfl, lm, mm⟩ rfl rfl ?_
      refine go1 ?_
      refine g_callR1 rfl (fun _ h => h) rfl (next_n k (M + 1) 13 (by omega) (by omega) (by omega)) [(0, _)] [] ⟨rfl, trivial, rfl, lm, mm⟩ rfl rfl ?_
      refine go1 ?_
      refine g_callR1 rfl (fun _ h => h) rfl (next_n k (M + 2) 60 (by omega) (by omega) (by omega)) [(0, _)] [] ⟨rfl, trivial, rfl, lm, mm⟩ rfl rfl ?_
      refine go1 ?_
      refine g_callR1 rfl (fun _ h => h) rfl (next_n k (M + 3) 9 (by omega) (by omega) (by omega)) [(0, _)] [] ⟨rfl, trivial, rfl, lm, mm⟩ rfl rfl ?_
      refine go1 ?_
      refine g_callR1 rfl (fun _ h => h) rfl (next_n k (M + 4) 60 (by omega) (by omega) (by omega)) [(0, _)] [] ⟨rfl, trivial, rfl, lm, mm⟩ rfl rfl ?_
      refine go1 ?_
      refine g_callR1 rfl (fun _ h => h) rfl (next_n k (M + 5) 9 (by omega) (by omega) (by omega)) [(0, _)] [] ⟨rfl, trivial, rfl, lm, mm⟩ rfl rfl ?_
      refine go1 ?_
      refine g_callR1 rfl (fun _ h => h) rfl (next_n k (M + 6) 13 (by omega) (by omega) (by omega)) [(0, _)] [] ⟨rfl, trivial, rfl, lm, mm⟩ rfl rfl ?_
      refine go1 ?_
      generalize nextN k M 9 = v1 at *
      generalize nextN k (M + 1) 13 = v2 at *
      generalize nextN k (M + 2) 60 = v3 at *
      generalize nextN k (M + 3) 9 = v4 at *
      generalize nextN k (M + 4) 60 = v5 at *
      generalize nextN k (M + 5) 9 = v6 at *
      generalize nextN k (M + 6) 13 = v7 at *
      refine c_loop Nat (fun r => [(79, .int .i64 r), (78, .int .i64 4), (77, .sl 4 [tri s t b, tri v1 v2 v3, tri v4 100 v5, tri v6 v7 1000]), (18, .int .u64 P), (52, .int .i64 j), (51, .int .i64 2), (50, .sl 2 [.int .u64 p, .int .u64 (nextN k N 7)]), (16, slE X), (42, .int .i64 i), (41, .int .i64 2), (40, .sl 2 [slE l, slE m]), (13, .ptr 0 2 0 0 []), (2, .int .u64 p), (3, .int .i64 s), (4, .int .i64 t), (5, .int .i64 b)]) (fun _ => numB k (M + 7)) 1 (fun r => r ≤ 4) (fun r => 4 - r) 0 (Nat.zero_le _) (by dsimp only; exact (vm [(0, _)] [(26, 4)])) ?_
      intro r hr
      try dsimp only
      refine go1 ?_
      ((with_reducible apply c_cond); (case he => exact rfl); (all_goals intro h))
      · have hr' : r < 4 := by have := of_decide_eq_true h; omega
        obtain ⟨a, bb, c, hT, ra, rb, rc⟩ := pickT (a1 := s) (b1 := t) (c1 := b) (a2 := v1) (b2 := v2) (c2 := v3) (a3 := v4) (c3 := v5) (a4 := v6) (b4 := v7) ⟨hs, ht, hb⟩ (by unfold In64; omega) (by unfold In64; omega) (by unfold In64; omega) hr'
        have c1 := select_r (G := G0) X fX.1 (fun e he => (fX.2 e he).2) P a bb c ra rc.2
        have c2 := rselect_r (G := G0) X fX.1 (fun e he => (fX.2 e he).2.1) P a bb c ra rc
        have hv := selS_small fX P a bb c
        generalize selS P a bb c X = rr at *
        obtain ⟨vs, ok⟩ := rr
        dsimp only at hv
        unfold selM at c1 c2
        dsimp only at c1 c2
        have c3 := sameKeys_m (G := G0) vs vs hv.1 hv.1 hv.2 hv.2
        rw [decide_eq_true rfl] at c3
        (have fct := SomF.mk (hT); refine go1 ?_)
        cases ok with
        | false =>
          refine go1 ?_
          refine g_call2 rfl (fun _ h => h) rfl (c1) rfl lm ?_
          refine go1 ?_
          refine g_call2 rfl (fun _ h => h) rfl (c2) rfl lm ?_
          refine go1 ?_
          refine g_call2 rfl (fun _ h => h) rfl (semR_of_semC (c3)) rfl lm ?_
          refine go1 ?_
          exact ⟨r + 1, by show r + 1 ≤ 4; omega, by show 4 - (r + 1) < 4 - r; omega, (by dsimp only; exact (vm [(0, _)] []))⟩
        | true =>
          refine go1 ?_
          refine g_call2 rfl (fun _ h => h) rfl (c1) rfl lm ?_
          refine go1 ?_
          refine g_call2 rfl (fun _ h => h) rfl (c2) rfl lm ?_
          refine go1 ?_
          refine g_call2 rfl (fun _ h => h) rfl (semR_of_semC (c3)) rfl lm ?_
          refine go1 ?_
          exact ⟨r + 1, by show r + 1 ≤ 4; omega, by show 4 - (r + 1) < 4 - r; omega, (by dsimp only; exact (vm [(0, _)] []))⟩
      · refine go1 ?_
        exact ⟨(j + 1, M + 7), ⟨by dsimp only; omega, by dsimp only; omega⟩, by dsimp only; omega, (by dsimp only; exact (vm [(0, _)] []))⟩
    · refine go1 ?_
      exact ⟨(i + 1, M), ⟨by dsimp only; omega, by dsimp only; omega⟩, by dsimp only; omega, (by dsimp only; exact (vm [(0, _)] []))⟩
  · refine go1 ?_
    refine g_call2 rfl (fun _ h => h) rfl (semR_of_semC (known_m)) rfl lm ?_
    refine go1 ?_
    refine go0 ?_
    rfl
end Go.Proofs.Ytplkofafnbfkmaa
