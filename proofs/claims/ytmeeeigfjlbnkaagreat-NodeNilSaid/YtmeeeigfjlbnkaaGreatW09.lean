/- Parts of a proof, one behind the other: Opens, Opn, S1, PFrame, EV7, EV8. -/
import GoSem.ClaimJoined
import Derived.Test.YtmeeeigfjlbnkaaGreatRows
import Derived.WalkKit
import Derived.ProofKit
import Derived.OpenShut
import Derived.SizedLaws
import Derived.Test.YtmeeeigfjlbnkaaGreatW08
namespace Go.Proofs.YtmeeeigfjlbnkaaGreat
open Go.RowKit Go.ChangeShapes Go.Deep
theorem reach_le : reachBytes ≤ 140737488355328 := by decide
def Opens (P : Program) (t : TypeId) {α : Type} (r : Rp α) : Prop :=
  P.cellsOf t = r.size ∧ ∀ {H : Type} (enc : TypeId × Value → H) (W : World) (spare : Nat → Bool) (held : Bool) (fuel : Nat) (cs : List Value) (d : DataW H) (p : List MemPlace),
    DataW.trod enc P W 0 spare held fuel t cs = some (d, p) → (d.weights P t).all (· ≤ reachBytes) = true → ∃ x, r.rel W (Lt W.heap.size) cs x
theorem Opens.part_ {P : Program} {α : Type} {r : Rp α} {f : Field} {o : Nat} {H : Type} {enc : TypeId × Value → H} {W : World} {spare : Nat → Bool} {held : Bool} {n : Nat} {cs : List Value} {y : DataW H × List MemPlace}
    (h : Opens P f.type r) (ho : f.offset = o) (ht : DataW.trod enc P W 0 spare held n f.type ((cs.drop f.offset).take (P.cellsOf f.type)) = some y) (hw : (y.1.weights P f.type).all (· ≤ reachBytes) = true) :
    ∃ x, r.rel W (Lt W.heap.size) ((cs.drop o).take r.size) x := by
  obtain ⟨d, p⟩ := y
  rw [ho, h.1] at ht
  exact h.2 enc W spare held n _ d p ht hw
theorem Opens.int {P : Program} {t : TypeId} {k : IntKind} (hu : P.underlying t = some (.int k)) (hc : P.cellsOf t = 1) : Opens P t (Rp.int k) :=
  ⟨hc, fun enc W spare held fuel cs d p h _ => by
    obtain ⟨n, rfl, _, hw⟩ := DataW.trod_int hu h
    exact ⟨n, rfl, hw⟩⟩
theorem Opens.bool {P : Program} {t : TypeId} (hu : P.underlying t = some .bool) (hc : P.cellsOf t = 1) : Opens P t Rp.bool :=
  ⟨hc, fun enc W spare held fuel cs d p h _ => by
    obtain ⟨b, rfl, _⟩ := DataW.trod_bool hu h
    exact ⟨b, rfl⟩⟩
theorem Opens.str {P : Program} {t : TypeId} (hu : P.underlying t = some .string) (hc : P.cellsOf t = 1) : Opens P t Rp.str :=
  ⟨hc, fun enc W spare held fuel cs d p h hw => by
    obtain ⟨s, rfl, hx, _⟩ := DataW.trod_string hu h
    simp only [Prod.mk.injEq] at hx
    obtain ⟨rfl, rfl⟩ := hx
    have h2 : s.data.size ≤ reachBytes := by simpa [DataW.weights] using hw
    exact ⟨s, rfl, Nat.le_trans h2 reach_le⟩⟩
theorem Opens.arr {P : Program} {t e : TypeId} {k : IntKind} {n : Nat} (hu : P.underlying t = some (.array n e)) (he : P.underlying e = some (.int k)) (hc : P.cellsOf t = n) (hce : P.cellsOf e = 1) : Opens P t (Rp.arr k n) :=
  ⟨hc, fun enc W spare held fuel cs d p h hw => by
    obtain ⟨xs, m, _, _, hl, hlen, hi⟩ := DataW.trod_array hu h
    have key : ∀ i, i < n → ∃ y, cs[i]? = some (.int k y) ∧ (Lit.int k y).wf = true := by
      intro i hin
      have h1 := hi i hin
      rw [hce] at h1
      have hxi : xs[i]? = some (xs[i]'(by omega)) := List.getElem?_eq_getElem (by omega)
      rw [hxi] at h1
      obtain ⟨y, hy, _, hwf⟩ := DataW.trod_int he h1
      rw [Nat.mul_one] at hy
      exact ⟨y, take1 hy, hwf⟩
    refine ⟨cs.map fun | .int _ y => y | _ => 0, ?_, ?_, ?_⟩
    · apply List.ext_getElem?
      intro i
      rw [List.getElem?_map, List.getElem?_map]
      rcases Nat.lt_or_ge i n with hin | hin
      · obtain ⟨y, hy, _⟩ := key i hin
        rw [hy]; rfl
      · rw [List.getElem?_eq_none (by omega)]; rfl
    · simp; omega
    · intro y hy
      obtain ⟨v, hv, rfl⟩ := List.mem_map.1 hy
      obtain ⟨i, hi', rfl⟩ := List.mem_iff_getElem.1 hv
      obtain ⟨y, hy, hwf⟩ := key i (by omega)
      rw [List.getElem?_eq_getElem hi'] at hy
      injection hy with hy
      rw [hy]; exact hwf⟩
theorem Opens.key {P : Program} {t e : TypeId} (hu : P.underlying t = some (.array 32 e)) (he : P.underlying e = some (.int .u8)) (hc : P.cellsOf t = 32) (hce : P.cellsOf e = 1) : Opens P t Rp.key := Opens.arr hu he hc hce
theorem weightsAll_mem {H : Type} {P : Program} {e : TypeId} {l : List (DataW H)} (h : (DataW.weightsAll P e l).all (· ≤ reachBytes) = true) {d : DataW H} (hd : d ∈ l) : (d.weights P e).all (· ≤ reachBytes) = true := by
  induction l with
  | nil => cases hd
  | cons x l ih =>
    simp only [DataW.weightsAll, List.all_append, Bool.and_eq_true] at h
    rcases List.mem_cons.1 hd with rfl | hd
    · exact h.1
    · exact ih h.2 hd
theorem Opens.slice {P : Program} {t e : TypeId} {α : Type} {r : Rp α} (hu : P.underlying t = some (.slice e)) (hc : P.cellsOf t = 1) (hb : 0 < P.bytesOf e) (hpos : 0 < r.size) (hr : Opens P e r) : Opens P t (Rp.slice r) := by
  refine ⟨hc, fun {H} enc W spare held fuel cs d p h hw => ?_⟩
  rcases open_slice hu h with ⟨rfl, _⟩ | ⟨a, len, cap, m, n, D, Pl, rfl, _, hle, _, hm, hx, hi⟩
  · exact ⟨[], none, 0, rfl, by simp, fun h => absurd rfl h⟩
  · simp only [Prod.mk.injEq] at hx
    obtain ⟨rfl, rfl⟩ := hx
    simp only [DataW.weights, hu, List.all_cons, List.all_append, Bool.and_eq_true, List.length_map, List.length_range] at hw
    have hmle : len ≤ m := by rw [hm]; split <;> omega
    have hlen : len ≤ 140737488355328 := by
      have h1 := of_decide_eq_true hw.1
      have h3 := reach_le
      have h2 : len * 1 ≤ (len + (m - len)) * P.bytesOf e := Nat.mul_le_mul (by omega) hb
      omega
    have key : ∀ i, i < len → ∃ x cs', r.rel W (Lt W.heap.size) cs' x ∧ (∀ j v, cs'[j]? = some v → W.cell? (a.add (i * r.size + j)) = some v) := by
      intro i hil
      obtain ⟨cs', hc', ht⟩ := hi i (by omega)
      rw [hr.1] at hc'
      obtain ⟨_, hl, hat⟩ := World.cells?_some hc'
      have hmem : D i ∈ List.map D (List.range len) := List.mem_map.2 ⟨i, List.mem_range.2 hil, rfl⟩
      obtain ⟨x, hx⟩ := hr.2 enc W spare held n cs' (D i) (Pl i) ht (weightsAll_mem hw.2.1 hmem)
      refine ⟨x, cs', hx, fun j v hv => ?_⟩
      have hj := (List.getElem?_eq_some_iff.1 hv).1
      have := hat j (by omega)
      rw [Go.Deep.add_add] at this
      rw [this, hv]
    by_cases h0 : len = 0
    · subst h0
      exact ⟨[], some a, cap, rfl, by simp, fun h => absurd rfl h⟩
    have ex : ∃ f : Nat → α, ∀ i, i < len → ∃ cs', r.rel W (Lt W.heap.size) cs' (f i) ∧ (∀ j v, cs'[j]? = some v → W.cell? (a.add (i * r.size + j)) = some v) := by
      obtain ⟨x0, _⟩ := key 0 (by omega)
      have : Nonempty α := ⟨x0⟩
      refine ⟨fun i => Classical.epsilon fun x => ∃ cs', r.rel W (Lt W.heap.size) cs' x ∧ (∀ j v, cs'[j]? = some v → W.cell? (a.add (i * r.size + j)) = some v), fun i hil => ?_⟩
      exact Classical.epsilon_spec (key i hil)
    obtain ⟨f, hf⟩ := ex
    obtain ⟨b, o, spot⟩ := a
    have hspot : spot = none ∧ b < W.heap.size := by
      obtain ⟨cs', hr', hc'⟩ := hf 0 (by omega)
      have hl := r.len hr'
      have hv : cs'[0]? = some (cs'[0]'(by omega)) := List.getElem?_eq_getElem (by omega)
      have hcell := hc' 0 _ hv
      have e0 : (⟨b, o, spot⟩ : Addr).add (0 * r.size + 0) = ⟨b, o, spot⟩ := by simp [Addr.add]
      rw [e0] at hcell
      exact ⟨by simpa using World.cell?_spot hcell, World.block_lt_of_cell? W _ hcell⟩
    obtain ⟨rfl, hblt⟩ := hspot
    refine ⟨(List.range len).map f, some ⟨b, o, none⟩, cap, by simp, by simpa using hlen, fun _ => ⟨b, o, rfl, hblt, fun i x hx => ?_⟩⟩
    have hil : i < len := by
      have := (List.getElem?_eq_some_iff.1 hx).1
      simpa using this
    have hxi : x = f i := by
      simp [List.getElem?_range hil] at hx
      exact hx.symm
    subst hxi
    obtain ⟨cs', hr', hc'⟩ := hf i hil
    refine ⟨cs', hr', fun j v hv => ?_⟩
    have := hc' j v hv
    rw [Addr.add_mid] at this
    rw [Nat.add_assoc]
    exact this
theorem Opens.field {P : Program} {t : TypeId} {f0 f1 f2 f3 : Field} (hu : P.underlying t = some (.struct #[f0, f1, f2, f3])) (hc : P.cellsOf t = 4)
    (o0 : f0.offset = 0) (o1 : f1.offset = 1) (o2 : f2.offset = 2) (o3 : f3.offset = 3)
    (h0 : Opens P f0.type (Rp.int .i64)) (h1 : Opens P f1.type (Rp.int .i64)) (h2 : Opens P f2.type (Rp.int .u64)) (h3 : Opens P f3.type Rp.bytes) : Opens P t Rp.field := by
  refine ⟨hc, fun {H} enc W spare held fuel cs d p h hw => ?_⟩
  obtain ⟨xs, n, _, hx, hl, hlen, hf⟩ := DataW.trod_struct hu h
  simp only [Prod.mk.injEq] at hx
  obtain ⟨rfl, rfl⟩ := hx
  match xs, hlen with
  | [y0, y1, y2, y3], _ =>
    simp only [DataW.weights, hu, List.map_cons, List.map_nil, DataW.weightsEach, List.all_append, Bool.and_eq_true] at hw
    obtain ⟨w0, w1, w2, w3, _⟩ := hw
    obtain ⟨x0, r0⟩ := h0.part_ o0 (hf 0 f0 rfl) w0
    obtain ⟨x1, r1⟩ := h1.part_ o1 (hf 1 f1 rfl) w1
    obtain ⟨x2, r2⟩ := h2.part_ o2 (hf 2 f2 rfl) w2
    obtain ⟨x3, r3⟩ := h3.part_ o3 (hf 3 f3 rfl) w3
    exact ⟨⟨x0, x1, x2, x3⟩, Rp.field_mk (hl.trans hc) r0 r1 r2 r3⟩
theorem Opens.account {P : Program} {t : TypeId} {f0 f1 f2 : Field} (hu : P.underlying t = some (.struct #[f0, f1, f2])) (hc : P.cellsOf t = 3)
    (o0 : f0.offset = 0) (o1 : f1.offset = 1) (o2 : f2.offset = 2)
    (h0 : Opens P f0.type Rp.str) (h1 : Opens P f1.type (Rp.int .u64)) (h2 : Opens P f2.type (Rp.int .u64)) : Opens P t Rp.account := by
  refine ⟨hc, fun {H} enc W spare held fuel cs d p h hw => ?_⟩
  obtain ⟨xs, n, _, hx, hl, hlen, hf⟩ := DataW.trod_struct hu h
  simp only [Prod.mk.injEq] at hx
  obtain ⟨rfl, rfl⟩ := hx
  match xs, hlen with
  | [y0, y1, y2], _ =>
    simp only [DataW.weights, hu, List.map_cons, List.map_nil, DataW.weightsEach, List.all_append, Bool.and_eq_true] at hw
    obtain ⟨w0, w1, w2, _⟩ := hw
    obtain ⟨x0, r0⟩ := h0.part_ o0 (hf 0 f0 rfl) w0
    obtain ⟨x1, r1⟩ := h1.part_ o1 (hf 1 f1 rfl) w1
    obtain ⟨x2, r2⟩ := h2.part_ o2 (hf 2 f2 rfl) w2
    exact ⟨⟨x0, x1, x2⟩, Rp.account_mk (hl.trans hc) r0 r1 r2⟩
theorem Opens.ledger {P : Program} {t : TypeId} {f0 f1 : Field} (hu : P.underlying t = some (.struct #[f0, f1])) (hc : P.cellsOf t = 2)
    (o0 : f0.offset = 0) (o1 : f1.offset = 1)
    (h0 : Opens P f0.type (Rp.slice Rp.account)) (h1 : Opens P f1.type (Rp.int .u64)) : Opens P t Rp.ledger := by
  refine ⟨hc, fun {H} enc W spare held fuel cs d p h hw => ?_⟩
  obtain ⟨xs, n, _, hx, hl, hlen, hf⟩ := DataW.trod_struct hu h
  simp only [Prod.mk.injEq] at hx
  obtain ⟨rfl, rfl⟩ := hx
  match xs, hlen with
  | [y0, y1], _ =>
    simp only [DataW.weights, hu, List.map_cons, List.map_nil, DataW.weightsEach, List.all_append, Bool.and_eq_true] at hw
    obtain ⟨w0, w1, _⟩ := hw
    obtain ⟨x0, r0⟩ := h0.part_ o0 (hf 0 f0 rfl) w0
    obtain ⟨x1, r1⟩ := h1.part_ o1 (hf 1 f1 rfl) w1
    exact ⟨⟨x0, x1⟩, Rp.ledger_mk (hl.trans hc) r0 r1⟩
theorem Opens.transfer {P : Program} {t : TypeId} {f0 f1 : Field} (hu : P.underlying t = some (.struct #[f0, f1])) (hc : P.cellsOf t = 2)
    (o0 : f0.offset = 0) (o1 : f1.offset = 1)
    (h0 : Opens P f0.type Rp.str) (h1 : Opens P f1.type (Rp.int .u64)) : Opens P t Rp.transfer := by
  refine ⟨hc, fun {H} enc W spare held fuel cs d p h hw => ?_⟩
  obtain ⟨xs, n, _, hx, hl, hlen, hf⟩ := DataW.trod_struct hu h
  simp only [Prod.mk.injEq] at hx
  obtain ⟨rfl, rfl⟩ := hx
  match xs, hlen with
  | [y0, y1], _ =>
    simp only [DataW.weights, hu, List.map_cons, List.map_nil, DataW.weightsEach, List.all_append, Bool.and_eq_true] at hw
    obtain ⟨w0, w1, _⟩ := hw
    obtain ⟨x0, r0⟩ := h0.part_ o0 (hf 0 f0 rfl) w0
    obtain ⟨x1, r1⟩ := h1.part_ o1 (hf 1 f1 rfl) w1
    exact ⟨⟨x0, x1⟩, Rp.transfer_mk (hl.trans hc) r0 r1⟩
theorem Opens.tx {P : Program} {t : TypeId} {f0 f1 f2 f3 f4 f5 : Field} (hu : P.underlying t = some (.struct #[f0, f1, f2, f3, f4, f5])) (hc : P.cellsOf t = 6)
    (o0 : f0.offset = 0) (o1 : f1.offset = 1) (o2 : f2.offset = 2) (o3 : f3.offset = 3) (o4 : f4.offset = 4) (o5 : f5.offset = 5)
    (h0 : Opens P f0.type Rp.str) (h1 : Opens P f1.type (Rp.int .u64)) (h2 : Opens P f2.type (Rp.int .u64)) (h3 : Opens P f3.type (Rp.int .u64)) (h4 : Opens P f4.type Rp.str) (h5 : Opens P f5.type (Rp.slice Rp.transfer)) : Opens P t Rp.tx := by
  refine ⟨hc, fun {H} enc W spare held fuel cs d p h hw => ?_⟩
  obtain ⟨xs, n, _, hx, hl, hlen, hf⟩ := DataW.trod_struct hu h
  simp only [Prod.mk.injEq] at hx
  obtain ⟨rfl, rfl⟩ := hx
  match xs, hlen with
  | [y0, y1, y2, y3, y4, y5], _ =>
    simp only [DataW.weights, hu, List.map_cons, List.map_nil, DataW.weightsEach, List.all_append, Bool.and_eq_true] at hw
    obtain ⟨w0, w1, w2, w3, w4, w5, _⟩ := hw
    obtain ⟨x0, r0⟩ := h0.part_ o0 (hf 0 f0 rfl) w0
    obtain ⟨x1, r1⟩ := h1.part_ o1 (hf 1 f1 rfl) w1
    obtain ⟨x2, r2⟩ := h2.part_ o2 (hf 2 f2 rfl) w2
    obtain ⟨x3, r3⟩ := h3.part_ o3 (hf 3 f3 rfl) w3
    obtain ⟨x4, r4⟩ := h4.part_ o4 (hf 4 f4 rfl) w4
    obtain ⟨x5, r5⟩ := h5.part_ o5 (hf 5 f5 rfl) w5
    exact ⟨⟨x0, x1, x2, x3, x4, x5⟩, Rp.tx_mk (hl.trans hc) r0 r1 r2 r3 r4 r5⟩
theorem Opens.result {P : Program} {t : TypeId} {f0 f1 f2 f3 f4 : Field} (hu : P.underlying t = some (.struct #[f0, f1, f2, f3, f4])) (hc : P.cellsOf t = 5)
    (o0 : f0.offset = 0) (o1 : f1.offset = 1) (o2 : f2.offset = 2) (o3 : f3.offset = 3) (o4 : f4.offset = 4)
    (h0 : Opens P f0.type (Rp.int .i64)) (h1 : Opens P f1.type Rp.str) (h2 : Opens P f2.type (Rp.int .u64)) (h3 : Opens P f3.type (Rp.int .u64)) (h4 : Opens P f4.type (Rp.int .u64)) : Opens P t Rp.result := by
  refine ⟨hc, fun {H} enc W spare held fuel cs d p h hw => ?_⟩
  obtain ⟨xs, n, _, hx, hl, hlen, hf⟩ := DataW.trod_struct hu h
  simp only [Prod.mk.injEq] at hx
  obtain ⟨rfl, rfl⟩ := hx
  match xs, hlen with
  | [y0, y1, y2, y3, y4], _ =>
    simp only [DataW.weights, hu, List.map_cons, List.map_nil, DataW.weightsEach, List.all_append, Bool.and_eq_true] at hw
    obtain ⟨w0, w1, w2, w3, w4, _⟩ := hw
    obtain ⟨x0, r0⟩ := h0.part_ o0 (hf 0 f0 rfl) w0
    obtain ⟨x1, r1⟩ := h1.part_ o1 (hf 1 f1 rfl) w1
    obtain ⟨x2, r2⟩ := h2.part_ o2 (hf 2 f2 rfl) w2
    obtain ⟨x3, r3⟩ := h3.part_ o3 (hf 3 f3 rfl) w3
    obtain ⟨x4, r4⟩ := h4.part_ o4 (hf 4 f4 rfl) w4
    exact ⟨⟨x0, x1, x2, x3, x4⟩, Rp.result_mk (hl.trans hc) r0 r1 r2 r3 r4⟩
theorem Opens.app {P : Program} {t : TypeId} {f0 f1 f2 f3 f4 : Field} (hu : P.underlying t = some (.struct #[f0, f1, f2, f3, f4])) (hc : P.cellsOf t = 8)
    (o0 : f0.offset = 0) (o1 : f1.offset = 2) (o2 : f2.offset = 4) (o3 : f3.offset = 6) (o4 : f4.offset = 7)
    (h0 : Opens P f0.type Rp.ledger) (h1 : Opens P f1.type Rp.ledger) (h2 : Opens P f2.type Rp.ledger) (h3 : Opens P f3.type Rp.bool) (h4 : Opens P f4.type (Rp.int .u64)) : Opens P t Rp.app := by
  refine ⟨hc, fun {H} enc W spare held fuel cs d p h hw => ?_⟩
  obtain ⟨xs, n, _, hx, hl, hlen, hf⟩ := DataW.trod_struct hu h
  simp only [Prod.mk.injEq] at hx
  obtain ⟨rfl, rfl⟩ := hx
  match xs, hlen with
  | [y0, y1, y2, y3, y4], _ =>
    simp only [DataW.weights, hu, List.map_cons, List.map_nil, DataW.weightsEach, List.all_append, Bool.and_eq_true] at hw
    obtain ⟨w0, w1, w2, w3, w4, _⟩ := hw
    obtain ⟨x0, r0⟩ := h0.part_ o0 (hf 0 f0 rfl) w0
    obtain ⟨x1, r1⟩ := h1.part_ o1 (hf 1 f1 rfl) w1
    obtain ⟨x2, r2⟩ := h2.part_ o2 (hf 2 f2 rfl) w2
    obtain ⟨x3, r3⟩ := h3.part_ o3 (hf 3 f3 rfl) w3
    obtain ⟨x4, r4⟩ := h4.part_ o4 (hf 4 f4 rfl) w4
    exact ⟨⟨x0, x1, x2, x3, x4⟩, Rp.app_mk (hl.trans hc) r0 r1 r2 r3 r4⟩
theorem Opens.config {P : Program} {t : TypeId} {f0 f1 f2 f3 f4 f5 f6 f7 f8 f9 f10 f11 : Field} (hu : P.underlying t = some (.struct #[f0, f1, f2, f3, f4, f5, f6, f7, f8, f9, f10, f11])) (hc : P.cellsOf t = 12)
    (o0 : f0.offset = 0) (o1 : f1.offset = 1) (o2 : f2.offset = 2) (o3 : f3.offset = 3) (o4 : f4.offset = 4) (o5 : f5.offset = 5) (o6 : f6.offset = 6) (o7 : f7.offset = 7) (o8 : f8.offset = 8) (o9 : f9.offset = 9) (o10 : f10.offset = 10) (o11 : f11.offset = 11)
    (h0 : Opens P f0.type (Rp.int .i64)) (h1 : Opens P f1.type (Rp.int .i64)) (h2 : Opens P f2.type (Rp.int .i64)) (h3 : Opens P f3.type (Rp.int .i64)) (h4 : Opens P f4.type (Rp.int .i64)) (h5 : Opens P f5.type (Rp.int .i64)) (h6 : Opens P f6.type Rp.bool) (h7 : Opens P f7.type (Rp.int .i64)) (h8 : Opens P f8.type (Rp.int .i64)) (h9 : Opens P f9.type (Rp.int .u64)) (h10 : Opens P f10.type (Rp.int .i64)) (h11 : Opens P f11.type (Rp.int .i64)) : Opens P t Rp.config := by
  refine ⟨hc, fun {H} enc W spare held fuel cs d p h hw => ?_⟩
  obtain ⟨xs, n, _, hx, hl, hlen, hf⟩ := DataW.trod_struct hu h
  simp only [Prod.mk.injEq] at hx
  obtain ⟨rfl, rfl⟩ := hx
  match xs, hlen with
  | [y0, y1, y2, y3, y4, y5, y6, y7, y8, y9, y10, y11], _ =>
    simp only [DataW.weights, hu, List.map_cons, List.map_nil, DataW.weightsEach, List.all_append, Bool.and_eq_true] at hw
    obtain ⟨w0, w1, w2, w3, w4, w5, w6, w7, w8, w9, w10, w11, _⟩ := hw
    obtain ⟨x0, r0⟩ := h0.part_ o0 (hf 0 f0 rfl) w0
    obtain ⟨x1, r1⟩ := h1.part_ o1 (hf 1 f1 rfl) w1
    obtain ⟨x2, r2⟩ := h2.part_ o2 (hf 2 f2 rfl) w2
    obtain ⟨x3, r3⟩ := h3.part_ o3 (hf 3 f3 rfl) w3
    obtain ⟨x4, r4⟩ := h4.part_ o4 (hf 4 f4 rfl) w4
    obtain ⟨x5, r5⟩ := h5.part_ o5 (hf 5 f5 rfl) w5
    obtain ⟨x6, r6⟩ := h6.part_ o6 (hf 6 f6 rfl) w6
    obtain ⟨x7, r7⟩ := h7.part_ o7 (hf 7 f7 rfl) w7
    obtain ⟨x8, r8⟩ := h8.part_ o8 (hf 8 f8 rfl) w8
    obtain ⟨x9, r9⟩ := h9.part_ o9 (hf 9 f9 rfl) w9
    obtain ⟨x10, r10⟩ := h10.part_ o10 (hf 10 f10 rfl) w10
    obtain ⟨x11, r11⟩ := h11.part_ o11 (hf 11 f11 rfl) w11
    exact ⟨⟨x0, x1, x2, x3, x4, x5, x6, x7, x8, x9, x10, x11⟩, Rp.config_mk (hl.trans hc) r0 r1 r2 r3 r4 r5 r6 r7 r8 r9 r10 r11⟩
theorem Opens.item {P : Program} {t : TypeId} {f0 f1 f2 : Field} (hu : P.underlying t = some (.struct #[f0, f1, f2])) (hc : P.cellsOf t = 3)
    (o0 : f0.offset = 0) (o1 : f1.offset = 1) (o2 : f2.offset = 2)
    (h0 : Opens P f0.type (Rp.int .i64)) (h1 : Opens P f1.type (Rp.int .u64)) (h2 : Opens P f2.type (Rp.int .i64)) : Opens P t Rp.item := by
  refine ⟨hc, fun {H} enc W spare held fuel cs d p h hw => ?_⟩
  obtain ⟨xs, n, _, hx, hl, hlen, hf⟩ := DataW.trod_struct hu h
  simp only [Prod.mk.injEq] at hx
  obtain ⟨rfl, rfl⟩ := hx
  match xs, hlen with
  | [y0, y1, y2], _ =>
    simp only [DataW.weights, hu, List.map_cons, List.map_nil, DataW.weightsEach, List.all_append, Bool.and_eq_true] at hw
    obtain ⟨w0, w1, w2, _⟩ := hw
    obtain ⟨x0, r0⟩ := h0.part_ o0 (hf 0 f0 rfl) w0
    obtain ⟨x1, r1⟩ := h1.part_ o1 (hf 1 f1 rfl) w1
    obtain ⟨x2, r2⟩ := h2.part_ o2 (hf 2 f2 rfl) w2
    exact ⟨⟨x0, x1, x2⟩, Rp.item_mk (hl.trans hc) r0 r1 r2⟩
theorem Opens.handle {P : Program} {t : TypeId} {f0 f1 : Field} (hu : P.underlying t = some (.struct #[f0, f1])) (hc : P.cellsOf t = 2)
    (o0 : f0.offset = 0) (o1 : f1.offset = 1)
    (h0 : Opens P f0.type (Rp.int .i64)) (h1 : Opens P f1.type (Rp.int .i64)) : Opens P t Rp.handle := by
  refine ⟨hc, fun {H} enc W spare held fuel cs d p h hw => ?_⟩
  obtain ⟨xs, n, _, hx, hl, hlen, hf⟩ := DataW.trod_struct hu h
  simp only [Prod.mk.injEq] at hx
  obtain ⟨rfl, rfl⟩ := hx
  match xs, hlen with
  | [y0, y1], _ =>
    simp only [DataW.weights, hu, List.map_cons, List.map_nil, DataW.weightsEach, List.all_append, Bool.and_eq_true] at hw
    obtain ⟨w0, w1, _⟩ := hw
    obtain ⟨x0, r0⟩ := h0.part_ o0 (hf 0 f0 rfl) w0
    obtain ⟨x1, r1⟩ := h1.part_ o1 (hf 1 f1 rfl) w1
    exact ⟨⟨x0, x1⟩, Rp.handle_mk (hl.trans hc) r0 r1⟩
theorem Opens.entry {P : Program} {t : TypeId} {f0 f1 f2 f3 f4 f5 f6 f7 f8 f9 : Field} (hu : P.underlying t = some (.struct #[f0, f1, f2, f3, f4, f5, f6, f7, f8, f9])) (hc : P.cellsOf t = 41)
    (o0 : f0.offset = 0) (o1 : f1.offset = 32) (o2 : f2.offset = 33) (o3 : f3.offset = 34) (o4 : f4.offset = 35) (o5 : f5.offset = 36) (o6 : f6.offset = 37) (o7 : f7.offset = 38) (o8 : f8.offset = 39) (o9 : f9.offset = 40)
    (h0 : Opens P f0.type Rp.key) (h1 : Opens P f1.type Rp.bytes) (h2 : Opens P f2.type Rp.str) (h3 : Opens P f3.type (Rp.int .u64)) (h4 : Opens P f4.type (Rp.int .u64)) (h5 : Opens P f5.type (Rp.int .u64)) (h6 : Opens P f6.type (Rp.int .i64)) (h7 : Opens P f7.type (Rp.int .i64)) (h8 : Opens P f8.type (Rp.int .i64)) (h9 : Opens P f9.type Rp.ints) : Opens P t Rp.entry := by
  refine ⟨hc, fun {H} enc W spare held fuel cs d p h hw => ?_⟩
  obtain ⟨xs, n, _, hx, hl, hlen, hf⟩ := DataW.trod_struct hu h
  simp only [Prod.mk.injEq] at hx
  obtain ⟨rfl, rfl⟩ := hx
  match xs, hlen with
  | [y0, y1, y2, y3, y4, y5, y6, y7, y8, y9], _ =>
    simp only [DataW.weights, hu, List.map_cons, List.map_nil, DataW.weightsEach, List.all_append, Bool.and_eq_true] at hw
    obtain ⟨w0, w1, w2, w3, w4, w5, w6, w7, w8, w9, _⟩ := hw
    obtain ⟨x0, r0⟩ := h0.part_ o0 (hf 0 f0 rfl) w0
    obtain ⟨x1, r1⟩ := h1.part_ o1 (hf 1 f1 rfl) w1
    obtain ⟨x2, r2⟩ := h2.part_ o2 (hf 2 f2 rfl) w2
    obtain ⟨x3, r3⟩ := h3.part_ o3 (hf 3 f3 rfl) w3
    obtain ⟨x4, r4⟩ := h4.part_ o4 (hf 4 f4 rfl) w4
    obtain ⟨x5, r5⟩ := h5.part_ o5 (hf 5 f5 rfl) w5
    obtain ⟨x6, r6⟩ := h6.part_ o6 (hf 6 f6 rfl) w6
    obtain ⟨x7, r7⟩ := h7.part_ o7 (hf 7 f7 rfl) w7
    obtain ⟨x8, r8⟩ := h8.part_ o8 (hf 8 f8 rfl) w8
    obtain ⟨x9, r9⟩ := h9.part_ o9 (hf 9 f9 rfl) w9
    exact ⟨⟨x0, x1, x2, x3, x4, x5, x6, x7, x8, x9⟩, Rp.entry_mk (hl.trans hc) r0 r1 r2 r3 r4 r5 r6 r7 r8 r9⟩
theorem Opens.state {P : Program} {t : TypeId} {f0 f1 f2 f3 f4 f5 f6 : Field} (hu : P.underlying t = some (.struct #[f0, f1, f2, f3, f4, f5, f6])) (hc : P.cellsOf t = 25)
    (o0 : f0.offset = 0) (o1 : f1.offset = 12) (o2 : f2.offset = 20) (o3 : f3.offset = 21) (o4 : f4.offset = 22) (o5 : f5.offset = 23) (o6 : f6.offset = 24)
    (h0 : Opens P f0.type Rp.config) (h1 : Opens P f1.type Rp.app) (h2 : Opens P f2.type (Rp.int .i64)) (h3 : Opens P f3.type (Rp.int .i64)) (h4 : Opens P f4.type (Rp.int .i64)) (h5 : Opens P f5.type (Rp.slice Rp.entry)) (h6 : Opens P f6.type (Rp.slice Rp.key)) : Opens P t Rp.state := by
  refine ⟨hc, fun {H} enc W spare held fuel cs d p h hw => ?_⟩
  obtain ⟨xs, n, _, hx, hl, hlen, hf⟩ := DataW.trod_struct hu h
  simp only [Prod.mk.injEq] at hx
  obtain ⟨rfl, rfl⟩ := hx
  match xs, hlen with
  | [y0, y1, y2, y3, y4, y5, y6], _ =>
    simp only [DataW.weights, hu, List.map_cons, List.map_nil, DataW.weightsEach, List.all_append, Bool.and_eq_true] at hw
    obtain ⟨w0, w1, w2, w3, w4, w5, w6, _⟩ := hw
    obtain ⟨x0, r0⟩ := h0.part_ o0 (hf 0 f0 rfl) w0
    obtain ⟨x1, r1⟩ := h1.part_ o1 (hf 1 f1 rfl) w1
    obtain ⟨x2, r2⟩ := h2.part_ o2 (hf 2 f2 rfl) w2
    obtain ⟨x3, r3⟩ := h3.part_ o3 (hf 3 f3 rfl) w3
    obtain ⟨x4, r4⟩ := h4.part_ o4 (hf 4 f4 rfl) w4
    obtain ⟨x5, r5⟩ := h5.part_ o5 (hf 5 f5 rfl) w5
    obtain ⟨x6, r6⟩ := h6.part_ o6 (hf 6 f6 rfl) w6
    exact ⟨⟨x0, x1, x2, x3, x4, x5, x6⟩, Rp.state_mk (hl.trans hc) r0 r1 r2 r3 r4 r5 r6⟩
theorem Opens.reply {P : Program} {t : TypeId} {f0 f1 f2 f3 f4 f5 f6 f7 f8 f9 f10 : Field} (hu : P.underlying t = some (.struct #[f0, f1, f2, f3, f4, f5, f6, f7, f8, f9, f10])) (hc : P.cellsOf t = 73)
    (o0 : f0.offset = 0) (o1 : f1.offset = 1) (o2 : f2.offset = 33) (o3 : f3.offset = 34) (o4 : f4.offset = 35) (o5 : f5.offset = 36) (o6 : f6.offset = 37) (o7 : f7.offset = 38) (o8 : f8.offset = 39) (o9 : f9.offset = 40) (o10 : f10.offset = 41)
    (h0 : Opens P f0.type (Rp.int .i64)) (h1 : Opens P f1.type Rp.key) (h2 : Opens P f2.type (Rp.int .u64)) (h3 : Opens P f3.type (Rp.slice Rp.key)) (h4 : Opens P f4.type (Rp.slice Rp.key)) (h5 : Opens P f5.type (Rp.slice Rp.key)) (h6 : Opens P f6.type (Rp.slice Rp.key)) (h7 : Opens P f7.type (Rp.slice Rp.key)) (h8 : Opens P f8.type (Rp.slice Rp.bytes)) (h9 : Opens P f9.type (Rp.int .i64)) (h10 : Opens P f10.type Rp.key) : Opens P t Rp.reply := by
  refine ⟨hc, fun {H} enc W spare held fuel cs d p h hw => ?_⟩
  obtain ⟨xs, n, _, hx, hl, hlen, hf⟩ := DataW.trod_struct hu h
  simp only [Prod.mk.injEq] at hx
  obtain ⟨rfl, rfl⟩ := hx
  match xs, hlen with
  | [y0, y1, y2, y3, y4, y5, y6, y7, y8, y9, y10], _ =>
    simp only [DataW.weights, hu, List.map_cons, List.map_nil, DataW.weightsEach, List.all_append, Bool.and_eq_true] at hw
    obtain ⟨w0, w1, w2, w3, w4, w5, w6, w7, w8, w9, w10, _⟩ := hw
    obtain ⟨x0, r0⟩ := h0.part_ o0 (hf 0 f0 rfl) w0
    obtain ⟨x1, r1⟩ := h1.part_ o1 (hf 1 f1 rfl) w1
    obtain ⟨x2, r2⟩ := h2.part_ o2 (hf 2 f2 rfl) w2
    obtain ⟨x3, r3⟩ := h3.part_ o3 (hf 3 f3 rfl) w3
    obtain ⟨x4, r4⟩ := h4.part_ o4 (hf 4 f4 rfl) w4
    obtain ⟨x5, r5⟩ := h5.part_ o5 (hf 5 f5 rfl) w5
    obtain ⟨x6, r6⟩ := h6.part_ o6 (hf 6 f6 rfl) w6
    obtain ⟨x7, r7⟩ := h7.part_ o7 (hf 7 f7 rfl) w7
    obtain ⟨x8, r8⟩ := h8.part_ o8 (hf 8 f8 rfl) w8
    obtain ⟨x9, r9⟩ := h9.part_ o9 (hf 9 f9 rfl) w9
    obtain ⟨x10, r10⟩ := h10.part_ o10 (hf 10 f10 rfl) w10
    exact ⟨⟨x0, x1, x2, x3, x4, x5, x6, x7, x8, x9, x10⟩, Rp.reply_mk (hl.trans hc) r0 r1 r2 r3 r4 r5 r6 r7 r8 r9 r10⟩
theorem Opens.header {P : Program} {t : TypeId} {f0 f1 f2 f3 f4 f5 f6 : Field} (hu : P.underlying t = some (.struct #[f0, f1, f2, f3, f4, f5, f6])) (hc : P.cellsOf t = 131)
    (o0 : f0.offset = 0) (o1 : f1.offset = 1) (o2 : f2.offset = 2) (o3 : f3.offset = 3) (o4 : f4.offset = 35) (o5 : f5.offset = 67) (o6 : f6.offset = 99)
    (h0 : Opens P f0.type (Rp.int .i64)) (h1 : Opens P f1.type (Rp.int .i64)) (h2 : Opens P f2.type (Rp.int .i64)) (h3 : Opens P f3.type Rp.key) (h4 : Opens P f4.type Rp.key) (h5 : Opens P f5.type Rp.key) (h6 : Opens P f6.type Rp.key) : Opens P t Rp.header := by
  refine ⟨hc, fun {H} enc W spare held fuel cs d p h hw => ?_⟩
  obtain ⟨xs, n, _, hx, hl, hlen, hf⟩ := DataW.trod_struct hu h
  simp only [Prod.mk.injEq] at hx
  obtain ⟨rfl, rfl⟩ := hx
  match xs, hlen with
  | [y0, y1, y2, y3, y4, y5, y6], _ =>
    simp only [DataW.weights, hu, List.map_cons, List.map_nil, DataW.weightsEach, List.all_append, Bool.and_eq_true] at hw
    obtain ⟨w0, w1, w2, w3, w4, w5, w6, _⟩ := hw
    obtain ⟨x0, r0⟩ := h0.part_ o0 (hf 0 f0 rfl) w0
    obtain ⟨x1, r1⟩ := h1.part_ o1 (hf 1 f1 rfl) w1
    obtain ⟨x2, r2⟩ := h2.part_ o2 (hf 2 f2 rfl) w2
    obtain ⟨x3, r3⟩ := h3.part_ o3 (hf 3 f3 rfl) w3
    obtain ⟨x4, r4⟩ := h4.part_ o4 (hf 4 f4 rfl) w4
    obtain ⟨x5, r5⟩ := h5.part_ o5 (hf 5 f5 rfl) w5
    obtain ⟨x6, r6⟩ := h6.part_ o6 (hf 6 f6 rfl) w6
    exact ⟨⟨x0, x1, x2, x3, x4, x5, x6⟩, Rp.header_mk (hl.trans hc) r0 r1 r2 r3 r4 r5 r6⟩
theorem Opens.block {P : Program} {t : TypeId} {f0 f1 : Field} (hu : P.underlying t = some (.struct #[f0, f1])) (hc : P.cellsOf t = 132)
    (o0 : f0.offset = 0) (o1 : f1.offset = 131)
    (h0 : Opens P f0.type Rp.header) (h1 : Opens P f1.type (Rp.slice Rp.bytes)) : Opens P t Rp.block := by
  refine ⟨hc, fun {H} enc W spare held fuel cs d p h hw => ?_⟩
  obtain ⟨xs, n, _, hx, hl, hlen, hf⟩ := DataW.trod_struct hu h
  simp only [Prod.mk.injEq] at hx
  obtain ⟨rfl, rfl⟩ := hx
  match xs, hlen with
  | [y0, y1], _ =>
    simp only [DataW.weights, hu, List.map_cons, List.map_nil, DataW.weightsEach, List.all_append, Bool.and_eq_true] at hw
    obtain ⟨w0, w1, _⟩ := hw
    obtain ⟨x0, r0⟩ := h0.part_ o0 (hf 0 f0 rfl) w0
    obtain ⟨x1, r1⟩ := h1.part_ o1 (hf 1 f1 rfl) w1
    exact ⟨⟨x0, x1⟩, Rp.block_mk (hl.trans hc) r0 r1⟩
theorem Opens.tip {P : Program} {t : TypeId} {f0 f1 f2 f3 f4 : Field} (hu : P.underlying t = some (.struct #[f0, f1, f2, f3, f4])) (hc : P.cellsOf t = 98)
    (o0 : f0.offset = 0) (o1 : f1.offset = 1) (o2 : f2.offset = 2) (o3 : f3.offset = 34) (o4 : f4.offset = 66)
    (h0 : Opens P f0.type (Rp.int .i64)) (h1 : Opens P f1.type (Rp.int .i64)) (h2 : Opens P f2.type Rp.key) (h3 : Opens P f3.type Rp.key) (h4 : Opens P f4.type Rp.key) : Opens P t Rp.tip := by
  refine ⟨hc, fun {H} enc W spare held fuel cs d p h hw => ?_⟩
  obtain ⟨xs, n, _, hx, hl, hlen, hf⟩ := DataW.trod_struct hu h
  simp only [Prod.mk.injEq] at hx
  obtain ⟨rfl, rfl⟩ := hx
  match xs, hlen with
  | [y0, y1, y2, y3, y4], _ =>
    simp only [DataW.weights, hu, List.map_cons, List.map_nil, DataW.weightsEach, List.all_append, Bool.and_eq_true] at hw
    obtain ⟨w0, w1, w2, w3, w4, _⟩ := hw
    obtain ⟨x0, r0⟩ := h0.part_ o0 (hf 0 f0 rfl) w0
    obtain ⟨x1, r1⟩ := h1.part_ o1 (hf 1 f1 rfl) w1
    obtain ⟨x2, r2⟩ := h2.part_ o2 (hf 2 f2 rfl) w2
    obtain ⟨x3, r3⟩ := h3.part_ o3 (hf 3 f3 rfl) w3
    obtain ⟨x4, r4⟩ := h4.part_ o4 (hf 4 f4 rfl) w4
    exact ⟨⟨x0, x1, x2, x3, x4⟩, Rp.tip_mk (hl.trans hc) r0 r1 r2 r3 r4⟩
theorem Opens.op {P : Program} {t : TypeId} {f0 f1 f2 f3 f4 : Field} (hu : P.underlying t = some (.struct #[f0, f1, f2, f3, f4])) (hc : P.cellsOf t = 5)
    (o0 : f0.offset = 0) (o1 : f1.offset = 1) (o2 : f2.offset = 2) (o3 : f3.offset = 3) (o4 : f4.offset = 4)
    (h0 : Opens P f0.type (Rp.int .i64)) (h1 : Opens P f1.type (Rp.int .i64)) (h2 : Opens P f2.type (Rp.int .i64)) (h3 : Opens P f3.type (Rp.int .i64)) (h4 : Opens P f4.type Rp.bytes) : Opens P t Rp.op := by
  refine ⟨hc, fun {H} enc W spare held fuel cs d p h hw => ?_⟩
  obtain ⟨xs, n, _, hx, hl, hlen, hf⟩ := DataW.trod_struct hu h
  simp only [Prod.mk.injEq] at hx
  obtain ⟨rfl, rfl⟩ := hx
  match xs, hlen with
  | [y0, y1, y2, y3, y4], _ =>
    simp only [DataW.weights, hu, List.map_cons, List.map_nil, DataW.weightsEach, List.all_append, Bool.and_eq_true] at hw
    obtain ⟨w0, w1, w2, w3, w4, _⟩ := hw
    obtain ⟨x0, r0⟩ := h0.part_ o0 (hf 0 f0 rfl) w0
    obtain ⟨x1, r1⟩ := h1.part_ o1 (hf 1 f1 rfl) w1
    obtain ⟨x2, r2⟩ := h2.part_ o2 (hf 2 f2 rfl) w2
    obtain ⟨x3, r3⟩ := h3.part_ o3 (hf 3 f3 rfl) w3
    obtain ⟨x4, r4⟩ := h4.part_ o4 (hf 4 f4 rfl) w4
    exact ⟨⟨x0, x1, x2, x3, x4⟩, Rp.op_mk (hl.trans hc) r0 r1 r2 r3 r4⟩
theorem Opens.counts {P : Program} {t : TypeId} {f0 f1 f2 f3 f4 f5 f6 f7 f8 : Field} (hu : P.underlying t = some (.struct #[f0, f1, f2, f3, f4, f5, f6, f7, f8])) (hc : P.cellsOf t = 9)
    (o0 : f0.offset = 0) (o1 : f1.offset = 1) (o2 : f2.offset = 2) (o3 : f3.offset = 3) (o4 : f4.offset = 4) (o5 : f5.offset = 5) (o6 : f6.offset = 6) (o7 : f7.offset = 7) (o8 : f8.offset = 8)
    (h0 : Opens P f0.type (Rp.int .i64)) (h1 : Opens P f1.type (Rp.int .i64)) (h2 : Opens P f2.type (Rp.int .i64)) (h3 : Opens P f3.type (Rp.int .i64)) (h4 : Opens P f4.type (Rp.int .i64)) (h5 : Opens P f5.type (Rp.int .i64)) (h6 : Opens P f6.type (Rp.int .i64)) (h7 : Opens P f7.type (Rp.int .i64)) (h8 : Opens P f8.type (Rp.int .i64)) : Opens P t Rp.counts := by
  refine ⟨hc, fun {H} enc W spare held fuel cs d p h hw => ?_⟩
  obtain ⟨xs, n, _, hx, hl, hlen, hf⟩ := DataW.trod_struct hu h
  simp only [Prod.mk.injEq] at hx
  obtain ⟨rfl, rfl⟩ := hx
  match xs, hlen with
  | [y0, y1, y2, y3, y4, y5, y6, y7, y8], _ =>
    simp only [DataW.weights, hu, List.map_cons, List.map_nil, DataW.weightsEach, List.all_append, Bool.and_eq_true] at hw
    obtain ⟨w0, w1, w2, w3, w4, w5, w6, w7, w8, _⟩ := hw
    obtain ⟨x0, r0⟩ := h0.part_ o0 (hf 0 f0 rfl) w0
    obtain ⟨x1, r1⟩ := h1.part_ o1 (hf 1 f1 rfl) w1
    obtain ⟨x2, r2⟩ := h2.part_ o2 (hf 2 f2 rfl) w2
    obtain ⟨x3, r3⟩ := h3.part_ o3 (hf 3 f3 rfl) w3
    obtain ⟨x4, r4⟩ := h4.part_ o4 (hf 4 f4 rfl) w4
    obtain ⟨x5, r5⟩ := h5.part_ o5 (hf 5 f5 rfl) w5
    obtain ⟨x6, r6⟩ := h6.part_ o6 (hf 6 f6 rfl) w6
    obtain ⟨x7, r7⟩ := h7.part_ o7 (hf 7 f7 rfl) w7
    obtain ⟨x8, r8⟩ := h8.part_ o8 (hf 8 f8 rfl) w8
    exact ⟨⟨x0, x1, x2, x3, x4, x5, x6, x7, x8⟩, Rp.counts_mk (hl.trans hc) r0 r1 r2 r3 r4 r5 r6 r7 r8⟩
theorem Opens.netEvent {P : Program} {t : TypeId} {f0 f1 f2 f3 f4 : Field} (hu : P.underlying t = some (.struct #[f0, f1, f2, f3, f4])) (hc : P.cellsOf t = 5)
    (o0 : f0.offset = 0) (o1 : f1.offset = 1) (o2 : f2.offset = 2) (o3 : f3.offset = 3) (o4 : f4.offset = 4)
    (h0 : Opens P f0.type (Rp.int .i64)) (h1 : Opens P f1.type (Rp.int .i64)) (h2 : Opens P f2.type (Rp.int .i64)) (h3 : Opens P f3.type (Rp.int .i64)) (h4 : Opens P f4.type Rp.bytes) : Opens P t Rp.netEvent := by
  refine ⟨hc, fun {H} enc W spare held fuel cs d p h hw => ?_⟩
  obtain ⟨xs, n, _, hx, hl, hlen, hf⟩ := DataW.trod_struct hu h
  simp only [Prod.mk.injEq] at hx
  obtain ⟨rfl, rfl⟩ := hx
  match xs, hlen with
  | [y0, y1, y2, y3, y4], _ =>
    simp only [DataW.weights, hu, List.map_cons, List.map_nil, DataW.weightsEach, List.all_append, Bool.and_eq_true] at hw
    obtain ⟨w0, w1, w2, w3, w4, _⟩ := hw
    obtain ⟨x0, r0⟩ := h0.part_ o0 (hf 0 f0 rfl) w0
    obtain ⟨x1, r1⟩ := h1.part_ o1 (hf 1 f1 rfl) w1
    obtain ⟨x2, r2⟩ := h2.part_ o2 (hf 2 f2 rfl) w2
    obtain ⟨x3, r3⟩ := h3.part_ o3 (hf 3 f3 rfl) w3
    obtain ⟨x4, r4⟩ := h4.part_ o4 (hf 4 f4 rfl) w4
    exact ⟨⟨x0, x1, x2, x3, x4⟩, Rp.netEvent_mk (hl.trans hc) r0 r1 r2 r3 r4⟩
theorem Opens.letter {P : Program} {t : TypeId} {f0 f1 f2 f3 : Field} (hu : P.underlying t = some (.struct #[f0, f1, f2, f3])) (hc : P.cellsOf t = 4)
    (o0 : f0.offset = 0) (o1 : f1.offset = 1) (o2 : f2.offset = 2) (o3 : f3.offset = 3)
    (h0 : Opens P f0.type (Rp.int .i64)) (h1 : Opens P f1.type (Rp.int .i64)) (h2 : Opens P f2.type Rp.bool) (h3 : Opens P f3.type Rp.bytes) : Opens P t Rp.letter := by
  refine ⟨hc, fun {H} enc W spare held fuel cs d p h hw => ?_⟩
  obtain ⟨xs, n, _, hx, hl, hlen, hf⟩ := DataW.trod_struct hu h
  simp only [Prod.mk.injEq] at hx
  obtain ⟨rfl, rfl⟩ := hx
  match xs, hlen with
  | [y0, y1, y2, y3], _ =>
    simp only [DataW.weights, hu, List.map_cons, List.map_nil, DataW.weightsEach, List.all_append, Bool.and_eq_true] at hw
    obtain ⟨w0, w1, w2, w3, _⟩ := hw
    obtain ⟨x0, r0⟩ := h0.part_ o0 (hf 0 f0 rfl) w0
    obtain ⟨x1, r1⟩ := h1.part_ o1 (hf 1 f1 rfl) w1
    obtain ⟨x2, r2⟩ := h2.part_ o2 (hf 2 f2 rfl) w2
    obtain ⟨x3, r3⟩ := h3.part_ o3 (hf 3 f3 rfl) w3
    exact ⟨⟨x0, x1, x2, x3⟩, Rp.letter_mk (hl.trans hc) r0 r1 r2 r3⟩
end Go.Proofs.YtmeeeigfjlbnkaaGreat
namespace Go.Proofs.YtmeeeigfjlbnkaaGreat
open Go.RowKit Go.ChangeShapes Go.Deep
def allP (W : World) : Prot := fun b _ => b < W.heap.size
mutual
def MV.bulk : MV → Nat
  | .str s => s.length + 1
  | .sl _ l => MV.bulks l + 1
  | .st l => MV.bulks l + 1
  | _ => 1
def MV.bulks : List MV → Nat
  | [] => 0
  | m :: l => MV.bulk m + MV.bulks l
end
theorem bulk_one {H : Type} (d : DataW H) : 1 ≤ Rows.uptoBulk d := by
  cases d with
  | lit l => cases l <;> simp [Rows.uptoBulk]
  | nil => simp [Rows.uptoBulk]
  | ptr d => simp [Rows.uptoBulk]
  | slice elems spare => simp [Rows.uptoBulk]
  | agg parts => simp [Rows.uptoBulk]
  | iface t d => simp [Rows.uptoBulk]
  | map entries => simp [Rows.uptoBulk]
  | held h => simp [Rows.uptoBulk]
theorem bulks_map {H : Type} (f : Nat → MV) (D : Nat → DataW H) : ∀ (l : List Nat), (∀ i ∈ l, (f i).bulk ≤ Rows.uptoBulk (D i)) → MV.bulks (l.map f) ≤ Rows.uptoBulkAll (l.map D)
  | [], _ => Nat.le_refl _
  | i :: l, h => by
    have h1 := h i (by simp)
    have h2 := bulks_map f D l fun j hj => h j (by simp [hj])
    simp only [List.map_cons, MV.bulks, Rows.uptoBulkAll]
    omega
theorem bulks_append : ∀ (a b : List MV), MV.bulks (a ++ b) = MV.bulks a + MV.bulks b
  | [], b => by simp [MV.bulks]
  | x :: a, b => by simp only [List.cons_append, MV.bulks, bulks_append a b]; omega
theorem bulks_len : ∀ (l : List MV), l.length ≤ MV.bulks l
  | [] => Nat.le_refl _
  | x :: l => by
    have := bulks_len l
    have h1 : 1 ≤ MV.bulk x := by cases x <;> simp [MV.bulk]
    simp only [List.length_cons, MV.bulks]; omega
def Opn (P : Program) (t : TypeId) (n : Nat) (Q : MV → Prop) : Prop :=
  P.cellsOf t = n ∧ ∀ {H : Type} (enc : TypeId × Value → H) (W : World) (spare : Nat → Bool) (held : Bool) (fuel : Nat) (cs : List Value) (d : DataW H) (p : List MemPlace),
    DataW.trod enc P W 0 spare held fuel t cs = some (d, p) → (d.weights P t).all (· ≤ reachBytes) = true → cs.length = n ∧ ∃ m, Q m ∧ Rep W (allP W) noAdr m cs ∧ m.bulk ≤ Rows.uptoBulk d
section
variable {P : Program} {t e : TypeId}
theorem Opn.int {k : IntKind} (hu : P.underlying t = some (.int k)) (hc : P.cellsOf t = 1) : Opn P t 1 fun m => ∃ n, m = .int k n ∧ (Lit.int k n).wf = true :=
  ⟨hc, fun enc W spare held fuel cs d p h _ => by
    obtain ⟨n, rfl, _, hw⟩ := DataW.trod_int hu h
    exact ⟨rfl, _, ⟨n, rfl, hw⟩, .int, bulk_one d⟩⟩
theorem Opn.bool (hu : P.underlying t = some .bool) (hc : P.cellsOf t = 1) : Opn P t 1 fun m => ∃ b, m = .bool b :=
  ⟨hc, fun enc W spare held fuel cs d p h _ => by
    obtain ⟨b, rfl, _⟩ := DataW.trod_bool hu h
    exact ⟨rfl, _, ⟨b, rfl⟩, .bool, bulk_one d⟩⟩
theorem Opn.str (hu : P.underlying t = some .string) (hc : P.cellsOf t = 1) : Opn P t 1 fun m => ∃ s, m = .str s ∧ s.length ≤ 140737488355328 :=
  ⟨hc, fun enc W spare held fuel cs d p h hw => by
    obtain ⟨s, rfl, hx, _⟩ := DataW.trod_string hu h
    simp only [Prod.mk.injEq] at hx
    obtain ⟨rfl, rfl⟩ := hx
    have h2 : s.data.size ≤ reachBytes := by simpa [DataW.weights] using hw
    exact ⟨rfl, _, ⟨s.data.toList, rfl, by simpa using Nat.le_trans h2 reach_le⟩, .str, by simp [MV.bulk, Rows.uptoBulk]⟩⟩
theorem Opn.arr {k : IntKind} {n : Nat} (hu : P.underlying t = some (.array n e)) (he : P.underlying e = some (.int k)) (hc : P.cellsOf t = n) (hce : P.cellsOf e = 1) :
    Opn P t n fun m => ∃ l : List Int, m = .arr n 1 (l.map (.int k)) ∧ l.length = n ∧ ∀ y ∈ l, (Lit.int k y).wf = true := by
  have ho := Opens.arr hu he hc hce
  refine ⟨hc, fun enc W spare held fuel cs d p h hw => ?_⟩
  obtain ⟨x, rfl, hl, hwf⟩ := ho.2 enc W spare held fuel cs d p h hw
  refine ⟨by simpa using hl, _, ⟨x, rfl, hl, hwf⟩, ?_, bulk_one d⟩
  have e0 : x.map (Value.int k) = (x.map fun y => [Value.int k y]).flatten := by
    clear hl hwf h
    induction x with
    | nil => rfl
    | cons a x ih => rw [List.map_cons, List.map_cons, List.flatten_cons, ← ih]; rfl
  rw [e0]
  refine .arr _ (by simpa using hl) (by simpa using hl) (fun p hp => by obtain ⟨y, _, rfl⟩ := List.mem_map.1 hp; rfl) fun j m p hm hp => ?_
  rw [List.getElem?_map] at hm hp
  cases hj : x[j]? with
  | none => rw [hj] at hm; cases hm
  | some y => rw [hj] at hm hp; injection hm with hm; injection hp with hp; subst hm; subst hp; exact .int
theorem Opn.slice {n : Nat} {Q : MV → Prop} (hu : P.underlying t = some (.slice e)) (hc : P.cellsOf t = 1) (hb : 0 < P.bytesOf e) (hpos : 0 < n) (hr : Opn P e n Q) : Opn P t 1 fun m => ∃ l, m = .sl l.length l ∧ (∀ x ∈ l, Q x) ∧ l.length ≤ 140737488355328 := by
  refine ⟨hc, fun {H} enc W spare held fuel cs d p h hw => ?_⟩
  rcases open_slice hu h with ⟨rfl, _⟩ | ⟨a, len, cap, m, nn, D, Pl, rfl, _, hle, _, hm, hx, hi⟩
  · exact ⟨rfl, _, ⟨[], rfl, by simp, by simp⟩, .sl none 0 0 [] rfl rfl (fun p hp => nomatch hp) (fun _ => ⟨rfl, rfl⟩) (Nat.le_refl _) (fun h => absurd rfl h) (fun j m p h => by simp at h), bulk_one _⟩
  · simp only [Prod.mk.injEq] at hx
    obtain ⟨rfl, rfl⟩ := hx
    simp only [DataW.weights, hu, List.all_cons, List.all_append, Bool.and_eq_true, List.length_map, List.length_range] at hw
    have hmle : len ≤ m := by rw [hm]; split <;> omega
    have hlen : len ≤ 140737488355328 := by
      have h1 := of_decide_eq_true hw.1
      have h3 := reach_le
      have h2 : len * 1 ≤ (len + (m - len)) * P.bytesOf e := Nat.mul_le_mul (by omega) hb
      omega
    have key : ∀ i, i < len → ∃ x : MV × List Value, Q x.1 ∧ Rep W (allP W) noAdr x.1 x.2 ∧ x.2.length = n ∧ (∀ j v, x.2[j]? = some v → W.cell? (a.add (i * n + j)) = some v) ∧ x.1.bulk ≤ Rows.uptoBulk (D i) := by
      intro i hil
      obtain ⟨cs', hc', ht⟩ := hi i (by omega)
      rw [hr.1] at hc'
      obtain ⟨_, hl, hat⟩ := World.cells?_some hc'
      have hmem : D i ∈ List.map D (List.range len) := List.mem_map.2 ⟨i, List.mem_range.2 hil, rfl⟩
      obtain ⟨hl2, x, hx1, hx2, hx3⟩ := hr.2 enc W spare held nn cs' (D i) (Pl i) ht (weightsAll_mem hw.2.1 hmem)
      refine ⟨(x, cs'), hx1, hx2, hl2, fun j v hv => ?_, hx3⟩
      have hj : j < cs'.length := (List.getElem?_eq_some_iff.1 hv).1
      have := hat j (by omega)
      rw [Go.Deep.add_add] at this
      rw [this, hv]
    have ex : ∃ f : Nat → MV × List Value, ∀ i, i < len → Q (f i).1 ∧ Rep W (allP W) noAdr (f i).1 (f i).2 ∧ (f i).2.length = n ∧ (∀ j v, (f i).2[j]? = some v → W.cell? (a.add (i * n + j)) = some v) ∧ (f i).1.bulk ≤ Rows.uptoBulk (D i) :=
      ⟨fun i => Classical.epsilon fun x => Q x.1 ∧ Rep W (allP W) noAdr x.1 x.2 ∧ x.2.length = n ∧ (∀ j v, x.2[j]? = some v → W.cell? (a.add (i * n + j)) = some v) ∧ x.1.bulk ≤ Rows.uptoBulk (D i), fun i hil => Classical.epsilon_spec (key i hil)⟩
    obtain ⟨f, hf⟩ := ex
    refine ⟨rfl, .sl len ((List.range len).map fun i => (f i).1), ⟨(List.range len).map fun i => (f i).1, by simp, fun x hx => ?_, by simpa using hlen⟩, ?_, ?_⟩
    · obtain ⟨i, hi, rfl⟩ := List.mem_map.1 hx
      exact (hf i (List.mem_range.1 hi)).1
    case refine_3 =>
      have hb := bulks_map (fun i => (f i).1) D (List.range len) fun i hi => (hf i (List.mem_range.1 hi)).2.2.2.2
      simp only [MV.bulk, Rows.uptoBulk]
      omega
    · obtain ⟨b, o, spot⟩ := a
      have hparts : ∀ p ∈ (List.range len).map fun i => (f i).2, p.length = n := fun p hp => by
        obtain ⟨i, hi, rfl⟩ := List.mem_map.1 hp
        exact (hf i (List.mem_range.1 hi)).2.2.1
      refine .sl _ cap n ((List.range len).map fun i => (f i).2) (by simp) (by simp) hparts (fun h => nomatch h) hle (fun h0 => ?_) fun j m p hm hp => ?_
      · have hspot : spot = none := by
          obtain ⟨_, _, hl, hc', _⟩ := hf 0 (by omega)
          have hv : (f 0).2[0]? = some ((f 0).2[0]'(by omega)) := List.getElem?_eq_getElem (by omega)
          have hcell := hc' 0 _ hv
          have e0 : (⟨b, o, spot⟩ : Addr).add (0 * n + 0) = ⟨b, o, spot⟩ := by simp [Addr.add]
          rw [e0] at hcell
          simpa using World.cell?_spot hcell
        subst hspot
        refine ⟨b, o, rfl, fun j u hj => ?_⟩
        have hjl := (List.getElem?_eq_some_iff.1 hj).1
        rw [flatten_const hparts] at hjl
        simp at hjl
        obtain ⟨i, k, hk, hji⟩ : ∃ i k, k < n ∧ j = i * n + k := ⟨j / n, j % n, Nat.mod_lt _ hpos, by rw [Nat.mul_comm]; exact (Nat.div_add_mod j n).symm⟩
        have hil : i < len := by
          rcases Nat.lt_or_ge i len with h | h
          · exact h
          · have := Nat.mul_le_mul_right n h; omega
        have hget : (f i).2[k]? = some u := by
          have hl := (hf i hil).2.2.1
          have hp : ((List.range len).map fun i => (f i).2)[i]? = some (f i).2 := by simp [hil]
          have h2 : ((List.range len).map fun i => (f i).2).flatten[i * n + k]? = (f i).2[k]? := by
            have hsp := flatten_split hp
            have hpre : (((List.range len).map fun i => (f i).2).take i).flatten.length = i * n := by
              rw [flatten_const fun p hp => hparts p (List.mem_of_mem_take hp)]
              rw [List.length_take, List.length_map, List.length_range, Nat.min_eq_left (Nat.le_of_lt hil)]
            rw [hsp, List.append_assoc, List.getElem?_append_right (by omega), hpre, show i * n + k - i * n = k by omega, List.getElem?_append_left (by omega)]
          rw [← h2, ← hji]; exact hj
        have := (hf i hil).2.2.2.1 k u hget
        rw [Addr.add_mid] at this
        have hc2 : W.cell? ⟨b, o + j, none⟩ = some u := by rw [hji]; exact this
        exact ⟨hc2, World.block_lt_of_cell? W _ hc2⟩
      · rw [List.getElem?_map] at hm hp
        cases hj : (List.range len)[j]? with
        | none => rw [hj] at hm; cases hm
        | some i =>
          rw [hj] at hm hp
          injection hm with hm
          injection hp with hp
          subst hm; subst hp
          have hi : i < len := by
            have := List.mem_range.1 (List.mem_of_getElem? hj)
            exact this
          exact (hf i hi).2.1
theorem lift_list {α : Type} {f : α → MV} {R : α → Prop} : ∀ (l : List MV), (∀ x ∈ l, ∃ a, x = f a ∧ R a) → ∃ us : List α, l = us.map f ∧ ∀ a ∈ us, R a
  | [], _ => ⟨[], rfl, by simp⟩
  | x :: l, h => by
    obtain ⟨a, e, hr⟩ := h x (by simp)
    obtain ⟨us, e2, has⟩ := lift_list l fun y hy => h y (by simp [hy])
    refine ⟨a :: us, by rw [e, e2]; rfl, fun b hb => ?_⟩
    rcases List.mem_cons.1 hb with rfl | hb
    · exact hr
    · exact has b hb
def OpnL (P : Program) : Nat → List Field → List (Nat × (MV → Prop)) → Prop
  | _, [], [] => True
  | o, f :: fs, q :: qs => f.offset = o ∧ Opn P f.type q.1 q.2 ∧ OpnL P (o + q.1) fs qs
  | _, _, _ => False
def sumN : List (Nat × (MV → Prop)) → Nat
  | [] => 0
  | q :: qs => q.1 + sumN qs
def AllQ : List (Nat × (MV → Prop)) → List MV → Prop
  | [], [] => True
  | q :: qs, m :: l => q.2 m ∧ AllQ qs l
  | _, _ => False
theorem OpnL.out {H : Type} (enc : TypeId × Value → H) (W : World) (spare : Nat → Bool) (held : Bool) (fuel : Nat) (cs : List Value) : ∀ (fs : List Field) (qs : List (Nat × (MV → Prop))) (xs : List (DataW H × List MemPlace)) (o : Nat), OpnL P o fs qs → xs.length = fs.length → o + sumN qs = cs.length →
    (∀ (i : Nat) (f : Field), fs[i]? = some f → DataW.trod enc P W 0 spare held fuel f.type ((cs.drop f.offset).take (P.cellsOf f.type)) = xs[i]?) → (∀ (i : Nat) (f : Field) (x : DataW H × List MemPlace), fs[i]? = some f → xs[i]? = some x → (x.1.weights P f.type).all (· ≤ reachBytes) = true) →
    ∃ (l : List MV) (parts : List (List Value)), AllQ qs l ∧ parts.length = l.length ∧ cs.drop o = parts.flatten ∧ MV.bulks l ≤ Rows.uptoBulkAll (xs.map (·.1)) ∧ ∀ (j : Nat) m p, l[j]? = some m → parts[j]? = some p → Rep W (allP W) noAdr m p
  | [], [], _, o, _, _, hs, _, _ => ⟨[], [], trivial, rfl, by simp only [sumN] at hs; rw [List.drop_eq_nil_of_le (by omega)]; rfl, Nat.zero_le _, fun j m p h => by simp at h⟩
  | f :: fs, q :: qs, x :: xs, o, ho, hl, hs, hx, hw => by
    obtain ⟨h1, h2, h3⟩ := ho
    have ht := hx 0 f rfl
    rw [h1, h2.1] at ht
    obtain ⟨d, p⟩ := x
    obtain ⟨hlen, m, hq, hr, hb⟩ := h2.2 enc W spare held fuel _ d p ht (hw 0 f (d, p) rfl rfl)
    obtain ⟨l, parts, a1, a2, a3, a5, a4⟩ := OpnL.out enc W spare held fuel cs fs qs xs (o + q.1) h3 (by simpa using hl) (by simp only [sumN] at hs; omega) (fun i f hf => hx (i + 1) f hf) fun i f x hf hx => hw (i + 1) f x hf hx
    refine ⟨m :: l, (cs.drop o).take q.1 :: parts, ⟨hq, a1⟩, by simp [a2], ?_, by simp only [List.map_cons, MV.bulks, Rows.uptoBulkAll]; omega, fun j m' p' hm hp => ?_⟩
    · rw [List.flatten_cons, ← a3, ← List.drop_drop, List.take_append_drop]
    · cases j with
      | zero => simp at hm hp; subst hm; subst hp; exact hr
      | succ j => exact a4 j m' p' (by simpa using hm) (by simpa using hp)
  | [], _ :: _, _, _, h, _, _, _, _ => h.elim
  | _ :: _, [], _, _, h, _, _, _, _ => h.elim
  | _ :: _, _ :: _, [], _, _, h, _, _, _ => by simp at h
theorem Opn.struct {fs : List Field} {qs : List (Nat × (MV → Prop))} (hu : P.underlying t = some (.struct fs.toArray)) (hc : P.cellsOf t = sumN qs) (h : OpnL P 0 fs qs) : Opn P t (sumN qs) fun m => ∃ l, m = .st l ∧ AllQ qs l := by
  refine ⟨hc, fun {H} enc W spare held fuel cs d p h' hw => ?_⟩
  obtain ⟨xs, n, _, hx, hl, hlen, hf⟩ := DataW.trod_struct hu h'
  simp only [Prod.mk.injEq] at hx
  obtain ⟨rfl, rfl⟩ := hx
  simp only [DataW.weights, hu] at hw
  have hw2 : ∀ (fs : List Field) (xs : List (DataW H × List MemPlace)), (DataW.weightsEach P (fs.map (·.type)) (xs.map (·.1))).all (· ≤ reachBytes) = true → ∀ (i : Nat) (f : Field) (x : DataW H × List MemPlace), fs[i]? = some f → xs[i]? = some x → (x.1.weights P f.type).all (· ≤ reachBytes) = true := by
    intro fs
    induction fs with
    | nil => intro xs _ i f x hf; simp at hf
    | cons g fs ih =>
      intro xs hw i f x hf hx
      cases xs with
      | nil => simp at hx
      | cons y xs =>
        simp only [List.map_cons, DataW.weightsEach, List.all_append, Bool.and_eq_true] at hw
        cases i with
        | zero => simp at hf hx; subst hf; subst hx; exact hw.1
        | succ i => exact ih xs hw.2 i f x (by simpa using hf) (by simpa using hx)
  obtain ⟨l, parts, a1, a2, a3, a5, a4⟩ := OpnL.out enc W spare held n cs fs qs xs 0 h (by simpa using hlen) (by rw [hl, hc]; omega) (fun i f hi => hf i f (by simpa using hi)) (hw2 fs xs (by simpa using hw))
  rw [List.drop_zero] at a3
  exact ⟨hl.trans hc, .st l, ⟨l, rfl, a1⟩, by rw [a3]; exact .st parts a2 a4, by simp only [MV.bulk, Rows.uptoBulk]; omega⟩
end
end Go.Proofs.YtmeeeigfjlbnkaaGreat
namespace Go.Proofs.YtmeeeigfjlbnkaaGreat
open Go.RowKit
variable {G : GS}
theorem place_m (x n : Int) (hn : 0 < n) (hn2 : n < 9223372036854775808) : SemC Tryz.prog G 16 [.int .i64 x, .int .i64 n] (.int .i64 (x % n)) := by
  have hmod := emod_of x n hn
  have h1 : -9223372036854775808 ≤ x.tmod n + n ∧ x.tmod n + n < 9223372036854775808 ∨ ¬ x.tmod n < 0 := by
    have := Int.lt_tmod_of_pos x hn
    omega
  have hne := SideF.mk (show n ≠ 0 by omega)
  refine semC_of_vc seat Tryz.func16 rfl rfl (Nat.le_of_ble_eq_true rfl) (Nat.le_of_ble_eq_true rfl) (N := 14) rfl ?_
  refine go1 ?_
  refine c_cond rfl (fun h => ?_) (fun h => ?_)
  · have hx := of_decide_eq_true h
    rw [if_pos hx] at hmod
    refine go1 ?_
    refine go0 ?_
    exact congrArg (MV.int .i64) hmod
  · have hx := of_decide_eq_false h
    rw [if_neg hx] at hmod
    refine go1 ?_
    refine go0 ?_
    exact congrArg (MV.int .i64) hmod
def nextV (L : List Int) (N : Nat) (n : Int) : Int := (L[N]?.getD 0) % n
abbrev numP : MV := .ptr 0 2 0 0 []
end Go.Proofs.YtmeeeigfjlbnkaaGreat
namespace Go.Proofs.YtmeeeigfjlbnkaaGreat
open Go.ChangeShapes Go.WideShapes Go.ChangeAt Go.RowKit
theorem own : ownKnob Tryz.prog.godebug = none := by kernel_rfl
theorem laidOut : laidOutB Tryz.prog = true := by kernel_rfl
def G0 : GS := ⟨fun _ => True, fun _ => False, fun _ _ _ h => h.elim, fun _ _ _ _ _ _ => trivial⟩
theorem opn_int : Opn Tryz.prog 3 1 fun m => ∃ n, m = .int .i64 n ∧ (Lit.int .i64 n).wf = true := Opn.int Tryz.underlying3 (by kernel_rfl)
theorem opn_ints : Opn Tryz.prog 138 1 fun m => ∃ l, m = .sl l.length l ∧ (∀ x ∈ l, ∃ n, x = .int .i64 n ∧ (Lit.int .i64 n).wf = true) ∧ l.length ≤ 140737488355328 := Opn.slice Tryz.underlying138 (by kernel_rfl) (Nat.le_of_ble_eq_true (by kernel_rfl)) (by omega) opn_int
theorem ints_lift {m : MV} (h : ∃ l, m = .sl l.length l ∧ (∀ x ∈ l, ∃ n, x = .int .i64 n ∧ (Lit.int .i64 n).wf = true) ∧ l.length ≤ 140737488355328) : ∃ xs : List Int, m = intsM xs ∧ xs.length ≤ 140737488355328 := by
  obtain ⟨l, rfl, h, hl⟩ := h
  obtain ⟨us, rfl, _⟩ := lift_list l h
  exact ⟨us, by unfold intsM; rw [List.length_map], by simpa using hl⟩
end Go.Proofs.YtmeeeigfjlbnkaaGreat
namespace Go.Proofs.YtmeeeigfjlbnkaaGreat
open Go.ChangeShapes Go.WideShapes Go.ChangeAt Go.RowKit
theorem OpnL.cons {P : Program} {o n : Nat} {Q : MV → Prop} {f : Field} {fs : List Field} {qs : List (Nat × (MV → Prop))} (h1 : f.offset = o) (h2 : Opn P f.type n Q) (h3 : OpnL P (o + n) fs qs) : OpnL P o (f :: fs) ((n, Q) :: qs) := ⟨h1, h2, h3⟩
theorem OpnL.nil {P : Program} {o : Nat} : OpnL P o [] [] := trivial
theorem AllQ.cons {q : Nat × (MV → Prop)} {qs : List (Nat × (MV → Prop))} : ∀ {l : List MV}, AllQ (q :: qs) l → ∃ m r, l = m :: r ∧ q.2 m ∧ AllQ qs r
  | [], h => h.elim
  | m :: r, h => ⟨m, r, rfl, h.1, h.2⟩
theorem AllQ.nil : ∀ {l : List MV}, AllQ [] l → l = []
  | [], _ => rfl
  | _ :: _, h => h.elim
def okRaw (m : MV) : Prop := ∃ l, m = .sl l.length l ∧ (∀ x ∈ l, ∃ n, x = .int .u8 n ∧ (Lit.int .u8 n).wf = true) ∧ l.length ≤ 140737488355328
def okNum (k : IntKind) (m : MV) : Prop := ∃ n, m = .int k n ∧ (Lit.int k n).wf = true
theorem opn_raw : Opn Tryz.prog 22 1 okRaw := Opn.slice Tryz.underlying22 (by kernel_rfl) (Nat.le_of_ble_eq_true (by kernel_rfl)) (by omega) (Opn.int Tryz.underlying5 (by kernel_rfl))
theorem opn_i64 : Opn Tryz.prog 3 1 (okNum .i64) := opn_int
def qsO : List (Nat × (MV → Prop)) := [(1, okNum .i64), (1, okNum .i64), (1, okNum .i64), (1, okNum .i64), (1, okRaw)]
theorem opn_op : Opn Tryz.prog 24 5 fun m => ∃ l, m = .st l ∧ AllQ qsO l := by
  refine Opn.struct (P := Tryz.prog) (qs := qsO) Tryz.underlying24 (by kernel_rfl) ?_
  unfold qsO
  refine .cons rfl opn_i64 ?_
  refine .cons rfl opn_i64 ?_
  refine .cons rfl opn_i64 ?_
  refine .cons rfl opn_i64 ?_
  refine .cons rfl opn_raw ?_
  exact .nil
theorem opn_ev : Opn Tryz.prog 58 5 fun m => ∃ l, m = .st l ∧ AllQ qsO l := by
  refine Opn.struct (P := Tryz.prog) (qs := qsO) Tryz.underlying58 (by kernel_rfl) ?_
  unfold qsO
  refine .cons rfl opn_i64 ?_
  refine .cons rfl opn_i64 ?_
  refine .cons rfl opn_i64 ?_
  refine .cons rfl opn_i64 ?_
  refine .cons rfl opn_raw ?_
  exact .nil
structure OpX where
  a : Int
  b : Int
  c : Int
  d : Int
  l : List MV
def opX (x : OpX) : MV := .st [.int .i64 x.a, .int .i64 x.b, .int .i64 x.c, .int .i64 x.d, .sl x.l.length x.l]
theorem op_lift {m : MV} (h : ∃ l, m = .st l ∧ AllQ qsO l) : ∃ x : OpX, m = opX x ∧ True := by
  obtain ⟨l, rfl, h⟩ := h
  unfold qsO at h
  obtain ⟨_, l1, rfl, h1, g1⟩ := h.cons
  obtain ⟨_, l2, rfl, h2, g2⟩ := g1.cons
  obtain ⟨_, l3, rfl, h3, g3⟩ := g2.cons
  obtain ⟨_, l4, rfl, h4, g4⟩ := g3.cons
  obtain ⟨_, l5, rfl, h5, g5⟩ := g4.cons
  obtain rfl := g5.nil
  obtain ⟨a, rfl, _⟩ := h1
  obtain ⟨b, rfl, _⟩ := h2
  obtain ⟨c, rfl, _⟩ := h3
  obtain ⟨d, rfl, _⟩ := h4
  obtain ⟨r, rfl, _⟩ := h5
  exact ⟨⟨a, b, c, d, r⟩, rfl, trivial⟩
end Go.Proofs.YtmeeeigfjlbnkaaGreat
namespace Go.Proofs.YtmeeeigfjlbnkaaGreat
open Go.RowKit
def mem' (l : List Nat) (f : Nat) : Bool := l.any (Nat.beq f)
def byV : List Nat := [101, 92, 73, 75, 249, 250, 165, 209, 210, 198, 212, 211, 74, 164, 285, 269, 286, 59, 72, 71, 180, 62, 266, 49, 61, 50, 34, 60]
def byR : List Nat := [84, 83]
def modes : FuncId → Nat := fun f => bif mem' byV f then 1 else bif mem' byR f then 2 else 0
def flags : FuncId → Bool := fun f => mem' [227, 6, 265, 162, 244, 245, 264, 289, 290, 291] f
noncomputable def evL (L : List (Mem1 Tryz.prog ents G0)) (f : FuncId) (args : List MV) : Option MV := gByVal (gEv Tryz.prog tab ents (memT L libT) modes (prD flags) 300 60) f args
def isT : Option MV → Bool
  | some (.bool true) => true
  | _ => false
theorem isT_out {o : Option MV} (h : isT o = true) : o = some (.bool true) := by
  unfold isT at h
  split at h
  · rfl
  · cases h
theorem sem_evL {L : List (Mem1 Tryz.prog ents G0)} {f : FuncId} {args : List MV} (hin : ents.contains f = true) (h : isT (evL L f args) = true) : SemC Tryz.prog G0 f args (.bool true) := semC_ev seat (memT_ok libT_ok) hin (isT_out h)
noncomputable def memB (L : List (Mem1 Tryz.prog ents G0)) (f : FuncId) (args : List MV) (r : MV) : Bool := match evL L f args with
  | some x => sameR x r
  | none => false
theorem memB_ok {L : List (Mem1 Tryz.prog ents G0)} {f : FuncId} {args : List MV} {r : MV} (hin : ents.contains f = true) (h : memB L f args r = true) : SemC Tryz.prog G0 f args r := by
  unfold memB at h
  split at h
  · rename_i x hx
    rw [sameR_ok h] at hx
    exact semC_ev seat (memT_ok libT_ok) hin hx
  · cases h
end Go.Proofs.YtmeeeigfjlbnkaaGreat
