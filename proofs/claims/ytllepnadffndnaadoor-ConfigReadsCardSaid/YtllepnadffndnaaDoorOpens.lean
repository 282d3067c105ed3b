/- What an argument of a type reads as. Printed by gendata.py. -/
import Derived.Test.YtllepnadffndnaaDoorData
import GoSem.ClaimJoined
namespace Go.Proofs.YtllepnadffndnaaDoor
open Go.RowKit Go.ChangeShapes Go.Deep
theorem reach_le : reachBytes ≤ 140737488355328 := by decide
/-- Whatever is read at type t is so read by r. -/
def Opens (P : Program) (t : TypeId) {α : Type} (r : Rp α) : Prop :=
  P.cellsOf t = r.size ∧ ∀ {H : Type} (enc : TypeId × Value → H) (W : World) (spare : Nat → Bool) (held : Bool) (fuel : Nat) (cs : List Value) (d : DataW H) (p : List MemPlace),
    DataW.trod enc P W 0 spare held fuel t cs = some (d, p) → (d.weights P t).all (· ≤ reachBytes) = true → ∃ x, r.rel W (Lt W.heap.size) cs x

theorem Opens.part_ {P : Program} {α : Type} {r : Rp α} {f : Field} {o : Nat} {H : Type} {enc : TypeId × Value → H} {W : World} {spare : Nat → Bool} {held : Bool} {n : Nat} {cs : List Value} {y : DataW H × List MemPlace}
    (h : Opens P f.type r) (ho : f.offset = o) (ht : DataW.trod enc P W 0 spare held n f.type ((cs.drop f.offset).take (P.cellsOf f.type)) = some y) (hw : (y.1.weights P f.type).all (· ≤ reachBytes) = true) :
    ∃ x, r.rel W (Lt W.heap.size) ((cs.drop o).take r.size) x := by
  obtain ⟨d, p⟩ := y
  rw [ho, h.1] at ht
  exact h.2 enc W spare held n _ d p ht hw
theorem Opens.int {P : Program} {t : TypeId} {k : IntKind} (hu : P.underlying t = some (.int k)) (hc : P.cellsOf t = 1) : Opens P t (Rp.int k) :=
  ⟨hc, fun enc W spare held fuel cs d p h _ => by
    obtain ⟨n, rfl, _, hw⟩ := DataW.trod_int hu h
    exact ⟨n, rfl, hw⟩⟩
theorem Opens.bool {P : Program} {t : TypeId} (hu : P.underlying t = some .bool) (hc : P.cellsOf t = 1) : Opens P t Rp.bool :=
  ⟨hc, fun enc W spare held fuel cs d p h _ => by
    obtain ⟨b, rfl, _⟩ := DataW.trod_bool hu h
    exact ⟨b, rfl⟩⟩
theorem Opens.str {P : Program} {t : TypeId} (hu : P.underlying t = some .string) (hc : P.cellsOf t = 1) : Opens P t Rp.str :=
  ⟨hc, fun enc W spare held fuel cs d p h hw => by
    obtain ⟨s, rfl, hx, _⟩ := DataW.trod_string hu h
    simp only [Prod.mk.injEq] at hx
    obtain ⟨rfl, rfl⟩ := hx
    have h2 : s.data.size ≤ reachBytes := by simpa [DataW.weights] using hw
    exact ⟨s, rfl, Nat.le_trans h2 reach_le⟩⟩
theorem Opens.arr {P : Program} {t e : TypeId} {k : IntKind} {n : Nat} (hu : P.underlying t = some (.array n e)) (he : P.underlying e = some (.int k)) (hc : P.cellsOf t = n) (hce : P.cellsOf e = 1) : Opens P t (Rp.arr k n) :=
  ⟨hc, fun enc W spare held fuel cs d p h hw => by
    obtain ⟨xs, m, _, _, hl, hlen, hi⟩ := DataW.trod_array hu h
    have key : ∀ i, i < n → ∃ y, cs[i]? = some (.int k y) ∧ (Lit.int k y).wf = true := by
      intro i hin
      have h1 := hi i hin
      rw [hce] at h1
      have hxi : xs[i]? = some (xs[i]'(by omega)) := List.getElem?_eq_getElem (by omega)
      rw [hxi] at h1
      obtain ⟨y, hy, _, hwf⟩ := DataW.trod_int he h1
      rw [Nat.mul_one] at hy
      exact ⟨y, take1 hy, hwf⟩
    refine ⟨cs.map fun | .int _ y => y | _ => 0, ?_, ?_, ?_⟩
    · apply List.ext_getElem?
      intro i
      rw [List.getElem?_map, List.getElem?_map]
      rcases Nat.lt_or_ge i n with hin | hin
      · obtain ⟨y, hy, _⟩ := key i hin
        rw [hy]; rfl
      · rw [List.getElem?_eq_none (by omega)]; rfl
    · simp; omega
    · intro y hy
      obtain ⟨v, hv, rfl⟩ := List.mem_map.1 hy
      obtain ⟨i, hi', rfl⟩ := List.mem_iff_getElem.1 hv
      obtain ⟨y, hy, hwf⟩ := key i (by omega)
      rw [List.getElem?_eq_getElem hi'] at hy
      injection hy with hy
      rw [hy]; exact hwf⟩
theorem Opens.key {P : Program} {t e : TypeId} (hu : P.underlying t = some (.array 32 e)) (he : P.underlying e = some (.int .u8)) (hc : P.cellsOf t = 32) (hce : P.cellsOf e = 1) : Opens P t Rp.key := Opens.arr hu he hc hce
theorem weightsAll_mem {H : Type} {P : Program} {e : TypeId} {l : List (DataW H)} (h : (DataW.weightsAll P e l).all (· ≤ reachBytes) = true) {d : DataW H} (hd : d ∈ l) : (d.weights P e).all (· ≤ reachBytes) = true := by
  induction l with
  | nil => cases hd
  | cons x l ih =>
    simp only [DataW.weightsAll, List.all_append, Bool.and_eq_true] at h
    rcases List.mem_cons.1 hd with rfl | hd
    · exact h.1
    · exact ih h.2 hd
theorem Opens.slice {P : Program} {t e : TypeId} {α : Type} {r : Rp α} (hu : P.underlying t = some (.slice e)) (hc : P.cellsOf t = 1) (hb : 0 < P.bytesOf e) (hpos : 0 < r.size) (hr : Opens P e r) : Opens P t (Rp.slice r) := by
  refine ⟨hc, fun {H} enc W spare held fuel cs d p h hw => ?_⟩
  rcases open_slice hu h with ⟨rfl, _⟩ | ⟨a, len, cap, m, n, D, Pl, rfl, _, hle, _, hm, hx, hi⟩
  · exact ⟨[], none, 0, rfl, by simp, fun h => absurd rfl h⟩
  · simp only [Prod.mk.injEq] at hx
    obtain ⟨rfl, rfl⟩ := hx
    simp only [DataW.weights, hu, List.all_cons, List.all_append, Bool.and_eq_true, List.length_map, List.length_range] at hw
    have hmle : len ≤ m := by rw [hm]; split <;> omega
    have hlen : len ≤ 140737488355328 := by
      have h1 := of_decide_eq_true hw.1
      have h3 := reach_le
      have h2 : len * 1 ≤ (len + (m - len)) * P.bytesOf e := Nat.mul_le_mul (by omega) hb
      omega
    have key : ∀ i, i < len → ∃ x cs', r.rel W (Lt W.heap.size) cs' x ∧ (∀ j v, cs'[j]? = some v → W.cell? (a.add (i * r.size + j)) = some v) := by
      intro i hil
      obtain ⟨cs', hc', ht⟩ := hi i (by omega)
      rw [hr.1] at hc'
      obtain ⟨_, hl, hat⟩ := World.cells?_some hc'
      have hmem : D i ∈ List.map D (List.range len) := List.mem_map.2 ⟨i, List.mem_range.2 hil, rfl⟩
      obtain ⟨x, hx⟩ := hr.2 enc W spare held n cs' (D i) (Pl i) ht (weightsAll_mem hw.2.1 hmem)
      refine ⟨x, cs', hx, fun j v hv => ?_⟩
      have hj := (List.getElem?_eq_some_iff.1 hv).1
      have := hat j (by omega)
      rw [Go.Deep.add_add] at this
      rw [this, hv]
    by_cases h0 : len = 0
    · subst h0
      exact ⟨[], some a, cap, rfl, by simp, fun h => absurd rfl h⟩
    have ex : ∃ f : Nat → α, ∀ i, i < len → ∃ cs', r.rel W (Lt W.heap.size) cs' (f i) ∧ (∀ j v, cs'[j]? = some v → W.cell? (a.add (i * r.size + j)) = some v) := by
      obtain ⟨x0, _⟩ := key 0 (by omega)
      have : Nonempty α := ⟨x0⟩
      refine ⟨fun i => Classical.epsilon fun x => ∃ cs', r.rel W (Lt W.heap.size) cs' x ∧ (∀ j v, cs'[j]? = some v → W.cell? (a.add (i * r.size + j)) = some v), fun i hil => ?_⟩
      exact Classical.epsilon_spec (key i hil)
    obtain ⟨f, hf⟩ := ex
    obtain ⟨b, o, spot⟩ := a
    have hspot : spot = none ∧ b < W.heap.size := by
      obtain ⟨cs', hr', hc'⟩ := hf 0 (by omega)
      have hl := r.len hr'
      have hv : cs'[0]? = some (cs'[0]'(by omega)) := List.getElem?_eq_getElem (by omega)
      have hcell := hc' 0 _ hv
      have e0 : (⟨b, o, spot⟩ : Addr).add (0 * r.size + 0) = ⟨b, o, spot⟩ := by simp [Addr.add]
      rw [e0] at hcell
      exact ⟨by simpa using World.cell?_spot hcell, World.block_lt_of_cell? W _ hcell⟩
    obtain ⟨rfl, hblt⟩ := hspot
    refine ⟨(List.range len).map f, some ⟨b, o, none⟩, cap, by simp, by simpa using hlen, fun _ => ⟨b, o, rfl, hblt, fun i x hx => ?_⟩⟩
    have hil : i < len := by
      have := (List.getElem?_eq_some_iff.1 hx).1
      simpa using this
    have hxi : x = f i := by
      simp [List.getElem?_range hil] at hx
      exact hx.symm
    subst hxi
    obtain ⟨cs', hr', hc'⟩ := hf i hil
    refine ⟨cs', hr', fun j v hv => ?_⟩
    have := hc' j v hv
    rw [Addr.add_mid] at this
    rw [Nat.add_assoc]
    exact this

theorem Opens.field {P : Program} {t : TypeId} {f0 f1 f2 f3 : Field} (hu : P.underlying t = some (.struct #[f0, f1, f2, f3])) (hc : P.cellsOf t = 4)
    (o0 : f0.offset = 0) (o1 : f1.offset = 1) (o2 : f2.offset = 2) (o3 : f3.offset = 3)
    (h0 : Opens P f0.type (Rp.int .i64)) (h1 : Opens P f1.type (Rp.int .i64)) (h2 : Opens P f2.type (Rp.int .u64)) (h3 : Opens P f3.type Rp.bytes) : Opens P t Rp.field := by
  refine ⟨hc, fun {H} enc W spare held fuel cs d p h hw => ?_⟩
  obtain ⟨xs, n, _, hx, hl, hlen, hf⟩ := DataW.trod_struct hu h
  simp only [Prod.mk.injEq] at hx
  obtain ⟨rfl, rfl⟩ := hx
  match xs, hlen with
  | [y0, y1, y2, y3], _ =>
    simp only [DataW.weights, hu, List.map_cons, List.map_nil, DataW.weightsEach, List.all_append, Bool.and_eq_true] at hw
    obtain ⟨w0, w1, w2, w3, _⟩ := hw
    obtain ⟨x0, r0⟩ := h0.part_ o0 (hf 0 f0 rfl) w0
    obtain ⟨x1, r1⟩ := h1.part_ o1 (hf 1 f1 rfl) w1
    obtain ⟨x2, r2⟩ := h2.part_ o2 (hf 2 f2 rfl) w2
    obtain ⟨x3, r3⟩ := h3.part_ o3 (hf 3 f3 rfl) w3
    exact ⟨⟨x0, x1, x2, x3⟩, Rp.field_mk (hl.trans hc) r0 r1 r2 r3⟩
theorem Opens.account {P : Program} {t : TypeId} {f0 f1 f2 : Field} (hu : P.underlying t = some (.struct #[f0, f1, f2])) (hc : P.cellsOf t = 3)
    (o0 : f0.offset = 0) (o1 : f1.offset = 1) (o2 : f2.offset = 2)
    (h0 : Opens P f0.type Rp.str) (h1 : Opens P f1.type (Rp.int .u64)) (h2 : Opens P f2.type (Rp.int .u64)) : Opens P t Rp.account := by
  refine ⟨hc, fun {H} enc W spare held fuel cs d p h hw => ?_⟩
  obtain ⟨xs, n, _, hx, hl, hlen, hf⟩ := DataW.trod_struct hu h
  simp only [Prod.mk.injEq] at hx
  obtain ⟨rfl, rfl⟩ := hx
  match xs, hlen with
  | [y0, y1, y2], _ =>
    simp only [DataW.weights, hu, List.map_cons, List.map_nil, DataW.weightsEach, List.all_append, Bool.and_eq_true] at hw
    obtain ⟨w0, w1, w2, _⟩ := hw
    obtain ⟨x0, r0⟩ := h0.part_ o0 (hf 0 f0 rfl) w0
    obtain ⟨x1, r1⟩ := h1.part_ o1 (hf 1 f1 rfl) w1
    obtain ⟨x2, r2⟩ := h2.part_ o2 (hf 2 f2 rfl) w2
    exact ⟨⟨x0, x1, x2⟩, Rp.account_mk (hl.trans hc) r0 r1 r2⟩
theorem Opens.ledger {P : Program} {t : TypeId} {f0 f1 : Field} (hu : P.underlying t = some (.struct #[f0, f1])) (hc : P.cellsOf t = 2)
    (o0 : f0.offset = 0) (o1 : f1.offset = 1)
    (h0 : Opens P f0.type (Rp.slice Rp.account)) (h1 : Opens P f1.type (Rp.int .u64)) : Opens P t Rp.ledger := by
  refine ⟨hc, fun {H} enc W spare held fuel cs d p h hw => ?_⟩
  obtain ⟨xs, n, _, hx, hl, hlen, hf⟩ := DataW.trod_struct hu h
  simp only [Prod.mk.injEq] at hx
  obtain ⟨rfl, rfl⟩ := hx
  match xs, hlen with
  | [y0, y1], _ =>
    simp only [DataW.weights, hu, List.map_cons, List.map_nil, DataW.weightsEach, List.all_append, Bool.and_eq_true] at hw
    obtain ⟨w0, w1, _⟩ := hw
    obtain ⟨x0, r0⟩ := h0.part_ o0 (hf 0 f0 rfl) w0
    obtain ⟨x1, r1⟩ := h1.part_ o1 (hf 1 f1 rfl) w1
    exact ⟨⟨x0, x1⟩, Rp.ledger_mk (hl.trans hc) r0 r1⟩
theorem Opens.transfer {P : Program} {t : TypeId} {f0 f1 : Field} (hu : P.underlying t = some (.struct #[f0, f1])) (hc : P.cellsOf t = 2)
    (o0 : f0.offset = 0) (o1 : f1.offset = 1)
    (h0 : Opens P f0.type Rp.str) (h1 : Opens P f1.type (Rp.int .u64)) : Opens P t Rp.transfer := by
  refine ⟨hc, fun {H} enc W spare held fuel cs d p h hw => ?_⟩
  obtain ⟨xs, n, _, hx, hl, hlen, hf⟩ := DataW.trod_struct hu h
  simp only [Prod.mk.injEq] at hx
  obtain ⟨rfl, rfl⟩ := hx
  match xs, hlen with
  | [y0, y1], _ =>
    simp only [DataW.weights, hu, List.map_cons, List.map_nil, DataW.weightsEach, List.all_append, Bool.and_eq_true] at hw
    obtain ⟨w0, w1, _⟩ := hw
    obtain ⟨x0, r0⟩ := h0.part_ o0 (hf 0 f0 rfl) w0
    obtain ⟨x1, r1⟩ := h1.part_ o1 (hf 1 f1 rfl) w1
    exact ⟨⟨x0, x1⟩, Rp.transfer_mk (hl.trans hc) r0 r1⟩
theorem Opens.tx {P : Program} {t : TypeId} {f0 f1 f2 f3 f4 f5 : Field} (hu : P.underlying t = some (.struct #[f0, f1, f2, f3, f4, f5])) (hc : P.cellsOf t = 6)
    (o0 : f0.offset = 0) (o1 : f1.offset = 1) (o2 : f2.offset = 2) (o3 : f3.offset = 3) (o4 : f4.offset = 4) (o5 : f5.offset = 5)
    (h0 : Opens P f0.type Rp.str) (h1 : Opens P f1.type (Rp.int .u64)) (h2 : Opens P f2.type (Rp.int .u64)) (h3 : Opens P f3.type (Rp.int .u64)) (h4 : Opens P f4.type Rp.str) (h5 : Opens P f5.type (Rp.slice Rp.transfer)) : Opens P t Rp.tx := by
  refine ⟨hc, fun {H} enc W spare held fuel cs d p h hw => ?_⟩
  obtain ⟨xs, n, _, hx, hl, hlen, hf⟩ := DataW.trod_struct hu h
  simp only [Prod.mk.injEq] at hx
  obtain ⟨rfl, rfl⟩ := hx
  match xs, hlen with
  | [y0, y1, y2, y3, y4, y5], _ =>
    simp only [DataW.weights, hu, List.map_cons, List.map_nil, DataW.weightsEach, List.all_append, Bool.and_eq_true] at hw
    obtain ⟨w0, w1, w2, w3, w4, w5, _⟩ := hw
    obtain ⟨x0, r0⟩ := h0.part_ o0 (hf 0 f0 rfl) w0
    obtain ⟨x1, r1⟩ := h1.part_ o1 (hf 1 f1 rfl) w1
    obtain ⟨x2, r2⟩ := h2.part_ o2 (hf 2 f2 rfl) w2
    obtain ⟨x3, r3⟩ := h3.part_ o3 (hf 3 f3 rfl) w3
    obtain ⟨x4, r4⟩ := h4.part_ o4 (hf 4 f4 rfl) w4
    obtain ⟨x5, r5⟩ := h5.part_ o5 (hf 5 f5 rfl) w5
    exact ⟨⟨x0, x1, x2, x3, x4, x5⟩, Rp.tx_mk (hl.trans hc) r0 r1 r2 r3 r4 r5⟩
theorem Opens.result {P : Program} {t : TypeId} {f0 f1 f2 f3 f4 : Field} (hu : P.underlying t = some (.struct #[f0, f1, f2, f3, f4])) (hc : P.cellsOf t = 5)
    (o0 : f0.offset = 0) (o1 : f1.offset = 1) (o2 : f2.offset = 2) (o3 : f3.offset = 3) (o4 : f4.offset = 4)
    (h0 : Opens P f0.type (Rp.int .i64)) (h1 : Opens P f1.type Rp.str) (h2 : Opens P f2.type (Rp.int .u64)) (h3 : Opens P f3.type (Rp.int .u64)) (h4 : Opens P f4.type (Rp.int .u64)) : Opens P t Rp.result := by
  refine ⟨hc, fun {H} enc W spare held fuel cs d p h hw => ?_⟩
  obtain ⟨xs, n, _, hx, hl, hlen, hf⟩ := DataW.trod_struct hu h
  simp only [Prod.mk.injEq] at hx
  obtain ⟨rfl, rfl⟩ := hx
  match xs, hlen with
  | [y0, y1, y2, y3, y4], _ =>
    simp only [DataW.weights, hu, List.map_cons, List.map_nil, DataW.weightsEach, List.all_append, Bool.and_eq_true] at hw
    obtain ⟨w0, w1, w2, w3, w4, _⟩ := hw
    obtain ⟨x0, r0⟩ := h0.part_ o0 (hf 0 f0 rfl) w0
    obtain ⟨x1, r1⟩ := h1.part_ o1 (hf 1 f1 rfl) w1
    obtain ⟨x2, r2⟩ := h2.part_ o2 (hf 2 f2 rfl) w2
    obtain ⟨x3, r3⟩ := h3.part_ o3 (hf 3 f3 rfl) w3
    obtain ⟨x4, r4⟩ := h4.part_ o4 (hf 4 f4 rfl) w4
    exact ⟨⟨x0, x1, x2, x3, x4⟩, Rp.result_mk (hl.trans hc) r0 r1 r2 r3 r4⟩
theorem Opens.app {P : Program} {t : TypeId} {f0 f1 f2 f3 f4 : Field} (hu : P.underlying t = some (.struct #[f0, f1, f2, f3, f4])) (hc : P.cellsOf t = 8)
    (o0 : f0.offset = 0) (o1 : f1.offset = 2) (o2 : f2.offset = 4) (o3 : f3.offset = 6) (o4 : f4.offset = 7)
    (h0 : Opens P f0.type Rp.ledger) (h1 : Opens P f1.type Rp.ledger) (h2 : Opens P f2.type Rp.ledger) (h3 : Opens P f3.type Rp.bool) (h4 : Opens P f4.type (Rp.int .u64)) : Opens P t Rp.app := by
  refine ⟨hc, fun {H} enc W spare held fuel cs d p h hw => ?_⟩
  obtain ⟨xs, n, _, hx, hl, hlen, hf⟩ := DataW.trod_struct hu h
  simp only [Prod.mk.injEq] at hx
  obtain ⟨rfl, rfl⟩ := hx
  match xs, hlen with
  | [y0, y1, y2, y3, y4], _ =>
    simp only [DataW.weights, hu, List.map_cons, List.map_nil, DataW.weightsEach, List.all_append, Bool.and_eq_true] at hw
    obtain ⟨w0, w1, w2, w3, w4, _⟩ := hw
    obtain ⟨x0, r0⟩ := h0.part_ o0 (hf 0 f0 rfl) w0
    obtain ⟨x1, r1⟩ := h1.part_ o1 (hf 1 f1 rfl) w1
    obtain ⟨x2, r2⟩ := h2.part_ o2 (hf 2 f2 rfl) w2
    obtain ⟨x3, r3⟩ := h3.part_ o3 (hf 3 f3 rfl) w3
    obtain ⟨x4, r4⟩ := h4.part_ o4 (hf 4 f4 rfl) w4
    exact ⟨⟨x0, x1, x2, x3, x4⟩, Rp.app_mk (hl.trans hc) r0 r1 r2 r3 r4⟩
theorem Opens.config {P : Program} {t : TypeId} {f0 f1 f2 f3 f4 f5 f6 f7 f8 f9 f10 f11 : Field} (hu : P.underlying t = some (.struct #[f0, f1, f2, f3, f4, f5, f6, f7, f8, f9, f10, f11])) (hc : P.cellsOf t = 12)
    (o0 : f0.offset = 0) (o1 : f1.offset = 1) (o2 : f2.offset = 2) (o3 : f3.offset = 3) (o4 : f4.offset = 4) (o5 : f5.offset = 5) (o6 : f6.offset = 6) (o7 : f7.offset = 7) (o8 : f8.offset = 8) (o9 : f9.offset = 9) (o10 : f10.offset = 10) (o11 : f11.offset = 11)
    (h0 : Opens P f0.type (Rp.int .i64)) (h1 : Opens P f1.type (Rp.int .i64)) (h2 : Opens P f2.type (Rp.int .i64)) (h3 : Opens P f3.type (Rp.int .i64)) (h4 : Opens P f4.type (Rp.int .i64)) (h5 : Opens P f5.type (Rp.int .i64)) (h6 : Opens P f6.type Rp.bool) (h7 : Opens P f7.type (Rp.int .i64)) (h8 : Opens P f8.type (Rp.int .i64)) (h9 : Opens P f9.type (Rp.int .u64)) (h10 : Opens P f10.type (Rp.int .i64)) (h11 : Opens P f11.type (Rp.int .i64)) : Opens P t Rp.config := by
  refine ⟨hc, fun {H} enc W spare held fuel cs d p h hw => ?_⟩
  obtain ⟨xs, n, _, hx, hl, hlen, hf⟩ := DataW.trod_struct hu h
  simp only [Prod.mk.injEq] at hx
  obtain ⟨rfl, rfl⟩ := hx
  match xs, hlen with
  | [y0, y1, y2, y3, y4, y5, y6, y7, y8, y9, y10, y11], _ =>
    simp only [DataW.weights, hu, List.map_cons, List.map_nil, DataW.weightsEach, List.all_append, Bool.and_eq_true] at hw
    obtain ⟨w0, w1, w2, w3, w4, w5, w6, w7, w8, w9, w10, w11, _⟩ := hw
    obtain ⟨x0, r0⟩ := h0.part_ o0 (hf 0 f0 rfl) w0
    obtain ⟨x1, r1⟩ := h1.part_ o1 (hf 1 f1 rfl) w1
    obtain ⟨x2, r2⟩ := h2.part_ o2 (hf 2 f2 rfl) w2
    obtain ⟨x3, r3⟩ := h3.part_ o3 (hf 3 f3 rfl) w3
    obtain ⟨x4, r4⟩ := h4.part_ o4 (hf 4 f4 rfl) w4
    obtain ⟨x5, r5⟩ := h5.part_ o5 (hf 5 f5 rfl) w5
    obtain ⟨x6, r6⟩ := h6.part_ o6 (hf 6 f6 rfl) w6
    obtain ⟨x7, r7⟩ := h7.part_ o7 (hf 7 f7 rfl) w7
    obtain ⟨x8, r8⟩ := h8.part_ o8 (hf 8 f8 rfl) w8
    obtain ⟨x9, r9⟩ := h9.part_ o9 (hf 9 f9 rfl) w9
    obtain ⟨x10, r10⟩ := h10.part_ o10 (hf 10 f10 rfl) w10
    obtain ⟨x11, r11⟩ := h11.part_ o11 (hf 11 f11 rfl) w11
    exact ⟨⟨x0, x1, x2, x3, x4, x5, x6, x7, x8, x9, x10, x11⟩, Rp.config_mk (hl.trans hc) r0 r1 r2 r3 r4 r5 r6 r7 r8 r9 r10 r11⟩
theorem Opens.item {P : Program} {t : TypeId} {f0 f1 f2 : Field} (hu : P.underlying t = some (.struct #[f0, f1, f2])) (hc : P.cellsOf t = 3)
    (o0 : f0.offset = 0) (o1 : f1.offset = 1) (o2 : f2.offset = 2)
    (h0 : Opens P f0.type (Rp.int .i64)) (h1 : Opens P f1.type (Rp.int .u64)) (h2 : Opens P f2.type (Rp.int .i64)) : Opens P t Rp.item := by
  refine ⟨hc, fun {H} enc W spare held fuel cs d p h hw => ?_⟩
  obtain ⟨xs, n, _, hx, hl, hlen, hf⟩ := DataW.trod_struct hu h
  simp only [Prod.mk.injEq] at hx
  obtain ⟨rfl, rfl⟩ := hx
  match xs, hlen with
  | [y0, y1, y2], _ =>
    simp only [DataW.weights, hu, List.map_cons, List.map_nil, DataW.weightsEach, List.all_append, Bool.and_eq_true] at hw
    obtain ⟨w0, w1, w2, _⟩ := hw
    obtain ⟨x0, r0⟩ := h0.part_ o0 (hf 0 f0 rfl) w0
    obtain ⟨x1, r1⟩ := h1.part_ o1 (hf 1 f1 rfl) w1
    obtain ⟨x2, r2⟩ := h2.part_ o2 (hf 2 f2 rfl) w2
    exact ⟨⟨x0, x1, x2⟩, Rp.item_mk (hl.trans hc) r0 r1 r2⟩
theorem Opens.handle {P : Program} {t : TypeId} {f0 f1 : Field} (hu : P.underlying t = some (.struct #[f0, f1])) (hc : P.cellsOf t = 2)
    (o0 : f0.offset = 0) (o1 : f1.offset = 1)
    (h0 : Opens P f0.type (Rp.int .i64)) (h1 : Opens P f1.type (Rp.int .i64)) : Opens P t Rp.handle := by
  refine ⟨hc, fun {H} enc W spare held fuel cs d p h hw => ?_⟩
  obtain ⟨xs, n, _, hx, hl, hlen, hf⟩ := DataW.trod_struct hu h
  simp only [Prod.mk.injEq] at hx
  obtain ⟨rfl, rfl⟩ := hx
  match xs, hlen with
  | [y0, y1], _ =>
    simp only [DataW.weights, hu, List.map_cons, List.map_nil, DataW.weightsEach, List.all_append, Bool.and_eq_true] at hw
    obtain ⟨w0, w1, _⟩ := hw
    obtain ⟨x0, r0⟩ := h0.part_ o0 (hf 0 f0 rfl) w0
    obtain ⟨x1, r1⟩ := h1.part_ o1 (hf 1 f1 rfl) w1
    exact ⟨⟨x0, x1⟩, Rp.handle_mk (hl.trans hc) r0 r1⟩
theorem Opens.entry {P : Program} {t : TypeId} {f0 f1 f2 f3 f4 f5 f6 f7 f8 f9 : Field} (hu : P.underlying t = some (.struct #[f0, f1, f2, f3, f4, f5, f6, f7, f8, f9])) (hc : P.cellsOf t = 41)
    (o0 : f0.offset = 0) (o1 : f1.offset = 32) (o2 : f2.offset = 33) (o3 : f3.offset = 34) (o4 : f4.offset = 35) (o5 : f5.offset = 36) (o6 : f6.offset = 37) (o7 : f7.offset = 38) (o8 : f8.offset = 39) (o9 : f9.offset = 40)
    (h0 : Opens P f0.type Rp.key) (h1 : Opens P f1.type Rp.bytes) (h2 : Opens P f2.type Rp.str) (h3 : Opens P f3.type (Rp.int .u64)) (h4 : Opens P f4.type (Rp.int .u64)) (h5 : Opens P f5.type (Rp.int .u64)) (h6 : Opens P f6.type (Rp.int .i64)) (h7 : Opens P f7.type (Rp.int .i64)) (h8 : Opens P f8.type (Rp.int .i64)) (h9 : Opens P f9.type Rp.ints) : Opens P t Rp.entry := by
  refine ⟨hc, fun {H} enc W spare held fuel cs d p h hw => ?_⟩
  obtain ⟨xs, n, _, hx, hl, hlen, hf⟩ := DataW.trod_struct hu h
  simp only [Prod.mk.injEq] at hx
  obtain ⟨rfl, rfl⟩ := hx
  match xs, hlen with
  | [y0, y1, y2, y3, y4, y5, y6, y7, y8, y9], _ =>
    simp only [DataW.weights, hu, List.map_cons, List.map_nil, DataW.weightsEach, List.all_append, Bool.and_eq_true] at hw
    obtain ⟨w0, w1, w2, w3, w4, w5, w6, w7, w8, w9, _⟩ := hw
    obtain ⟨x0, r0⟩ := h0.part_ o0 (hf 0 f0 rfl) w0
    obtain ⟨x1, r1⟩ := h1.part_ o1 (hf 1 f1 rfl) w1
    obtain ⟨x2, r2⟩ := h2.part_ o2 (hf 2 f2 rfl) w2
    obtain ⟨x3, r3⟩ := h3.part_ o3 (hf 3 f3 rfl) w3
    obtain ⟨x4, r4⟩ := h4.part_ o4 (hf 4 f4 rfl) w4
    obtain ⟨x5, r5⟩ := h5.part_ o5 (hf 5 f5 rfl) w5
    obtain ⟨x6, r6⟩ := h6.part_ o6 (hf 6 f6 rfl) w6
    obtain ⟨x7, r7⟩ := h7.part_ o7 (hf 7 f7 rfl) w7
    obtain ⟨x8, r8⟩ := h8.part_ o8 (hf 8 f8 rfl) w8
    obtain ⟨x9, r9⟩ := h9.part_ o9 (hf 9 f9 rfl) w9
    exact ⟨⟨x0, x1, x2, x3, x4, x5, x6, x7, x8, x9⟩, Rp.entry_mk (hl.trans hc) r0 r1 r2 r3 r4 r5 r6 r7 r8 r9⟩
theorem Opens.state {P : Program} {t : TypeId} {f0 f1 f2 f3 f4 f5 f6 : Field} (hu : P.underlying t = some (.struct #[f0, f1, f2, f3, f4, f5, f6])) (hc : P.cellsOf t = 25)
    (o0 : f0.offset = 0) (o1 : f1.offset = 12) (o2 : f2.offset = 20) (o3 : f3.offset = 21) (o4 : f4.offset = 22) (o5 : f5.offset = 23) (o6 : f6.offset = 24)
    (h0 : Opens P f0.type Rp.config) (h1 : Opens P f1.type Rp.app) (h2 : Opens P f2.type (Rp.int .i64)) (h3 : Opens P f3.type (Rp.int .i64)) (h4 : Opens P f4.type (Rp.int .i64)) (h5 : Opens P f5.type (Rp.slice Rp.entry)) (h6 : Opens P f6.type (Rp.slice Rp.key)) : Opens P t Rp.state := by
  refine ⟨hc, fun {H} enc W spare held fuel cs d p h hw => ?_⟩
  obtain ⟨xs, n, _, hx, hl, hlen, hf⟩ := DataW.trod_struct hu h
  simp only [Prod.mk.injEq] at hx
  obtain ⟨rfl, rfl⟩ := hx
  match xs, hlen with
  | [y0, y1, y2, y3, y4, y5, y6], _ =>
    simp only [DataW.weights, hu, List.map_cons, List.map_nil, DataW.weightsEach, List.all_append, Bool.and_eq_true] at hw
    obtain ⟨w0, w1, w2, w3, w4, w5, w6, _⟩ := hw
    obtain ⟨x0, r0⟩ := h0.part_ o0 (hf 0 f0 rfl) w0
    obtain ⟨x1, r1⟩ := h1.part_ o1 (hf 1 f1 rfl) w1
    obtain ⟨x2, r2⟩ := h2.part_ o2 (hf 2 f2 rfl) w2
    obtain ⟨x3, r3⟩ := h3.part_ o3 (hf 3 f3 rfl) w3
    obtain ⟨x4, r4⟩ := h4.part_ o4 (hf 4 f4 rfl) w4
    obtain ⟨x5, r5⟩ := h5.part_ o5 (hf 5 f5 rfl) w5
    obtain ⟨x6, r6⟩ := h6.part_ o6 (hf 6 f6 rfl) w6
    exact ⟨⟨x0, x1, x2, x3, x4, x5, x6⟩, Rp.state_mk (hl.trans hc) r0 r1 r2 r3 r4 r5 r6⟩
theorem Opens.reply {P : Program} {t : TypeId} {f0 f1 f2 f3 f4 f5 f6 f7 f8 f9 f10 : Field} (hu : P.underlying t = some (.struct #[f0, f1, f2, f3, f4, f5, f6, f7, f8, f9, f10])) (hc : P.cellsOf t = 73)
    (o0 : f0.offset = 0) (o1 : f1.offset = 1) (o2 : f2.offset = 33) (o3 : f3.offset = 34) (o4 : f4.offset = 35) (o5 : f5.offset = 36) (o6 : f6.offset = 37) (o7 : f7.offset = 38) (o8 : f8.offset = 39) (o9 : f9.offset = 40) (o10 : f10.offset = 41)
    (h0 : Opens P f0.type (Rp.int .i64)) (h1 : Opens P f1.type Rp.key) (h2 : Opens P f2.type (Rp.int .u64)) (h3 : Opens P f3.type (Rp.slice Rp.key)) (h4 : Opens P f4.type (Rp.slice Rp.key)) (h5 : Opens P f5.type (Rp.slice Rp.key)) (h6 : Opens P f6.type (Rp.slice Rp.key)) (h7 : Opens P f7.type (Rp.slice Rp.key)) (h8 : Opens P f8.type (Rp.slice Rp.bytes)) (h9 : Opens P f9.type (Rp.int .i64)) (h10 : Opens P f10.type Rp.key) : Opens P t Rp.reply := by
  refine ⟨hc, fun {H} enc W spare held fuel cs d p h hw => ?_⟩
  obtain ⟨xs, n, _, hx, hl, hlen, hf⟩ := DataW.trod_struct hu h
  simp only [Prod.mk.injEq] at hx
  obtain ⟨rfl, rfl⟩ := hx
  match xs, hlen with
  | [y0, y1, y2, y3, y4, y5, y6, y7, y8, y9, y10], _ =>
    simp only [DataW.weights, hu, List.map_cons, List.map_nil, DataW.weightsEach, List.all_append, Bool.and_eq_true] at hw
    obtain ⟨w0, w1, w2, w3, w4, w5, w6, w7, w8, w9, w10, _⟩ := hw
    obtain ⟨x0, r0⟩ := h0.part_ o0 (hf 0 f0 rfl) w0
    obtain ⟨x1, r1⟩ := h1.part_ o1 (hf 1 f1 rfl) w1
    obtain ⟨x2, r2⟩ := h2.part_ o2 (hf 2 f2 rfl) w2
    obtain ⟨x3, r3⟩ := h3.part_ o3 (hf 3 f3 rfl) w3
    obtain ⟨x4, r4⟩ := h4.part_ o4 (hf 4 f4 rfl) w4
    obtain ⟨x5, r5⟩ := h5.part_ o5 (hf 5 f5 rfl) w5
    obtain ⟨x6, r6⟩ := h6.part_ o6 (hf 6 f6 rfl) w6
    obtain ⟨x7, r7⟩ := h7.part_ o7 (hf 7 f7 rfl) w7
    obtain ⟨x8, r8⟩ := h8.part_ o8 (hf 8 f8 rfl) w8
    obtain ⟨x9, r9⟩ := h9.part_ o9 (hf 9 f9 rfl) w9
    obtain ⟨x10, r10⟩ := h10.part_ o10 (hf 10 f10 rfl) w10
    exact ⟨⟨x0, x1, x2, x3, x4, x5, x6, x7, x8, x9, x10⟩, Rp.reply_mk (hl.trans hc) r0 r1 r2 r3 r4 r5 r6 r7 r8 r9 r10⟩
theorem Opens.header {P : Program} {t : TypeId} {f0 f1 f2 f3 f4 f5 f6 : Field} (hu : P.underlying t = some (.struct #[f0, f1, f2, f3, f4, f5, f6])) (hc : P.cellsOf t = 131)
    (o0 : f0.offset = 0) (o1 : f1.offset = 1) (o2 : f2.offset = 2) (o3 : f3.offset = 3) (o4 : f4.offset = 35) (o5 : f5.offset = 67) (o6 : f6.offset = 99)
    (h0 : Opens P f0.type (Rp.int .i64)) (h1 : Opens P f1.type (Rp.int .i64)) (h2 : Opens P f2.type (Rp.int .i64)) (h3 : Opens P f3.type Rp.key) (h4 : Opens P f4.type Rp.key) (h5 : Opens P f5.type Rp.key) (h6 : Opens P f6.type Rp.key) : Opens P t Rp.header := by
  refine ⟨hc, fun {H} enc W spare held fuel cs d p h hw => ?_⟩
  obtain ⟨xs, n, _, hx, hl, hlen, hf⟩ := DataW.trod_struct hu h
  simp only [Prod.mk.injEq] at hx
  obtain ⟨rfl, rfl⟩ := hx
  match xs, hlen with
  | [y0, y1, y2, y3, y4, y5, y6], _ =>
    simp only [DataW.weights, hu, List.map_cons, List.map_nil, DataW.weightsEach, List.all_append, Bool.and_eq_true] at hw
    obtain ⟨w0, w1, w2, w3, w4, w5, w6, _⟩ := hw
    obtain ⟨x0, r0⟩ := h0.part_ o0 (hf 0 f0 rfl) w0
    obtain ⟨x1, r1⟩ := h1.part_ o1 (hf 1 f1 rfl) w1
    obtain ⟨x2, r2⟩ := h2.part_ o2 (hf 2 f2 rfl) w2
    obtain ⟨x3, r3⟩ := h3.part_ o3 (hf 3 f3 rfl) w3
    obtain ⟨x4, r4⟩ := h4.part_ o4 (hf 4 f4 rfl) w4
    obtain ⟨x5, r5⟩ := h5.part_ o5 (hf 5 f5 rfl) w5
    obtain ⟨x6, r6⟩ := h6.part_ o6 (hf 6 f6 rfl) w6
    exact ⟨⟨x0, x1, x2, x3, x4, x5, x6⟩, Rp.header_mk (hl.trans hc) r0 r1 r2 r3 r4 r5 r6⟩
theorem Opens.block {P : Program} {t : TypeId} {f0 f1 : Field} (hu : P.underlying t = some (.struct #[f0, f1])) (hc : P.cellsOf t = 132)
    (o0 : f0.offset = 0) (o1 : f1.offset = 131)
    (h0 : Opens P f0.type Rp.header) (h1 : Opens P f1.type (Rp.slice Rp.bytes)) : Opens P t Rp.block := by
  refine ⟨hc, fun {H} enc W spare held fuel cs d p h hw => ?_⟩
  obtain ⟨xs, n, _, hx, hl, hlen, hf⟩ := DataW.trod_struct hu h
  simp only [Prod.mk.injEq] at hx
  obtain ⟨rfl, rfl⟩ := hx
  match xs, hlen with
  | [y0, y1], _ =>
    simp only [DataW.weights, hu, List.map_cons, List.map_nil, DataW.weightsEach, List.all_append, Bool.and_eq_true] at hw
    obtain ⟨w0, w1, _⟩ := hw
    obtain ⟨x0, r0⟩ := h0.part_ o0 (hf 0 f0 rfl) w0
    obtain ⟨x1, r1⟩ := h1.part_ o1 (hf 1 f1 rfl) w1
    exact ⟨⟨x0, x1⟩, Rp.block_mk (hl.trans hc) r0 r1⟩
theorem Opens.tip {P : Program} {t : TypeId} {f0 f1 f2 f3 f4 : Field} (hu : P.underlying t = some (.struct #[f0, f1, f2, f3, f4])) (hc : P.cellsOf t = 98)
    (o0 : f0.offset = 0) (o1 : f1.offset = 1) (o2 : f2.offset = 2) (o3 : f3.offset = 34) (o4 : f4.offset = 66)
    (h0 : Opens P f0.type (Rp.int .i64)) (h1 : Opens P f1.type (Rp.int .i64)) (h2 : Opens P f2.type Rp.key) (h3 : Opens P f3.type Rp.key) (h4 : Opens P f4.type Rp.key) : Opens P t Rp.tip := by
  refine ⟨hc, fun {H} enc W spare held fuel cs d p h hw => ?_⟩
  obtain ⟨xs, n, _, hx, hl, hlen, hf⟩ := DataW.trod_struct hu h
  simp only [Prod.mk.injEq] at hx
  obtain ⟨rfl, rfl⟩ := hx
  match xs, hlen with
  | [y0, y1, y2, y3, y4], _ =>
    simp only [DataW.weights, hu, List.map_cons, List.map_nil, DataW.weightsEach, List.all_append, Bool.and_eq_true] at hw
    obtain ⟨w0, w1, w2, w3, w4, _⟩ := hw
    obtain ⟨x0, r0⟩ := h0.part_ o0 (hf 0 f0 rfl) w0
    obtain ⟨x1, r1⟩ := h1.part_ o1 (hf 1 f1 rfl) w1
    obtain ⟨x2, r2⟩ := h2.part_ o2 (hf 2 f2 rfl) w2
    obtain ⟨x3, r3⟩ := h3.part_ o3 (hf 3 f3 rfl) w3
    obtain ⟨x4, r4⟩ := h4.part_ o4 (hf 4 f4 rfl) w4
    exact ⟨⟨x0, x1, x2, x3, x4⟩, Rp.tip_mk (hl.trans hc) r0 r1 r2 r3 r4⟩
theorem Opens.op {P : Program} {t : TypeId} {f0 f1 f2 f3 f4 : Field} (hu : P.underlying t = some (.struct #[f0, f1, f2, f3, f4])) (hc : P.cellsOf t = 5)
    (o0 : f0.offset = 0) (o1 : f1.offset = 1) (o2 : f2.offset = 2) (o3 : f3.offset = 3) (o4 : f4.offset = 4)
    (h0 : Opens P f0.type (Rp.int .i64)) (h1 : Opens P f1.type (Rp.int .i64)) (h2 : Opens P f2.type (Rp.int .i64)) (h3 : Opens P f3.type (Rp.int .i64)) (h4 : Opens P f4.type Rp.bytes) : Opens P t Rp.op := by
  refine ⟨hc, fun {H} enc W spare held fuel cs d p h hw => ?_⟩
  obtain ⟨xs, n, _, hx, hl, hlen, hf⟩ := DataW.trod_struct hu h
  simp only [Prod.mk.injEq] at hx
  obtain ⟨rfl, rfl⟩ := hx
  match xs, hlen with
  | [y0, y1, y2, y3, y4], _ =>
    simp only [DataW.weights, hu, List.map_cons, List.map_nil, DataW.weightsEach, List.all_append, Bool.and_eq_true] at hw
    obtain ⟨w0, w1, w2, w3, w4, _⟩ := hw
    obtain ⟨x0, r0⟩ := h0.part_ o0 (hf 0 f0 rfl) w0
    obtain ⟨x1, r1⟩ := h1.part_ o1 (hf 1 f1 rfl) w1
    obtain ⟨x2, r2⟩ := h2.part_ o2 (hf 2 f2 rfl) w2
    obtain ⟨x3, r3⟩ := h3.part_ o3 (hf 3 f3 rfl) w3
    obtain ⟨x4, r4⟩ := h4.part_ o4 (hf 4 f4 rfl) w4
    exact ⟨⟨x0, x1, x2, x3, x4⟩, Rp.op_mk (hl.trans hc) r0 r1 r2 r3 r4⟩
theorem Opens.counts {P : Program} {t : TypeId} {f0 f1 f2 f3 f4 f5 f6 f7 f8 : Field} (hu : P.underlying t = some (.struct #[f0, f1, f2, f3, f4, f5, f6, f7, f8])) (hc : P.cellsOf t = 9)
    (o0 : f0.offset = 0) (o1 : f1.offset = 1) (o2 : f2.offset = 2) (o3 : f3.offset = 3) (o4 : f4.offset = 4) (o5 : f5.offset = 5) (o6 : f6.offset = 6) (o7 : f7.offset = 7) (o8 : f8.offset = 8)
    (h0 : Opens P f0.type (Rp.int .i64)) (h1 : Opens P f1.type (Rp.int .i64)) (h2 : Opens P f2.type (Rp.int .i64)) (h3 : Opens P f3.type (Rp.int .i64)) (h4 : Opens P f4.type (Rp.int .i64)) (h5 : Opens P f5.type (Rp.int .i64)) (h6 : Opens P f6.type (Rp.int .i64)) (h7 : Opens P f7.type (Rp.int .i64)) (h8 : Opens P f8.type (Rp.int .i64)) : Opens P t Rp.counts := by
  refine ⟨hc, fun {H} enc W spare held fuel cs d p h hw => ?_⟩
  obtain ⟨xs, n, _, hx, hl, hlen, hf⟩ := DataW.trod_struct hu h
  simp only [Prod.mk.injEq] at hx
  obtain ⟨rfl, rfl⟩ := hx
  match xs, hlen with
  | [y0, y1, y2, y3, y4, y5, y6, y7, y8], _ =>
    simp only [DataW.weights, hu, List.map_cons, List.map_nil, DataW.weightsEach, List.all_append, Bool.and_eq_true] at hw
    obtain ⟨w0, w1, w2, w3, w4, w5, w6, w7, w8, _⟩ := hw
    obtain ⟨x0, r0⟩ := h0.part_ o0 (hf 0 f0 rfl) w0
    obtain ⟨x1, r1⟩ := h1.part_ o1 (hf 1 f1 rfl) w1
    obtain ⟨x2, r2⟩ := h2.part_ o2 (hf 2 f2 rfl) w2
    obtain ⟨x3, r3⟩ := h3.part_ o3 (hf 3 f3 rfl) w3
    obtain ⟨x4, r4⟩ := h4.part_ o4 (hf 4 f4 rfl) w4
    obtain ⟨x5, r5⟩ := h5.part_ o5 (hf 5 f5 rfl) w5
    obtain ⟨x6, r6⟩ := h6.part_ o6 (hf 6 f6 rfl) w6
    obtain ⟨x7, r7⟩ := h7.part_ o7 (hf 7 f7 rfl) w7
    obtain ⟨x8, r8⟩ := h8.part_ o8 (hf 8 f8 rfl) w8
    exact ⟨⟨x0, x1, x2, x3, x4, x5, x6, x7, x8⟩, Rp.counts_mk (hl.trans hc) r0 r1 r2 r3 r4 r5 r6 r7 r8⟩
theorem Opens.netEvent {P : Program} {t : TypeId} {f0 f1 f2 f3 f4 : Field} (hu : P.underlying t = some (.struct #[f0, f1, f2, f3, f4])) (hc : P.cellsOf t = 5)
    (o0 : f0.offset = 0) (o1 : f1.offset = 1) (o2 : f2.offset = 2) (o3 : f3.offset = 3) (o4 : f4.offset = 4)
    (h0 : Opens P f0.type (Rp.int .i64)) (h1 : Opens P f1.type (Rp.int .i64)) (h2 : Opens P f2.type (Rp.int .i64)) (h3 : Opens P f3.type (Rp.int .i64)) (h4 : Opens P f4.type Rp.bytes) : Opens P t Rp.netEvent := by
  refine ⟨hc, fun {H} enc W spare held fuel cs d p h hw => ?_⟩
  obtain ⟨xs, n, _, hx, hl, hlen, hf⟩ := DataW.trod_struct hu h
  simp only [Prod.mk.injEq] at hx
  obtain ⟨rfl, rfl⟩ := hx
  match xs, hlen with
  | [y0, y1, y2, y3, y4], _ =>
    simp only [DataW.weights, hu, List.map_cons, List.map_nil, DataW.weightsEach, List.all_append, Bool.and_eq_true] at hw
    obtain ⟨w0, w1, w2, w3, w4, _⟩ := hw
    obtain ⟨x0, r0⟩ := h0.part_ o0 (hf 0 f0 rfl) w0
    obtain ⟨x1, r1⟩ := h1.part_ o1 (hf 1 f1 rfl) w1
    obtain ⟨x2, r2⟩ := h2.part_ o2 (hf 2 f2 rfl) w2
    obtain ⟨x3, r3⟩ := h3.part_ o3 (hf 3 f3 rfl) w3
    obtain ⟨x4, r4⟩ := h4.part_ o4 (hf 4 f4 rfl) w4
    exact ⟨⟨x0, x1, x2, x3, x4⟩, Rp.netEvent_mk (hl.trans hc) r0 r1 r2 r3 r4⟩
theorem Opens.letter {P : Program} {t : TypeId} {f0 f1 f2 f3 : Field} (hu : P.underlying t = some (.struct #[f0, f1, f2, f3])) (hc : P.cellsOf t = 4)
    (o0 : f0.offset = 0) (o1 : f1.offset = 1) (o2 : f2.offset = 2) (o3 : f3.offset = 3)
    (h0 : Opens P f0.type (Rp.int .i64)) (h1 : Opens P f1.type (Rp.int .i64)) (h2 : Opens P f2.type Rp.bool) (h3 : Opens P f3.type Rp.bytes) : Opens P t Rp.letter := by
  refine ⟨hc, fun {H} enc W spare held fuel cs d p h hw => ?_⟩
  obtain ⟨xs, n, _, hx, hl, hlen, hf⟩ := DataW.trod_struct hu h
  simp only [Prod.mk.injEq] at hx
  obtain ⟨rfl, rfl⟩ := hx
  match xs, hlen with
  | [y0, y1, y2, y3], _ =>
    simp only [DataW.weights, hu, List.map_cons, List.map_nil, DataW.weightsEach, List.all_append, Bool.and_eq_true] at hw
    obtain ⟨w0, w1, w2, w3, _⟩ := hw
    obtain ⟨x0, r0⟩ := h0.part_ o0 (hf 0 f0 rfl) w0
    obtain ⟨x1, r1⟩ := h1.part_ o1 (hf 1 f1 rfl) w1
    obtain ⟨x2, r2⟩ := h2.part_ o2 (hf 2 f2 rfl) w2
    obtain ⟨x3, r3⟩ := h3.part_ o3 (hf 3 f3 rfl) w3
    exact ⟨⟨x0, x1, x2, x3⟩, Rp.letter_mk (hl.trans hc) r0 r1 r2 r3⟩
end Go.Proofs.YtllepnadffndnaaDoor
