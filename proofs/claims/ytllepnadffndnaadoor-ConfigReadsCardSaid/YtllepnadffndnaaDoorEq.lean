/- Equality of structs and arrays whose leaves are numbers, bools and strings. -/
import Derived.Test.YtllepnadffndnaaDoorSlice
import Derived.ChangeKeysEq
namespace Go.Proofs.YtllepnadffndnaaDoor
open Go.RowKit

/-- The parts lie one behind the other, up to the end. -/
def segsOk (T : Tab) : List (Nat × TypeId) → Nat → Nat → Bool
  | [], b, sz => Nat.beq b sz
  | (o, t) :: fs, b, sz => Nat.beq o b && match Tab.find T t with | some d => segsOk T fs (b + d.size) sz | none => false
def flatB (P : Program) (T : Tab) : Nat → TypeId → Bool
  | 0, _ => false
  | f + 1, t => match Tab.find T t with
    | some (.int _) => true
    | some .bool => true
    | some .str => true
    | some (.arr _ e es) => Nat.blt 0 es && flatB P T f e
    | some (.struct fs sz) => !P.stoodInHeld t && (P.fieldsOf t).toList.all (fun x => !(x.name == "_")) && segsOk T fs 0 sz && fs.all (fun x => flatB P T f x.2)
    | _ => false
/-- The cells are those of a value of the type. -/
def confT (T : Tab) : Nat → TypeId → List Value → Prop
  | 0, _, _ => False
  | f + 1, t, cs => match Tab.find T t with
    | some (.int k) => ∃ n, cs = [.int k n]
    | some .bool => ∃ b, cs = [.bool b]
    | some .str => ∃ s, cs = [.string s]
    | some (.arr n e es) => cs.length = n * es ∧ ∀ i, i < n → confT T f e ((cs.drop (i * es)).take es)
    | some (.struct fs sz) => cs.length = sz ∧ fs.foldr (fun x K => (match Tab.find T x.2 with | some d => confT T f x.2 ((cs.drop x.1).take d.size) | none => False) ∧ K) True
    | _ => False
def confB (T : Tab) : Nat → TypeId → List Value → Bool
  | 0, _, _ => false
  | f + 1, t, cs => match Tab.find T t with
    | some (.int k) => match cs with | [.int j _] => Nat.beq (kid j) (kid k) | _ => false
    | some .bool => match cs with | [.bool _] => true | _ => false
    | some .str => match cs with | [.string _] => true | _ => false
    | some (.arr n e es) => Nat.beq cs.length (n * es) && (List.range n).all fun i => confB T f e ((cs.drop (i * es)).take es)
    | some (.struct fs sz) => Nat.beq cs.length sz && fs.foldr (fun x K => (match Tab.find T x.2 with | some d => confB T f x.2 ((cs.drop x.1).take d.size) | none => false) && K) true
    | _ => false
theorem confB_out {T : Tab} : ∀ {f : Nat} {t : TypeId} {cs : List Value}, confB T f t cs = true → confT T f t cs
  | 0, _, _, h => by cases h
  | f + 1, t, cs, h => by
    unfold confB at h
    unfold confT
    split at h
    · rename_i k hd
      split at h
      · rename_i j n
        have := kid_inj h
        subst this
        exact ⟨n, rfl⟩
      · cases h
    · split at h
      · exact ⟨_, rfl⟩
      · cases h
    · split at h
      · exact ⟨_, rfl⟩
      · cases h
    · simp only [Bool.and_eq_true, List.all_eq_true, List.mem_range] at h
      exact ⟨Nat.eq_of_beq_eq_true h.1, fun i hi => confB_out (h.2 i hi)⟩
    · rename_i fs sz hd
      simp only [Bool.and_eq_true] at h
      refine ⟨Nat.eq_of_beq_eq_true h.1, ?_⟩
      have h2 := h.2
      clear h hd
      induction fs with
      | nil => trivial
      | cons x fs ih =>
        simp only [List.foldr_cons, Bool.and_eq_true] at h2 ⊢
        refine ⟨?_, ih h2.2⟩
        have h3 := h2.1
        split at h3
        · exact confB_out h3
        · cases h3
    · cases h
theorem conf_ints {T : Tab} {f n : Nat} {t e : TypeId} {k : IntKind} (hd : Tab.find T t = some (.arr n e 1)) (he : Tab.find T e = some (.int k)) {l : List Int} (hl : l.length = n) : confT T (f + 2) t (l.map (Value.int k)) := by
  unfold confT
  rw [hd]
  refine ⟨by simp [hl], fun i hi => ?_⟩
  unfold confT
  rw [he]
  have hi' : i < l.length := by omega
  refine ⟨l[i], ?_⟩
  simp only [Nat.mul_one]
  rw [List.drop_eq_getElem_cons (by simpa using hi')]
  simp

def valOf (T : Tab) (t : TypeId) (cs : List Value) : Value := match Tab.find T t with
  | some d => match d.agg with | true => .agg ⟨cs⟩ | false => cs.headD undef
  | none => undef
section
variable {P : Program} {T : Tab}
theorem run_part (hT : TabOK P T) {t : TypeId} {d : TD} (hd : Tab.find T t = some d) {xs : List Value} {off : Nat} (hl : ((xs.drop off).take d.size).length = d.size) (hpos : d.agg = false → d.size = 1) (w : World) :
    (part t ⟨xs⟩ off).run P w = .ok (valOf T t ((xs.drop off).take d.size)) w := by
  have hsd := TD.fits_size (hT.fits hd)
  unfold valOf
  rw [hd]
  cases ha : d.agg with
  | true =>
    simp only [part, Sem.run_bind, TD.fits_agg (hT.fits hd), ha, Result.andThen_ok, if_true, run_sizeOf_of hsd, Sem.run_pure]
    simp [List.extract]
  | false =>
    rw [hpos ha] at hl ⊢
    simp only [part, Sem.run_bind, TD.fits_agg (hT.fits hd), ha, Result.andThen_ok, Bool.false_eq_true, if_false]
    have h1 : off < xs.length := by
      rw [List.length_take, List.length_drop] at hl
      omega
    have e : (List.take 1 (List.drop off xs)) = [xs[off]] := by rw [List.drop_eq_getElem_cons h1]; rfl
    rw [e]
    simp [h1]
theorem TD.size_one {d : TD} (h : d.agg = false) : d.size = 1 := by cases d <;> first | rfl | (simp [TD.agg] at h)
theorem conf_len {f : Nat} {t : TypeId} {d : TD} {cs : List Value} (hd : Tab.find T t = some d) (h : confT T f t cs) : cs.length = d.size := by
  cases f with
  | zero => exact h.elim
  | succ f =>
    unfold confT at h
    rw [hd] at h
    cases d with
    | int k => obtain ⟨n, rfl⟩ := h; rfl
    | bool => obtain ⟨n, rfl⟩ := h; rfl
    | str => obtain ⟨n, rfl⟩ := h; rfl
    | arr n e es => exact h.1
    | struct fs sz => exact h.1
    | ptr => exact h.elim
    | slice => exact h.elim
    | other => exact h.elim
    | iface => exact h.elim
theorem segs_eq {xs ys : List Value} {sz : Nat} (hx : xs.length = sz) (hy : ys.length = sz) : ∀ {fs : List (Nat × TypeId)} {b : Nat}, segsOk T fs b sz = true → xs.take b = ys.take b →
    (∀ x ∈ fs, ∀ d, Tab.find T x.2 = some d → (xs.drop x.1).take d.size = (ys.drop x.1).take d.size) → xs = ys
  | [], b, h, h1, _ => by
    have := Nat.eq_of_beq_eq_true h
    subst this
    rw [List.take_of_length_le (by omega), List.take_of_length_le (by omega)] at h1
    exact h1
  | (o, t) :: fs, b, h, h1, h2 => by
    simp only [segsOk, Bool.and_eq_true] at h
    obtain ⟨ho, h⟩ := h
    have := Nat.eq_of_beq_eq_true ho
    subst this
    split at h
    · rename_i d hd
      refine segs_eq hx hy h ?_ (fun x hx => h2 x (List.mem_cons_of_mem _ hx))
      rw [List.take_add, List.take_add, h1, h2 _ List.mem_cons_self d hd]
    · cases h
theorem rows_eq {xs ys : List Value} {n es : Nat} (hes : 0 < es) (hx : xs.length = n * es) (hy : ys.length = n * es) (h : ∀ i, i < n → (xs.drop (i * es)).take es = (ys.drop (i * es)).take es) : xs = ys := by
  refine List.ext_getElem? fun j => ?_
  by_cases hj : j < n * es
  · have hi : j / es < n := (Nat.div_lt_iff_lt_mul hes).2 hj
    have h1 := congrArg (fun l => l[j % es]?) (h _ hi)
    simp only [List.getElem?_take, List.getElem?_drop, if_pos (Nat.mod_lt j hes)] at h1
    have e : j / es * es + j % es = j := by rw [Nat.mul_comm]; exact Nat.div_add_mod j es
    rw [e] at h1
    exact h1
  · rw [List.getElem?_eq_none (by omega), List.getElem?_eq_none (by omega)]

/-- One comparison. -/
def EqRun (P : Program) (T : Tab) (D : Nat) (t : TypeId) (xs ys : List Value) : Prop := ∃ b : Bool, (∀ w, (Op.equalIn D t (valOf T t xs) (valOf T t ys)).run P w = .ok b w) ∧ (b = true ↔ xs = ys)
theorem eq_items (hT : TabOK P T) {D : Nat} {e : TypeId} {d : TD} (hd : Tab.find T e = some d) {xs ys : List Value} :
    ∀ {is : List Nat}, (∀ i ∈ is, ((xs.drop (i * d.size)).take d.size).length = d.size ∧ ((ys.drop (i * d.size)).take d.size).length = d.size ∧ EqRun P T D e ((xs.drop (i * d.size)).take d.size) ((ys.drop (i * d.size)).take d.size)) →
      ∃ b : Bool, (∀ w, (Op.eqItems D e d.size ⟨xs⟩ ⟨ys⟩ is).run P w = .ok b w) ∧ (b = true ↔ ∀ i ∈ is, (xs.drop (i * d.size)).take d.size = (ys.drop (i * d.size)).take d.size)
  | [], _ => ⟨true, fun w => by simp [Op.eqItems], by simp⟩
  | i :: is, h => by
    obtain ⟨hx, hy, b, hr, hb⟩ := h i List.mem_cons_self
    obtain ⟨b', hr', hb'⟩ := eq_items hT hd (is := is) (fun j hj => h j (List.mem_cons_of_mem _ hj))
    cases b with
    | false =>
      refine ⟨false, fun w => ?_, ?_⟩
      · simp only [Op.eqItems, Sem.run_bind, run_part hT hd hx TD.size_one, run_part hT hd hy TD.size_one, hr, Result.andThen_ok]
        simp
      · simp only [List.mem_cons, forall_eq_or_imp, Bool.false_eq_true, false_iff, not_and]
        intro e
        exact absurd (hb.2 e) (by simp)
    | true =>
      refine ⟨b', fun w => ?_, ?_⟩
      · simp only [Op.eqItems, Sem.run_bind, run_part hT hd hx TD.size_one, run_part hT hd hy TD.size_one, hr, Result.andThen_ok]
        simpa using hr' w
      · simp only [List.mem_cons, forall_eq_or_imp]
        rw [hb']
        exact ⟨fun h => ⟨hb.1 rfl, h⟩, fun h => h.2⟩
theorem eq_fields (hT : TabOK P T) {D : Nat} {xs ys : List Value} :
    ∀ {fs : List Field}, (∀ f ∈ fs, (f.name == "_") = false ∧ ∃ d, Tab.find T f.type = some d ∧ ((xs.drop f.offset).take d.size).length = d.size ∧ ((ys.drop f.offset).take d.size).length = d.size ∧ EqRun P T D f.type ((xs.drop f.offset).take d.size) ((ys.drop f.offset).take d.size)) →
      ∃ b : Bool, (∀ w, (Op.eqFields D ⟨xs⟩ ⟨ys⟩ fs).run P w = .ok b w) ∧ (b = true ↔ ∀ f ∈ fs, ∀ d, Tab.find T f.type = some d → (xs.drop f.offset).take d.size = (ys.drop f.offset).take d.size)
  | [], _ => ⟨true, fun w => by simp [Op.eqFields], by simp⟩
  | f :: fs, h => by
    obtain ⟨hn, d, hd, hx, hy, b, hr, hb⟩ := h f List.mem_cons_self
    obtain ⟨b', hr', hb'⟩ := eq_fields hT (fs := fs) (fun j hj => h j (List.mem_cons_of_mem _ hj))
    have hn' : f.name ≠ "_" := by simpa using hn
    cases b with
    | false =>
      refine ⟨false, fun w => ?_, ?_⟩
      · simp only [Op.eqFields, if_pos hn', Sem.run_bind, run_part hT hd hx TD.size_one, run_part hT hd hy TD.size_one, hr, Result.andThen_ok]
        simp
      · simp only [List.mem_cons, forall_eq_or_imp, Bool.false_eq_true, false_iff, not_and]
        intro e
        exact absurd (hb.2 (e d hd)) (by simp)
    | true =>
      refine ⟨b', fun w => ?_, ?_⟩
      · simp only [Op.eqFields, if_pos hn', Sem.run_bind, run_part hT hd hx TD.size_one, run_part hT hd hy TD.size_one, hr, Result.andThen_ok]
        simpa using hr' w
      · simp only [List.mem_cons, forall_eq_or_imp]
        rw [hb']
        refine ⟨fun h => ⟨fun d' hd' => ?_, h⟩, fun h => h.2⟩
        rw [hd] at hd'
        injection hd' with hd'
        subst hd'
        exact hb.1 rfl
theorem foldr_mem {T : Tab} {f : Nat} {cs : List Value} : ∀ {fs : List (Nat × TypeId)}, fs.foldr (fun x K => (match Tab.find T x.2 with | some d => confT T f x.2 ((cs.drop x.1).take d.size) | none => False) ∧ K) True → ∀ x ∈ fs, ∃ d, Tab.find T x.2 = some d ∧ confT T f x.2 ((cs.drop x.1).take d.size)
  | [], _, x, hx => by cases hx
  | y :: fs, h, x, hx => by
    simp only [List.foldr_cons] at h
    rcases List.mem_cons.1 hx with rfl | hx
    · have h1 := h.1
      split at h1
      · rename_i d hd; exact ⟨d, hd, h1⟩
      · exact h1.elim
    · exact foldr_mem h.2 x hx
theorem size_of_find (hT : TabOK P T) {e : TypeId} {d : TD} {es : Nat} (hd : Tab.find T e = some d) (hs : sizeB P e es = true) : d.size = es := by
  have hsd := TD.fits_size (hT.fits hd)
  unfold sizeB at hs hsd
  split at hs
  · rename_i i hi'; rw [hi'] at hsd; simp at hs hsd; omega
  · cases hs
theorem eq_flat (hT : TabOK P T) : ∀ (f : Nat) {t : TypeId}, flatB P T f t = true → ∀ {D : Nat}, f ≤ D → ∀ {xs ys : List Value}, confT T f t xs → confT T f t ys → EqRun P T D t xs ys
  | 0, _, h, _, _, _, _, _, _ => by cases h
  | f + 1, t, h, D, hD, xs, ys, hx, hy => by
    obtain ⟨D, rfl⟩ : ∃ D', D = D' + 1 := ⟨D - 1, by omega⟩
    unfold flatB at h
    unfold EqRun
    have hx0 := hx
    have hy0 := hy
    unfold confT at hx hy
    unfold valOf
    split at h
    · rename_i k hd
      rw [hd] at hx hy ⊢
      obtain ⟨a, rfl⟩ := hx
      obtain ⟨b, rfl⟩ := hy
      exact ⟨a == b, fun w => run_equalIn_int w D t k k a b (TD.fits_int (hT.fits hd)), by simp⟩
    · rename_i hd
      rw [hd] at hx hy ⊢
      obtain ⟨a, rfl⟩ := hx
      obtain ⟨b, rfl⟩ := hy
      exact ⟨a == b, fun w => run_equalIn_bool' w D t a b (TD.fits_bool (hT.fits hd)), by simp⟩
    · rename_i hd
      rw [hd] at hx hy ⊢
      obtain ⟨a, rfl⟩ := hx
      obtain ⟨b, rfl⟩ := hy
      refine ⟨a.toList == b.toList, fun w => run_equalIn_string w D t a b (TD.fits_str (hT.fits hd)), ?_⟩
      rw [ByteArray.toList_eq, ByteArray.toList_eq]
      obtain ⟨⟨x⟩⟩ := a
      obtain ⟨⟨y⟩⟩ := b
      simp
    · rename_i n e es hd
      simp only [Bool.and_eq_true] at h
      obtain ⟨hpos, hf⟩ := h
      have hpos : 0 < es := by simpa [Nat.blt_eq] using hpos
      rw [hd] at hx hy ⊢
      obtain ⟨lx, cx⟩ := hx
      obtain ⟨ly, cy⟩ := hy
      obtain ⟨hu, hs⟩ := TD.fits_arr (hT.fits hd)
      obtain ⟨i, hi⟩ : ∃ i, P.info? e = some i := by
        unfold sizeB at hs
        split at hs
        · rename_i i hi; exact ⟨i, hi⟩
        · cases hs
      cases hde : Tab.find T e with
      | none =>
        cases f with
        | zero => cases hf
        | succ f => unfold flatB at hf; rw [hde] at hf; cases hf
      | some d =>
        have hes := size_of_find hT hde hs
        subst hes
        have hc : P.cellsOf e = d.size := by
          have := TD.fits_size (hT.fits hde)
          unfold sizeB at this
          rw [hi] at this
          simp at this
          simp [Program.cellsOf, hi, this]
        have hseg : ∀ (zs : List Value), zs.length = n * d.size → ∀ i, i < n → ((zs.drop (i * d.size)).take d.size).length = d.size := by
          intro zs hz i hi
          rw [List.length_take, List.length_drop, hz]
          have : (i + 1) * d.size ≤ n * d.size := Nat.mul_le_mul_right _ hi
          rw [Nat.succ_mul] at this
          omega
        obtain ⟨b, hr, hb⟩ := eq_items hT hde (D := D) (xs := xs) (ys := ys) (is := List.range n) (fun i hi => by
          have hi := List.mem_range.1 hi
          exact ⟨hseg xs lx i hi, hseg ys ly i hi, eq_flat hT f hf (by omega) (cx i hi) (cy i hi)⟩)
        refine ⟨b, fun w => ?_, ?_⟩
        · have := run_equalIn_array (P := P) w D (t := t) (e := e) (n := n) (i := i) ⟨xs⟩ ⟨ys⟩ hu hi
          rw [hc] at this
          exact this.trans (hr w)
        · rw [hb]
          constructor
          · intro h
            exact rows_eq hpos lx ly fun i hi => h i (List.mem_range.2 hi)
          · rintro rfl i _; rfl
    · rename_i fs sz hd
      simp only [Bool.and_eq_true, Bool.not_eq_true'] at h
      obtain ⟨⟨⟨hst, hnm⟩, hsg⟩, hfl⟩ := h
      rw [hd] at hx hy ⊢
      obtain ⟨lx, cx⟩ := hx
      obtain ⟨ly, cy⟩ := hy
      obtain ⟨fields, hu, hfs, _, _⟩ := TD.fits_struct (hT.fits hd)
      have hfo : P.fieldsOf t = fields := by simp [Program.fieldsOf, hu]
      have hu' : P.underlying t = some (.struct (P.fieldsOf t)) := by rw [hfo]; exact hu
      have mem : ∀ g ∈ fields.toList, (g.offset, g.type) ∈ fs := by
        intro g hg
        rw [← hfs]
        exact List.mem_map.2 ⟨g, hg, rfl⟩
      obtain ⟨b, hr, hb⟩ := eq_fields hT (D := D) (xs := xs) (ys := ys) (fs := (P.fieldsOf t).toList) (fun g hg => by
        refine ⟨by simpa using List.all_eq_true.1 hnm g hg, ?_⟩
        rw [hfo] at hg
        have hm := mem g hg
        obtain ⟨d, hdg, hcx⟩ := foldr_mem cx _ hm
        obtain ⟨d', hdg', hcy⟩ := foldr_mem cy _ hm
        rw [hdg] at hdg'
        injection hdg' with e
        subst e
        exact ⟨d, hdg, conf_len hdg hcx, conf_len hdg hcy, eq_flat hT f (List.all_eq_true.1 hfl _ hm) (by omega) hcx hcy⟩)
      refine ⟨b, fun w => ?_, ?_⟩
      · exact (run_equalIn_agg w D t ⟨xs⟩ ⟨ys⟩ hu' hst).trans (hr w)
      · rw [hb]
        constructor
        · intro h
          refine segs_eq lx ly hsg (by simp) fun x hx d hdx => ?_
          rw [← hfs] at hx
          obtain ⟨g, hg, rfl⟩ := List.mem_map.1 hx
          rw [← hfo] at hg
          exact h g hg d hdx
        · rintro rfl f _ d _; rfl
    · cases h
/-- Two structs or arrays, compared. -/
theorem run_eq_flat (hT : TabOK P T) {t : TypeId} {d : TD} (hd : Tab.find T t = some d) (ha : d.agg = true) (hf : flatB P T 9 t = true) (hg : P.eqGuardType P.depth t = false) (x y : Operand) {xs ys : List Value} (hx : confT T 9 t xs) (hy : confT T 9 t ys) :
    ∃ b : Bool, (∀ w, (do eqGuard .eql t x y (.agg ⟨xs⟩) (.agg ⟨ys⟩); binOp .eql t (.agg ⟨xs⟩) (.agg ⟨ys⟩) : Sem Value).run P w = .ok (.bool b) w) ∧
      (∀ w, (do eqGuard .neq t x y (.agg ⟨xs⟩) (.agg ⟨ys⟩); binOp .neq t (.agg ⟨xs⟩) (.agg ⟨ys⟩) : Sem Value).run P w = .ok (.bool (!b)) w) ∧ (b = true ↔ xs = ys) := by
  obtain ⟨b, hr, hb⟩ := eq_flat hT 9 hf (D := 10000) (by decide) hx hy
  unfold valOf at hr
  rw [hd] at hr
  simp only [ha] at hr
  refine ⟨b, fun w => ?_, fun w => ?_, hb⟩
  · rw [Sem.run_bind, run_eqGuard_agg w .eql t x y _ _ hg, Result.andThen_ok, run_eql_struct, hr]; rfl
  · rw [Sem.run_bind, run_eqGuard_agg w .neq t x y _ _ hg, Result.andThen_ok, run_neq_struct, hr]; rfl
end
end Go.Proofs.YtllepnadffndnaaDoor
