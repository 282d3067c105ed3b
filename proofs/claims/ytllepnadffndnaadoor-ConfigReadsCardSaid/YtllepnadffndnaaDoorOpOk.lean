/- The conditions of single operations suffice. -/
import Derived.Test.YtllepnadffndnaaDoorOp
namespace Go.Proofs.YtllepnadffndnaaDoor
open Go.RowKit

theorem den_ptr (i g off : Nat) : (SV.ptr i g off).den = .pointer (some ⟨g, off, none⟩) := rfl
theorem den_val (v : Value) : (SV.val v).den = v := rfl
theorem withV_out {E : Env} {x : Operand} {K : SV → Prop} (h : withV E x K) : ∃ v, ev E x = some v ∧ K v := by
  unfold withV at h
  split at h
  · rename_i v hv; exact ⟨v, hv, h⟩
  · exact h.elim
theorem withVs_out {N : Nat} {E : Env} {a : Act} (hs : Sat N E a) : ∀ {l : List Operand} {K : List Value → Prop}, withVs E l K → K (l.map a.eval)
  | [], _, h => h
  | x :: l, K, h => by
    obtain ⟨v, hv, h⟩ := withV_out h
    have := withVs_out hs h
    rw [List.map_cons, hs.ev hv]
    exact this
theorem withO_out {N : Nat} {E : Env} {a : Act} (hs : Sat N E a) : ∀ {x : Option Operand} {K : Option Value → Prop}, withO E x K → K (x.map a.eval)
  | none, _, h => h
  | some x, K, h => by
    obtain ⟨v, hv, h⟩ := withV_out h
    rw [Option.map_some, hs.ev hv]
    exact h

/-- What an operation comes to. -/
def Yld (P : Program) (o : Oper) (a : Act) (w : World) (R : SV → World → Prop) : Prop :=
  (∃ sv w', (execOp a.eval o).run P w = .ok (.value sv.den) w' ∧ R sv w') ∨
  (∃ w', (execOp a.eval o).run P w = .ok .skip w' ∧ R (.val undef) w') ∨
  (∃ f args w1, (execOp a.eval o).run P w = .ok (.enter f args) w1 ∧ Calls P f args w1 fun e w' => ∃ sv : SV, e = .returned sv.den ∧ R sv w')
theorem Yld.wp {P : Program} {o : Oper} {a : Act} {w : World} {R : SV → World → Prop} {next : Act → World → Prop} {Q : Exit → Act → World → Prop} (h : Yld P o a w R)
    (hn : ∀ sv w', R sv w' → next (a.put o.dst sv.den) w') : o.wp P a w next Q := by
  unfold Oper.wp
  rcases h with ⟨sv, w', h, hR⟩ | ⟨w', h, hR⟩ | ⟨f, args, w1, h, hc⟩
  · rw [h]; exact hn _ _ hR
  · rw [h]; exact hn _ _ hR
  · rw [h]
    refine hc.mono ?_
    rintro e w' ⟨sv, rfl, hR⟩
    exact hn _ _ hR

section
variable {P : Program} {T : Tab} {E : Env} {M : Mem} {H : Hist} {K : Cont} {N : Nat} {a : Act} {w : World}
abbrev After (K : Cont) : SV → World → Prop := fun sv w' => ∃ M' H', K sv M' H' ∧ A M' H' w'

theorem Yld.val {o : Oper} {R : SV → World → Prop} {sv : SV} {w' : World} (s : Sem Value) (ho : execOp a.eval o = (do pure (.value (← s)))) (hr : s.run P w = .ok sv.den w') (h : R sv w') : Yld P o a w R :=
  .inl ⟨sv, w', by rw [ho, Sem.run_bind, hr]; rfl, h⟩
theorem Yld.unit {o : Oper} {R : SV → World → Prop} {w' : World} (s : Sem Unit) (ho : execOp a.eval o = (do s; pure .skip)) (hr : s.run P w = .ok () w') (h : R (.val undef) w') : Yld P o a w R :=
  .inr (.inl ⟨w', by rw [ho, Sem.run_bind, hr]; rfl, h⟩)
theorem pureV_out {s : Sem Value} (h : pureV P M H s K) (hA : A M H w) : ∃ v : SV, s.run P w = .ok v.den w ∧ After K v w := by
  obtain ⟨v, hr, hk⟩ := h
  exact ⟨.val v, hr w hA, M, H, hk, hA⟩
theorem memV_out {s : Sem Value} (h : memV P M H s K) (hA : A M H w) : ∃ (v : SV) (w' : World), s.run P w = .ok v.den w' ∧ After K v w' := by
  obtain ⟨sv, w', M', H', hr, hA', hk⟩ := h w hA
  exact ⟨sv, w', hr, M', H', hk, hA'⟩
theorem memU_out {s : Sem Unit} (h : memU P M H s K) (hA : A M H w) : ∃ w' : World, s.run P w = .ok () w' ∧ After K (.val undef) w' := by
  obtain ⟨w', M', H', hr, hA', hk⟩ := h w hA
  exact ⟨w', hr, M', H', hk, hA'⟩

theorem loadV_all (hT : TabOK P T) {t : TypeId} {p : SV} (h : loadV P T M H t p K) : ∃ v : SV, (∀ w, A M H w → (Instr.loadAt t p.den).run P w = .ok v.den w) ∧ K v M H := by
  unfold loadV at h
  split at h
  · exact h.elim
  rename_i d hd
  have hf := hT.fits hd
  split at h
  · rename_i i g off
    split at h
    · exact h.elim
    rename_i kb hkb
    split at h
    · rename_i hagg
      obtain ⟨v, hv, rfl, hk⟩ := h
      refine ⟨v, fun w hA => ?_, hk⟩
      have hc : w.cell? ⟨kb.g, off, none⟩ = some v.den := by
        rw [(hA.blk i kb hkb).cell]
        rw [nth_eq] at hv
        simp [hv]
      simp [Instr.loadAt, Instr.sureAddr, SV.den, loadVar, TD.fits_agg hf, hagg, load, hc, Sem.run, Sem.run_bind]
    · rename_i hagg
      obtain ⟨hle, rfl, hk⟩ := h
      rw [denK_eq, tkS_eq, dpS_eq] at hk
      have hle := Nat.le_of_ble_eq_true hle
      have hl : (((kb.cs.drop off).take d.size).map SV.den).length = d.size := by simp; omega
      refine ⟨.val (.agg (((kb.cs.drop off).take d.size).map SV.den).toArray), fun w hA => ?_, hk⟩
      have hrow : w.rangeAt kb.g off (((kb.cs.drop off).take d.size).map SV.den) := by
        intro j v hv
        rw [(hA.blk i kb hkb).cell]
        simp only [List.getElem?_map, Option.map_eq_some_iff, List.getElem?_take] at hv
        obtain ⟨u, hu, rfl⟩ := hv
        split at hu
        · rw [List.getElem?_drop] at hu
          simp [hu]
        · cases hu
      have hs := TD.fits_size hf
      have hl2 : (loadCells ⟨kb.g, off, none⟩ (((kb.cs.drop off).take d.size).map SV.den).length).run P w = .ok (((kb.cs.drop off).take d.size).map SV.den).toArray w :=
        run_loadCells_list (P := P) w ⟨kb.g, off, none⟩ _ (fun j v hv => by rw [Addr.add_mid]; exact hrow j v hv)
      rw [hl] at hl2
      simp only [Instr.loadAt, Instr.sureAddr, SV.den, loadVar, Sem.run_bind, Sem.run_pure, Result.andThen_ok, TD.fits_agg hf, hagg, if_true, run_sizeOf_of hs, hl2]
  · rename_i a
    obtain ⟨v, hr, hk⟩ := h
    refine ⟨.val v, fun w hA => ?_, hk⟩
    simp only [Instr.loadAt, Instr.sureAddr, SV.den, Sem.run_bind, Sem.run_pure, Result.andThen_ok]
    exact hr w hA
  · exact h.elim

theorem loadV_out (hT : TabOK P T) {t : TypeId} {p : SV} (h : loadV P T M H t p K) (hA : A M H w) : ∃ v : SV, (Instr.loadAt t p.den).run P w = .ok v.den w ∧ After K v w := by
  obtain ⟨v, hr, hk⟩ := loadV_all hT h
  exact ⟨v, hr w hA, M, H, hk, hA⟩

theorem setRow_of_cell {w : World} {g off : Nat} {cs : Array Value} {t : TypeId} {v : Value} (h : w.heap[g]? = some (.cells cs t (0, 0))) : w.setCell ⟨g, off, none⟩ v = w.setRow g (cs.setIfInBounds off v) :=
  setCell_eq_setRow w g off cs t (0, 0) v h

theorem store_one (hT : TabOK P T) {t : TypeId} {d : TD} {v : SV} {i off : Nat} {kb : KB} {cs : List SV} (hd : Tab.find T t = some d) (hagg : d.agg = false) (hkb : M.find i = some kb) (hs : setN kb.cs off v = some cs) (h1 : v.den.oneCell' = true) (hA : A M H w) (hk : updK M i cs fun M' => K (.val undef) M' H) :
    ∃ w' : World, (storeVar t ⟨kb.g, off, none⟩ v.den).run P w = .ok () w' ∧ After K (.val undef) w' := by
  have hf := hT.fits hd
  have hb := hA.blk i kb hkb
  obtain ⟨hlt, rfl⟩ := setN_eq hs
  have hk := updK_eq hk
  refine ⟨_, ?_, _, _, hk, hA.setRow hkb _⟩
  have hc : w.cell? ⟨kb.g, off, none⟩ = some (kb.cs[off]'hlt).den := by
    rw [hb.cell]; simp [hlt]
  have hfz := hb.frozen off
  have hsz := run_sizeOf_of (TD.fits_size hf) w
  have hd1 : d.size = 1 := by cases d <;> first | rfl | (simp [TD.agg] at hagg)
  have hcells : v.den.cells = #[v.den] := by
    cases hv : v.den <;> first | rfl | (rw [hv] at h1; cases h1)
  have hst : (store ⟨kb.g, off, none⟩ v.den).run P w = .ok () (w.setCell ⟨kb.g, off, none⟩ v.den) := by
    rw [run_store P w _ _ _ h1]
    simp [hc, hfz]
  have e0 : (⟨kb.g, off, none⟩ : Addr).add 0 = ⟨kb.g, off, none⟩ := rfl
  have hrun : (storeVar t ⟨kb.g, off, none⟩ v.den).run P w = .ok () (w.setCell ⟨kb.g, off, none⟩ v.den) := by
    simp [storeVar, Sem.run_bind, hsz, hd1, hcells, storeCells, e0, hst]
  rw [hrun, setRow_of_cell hb.heap]
  simp [List.map_set]

theorem storeV_out (hT : TabOK P T) {t : TypeId} {p v : SV} (h : storeV T M H t p v K) (hA : A M H w) : ∃ w' : World, (Instr.storeAt t p.den v.den).run P w = .ok () w' ∧ After K (.val undef) w' := by
  unfold storeV at h
  split at h
  · exact h.elim
  rename_i d hd
  have hf := hT.fits hd
  split at h
  · rename_i i g off
    split at h
    · exact h.elim
    rename_i kb hkb
    have hb := hA.blk i kb hkb
    split at h
    · rename_i hagg
      obtain ⟨cs, hs, rfl, h1, hk⟩ := h
      obtain ⟨w', hr, hK⟩ := store_one hT hd hagg hkb hs h1 hA hk
      refine ⟨w', ?_, hK⟩
      simp only [Instr.storeAt, Instr.sureAddr, den_ptr, Sem.run_bind, Sem.run_pure, Result.andThen_ok]
      exact hr
    · rename_i hagg
      split at h
      · rename_i l
        obtain ⟨hsz, hoff, rfl, h1, hk⟩ := h
        have hoff := Nat.le_of_ble_eq_true hoff
        have hk := updK_eq hk
        refine ⟨_, ?_, _, _, hk, hA.setRow hkb _⟩
        have hst := run_storeCells_at (P := P) kb.g off kb.t l 0 (kb.cs.map SV.den).toArray w hb.heap (by simp; omega) (fun x hx => List.all_eq_true.1 h1 x hx)
        have hs2 := run_sizeOf_of (TD.fits_size hf) w
        simp only [Instr.storeAt, Instr.sureAddr, SV.den, Sem.run_bind, Sem.run_pure, Result.andThen_ok, storeVar, hs2, Value.cells, List.size_toArray, hsz]
        simp only [ne_eq, not_true_eq_false, if_false]
        rw [hst]
        congr 2
        rw [spliceS_eq]
        simp [hsz]
      · exact h.elim
  · split at h
    · rename_i hagg
      obtain ⟨i, kb, hkb, rfl, cs, hs, h1, hk⟩ := h
      obtain ⟨w', hr, hK⟩ := store_one hT hd hagg hkb hs h1 hA hk
      refine ⟨w', ?_, hK⟩
      simp only [Instr.storeAt, Instr.sureAddr, den_val, Sem.run_bind, Sem.run_pure, Result.andThen_ok]
      exact hr
    · exact h.elim
  · exact h.elim

theorem nth_map {α β : Type} (f : α → β) (l : List α) (n : Nat) {x : α} (h : nth l n = some x) : (l.map f)[n]? = some (f x) := by
  rw [nth_eq] at h; simp [h]
theorem fieldAddrV_all (hT : TabOK P T) {t : TypeId} {p : SV} {f : Nat} (h : fieldAddrV T M H t p f K) : ∃ v : SV, (∀ w, (Instr.fieldAt t p.den f).run P w = .ok v.den w) ∧ K v M H := by
  unfold fieldAddrV at h
  split at h
  · rename_i fs sz hd
    have hf := hT.fits hd
    split at h
    · rename_i o ft hnth
      obtain ⟨fields, hu, h3, h4, _⟩ := TD.fits_struct hf
      obtain ⟨fd, hfd, ho⟩ : ∃ fd : Field, fields.toList[f]? = some fd ∧ fd.offset = o := by
        rw [nth_eq, ← h3, List.getElem?_map, Option.map_eq_some_iff] at hnth
        obtain ⟨fd, h5, h6⟩ := hnth
        exact ⟨fd, h5, congrArg Prod.fst h6⟩
      have hfd' : fields[f]? = some fd := by simpa using hfd
      have hpos : ∃ n, sizeB P fd.type n = true ∧ 0 < n := by
        have := List.all_eq_true.1 h4 fd (List.mem_of_getElem? hfd)
        unfold sizePos at this
        split at this
        · rename_i i hi
          exact ⟨i.size, by simp [sizeB, hi], by simpa using this⟩
        · cases this
      obtain ⟨n, hn, hn0⟩ := hpos
      have key : ∀ (w : World) (b off : Nat), (Instr.fieldAt t (.pointer (some ⟨b, off, none⟩)) f).run P w = .ok (.pointer (some ⟨b, off + o, none⟩)) w := by
        intro w b off
        have hs := run_sizeOf_of hn w
        have hn1 : n ≠ 0 := by omega
        simp only [Instr.fieldAt, Instr.sureAddr, fieldPlace, Sem.run_bind, run_underlying hu, Result.andThen_ok, hfd', Sem.run_pure, hs, hn1, if_false, ho, Addr.add_mid]
      split at h
      · rename_i i g off
        exact ⟨.ptr i g (off + o), fun w => by rw [den_ptr, key]; rfl, h⟩
      · rename_i b off
        exact ⟨_, fun w => by rw [den_val, key]; rfl, h⟩
      · exact h.elim
    · exact h.elim
  · exact h.elim
theorem fieldAddrV_out (hT : TabOK P T) {t : TypeId} {p : SV} {f : Nat} (h : fieldAddrV T M H t p f K) (hA : A M H w) : ∃ v : SV, (Instr.fieldAt t p.den f).run P w = .ok v.den w ∧ After K v w := by
  obtain ⟨v, hr, hk⟩ := fieldAddrV_all hT h
  exact ⟨v, hr w, M, H, hk, hA⟩
theorem indexAddrV_all (hT : TabOK P T) {t : TypeId} {x ix : SV} (h : indexAddrV T M H t x ix K) : ∃ v : SV, (∀ w, (Instr.indexAt t x.den ix.den).run P w = .ok v.den w) ∧ K v M H := by
  unfold indexAddrV at h
  split at h
  · rename_i e es hd
    have hf := hT.fits hd
    obtain ⟨hu, hs⟩ := TD.fits_slice hf
    split at h
    · rename_i A' len cap k0 n
      obtain ⟨b, o, k, rfl, rfl, hk, hK⟩ := h
      refine ⟨_, fun w => ?_, hK⟩
      have hi : (0 : Int) ≤ (k : Int) ∧ (k : Int) < (len : Int) := ⟨by omega, by omega⟩
      simp only [den_val, Instr.indexAt, asIntOf, Sem.run_bind, Sem.run_pure, Result.andThen_ok, run_underlying hu, run_sizeOf_of hs, hi, and_self, if_true, Int.toNat_natCast, Addr.add_mid]
    · exact h.elim
  · rename_i len e es hd
    have hf := hT.fits hd
    obtain ⟨hu, hs⟩ := TD.fits_arr hf
    have key : ∀ (w : World) (b o k : Nat) (k0 : IntKind), k < len → (Instr.indexAt t (.pointer (some ⟨b, o, none⟩)) (.int k0 (k : Int))).run P w = .ok (.pointer (some ⟨b, o + k * es, none⟩)) w := by
      intro w b o k k0 hk
      have hi : (0 : Int) ≤ (k : Int) ∧ (k : Int) < (len : Int) := ⟨by omega, by omega⟩
      simp only [Instr.indexAt, Instr.sureAddr, asIntOf, Sem.run_bind, Sem.run_pure, Result.andThen_ok, run_underlying hu, run_sizeOf_of hs, hi, and_self, if_true, Int.toNat_natCast, Addr.add_mid]
    split at h
    · obtain ⟨k, rfl, hk, hK⟩ := h
      exact ⟨_, fun w => by rw [den_ptr, den_val, key w _ _ _ _ hk]; rfl, hK⟩
    · obtain ⟨k, rfl, hk, hK⟩ := h
      exact ⟨_, fun w => by rw [den_val, den_val, key w _ _ _ _ hk]; rfl, hK⟩
    · exact h.elim
  · exact h.elim
theorem indexAddrV_out (hT : TabOK P T) {t : TypeId} {x ix : SV} (h : indexAddrV T M H t x ix K) (hA : A M H w) : ∃ v : SV, (Instr.indexAt t x.den ix.den).run P w = .ok v.den w ∧ After K v w := by
  obtain ⟨v, hr, hk⟩ := indexAddrV_all hT h
  exact ⟨v, hr w, M, H, hk, hA⟩

theorem intBin_out {op : BinOp} {k k' : IntKind} {m n : Int} {t : TypeId} {xo yo : Operand} {K' : Value → Prop} (hk : (isShift op || Nat.beq (kid k) (kid k')) = true) (h : intBin op k m n K') :
    ∃ v : Value, (∀ w, (do eqGuard op t xo yo (.int k m) (.int k' n); binOp op t (.int k m) (.int k' n) : Sem Value).run P w = .ok v w) ∧ K' v := by
  have hg : ∀ w, (eqGuard op t xo yo (.int k m) (.int k' n)).run P w = .ok () w := by
    intro w; cases op <;> rfl
  cases op <;> simp only [isShift, Bool.false_or, Bool.true_or] at hk <;> first | (have hk := kid_inj hk; subst hk) | skip
  all_goals simp only [intBin] at h
  case quo => obtain ⟨h0, r, rfl, h⟩ := h; exact ⟨_, fun w => by simp [hg, binOp, Op.intDiv, h0], h⟩
  case rem => obtain ⟨h0, r, rfl, h⟩ := h; exact ⟨_, fun w => by simp [hg, binOp, Op.intDiv, h0], h⟩
  case shl => obtain ⟨h0, r, rfl, h⟩ := h; exact ⟨_, fun w => by simp [hg, binOp, Op.shift, show ¬ n < 0 by omega], h⟩
  case shr => obtain ⟨h0, r, rfl, h⟩ := h; exact ⟨_, fun w => by simp [hg, binOp, Op.shift, show ¬ n < 0 by omega], h⟩
  all_goals first
    | (obtain ⟨r, rfl, h⟩ := h; exact ⟨_, fun w => by simp [hg, binOp, Op.intArith, Op.intBits], h⟩)
    | exact ⟨_, fun w => by simp [hg, binOp, Op.intCmp], h⟩
theorem strBin_out {op : BinOp} {x y : ByteArray} {t : TypeId} {xo yo : Operand} {K' : Value → Prop} (h : strBin op x y K') :
    ∃ v : Value, (∀ w, (do eqGuard op t xo yo (.string x) (.string y); binOp op t (.string x) (.string y) : Sem Value).run P w = .ok v w) ∧ K' v := by
  have hg : ∀ w, (eqGuard op t xo yo (.string x) (.string y)).run P w = .ok () w := by
    intro w; cases op <;> rfl
  cases op <;> simp only [strBin] at h
  case add =>
    obtain ⟨h0, h⟩ := h
    have hle : ¬ ((x.size + y.size : Nat) : Int) > IntKind.i64.max := by
      have : IntKind.i64.max = 9223372036854775807 := by decide
      omega
    exact ⟨_, fun w => by simp [hg, binOp, Op.stringOp] at hle ⊢; omega, h⟩
  all_goals first
    | exact ⟨_, fun w => by simp [hg, binOp, Op.stringOp], h⟩
    | exact h.elim

theorem boolBin_out {op : BinOp} {x y : Bool} {t : TypeId} {xo yo : Operand} {K' : Value → Prop} (ht : P.underlying t = some .bool) (h : boolBin op x y K') :
    ∃ v : Value, (∀ w, (do eqGuard op t xo yo (.bool x) (.bool y); binOp op t (.bool x) (.bool y) : Sem Value).run P w = .ok v w) ∧ K' v := by
  have hg : ∀ w, (eqGuard op t xo yo (.bool x) (.bool y)).run P w = .ok () w := by
    intro w; cases op <;> rfl
  cases op <;> simp only [boolBin] at h <;> first
    | exact ⟨_, fun w => by simp [hg, binOp, run_equal_bool w t x y ht, bne], h⟩
    | exact h.elim

theorem eq_of {t : TypeId} {xo yo : Operand} {u v : Value} {b : Bool} (h : ∀ d, (Op.equalIn (d + 1) t u v).run P w = .ok b w) (hg : ∀ op, (eqGuard op t xo yo u v).run P w = .ok () w)
    (h1 : binOp .eql t u v = (do pure (.bool (← Op.equal t u v)))) (h2 : binOp .neq t u v = (do pure (.bool (!(← Op.equal t u v))))) :
    (do eqGuard .eql t xo yo u v; binOp .eql t u v : Sem Value).run P w = .ok (.bool b) w ∧ (do eqGuard .neq t xo yo u v; binOp .neq t u v : Sem Value).run P w = .ok (.bool (!b)) w := by
  have he : (Op.equal t u v).run P w = .ok b w := h 9999
  constructor
  · rw [Sem.run_bind, hg, Result.andThen_ok, h1, Sem.run_bind, he]; rfl
  · rw [Sem.run_bind, hg, Result.andThen_ok, h2, Sem.run_bind, he]; rfl
theorem nilCmp_out (hT : TabOK P T) {t : TypeId} {xo yo : Operand} {x y : SV} {b : Bool} (h : nilCmp T t yo x y = some b) (w : World) :
    (do eqGuard .eql t xo yo x.den y.den; binOp .eql t x.den y.den : Sem Value).run P w = .ok (.bool b) w ∧ (do eqGuard .neq t xo yo x.den y.den; binOp .neq t x.den y.den : Sem Value).run P w = .ok (.bool (!b)) w := by
  unfold nilCmp at h
  split at h
  · rename_i hd
    have hu : ∃ e, P.underlying t = some (.pointer e) := by
      have hf := hT.fits hd
      unfold TD.fitsB at hf
      simp only [Bool.and_eq_true] at hf
      obtain ⟨_, hf⟩ := hf
      cases hu : P.underlying t with
      | none => simp [hu] at hf
      | some d => cases d <;> simp_all
    obtain ⟨e, hu⟩ := hu
    split at h <;> first | (cases h; done) | (injection h with h; subst h; exact eq_of (fun d => by simp [Op.equalIn, run_underlying hu, SV.den]) (fun op => by cases op <;> simp [eqGuard, SV.den]) rfl rfl)
  · rename_i hd
    have hu : ∃ e, P.underlying t = some (.interface e) := by
      have hf := hT.fits hd
      unfold TD.fitsB at hf
      simp only [Bool.and_eq_true] at hf
      obtain ⟨_, hf⟩ := hf
      cases hu : P.underlying t with
      | none => simp [hu] at hf
      | some d => cases d <;> simp_all
    obtain ⟨e, hu⟩ := hu
    split at h
    · split at h <;> first | (cases h; done) | (injection h with h; subst h; exact eq_of (fun d => by simp [Op.equalIn, run_underlying hu, SV.den]) (fun op => by cases op <;> simp [eqGuard, SV.den]) rfl rfl)
    · cases h
  · rename_i hd
    have hu := (TD.fits_slice (hT.fits hd)).1
    split at h <;> first | (cases h; done) | (injection h with h; subst h; exact eq_of (fun d => by simp [Op.equalIn, run_underlying hu, SV.den]) (fun op => by cases op <;> simp [eqGuard, SV.den]) rfl rfl)
  · cases h
theorem binV_out (hT : TabOK P T) {op : BinOp} {t : TypeId} {xo yo : Operand} {x y : SV} (h : binV P T M H op t xo yo x y K) (hA : A M H w) :
    ∃ v : SV, (do eqGuard op t xo yo x.den y.den; binOp op t x.den y.den : Sem Value).run P w = .ok v.den w ∧ After K v w := by
  unfold binV at h
  split at h
  · rename_i k m k' n
    cases hk : (isShift op || Nat.beq (kid k) (kid k')) with
    | false => rw [hk] at h; exact h.elim
    | true =>
    rw [hk] at h
    have h : intBin op k m n fun v => K (.val v) M H := h
    obtain ⟨v, hr, hK⟩ := intBin_out (P := P) (t := t) (xo := xo) (yo := yo) hk h
    exact ⟨.val v, hr w, M, H, hK, hA⟩
  · obtain ⟨v, hr, hK⟩ := strBin_out (P := P) (t := t) (xo := xo) (yo := yo) h
    exact ⟨.val v, hr w, M, H, hK, hA⟩
  · split at h
    · rename_i hd
      obtain ⟨v, hr, hK⟩ := boolBin_out (P := P) (t := t) (xo := xo) (yo := yo) (TD.fits_bool (hT.fits hd)) h
      exact ⟨.val v, hr w, M, H, hK, hA⟩
    · exact h.elim
  · split at h
    · rename_i b hn
      exact ⟨.lit b, (nilCmp_out hT hn w).1, M, H, h, hA⟩
    · rename_i b hn
      exact ⟨.lit (!b), (nilCmp_out hT hn w).2, M, H, h, hA⟩
    · exact pureV_out h hA
theorem unV_out {op : UnOp} {x : SV} (h : unV P M H op x K) (hA : A M H w) : ∃ v : SV, (Op.unary op x.den).run P w = .ok v.den w ∧ After K v w := by
  unfold unV at h
  split at h
  · exact ⟨_, rfl, M, H, h, hA⟩
  · exact ⟨_, rfl, M, H, h, hA⟩
  · obtain ⟨r, rfl, h⟩ := h
    exact ⟨.val (.int _ _), rfl, M, H, h, hA⟩
  · obtain ⟨r, rfl, h⟩ := h
    exact ⟨_, rfl, M, H, h, hA⟩
  · exact pureV_out h hA
theorem convV_out (hT : TabOK P T) {src dst : TypeId} {x : SV} (h : convV P T M H src dst x K) (hA : A M H w) : ∃ (v : SV) (w' : World), (convert src dst x.den).run P w = .ok v.den w' ∧ After K v w' := by
  unfold convV at h
  split at h
  · rename_i d0 k k' n hd0 hd
    obtain ⟨r, rfl, h⟩ := h
    obtain ⟨ds, hds⟩ := TD.fits_some (hT.fits hd0)
    refine ⟨.val (.int k (k.wrap n)), w, ?_, M, H, h, hA⟩
    simp [convert, run_underlying hds, run_underlying (TD.fits_int (hT.fits hd)), Conv.intToInt, den_val]
  · exact memV_out h hA
  · obtain ⟨v, hr, h⟩ := pureV_out h hA
    exact ⟨v, w, hr, h⟩
theorem builtinV_out (hT : TabOK P T) {b : Builtin} {ats : Array TypeId} {ty : TypeId} {cs : Array Bool} {args : List Value} (h : builtinV P T M H b ats ty args K) (hA : A M H w) :
    ∃ (v : SV) (w' : World), (builtin b ats ty cs args.toArray).run P w = .ok (.value v.den) w' ∧ After K v w' := by
  have lift : ∀ {s : Sem Value} {v : SV} {w' : World}, s.run P w = .ok v.den w' → (do pure (.value (← s)) : Sem Next).run P w = .ok (.value v.den) w' := by
    intro s v w' hs
    rw [Sem.run_bind, hs]; rfl
  unfold builtinV at h
  split at h
  · split at h
    · rename_i e es he
      refine ⟨_, w, lift (s := Builtin.len_ ats ty _) ?_, M, H, h, hA⟩
      cases hat : ats[0]? with
      | none => simp [hat] at he
      | some t0 =>
        simp [hat] at he
        have hu := (TD.fits_slice (hT.fits he)).1
        simp [Builtin.len_, hat, run_underlying hu, goInt, den_val]
    · exact h.elim
  · split at h
    · rename_i he
      refine ⟨_, w, lift (s := Builtin.len_ ats ty _) ?_, M, H, h, hA⟩
      cases hat : ats[0]? with
      | none => simp [hat] at he
      | some t0 =>
        simp [hat] at he
        have hu := TD.fits_str (hT.fits he)
        simp [Builtin.len_, hat, run_underlying hu, goInt, den_val]
    · exact h.elim
  · obtain ⟨v, hr, hK⟩ := pureV_out h hA; exact ⟨v, w, lift hr, hK⟩
  · obtain ⟨v, w', hr, hK⟩ := memV_out h hA; exact ⟨v, w', lift hr, hK⟩
  · obtain ⟨v, w', hr, hK⟩ := memV_out h hA; exact ⟨v, w', lift hr, hK⟩
  · obtain ⟨v, w', hr, hK⟩ := memV_out h hA; exact ⟨v, w', lift hr, hK⟩
  · obtain ⟨r, rfl, h⟩ := h
    exact ⟨_, w, lift (run_min_int2 ..), M, H, h, hA⟩
  · obtain ⟨r, rfl, h⟩ := h
    exact ⟨_, w, lift (run_max_int2 ..), M, H, h, hA⟩
  · obtain ⟨v, hr, hK⟩ := pureV_out h hA; exact ⟨v, w, lift hr, hK⟩
  · obtain ⟨v, hr, hK⟩ := pureV_out h hA; exact ⟨v, w, lift hr, hK⟩
  · obtain ⟨v, hr, hK⟩ := pureV_out h hA; exact ⟨v, w, lift hr, hK⟩
  · exact h.elim
/-! ### Parts of strings, slices, arrays, structs -/
theorem boundV_out {lo : Option Value} {d : Nat} {K : Nat → Prop} (h : boundV lo d K) : ∃ k, (lo = none ∧ k = d ∨ ∃ j, lo = some (.int j k)) ∧ K k := by
  unfold boundV at h
  split at h
  · exact ⟨_, .inl ⟨rfl, rfl⟩, h⟩
  · obtain ⟨k, rfl, hk⟩ := h
    exact ⟨k, .inr ⟨_, rfl⟩, hk⟩
  · exact h.elim
theorem run_sliceBound {j : IntKind} {n y : Nat} {code : BoundsCode} (h : n ≤ y) (w : World) : (Instr.sliceBound (.int j (n : Int)) y code).run P w = .ok n w := by
  have h0 : (0 : Int) ≤ (n : Int) ∧ (n : Int) ≤ (y : Int) := ⟨by omega, by omega⟩
  simp only [Instr.sliceBound, asIntOf, Sem.run_bind, Sem.run_pure, Result.andThen_ok, h0, and_self, if_true, Int.toNat_natCast]
theorem run_sliceBounds {b : Bool} {len cap l h : Nat} {lo hi : Option Value} (hlo : lo = none ∧ l = 0 ∨ ∃ j, lo = some (.int j l)) (hhi : hi = none ∧ h = len ∨ ∃ j, hi = some (.int j h)) (h1 : l ≤ h) (h2 : h ≤ cap) (w : World) :
    (Instr.sliceBounds b len cap lo hi none).run P w = .ok (l, h, cap) w := by
  rcases hhi with ⟨rfl, rfl⟩ | ⟨j, rfl⟩ <;> rcases hlo with ⟨rfl, rfl⟩ | ⟨j', rfl⟩ <;>
    simp [Instr.sliceBounds, run_sliceBound h1, run_sliceBound h2]
theorem sliceV_all (hT : TabOK P T) {t : TypeId} {x : SV} {lo hi mx : Option Value} (h : sliceV P T M H t x lo hi mx K) : ∃ v : SV, (∀ w, A M H w → (Instr.sliceAt t x.den lo hi mx).run P w = .ok v.den w) ∧ K v M H := by
  unfold sliceV at h
  split at h
  · rename_i s
    split at h
    · rename_i hd
      have hu := TD.fits_str (hT.fits hd)
      obtain ⟨e, he, h⟩ := boundV_out h
      obtain ⟨l, hl, h1, h2, s', rfl, hk⟩ := boundV_out h
      refine ⟨_, fun w _ => ?_, hk⟩
      simp only [den_val]
      rw [run_sliceAt_string _ _ _ _ _ _ hu]
      simp [Instr.slice, run_underlying hu, run_sliceBounds hl he h1 h2]
    · exact h.elim
  · rename_i A0 len cap
    split at h
    · rename_i e0 es hd
      obtain ⟨hu, hs⟩ := TD.fits_slice (hT.fits hd)
      obtain ⟨e, he, h⟩ := boundV_out h
      obtain ⟨l, hl, h1, h2, v, rfl, hk⟩ := boundV_out h
      refine ⟨_, fun w _ => ?_, hk⟩
      simp only [den_val]
      have hu' : P.underlying t = some (.slice (P.elem t)) := by rw [hu]; simp [Program.elem, hu]
      rw [run_sliceAt_slice _ _ _ _ _ _ hu']
      simp [Instr.slice, run_underlying hu, run_sliceBounds hl he h1 h2, run_sizeOf_of hs]
    · exact h.elim
  · obtain ⟨v, hr, hk⟩ := h
    exact ⟨.val v, hr, hk⟩
theorem indexV_all (hT : TabOK P T) {t : TypeId} {x ix : SV} (h : indexV P T M H t x ix K) : ∃ v : SV, (∀ w, A M H w → (Instr.index t x.den ix.den).run P w = .ok v.den w) ∧ K v M H := by
  unfold indexV at h
  split at h
  · rename_i s k0 n hd
    have hu := TD.fits_str (hT.fits hd)
    obtain ⟨k, c, rfl, hc, hk⟩ := h
    refine ⟨_, fun w _ => ?_, hk⟩
    have hc' : s[k]? = some c := by
      have h1 : k < s.data.toList.length := (List.getElem?_eq_some_iff.1 hc).1
      have h2 : k < s.size := by simpa using h1
      rw [getElem?_pos s k h2]
      have h3 := (List.getElem?_eq_some_iff.1 hc).2
      simp only [Array.getElem_toList] at h3
      rw [← h3]; rfl
    simp [Instr.index, asIntOf, run_underlying hu, den_val, hc']
  · rename_i len e es l k0 n hd
    obtain ⟨hu, hs⟩ := TD.fits_arr (hT.fits hd)
    obtain ⟨k, rfl, hlt, h⟩ := h
    split at h
    · rename_i d hde
      have hi : (0 : Int) ≤ (k : Int) ∧ (k : Int) < (len : Int) := ⟨by omega, by omega⟩
      have hsd := TD.fits_size (hT.fits hde)
      have hes : d.size = es := by
        unfold sizeB at hs hsd
        split at hs
        · rename_i i hi'; rw [hi'] at hsd; simp at hs hsd; omega
        · cases hs
      split at h
      · rename_i ha
        obtain ⟨l', rfl, hk⟩ := h
        refine ⟨_, fun w _ => ?_, hk⟩
        simp only [Instr.index, den_val, asIntOf, Sem.run_bind, Sem.run_pure, Result.andThen_ok, run_underlying hu, hi, and_self, if_true, run_sizeOf_of hs, Int.toNat_natCast, part, TD.fits_agg (hT.fits hde), ha]
        simp [List.extract]
      · rename_i ha
        obtain ⟨v, hv, hk⟩ := h
        refine ⟨_, fun w _ => ?_, hk⟩
        simp only [Instr.index, den_val, asIntOf, Sem.run_bind, Sem.run_pure, Result.andThen_ok, run_underlying hu, hi, and_self, if_true, run_sizeOf_of hs, Int.toNat_natCast, part, TD.fits_agg (hT.fits hde), ha]
        simp [hv]
    · exact h.elim
  · obtain ⟨v, hr, hk⟩ := h
    exact ⟨.val v, hr, hk⟩
theorem fieldV_all (hT : TabOK P T) {t : TypeId} {x : SV} {f : Nat} (h : fieldV P T M H t x f K) : ∃ v : SV, (∀ w, A M H w → (Instr.field t x.den f).run P w = .ok v.den w) ∧ K v M H := by
  unfold fieldV at h
  split at h
  · rename_i fs sz l hd
    obtain ⟨fields, hu, hfs, _, _⟩ := TD.fits_struct (hT.fits hd)
    split at h
    · rename_i o ft hn
      rw [nth_eq] at hn
      rw [← hfs] at hn
      simp only [List.getElem?_map, Option.map_eq_some_iff] at hn
      obtain ⟨fl, hfl, he⟩ := hn
      injection he with he1 he2
      subst he1; subst he2
      have hfl' : fields[f]? = some fl := by simpa using hfl
      split at h
      · rename_i d hde
        have hsd := TD.fits_size (hT.fits hde)
        split at h
        · rename_i ha
          obtain ⟨l', rfl, hk⟩ := h
          refine ⟨_, fun w _ => ?_, hk⟩
          simp only [Instr.field, den_val, Sem.run_bind, Result.andThen_ok, run_underlying hu, hfl', part, TD.fits_agg (hT.fits hde), ha]
          simp [asAgg, run_sizeOf_of hsd, List.extract]
        · rename_i ha
          obtain ⟨v, hv, hk⟩ := h
          rw [nth_eq] at hv
          refine ⟨_, fun w _ => ?_, hk⟩
          simp only [Instr.field, den_val, Sem.run_bind, Result.andThen_ok, run_underlying hu, hfl', part, TD.fits_agg (hT.fits hde), ha]
          simp [asAgg, hv]
      · exact h.elim
    · exact h.elim
  · obtain ⟨v, hr, hk⟩ := h
    exact ⟨.val v, hr, hk⟩
theorem all_out {s : Sem Value} (h : ∃ v : SV, (∀ w, A M H w → s.run P w = .ok v.den w) ∧ K v M H) (hA : A M H w) : ∃ v : SV, s.run P w = .ok v.den w ∧ After K v w := by
  obtain ⟨v, hr, hk⟩ := h
  exact ⟨v, hr w hA, M, H, hk, hA⟩

theorem toArray_map {α β : Type} (f : α → β) (l : Array α) : (l.toList.map f).toArray = l.map f := by rw [← List.map_toArray, Array.toArray_toList]
theorem nilCheckV_out {x : SV} (h : nilCheckV M H x K) (hA : A M H w) {o : Oper} {y : Operand} (ho : o.op = .nilCheck y) (hy : a.eval y = x.den) : Yld P o a w (After K) := by
  unfold nilCheckV at h
  split at h <;> first | (refine .inl ⟨_, w, ?_, M, H, h, hA⟩; simp [execOp, ho, hy, SV.den]; done) | exact h.elim
theorem callsV_out {ents : List FuncId} (hents : ∀ f ∈ ents, ∀ args w, (callFunc f args).run P w = .ok (.enter f args) w) {f : SV} {args : List Value} (h : callsV P M H ents f args K) (hA : A M H w)
    {o : Oper} {c : Call} {y : Operand} (ho : o.op = .call c) (hc : c.callee = .value y) (hy : a.eval y = f.den) (hargs : args = c.args.toList.map a.eval) : Yld P o a w (After K) := by
  unfold callsV at h
  split at h
  · rename_i f first captured
    have hres : (execOp a.eval o).run P w = (callFunc f ((first ++ args.toArray) ++ captured)).run P w := by
      have hmap : args.toArray = c.args.map a.eval := by rw [hargs, toArray_map]
      rw [hmap]
      simp [execOp, ho, resolve, hc, hy, SV.den, Deferred.ofValue, invoke]
    split at h
    · rename_i he
      have he' : f ∈ ents := by simpa using he
      refine .inr (.inr ⟨f, _, w, by rw [hres]; exact hents f he' _ w, (h w hA).mono ?_⟩)
      rintro e w' ⟨sv, M', H', rfl, hA', hK⟩
      exact ⟨sv, rfl, M', H', hK, hA'⟩
    · obtain ⟨sv, w', M', H', hr, hA', hK⟩ := h w hA
      exact .inl ⟨sv, w', by rw [hres]; exact hr, M', H', hK, hA'⟩
  · exact h.elim

theorem flat_app (l r : List Value) : flat.app l r = l ++ r := by
  induction l with
  | nil => rfl
  | cons x l ih => simp [flat.app, ih]
theorem flat_eq (ls : List (List Value)) : flat ls = ls.flatten := by
  induction ls with
  | nil => rfl
  | cons l ls ih => simp [flat, flat_app, ih]
theorem cutBy_tk (n : Nat) (l : List Value) : cutBy.tk n l = l.take n := by
  induction n generalizing l with
  | zero => cases l <;> rfl
  | succ n ih => cases l <;> simp [cutBy.tk, ih]
theorem cutBy_dp (n : Nat) (l : List Value) : cutBy.dp n l = l.drop n := by
  induction n generalizing l with
  | zero => cases l <;> rfl
  | succ n ih => cases l <;> simp [cutBy.dp, ih]
theorem cutBy_flat : ∀ (ns : List Nat) (z : List Value), z.length = ns.sum → (cutBy ns z).flatten = z ∧ (cutBy ns z).map List.length = ns
  | [], z, h => by simp at h; subst h; simp [cutBy]
  | n :: ns, z, h => by
    simp at h
    obtain ⟨h1, h2⟩ := cutBy_flat ns (z.drop n) (by simp; omega)
    simp only [cutBy, cutBy_tk, cutBy_dp, List.flatten_cons, h1, List.take_append_drop, List.map_cons, h2, List.length_take, true_and]
    congr 1
    omega
theorem splice_flat : ∀ (segs : List (List Value)) (i : Nat) (c : List Value) (s : List Value), segs[i]? = some s → c.length = s.length →
    (segs.set i c).flatten = segs.flatten.take ((segs.map List.length).take i).sum ++ c ++ segs.flatten.drop (((segs.map List.length).take i).sum + c.length)
  | [], i, c, s, h, _ => by simp at h
  | l :: ls, 0, c, s, h, hc => by
    simp at h; subst h
    simp [hc]
  | l :: ls, i + 1, c, s, h, hc => by
    simp at h
    have ih := splice_flat ls i c s h hc
    simp only [List.set_cons_succ, List.flatten_cons, ih, List.map_cons, List.take_succ_cons, List.sum_cons, List.take_append, List.drop_append]
    have e1 : l.take (l.length + ((ls.map List.length).take i).sum) = l := List.take_of_length_le (by omega)
    have e2 : l.drop (l.length + ((ls.map List.length).take i).sum + c.length) = [] := List.drop_of_length_le (by omega)
    rw [e1, e2]
    simp [show l.length + ((ls.map List.length).take i).sum - l.length = ((ls.map List.length).take i).sum by omega, show l.length + ((ls.map List.length).take i).sum + c.length - l.length = ((ls.map List.length).take i).sum + c.length by omega]
theorem fold_splice (off : Nat) : ∀ (vs : List Value) (j : Nat) (cs : Array Value), off + j + vs.length ≤ cs.size →
    (vs.zipIdx j).foldl (fun cs (c, j) => cs.setIfInBounds (off + j) c) cs = (cs.toList.take (off + j) ++ vs ++ cs.toList.drop (off + j + vs.length)).toArray
  | [], j, cs, _ => by simp
  | v :: vs, j, cs, h => by
    simp only [List.zipIdx_cons, List.foldl_cons]
    rw [fold_splice off vs (j + 1) _ (by simp at h ⊢; omega)]
    simp at h
    congr 1
    apply List.ext_getElem?
    intro k
    simp only [Array.toList_setIfInBounds, List.getElem?_append, List.length_take, List.length_set, Array.length_toList, List.getElem?_take, List.getElem?_set, List.getElem?_drop, List.length_append, List.length_cons]
    by_cases h1 : k < off + j
    · simp [h1, show k < off + (j + 1) by omega, show min (off + (j + 1)) cs.size = off + (j + 1) by omega, show min (off + j) cs.size = off + j by omega, show ¬ off + j = k by omega, show k < off + (j + 1) + vs.length by omega, show k < off + j + (vs.length + 1) by omega]
    · by_cases h2 : k = off + j
      · subst h2
        simp [show min (off + (j + 1)) cs.size = off + (j + 1) by omega, show min (off + j) cs.size = off + j by omega, show off + j < off + (j + 1) by omega, show off + j < cs.size by omega, show off + j < off + (j + 1) + vs.length by omega]
      · simp only [show min (off + (j + 1)) cs.size = off + (j + 1) by omega, show min (off + j) cs.size = off + j by omega, h1, if_false, show ¬ k < off + (j + 1) by omega]
        by_cases h3 : k < off + (j + 1) + vs.length
        · simp [h3, show k < off + j + (vs.length + 1) by omega, show k - (off + j) = (k - (off + (j + 1))) + 1 by omega]
        · simp [h3, show ¬ k < off + j + (vs.length + 1) by omega,
            show off + (j + 1) + vs.length + (k - (off + (j + 1) + vs.length)) = off + j + (vs.length + 1) + (k - (off + j + (vs.length + 1))) by omega]
          intro h'
          omega
theorem set_same {α : Type} {l : List α} {i : Nat} {x : α} (h : l[i]? = some x) : l.set i x = l := by
  apply List.ext_getElem?
  intro k
  rw [List.getElem?_set]
  by_cases e : i = k
  · subst e
    obtain ⟨h1, h2⟩ := List.getElem?_eq_some_iff.1 h
    simp [h1, h2]
  · simp [e]
theorem cellsL_eq (v : Value) : v.cells.toList = cellsL v := by
  cases v <;> rfl
theorem fill_segs {place : Nat → Option (Nat × Nat)} {ns : List Nat} (hp : ∀ i n, ns[i]? = some n → place i = some ((ns.take i).sum, n)) : ∀ (parts : List (Nat × Value)) (segs segs' : List (List Value)),
    segs.map List.length = ns → putSegs segs parts = some segs' → partsFit ns parts → Instr.fill place segs.flatten.toArray parts = some segs'.flatten.toArray
  | [], segs, segs', _, h, _ => by simp [putSegs] at h; subst h; simp [Instr.fill]
  | (i, v) :: parts, segs, segs', hns, h, hf => by
    simp only [putSegs] at h
    split at h
    · rename_i s1 hs1
      obtain ⟨hlt, rfl⟩ := setN_eq hs1
      obtain ⟨hn, hf⟩ := hf
      rw [nth_eq] at hn
      have hpl := hp i _ hn
      have hseg : segs[i]? = some (segs[i]'hlt) := List.getElem?_eq_getElem hlt
      have hlen : (cellsL v).length = (segs[i]'hlt).length := by
        rw [← hns, List.getElem?_map, hseg] at hn
        simpa using hn.symm
      have hsz : v.cells.size = (cellsL v).length := by rw [← cellsL_eq, Array.length_toList]
      have hsp := splice_flat segs i (cellsL v) _ hseg hlen
      have hbound : (ns.take i).sum + (cellsL v).length ≤ segs.flatten.length := by
        rw [List.length_flatten, hns]
        have h1 : ns = ns.take i ++ ns.drop i := (List.take_append_drop i ns).symm
        have h2 : ns.drop i = (cellsL v).length :: ns.drop (i + 1) := by
          have hi := (List.getElem?_eq_some_iff.1 hn)
          obtain ⟨hi1, hi2⟩ := hi
          rw [List.drop_eq_getElem_cons hi1, hi2]
        have h3 : ns.sum = (ns.take i).sum + (ns.drop i).sum := by rw [← List.sum_append, List.take_append_drop]
        rw [h3, h2, List.sum_cons]
        omega
      have ih := fill_segs hp parts (segs.set i (cellsL v)) segs' (by rw [List.map_set, hns, set_same hn]) h hf
      simp only [Instr.fill, hpl, hsz, ne_eq, not_true_eq_false, decide_false, Bool.false_or, List.size_toArray]
      rw [if_neg (by rw [List.length_flatten] at hbound; simp [List.length_flatten]; omega)]
      have hfold := fold_splice (ns.take i).sum v.cells.toList 0 segs.flatten.toArray (by rw [Array.length_toList, hsz]; simpa using hbound)
      have hz : Array.foldl (fun cs (x : Value × Nat) => cs.setIfInBounds ((ns.take i).sum + x.2) x.1) segs.flatten.toArray v.cells.zipIdx = (segs.set i (cellsL v)).flatten.toArray := by
        rw [← Array.foldl_toList, Array.toList_zipIdx]
        refine Eq.trans hfold ?_
        rw [cellsL_eq, hsp, hns]
        simp
      rw [show (Array.foldl (fun cs x => match x with | (c, j) => cs.setIfInBounds ((ns.take i).sum + j) c) segs.flatten.toArray v.cells.zipIdx) = _ from hz]
      exact ih
    · cases h

/-- The beginning facts on a program: its table of types, the functions that are entered, and that conversions name types. -/
structure Seat (P : Program) (T : Tab) (ents : List FuncId) : Prop where
  tab : TabOK P T
  enters : ∀ f ∈ ents, ∀ args w, (callFunc f args).run P w = .ok (.enter f args) w
  mixed : P.follows .mixedOrders = true

theorem zip_map_eval {parts : List (Nat × Operand)} : (parts.map (·.1)).zip ((parts.map (·.2)).map a.eval) = parts.map fun x => (x.1, a.eval x.2) := by
  induction parts with
  | nil => rfl
  | cons x l ih => simp at ih ⊢; exact ih

theorem sizesOf_eq (hT : TabOK P T) : ∀ {fs : List (Nat × TypeId)} {ns : List Nat}, sizesOf T fs = some ns → fs.length = ns.length ∧ ∀ (i o t : Nat), fs[i]? = some (o, t) → ∃ n, ns[i]? = some n ∧ sizeB P t n = true
  | [], ns, h => by simp [sizesOf] at h; subst h; simp
  | (o, t) :: fs, ns, h => by
    simp only [sizesOf] at h
    split at h
    · rename_i d hd
      split at h
      · rename_i r hr
        obtain ⟨h1, h2⟩ := sizesOf_eq hT hr
        injection h with h; subst h
        refine ⟨by simp [h1], fun i o' t' hi => ?_⟩
        cases i with
        | zero => simp at hi; obtain ⟨rfl, rfl⟩ := hi; exact ⟨_, rfl, TD.fits_size (hT.fits hd)⟩
        | succ i => exact h2 i o' t' (by simpa using hi)
      · cases h
    · cases h
theorem contig_off {P : Program} : ∀ {fs : List (Nat × TypeId)} {ns : List Nat} {b : Nat}, contig P fs b = true → fs.length = ns.length → (∀ (i o t : Nat), fs[i]? = some (o, t) → ∃ n, ns[i]? = some n ∧ sizeB P t n = true) →
    ∀ (i o t : Nat), fs[i]? = some (o, t) → o = b + (ns.take i).sum
  | [], ns, b, _, _, _, i, o, t, hi => by simp at hi
  | (o0, t0) :: fs, [], b, _, hl, _, i, o, t, hi => by simp at hl
  | (o0, t0) :: fs, n0 :: ns, b, h, hl, hs, i, o, t, hi => by
    simp only [contig, Bool.and_eq_true, beq_iff_eq] at h
    obtain ⟨h1, h2⟩ := h
    cases hinfo : P.info? t0 with
    | none => simp [hinfo] at h2
    | some inf =>
      simp only [hinfo] at h2
      obtain ⟨n, hn, hsz⟩ := hs 0 o0 t0 rfl
      simp at hn; subst hn
      have hn0 : inf.size = n0 := by simpa [sizeB, hinfo] using hsz
      cases i with
      | zero => simp at hi; obtain ⟨rfl, rfl⟩ := hi; simp [h1]
      | succ i =>
        have := contig_off h2 (by simpa using hl) (fun i o t hi => by simpa using hs (i + 1) o t (by simpa using hi)) i o t (by simpa using hi)
        rw [this, hn0]; simp; omega
theorem mapM_sizes {P : Program} : ∀ {fs : List Field} {ns : List Nat}, fs.length = ns.length → (∀ (i : Nat) (f : Field), fs[i]? = some f → ∃ n, ns[i]? = some n ∧ sizeB P f.type n = true) →
    ∃ pl, fs.mapM (fun f => (P.info? f.type).map fun i => (f.offset, i.size)) = some pl ∧ pl = (fs.zip ns).map fun x => (x.1.offset, x.2)
  | [], [], _, _ => ⟨[], by simp, rfl⟩
  | [], _ :: _, h, _ => by simp at h
  | _ :: _, [], h, _ => by simp at h
  | f :: fs, n :: ns, h, hs => by
    obtain ⟨pl, h1, h2⟩ := mapM_sizes (by simpa using h) (fun i f hi => by simpa using hs (i + 1) f (by simpa using hi))
    obtain ⟨n', hn, hsz⟩ := hs 0 f rfl
    simp at hn; subst hn
    unfold sizeB at hsz
    split at hsz
    · rename_i inf hinf
      have hsz' : inf.size = n := by simpa using hsz
      exact ⟨(f.offset, n) :: pl, by simp [hinf, h1, hsz'], by simp [h2]⟩
    · cases hsz
theorem buildV_all (hT : TabOK P T) {t : TypeId} {parts : List (Nat × Value)} (h : buildV T M H t parts K) : ∃ v : SV, (∀ w, A M H w → (Instr.build t parts.toArray).run P w = .ok v.den w) ∧ K v M H := by
  unfold buildV at h
  split at h
  · rename_i z ns hz hns
    split at h
    · rename_i segs hlen hsegs
      have hlen := Nat.eq_of_beq_eq_true hlen
      obtain ⟨hfit, hK⟩ := h
      refine ⟨.val (.agg (flat segs).toArray), fun w _ => ?_, hK⟩
      obtain ⟨zv, hzv, hzc⟩ := hT.zero hz w
      have hzi : ∃ it, P.info? t = some it ∧ it.zero = some zv := by
        cases hi : P.info? t with
        | none => simp [zeroValue, typeInfo, hi, stuck] at hzv
        | some it =>
          cases hv : it.zero with
          | none => simp [zeroValue, typeInfo, hi, hv, unsupported] at hzv
          | some v => simp [zeroValue, typeInfo, hi, hv] at hzv; subst hzv; exact ⟨it, rfl, hv⟩
      obtain ⟨it, hit, hitz⟩ := hzi
      have hzcells : zv.cells = (z.map SV.den).toArray := by rw [← hzc]
      have core : ∀ (place : Nat → Option (Nat × Nat)), (∀ i n, ns[i]? = some n → place i = some ((ns.take i).sum, n)) →
          Instr.fill place (z.map SV.den).toArray parts = some (flat segs).toArray := by
        intro place hp
        obtain ⟨hc1, hc2⟩ := cutBy_flat ns (z.map SV.den) (by simpa using hlen)
        have := fill_segs hp parts _ segs hc2 hsegs hfit
        rw [hc1] at this
        rw [this, flat_eq]
      refine run_build w t parts.toArray _ ?_
      unfold cutsOf at hns
      split at hns
      · rename_i fs sz hd
        obtain ⟨fields, hu, h3, _, h5⟩ := TD.fits_struct (hT.fits hd)
        obtain ⟨h6, h7⟩ := sizesOf_eq hT hns
        have hoff := contig_off h5 h6 h7
        have hfield : ∀ (i : Nat) (f : Field), fields.toList[i]? = some f → fs[i]? = some (f.offset, f.type) := by
          intro i f hi; rw [← h3, List.getElem?_map, hi]; rfl
        obtain ⟨pl, h8, h9⟩ := mapM_sizes (P := P) (fs := fields.toList) (ns := ns) (by rw [← h6, ← h3, List.length_map]) (fun i f hi => h7 i _ _ (hfield i f hi))
        simp only [Program.built, hit, hu, hitz, h8, hzcells]
        refine core _ fun i n hn => ?_
        have hi : i < fields.toList.length := by
          have := (List.getElem?_eq_some_iff.1 hn).1
          rw [← h6, ← h3, List.length_map] at this
          exact this
        have hf := List.getElem?_eq_getElem hi
        have ho := hoff i _ _ (hfield i _ hf)
        subst h9
        have hz2 : (fields.toList.zip ns)[i]? = some (fields.toList[i], n) := List.getElem?_zip_eq_some.2 ⟨hf, hn⟩
        simp only [List.getElem?_toArray, List.getElem?_map, hz2, Option.map_some]
        rw [ho]; simp
      · rename_i n e es hd
        obtain ⟨hu, hs⟩ := TD.fits_arr (hT.fits hd)
        injection hns with hns
        subst hns
        unfold sizeB at hs
        split at hs
        · rename_i ie hie
          have hse : ie.size = es := by simpa using hs
          simp only [Program.built, hit, hu, hitz, hie, hzcells]
          refine core _ fun i m hm => ?_
          rw [List.getElem?_replicate] at hm
          split at hm
          · injection hm with hm
            subst hm
            rename_i hin
            rw [List.take_replicate, List.sum_replicate_nat, hse, Nat.min_eq_left (by omega)]
          · cases hm
        · cases hs
      · cases hns
    · exact h.elim
  · exact h.elim

theorem headK_eq : ∀ {n : Nat} {l : List Value} {K : List Value → List Value → Prop}, headK n l K → K (l.take n) (l.drop n)
  | 0, l, K, h => by simpa [headK] using h
  | n + 1, [], K, h => by simpa [headK] using h
  | n + 1, x :: l, K, h => by
    have h' : headK n l fun a b => K (x :: a) b := h
    simpa using headK_eq h'
theorem cutK_eq : ∀ {ns : List (Nat × Bool)} {z : List Value} {K : List Seg → Prop}, cutK ns z K → ∃ segs, K segs ∧ segs.map Seg.list = cutBy (ns.map Prod.fst) z
  | [], z, K, h => ⟨[], h, rfl⟩
  | (n, f) :: ns, z, K, h => by
    have h' : headK n z fun a b => cutK ns b fun r => K (.many a :: r) := h
    obtain ⟨segs, hk, he⟩ := cutK_eq (headK_eq h')
    refine ⟨_, hk, ?_⟩
    simp [cutBy, he, cutBy_tk, cutBy_dp, Seg.list]
theorem appK_eq : ∀ {l r : List Value} {K : List Value → Prop}, appK l r K → K (l ++ r)
  | [], _, _, h => h
  | x :: l, _, K, h => appK_eq (l := l) (K := fun s => K (x :: s)) h
theorem flatK_eq : ∀ {s : List Seg} {K : List Value → Prop}, flatK s K → K (s.map Seg.list).flatten
  | [], K, h => h
  | .one v :: s, K, h => by
    have := flatK_eq (s := s) (K := fun r => K (v :: r)) h
    simpa [Seg.list] using this
  | .many l :: s, K, h => by
    have h1 := flatK_eq (s := s) (K := fun r => appK l r K) h
    have := appK_eq h1
    simpa [Seg.list] using this
  | .agg l :: s, K, h => by
    have := flatK_eq (s := s) (K := fun r => K (l ++ r)) h
    simpa [Seg.list] using this
theorem setN_map {α β : Type} (f : α → β) : ∀ {l : List α} {n : Nat} {v : α} {r : List α}, setN l n v = some r → setN (l.map f) n (f v) = some (r.map f)
  | [], _, _, _, h => by simp [setN] at h
  | x :: l, 0, v, r, h => by simp [setN] at h ⊢; subst h; simp
  | x :: l, n + 1, v, r, h => by
    simp only [setN] at h
    split at h
    · rename_i r' hr
      have := setN_map f hr
      injection h with h
      subst h
      simp [setN, this]
    · cases h
theorem putK_eq {ns : List (Nat × Bool)} : ∀ {parts : List (Nat × Value)} {segs segs' : List Seg}, putK' ns segs parts = some segs' → partsFitK ns parts →
    putSegs (segs.map Seg.list) parts = some (segs'.map Seg.list) ∧ partsFit (ns.map Prod.fst) parts
  | [], segs, segs', h, _ => by simp [putK'] at h; subst h; simp [putSegs, partsFit]
  | (i, v) :: r, segs, segs', h, hf => by
    simp only [putK'] at h
    obtain ⟨hf1, hf2⟩ := hf
    split at h
    · rename_i n f hn
      split at h
      · rename_i sg hsg
        split at h
        · rename_i s1 hs1
          obtain ⟨h1, h2⟩ := putK_eq h hf2
          have hcell : cellsL v = sg.list ∧ (cellsL v).length = n := by
            rw [hn] at hf1
            cases f with
            | false =>
              simp [segOf] at hsg; subst hsg
              have hf1 : (bif Nat.beq n 1 then cellsL v = [v] else False) := hf1
              cases hb : Nat.beq n 1 with
              | false => rw [hb] at hf1; exact hf1.elim
              | true =>
                rw [hb] at hf1
                have hf1 : cellsL v = [v] := hf1
                have hn1 := Nat.eq_of_beq_eq_true hb
                subst hn1
                exact ⟨hf1, by rw [hf1]; rfl⟩
            | true =>
              unfold segOf at hsg
              split at hsg
              · rename_i hft; cases hft
              · injection hsg with hsg; subst hsg; exact ⟨rfl, hf1⟩
              · cases hsg
          have hset := setN_map Seg.list hs1
          rw [← hcell.1] at hset
          refine ⟨by simp [putSegs, hset, h1], ?_, h2⟩
          rw [nth_eq] at hn ⊢
          simp [hn, hcell.2]
        · cases h
      · cases h
    · cases h
theorem flagsOf_sizes {T : Tab} : ∀ {fs : List (Nat × TypeId)} {ns : List (Nat × Bool)}, flagsOf T fs = some ns → sizesOf T fs = some (ns.map Prod.fst)
  | [], ns, h => by simp [flagsOf] at h; subst h; rfl
  | (o, t) :: fs, ns, h => by
    simp only [flagsOf] at h
    split at h
    · rename_i d hd
      split at h
      · rename_i r hr
        injection h with h
        subst h
        simp [sizesOf, hd, flagsOf_sizes hr]
      · cases h
    · cases h
theorem sumOf_eq : ∀ (ns : List (Nat × Bool)), sumOf ns = (ns.map Prod.fst).sum
  | [] => rfl
  | (n, _) :: l => by simp [sumOf, sumOf_eq l]
theorem buildK_all (hT : TabOK P T) {t : TypeId} {parts : List (Nat × Value)} (h : buildK T M H t parts K) : ∃ v : SV, (∀ w, A M H w → (Instr.build t parts.toArray).run P w = .ok v.den w) ∧ K v M H := by
  unfold buildK at h
  split at h
  · rename_i z ns hz hns
    split at h
    · rename_i hlen
      rw [denK_eq] at h
      obtain ⟨segs0, h, hs0⟩ := cutK_eq h
      split at h
      · rename_i segs hsegs
        obtain ⟨hfit, hK⟩ := h
        obtain ⟨h1, h2⟩ := putK_eq hsegs hfit
        have hK := flatK_eq hK
        refine buildV_all hT ?_
        have hns' : cutsOf T t = some (ns.map Prod.fst) := by
          unfold cutsOf
          split at hns
          · rename_i fs sz hd
            exact flagsOf_sizes hns
          · rename_i n e es hd
            split at hns
            · injection hns with hns; subst hns; simp
            · cases hns
          · cases hns
        unfold buildV
        rw [hz, hns']
        simp only [← sumOf_eq, hlen]
        rw [← hs0, h1]
        refine ⟨h2, ?_⟩
        rw [flat_eq]
        exact hK
      · exact h.elim
    · exact h.elim
  · exact h.elim
theorem repS_length (n : Nat) (z : List SV) : (repS n z).length = n * z.length := by
  induction n with
  | zero => simp [repS]
  | succ n ih => simp [repS, ih, Nat.succ_mul, Nat.add_comm]
theorem repS_get (z : List SV) (hz : 0 < z.length) : ∀ (n k : Nat), k < n * z.length → (repS n z)[k]? = z[k % z.length]?
  | 0, k, h => by omega
  | n + 1, k, h => by
    simp only [repS]
    by_cases hk : k < z.length
    · rw [List.getElem?_append_left hk, Nat.mod_eq_of_lt hk]
    · rw [List.getElem?_append_right (by omega), repS_get z hz n (k - z.length) (by rw [Nat.succ_mul] at h; omega)]
      congr 1
      exact (Nat.mod_eq_sub_mod (by omega)).symm
theorem repS_cells {n es : Nat} {z : List SV} {zc : Array Value} (hz : zc = (z.map SV.den).toArray) (hl : z.length = es) (h0 : 0 < es) :
    ((Array.range (n * es)).map (zc[· % zc.size]!)) = ((repS n z).map SV.den).toArray := by
  subst hz
  apply Array.ext
  · simp [repS_length, hl]
  · intro k h1 h2
    have hk : k < n * es := by simpa using h1
    have hlt : k % z.length < z.length := Nat.mod_lt _ (by omega)
    have hg := repS_get z (by omega) n k (by rw [hl]; exact hk)
    simp only [Array.getElem_map, Array.getElem_range, List.size_toArray, List.length_map, List.getElem_toArray]
    rw [List.getElem?_eq_getElem (by rw [repS_length, hl]; exact hk), List.getElem?_eq_getElem hlt] at hg
    injection hg with hg
    rw [List.getElem_map, hg, getElem!_pos _ _ (by simpa using hlt)]
    simp
theorem den_valmap (l : List Value) : (l.map SV.val).map SV.den = l := by
  rw [List.map_map, show (SV.den ∘ SV.val) = id from rfl]; simp
theorem buildSliceK_out (hT : TabOK P T) {t : TypeId} {n : Nat} {parts : List (Nat × Value)} (h : buildSliceK T M H t n parts K) (hA : A M H w) :
    ∃ (v : SV) (w' : World), (Instr.buildSlice t n parts.toArray).run P w = .ok v.den w' ∧ After K v w' := by
  unfold buildSliceK at h
  split at h
  · rename_i e es hd
    obtain ⟨hu, hs⟩ := TD.fits_slice (hT.fits hd)
    split at h
    · rename_i d z hde hz
      split at h
      · rename_i hl hle hpos
        have hl := Nat.eq_of_beq_eq_true hl
        have hle := Nat.le_of_ble_eq_true hle
        have hpos : 0 < n * es := by simpa [Nat.blt_eq] using hpos
        have hes : 0 < es := by
          rcases Nat.eq_zero_or_pos es with h0 | h0
          · subst h0; simp at hpos
          · exact h0
        rw [denK_eq] at h
        obtain ⟨segs0, h, hs0⟩ := cutK_eq h
        split at h
        · rename_i segs hsegs
          obtain ⟨hfit, hK⟩ := h
          obtain ⟨h1, h2⟩ := putK_eq hsegs hfit
          have hK := flatK_eq hK
          obtain ⟨zv, hzv, hzc⟩ := hT.zero hz w
          have hzcells : zv.cells = (z.map SV.den).toArray := by rw [← hzc]
          simp only [List.map_replicate] at hs0 h2
          obtain ⟨hc1, hc2⟩ := cutBy_flat (List.replicate n es) ((repS n z).map SV.den) (by simp [repS_length, hl])
          rw [hs0] at h1
          have hp : ∀ i m, (List.replicate n es)[i]? = some m → (fun i => some (i * es, es) : Nat → Option (Nat × Nat)) i = some (((List.replicate n es).take i).sum, m) := by
            intro i m hm
            rw [List.getElem?_replicate] at hm
            split at hm
            · injection hm with hm
              subst hm
              rw [List.take_replicate, List.sum_replicate_nat, Nat.min_eq_left (by omega)]
            · cases hm
          have hfill := fill_segs hp parts _ _ hc2 h1 h2
          rw [hc1] at hfill
          have hA' := hA.alloc (newId M) e ((segs.map Seg.list).flatten.map SV.val)
          rw [den_valmap] at hA'
          refine ⟨.val (.slice (some ⟨w.heap.size, 0, none⟩) n n), w.alloc (.cells (segs.map Seg.list).flatten.toArray e), ?_, _, H, hK w.heap.size hA.above, hA'⟩
          have hrs := repS_cells (n := n) hzcells hl hes
          have hne : ¬ (n * es = 0) := by omega
          have hng : ¬ (n * es > 2 ^ 24) := by omega
          have e1 : (fun i => some (i * es, es) : Nat → Option (Nat × Nat)) = fun i => some (i * es, es) := rfl
          simp only [Instr.buildSlice, Sem.run_bind, run_underlying hu, Result.andThen_ok, run_sizeOf_of hs, if_neg hne, if_neg hng, hzv, Sem.run_pure, hrs, hfill, newRow, den_val]
          simp
        · exact h.elim
      · exact h.elim
    · exact h.elim
  · exact h.elim
theorem makeSliceV_out (hT : TabOK P T) {t : TypeId} {l c : SV} (h : makeSliceV P T M H t l c K) (hA : A M H w) :
    ∃ (v : SV) (w' : World), (Instr.makeSlice t l.den c.den).run P w = .ok v.den w' ∧ After K v w' := by
  unfold makeSliceV at h
  split at h
  · rename_i k1 n k2 m
    split at h
    · rename_i e es hd
      obtain ⟨hu, hs⟩ := TD.fits_slice (hT.fits hd)
      split at h
      · rename_i z hz
        split at h
        · rename_i hl hpos
          have hl := Nat.eq_of_beq_eq_true hl
          have hes : 0 < es := by simpa [Nat.blt_eq] using hpos
          obtain ⟨k, by_, rfl, rfl, hk, hby, hb, hK⟩ := h
          obtain ⟨zv, hzv, hzc⟩ := hT.zero hz w
          have hzcells : zv.cells = (z.map SV.den).toArray := by rw [← hzc]
          cases hi : P.info? e with
          | none => simp [hi] at hby
          | some it =>
            have hby' : it.bytes = by_ := by simpa [hi] using hby
            have hsz : it.size = es := by simpa [sizeB, hi] using hs
            have hit : it.zero = some zv := by
              cases hv : it.zero with
              | none => simp [zeroValue, typeInfo, hi, hv, unsupported] at hzv
              | some v => simp [zeroValue, typeInfo, hi, hv] at hzv; rw [hzv]
            have hbytes : (it.bytes : Int) * (k : Int) ≤ 281474976710656 := by
              rw [hby', ← Int.natCast_mul, Nat.mul_comm]; omega
            have hr := run_make (P := P) w t e it zv hu hi hit k1 k2 (k : Int) (k : Int) (by omega) (Int.le_refl _) hbytes (by omega)
            have hA' := hA.alloc (newId M) e (repS k z)
            refine ⟨.val (.slice (some ⟨w.heap.size, 0, none⟩) k k), _, ?_, _, H, hK w.heap.size hA.above, hA'⟩
            simp only [den_val]
            rw [hr]
            have hrs := repS_cells (n := k) hzcells hl hes
            simp only [madeCells, Int.toNat_natCast, hsz, hzcells] at hrs ⊢
            rw [hrs]
        · exact h.elim
      · exact h.elim
    · exact h.elim
  · exact memV_out h hA
set_option maxHeartbeats 1000000 in
theorem opV_ok {ents : List FuncId} (hS : Seat P T ents) {o : Oper} (h : opV P T E M H ents o K) (hs : Sat N E a) (hA : A M H w) : Yld P o a w (After K) := by
  obtain ⟨dst, op, ty, pos, after, guard⟩ := o
  cases op <;> simp only [opV] at h <;> try exact h.elim
  case move x =>
    obtain ⟨v, hv, h⟩ := withV_out h
    exact .inl ⟨v, w, by simp [execOp, hs.ev hv], M, H, h, hA⟩
  case assign x =>
    obtain ⟨v, hv, h⟩ := withV_out h
    exact .inl ⟨v, w, by simp [execOp, hs.ev hv], M, H, h, hA⟩
  case pick c x y =>
    obtain ⟨v, hv, h1⟩ := withV_out h
    obtain ⟨u, hu, h2⟩ := withV_out h1
    obtain ⟨z, hz, h3⟩ := withV_out h2
    clear h h1 h2
    cases v with
    | ptr => exact h3.elim
    | lit t =>
      cases t
      · exact .inl ⟨z, w, by simp [execOp, hs.ev hv, hs.ev hz, SV.den, asBool], M, H, h3, hA⟩
      · exact .inl ⟨u, w, by simp [execOp, hs.ev hv, hs.ev hu, SV.den, asBool], M, H, h3, hA⟩
    | val v =>
      cases v <;> try exact h3.elim
      rename_i t
      cases t
      · exact .inl ⟨z, w, by simp [execOp, hs.ev hv, hs.ev hz, SV.den, asBool], M, H, h3.2 rfl, hA⟩
      · exact .inl ⟨u, w, by simp [execOp, hs.ev hv, hs.ev hu, SV.den, asBool], M, H, h3.1 rfl, hA⟩
  case alloc t =>
    split at h
    · rename_i z hz
      obtain ⟨v, hv, hc⟩ := hS.tab.zero hz w
      have hA' := hA.alloc (newId M) t z
      refine Yld.val (sv := .ptr (newId M) w.heap.size 0) (w' := w.alloc (.cells (z.map SV.den).toArray t)) (Instr.alloc t true (.tuple #[])) rfl ?_ ⟨_, H, h w.heap.size hA.above, hA'⟩
      have hcells : v.cells = (z.map SV.den).toArray := by rw [← hc]
      simp [Instr.alloc, hv, newVar, newRow, den_ptr, hcells]
    · exact h.elim
  case box t x =>
    obtain ⟨v, hv, h⟩ := withV_out h
    have hA' := hA.alloc (newId M) t (cellsSV v)
    refine Yld.val (sv := .ptr (newId M) w.heap.size 0) (w' := w.alloc (.cells ((cellsSV v).map SV.den).toArray t)) (Instr.box t (a.eval x)) rfl ?_ ⟨_, H, h w.heap.size hA.above, hA'⟩
    have hcells : v.den.cells = ((cellsSV v).map SV.den).toArray := by rw [← cellsSV_den]
    simp [Instr.box, newVar, newRow, den_ptr, hs.ev hv, hcells]
  case build t parts =>
    have h := withVs_out hs h
    rw [zip_map_eval] at h
    obtain ⟨v, hr, hK⟩ := all_out (buildK_all hS.tab h) hA
    rw [toArray_map] at hr
    exact Yld.val _ rfl hr hK
  case buildSlice t n parts =>
    have h := withVs_out hs h
    rw [zip_map_eval] at h
    obtain ⟨v, w', hr, hK⟩ := buildSliceK_out hS.tab h hA
    rw [toArray_map] at hr
    exact Yld.val _ rfl hr hK
  case load t x =>
    obtain ⟨p, hp, h⟩ := withV_out h
    obtain ⟨v, hr, hK⟩ := loadV_out hS.tab h hA
    exact Yld.val _ rfl (by rw [hs.ev hp]; exact hr) hK
  case store t x y =>
    obtain ⟨p, hp, h⟩ := withV_out h
    obtain ⟨v, hv, h⟩ := withV_out h
    obtain ⟨w', hr, hK⟩ := storeV_out hS.tab h hA
    exact Yld.unit _ rfl (by rw [hs.ev hp, hs.ev hv]; exact hr) hK
  case nilCheck x =>
    obtain ⟨v, hv, h⟩ := withV_out h
    exact nilCheckV_out h hA rfl (hs.ev hv)
  case binOp op t x y yt =>
    obtain ⟨u, hu, h⟩ := withV_out h
    obtain ⟨v, hv, h⟩ := withV_out h
    obtain ⟨r, hr, hK⟩ := binV_out hS.tab h hA
    exact Yld.val _ rfl (by rw [hs.ev hu, hs.ev hv]; exact hr) hK
  case unOp op t x =>
    obtain ⟨v, hv, h⟩ := withV_out h
    obtain ⟨r, hr, hK⟩ := unV_out h hA
    exact Yld.val _ rfl (by rw [hs.ev hv]; exact hr) hK
  case convert src d x =>
    obtain ⟨v, hv, h⟩ := withV_out h
    obtain ⟨r, w', hr, hK⟩ := convV_out hS.tab h hA
    exact Yld.val _ rfl (by rw [hs.ev hv]; exact hr) hK
  case makeInterface t x =>
    obtain ⟨v, hv, h⟩ := withV_out h
    obtain ⟨r, hr, hK⟩ := pureV_out h hA
    exact Yld.val _ rfl (by rw [hs.ev hv]; exact hr) hK
  case makeFunc fn first captured =>
    have h := withVs_out hs h
    have h := withVs_out hs h
    rw [toArray_map, toArray_map] at h
    exact .inl ⟨_, w, rfl, M, H, h, hA⟩
  case makeMap t r =>
    have h := withO_out hs h
    obtain ⟨v, w', hr, hK⟩ := memV_out h hA
    exact Yld.val _ rfl hr hK
  case makeSlice t l c =>
    obtain ⟨u, hu, h⟩ := withV_out h
    obtain ⟨v, hv, h⟩ := withV_out h
    obtain ⟨r, w', hr, hK⟩ := makeSliceV_out hS.tab h hA
    exact Yld.val _ rfl (by rw [hs.ev hu, hs.ev hv]; exact hr) hK
  case slice t x lo hi mx =>
    obtain ⟨v, hv, h⟩ := withV_out h
    have h := withO_out hs h
    have h := withO_out hs h
    have h := withO_out hs h
    obtain ⟨r, hr, hK⟩ := all_out (sliceV_all hS.tab h) hA
    exact Yld.val _ rfl (by rw [hs.ev hv]; exact hr) hK
  case fieldAddr t x f =>
    obtain ⟨p, hp, h⟩ := withV_out h
    obtain ⟨v, hr, hK⟩ := fieldAddrV_out hS.tab h hA
    exact Yld.val _ rfl (by rw [hs.ev hp]; exact hr) hK
  case field t x f =>
    obtain ⟨v, hv, h⟩ := withV_out h
    obtain ⟨r, hr, hK⟩ := all_out (fieldV_all hS.tab h) hA
    exact Yld.val _ rfl (by rw [hs.ev hv]; exact hr) hK
  case indexAddr t x ix =>
    obtain ⟨u, hu, h⟩ := withV_out h
    obtain ⟨v, hv, h⟩ := withV_out h
    obtain ⟨r, hr, hK⟩ := indexAddrV_out hS.tab h hA
    exact Yld.val _ rfl (by rw [hs.ev hu, hs.ev hv]; exact hr) hK
  case index t x ix =>
    obtain ⟨u, hu, h⟩ := withV_out h
    obtain ⟨v, hv, h⟩ := withV_out h
    obtain ⟨r, hr, hK⟩ := all_out (indexV_all hS.tab h) hA
    exact Yld.val _ rfl (by rw [hs.ev hu, hs.ev hv]; exact hr) hK
  case lookup t x ix ok =>
    obtain ⟨u, hu, h⟩ := withV_out h
    obtain ⟨v, hv, h⟩ := withV_out h
    obtain ⟨r, hr, hK⟩ := pureV_out h hA
    exact Yld.val _ rfl (by rw [hs.ev hu, hs.ev hv]; exact hr) hK
  case mapUpdate t m k x =>
    obtain ⟨u, hu, h⟩ := withV_out h
    obtain ⟨v, hv, h⟩ := withV_out h
    obtain ⟨z, hz, h⟩ := withV_out h
    obtain ⟨w', hr, hK⟩ := memU_out h hA
    exact Yld.unit _ rfl (by rw [hs.ev hu, hs.ev hv, hs.ev hz]; exact hr) hK
  case insert t m k x =>
    obtain ⟨u, hu, h⟩ := withV_out h
    obtain ⟨v, hv, h⟩ := withV_out h
    obtain ⟨z, hz, h⟩ := withV_out h
    obtain ⟨w', hr, hK⟩ := memU_out h hA
    exact Yld.unit _ rfl (by rw [hs.ev hu, hs.ev hv, hs.ev hz]; exact hr) hK
  case mapEntry t m k =>
    obtain ⟨u, hu, h⟩ := withV_out h
    obtain ⟨v, hv, h⟩ := withV_out h
    obtain ⟨r, w', hr, hK⟩ := memV_out h hA
    exact Yld.val _ rfl (by rw [hs.ev hu, hs.ev hv]; exact hr) hK
  case entryStore t m s x =>
    obtain ⟨u, hu, h⟩ := withV_out h
    obtain ⟨v, hv, h⟩ := withV_out h
    obtain ⟨z, hz, h⟩ := withV_out h
    obtain ⟨w', hr, hK⟩ := memU_out h hA
    exact Yld.unit _ rfl (by rw [hs.ev hu, hs.ev hv, hs.ev hz]; exact hr) hK
  case range t x =>
    obtain ⟨u, hu, h⟩ := withV_out h
    obtain ⟨r, w', hr, hK⟩ := memV_out h hA
    exact Yld.val _ rfl (by rw [hs.ev hu]; exact hr) hK
  case next it s =>
    obtain ⟨u, hu, h⟩ := withV_out h
    obtain ⟨r, w', hr, hK⟩ := memV_out h hA
    exact Yld.val _ rfl (by rw [hs.ev hu]; exact hr) hK
  case entry it =>
    obtain ⟨u, hu, h⟩ := withV_out h
    obtain ⟨r, w', hr, hK⟩ := memV_out h hA
    exact Yld.val _ rfl (by rw [hs.ev hu]; exact hr) hK
  case typeAssert x t u ok =>
    obtain ⟨u, hu, h⟩ := withV_out h
    obtain ⟨r, hr, hK⟩ := pureV_out h hA
    exact Yld.val _ rfl (by rw [hs.ev hu]; exact hr) hK
  case extract x i =>
    obtain ⟨u, hu, h⟩ := withV_out h
    split at h
    · obtain ⟨v, hv, hK⟩ := h
      refine Yld.val (sv := .val v) _ rfl (w' := w) ?_ ⟨M, H, hK, hA⟩
      rw [hs.ev hu]
      simp [Instr.extract, den_val, hv]
    · exact h.elim
  case call c =>
    split at h
    · rename_i b hc
      have h := withVs_out hs h
      obtain ⟨v, w', hr, hK⟩ := builtinV_out hS.tab (cs := c.args.map fun | .const _ => true | _ => false) h hA
      refine .inl ⟨v, w', ?_, hK⟩
      rw [toArray_map] at hr
      simp only [execOp, resolve, hc, Sem.run_bind, Sem.run_pure, Result.andThen_ok, invoke]
      exact hr
    · rename_i f hc
      obtain ⟨v, hv, h⟩ := withV_out h
      have h := withVs_out hs h
      exact callsV_out hS.enters h hA rfl hc (hs.ev hv) rfl
    · exact h.elim
theorem keepsC_out (hA : A M H w) : ∀ {C0 : List (Nat × Nat × Nat × SV)} {X : Prop}, keepsC C0 M X → CellsOK C0 w ∧ X
  | [], _, h => ⟨fun _ hc => (nomatch hc), h⟩
  | (i, g, off, v) :: r, _, h => by
    obtain ⟨⟨kb, hi, rfl, hv⟩, h⟩ := h
    obtain ⟨h1, h2⟩ := keepsC_out hA h
    refine ⟨fun c hc => ?_, h2⟩
    rcases List.mem_cons.1 hc with rfl | hc
    · show w.cell? ⟨kb.g, off, none⟩ = some v.den
      rw [(hA.blk i kb hi).cell]
      rw [nth_eq] at hv
      simp [hv]
    · exact h1 c hc
theorem CellsOK.drew {C0 : List (Nat × Nat × Nat × SV)} {w : World} (h : CellsOK C0 w) : CellsOK C0 { w with drawn := w.drawn + 1 } := h
theorem quietV_out (hT : TabOK P T) {C0 : List (Nat × Nat × Nat × SV)} {o : Oper} {K : SV → Prop} (h : quietV P T E M H C0 o K) (hs : Sat N E a) : ∃ sv : SV, (∀ w, A M H w ∧ CellsOK C0 w → (execOp a.eval o).run P w = .ok (.value sv.den) w) ∧ K sv := by
  suffices hx : ∃ sv : SV, (∀ w, A M H w ∧ CellsOK C0 w → (execOp a.eval o).run P w = .ok (.value sv.den) w) ∧ K sv from hx
  have up : (∃ sv : SV, (∀ w, (execOp a.eval o).run P w = .ok (.value sv.den) w) ∧ K sv) → ∃ sv : SV, (∀ w, A M H w ∧ CellsOK C0 w → (execOp a.eval o).run P w = .ok (.value sv.den) w) ∧ K sv :=
    fun ⟨sv, h1, h2⟩ => ⟨sv, fun w _ => h1 w, h2⟩
  obtain ⟨dst, op, ty, pos, after, guard⟩ := o
  cases op <;> simp only [quietV] at h <;> try exact h.elim
  case load t x =>
    obtain ⟨p, hp, h1⟩ := withV_out h
    clear h
    have fin : ∀ {v : SV} {w : World}, (Instr.loadAt t p.den).run P w = .ok v.den w → (execOp a.eval ⟨dst, .load t x, ty, pos, after, guard⟩).run P w = .ok (.value v.den) w := by
      intro v w hr
      rw [← hs.ev hp] at hr
      show (do pure (.value (← Instr.loadAt t (a.eval x))) : Sem Next).run P w = _
      rw [Sem.run_bind, hr]; rfl
    split at h1
    · rename_i i g off
      split at h1
      · rename_i d hd
        split at h1
        · rename_i hagg
          obtain ⟨v, hc, hk⟩ := h1
          refine ⟨v, fun w hA => fin ?_, hk⟩
          have hc := hc w hA.2
          simp [Instr.loadAt, Instr.sureAddr, SV.den, loadVar, TD.fits_agg (hT.fits hd), hagg, load, hc, Sem.run, Sem.run_bind]
        · exact h1.elim
      · exact h1.elim
    · obtain ⟨v, hr, hk⟩ := loadV_all hT h1
      exact ⟨v, fun w hA => fin (hr w hA.1), hk⟩
  case fieldAddr t x f =>
    obtain ⟨p, hp, h⟩ := withV_out h
    obtain ⟨v, hr, hk⟩ := fieldAddrV_all hT h
    refine ⟨v, fun w _ => ?_, hk⟩
    have := hr w
    rw [← hs.ev hp] at this
    show (do pure (.value (← Instr.fieldAt t (a.eval x) f)) : Sem Next).run P w = _
    rw [Sem.run_bind, this]; rfl
  case convert src dst x =>
    obtain ⟨v, hv, h1⟩ := withV_out h
    clear h
    split at h1
    · rename_i d0 k k' n hd0 hd
      obtain ⟨r, rfl, h⟩ := h1
      obtain ⟨ds, hds⟩ := TD.fits_some (hT.fits hd0)
      refine ⟨.val (.int k (k.wrap n)), fun w _ => ?_, h⟩
      have hc : (convert src dst (a.eval x)).run P w = .ok (.int k (k.wrap n)) w := by
        rw [hs.ev hv]
        simp [convert, run_underlying hds, run_underlying (TD.fits_int (hT.fits hd)), Conv.intToInt, den_val]
      show (do pure (.value (← convert src dst (a.eval x))) : Sem Next).run P w = _
      rw [Sem.run_bind, hc]; rfl
    · exact h1.elim
  case indexAddr t x ix =>
    obtain ⟨p, hp, h⟩ := withV_out h
    obtain ⟨i, hi, h⟩ := withV_out h
    obtain ⟨v, hr, hk⟩ := indexAddrV_all hT h
    refine ⟨v, fun w _ => ?_, hk⟩
    have := hr w
    rw [← hs.ev hp, ← hs.ev hi] at this
    show (do pure (.value (← Instr.indexAt t (a.eval x) (a.eval ix))) : Sem Next).run P w = _
    rw [Sem.run_bind, this]; rfl
  case slice t x lo hi mx =>
    obtain ⟨v, hv, h⟩ := withV_out h
    have h := withO_out hs h
    have h := withO_out hs h
    have h := withO_out hs h
    obtain ⟨r, hr, hk⟩ := sliceV_all hT h
    refine ⟨r, fun w hA => ?_, hk⟩
    have := hr w hA.1
    rw [← hs.ev hv] at this
    show (do pure (.value (← Instr.sliceAt t (a.eval x) (lo.map a.eval) (hi.map a.eval) (mx.map a.eval))) : Sem Next).run P w = _
    rw [Sem.run_bind, this]; rfl
  case index t x ix =>
    obtain ⟨v, hv, h⟩ := withV_out h
    obtain ⟨i, hi, h⟩ := withV_out h
    obtain ⟨r, hr, hk⟩ := indexV_all hT h
    refine ⟨r, fun w hA => ?_, hk⟩
    have := hr w hA.1
    rw [← hs.ev hv, ← hs.ev hi] at this
    show (do pure (.value (← Instr.index t (a.eval x) (a.eval ix))) : Sem Next).run P w = _
    rw [Sem.run_bind, this]; rfl
  case field t x f =>
    obtain ⟨v, hv, h⟩ := withV_out h
    obtain ⟨r, hr, hk⟩ := fieldV_all hT h
    refine ⟨r, fun w hA => ?_, hk⟩
    have := hr w hA.1
    rw [← hs.ev hv] at this
    show (do pure (.value (← Instr.field t (a.eval x) f)) : Sem Next).run P w = _
    rw [Sem.run_bind, this]; rfl
  case extract x i =>
    obtain ⟨u, hu, h1⟩ := withV_out h
    clear h
    split at h1
    · obtain ⟨v, hv, hK⟩ := h1
      refine ⟨.val v, fun w _ => ?_, hK⟩
      show (do pure (.value (← Instr.extract (a.eval x) i)) : Sem Next).run P w = _
      rw [Sem.run_bind, hs.ev hu]
      simp [Instr.extract, den_val, hv]
    · exact h1.elim
  case build t parts =>
    have h := withVs_out hs h
    rw [zip_map_eval] at h
    obtain ⟨v, hr, hK⟩ := buildK_all hT h
    refine ⟨v, fun w hA => ?_, hK⟩
    have := hr w hA.1
    rw [toArray_map] at this
    show (do pure (.value (← Instr.build t _)) : Sem Next).run P w = _
    rw [Sem.run_bind, this]; rfl
  case call c =>
    split at h
    · rename_i hc
      have h := withVs_out hs h
      have fin : ∀ {r : Value}, (∀ w, (builtin .len c.argTypes ty (c.args.map fun | .const _ => true | _ => false) (c.args.toList.map a.eval).toArray).run P w = .ok (.value r) w) →
          ∀ w, (execOp a.eval ⟨dst, .call c, ty, pos, after, guard⟩).run P w = .ok (.value r) w := by
        intro r hr w
        have := hr w
        rw [toArray_map] at this
        simp only [execOp, resolve, hc, Sem.run_bind, Sem.run_pure, Result.andThen_ok, invoke]
        exact this
      split at h
      · rename_i b n cap es hvs hd
        refine ⟨_, fun w _ => fin (fun w => ?_) w, h⟩
        rw [hvs]
        cases hat : c.argTypes[0]? with
        | none => simp [hat] at hd
        | some t0 =>
          simp [hat] at hd
          have hu := (TD.fits_slice (hT.fits hd)).1
          show (do pure (.value (← Builtin.len_ c.argTypes ty _)) : Sem Next).run P w = _
          simp [Builtin.len_, hat, run_underlying hu, goInt, den_val]
      · rename_i str hvs hd
        refine ⟨_, fun w _ => fin (fun w => ?_) w, h⟩
        rw [hvs]
        cases hat : c.argTypes[0]? with
        | none => simp [hat] at hd
        | some t0 =>
          simp [hat] at hd
          have hu := TD.fits_str (hT.fits hd)
          show (do pure (.value (← Builtin.len_ c.argTypes ty _)) : Sem Next).run P w = _
          simp [Builtin.len_, hat, run_underlying hu, goInt, den_val]
      · exact h.elim
    · exact h.elim
  case nilCheck x =>
    obtain ⟨v, hv, h⟩ := withV_out h
    unfold nilCheckV at h
    split at h <;> first | (refine ⟨_, fun w _ => ?_, h⟩; simp [execOp, hs.ev hv, SV.den]; done) | exact h.elim
  all_goals refine up ?_
  case move x =>
    obtain ⟨v, hv, h⟩ := withV_out h
    exact ⟨v, fun w => by simp [execOp, hs.ev hv], h⟩
  case assign x =>
    obtain ⟨v, hv, h⟩ := withV_out h
    exact ⟨v, fun w => by simp [execOp, hs.ev hv], h⟩
  case pick c x y =>
    obtain ⟨v, hv, h1⟩ := withV_out h
    obtain ⟨u, hu, h2⟩ := withV_out h1
    obtain ⟨z, hz, h3⟩ := withV_out h2
    clear h h1 h2
    cases v with
    | ptr => exact h3.elim
    | lit t =>
      cases t
      · exact ⟨z, fun w => by simp [execOp, hs.ev hv, hs.ev hz, SV.den, asBool], h3⟩
      · exact ⟨u, fun w => by simp [execOp, hs.ev hv, hs.ev hu, SV.den, asBool], h3⟩
    | val v =>
      cases v <;> try exact h3.elim
      rename_i t
      cases t
      · exact ⟨z, fun w => by simp [execOp, hs.ev hv, hs.ev hz, SV.den, asBool], h3.2 rfl⟩
      · exact ⟨u, fun w => by simp [execOp, hs.ev hv, hs.ev hu, SV.den, asBool], h3.1 rfl⟩
  case binOp op t x y yt =>
    obtain ⟨u, hu, h1⟩ := withV_out h
    obtain ⟨v, hv, h2⟩ := withV_out h1
    clear h h1
    have h := h2
    clear h2
    have fin : ∀ {r : Value}, (∀ w, (do eqGuard op t x y u.den v.den; Go.binOp op t u.den v.den : Sem Value).run P w = .ok r w) →
        ∀ w, (execOp a.eval ⟨dst, .binOp op t x y yt, ty, pos, after, guard⟩).run P w = .ok (.value r) w := by
      intro r hr w
      have := hr w
      rw [← hs.ev hu, ← hs.ev hv] at this
      show (do pure (.value (← (do eqGuard op t x y (a.eval x) (a.eval y); Go.binOp op t (a.eval x) (a.eval y)))) : Sem Next).run P w = _
      rw [Sem.run_bind, this]; rfl
    split at h
    · rename_i k m k' n
      cases hk : (isShift op || Nat.beq (kid k) (kid k')) with
      | false => rw [hk] at h; exact h.elim
      | true =>
      rw [hk] at h
      have h : intBin op k m n fun v => K (.val v) := h
      obtain ⟨v, hr, hK⟩ := intBin_out (P := P) (t := t) (xo := x) (yo := y) hk h
      exact ⟨.val v, fin hr, hK⟩
    · obtain ⟨v, hr, hK⟩ := strBin_out (P := P) (t := t) (xo := x) (yo := y) h
      exact ⟨.val v, fin hr, hK⟩
    · split at h
      · rename_i hd
        obtain ⟨v, hr, hK⟩ := boolBin_out (P := P) (t := t) (xo := x) (yo := y) (TD.fits_bool (hT.fits hd)) h
        exact ⟨.val v, fin hr, hK⟩
      · exact h.elim
    · split at h
      · rename_i b hn
        refine ⟨.lit b, fun w => ?_, h⟩
        have := (nilCmp_out hT (xo := x) hn w).1
        rw [← hs.ev hu, ← hs.ev hv] at this
        show (do pure (.value (← (do eqGuard .eql t x y (a.eval x) (a.eval y); Go.binOp .eql t (a.eval x) (a.eval y)))) : Sem Next).run P w = _
        rw [Sem.run_bind, this]; rfl
      · rename_i b hn
        refine ⟨.lit (!b), fun w => ?_, h⟩
        have := (nilCmp_out hT (xo := x) hn w).2
        rw [← hs.ev hu, ← hs.ev hv] at this
        show (do pure (.value (← (do eqGuard .neq t x y (a.eval x) (a.eval y); Go.binOp .neq t (a.eval x) (a.eval y)))) : Sem Next).run P w = _
        rw [Sem.run_bind, this]; rfl
      · exact h.elim
  case unOp op t x =>
    cases op <;> simp only at h <;> try exact h.elim
    · obtain ⟨v, hv, h1⟩ := withV_out h
      clear h
      split at h1
      · obtain ⟨r, rfl, h⟩ := h1
        exact ⟨.val (.int _ _), fun w => by rw [show execOp a.eval _ = (do pure (.value (← Op.unary .xor (a.eval x)))) from rfl, hs.ev hv]; rfl, h⟩
      · exact h1.elim
    · obtain ⟨v, hv, h1⟩ := withV_out h
      clear h
      split at h1
      · exact ⟨_, fun w => by rw [show execOp a.eval _ = (do pure (.value (← Op.unary .not (a.eval x)))) from rfl, hs.ev hv]; rfl, h1⟩
      · exact ⟨_, fun w => by rw [show execOp a.eval _ = (do pure (.value (← Op.unary .not (a.eval x)))) from rfl, hs.ev hv]; rfl, h1⟩
      · exact h1.elim

/-! ### Loads from memory that stands as it stood -/
theorem ld1 (hT : TabOK P T) {t : TypeId} {d : TD} (hd : Tab.find T t = some d) (ha : d.agg = false) {w w' : World} {b o p j : Nat} {cs : List Value} {v : Value} (hr : w.rangeAt b o cs) (hj : cs[j]? = some v) (hp : p = o + j) (hb : Below w.heap.size w w') :
    (loadVar t ⟨b, p, none⟩).run P w' = .ok v w' := by
  subst hp
  have hr' := rangeAt_keep (w' := w') hr (fun h => hb.block b h)
  have hc := hr' j v hj
  simp [loadVar, TD.fits_agg (hT.fits hd), ha, load, hc, Sem.run, Sem.run_bind]
theorem ldn (hT : TabOK P T) {t : TypeId} {d : TD} (hd : Tab.find T t = some d) (ha : d.agg = true) {w w' : World} {b o : Nat} {cs : List Value} (hl : cs.length = d.size) (hr : w.rangeAt b o cs) (hb : Below w.heap.size w w') :
    (loadVar t ⟨b, o, none⟩).run P w' = .ok (.agg ⟨cs⟩) w' := by
  have hr' := rangeAt_keep (w' := w') hr (fun h => hb.block b h)
  have hl2 : (loadCells ⟨b, o, none⟩ cs.length).run P w' = .ok cs.toArray w' :=
    run_loadCells_list (P := P) w' ⟨b, o, none⟩ _ (fun j v hv => by rw [Addr.add_mid]; exact hr' j v hv)
  rw [hl] at hl2
  simp only [loadVar, Sem.run_bind, Sem.run_pure, Result.andThen_ok, TD.fits_agg (hT.fits hd), ha, if_true, run_sizeOf_of (TD.fits_size (hT.fits hd)), hl2]
theorem ldk (hT : TabOK P T) {t : TypeId} {d : TD} (hd : Tab.find T t = some d) (ha : d.agg = false) {i b p : Nat} {kb : KB} {v : Value} (hi : M.find i = some kb) (hg : kb.g = b) (hv : nth kb.cs p = some (.val v)) (hA : A M H w) :
    (loadVar t ⟨b, p, none⟩).run P w = .ok v w := by
  subst hg
  have hc : w.cell? ⟨kb.g, p, none⟩ = some v := by
    rw [(hA.blk i kb hi).cell]
    rw [nth_eq] at hv
    simp [hv, SV.den]
  simp [loadVar, TD.fits_agg (hT.fits hd), ha, load, hc, Sem.run, Sem.run_bind]
theorem nth_val {l : List Value} {n : Nat} {v : Value} (h : l[n]? = some v) : nth (l.map SV.val) n = some (.val v) := by
  rw [nth_eq]; simp [h]
end
end Go.Proofs.YtllepnadffndnaaDoor
