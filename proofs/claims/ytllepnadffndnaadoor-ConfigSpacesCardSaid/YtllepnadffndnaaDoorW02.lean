/- Parts of a proof, one behind the other: OpOk, M1, M2, M3, Code, Slice, Eq, M4, M5, M6. -/
import Derived.ChangeKeysEq
import Derived.Test.YtllepnadffndnaaDoorW01
namespace Go.Proofs.YtllepnadffndnaaDoor
open Go.RowKit
theorem den_ptr (i g off : Nat) : (SV.ptr i g off).den = .pointer (some ⟨g, off, none⟩) := rfl
theorem den_val (v : Value) : (SV.val v).den = v := rfl
theorem withV_out {E : Env} {x : Operand} {K : SV → Prop} (h : withV E x K) : ∃ v, ev E x = some v ∧ K v := by
  unfold withV at h
  split at h
  · rename_i v hv; exact ⟨v, hv, h⟩
  · exact h.elim
theorem withVs_out {N : Nat} {E : Env} {a : Act} (hs : Sat N E a) : ∀ {l : List Operand} {K : List Value → Prop}, withVs E l K → K (l.map a.eval)
  | [], _, h => h
  | x :: l, K, h => by
    obtain ⟨v, hv, h⟩ := withV_out h
    have := withVs_out hs h
    rw [List.map_cons, hs.ev hv]
    exact this
theorem withO_out {N : Nat} {E : Env} {a : Act} (hs : Sat N E a) : ∀ {x : Option Operand} {K : Option Value → Prop}, withO E x K → K (x.map a.eval)
  | none, _, h => h
  | some x, K, h => by
    obtain ⟨v, hv, h⟩ := withV_out h
    rw [Option.map_some, hs.ev hv]
    exact h
def Yld (P : Program) (o : Oper) (a : Act) (w : World) (R : SV → World → Prop) : Prop :=
  (∃ sv w', (execOp a.eval o).run P w = .ok (.value sv.den) w' ∧ R sv w') ∨
  (∃ w', (execOp a.eval o).run P w = .ok .skip w' ∧ R (.val undef) w') ∨
  (∃ f args w1, (execOp a.eval o).run P w = .ok (.enter f args) w1 ∧ Calls P f args w1 fun e w' => ∃ sv : SV, e = .returned sv.den ∧ R sv w')
theorem Yld.wp {P : Program} {o : Oper} {a : Act} {w : World} {R : SV → World → Prop} {next : Act → World → Prop} {Q : Exit → Act → World → Prop} (h : Yld P o a w R)
    (hn : ∀ sv w', R sv w' → next (a.put o.dst sv.den) w') : o.wp P a w next Q := by
  unfold Oper.wp
  rcases h with ⟨sv, w', h, hR⟩ | ⟨w', h, hR⟩ | ⟨f, args, w1, h, hc⟩
  · rw [h]; exact hn _ _ hR
  · rw [h]; exact hn _ _ hR
  · rw [h]
    refine hc.mono ?_
    rintro e w' ⟨sv, rfl, hR⟩
    exact hn _ _ hR
section
variable {P : Program} {T : Tab} {E : Env} {M : Mem} {H : Hist} {K : Cont} {N : Nat} {a : Act} {w : World}
abbrev After (K : Cont) : SV → World → Prop := fun sv w' => ∃ M' H', K sv M' H' ∧ A M' H' w'
theorem Yld.val {o : Oper} {R : SV → World → Prop} {sv : SV} {w' : World} (s : Sem Value) (ho : execOp a.eval o = (do pure (.value (← s)))) (hr : s.run P w = .ok sv.den w') (h : R sv w') : Yld P o a w R :=
  .inl ⟨sv, w', by rw [ho, Sem.run_bind, hr]; rfl, h⟩
theorem Yld.unit {o : Oper} {R : SV → World → Prop} {w' : World} (s : Sem Unit) (ho : execOp a.eval o = (do s; pure .skip)) (hr : s.run P w = .ok () w') (h : R (.val undef) w') : Yld P o a w R :=
  .inr (.inl ⟨w', by rw [ho, Sem.run_bind, hr]; rfl, h⟩)
theorem pureV_out {s : Sem Value} (h : pureV P M H s K) (hA : A M H w) : ∃ v : SV, s.run P w = .ok v.den w ∧ After K v w := by
  obtain ⟨v, hr, hk⟩ := h
  exact ⟨.val v, hr w hA, M, H, hk, hA⟩
theorem memV_out {s : Sem Value} (h : memV P M H s K) (hA : A M H w) : ∃ (v : SV) (w' : World), s.run P w = .ok v.den w' ∧ After K v w' := by
  obtain ⟨sv, w', M', H', hr, hA', hk⟩ := h w hA
  exact ⟨sv, w', hr, M', H', hk, hA'⟩
theorem memU_out {s : Sem Unit} (h : memU P M H s K) (hA : A M H w) : ∃ w' : World, s.run P w = .ok () w' ∧ After K (.val undef) w' := by
  obtain ⟨w', M', H', hr, hA', hk⟩ := h w hA
  exact ⟨w', hr, M', H', hk, hA'⟩
theorem loadV_all (hT : TabOK P T) {t : TypeId} {p : SV} (h : loadV P T M H t p K) : ∃ v : SV, (∀ w, A M H w → (Instr.loadAt t p.den).run P w = .ok v.den w) ∧ K v M H := by
  unfold loadV at h
  split at h
  · exact h.elim
  rename_i d hd
  have hf := hT.fits hd
  split at h
  · rename_i i g off
    split at h
    · exact h.elim
    rename_i kb hkb
    split at h
    · rename_i hagg
      obtain ⟨v, hv, rfl, hk⟩ := h
      refine ⟨v, fun w hA => ?_, hk⟩
      have hc : w.cell? ⟨kb.g, off, none⟩ = some v.den := by
        rw [(hA.blk i kb hkb).cell]
        rw [nth_eq] at hv
        simp [hv]
      simp [Instr.loadAt, Instr.sureAddr, SV.den, loadVar, TD.fits_agg hf, hagg, load, hc, Sem.run, Sem.run_bind]
    · rename_i hagg
      obtain ⟨hle, rfl, hk⟩ := h
      rw [denK_eq, tkS_eq, dpS_eq] at hk
      have hle := Nat.le_of_ble_eq_true hle
      have hl : (((kb.cs.drop off).take d.size).map SV.den).length = d.size := by simp; omega
      refine ⟨.val (.agg (((kb.cs.drop off).take d.size).map SV.den).toArray), fun w hA => ?_, hk⟩
      have hrow : w.rangeAt kb.g off (((kb.cs.drop off).take d.size).map SV.den) := by
        intro j v hv
        rw [(hA.blk i kb hkb).cell]
        simp only [List.getElem?_map, Option.map_eq_some_iff, List.getElem?_take] at hv
        obtain ⟨u, hu, rfl⟩ := hv
        split at hu
        · rw [List.getElem?_drop] at hu
          simp [hu]
        · cases hu
      have hs := TD.fits_size hf
      have hl2 : (loadCells ⟨kb.g, off, none⟩ (((kb.cs.drop off).take d.size).map SV.den).length).run P w = .ok (((kb.cs.drop off).take d.size).map SV.den).toArray w :=
        run_loadCells_list (P := P) w ⟨kb.g, off, none⟩ _ (fun j v hv => by rw [Addr.add_mid]; exact hrow j v hv)
      rw [hl] at hl2
      simp only [Instr.loadAt, Instr.sureAddr, SV.den, loadVar, Sem.run_bind, Sem.run_pure, Result.andThen_ok, TD.fits_agg hf, hagg, if_true, run_sizeOf_of hs, hl2]
  · rename_i a
    obtain ⟨v, hr, hk⟩ := h
    refine ⟨.val v, fun w hA => ?_, hk⟩
    simp only [Instr.loadAt, Instr.sureAddr, SV.den, Sem.run_bind, Sem.run_pure, Result.andThen_ok]
    exact hr w hA
  · exact h.elim
theorem loadV_out (hT : TabOK P T) {t : TypeId} {p : SV} (h : loadV P T M H t p K) (hA : A M H w) : ∃ v : SV, (Instr.loadAt t p.den).run P w = .ok v.den w ∧ After K v w := by
  obtain ⟨v, hr, hk⟩ := loadV_all hT h
  exact ⟨v, hr w hA, M, H, hk, hA⟩
theorem setRow_of_cell {w : World} {g off : Nat} {cs : Array Value} {t : TypeId} {v : Value} (h : w.heap[g]? = some (.cells cs t (0, 0))) : w.setCell ⟨g, off, none⟩ v = w.setRow g (cs.setIfInBounds off v) :=
  setCell_eq_setRow w g off cs t (0, 0) v h
theorem store_one (hT : TabOK P T) {t : TypeId} {d : TD} {v : SV} {i off : Nat} {kb : KB} {cs : List SV} (hd : Tab.find T t = some d) (hagg : d.agg = false) (hkb : M.find i = some kb) (hs : setN kb.cs off v = some cs) (h1 : v.den.oneCell' = true) (hA : A M H w) (hk : updK M i cs fun M' => K (.val undef) M' H) :
    ∃ w' : World, (storeVar t ⟨kb.g, off, none⟩ v.den).run P w = .ok () w' ∧ After K (.val undef) w' := by
  have hf := hT.fits hd
  have hb := hA.blk i kb hkb
  obtain ⟨hlt, rfl⟩ := setN_eq hs
  have hk := updK_eq hk
  refine ⟨_, ?_, _, _, hk, hA.setRow hkb _⟩
  have hc : w.cell? ⟨kb.g, off, none⟩ = some (kb.cs[off]'hlt).den := by
    rw [hb.cell]; simp [hlt]
  have hfz := hb.frozen off
  have hsz := run_sizeOf_of (TD.fits_size hf) w
  have hd1 : d.size = 1 := by cases d <;> first | rfl | (simp [TD.agg] at hagg)
  have hcells : v.den.cells = #[v.den] := by
    cases hv : v.den <;> first | rfl | (rw [hv] at h1; cases h1)
  have hst : (store ⟨kb.g, off, none⟩ v.den).run P w = .ok () (w.setCell ⟨kb.g, off, none⟩ v.den) := by
    rw [run_store P w _ _ _ h1]
    simp [hc, hfz]
  have e0 : (⟨kb.g, off, none⟩ : Addr).add 0 = ⟨kb.g, off, none⟩ := rfl
  have hrun : (storeVar t ⟨kb.g, off, none⟩ v.den).run P w = .ok () (w.setCell ⟨kb.g, off, none⟩ v.den) := by
    simp [storeVar, Sem.run_bind, hsz, hd1, hcells, storeCells, e0, hst]
  rw [hrun, setRow_of_cell hb.heap]
  simp [List.map_set]
theorem storeV_out (hT : TabOK P T) {t : TypeId} {p v : SV} (h : storeV T M H t p v K) (hA : A M H w) : ∃ w' : World, (Instr.storeAt t p.den v.den).run P w = .ok () w' ∧ After K (.val undef) w' := by
  unfold storeV at h
  split at h
  · exact h.elim
  rename_i d hd
  have hf := hT.fits hd
  split at h
  · rename_i i g off
    split at h
    · exact h.elim
    rename_i kb hkb
    have hb := hA.blk i kb hkb
    split at h
    · rename_i hagg
      obtain ⟨cs, hs, rfl, h1, hk⟩ := h
      obtain ⟨w', hr, hK⟩ := store_one hT hd hagg hkb hs h1 hA hk
      refine ⟨w', ?_, hK⟩
      simp only [Instr.storeAt, Instr.sureAddr, den_ptr, Sem.run_bind, Sem.run_pure, Result.andThen_ok]
      exact hr
    · rename_i hagg
      split at h
      · rename_i l
        obtain ⟨hsz, hoff, rfl, h1, hk⟩ := h
        have hoff := Nat.le_of_ble_eq_true hoff
        have hk := updK_eq hk
        refine ⟨_, ?_, _, _, hk, hA.setRow hkb _⟩
        have hst := run_storeCells_at (P := P) kb.g off kb.t l 0 (kb.cs.map SV.den).toArray w hb.heap (by simp; omega) (fun x hx => List.all_eq_true.1 h1 x hx)
        have hs2 := run_sizeOf_of (TD.fits_size hf) w
        simp only [Instr.storeAt, Instr.sureAddr, SV.den, Sem.run_bind, Sem.run_pure, Result.andThen_ok, storeVar, hs2, Value.cells, List.size_toArray, hsz]
        simp only [ne_eq, not_true_eq_false, if_false]
        rw [hst]
        congr 2
        rw [spliceS_eq]
        simp [hsz]
      · exact h.elim
  · split at h
    · rename_i hagg
      obtain ⟨i, kb, hkb, rfl, cs, hs, h1, hk⟩ := h
      obtain ⟨w', hr, hK⟩ := store_one hT hd hagg hkb hs h1 hA hk
      refine ⟨w', ?_, hK⟩
      simp only [Instr.storeAt, Instr.sureAddr, den_val, Sem.run_bind, Sem.run_pure, Result.andThen_ok]
      exact hr
    · exact h.elim
  · exact h.elim
theorem nth_map {α β : Type} (f : α → β) (l : List α) (n : Nat) {x : α} (h : nth l n = some x) : (l.map f)[n]? = some (f x) := by
  rw [nth_eq] at h; simp [h]
theorem fieldAddrV_all (hT : TabOK P T) {t : TypeId} {p : SV} {f : Nat} (h : fieldAddrV T M H t p f K) : ∃ v : SV, (∀ w, (Instr.fieldAt t p.den f).run P w = .ok v.den w) ∧ K v M H := by
  unfold fieldAddrV at h
  split at h
  · rename_i fs sz hd
    have hf := hT.fits hd
    split at h
    · rename_i o ft hnth
      obtain ⟨fields, hu, h3, h4, _⟩ := TD.fits_struct hf
      obtain ⟨fd, hfd, ho⟩ : ∃ fd : Field, fields.toList[f]? = some fd ∧ fd.offset = o := by
        rw [nth_eq, ← h3, List.getElem?_map, Option.map_eq_some_iff] at hnth
        obtain ⟨fd, h5, h6⟩ := hnth
        exact ⟨fd, h5, congrArg Prod.fst h6⟩
      have hfd' : fields[f]? = some fd := by simpa using hfd
      have hpos : ∃ n, sizeB P fd.type n = true ∧ 0 < n := by
        have := List.all_eq_true.1 h4 fd (List.mem_of_getElem? hfd)
        unfold sizePos at this
        split at this
        · rename_i i hi
          exact ⟨i.size, by simp [sizeB, hi], by simpa using this⟩
        · cases this
      obtain ⟨n, hn, hn0⟩ := hpos
      have key : ∀ (w : World) (b off : Nat), (Instr.fieldAt t (.pointer (some ⟨b, off, none⟩)) f).run P w = .ok (.pointer (some ⟨b, off + o, none⟩)) w := by
        intro w b off
        have hs := run_sizeOf_of hn w
        have hn1 : n ≠ 0 := by omega
        simp only [Instr.fieldAt, Instr.sureAddr, fieldPlace, Sem.run_bind, run_underlying hu, Result.andThen_ok, hfd', Sem.run_pure, hs, hn1, if_false, ho, Addr.add_mid]
      split at h
      · rename_i i g off
        exact ⟨.ptr i g (off + o), fun w => by rw [den_ptr, key]; rfl, h⟩
      · rename_i b off
        exact ⟨_, fun w => by rw [den_val, key]; rfl, h⟩
      · exact h.elim
    · exact h.elim
  · exact h.elim
theorem fieldAddrV_out (hT : TabOK P T) {t : TypeId} {p : SV} {f : Nat} (h : fieldAddrV T M H t p f K) (hA : A M H w) : ∃ v : SV, (Instr.fieldAt t p.den f).run P w = .ok v.den w ∧ After K v w := by
  obtain ⟨v, hr, hk⟩ := fieldAddrV_all hT h
  exact ⟨v, hr w, M, H, hk, hA⟩
theorem indexAddrV_all (hT : TabOK P T) {t : TypeId} {x ix : SV} (h : indexAddrV T M H t x ix K) : ∃ v : SV, (∀ w, (Instr.indexAt t x.den ix.den).run P w = .ok v.den w) ∧ K v M H := by
  unfold indexAddrV at h
  split at h
  · rename_i e es hd
    have hf := hT.fits hd
    obtain ⟨hu, hs⟩ := TD.fits_slice hf
    split at h
    · rename_i A' len cap k0 n
      obtain ⟨b, o, k, rfl, rfl, hk, hK⟩ := h
      refine ⟨_, fun w => ?_, hK⟩
      have hi : (0 : Int) ≤ (k : Int) ∧ (k : Int) < (len : Int) := ⟨by omega, by omega⟩
      simp only [den_val, Instr.indexAt, asIntOf, Sem.run_bind, Sem.run_pure, Result.andThen_ok, run_underlying hu, run_sizeOf_of hs, hi, and_self, if_true, Int.toNat_natCast, Addr.add_mid]
    · exact h.elim
  · rename_i len e es hd
    have hf := hT.fits hd
    obtain ⟨hu, hs⟩ := TD.fits_arr hf
    have key : ∀ (w : World) (b o k : Nat) (k0 : IntKind), k < len → (Instr.indexAt t (.pointer (some ⟨b, o, none⟩)) (.int k0 (k : Int))).run P w = .ok (.pointer (some ⟨b, o + k * es, none⟩)) w := by
      intro w b o k k0 hk
      have hi : (0 : Int) ≤ (k : Int) ∧ (k : Int) < (len : Int) := ⟨by omega, by omega⟩
      simp only [Instr.indexAt, Instr.sureAddr, asIntOf, Sem.run_bind, Sem.run_pure, Result.andThen_ok, run_underlying hu, run_sizeOf_of hs, hi, and_self, if_true, Int.toNat_natCast, Addr.add_mid]
    split at h
    · obtain ⟨k, rfl, hk, hK⟩ := h
      exact ⟨_, fun w => by rw [den_ptr, den_val, key w _ _ _ _ hk]; rfl, hK⟩
    · obtain ⟨k, rfl, hk, hK⟩ := h
      exact ⟨_, fun w => by rw [den_val, den_val, key w _ _ _ _ hk]; rfl, hK⟩
    · exact h.elim
  · exact h.elim
theorem indexAddrV_out (hT : TabOK P T) {t : TypeId} {x ix : SV} (h : indexAddrV T M H t x ix K) (hA : A M H w) : ∃ v : SV, (Instr.indexAt t x.den ix.den).run P w = .ok v.den w ∧ After K v w := by
  obtain ⟨v, hr, hk⟩ := indexAddrV_all hT h
  exact ⟨v, hr w, M, H, hk, hA⟩
theorem intBin_out {op : BinOp} {k k' : IntKind} {m n : Int} {t : TypeId} {xo yo : Operand} {K' : Value → Prop} (hk : (isShift op || Nat.beq (kid k) (kid k')) = true) (h : intBin op k m n K') :
    ∃ v : Value, (∀ w, (do eqGuard op t xo yo (.int k m) (.int k' n); binOp op t (.int k m) (.int k' n) : Sem Value).run P w = .ok v w) ∧ K' v := by
  have hg : ∀ w, (eqGuard op t xo yo (.int k m) (.int k' n)).run P w = .ok () w := by
    intro w; cases op <;> rfl
  cases op <;> simp only [isShift, Bool.false_or, Bool.true_or] at hk <;> first | (have hk := kid_inj hk; subst hk) | skip
  all_goals simp only [intBin] at h
  case quo => obtain ⟨h0, r, rfl, h⟩ := h; exact ⟨_, fun w => by simp [hg, binOp, Op.intDiv, h0], h⟩
  case rem => obtain ⟨h0, r, rfl, h⟩ := h; exact ⟨_, fun w => by simp [hg, binOp, Op.intDiv, h0], h⟩
  case shl => obtain ⟨h0, r, rfl, h⟩ := h; exact ⟨_, fun w => by simp [hg, binOp, Op.shift, show ¬ n < 0 by omega], h⟩
  case shr => obtain ⟨h0, r, rfl, h⟩ := h; exact ⟨_, fun w => by simp [hg, binOp, Op.shift, show ¬ n < 0 by omega], h⟩
  all_goals first
    | (obtain ⟨r, rfl, h⟩ := h; exact ⟨_, fun w => by simp [hg, binOp, Op.intArith, Op.intBits], h⟩)
    | exact ⟨_, fun w => by simp [hg, binOp, Op.intCmp], h⟩
theorem strBin_out {op : BinOp} {x y : ByteArray} {t : TypeId} {xo yo : Operand} {K' : Value → Prop} (h : strBin op x y K') :
    ∃ v : Value, (∀ w, (do eqGuard op t xo yo (.string x) (.string y); binOp op t (.string x) (.string y) : Sem Value).run P w = .ok v w) ∧ K' v := by
  have hg : ∀ w, (eqGuard op t xo yo (.string x) (.string y)).run P w = .ok () w := by
    intro w; cases op <;> rfl
  cases op <;> simp only [strBin] at h
  case add =>
    obtain ⟨h0, h⟩ := h
    have hle : ¬ ((x.size + y.size : Nat) : Int) > IntKind.i64.max := by
      have : IntKind.i64.max = 9223372036854775807 := by decide
      omega
    exact ⟨_, fun w => by simp [hg, binOp, Op.stringOp] at hle ⊢; omega, h⟩
  all_goals first
    | exact ⟨_, fun w => by simp [hg, binOp, Op.stringOp], h⟩
    | exact h.elim
theorem boolBin_out {op : BinOp} {x y : Bool} {t : TypeId} {xo yo : Operand} {K' : Value → Prop} (ht : P.underlying t = some .bool) (h : boolBin op x y K') :
    ∃ v : Value, (∀ w, (do eqGuard op t xo yo (.bool x) (.bool y); binOp op t (.bool x) (.bool y) : Sem Value).run P w = .ok v w) ∧ K' v := by
  have hg : ∀ w, (eqGuard op t xo yo (.bool x) (.bool y)).run P w = .ok () w := by
    intro w; cases op <;> rfl
  cases op <;> simp only [boolBin] at h <;> first
    | exact ⟨_, fun w => by simp [hg, binOp, run_equal_bool w t x y ht, bne], h⟩
    | exact h.elim
theorem eq_of {t : TypeId} {xo yo : Operand} {u v : Value} {b : Bool} (h : ∀ d, (Op.equalIn (d + 1) t u v).run P w = .ok b w) (hg : ∀ op, (eqGuard op t xo yo u v).run P w = .ok () w)
    (h1 : binOp .eql t u v = (do pure (.bool (← Op.equal t u v)))) (h2 : binOp .neq t u v = (do pure (.bool (!(← Op.equal t u v))))) :
    (do eqGuard .eql t xo yo u v; binOp .eql t u v : Sem Value).run P w = .ok (.bool b) w ∧ (do eqGuard .neq t xo yo u v; binOp .neq t u v : Sem Value).run P w = .ok (.bool (!b)) w := by
  have he : (Op.equal t u v).run P w = .ok b w := h 9999
  constructor
  · rw [Sem.run_bind, hg, Result.andThen_ok, h1, Sem.run_bind, he]; rfl
  · rw [Sem.run_bind, hg, Result.andThen_ok, h2, Sem.run_bind, he]; rfl
theorem nilCmp_out (hT : TabOK P T) {t : TypeId} {xo yo : Operand} {x y : SV} {b : Bool} (h : nilCmp T t yo x y = some b) (w : World) :
    (do eqGuard .eql t xo yo x.den y.den; binOp .eql t x.den y.den : Sem Value).run P w = .ok (.bool b) w ∧ (do eqGuard .neq t xo yo x.den y.den; binOp .neq t x.den y.den : Sem Value).run P w = .ok (.bool (!b)) w := by
  unfold nilCmp at h
  split at h
  · rename_i hd
    have hu : (∃ e, P.underlying t = some (.pointer e)) ∨ P.underlying t = some .unsafePointer := by
      have hf := hT.fits hd
      unfold TD.fitsB at hf
      simp only [Bool.and_eq_true] at hf
      obtain ⟨_, hf⟩ := hf
      cases hu : P.underlying t with
      | none => simp [hu] at hf
      | some d => cases d <;> simp_all
    rcases hu with ⟨e, hu⟩ | hu
    · split at h <;> first | (cases h; done) | (injection h with h; subst h; exact eq_of (fun d => by simp [Op.equalIn, run_underlying hu, SV.den]) (fun op => by cases op <;> simp [eqGuard, SV.den]) rfl rfl)
    · split at h <;> first | (cases h; done) | (injection h with h; subst h; exact eq_of (fun d => by simp [Op.equalIn, run_underlying hu, SV.den, samePointer]) (fun op => by cases op <;> simp [eqGuard, SV.den]) rfl rfl)
  · rename_i hd
    have hu : ∃ e, P.underlying t = some (.interface e) := by
      have hf := hT.fits hd
      unfold TD.fitsB at hf
      simp only [Bool.and_eq_true] at hf
      obtain ⟨_, hf⟩ := hf
      cases hu : P.underlying t with
      | none => simp [hu] at hf
      | some d => cases d <;> simp_all
    obtain ⟨e, hu⟩ := hu
    split at h
    · split at h <;> first | (cases h; done) | (injection h with h; subst h; exact eq_of (fun d => by simp [Op.equalIn, run_underlying hu, SV.den]) (fun op => by cases op <;> simp [eqGuard, SV.den]) rfl rfl)
    · cases h
  · rename_i hd
    have hu := (TD.fits_slice (hT.fits hd)).1
    split at h <;> first | (cases h; done) | (injection h with h; subst h; exact eq_of (fun d => by simp [Op.equalIn, run_underlying hu, SV.den]) (fun op => by cases op <;> simp [eqGuard, SV.den]) rfl rfl)
  · cases h
theorem binV_out (hT : TabOK P T) {op : BinOp} {t : TypeId} {xo yo : Operand} {x y : SV} (h : binV P T M H op t xo yo x y K) (hA : A M H w) :
    ∃ v : SV, (do eqGuard op t xo yo x.den y.den; binOp op t x.den y.den : Sem Value).run P w = .ok v.den w ∧ After K v w := by
  unfold binV at h
  split at h
  · rename_i k m k' n
    cases hk : (isShift op || Nat.beq (kid k) (kid k')) with
    | false => rw [hk] at h; exact h.elim
    | true =>
    rw [hk] at h
    have h : intBin op k m n fun v => K (.val v) M H := h
    obtain ⟨v, hr, hK⟩ := intBin_out (P := P) (t := t) (xo := xo) (yo := yo) hk h
    exact ⟨.val v, hr w, M, H, hK, hA⟩
  · obtain ⟨v, hr, hK⟩ := strBin_out (P := P) (t := t) (xo := xo) (yo := yo) h
    exact ⟨.val v, hr w, M, H, hK, hA⟩
  · split at h
    · rename_i hd
      obtain ⟨v, hr, hK⟩ := boolBin_out (P := P) (t := t) (xo := xo) (yo := yo) (TD.fits_bool (hT.fits hd)) h
      exact ⟨.val v, hr w, M, H, hK, hA⟩
    · exact h.elim
  · split at h
    · rename_i b hn
      exact ⟨.lit b, (nilCmp_out hT hn w).1, M, H, h, hA⟩
    · rename_i b hn
      exact ⟨.lit (!b), (nilCmp_out hT hn w).2, M, H, h, hA⟩
    · exact pureV_out h hA
theorem unV_out {op : UnOp} {x : SV} (h : unV P M H op x K) (hA : A M H w) : ∃ v : SV, (Op.unary op x.den).run P w = .ok v.den w ∧ After K v w := by
  unfold unV at h
  split at h
  · exact ⟨_, rfl, M, H, h, hA⟩
  · exact ⟨_, rfl, M, H, h, hA⟩
  · obtain ⟨r, rfl, h⟩ := h
    exact ⟨.val (.int _ _), rfl, M, H, h, hA⟩
  · obtain ⟨r, rfl, h⟩ := h
    exact ⟨_, rfl, M, H, h, hA⟩
  · exact pureV_out h hA
theorem convV_out (hT : TabOK P T) {src dst : TypeId} {x : SV} (h : convV P T M H src dst x K) (hA : A M H w) : ∃ (v : SV) (w' : World), (convert src dst x.den).run P w = .ok v.den w' ∧ After K v w' := by
  unfold convV at h
  split at h
  · rename_i d0 k k' n hd0 hd
    obtain ⟨r, rfl, h⟩ := h
    obtain ⟨ds, hds⟩ := TD.fits_some (hT.fits hd0)
    refine ⟨.val (.int k (k.wrap n)), w, ?_, M, H, h, hA⟩
    simp [convert, run_underlying hds, run_underlying (TD.fits_int (hT.fits hd)), Conv.intToInt, den_val]
  · exact memV_out h hA
  · obtain ⟨v, hr, h⟩ := pureV_out h hA
    exact ⟨v, w, hr, h⟩
theorem builtinV_out (hT : TabOK P T) {b : Builtin} {ats : Array TypeId} {ty : TypeId} {cs : Array Bool} {args : List Value} (h : builtinV P T M H b ats ty args K) (hA : A M H w) :
    ∃ (v : SV) (w' : World), (builtin b ats ty cs args.toArray).run P w = .ok (.value v.den) w' ∧ After K v w' := by
  have lift : ∀ {s : Sem Value} {v : SV} {w' : World}, s.run P w = .ok v.den w' → (do pure (.value (← s)) : Sem Next).run P w = .ok (.value v.den) w' := by
    intro s v w' hs
    rw [Sem.run_bind, hs]; rfl
  unfold builtinV at h
  split at h
  · split at h
    · rename_i e es he
      refine ⟨_, w, lift (s := Builtin.len_ ats ty _) ?_, M, H, h, hA⟩
      cases hat : ats[0]? with
      | none => simp [hat] at he
      | some t0 =>
        simp [hat] at he
        have hu := (TD.fits_slice (hT.fits he)).1
        simp [Builtin.len_, hat, run_underlying hu, goInt, den_val]
    · exact h.elim
  · split at h
    · rename_i he
      refine ⟨_, w, lift (s := Builtin.len_ ats ty _) ?_, M, H, h, hA⟩
      cases hat : ats[0]? with
      | none => simp [hat] at he
      | some t0 =>
        simp [hat] at he
        have hu := TD.fits_str (hT.fits he)
        simp [Builtin.len_, hat, run_underlying hu, goInt, den_val]
    · exact h.elim
  · obtain ⟨v, hr, hK⟩ := pureV_out h hA; exact ⟨v, w, lift hr, hK⟩
  · obtain ⟨v, w', hr, hK⟩ := memV_out h hA; exact ⟨v, w', lift hr, hK⟩
  · obtain ⟨v, w', hr, hK⟩ := memV_out h hA; exact ⟨v, w', lift hr, hK⟩
  · obtain ⟨v, w', hr, hK⟩ := memV_out h hA; exact ⟨v, w', lift hr, hK⟩
  · obtain ⟨r, rfl, h⟩ := h
    exact ⟨_, w, lift (run_min_int2 ..), M, H, h, hA⟩
  · obtain ⟨r, rfl, h⟩ := h
    exact ⟨_, w, lift (run_max_int2 ..), M, H, h, hA⟩
  · obtain ⟨v, hr, hK⟩ := pureV_out h hA; exact ⟨v, w, lift hr, hK⟩
  · obtain ⟨v, hr, hK⟩ := pureV_out h hA; exact ⟨v, w, lift hr, hK⟩
  · obtain ⟨v, hr, hK⟩ := pureV_out h hA; exact ⟨v, w, lift hr, hK⟩
  · exact h.elim
theorem boundV_out {lo : Option Value} {d : Nat} {K : Nat → Prop} (h : boundV lo d K) : ∃ k, (lo = none ∧ k = d ∨ ∃ j, lo = some (.int j k)) ∧ K k := by
  unfold boundV at h
  split at h
  · exact ⟨_, .inl ⟨rfl, rfl⟩, h⟩
  · obtain ⟨k, rfl, hk⟩ := h
    exact ⟨k, .inr ⟨_, rfl⟩, hk⟩
  · exact h.elim
theorem run_sliceBound {j : IntKind} {n y : Nat} {code : BoundsCode} (h : n ≤ y) (w : World) : (Instr.sliceBound (.int j (n : Int)) y code).run P w = .ok n w := by
  have h0 : (0 : Int) ≤ (n : Int) ∧ (n : Int) ≤ (y : Int) := ⟨by omega, by omega⟩
  simp only [Instr.sliceBound, asIntOf, Sem.run_bind, Sem.run_pure, Result.andThen_ok, h0, and_self, if_true, Int.toNat_natCast]
theorem run_sliceBounds {b : Bool} {len cap l h : Nat} {lo hi : Option Value} (hlo : lo = none ∧ l = 0 ∨ ∃ j, lo = some (.int j l)) (hhi : hi = none ∧ h = len ∨ ∃ j, hi = some (.int j h)) (h1 : l ≤ h) (h2 : h ≤ cap) (w : World) :
    (Instr.sliceBounds b len cap lo hi none).run P w = .ok (l, h, cap) w := by
  rcases hhi with ⟨rfl, rfl⟩ | ⟨j, rfl⟩ <;> rcases hlo with ⟨rfl, rfl⟩ | ⟨j', rfl⟩ <;>
    simp [Instr.sliceBounds, run_sliceBound h1, run_sliceBound h2]
theorem sliceV_all (hT : TabOK P T) {t : TypeId} {x : SV} {lo hi mx : Option Value} (h : sliceV P T M H t x lo hi mx K) : ∃ v : SV, (∀ w, A M H w → (Instr.sliceAt t x.den lo hi mx).run P w = .ok v.den w) ∧ K v M H := by
  unfold sliceV at h
  split at h
  · rename_i s
    split at h
    · rename_i hd
      have hu := TD.fits_str (hT.fits hd)
      obtain ⟨e, he, h⟩ := boundV_out h
      obtain ⟨l, hl, h1, h2, s', rfl, hk⟩ := boundV_out h
      refine ⟨_, fun w _ => ?_, hk⟩
      simp only [den_val]
      rw [run_sliceAt_string _ _ _ _ _ _ hu]
      simp [Instr.slice, run_underlying hu, run_sliceBounds hl he h1 h2]
    · exact h.elim
  · rename_i A0 len cap
    split at h
    · rename_i e0 es hd
      obtain ⟨hu, hs⟩ := TD.fits_slice (hT.fits hd)
      obtain ⟨e, he, h⟩ := boundV_out h
      obtain ⟨l, hl, h1, h2, v, rfl, hk⟩ := boundV_out h
      refine ⟨_, fun w _ => ?_, hk⟩
      simp only [den_val]
      have hu' : P.underlying t = some (.slice (P.elem t)) := by rw [hu]; simp [Program.elem, hu]
      rw [run_sliceAt_slice _ _ _ _ _ _ hu']
      simp [Instr.slice, run_underlying hu, run_sliceBounds hl he h1 h2, run_sizeOf_of hs]
    · exact h.elim
  · obtain ⟨v, hr, hk⟩ := h
    exact ⟨.val v, hr, hk⟩
theorem indexV_all (hT : TabOK P T) {t : TypeId} {x ix : SV} (h : indexV P T M H t x ix K) : ∃ v : SV, (∀ w, A M H w → (Instr.index t x.den ix.den).run P w = .ok v.den w) ∧ K v M H := by
  unfold indexV at h
  split at h
  · rename_i s k0 n hd
    have hu := TD.fits_str (hT.fits hd)
    obtain ⟨k, c, rfl, hc, hk⟩ := h
    refine ⟨_, fun w _ => ?_, hk⟩
    have hc' : s[k]? = some c := by
      have h1 : k < s.data.toList.length := (List.getElem?_eq_some_iff.1 hc).1
      have h2 : k < s.size := by simpa using h1
      rw [getElem?_pos s k h2]
      have h3 := (List.getElem?_eq_some_iff.1 hc).2
      simp only [Array.getElem_toList] at h3
      rw [← h3]; rfl
    simp [Instr.index, asIntOf, run_underlying hu, den_val, hc']
  · rename_i len e es l k0 n hd
    obtain ⟨hu, hs⟩ := TD.fits_arr (hT.fits hd)
    obtain ⟨k, rfl, hlt, h⟩ := h
    split at h
    · rename_i d hde
      have hi : (0 : Int) ≤ (k : Int) ∧ (k : Int) < (len : Int) := ⟨by omega, by omega⟩
      have hsd := TD.fits_size (hT.fits hde)
      have hes : d.size = es := by
        unfold sizeB at hs hsd
        split at hs
        · rename_i i hi'; rw [hi'] at hsd; simp at hs hsd; omega
        · cases hs
      split at h
      · rename_i ha
        obtain ⟨l', rfl, hk⟩ := h
        refine ⟨_, fun w _ => ?_, hk⟩
        simp only [Instr.index, den_val, asIntOf, Sem.run_bind, Sem.run_pure, Result.andThen_ok, run_underlying hu, hi, and_self, if_true, run_sizeOf_of hs, Int.toNat_natCast, part, TD.fits_agg (hT.fits hde), ha]
        simp [List.extract]
      · rename_i ha
        obtain ⟨v, hv, hk⟩ := h
        refine ⟨_, fun w _ => ?_, hk⟩
        simp only [Instr.index, den_val, asIntOf, Sem.run_bind, Sem.run_pure, Result.andThen_ok, run_underlying hu, hi, and_self, if_true, run_sizeOf_of hs, Int.toNat_natCast, part, TD.fits_agg (hT.fits hde), ha]
        simp [hv]
    · exact h.elim
  · obtain ⟨v, hr, hk⟩ := h
    exact ⟨.val v, hr, hk⟩
theorem fieldV_all (hT : TabOK P T) {t : TypeId} {x : SV} {f : Nat} (h : fieldV P T M H t x f K) : ∃ v : SV, (∀ w, A M H w → (Instr.field t x.den f).run P w = .ok v.den w) ∧ K v M H := by
  unfold fieldV at h
  split at h
  · rename_i fs sz l hd
    obtain ⟨fields, hu, hfs, _, _⟩ := TD.fits_struct (hT.fits hd)
    split at h
    · rename_i o ft hn
      rw [nth_eq] at hn
      rw [← hfs] at hn
      simp only [List.getElem?_map, Option.map_eq_some_iff] at hn
      obtain ⟨fl, hfl, he⟩ := hn
      injection he with he1 he2
      subst he1; subst he2
      have hfl' : fields[f]? = some fl := by simpa using hfl
      split at h
      · rename_i d hde
        have hsd := TD.fits_size (hT.fits hde)
        split at h
        · rename_i ha
          obtain ⟨l', rfl, hk⟩ := h
          refine ⟨_, fun w _ => ?_, hk⟩
          simp only [Instr.field, den_val, Sem.run_bind, Result.andThen_ok, run_underlying hu, hfl', part, TD.fits_agg (hT.fits hde), ha]
          simp [asAgg, run_sizeOf_of hsd, List.extract]
        · rename_i ha
          obtain ⟨v, hv, hk⟩ := h
          rw [nth_eq] at hv
          refine ⟨_, fun w _ => ?_, hk⟩
          simp only [Instr.field, den_val, Sem.run_bind, Result.andThen_ok, run_underlying hu, hfl', part, TD.fits_agg (hT.fits hde), ha]
          simp [asAgg, hv]
      · exact h.elim
    · exact h.elim
  · obtain ⟨v, hr, hk⟩ := h
    exact ⟨.val v, hr, hk⟩
theorem all_out {s : Sem Value} (h : ∃ v : SV, (∀ w, A M H w → s.run P w = .ok v.den w) ∧ K v M H) (hA : A M H w) : ∃ v : SV, s.run P w = .ok v.den w ∧ After K v w := by
  obtain ⟨v, hr, hk⟩ := h
  exact ⟨v, hr w hA, M, H, hk, hA⟩
theorem toArray_map {α β : Type} (f : α → β) (l : Array α) : (l.toList.map f).toArray = l.map f := by rw [← List.map_toArray, Array.toArray_toList]
theorem nilCheckV_out {x : SV} (h : nilCheckV M H x K) (hA : A M H w) {o : Oper} {y : Operand} (ho : o.op = .nilCheck y) (hy : a.eval y = x.den) : Yld P o a w (After K) := by
  unfold nilCheckV at h
  split at h <;> first | (refine .inl ⟨_, w, ?_, M, H, h, hA⟩; simp [execOp, ho, hy, SV.den]; done) | exact h.elim
theorem callsV_out {ents : List FuncId} (hents : ∀ f ∈ ents, ∀ args w, (callFunc f args).run P w = .ok (.enter f args) w) {f : SV} {args : List Value} (h : callsV P M H ents f args K) (hA : A M H w)
    {o : Oper} {c : Call} {y : Operand} (ho : o.op = .call c) (hc : c.callee = .value y) (hy : a.eval y = f.den) (hargs : args = c.args.toList.map a.eval) : Yld P o a w (After K) := by
  unfold callsV at h
  split at h
  · rename_i f first captured
    have hres : (execOp a.eval o).run P w = (callFunc f ((first ++ args.toArray) ++ captured)).run P w := by
      have hmap : args.toArray = c.args.map a.eval := by rw [hargs, toArray_map]
      rw [hmap]
      simp [execOp, ho, resolve, hc, hy, SV.den, Deferred.ofValue, invoke]
    split at h
    · rename_i he
      have he' : f ∈ ents := by simpa using he
      refine .inr (.inr ⟨f, _, w, by rw [hres]; exact hents f he' _ w, (h w hA).mono ?_⟩)
      rintro e w' ⟨sv, M', H', rfl, hA', hK⟩
      exact ⟨sv, rfl, M', H', hK, hA'⟩
    · obtain ⟨sv, w', M', H', hr, hA', hK⟩ := h w hA
      exact .inl ⟨sv, w', by rw [hres]; exact hr, M', H', hK, hA'⟩
  · exact h.elim
theorem flat_app (l r : List Value) : flat.app l r = l ++ r := by
  induction l with
  | nil => rfl
  | cons x l ih => simp [flat.app, ih]
theorem flat_eq (ls : List (List Value)) : flat ls = ls.flatten := by
  induction ls with
  | nil => rfl
  | cons l ls ih => simp [flat, flat_app, ih]
theorem cutBy_tk (n : Nat) (l : List Value) : cutBy.tk n l = l.take n := by
  induction n generalizing l with
  | zero => cases l <;> rfl
  | succ n ih => cases l <;> simp [cutBy.tk, ih]
theorem cutBy_dp (n : Nat) (l : List Value) : cutBy.dp n l = l.drop n := by
  induction n generalizing l with
  | zero => cases l <;> rfl
  | succ n ih => cases l <;> simp [cutBy.dp, ih]
theorem cutBy_flat : ∀ (ns : List Nat) (z : List Value), z.length = ns.sum → (cutBy ns z).flatten = z ∧ (cutBy ns z).map List.length = ns
  | [], z, h => by simp at h; subst h; simp [cutBy]
  | n :: ns, z, h => by
    simp at h
    obtain ⟨h1, h2⟩ := cutBy_flat ns (z.drop n) (by simp; omega)
    simp only [cutBy, cutBy_tk, cutBy_dp, List.flatten_cons, h1, List.take_append_drop, List.map_cons, h2, List.length_take, true_and]
    congr 1
    omega
theorem splice_flat : ∀ (segs : List (List Value)) (i : Nat) (c : List Value) (s : List Value), segs[i]? = some s → c.length = s.length →
    (segs.set i c).flatten = segs.flatten.take ((segs.map List.length).take i).sum ++ c ++ segs.flatten.drop (((segs.map List.length).take i).sum + c.length)
  | [], i, c, s, h, _ => by simp at h
  | l :: ls, 0, c, s, h, hc => by
    simp at h; subst h
    simp [hc]
  | l :: ls, i + 1, c, s, h, hc => by
    simp at h
    have ih := splice_flat ls i c s h hc
    simp only [List.set_cons_succ, List.flatten_cons, ih, List.map_cons, List.take_succ_cons, List.sum_cons, List.take_append, List.drop_append]
    have e1 : l.take (l.length + ((ls.map List.length).take i).sum) = l := List.take_of_length_le (by omega)
    have e2 : l.drop (l.length + ((ls.map List.length).take i).sum + c.length) = [] := List.drop_of_length_le (by omega)
    rw [e1, e2]
    simp [show l.length + ((ls.map List.length).take i).sum - l.length = ((ls.map List.length).take i).sum by omega, show l.length + ((ls.map List.length).take i).sum + c.length - l.length = ((ls.map List.length).take i).sum + c.length by omega]
theorem fold_splice (off : Nat) : ∀ (vs : List Value) (j : Nat) (cs : Array Value), off + j + vs.length ≤ cs.size →
    (vs.zipIdx j).foldl (fun cs (c, j) => cs.setIfInBounds (off + j) c) cs = (cs.toList.take (off + j) ++ vs ++ cs.toList.drop (off + j + vs.length)).toArray
  | [], j, cs, _ => by simp
  | v :: vs, j, cs, h => by
    simp only [List.zipIdx_cons, List.foldl_cons]
    rw [fold_splice off vs (j + 1) _ (by simp at h ⊢; omega)]
    simp at h
    congr 1
    apply List.ext_getElem?
    intro k
    simp only [Array.toList_setIfInBounds, List.getElem?_append, List.length_take, List.length_set, Array.length_toList, List.getElem?_take, List.getElem?_set, List.getElem?_drop, List.length_append, List.length_cons]
    by_cases h1 : k < off + j
    · simp [h1, show k < off + (j + 1) by omega, show min (off + (j + 1)) cs.size = off + (j + 1) by omega, show min (off + j) cs.size = off + j by omega, show ¬ off + j = k by omega, show k < off + (j + 1) + vs.length by omega, show k < off + j + (vs.length + 1) by omega]
    · by_cases h2 : k = off + j
      · subst h2
        simp [show min (off + (j + 1)) cs.size = off + (j + 1) by omega, show min (off + j) cs.size = off + j by omega, show off + j < off + (j + 1) by omega, show off + j < cs.size by omega, show off + j < off + (j + 1) + vs.length by omega]
      · simp only [show min (off + (j + 1)) cs.size = off + (j + 1) by omega, show min (off + j) cs.size = off + j by omega, h1, if_false, show ¬ k < off + (j + 1) by omega]
        by_cases h3 : k < off + (j + 1) + vs.length
        · simp [h3, show k < off + j + (vs.length + 1) by omega, show k - (off + j) = (k - (off + (j + 1))) + 1 by omega]
        · simp [h3, show ¬ k < off + j + (vs.length + 1) by omega,
            show off + (j + 1) + vs.length + (k - (off + (j + 1) + vs.length)) = off + j + (vs.length + 1) + (k - (off + j + (vs.length + 1))) by omega]
          intro h'
          omega
theorem set_same {α : Type} {l : List α} {i : Nat} {x : α} (h : l[i]? = some x) : l.set i x = l := by
  apply List.ext_getElem?
  intro k
  rw [List.getElem?_set]
  by_cases e : i = k
  · subst e
    obtain ⟨h1, h2⟩ := List.getElem?_eq_some_iff.1 h
    simp [h1, h2]
  · simp [e]
theorem cellsL_eq (v : Value) : v.cells.toList = cellsL v := by
  cases v <;> rfl
theorem fill_segs {place : Nat → Option (Nat × Nat)} {ns : List Nat} (hp : ∀ i n, ns[i]? = some n → place i = some ((ns.take i).sum, n)) : ∀ (parts : List (Nat × Value)) (segs segs' : List (List Value)),
    segs.map List.length = ns → putSegs segs parts = some segs' → partsFit ns parts → Instr.fill place segs.flatten.toArray parts = some segs'.flatten.toArray
  | [], segs, segs', _, h, _ => by simp [putSegs] at h; subst h; simp [Instr.fill]
  | (i, v) :: parts, segs, segs', hns, h, hf => by
    simp only [putSegs] at h
    split at h
    · rename_i s1 hs1
      obtain ⟨hlt, rfl⟩ := setN_eq hs1
      obtain ⟨hn, hf⟩ := hf
      rw [nth_eq] at hn
      have hpl := hp i _ hn
      have hseg : segs[i]? = some (segs[i]'hlt) := List.getElem?_eq_getElem hlt
      have hlen : (cellsL v).length = (segs[i]'hlt).length := by
        rw [← hns, List.getElem?_map, hseg] at hn
        simpa using hn.symm
      have hsz : v.cells.size = (cellsL v).length := by rw [← cellsL_eq, Array.length_toList]
      have hsp := splice_flat segs i (cellsL v) _ hseg hlen
      have hbound : (ns.take i).sum + (cellsL v).length ≤ segs.flatten.length := by
        rw [List.length_flatten, hns]
        have h1 : ns = ns.take i ++ ns.drop i := (List.take_append_drop i ns).symm
        have h2 : ns.drop i = (cellsL v).length :: ns.drop (i + 1) := by
          have hi := (List.getElem?_eq_some_iff.1 hn)
          obtain ⟨hi1, hi2⟩ := hi
          rw [List.drop_eq_getElem_cons hi1, hi2]
        have h3 : ns.sum = (ns.take i).sum + (ns.drop i).sum := by rw [← List.sum_append, List.take_append_drop]
        rw [h3, h2, List.sum_cons]
        omega
      have ih := fill_segs hp parts (segs.set i (cellsL v)) segs' (by rw [List.map_set, hns, set_same hn]) h hf
      simp only [Instr.fill, hpl, hsz, ne_eq, not_true_eq_false, decide_false, Bool.false_or, List.size_toArray]
      rw [if_neg (by rw [List.length_flatten] at hbound; simp [List.length_flatten]; omega)]
      have hfold := fold_splice (ns.take i).sum v.cells.toList 0 segs.flatten.toArray (by rw [Array.length_toList, hsz]; simpa using hbound)
      have hz : Array.foldl (fun cs (x : Value × Nat) => cs.setIfInBounds ((ns.take i).sum + x.2) x.1) segs.flatten.toArray v.cells.zipIdx = (segs.set i (cellsL v)).flatten.toArray := by
        rw [← Array.foldl_toList, Array.toList_zipIdx]
        refine Eq.trans hfold ?_
        rw [cellsL_eq, hsp, hns]
        simp
      rw [show (Array.foldl (fun cs x => match x with | (c, j) => cs.setIfInBounds ((ns.take i).sum + j) c) segs.flatten.toArray v.cells.zipIdx) = _ from hz]
      exact ih
    · cases h
structure Seat (P : Program) (T : Tab) (ents : List FuncId) : Prop where
  tab : TabOK P T
  enters : ∀ f ∈ ents, ∀ args w, (callFunc f args).run P w = .ok (.enter f args) w
  mixed : P.follows .mixedOrders = true
theorem zip_map_eval {parts : List (Nat × Operand)} : (parts.map (·.1)).zip ((parts.map (·.2)).map a.eval) = parts.map fun x => (x.1, a.eval x.2) := by
  induction parts with
  | nil => rfl
  | cons x l ih => simp at ih ⊢; exact ih
theorem sizesOf_eq (hT : TabOK P T) : ∀ {fs : List (Nat × TypeId)} {ns : List Nat}, sizesOf T fs = some ns → fs.length = ns.length ∧ ∀ (i o t : Nat), fs[i]? = some (o, t) → ∃ n, ns[i]? = some n ∧ sizeB P t n = true
  | [], ns, h => by simp [sizesOf] at h; subst h; simp
  | (o, t) :: fs, ns, h => by
    simp only [sizesOf] at h
    split at h
    · rename_i d hd
      split at h
      · rename_i r hr
        obtain ⟨h1, h2⟩ := sizesOf_eq hT hr
        injection h with h; subst h
        refine ⟨by simp [h1], fun i o' t' hi => ?_⟩
        cases i with
        | zero => simp at hi; obtain ⟨rfl, rfl⟩ := hi; exact ⟨_, rfl, TD.fits_size (hT.fits hd)⟩
        | succ i => exact h2 i o' t' (by simpa using hi)
      · cases h
    · cases h
theorem contig_off {P : Program} : ∀ {fs : List (Nat × TypeId)} {ns : List Nat} {b : Nat}, contig P fs b = true → fs.length = ns.length → (∀ (i o t : Nat), fs[i]? = some (o, t) → ∃ n, ns[i]? = some n ∧ sizeB P t n = true) →
    ∀ (i o t : Nat), fs[i]? = some (o, t) → o = b + (ns.take i).sum
  | [], ns, b, _, _, _, i, o, t, hi => by simp at hi
  | (o0, t0) :: fs, [], b, _, hl, _, i, o, t, hi => by simp at hl
  | (o0, t0) :: fs, n0 :: ns, b, h, hl, hs, i, o, t, hi => by
    simp only [contig, Bool.and_eq_true, beq_iff_eq] at h
    obtain ⟨h1, h2⟩ := h
    cases hinfo : P.info? t0 with
    | none => simp [hinfo] at h2
    | some inf =>
      simp only [hinfo] at h2
      obtain ⟨n, hn, hsz⟩ := hs 0 o0 t0 rfl
      simp at hn; subst hn
      have hn0 : inf.size = n0 := by simpa [sizeB, hinfo] using hsz
      cases i with
      | zero => simp at hi; obtain ⟨rfl, rfl⟩ := hi; simp [h1]
      | succ i =>
        have := contig_off h2 (by simpa using hl) (fun i o t hi => by simpa using hs (i + 1) o t (by simpa using hi)) i o t (by simpa using hi)
        rw [this, hn0]; simp; omega
theorem mapM_sizes {P : Program} : ∀ {fs : List Field} {ns : List Nat}, fs.length = ns.length → (∀ (i : Nat) (f : Field), fs[i]? = some f → ∃ n, ns[i]? = some n ∧ sizeB P f.type n = true) →
    ∃ pl, fs.mapM (fun f => (P.info? f.type).map fun i => (f.offset, i.size)) = some pl ∧ pl = (fs.zip ns).map fun x => (x.1.offset, x.2)
  | [], [], _, _ => ⟨[], by simp, rfl⟩
  | [], _ :: _, h, _ => by simp at h
  | _ :: _, [], h, _ => by simp at h
  | f :: fs, n :: ns, h, hs => by
    obtain ⟨pl, h1, h2⟩ := mapM_sizes (by simpa using h) (fun i f hi => by simpa using hs (i + 1) f (by simpa using hi))
    obtain ⟨n', hn, hsz⟩ := hs 0 f rfl
    simp at hn; subst hn
    unfold sizeB at hsz
    split at hsz
    · rename_i inf hinf
      have hsz' : inf.size = n := by simpa using hsz
      exact ⟨(f.offset, n) :: pl, by simp [hinf, h1, hsz'], by simp [h2]⟩
    · cases hsz
theorem buildV_all (hT : TabOK P T) {t : TypeId} {parts : List (Nat × Value)} (h : buildV T M H t parts K) : ∃ v : SV, (∀ w, A M H w → (Instr.build t parts.toArray).run P w = .ok v.den w) ∧ K v M H := by
  unfold buildV at h
  split at h
  · rename_i z ns hz hns
    split at h
    · rename_i segs hlen hsegs
      have hlen := Nat.eq_of_beq_eq_true hlen
      obtain ⟨hfit, hK⟩ := h
      refine ⟨.val (.agg (flat segs).toArray), fun w _ => ?_, hK⟩
      obtain ⟨zv, hzv, hzc⟩ := hT.zero hz w
      have hzi : ∃ it, P.info? t = some it ∧ it.zero = some zv := by
        cases hi : P.info? t with
        | none => simp [zeroValue, typeInfo, hi, stuck] at hzv
        | some it =>
          cases hv : it.zero with
          | none => simp [zeroValue, typeInfo, hi, hv, unsupported] at hzv
          | some v => simp [zeroValue, typeInfo, hi, hv] at hzv; subst hzv; exact ⟨it, rfl, hv⟩
      obtain ⟨it, hit, hitz⟩ := hzi
      have hzcells : zv.cells = (z.map SV.den).toArray := by rw [← hzc]
      have core : ∀ (place : Nat → Option (Nat × Nat)), (∀ i n, ns[i]? = some n → place i = some ((ns.take i).sum, n)) →
          Instr.fill place (z.map SV.den).toArray parts = some (flat segs).toArray := by
        intro place hp
        obtain ⟨hc1, hc2⟩ := cutBy_flat ns (z.map SV.den) (by simpa using hlen)
        have := fill_segs hp parts _ segs hc2 hsegs hfit
        rw [hc1] at this
        rw [this, flat_eq]
      refine run_build w t parts.toArray _ ?_
      unfold cutsOf at hns
      split at hns
      · rename_i fs sz hd
        obtain ⟨fields, hu, h3, _, h5⟩ := TD.fits_struct (hT.fits hd)
        obtain ⟨h6, h7⟩ := sizesOf_eq hT hns
        have hoff := contig_off h5 h6 h7
        have hfield : ∀ (i : Nat) (f : Field), fields.toList[i]? = some f → fs[i]? = some (f.offset, f.type) := by
          intro i f hi; rw [← h3, List.getElem?_map, hi]; rfl
        obtain ⟨pl, h8, h9⟩ := mapM_sizes (P := P) (fs := fields.toList) (ns := ns) (by rw [← h6, ← h3, List.length_map]) (fun i f hi => h7 i _ _ (hfield i f hi))
        simp only [Program.built, hit, hu, hitz, h8, hzcells]
        refine core _ fun i n hn => ?_
        have hi : i < fields.toList.length := by
          have := (List.getElem?_eq_some_iff.1 hn).1
          rw [← h6, ← h3, List.length_map] at this
          exact this
        have hf := List.getElem?_eq_getElem hi
        have ho := hoff i _ _ (hfield i _ hf)
        subst h9
        have hz2 : (fields.toList.zip ns)[i]? = some (fields.toList[i], n) := List.getElem?_zip_eq_some.2 ⟨hf, hn⟩
        simp only [List.getElem?_toArray, List.getElem?_map, hz2, Option.map_some]
        rw [ho]; simp
      · rename_i n e es hd
        obtain ⟨hu, hs⟩ := TD.fits_arr (hT.fits hd)
        injection hns with hns
        subst hns
        unfold sizeB at hs
        split at hs
        · rename_i ie hie
          have hse : ie.size = es := by simpa using hs
          simp only [Program.built, hit, hu, hitz, hie, hzcells]
          refine core _ fun i m hm => ?_
          rw [List.getElem?_replicate] at hm
          split at hm
          · injection hm with hm
            subst hm
            rename_i hin
            rw [List.take_replicate, List.sum_replicate_nat, hse, Nat.min_eq_left (by omega)]
          · cases hm
        · cases hs
      · cases hns
    · exact h.elim
  · exact h.elim
theorem headK_eq : ∀ {n : Nat} {l : List Value} {K : List Value → List Value → Prop}, headK n l K → K (l.take n) (l.drop n)
  | 0, l, K, h => by simpa [headK] using h
  | n + 1, [], K, h => by simpa [headK] using h
  | n + 1, x :: l, K, h => by
    have h' : headK n l fun a b => K (x :: a) b := h
    simpa using headK_eq h'
theorem cutK_eq : ∀ {ns : List (Nat × Bool)} {z : List Value} {K : List Seg → Prop}, cutK ns z K → ∃ segs, K segs ∧ segs.map Seg.list = cutBy (ns.map Prod.fst) z
  | [], z, K, h => ⟨[], h, rfl⟩
  | (n, f) :: ns, z, K, h => by
    have h' : headK n z fun a b => cutK ns b fun r => K (.many a :: r) := h
    obtain ⟨segs, hk, he⟩ := cutK_eq (headK_eq h')
    refine ⟨_, hk, ?_⟩
    simp [cutBy, he, cutBy_tk, cutBy_dp, Seg.list]
theorem appK_eq : ∀ {l r : List Value} {K : List Value → Prop}, appK l r K → K (l ++ r)
  | [], _, _, h => h
  | x :: l, _, K, h => appK_eq (l := l) (K := fun s => K (x :: s)) h
theorem flatK_eq : ∀ {s : List Seg} {K : List Value → Prop}, flatK s K → K (s.map Seg.list).flatten
  | [], K, h => h
  | .one v :: s, K, h => by
    have := flatK_eq (s := s) (K := fun r => K (v :: r)) h
    simpa [Seg.list] using this
  | .many l :: s, K, h => by
    have h1 := flatK_eq (s := s) (K := fun r => appK l r K) h
    have := appK_eq h1
    simpa [Seg.list] using this
  | .agg l :: s, K, h => by
    have := flatK_eq (s := s) (K := fun r => K (l ++ r)) h
    simpa [Seg.list] using this
theorem setN_map {α β : Type} (f : α → β) : ∀ {l : List α} {n : Nat} {v : α} {r : List α}, setN l n v = some r → setN (l.map f) n (f v) = some (r.map f)
  | [], _, _, _, h => by simp [setN] at h
  | x :: l, 0, v, r, h => by simp [setN] at h ⊢; subst h; simp
  | x :: l, n + 1, v, r, h => by
    simp only [setN] at h
    split at h
    · rename_i r' hr
      have := setN_map f hr
      injection h with h
      subst h
      simp [setN, this]
    · cases h
theorem putK_eq {ns : List (Nat × Bool)} : ∀ {parts : List (Nat × Value)} {segs segs' : List Seg}, putK' ns segs parts = some segs' → partsFitK ns parts →
    putSegs (segs.map Seg.list) parts = some (segs'.map Seg.list) ∧ partsFit (ns.map Prod.fst) parts
  | [], segs, segs', h, _ => by simp [putK'] at h; subst h; simp [putSegs, partsFit]
  | (i, v) :: r, segs, segs', h, hf => by
    simp only [putK'] at h
    obtain ⟨hf1, hf2⟩ := hf
    split at h
    · rename_i n f hn
      split at h
      · rename_i sg hsg
        split at h
        · rename_i s1 hs1
          obtain ⟨h1, h2⟩ := putK_eq h hf2
          have hcell : cellsL v = sg.list ∧ (cellsL v).length = n := by
            rw [hn] at hf1
            cases f with
            | false =>
              simp [segOf] at hsg; subst hsg
              have hf1 : (bif Nat.beq n 1 then cellsL v = [v] else False) := hf1
              cases hb : Nat.beq n 1 with
              | false => rw [hb] at hf1; exact hf1.elim
              | true =>
                rw [hb] at hf1
                have hf1 : cellsL v = [v] := hf1
                have hn1 := Nat.eq_of_beq_eq_true hb
                subst hn1
                exact ⟨hf1, by rw [hf1]; rfl⟩
            | true =>
              unfold segOf at hsg
              split at hsg
              · rename_i hft; cases hft
              · injection hsg with hsg; subst hsg; exact ⟨rfl, hf1⟩
              · cases hsg
          have hset := setN_map Seg.list hs1
          rw [← hcell.1] at hset
          refine ⟨by simp [putSegs, hset, h1], ?_, h2⟩
          rw [nth_eq] at hn ⊢
          simp [hn, hcell.2]
        · cases h
      · cases h
    · cases h
theorem flagsOf_sizes {T : Tab} : ∀ {fs : List (Nat × TypeId)} {ns : List (Nat × Bool)}, flagsOf T fs = some ns → sizesOf T fs = some (ns.map Prod.fst)
  | [], ns, h => by simp [flagsOf] at h; subst h; rfl
  | (o, t) :: fs, ns, h => by
    simp only [flagsOf] at h
    split at h
    · rename_i d hd
      split at h
      · rename_i r hr
        injection h with h
        subst h
        simp [sizesOf, hd, flagsOf_sizes hr]
      · cases h
    · cases h
theorem sumOf_eq : ∀ (ns : List (Nat × Bool)), sumOf ns = (ns.map Prod.fst).sum
  | [] => rfl
  | (n, _) :: l => by simp [sumOf, sumOf_eq l]
theorem buildK_all (hT : TabOK P T) {t : TypeId} {parts : List (Nat × Value)} (h : buildK T M H t parts K) : ∃ v : SV, (∀ w, A M H w → (Instr.build t parts.toArray).run P w = .ok v.den w) ∧ K v M H := by
  unfold buildK at h
  split at h
  · rename_i z ns hz hns
    split at h
    · rename_i hlen
      rw [denK_eq] at h
      obtain ⟨segs0, h, hs0⟩ := cutK_eq h
      split at h
      · rename_i segs hsegs
        obtain ⟨hfit, hK⟩ := h
        obtain ⟨h1, h2⟩ := putK_eq hsegs hfit
        have hK := flatK_eq hK
        refine buildV_all hT ?_
        have hns' : cutsOf T t = some (ns.map Prod.fst) := by
          unfold cutsOf
          split at hns
          · rename_i fs sz hd
            exact flagsOf_sizes hns
          · rename_i n e es hd
            split at hns
            · injection hns with hns; subst hns; simp
            · cases hns
          · cases hns
        unfold buildV
        rw [hz, hns']
        simp only [← sumOf_eq, hlen]
        rw [← hs0, h1]
        refine ⟨h2, ?_⟩
        rw [flat_eq]
        exact hK
      · exact h.elim
    · exact h.elim
  · exact h.elim
theorem repS_length (n : Nat) (z : List SV) : (repS n z).length = n * z.length := by
  induction n with
  | zero => simp [repS]
  | succ n ih => simp [repS, ih, Nat.succ_mul, Nat.add_comm]
theorem repS_get (z : List SV) (hz : 0 < z.length) : ∀ (n k : Nat), k < n * z.length → (repS n z)[k]? = z[k % z.length]?
  | 0, k, h => by omega
  | n + 1, k, h => by
    simp only [repS]
    by_cases hk : k < z.length
    · rw [List.getElem?_append_left hk, Nat.mod_eq_of_lt hk]
    · rw [List.getElem?_append_right (by omega), repS_get z hz n (k - z.length) (by rw [Nat.succ_mul] at h; omega)]
      congr 1
      exact (Nat.mod_eq_sub_mod (by omega)).symm
theorem repS_cells {n es : Nat} {z : List SV} {zc : Array Value} (hz : zc = (z.map SV.den).toArray) (hl : z.length = es) (h0 : 0 < es) :
    ((Array.range (n * es)).map (zc[· % zc.size]!)) = ((repS n z).map SV.den).toArray := by
  subst hz
  apply Array.ext
  · simp [repS_length, hl]
  · intro k h1 h2
    have hk : k < n * es := by simpa using h1
    have hlt : k % z.length < z.length := Nat.mod_lt _ (by omega)
    have hg := repS_get z (by omega) n k (by rw [hl]; exact hk)
    simp only [Array.getElem_map, Array.getElem_range, List.size_toArray, List.length_map, List.getElem_toArray]
    rw [List.getElem?_eq_getElem (by rw [repS_length, hl]; exact hk), List.getElem?_eq_getElem hlt] at hg
    injection hg with hg
    rw [List.getElem_map, hg, getElem!_pos _ _ (by simpa using hlt)]
    simp
theorem den_valmap (l : List Value) : (l.map SV.val).map SV.den = l := by
  rw [List.map_map, show (SV.den ∘ SV.val) = id from rfl]; simp
theorem buildSliceK_out (hT : TabOK P T) {t : TypeId} {n : Nat} {parts : List (Nat × Value)} (h : buildSliceK T M H t n parts K) (hA : A M H w) :
    ∃ (v : SV) (w' : World), (Instr.buildSlice t n parts.toArray).run P w = .ok v.den w' ∧ After K v w' := by
  unfold buildSliceK at h
  split at h
  · rename_i e es hd
    obtain ⟨hu, hs⟩ := TD.fits_slice (hT.fits hd)
    split at h
    · rename_i d z hde hz
      split at h
      · rename_i hl hle hpos
        have hl := Nat.eq_of_beq_eq_true hl
        have hle := Nat.le_of_ble_eq_true hle
        have hpos : 0 < n * es := by simpa [Nat.blt_eq] using hpos
        have hes : 0 < es := by
          rcases Nat.eq_zero_or_pos es with h0 | h0
          · subst h0; simp at hpos
          · exact h0
        rw [denK_eq] at h
        obtain ⟨segs0, h, hs0⟩ := cutK_eq h
        split at h
        · rename_i segs hsegs
          obtain ⟨hfit, hK⟩ := h
          obtain ⟨h1, h2⟩ := putK_eq hsegs hfit
          have hK := flatK_eq hK
          obtain ⟨zv, hzv, hzc⟩ := hT.zero hz w
          have hzcells : zv.cells = (z.map SV.den).toArray := by rw [← hzc]
          simp only [List.map_replicate] at hs0 h2
          obtain ⟨hc1, hc2⟩ := cutBy_flat (List.replicate n es) ((repS n z).map SV.den) (by simp [repS_length, hl])
          rw [hs0] at h1
          have hp : ∀ i m, (List.replicate n es)[i]? = some m → (fun i => some (i * es, es) : Nat → Option (Nat × Nat)) i = some (((List.replicate n es).take i).sum, m) := by
            intro i m hm
            rw [List.getElem?_replicate] at hm
            split at hm
            · injection hm with hm
              subst hm
              rw [List.take_replicate, List.sum_replicate_nat, Nat.min_eq_left (by omega)]
            · cases hm
          have hfill := fill_segs hp parts _ _ hc2 h1 h2
          rw [hc1] at hfill
          have hA' := hA.alloc (newId M) e ((segs.map Seg.list).flatten.map SV.val)
          rw [den_valmap] at hA'
          refine ⟨.val (.slice (some ⟨w.heap.size, 0, none⟩) n n), w.alloc (.cells (segs.map Seg.list).flatten.toArray e), ?_, _, H, hK w.heap.size hA.above, hA'⟩
          have hrs := repS_cells (n := n) hzcells hl hes
          have hne : ¬ (n * es = 0) := by omega
          have hng : ¬ (n * es > 2 ^ 24) := by omega
          have e1 : (fun i => some (i * es, es) : Nat → Option (Nat × Nat)) = fun i => some (i * es, es) := rfl
          simp only [Instr.buildSlice, Sem.run_bind, run_underlying hu, Result.andThen_ok, run_sizeOf_of hs, if_neg hne, if_neg hng, hzv, Sem.run_pure, hrs, hfill, newRow, den_val]
          simp
        · exact h.elim
      · exact h.elim
    · exact h.elim
  · exact h.elim
theorem buildSliceZ_out (hT : TabOK P T) {t : TypeId} {n : Nat} {parts : List (Nat × Value)} (h : buildSliceZ T M H t n parts K) (hA : A M H w) :
    ∃ (v : SV) (w' : World), (Instr.buildSlice t n parts.toArray).run P w = .ok v.den w' ∧ After K v w' := by
  unfold buildSliceZ at h
  split at h
  · split at h
    · rename_i e es hd
      obtain ⟨hu, hs⟩ := TD.fits_slice (hT.fits hd)
      have hA' := hA.alloc (newId M) e []
      refine ⟨.val (.slice (some ⟨w.heap.size, 0, none⟩) 0 0), w.alloc (.cells #[] e), ?_, _, H, h w.heap.size hA.above, hA'⟩
      simp only [Instr.buildSlice, Sem.run_bind, run_underlying hu, Result.andThen_ok, run_sizeOf_of hs, newRow]
      simp [Instr.fill, SV.den]
      rw [show Array.map (fun _ : Nat => (default : Value)) (Array.range 0) = #[] from Array.eq_empty_of_size_eq_zero (by simp)]
    · exact h.elim
  · exact buildSliceK_out hT h hA
  · exact buildSliceK_out hT h hA
theorem makeSliceV_out (hT : TabOK P T) {t : TypeId} {l c : SV} (h : makeSliceV P T M H t l c K) (hA : A M H w) :
    ∃ (v : SV) (w' : World), (Instr.makeSlice t l.den c.den).run P w = .ok v.den w' ∧ After K v w' := by
  unfold makeSliceV at h
  split at h
  · rename_i k1 n k2 m
    split at h
    · rename_i e es hd
      obtain ⟨hu, hs⟩ := TD.fits_slice (hT.fits hd)
      split at h
      · rename_i z hz
        split at h
        · rename_i hl hpos
          have hl := Nat.eq_of_beq_eq_true hl
          have hes : 0 < es := by simpa [Nat.blt_eq] using hpos
          obtain ⟨k, by_, rfl, rfl, hk, hby, hb, hK⟩ := h
          obtain ⟨zv, hzv, hzc⟩ := hT.zero hz w
          have hzcells : zv.cells = (z.map SV.den).toArray := by rw [← hzc]
          cases hi : P.info? e with
          | none => simp [hi] at hby
          | some it =>
            have hby' : it.bytes = by_ := by simpa [hi] using hby
            have hsz : it.size = es := by simpa [sizeB, hi] using hs
            have hit : it.zero = some zv := by
              cases hv : it.zero with
              | none => simp [zeroValue, typeInfo, hi, hv, unsupported] at hzv
              | some v => simp [zeroValue, typeInfo, hi, hv] at hzv; rw [hzv]
            have hbytes : (it.bytes : Int) * (k : Int) ≤ 281474976710656 := by
              rw [hby', ← Int.natCast_mul, Nat.mul_comm]; omega
            have hr := run_make (P := P) w t e it zv hu hi hit k1 k2 (k : Int) (k : Int) (by omega) (Int.le_refl _) hbytes (by omega)
            have hA' := hA.alloc (newId M) e (repS k z)
            refine ⟨.val (.slice (some ⟨w.heap.size, 0, none⟩) k k), _, ?_, _, H, hK w.heap.size hA.above, hA'⟩
            simp only [den_val]
            rw [hr]
            have hrs := repS_cells (n := k) hzcells hl hes
            simp only [madeCells, Int.toNat_natCast, hsz, hzcells] at hrs ⊢
            rw [hrs]
        · exact h.elim
      · exact h.elim
    · exact h.elim
  · exact memV_out h hA
set_option maxHeartbeats 1000000 in
theorem opV_ok {ents : List FuncId} (hS : Seat P T ents) {o : Oper} (h : opV P T E M H ents o K) (hs : Sat N E a) (hA : A M H w) : Yld P o a w (After K) := by
  obtain ⟨dst, op, ty, pos, after, guard⟩ := o
  cases op <;> simp only [opV] at h <;> try exact h.elim
  case move x =>
    obtain ⟨v, hv, h⟩ := withV_out h
    exact .inl ⟨v, w, by simp [execOp, hs.ev hv], M, H, h, hA⟩
  case assign x =>
    obtain ⟨v, hv, h⟩ := withV_out h
    exact .inl ⟨v, w, by simp [execOp, hs.ev hv], M, H, h, hA⟩
  case pick c x y =>
    obtain ⟨v, hv, h1⟩ := withV_out h
    obtain ⟨u, hu, h2⟩ := withV_out h1
    obtain ⟨z, hz, h3⟩ := withV_out h2
    clear h h1 h2
    cases v with
    | ptr => exact h3.elim
    | lit t =>
      cases t
      · exact .inl ⟨z, w, by simp [execOp, hs.ev hv, hs.ev hz, SV.den, asBool], M, H, h3, hA⟩
      · exact .inl ⟨u, w, by simp [execOp, hs.ev hv, hs.ev hu, SV.den, asBool], M, H, h3, hA⟩
    | val v =>
      cases v <;> try exact h3.elim
      rename_i t
      cases t
      · exact .inl ⟨z, w, by simp [execOp, hs.ev hv, hs.ev hz, SV.den, asBool], M, H, h3.2 rfl, hA⟩
      · exact .inl ⟨u, w, by simp [execOp, hs.ev hv, hs.ev hu, SV.den, asBool], M, H, h3.1 rfl, hA⟩
  case alloc t =>
    split at h
    · rename_i z hz
      obtain ⟨v, hv, hc⟩ := hS.tab.zero hz w
      have hA' := hA.alloc (newId M) t z
      refine Yld.val (sv := .ptr (newId M) w.heap.size 0) (w' := w.alloc (.cells (z.map SV.den).toArray t)) (Instr.alloc t true (.tuple #[])) rfl ?_ ⟨_, H, h w.heap.size hA.above, hA'⟩
      have hcells : v.cells = (z.map SV.den).toArray := by rw [← hc]
      simp [Instr.alloc, hv, newVar, newRow, den_ptr, hcells]
    · exact h.elim
  case box t x =>
    obtain ⟨v, hv, h⟩ := withV_out h
    have hA' := hA.alloc (newId M) t (cellsSV v)
    refine Yld.val (sv := .ptr (newId M) w.heap.size 0) (w' := w.alloc (.cells ((cellsSV v).map SV.den).toArray t)) (Instr.box t (a.eval x)) rfl ?_ ⟨_, H, h w.heap.size hA.above, hA'⟩
    have hcells : v.den.cells = ((cellsSV v).map SV.den).toArray := by rw [← cellsSV_den]
    simp [Instr.box, newVar, newRow, den_ptr, hs.ev hv, hcells]
  case build t parts =>
    have h := withVs_out hs h
    rw [zip_map_eval] at h
    obtain ⟨v, hr, hK⟩ := all_out (buildK_all hS.tab h) hA
    rw [toArray_map] at hr
    exact Yld.val _ rfl hr hK
  case buildSlice t n parts =>
    have h := withVs_out hs h
    rw [zip_map_eval] at h
    obtain ⟨v, w', hr, hK⟩ := buildSliceZ_out hS.tab h hA
    rw [toArray_map] at hr
    exact Yld.val _ rfl hr hK
  case load t x =>
    obtain ⟨p, hp, h⟩ := withV_out h
    obtain ⟨v, hr, hK⟩ := loadV_out hS.tab h hA
    exact Yld.val _ rfl (by rw [hs.ev hp]; exact hr) hK
  case store t x y =>
    obtain ⟨p, hp, h⟩ := withV_out h
    obtain ⟨v, hv, h⟩ := withV_out h
    obtain ⟨w', hr, hK⟩ := storeV_out hS.tab h hA
    exact Yld.unit _ rfl (by rw [hs.ev hp, hs.ev hv]; exact hr) hK
  case nilCheck x =>
    obtain ⟨v, hv, h⟩ := withV_out h
    exact nilCheckV_out h hA rfl (hs.ev hv)
  case binOp op t x y yt =>
    obtain ⟨u, hu, h⟩ := withV_out h
    obtain ⟨v, hv, h⟩ := withV_out h
    obtain ⟨r, hr, hK⟩ := binV_out hS.tab h hA
    exact Yld.val _ rfl (by rw [hs.ev hu, hs.ev hv]; exact hr) hK
  case unOp op t x =>
    obtain ⟨v, hv, h⟩ := withV_out h
    obtain ⟨r, hr, hK⟩ := unV_out h hA
    exact Yld.val _ rfl (by rw [hs.ev hv]; exact hr) hK
  case convert src d x =>
    obtain ⟨v, hv, h⟩ := withV_out h
    obtain ⟨r, w', hr, hK⟩ := convV_out hS.tab h hA
    exact Yld.val _ rfl (by rw [hs.ev hv]; exact hr) hK
  case makeInterface t x =>
    obtain ⟨v, hv, h⟩ := withV_out h
    obtain ⟨r, hr, hK⟩ := pureV_out h hA
    exact Yld.val _ rfl (by rw [hs.ev hv]; exact hr) hK
  case makeFunc fn first captured =>
    have h := withVs_out hs h
    have h := withVs_out hs h
    rw [toArray_map, toArray_map] at h
    exact .inl ⟨_, w, rfl, M, H, h, hA⟩
  case makeMap t r =>
    have h := withO_out hs h
    obtain ⟨v, w', hr, hK⟩ := memV_out h hA
    exact Yld.val _ rfl hr hK
  case makeSlice t l c =>
    obtain ⟨u, hu, h⟩ := withV_out h
    obtain ⟨v, hv, h⟩ := withV_out h
    obtain ⟨r, w', hr, hK⟩ := makeSliceV_out hS.tab h hA
    exact Yld.val _ rfl (by rw [hs.ev hu, hs.ev hv]; exact hr) hK
  case slice t x lo hi mx =>
    obtain ⟨v, hv, h⟩ := withV_out h
    have h := withO_out hs h
    have h := withO_out hs h
    have h := withO_out hs h
    obtain ⟨r, hr, hK⟩ := all_out (sliceV_all hS.tab h) hA
    exact Yld.val _ rfl (by rw [hs.ev hv]; exact hr) hK
  case fieldAddr t x f =>
    obtain ⟨p, hp, h⟩ := withV_out h
    obtain ⟨v, hr, hK⟩ := fieldAddrV_out hS.tab h hA
    exact Yld.val _ rfl (by rw [hs.ev hp]; exact hr) hK
  case field t x f =>
    obtain ⟨v, hv, h⟩ := withV_out h
    obtain ⟨r, hr, hK⟩ := all_out (fieldV_all hS.tab h) hA
    exact Yld.val _ rfl (by rw [hs.ev hv]; exact hr) hK
  case indexAddr t x ix =>
    obtain ⟨u, hu, h⟩ := withV_out h
    obtain ⟨v, hv, h⟩ := withV_out h
    obtain ⟨r, hr, hK⟩ := indexAddrV_out hS.tab h hA
    exact Yld.val _ rfl (by rw [hs.ev hu, hs.ev hv]; exact hr) hK
  case index t x ix =>
    obtain ⟨u, hu, h⟩ := withV_out h
    obtain ⟨v, hv, h⟩ := withV_out h
    obtain ⟨r, hr, hK⟩ := all_out (indexV_all hS.tab h) hA
    exact Yld.val _ rfl (by rw [hs.ev hu, hs.ev hv]; exact hr) hK
  case lookup t x ix ok =>
    obtain ⟨u, hu, h⟩ := withV_out h
    obtain ⟨v, hv, h⟩ := withV_out h
    obtain ⟨r, hr, hK⟩ := pureV_out h hA
    exact Yld.val _ rfl (by rw [hs.ev hu, hs.ev hv]; exact hr) hK
  case mapUpdate t m k x =>
    obtain ⟨u, hu, h⟩ := withV_out h
    obtain ⟨v, hv, h⟩ := withV_out h
    obtain ⟨z, hz, h⟩ := withV_out h
    obtain ⟨w', hr, hK⟩ := memU_out h hA
    exact Yld.unit _ rfl (by rw [hs.ev hu, hs.ev hv, hs.ev hz]; exact hr) hK
  case insert t m k x =>
    obtain ⟨u, hu, h⟩ := withV_out h
    obtain ⟨v, hv, h⟩ := withV_out h
    obtain ⟨z, hz, h⟩ := withV_out h
    obtain ⟨w', hr, hK⟩ := memU_out h hA
    exact Yld.unit _ rfl (by rw [hs.ev hu, hs.ev hv, hs.ev hz]; exact hr) hK
  case mapEntry t m k =>
    obtain ⟨u, hu, h⟩ := withV_out h
    obtain ⟨v, hv, h⟩ := withV_out h
    obtain ⟨r, w', hr, hK⟩ := memV_out h hA
    exact Yld.val _ rfl (by rw [hs.ev hu, hs.ev hv]; exact hr) hK
  case entryStore t m s x =>
    obtain ⟨u, hu, h⟩ := withV_out h
    obtain ⟨v, hv, h⟩ := withV_out h
    obtain ⟨z, hz, h⟩ := withV_out h
    obtain ⟨w', hr, hK⟩ := memU_out h hA
    exact Yld.unit _ rfl (by rw [hs.ev hu, hs.ev hv, hs.ev hz]; exact hr) hK
  case range t x =>
    obtain ⟨u, hu, h⟩ := withV_out h
    obtain ⟨r, w', hr, hK⟩ := memV_out h hA
    exact Yld.val _ rfl (by rw [hs.ev hu]; exact hr) hK
  case next it s =>
    obtain ⟨u, hu, h⟩ := withV_out h
    obtain ⟨r, w', hr, hK⟩ := memV_out h hA
    exact Yld.val _ rfl (by rw [hs.ev hu]; exact hr) hK
  case entry it =>
    obtain ⟨u, hu, h⟩ := withV_out h
    obtain ⟨r, w', hr, hK⟩ := memV_out h hA
    exact Yld.val _ rfl (by rw [hs.ev hu]; exact hr) hK
  case typeAssert x t u ok =>
    obtain ⟨u, hu, h⟩ := withV_out h
    obtain ⟨r, hr, hK⟩ := pureV_out h hA
    exact Yld.val _ rfl (by rw [hs.ev hu]; exact hr) hK
  case extract x i =>
    obtain ⟨u, hu, h⟩ := withV_out h
    split at h
    · obtain ⟨v, hv, hK⟩ := h
      refine Yld.val (sv := .val v) _ rfl (w' := w) ?_ ⟨M, H, hK, hA⟩
      rw [hs.ev hu]
      simp [Instr.extract, den_val, hv]
    · exact h.elim
  case call c =>
    split at h
    · rename_i b hc
      have h := withVs_out hs h
      obtain ⟨v, w', hr, hK⟩ := builtinV_out hS.tab (cs := c.args.map fun | .const _ => true | _ => false) h hA
      refine .inl ⟨v, w', ?_, hK⟩
      rw [toArray_map] at hr
      simp only [execOp, resolve, hc, Sem.run_bind, Sem.run_pure, Result.andThen_ok, invoke]
      exact hr
    · rename_i f hc
      obtain ⟨v, hv, h⟩ := withV_out h
      have h := withVs_out hs h
      exact callsV_out hS.enters h hA rfl hc (hs.ev hv) rfl
    · exact h.elim
theorem keepsC_out (hA : A M H w) : ∀ {C0 : List (Nat × Nat × Nat × SV)} {X : Prop}, keepsC C0 M X → CellsOK C0 w ∧ X
  | [], _, h => ⟨fun _ hc => (nomatch hc), h⟩
  | (i, g, off, v) :: r, _, h => by
    obtain ⟨⟨kb, hi, rfl, hv⟩, h⟩ := h
    obtain ⟨h1, h2⟩ := keepsC_out hA h
    refine ⟨fun c hc => ?_, h2⟩
    rcases List.mem_cons.1 hc with rfl | hc
    · show w.cell? ⟨kb.g, off, none⟩ = some v.den
      rw [(hA.blk i kb hi).cell]
      rw [nth_eq] at hv
      simp [hv]
    · exact h1 c hc
theorem CellsOK.drew {C0 : List (Nat × Nat × Nat × SV)} {w : World} (h : CellsOK C0 w) : CellsOK C0 { w with drawn := w.drawn + 1 } := h
theorem quietV_out (hT : TabOK P T) {C0 : List (Nat × Nat × Nat × SV)} {o : Oper} {K : SV → Prop} (h : quietV P T E M H C0 o K) (hs : Sat N E a) : ∃ sv : SV, (∀ w, A M H w ∧ CellsOK C0 w → (execOp a.eval o).run P w = .ok (.value sv.den) w) ∧ K sv := by
  suffices hx : ∃ sv : SV, (∀ w, A M H w ∧ CellsOK C0 w → (execOp a.eval o).run P w = .ok (.value sv.den) w) ∧ K sv from hx
  have up : (∃ sv : SV, (∀ w, (execOp a.eval o).run P w = .ok (.value sv.den) w) ∧ K sv) → ∃ sv : SV, (∀ w, A M H w ∧ CellsOK C0 w → (execOp a.eval o).run P w = .ok (.value sv.den) w) ∧ K sv :=
    fun ⟨sv, h1, h2⟩ => ⟨sv, fun w _ => h1 w, h2⟩
  obtain ⟨dst, op, ty, pos, after, guard⟩ := o
  cases op <;> simp only [quietV] at h <;> try exact h.elim
  case load t x =>
    obtain ⟨p, hp, h1⟩ := withV_out h
    clear h
    have fin : ∀ {v : SV} {w : World}, (Instr.loadAt t p.den).run P w = .ok v.den w → (execOp a.eval ⟨dst, .load t x, ty, pos, after, guard⟩).run P w = .ok (.value v.den) w := by
      intro v w hr
      rw [← hs.ev hp] at hr
      show (do pure (.value (← Instr.loadAt t (a.eval x))) : Sem Next).run P w = _
      rw [Sem.run_bind, hr]; rfl
    split at h1
    · rename_i i g off
      split at h1
      · rename_i d hd
        split at h1
        · rename_i hagg
          obtain ⟨v, hc, hk⟩ := h1
          refine ⟨v, fun w hA => fin ?_, hk⟩
          have hc := hc w hA.2
          simp [Instr.loadAt, Instr.sureAddr, SV.den, loadVar, TD.fits_agg (hT.fits hd), hagg, load, hc, Sem.run, Sem.run_bind]
        · exact h1.elim
      · exact h1.elim
    · obtain ⟨v, hr, hk⟩ := loadV_all hT h1
      exact ⟨v, fun w hA => fin (hr w hA.1), hk⟩
  case fieldAddr t x f =>
    obtain ⟨p, hp, h⟩ := withV_out h
    obtain ⟨v, hr, hk⟩ := fieldAddrV_all hT h
    refine ⟨v, fun w _ => ?_, hk⟩
    have := hr w
    rw [← hs.ev hp] at this
    show (do pure (.value (← Instr.fieldAt t (a.eval x) f)) : Sem Next).run P w = _
    rw [Sem.run_bind, this]; rfl
  case convert src dst x =>
    obtain ⟨v, hv, h1⟩ := withV_out h
    clear h
    split at h1
    · rename_i d0 k k' n hd0 hd
      obtain ⟨r, rfl, h⟩ := h1
      obtain ⟨ds, hds⟩ := TD.fits_some (hT.fits hd0)
      refine ⟨.val (.int k (k.wrap n)), fun w _ => ?_, h⟩
      have hc : (convert src dst (a.eval x)).run P w = .ok (.int k (k.wrap n)) w := by
        rw [hs.ev hv]
        simp [convert, run_underlying hds, run_underlying (TD.fits_int (hT.fits hd)), Conv.intToInt, den_val]
      show (do pure (.value (← convert src dst (a.eval x))) : Sem Next).run P w = _
      rw [Sem.run_bind, hc]; rfl
    · exact h1.elim
  case indexAddr t x ix =>
    obtain ⟨p, hp, h⟩ := withV_out h
    obtain ⟨i, hi, h⟩ := withV_out h
    obtain ⟨v, hr, hk⟩ := indexAddrV_all hT h
    refine ⟨v, fun w _ => ?_, hk⟩
    have := hr w
    rw [← hs.ev hp, ← hs.ev hi] at this
    show (do pure (.value (← Instr.indexAt t (a.eval x) (a.eval ix))) : Sem Next).run P w = _
    rw [Sem.run_bind, this]; rfl
  case slice t x lo hi mx =>
    obtain ⟨v, hv, h⟩ := withV_out h
    have h := withO_out hs h
    have h := withO_out hs h
    have h := withO_out hs h
    obtain ⟨r, hr, hk⟩ := sliceV_all hT h
    refine ⟨r, fun w hA => ?_, hk⟩
    have := hr w hA.1
    rw [← hs.ev hv] at this
    show (do pure (.value (← Instr.sliceAt t (a.eval x) (lo.map a.eval) (hi.map a.eval) (mx.map a.eval))) : Sem Next).run P w = _
    rw [Sem.run_bind, this]; rfl
  case index t x ix =>
    obtain ⟨v, hv, h⟩ := withV_out h
    obtain ⟨i, hi, h⟩ := withV_out h
    obtain ⟨r, hr, hk⟩ := indexV_all hT h
    refine ⟨r, fun w hA => ?_, hk⟩
    have := hr w hA.1
    rw [← hs.ev hv, ← hs.ev hi] at this
    show (do pure (.value (← Instr.index t (a.eval x) (a.eval ix))) : Sem Next).run P w = _
    rw [Sem.run_bind, this]; rfl
  case field t x f =>
    obtain ⟨v, hv, h⟩ := withV_out h
    obtain ⟨r, hr, hk⟩ := fieldV_all hT h
    refine ⟨r, fun w hA => ?_, hk⟩
    have := hr w hA.1
    rw [← hs.ev hv] at this
    show (do pure (.value (← Instr.field t (a.eval x) f)) : Sem Next).run P w = _
    rw [Sem.run_bind, this]; rfl
  case extract x i =>
    obtain ⟨u, hu, h1⟩ := withV_out h
    clear h
    split at h1
    · obtain ⟨v, hv, hK⟩ := h1
      refine ⟨.val v, fun w _ => ?_, hK⟩
      show (do pure (.value (← Instr.extract (a.eval x) i)) : Sem Next).run P w = _
      rw [Sem.run_bind, hs.ev hu]
      simp [Instr.extract, den_val, hv]
    · exact h1.elim
  case build t parts =>
    have h := withVs_out hs h
    rw [zip_map_eval] at h
    obtain ⟨v, hr, hK⟩ := buildK_all hT h
    refine ⟨v, fun w hA => ?_, hK⟩
    have := hr w hA.1
    rw [toArray_map] at this
    show (do pure (.value (← Instr.build t _)) : Sem Next).run P w = _
    rw [Sem.run_bind, this]; rfl
  case call c =>
    split at h
    · rename_i hc
      have h := withVs_out hs h
      have fin : ∀ {r : Value}, (∀ w, (builtin .len c.argTypes ty (c.args.map fun | .const _ => true | _ => false) (c.args.toList.map a.eval).toArray).run P w = .ok (.value r) w) →
          ∀ w, (execOp a.eval ⟨dst, .call c, ty, pos, after, guard⟩).run P w = .ok (.value r) w := by
        intro r hr w
        have := hr w
        rw [toArray_map] at this
        simp only [execOp, resolve, hc, Sem.run_bind, Sem.run_pure, Result.andThen_ok, invoke]
        exact this
      split at h
      · rename_i b n cap es hvs hd
        refine ⟨_, fun w _ => fin (fun w => ?_) w, h⟩
        rw [hvs]
        cases hat : c.argTypes[0]? with
        | none => simp [hat] at hd
        | some t0 =>
          simp [hat] at hd
          have hu := (TD.fits_slice (hT.fits hd)).1
          show (do pure (.value (← Builtin.len_ c.argTypes ty _)) : Sem Next).run P w = _
          simp [Builtin.len_, hat, run_underlying hu, goInt, den_val]
      · rename_i str hvs hd
        refine ⟨_, fun w _ => fin (fun w => ?_) w, h⟩
        rw [hvs]
        cases hat : c.argTypes[0]? with
        | none => simp [hat] at hd
        | some t0 =>
          simp [hat] at hd
          have hu := TD.fits_str (hT.fits hd)
          show (do pure (.value (← Builtin.len_ c.argTypes ty _)) : Sem Next).run P w = _
          simp [Builtin.len_, hat, run_underlying hu, goInt, den_val]
      · exact h.elim
    · exact h.elim
  case nilCheck x =>
    obtain ⟨v, hv, h⟩ := withV_out h
    unfold nilCheckV at h
    split at h <;> first | (refine ⟨_, fun w _ => ?_, h⟩; simp [execOp, hs.ev hv, SV.den]; done) | exact h.elim
  all_goals refine up ?_
  case move x =>
    obtain ⟨v, hv, h⟩ := withV_out h
    exact ⟨v, fun w => by simp [execOp, hs.ev hv], h⟩
  case assign x =>
    obtain ⟨v, hv, h⟩ := withV_out h
    exact ⟨v, fun w => by simp [execOp, hs.ev hv], h⟩
  case pick c x y =>
    obtain ⟨v, hv, h1⟩ := withV_out h
    obtain ⟨u, hu, h2⟩ := withV_out h1
    obtain ⟨z, hz, h3⟩ := withV_out h2
    clear h h1 h2
    cases v with
    | ptr => exact h3.elim
    | lit t =>
      cases t
      · exact ⟨z, fun w => by simp [execOp, hs.ev hv, hs.ev hz, SV.den, asBool], h3⟩
      · exact ⟨u, fun w => by simp [execOp, hs.ev hv, hs.ev hu, SV.den, asBool], h3⟩
    | val v =>
      cases v <;> try exact h3.elim
      rename_i t
      cases t
      · exact ⟨z, fun w => by simp [execOp, hs.ev hv, hs.ev hz, SV.den, asBool], h3.2 rfl⟩
      · exact ⟨u, fun w => by simp [execOp, hs.ev hv, hs.ev hu, SV.den, asBool], h3.1 rfl⟩
  case binOp op t x y yt =>
    obtain ⟨u, hu, h1⟩ := withV_out h
    obtain ⟨v, hv, h2⟩ := withV_out h1
    clear h h1
    have h := h2
    clear h2
    have fin : ∀ {r : Value}, (∀ w, (do eqGuard op t x y u.den v.den; Go.binOp op t u.den v.den : Sem Value).run P w = .ok r w) →
        ∀ w, (execOp a.eval ⟨dst, .binOp op t x y yt, ty, pos, after, guard⟩).run P w = .ok (.value r) w := by
      intro r hr w
      have := hr w
      rw [← hs.ev hu, ← hs.ev hv] at this
      show (do pure (.value (← (do eqGuard op t x y (a.eval x) (a.eval y); Go.binOp op t (a.eval x) (a.eval y)))) : Sem Next).run P w = _
      rw [Sem.run_bind, this]; rfl
    split at h
    · rename_i k m k' n
      cases hk : (isShift op || Nat.beq (kid k) (kid k')) with
      | false => rw [hk] at h; exact h.elim
      | true =>
      rw [hk] at h
      have h : intBin op k m n fun v => K (.val v) := h
      obtain ⟨v, hr, hK⟩ := intBin_out (P := P) (t := t) (xo := x) (yo := y) hk h
      exact ⟨.val v, fin hr, hK⟩
    · obtain ⟨v, hr, hK⟩ := strBin_out (P := P) (t := t) (xo := x) (yo := y) h
      exact ⟨.val v, fin hr, hK⟩
    · split at h
      · rename_i hd
        obtain ⟨v, hr, hK⟩ := boolBin_out (P := P) (t := t) (xo := x) (yo := y) (TD.fits_bool (hT.fits hd)) h
        exact ⟨.val v, fin hr, hK⟩
      · exact h.elim
    · split at h
      · rename_i b hn
        refine ⟨.lit b, fun w => ?_, h⟩
        have := (nilCmp_out hT (xo := x) hn w).1
        rw [← hs.ev hu, ← hs.ev hv] at this
        show (do pure (.value (← (do eqGuard .eql t x y (a.eval x) (a.eval y); Go.binOp .eql t (a.eval x) (a.eval y)))) : Sem Next).run P w = _
        rw [Sem.run_bind, this]; rfl
      · rename_i b hn
        refine ⟨.lit (!b), fun w => ?_, h⟩
        have := (nilCmp_out hT (xo := x) hn w).2
        rw [← hs.ev hu, ← hs.ev hv] at this
        show (do pure (.value (← (do eqGuard .neq t x y (a.eval x) (a.eval y); Go.binOp .neq t (a.eval x) (a.eval y)))) : Sem Next).run P w = _
        rw [Sem.run_bind, this]; rfl
      · exact h.elim
  case unOp op t x =>
    cases op <;> simp only at h <;> try exact h.elim
    · obtain ⟨v, hv, h1⟩ := withV_out h
      clear h
      split at h1
      · obtain ⟨r, rfl, h⟩ := h1
        exact ⟨.val (.int _ _), fun w => by rw [show execOp a.eval _ = (do pure (.value (← Op.unary .xor (a.eval x)))) from rfl, hs.ev hv]; rfl, h⟩
      · exact h1.elim
    · obtain ⟨v, hv, h1⟩ := withV_out h
      clear h
      split at h1
      · exact ⟨_, fun w => by rw [show execOp a.eval _ = (do pure (.value (← Op.unary .not (a.eval x)))) from rfl, hs.ev hv]; rfl, h1⟩
      · exact ⟨_, fun w => by rw [show execOp a.eval _ = (do pure (.value (← Op.unary .not (a.eval x)))) from rfl, hs.ev hv]; rfl, h1⟩
      · exact h1.elim
theorem ld1 (hT : TabOK P T) {t : TypeId} {d : TD} (hd : Tab.find T t = some d) (ha : d.agg = false) {w w' : World} {b o p j : Nat} {cs : List Value} {v : Value} (hr : w.rangeAt b o cs) (hj : cs[j]? = some v) (hp : p = o + j) (hb : Below w.heap.size w w') :
    (loadVar t ⟨b, p, none⟩).run P w' = .ok v w' := by
  subst hp
  have hr' := rangeAt_keep (w' := w') hr (fun h => hb.block b h)
  have hc := hr' j v hj
  simp [loadVar, TD.fits_agg (hT.fits hd), ha, load, hc, Sem.run, Sem.run_bind]
theorem ldn (hT : TabOK P T) {t : TypeId} {d : TD} (hd : Tab.find T t = some d) (ha : d.agg = true) {w w' : World} {b o : Nat} {cs : List Value} (hl : cs.length = d.size) (hr : w.rangeAt b o cs) (hb : Below w.heap.size w w') :
    (loadVar t ⟨b, o, none⟩).run P w' = .ok (.agg ⟨cs⟩) w' := by
  have hr' := rangeAt_keep (w' := w') hr (fun h => hb.block b h)
  have hl2 : (loadCells ⟨b, o, none⟩ cs.length).run P w' = .ok cs.toArray w' :=
    run_loadCells_list (P := P) w' ⟨b, o, none⟩ _ (fun j v hv => by rw [Addr.add_mid]; exact hr' j v hv)
  rw [hl] at hl2
  simp only [loadVar, Sem.run_bind, Sem.run_pure, Result.andThen_ok, TD.fits_agg (hT.fits hd), ha, if_true, run_sizeOf_of (TD.fits_size (hT.fits hd)), hl2]
theorem ldk (hT : TabOK P T) {t : TypeId} {d : TD} (hd : Tab.find T t = some d) (ha : d.agg = false) {i b p : Nat} {kb : KB} {v : Value} (hi : M.find i = some kb) (hg : kb.g = b) (hv : nth kb.cs p = some (.val v)) (hA : A M H w) :
    (loadVar t ⟨b, p, none⟩).run P w = .ok v w := by
  subst hg
  have hc : w.cell? ⟨kb.g, p, none⟩ = some v := by
    rw [(hA.blk i kb hi).cell]
    rw [nth_eq] at hv
    simp [hv, SV.den]
  simp [loadVar, TD.fits_agg (hT.fits hd), ha, load, hc, Sem.run, Sem.run_bind]
theorem nth_val {l : List Value} {n : Nat} {v : Value} (h : l[n]? = some v) : nth (l.map SV.val) n = some (.val v) := by
  rw [nth_eq]; simp [h]
end
end Go.Proofs.YtllepnadffndnaaDoor
namespace Go.Proofs.YtllepnadffndnaaDoor
open Go.RowKit
inductive MV where
  | int (k : IntKind) (n : Int)
  | bool (b : Bool)
  | str (s : List UInt8)
  | nilp
  | ptr (c es k fo : Nat) (path : List Nat)
  | gp (g off : Nat)
  | ep (v : MV) (fo : Nat) (path : List Nat)
  | sl (n : Nat) (l : List MV)
  | nils
  | ms (c es off n : Nat)
  | fn (f : FuncId) (caps : List MV)
  | nilf
  | nili
  | ifc (t : TypeId) (v : MV)
  | st (l : List MV)
  | arr (n es : Nat) (l : List MV)
  | tup (l : List MV)
  | undef
  deriving Inhabited
mutual
def MV.size : MV → Nat
  | .st l => MV.sizes l
  | .arr n es _ => n * es
  | _ => 1
def MV.sizes : List MV → Nat
  | [] => 0
  | m :: l => MV.size m + MV.sizes l
end
def MV.isAgg : MV → Bool
  | .st _ => true
  | .arr .. => true
  | _ => false
mutual
def MV.idFree : MV → Bool
  | .ptr .. => false
  | .ms .. => false
  | .fn _ l => MV.idFrees l
  | .ifc _ v => MV.idFree v
  | .st l => MV.idFrees l
  | .tup _ => false
  | .undef => false
  | _ => true
def MV.idFrees : List MV → Bool
  | [] => true
  | m :: l => MV.idFree m && MV.idFrees l
end
def valM (m : MV) (cs : List Value) : Value := if m.isAgg then .agg ⟨cs⟩ else cs.headD undef
abbrev Adr := Nat → Option Nat
def noAdr : Adr := fun _ => none
abbrev Prot := Nat → Nat → Prop
inductive Rep (w : World) (P : Prot) : Adr → MV → List Value → Prop where
  | int {adr k n} : Rep w P adr (.int k n) [.int k n]
  | bool {adr b} : Rep w P adr (.bool b) [.bool b]
  | str {adr s} : Rep w P adr (.str s) [.string ⟨s.toArray⟩]
  | nilp {adr} : Rep w P adr .nilp [.pointer none]
  | ptr {adr c es k fo path} (g : Nat) (h : adr c = some g) : Rep w P adr (.ptr c es k fo path) [.pointer (some ⟨g, k * es + fo, none⟩)]
  | gp {adr g off} : Rep w P adr (.gp g off) [.pointer (some ⟨g, off, none⟩)]
  | ep {adr v fo path} (b o : Nat) (vs : List Value) (hc : ∀ (j : Nat) u, vs[j]? = some u → w.cell? ⟨b, o + j, none⟩ = some u ∧ P b (o + j)) (hr : Rep w P noAdr v vs) : Rep w P adr (.ep v fo path) [.pointer (some ⟨b, o + fo, none⟩)]
  | sl {adr n l} (A : Option Addr) (cap es : Nat) (parts : List (List Value)) (hl : l.length = n) (hp : parts.length = n) (hes : ∀ p ∈ parts, p.length = es) (hnn : A = none → n = 0 ∧ cap = 0) (hcap : n ≤ cap)
      (hc : n ≠ 0 → ∃ b o, A = some ⟨b, o, none⟩ ∧ ∀ (j : Nat) u, parts.flatten[j]? = some u → w.cell? ⟨b, o + j, none⟩ = some u ∧ P b (o + j))
      (hr : ∀ (j : Nat) m p, l[j]? = some m → parts[j]? = some p → Rep w P noAdr m p) : Rep w P adr (.sl n l) [.slice A n cap]
  | nils {adr} : Rep w P adr .nils [.slice none 0 0]
  | ms0 {adr c es} : Rep w P adr (.ms c es 0 0) [.slice none 0 0]
  | ms {adr c es off n} (g o cap : Nat) (h : adr c = some g) (ho : n ≠ 0 ∨ off = 0 → o = off * es) (hcap : n ≤ cap) (hcap2 : cap ≤ maxLen) (hsz : ∃ cur ty, w.heap[g]? = some (.cells cur ty (0, 0)) ∧ (off = 0 → cur.size = cap * es)) :
      Rep w P adr (.ms c es off n) [.slice (some ⟨g, o, none⟩) n cap]
  | fn {adr f caps} (parts : List (List Value)) (hp : parts.length = caps.length) (hr : ∀ (j : Nat) m p, caps[j]? = some m → parts[j]? = some p → Rep w P adr m p) : Rep w P adr (.fn f caps) [.func (.func f) #[] (List.zipWith valM caps parts).toArray]
  | nilf {adr} : Rep w P adr .nilf [.nilFunc]
  | nili {adr} : Rep w P adr .nili [.nilIface]
  | ifc {adr t v} (cs : List Value) (hr : Rep w P adr v cs) : Rep w P adr (.ifc t v) [.iface t (valM v cs)]
  | st {adr l} (parts : List (List Value)) (hp : parts.length = l.length) (hr : ∀ (j : Nat) m p, l[j]? = some m → parts[j]? = some p → Rep w P adr m p) : Rep w P adr (.st l) parts.flatten
  | arr {adr n es l} (parts : List (List Value)) (hl : l.length = n) (hp : parts.length = n) (hes : ∀ p ∈ parts, p.length = es) (hr : ∀ (j : Nat) m p, l[j]? = some m → parts[j]? = some p → Rep w P noAdr m p) : Rep w P adr (.arr n es l) parts.flatten
inductive RepV (w : World) (P : Prot) (adr : Adr) : MV → Value → Prop where
  | val {m} (cs : List Value) (h : Rep w P adr m cs) : RepV w P adr m (valM m cs)
  | undef : RepV w P adr .undef undef
  | tup {l} (vs : List Value) (hl : vs.length = l.length) (h : ∀ (j : Nat) m u, l[j]? = some m → vs[j]? = some u → ∃ cs, Rep w P adr m cs ∧ u = valM m cs) : RepV w P adr (.tup l) (.tuple vs.toArray)
section
variable {w w' : World} {P P' : Prot} {adr adr' : Adr} {m : MV} {vs : List Value}
structure Keep (w w' : World) (P P' : Prot) (adr adr' : Adr) : Prop where
  prot : ∀ b o, P b o → P' b o
  cell : ∀ b o, P b o → w'.cell? ⟨b, o, none⟩ = w.cell? ⟨b, o, none⟩
  num : ∀ c g, adr c = some g → adr' c = some g
  size : ∀ c g cur ty, adr c = some g → w.heap[g]? = some (.cells cur ty (0, 0)) → ∃ cur', w'.heap[g]? = some (.cells cur' ty (0, 0)) ∧ cur'.size = cur.size
theorem Keep.refl (w : World) (P : Prot) (adr : Adr) : Keep w w P P adr adr := ⟨fun _ _ h => h, fun _ _ _ => rfl, fun _ _ h => h, fun _ _ cur _ _ h => ⟨cur, h, rfl⟩⟩
theorem Keep.free (h : Keep w w' P P' adr adr') : Keep w w' P P' noAdr noAdr := ⟨h.prot, h.cell, fun _ _ h => h, fun _ _ _ _ h => nomatch h⟩
theorem Keep.trans {w'' : World} {P'' : Prot} {adr'' : Adr} (h : Keep w w' P P' adr adr') (k : Keep w' w'' P' P'' adr' adr'') : Keep w w'' P P'' adr adr'' :=
  ⟨fun b o hp => k.prot b o (h.prot b o hp), fun b o hp => (k.cell b o (h.prot b o hp)).trans (h.cell b o hp), fun c g hc => k.num c g (h.num c g hc), fun c g cur ty hc hw => by
    obtain ⟨cur1, h1, h2⟩ := h.size c g cur ty hc hw
    obtain ⟨cur2, h3, h4⟩ := k.size c g cur1 ty (h.num c g hc) h1
    exact ⟨cur2, h3, h4.trans h2⟩⟩
theorem Rep.keep (h : Rep w P adr m vs) : ∀ {adr' : Adr}, Keep w w' P P' adr adr' → Rep w' P' adr' m vs := by
  induction h with
  | int => intro _ _; exact .int
  | bool => intro _ _; exact .bool
  | str => intro _ _; exact .str
  | nilp => intro _ _; exact .nilp
  | ptr g h => intro _ k; exact .ptr g (k.num _ _ h)
  | gp => intro _ _; exact .gp
  | ep b o vs hc hr ih => intro _ k; exact .ep b o vs (fun j u hj => ⟨(k.cell _ _ (hc j u hj).2).trans (hc j u hj).1, k.prot _ _ (hc j u hj).2⟩) (ih k.free)
  | sl A cap es parts hl hp hes hnn hcap hc hr ih =>
    intro _ k
    refine .sl A cap es parts hl hp hes hnn hcap (fun hn => ?_) (fun j m p h1 h2 => ih j m p h1 h2 k.free)
    obtain ⟨b, o, hA, hc⟩ := hc hn
    exact ⟨b, o, hA, fun j u hj => ⟨(k.cell _ _ (hc j u hj).2).trans (hc j u hj).1, k.prot _ _ (hc j u hj).2⟩⟩
  | nils => intro _ _; exact .nils
  | ms0 => intro _ _; exact .ms0
  | ms g o cap h ho hcap hcap2 hsz =>
    intro _ k
    obtain ⟨cur, ty, hw, hs⟩ := hsz
    obtain ⟨cur', hw', hs'⟩ := k.size _ _ _ _ h hw
    exact .ms g o cap (k.num _ _ h) ho hcap hcap2 ⟨cur', ty, hw', fun h0 => by rw [hs', hs h0]⟩
  | fn parts hp hr ih => intro _ k; exact .fn parts hp fun j m p h1 h2 => ih j m p h1 h2 k
  | nilf => intro _ _; exact .nilf
  | nili => intro _ _; exact .nili
  | ifc cs hr ih => intro _ k; exact .ifc cs (ih k)
  | st parts hp hr ih => intro _ k; exact .st parts hp fun j m p h1 h2 => ih j m p h1 h2 k
  | arr parts hl hp hes hr ih => intro _ k; exact .arr parts hl hp hes fun j m p h1 h2 => ih j m p h1 h2 k.free
theorem RepV.keep {v : Value} (h : RepV w P adr m v) (k : Keep w w' P P' adr adr') : RepV w' P' adr' m v := by
  cases h with
  | val cs h => exact .val cs (h.keep k)
  | undef => exact .undef
  | tup vs hl h => exact .tup vs hl fun j m u h1 h2 => by obtain ⟨cs, h3, h4⟩ := h j m u h1 h2; exact ⟨cs, h3.keep k, h4⟩
theorem flatten_const {es : Nat} : ∀ {parts : List (List Value)}, (∀ p ∈ parts, p.length = es) → parts.flatten.length = parts.length * es
  | [], _ => by simp
  | p :: parts, h => by
    rw [List.flatten_cons, List.length_append, h p (by simp), flatten_const fun q hq => h q (by simp [hq]), List.length_cons, Nat.succ_mul]
    omega
theorem sizes_eq : ∀ {l : List MV} {parts : List (List Value)}, parts.length = l.length → (∀ (j : Nat) m p, l[j]? = some m → parts[j]? = some p → p.length = m.size) → parts.flatten.length = MV.sizes l
  | [], [], _, _ => rfl
  | m :: l, p :: parts, hl, h => by
    rw [List.flatten_cons, List.length_append, h 0 m p rfl rfl, sizes_eq (by simpa using hl) fun j m p h1 h2 => h (j + 1) m p h1 h2]
    rfl
  | [], _ :: _, h, _ => by simp at h
  | _ :: _, [], h, _ => by simp at h
theorem Rep.size (h : Rep w P adr m vs) : vs.length = m.size := by
  induction h with
  | st parts hp hr ih => exact sizes_eq hp ih
  | arr parts hl hp hes hr ih => rw [flatten_const hes, hp]; rfl
  | _ => rfl
theorem Rep.scalar (h : Rep w P adr m vs) (ha : m.isAgg = false) : ∃ v, vs = [v] := by
  cases h <;> first | exact ⟨_, rfl⟩ | cases ha
theorem valM_cells (h : Rep w P adr m vs) : (valM m vs).cells.toList = vs := by
  unfold valM
  cases ha : m.isAgg with
  | true => rfl
  | false =>
    cases h <;> first | rfl | cases ha
theorem idFrees_get : ∀ {l : List MV}, MV.idFrees l = true → ∀ (j : Nat) m, l[j]? = some m → m.idFree = true
  | [], _, j, m, h => by simp at h
  | x :: l, h, j, m, hj => by
    have h : (x.idFree && MV.idFrees l) = true := h
    rw [Bool.and_eq_true] at h
    cases j with
    | zero => simp at hj; subst hj; exact h.1
    | succ j => exact idFrees_get h.2 j m (by simpa using hj)
theorem Rep.free (h : Rep w P adr m vs) : m.idFree = true → Rep w P noAdr m vs := by
  induction h with
  | int => intro _; exact .int
  | bool => intro _; exact .bool
  | str => intro _; exact .str
  | nilp => intro _; exact .nilp
  | ptr g h => intro h; cases h
  | gp => intro _; exact .gp
  | ep b o vs hc hr ih => intro _; exact .ep b o vs hc hr
  | sl A cap es parts hl hp hes hnn hcap hc hr ih => intro _; exact .sl A cap es parts hl hp hes hnn hcap hc hr
  | nils => intro _; exact .nils
  | ms0 => intro h; cases h
  | ms => intro h; cases h
  | fn parts hp hr ih => intro hf; exact .fn parts hp fun j m p h1 h2 => ih j m p h1 h2 (idFrees_get hf j m h1)
  | nilf => intro _; exact .nilf
  | nili => intro _; exact .nili
  | ifc cs hr ih => intro hf; exact .ifc cs (ih hf)
  | st parts hp hr ih => intro hf; exact .st parts hp fun j m p h1 h2 => ih j m p h1 h2 (idFrees_get hf j m h1)
  | arr parts hl hp hes hr ih => intro _; exact .arr parts hl hp hes hr
theorem Rep.ofNone (h : Rep w P noAdr m vs) : Rep w P adr m vs := h.keep ⟨fun _ _ h => h, fun _ _ _ => rfl, fun _ _ h => (nomatch h), fun _ _ _ _ h => nomatch h⟩
theorem Rep.one (h : Rep w P adr m vs) : ∀ v ∈ vs, v.oneCell' = true := by
  induction h with
  | st parts hp hr ih =>
    intro v hv
    obtain ⟨p, hp1, hv⟩ := List.mem_flatten.1 hv
    obtain ⟨j, hj, rfl⟩ := List.mem_iff_getElem.1 hp1
    exact ih j _ _ (List.getElem?_eq_getElem (by omega)) (List.getElem?_eq_getElem hj) v hv
  | arr parts hl hp hes hr ih =>
    intro v hv
    obtain ⟨p, hp1, hv⟩ := List.mem_flatten.1 hv
    obtain ⟨j, hj, rfl⟩ := List.mem_iff_getElem.1 hp1
    exact ih j _ _ (List.getElem?_eq_getElem (by omega)) (List.getElem?_eq_getElem hj) v hv
  | _ => intro v hv; simp at hv; subst hv; rfl
end
end Go.Proofs.YtllepnadffndnaaDoor
namespace Go.Proofs.YtllepnadffndnaaDoor
open Go.RowKit
def nthM : List MV → Nat → Option MV
  | [], _ => none
  | x :: _, 0 => some x
  | _ :: l, n + 1 => nthM l n
theorem nthM_eq : ∀ (l : List MV) (n : Nat), nthM l n = l[n]?
  | [], _ => by simp [nthM]
  | x :: l, 0 => rfl
  | x :: l, n + 1 => by simp [nthM, nthM_eq l n]
def sizesTo : List MV → Nat → Nat
  | [], _ => 0
  | _, 0 => 0
  | m :: l, n + 1 => m.size + sizesTo l n
def getPO : MV → List Nat → Nat → Option MV
  | m, [], fo => bif Nat.beq fo 0 then some m else none
  | .st l, i :: p, fo => match nthM l i with
    | some m => bif Nat.ble (sizesTo l i) fo then getPO m p (fo - sizesTo l i) else none
    | none => none
  | .arr _ es l, i :: p, fo => match nthM l i with
    | some m => bif Nat.ble (i * es) fo then getPO m p (fo - i * es) else none
    | none => none
  | _, _ :: _, _ => none
def setL : List MV → Nat → MV → List MV
  | [], _, _ => []
  | _ :: l, 0, v => v :: l
  | x :: l, n + 1, v => x :: setL l n v
theorem setL_eq : ∀ (l : List MV) (n : Nat) (v : MV), setL l n v = l.set n v
  | [], _, _ => by simp [setL]
  | x :: l, 0, v => rfl
  | x :: l, n + 1, v => by simp [setL, setL_eq l n v]
def setPO : MV → List Nat → Nat → MV → Option MV
  | m, [], fo, v => bif Nat.beq fo 0 && Nat.beq v.size m.size then (match v.isAgg, m.isAgg with | true, true | false, false => some v | _, _ => none) else none
  | .st l, i :: p, fo, v => match nthM l i with
    | some m => bif Nat.ble (sizesTo l i) fo then (match setPO m p (fo - sizesTo l i) v with | some m' => some (.st (setL l i m')) | none => none) else none
    | none => none
  | .arr n es l, i :: p, fo, v => match nthM l i with
    | some m => bif Nat.ble (i * es) fo && v.idFree then (match setPO m p (fo - i * es) v with | some m' => some (.arr n es (setL l i m')) | none => none) else none
    | none => none
  | _, _ :: _, _, _ => none
section
variable {w w' : World} {P P' : Prot} {adr adr' : Adr} {m r v : MV} {vs cs : List Value}
theorem flatten_split : ∀ {parts : List (List Value)} {i : Nat} {p : List Value}, parts[i]? = some p → parts.flatten = (parts.take i).flatten ++ p ++ (parts.drop (i + 1)).flatten
  | q :: parts, 0, p, h => by simp at h; subst h; simp
  | q :: parts, i + 1, p, h => by
    have := flatten_split (parts := parts) (i := i) (p := p) (by simpa using h)
    simp only [List.flatten_cons, List.take_succ_cons, List.drop_succ_cons]
    rw [this]; simp
  | [], i, p, h => by simp at h
theorem flatten_set : ∀ {parts : List (List Value)} {i : Nat} {p q : List Value}, parts[i]? = some p → (parts.set i q).flatten = (parts.take i).flatten ++ q ++ (parts.drop (i + 1)).flatten
  | x :: parts, 0, p, q, h => by simp
  | x :: parts, i + 1, p, q, h => by
    have := flatten_set (parts := parts) (i := i) (p := p) (q := q) (by simpa using h)
    simp only [List.set_cons_succ, List.flatten_cons, List.take_succ_cons, List.drop_succ_cons]
    rw [this]; simp
  | [], i, p, q, h => by simp at h
theorem sizesTo_eq : ∀ {l : List MV} {parts : List (List Value)} {i : Nat}, parts.length = l.length → (∀ (j : Nat) m p, l[j]? = some m → parts[j]? = some p → p.length = m.size) → (parts.take i).flatten.length = sizesTo l i
  | [], [], i, _, _ => by cases i <;> rfl
  | m :: l, p :: parts, 0, _, _ => rfl
  | m :: l, p :: parts, i + 1, hl, h => by
    rw [List.take_succ_cons, List.flatten_cons, List.length_append, h 0 m p rfl rfl, sizesTo_eq (by simpa using hl) fun j m p h1 h2 => h (j + 1) m p h1 h2]
    rfl
  | [], _ :: _, _, h, _ => by simp at h
  | _ :: _, [], _, h, _ => by simp at h
theorem get_of_len {α β : Type} {l : List α} {parts : List β} (h : parts.length = l.length) {i : Nat} {m : α} (hm : l[i]? = some m) : ∃ p, parts[i]? = some p := by
  have := (List.getElem?_eq_some_iff.1 hm).1
  exact ⟨parts[i]'(by omega), List.getElem?_eq_getElem (by omega)⟩
theorem getPO_rep : ∀ {path : List Nat} {fo : Nat} {m : MV} {vs : List Value} {adr : Adr}, Rep w P adr m vs → getPO m path fo = some r → ∃ pre cs post, vs = pre ++ cs ++ post ∧ pre.length = fo ∧ Rep w P adr r cs
  | [], fo, m, vs, adr, h, hg => by
    have hg : (bif Nat.beq fo 0 then some m else none) = some r := by cases m <;> exact hg
    cases hb : Nat.beq fo 0 with
    | false => rw [hb] at hg; cases hg
    | true =>
      rw [hb] at hg
      have := Nat.eq_of_beq_eq_true hb
      injection hg with hg
      subst hg; subst this
      exact ⟨[], vs, [], by simp, rfl, h⟩
  | i :: p, fo, m, vs, adr, h, hg => by
    cases h with
    | st parts hp hr =>
      rename_i l
      simp only [getPO] at hg
      split at hg
      · rename_i m' hm
        rw [nthM_eq] at hm
        cases hb : Nat.ble (sizesTo l i) fo with
        | false => rw [hb] at hg; cases hg
        | true =>
          rw [hb] at hg
          have hle := Nat.le_of_ble_eq_true hb
          obtain ⟨q, hq⟩ := get_of_len hp hm
          obtain ⟨pre, cs, post, h1, h2, h3⟩ := getPO_rep (hr i m' q hm hq) hg
          have hs := sizesTo_eq (i := i) hp fun j m p h1 h2 => (hr j m p h1 h2).size
          refine ⟨(parts.take i).flatten ++ pre, cs, post ++ (parts.drop (i + 1)).flatten, ?_, ?_, h3⟩
          · rw [flatten_split hq, h1]; simp
          · rw [List.length_append, hs, h2]; omega
      · cases hg
    | arr parts hl hp hes hr =>
      rename_i n es l
      simp only [getPO] at hg
      split at hg
      · rename_i m' hm
        rw [nthM_eq] at hm
        cases hb : Nat.ble (i * es) fo with
        | false => rw [hb] at hg; cases hg
        | true =>
          rw [hb] at hg
          have hle := Nat.le_of_ble_eq_true hb
          obtain ⟨q, hq⟩ := get_of_len (hp.trans hl.symm) hm
          obtain ⟨pre, cs, post, h1, h2, h3⟩ := getPO_rep (hr i m' q hm hq) hg
          have hi := (List.getElem?_eq_some_iff.1 hq).1
          have hs : (parts.take i).flatten.length = i * es := by
            rw [flatten_const (es := es) fun x hx => hes x (List.mem_of_mem_take hx), List.length_take, Nat.min_eq_left (by omega)]
          refine ⟨(parts.take i).flatten ++ pre, cs, post ++ (parts.drop (i + 1)).flatten, ?_, ?_, h3.ofNone⟩
          · rw [flatten_split hq, h1]; simp
          · rw [List.length_append, hs, h2]; omega
      · cases hg
    | _ => simp [getPO] at hg
theorem getElem?_set' {α : Type} {l : List α} {i j : Nat} {x y : α} (h : (l.set i x)[j]? = some y) : (j = i ∧ y = x) ∨ (j ≠ i ∧ l[j]? = some y) := by
  rw [List.getElem?_set] at h
  split at h
  · rename_i e
    split at h
    · injection h with h; exact .inl ⟨e.symm, h.symm⟩
    · cases h
  · rename_i e; exact .inr ⟨fun h => e h.symm, h⟩
theorem setPO_rep : ∀ {path : List Nat} {fo : Nat} {m m' : MV} {vs : List Value} {adr : Adr}, Rep w P adr m vs → setPO m path fo v = some m' → Rep w P adr v cs →
    ∃ pre old post, vs = pre ++ old ++ post ∧ pre.length = fo ∧ old.length = cs.length ∧ Rep w P adr m' (pre ++ cs ++ post) ∧ m'.isAgg = m.isAgg ∧ (m.idFree = true → v.idFree = true → m'.idFree = true)
  | [], fo, m, m', vs, adr, h, hs, hv => by
    have hs2 : (bif Nat.beq fo 0 && Nat.beq v.size m.size then (match v.isAgg, m.isAgg with | true, true | false, false => some v | _, _ => none) else none) = some m' := by cases m <;> exact hs
    clear hs
    cases hb : (Nat.beq fo 0 && Nat.beq v.size m.size) with
    | false => rw [hb] at hs2; cases hs2
    | true =>
      rw [hb] at hs2
      rw [Bool.and_eq_true] at hb
      have h0 := Nat.eq_of_beq_eq_true hb.1
      have h1 := Nat.eq_of_beq_eq_true hb.2
      subst h0
      have hag : v = m' ∧ v.isAgg = m.isAgg := by
        have hs : (match v.isAgg, m.isAgg with | true, true | false, false => some v | _, _ => none) = some m' := hs2
        split at hs
        · rename_i e1 e2; injection hs with hs; exact ⟨hs, e1.trans e2.symm⟩
        · rename_i e1 e2; injection hs with hs; exact ⟨hs, e1.trans e2.symm⟩
        · cases hs
      obtain ⟨rfl, hag⟩ := hag
      exact ⟨[], vs, [], by simp, rfl, by rw [h.size, hv.size, h1], by simpa using hv, hag, fun _ h => h⟩
  | i :: p, fo, m, m', vs, adr, h, hs, hv => by
    cases h with
    | st parts hp hr =>
      rename_i l
      simp only [setPO] at hs
      split at hs
      · rename_i x hx
        rw [nthM_eq] at hx
        cases hb : Nat.ble (sizesTo l i) fo with
        | false => rw [hb] at hs; cases hs
        | true =>
          rw [hb] at hs
          have hle := Nat.le_of_ble_eq_true hb
          simp only [cond_true] at hs
          split at hs
          · rename_i x' hx'
            injection hs with hs
            subst hs
            obtain ⟨q, hq⟩ := get_of_len hp hx
            obtain ⟨pre, old, post, h1, h2, h3, h4, h5, h6⟩ := setPO_rep (hr i x q hx hq) hx' hv
            have hs := sizesTo_eq (i := i) hp fun j m p h1 h2 => (hr j m p h1 h2).size
            refine ⟨(parts.take i).flatten ++ pre, old, post ++ (parts.drop (i + 1)).flatten, ?_, ?_, h3, ?_, rfl, ?_⟩
            · rw [flatten_split hq, h1]; simp
            · rw [List.length_append, hs, h2]; omega
            · have e : (parts.take i).flatten ++ pre ++ cs ++ (post ++ (parts.drop (i + 1)).flatten) = (parts.set i (pre ++ cs ++ post)).flatten := by
                rw [flatten_set hq]; simp
              rw [e, setL_eq]
              refine .st _ (by simpa using hp) fun j y z hy hz => ?_
              rcases getElem?_set' hy with ⟨rfl, rfl⟩ | ⟨hne, hy⟩
              · rcases getElem?_set' hz with ⟨_, rfl⟩ | ⟨hne, _⟩
                · exact h4
                · exact absurd rfl hne
              · rcases getElem?_set' hz with ⟨rfl, _⟩ | ⟨_, hz⟩
                · exact absurd rfl hne
                · exact hr j y z hy hz
            · intro hf hvf
              have key : ∀ {l : List MV} {i : Nat}, MV.idFrees l = true → x'.idFree = true → MV.idFrees (setL l i x') = true := by
                intro l
                induction l with
                | nil => intro i _ _; rfl
                | cons a l ih =>
                  intro i h1 h2
                  have h1 : (a.idFree && MV.idFrees l) = true := h1
                  rw [Bool.and_eq_true] at h1
                  cases i with
                  | zero => show (x'.idFree && MV.idFrees l) = true; rw [h2, h1.2]; rfl
                  | succ i => show (a.idFree && MV.idFrees (setL l i x')) = true; rw [h1.1, ih h1.2 h2]; rfl
              exact key hf (h6 (idFrees_get hf i x hx) hvf)
          · cases hs
      · cases hs
    | arr parts hl hp hes hr =>
      rename_i n es l
      simp only [setPO] at hs
      split at hs
      · rename_i x hx
        rw [nthM_eq] at hx
        cases hb : (Nat.ble (i * es) fo && v.idFree) with
        | false => rw [hb] at hs; cases hs
        | true =>
          rw [hb] at hs
          rw [Bool.and_eq_true] at hb
          have hle := Nat.le_of_ble_eq_true hb.1
          simp only [cond_true] at hs
          split at hs
          · rename_i x' hx'
            injection hs with hs
            subst hs
            obtain ⟨q, hq⟩ := get_of_len (hp.trans hl.symm) hx
            obtain ⟨pre, old, post, h1, h2, h3, h4, h5, h6⟩ := setPO_rep (hr i x q hx hq) hx' (hv.free hb.2)
            have hi := (List.getElem?_eq_some_iff.1 hq).1
            have hs : (parts.take i).flatten.length = i * es := by
              rw [flatten_const (es := es) fun x hx => hes x (List.mem_of_mem_take hx), List.length_take, Nat.min_eq_left (by omega)]
            have hql := hes q (List.mem_of_getElem? hq)
            refine ⟨(parts.take i).flatten ++ pre, old, post ++ (parts.drop (i + 1)).flatten, ?_, ?_, h3, ?_, rfl, fun _ _ => rfl⟩
            · rw [flatten_split hq, h1]; simp
            · rw [List.length_append, hs, h2]; omega
            · have e : (parts.take i).flatten ++ pre ++ cs ++ (post ++ (parts.drop (i + 1)).flatten) = (parts.set i (pre ++ cs ++ post)).flatten := by
                rw [flatten_set hq]; simp
              rw [e, setL_eq]
              refine .arr _ (by simpa using hl) (by simpa using hp) (fun z hz => ?_) fun j y z hy hz => ?_
              · rcases List.mem_or_eq_of_mem_set hz with hz | rfl
                · exact hes z hz
                · rw [h1] at hql
                  simp only [List.length_append] at hql ⊢
                  omega
              · rcases getElem?_set' hy with ⟨rfl, rfl⟩ | ⟨hne, hy⟩
                · rcases getElem?_set' hz with ⟨_, rfl⟩ | ⟨hne, _⟩
                  · exact h4
                  · exact absurd rfl hne
                · rcases getElem?_set' hz with ⟨rfl, _⟩ | ⟨_, hz⟩
                  · exact absurd rfl hne
                  · exact hr j y z hy hz
          · cases hs
      · cases hs
    | _ => simp [setPO] at hs
end
end Go.Proofs.YtllepnadffndnaaDoor
namespace Go.Proofs.YtllepnadffndnaaDoor
open Go.RowKit
structure MB where
  ty : TypeId
  es : Nat
  row : Bool
  pe : Nat
  l : List MV
abbrev FM := Nat → Option MB
def fput {α : Type} (m : Nat → Option α) (c : Nat) (b : α) : Nat → Option α := fun x => if x = c then some b else m x
def fdel {α : Type} (m : Nat → Option α) (c : Nat) : Nat → Option α := fun x => if x = c then none else m x
theorem fput_same {α : Type} (m : Nat → Option α) (c : Nat) (b : α) : fput m c b c = some b := by simp [fput]
theorem fput_ne {α : Type} (m : Nat → Option α) {c x : Nat} (b : α) (h : x ≠ c) : fput m c b x = m x := by simp [fput, h]
theorem fdel_some {α : Type} {m : Nat → Option α} {c x : Nat} {b : α} (h : fdel m c x = some b) : x ≠ c ∧ m x = some b := by
  unfold fdel at h
  split at h
  · cases h
  · exact ⟨by assumption, h⟩
structure HasB (w : World) (P : Prot) (adr : Adr) (b : MB) (g : Nat) : Prop where
  has : ∃ (cur : Array Value) (parts : List (List Value)), w.heap[g]? = some (.cells cur b.ty (0, 0)) ∧ parts.length = b.l.length ∧ (∀ p ∈ parts, p.length = b.es) ∧
    (∀ (j : Nat) x p, b.l[j]? = some x → parts[j]? = some p → Rep w P (if b.row then noAdr else adr) x p) ∧ parts.flatten <+: cur.toList
  pe : ∀ o, P g o → o < b.pe * b.es
  le : b.pe ≤ b.l.length
structure InvM (w : World) (P : Prot) (adr : Adr) (m : FM) : Prop where
  blk : ∀ c b, m c = some b → (b.row = true ∧ b.l = [] ∧ adr c = none ∧ b.pe = 0) ∨ ∃ g, adr c = some g ∧ HasB w P adr b g
  inj : ∀ c c' b b' g, m c = some b → m c' = some b' → adr c = some g → adr c' = some g → c = c'
  prot : ∀ b o, P b o → b < w.heap.size
section
variable {w w' : World} {P P' : Prot} {adr adr' : Adr} {m m' : FM} {b : MB} {g c : Nat}
theorem Keep.sub (k : Keep w w' P P' adr adr') (r : Bool) : Keep w w' P P' (if r then noAdr else adr) (if r then noAdr else adr') := by
  cases r
  · exact k
  · exact k.free
theorem HasB.lt (h : HasB w P adr b g) : g < w.heap.size := by
  obtain ⟨cur, parts, h1, _⟩ := h.has
  exact (Array.getElem?_eq_some_iff.1 h1).1
theorem HasB.keep (h : HasB w P adr b g) (k : Keep w w' P P' adr adr') (hg : w'.heap[g]? = w.heap[g]?) (hp : ∀ o, P' g o → P g o) : HasB w' P' adr' b g := by
  obtain ⟨cur, parts, h1, h2, h3, h4, h5⟩ := h.has
  exact ⟨⟨cur, parts, hg.trans h1, h2, h3, fun j x p hx hq => (h4 j x p hx hq).keep (k.sub b.row), h5⟩, fun o ho => h.pe o (hp o ho), h.le⟩
def protNew (w w' : World) (P : Prot) : Prot := fun b o => P b o ∨ (w.heap.size ≤ b ∧ b < w'.heap.size)
theorem cell_same {b o : Nat} (h : w'.heap[b]? = w.heap[b]?) : w'.cell? ⟨b, o, none⟩ = w.cell? ⟨b, o, none⟩ := World.cell?_of_block (a := ⟨b, o, none⟩) h
theorem Keep.below (hI : ∀ b o, P b o → b < w.heap.size) (hb : Below w.heap.size w w') : Keep w w' P (protNew w w' P) adr adr :=
  ⟨fun _ _ h => .inl h, fun b o h => cell_same (hb.block b (hI b o h)), fun _ _ h => h, fun _c g cur _ty _ hw => ⟨cur, (hb.block g (Array.getElem?_eq_some_iff.1 hw).1).trans hw, rfl⟩⟩
theorem InvM.below (h : InvM w P adr m) (hb : Below w.heap.size w w') : InvM w' (protNew w w' P) adr m := by
  refine ⟨fun c b hc => ?_, h.inj, fun b o hp => ?_⟩
  · rcases h.blk c b hc with h1 | ⟨g, h1, h2⟩
    · exact .inl h1
    · refine .inr ⟨g, h1, h2.keep (Keep.below h.prot hb) (hb.block g h2.lt) fun o ho => ?_⟩
      rcases ho with ho | ho
      · exact ho
      · exact absurd h2.lt (by omega)
  · rcases hp with hp | hp
    · exact Nat.lt_of_lt_of_le (h.prot b o hp) hb.size
    · exact hp.2
theorem Below.alloc1 (w : World) (o : Obj) : Below w.heap.size w (w.alloc o) := (Below.refl _ _).alloc (Nat.le_refl _) _
theorem Keep.below' (hI : ∀ b o, P b o → b < w.heap.size) (hb : Below w.heap.size w w') : Keep w w' P P adr adr :=
  ⟨fun _ _ h => h, fun b o h => cell_same (hb.block b (hI b o h)), fun _ _ h => h, fun _c g cur _ty _ hw => ⟨cur, (hb.block g (Array.getElem?_eq_some_iff.1 hw).1).trans hw, rfl⟩⟩
theorem Keep.adr1 (hc : adr c = none) (g : Nat) : Keep w w P P adr (fput adr c g) :=
  ⟨fun _ _ h => h, fun _ _ _ => rfl, fun x y h => by
    by_cases e : x = c
    · subst e; rw [hc] at h; cases h
    · rw [fput_ne _ _ e]; exact h, fun _ _ cur _ _ h => ⟨cur, h, rfl⟩⟩
theorem InvM.new (h : InvM w P adr m) (hc : adr c = none) (hm : m c = none) (hb : Below w.heap.size w w') {cur : Array Value} {parts : List (List Value)} (hg : w'.heap[w.heap.size]? = some (.cells cur b.ty (0, 0))) (hpl : parts.length = b.l.length) (hpe : ∀ p ∈ parts, p.length = b.es)
    (hr : ∀ (j : Nat) x p, b.l[j]? = some x → parts[j]? = some p → Rep w P (if b.row then noAdr else adr) x p) (hcur : parts.flatten <+: cur.toList) (hle : b.pe ≤ b.l.length) :
    InvM w' P (fput adr c w.heap.size) (fput m c b) ∧ Keep w w' P P adr (fput adr c w.heap.size) := by
  have k : Keep w w' P P adr (fput adr c w.heap.size) := (Keep.below' h.prot hb).trans (Keep.adr1 hc _)
  have hnew : ∀ o, ¬ P w.heap.size o := fun o ho => absurd (h.prot _ _ ho) (Nat.lt_irrefl _)
  refine ⟨⟨fun x y hx => ?_, fun x y bx bY g hx hy hgx hgy => ?_, fun b o hp => Nat.lt_of_lt_of_le (h.prot b o hp) hb.size⟩, k⟩
  · by_cases e : x = c
    · subst e
      rw [fput_same] at hx
      injection hx with hx
      subst hx
      exact .inr ⟨_, fput_same _ _ _, ⟨cur, parts, hg, hpl, hpe, fun j x p h1 h2 => (hr j x p h1 h2).keep (k.sub b.row), hcur⟩, fun o ho => absurd ho (hnew o), hle⟩
    · rw [fput_ne _ _ e] at hx
      rcases h.blk x y hx with h1 | ⟨g, h1, h2⟩
      · exact .inl ⟨h1.1, h1.2.1, by rw [fput_ne _ _ e]; exact h1.2.2.1, h1.2.2.2⟩
      · exact .inr ⟨g, by rw [fput_ne _ _ e]; exact h1, h2.keep k (hb.block g h2.lt) fun o ho => ho⟩
  · have old : ∀ {x : Nat} {bx : MB} {g : Nat}, x ≠ c → fput m c b x = some bx → fput adr c w.heap.size x = some g → m x = some bx ∧ adr x = some g ∧ g < w.heap.size := by
      intro x bx g e hx hg
      rw [fput_ne _ _ e] at hx hg
      rcases h.blk x bx hx with h1 | ⟨g', h1, h2⟩
      · rw [h1.2.2.1] at hg; cases hg
      · rw [h1] at hg; injection hg with hg; subst hg; exact ⟨hx, h1, h2.lt⟩
    by_cases ex : x = c
    · by_cases ey : y = c
      · exact ex.trans ey.symm
      · subst ex
        rw [fput_same] at hgx
        injection hgx with hgx
        obtain ⟨_, _, h3⟩ := old ey hy hgy
        omega
    · by_cases ey : y = c
      · subst ey
        rw [fput_same] at hgy
        injection hgy with hgy
        obtain ⟨_, _, h3⟩ := old ex hx hgx
        omega
      · obtain ⟨a1, a2, _⟩ := old ex hx hgx
        obtain ⟨b1, b2, _⟩ := old ey hy hgy
        exact h.inj x y bx bY g a1 b1 a2 b2
theorem InvM.sub (h : InvM w P adr m) (hs : ∀ c b, m' c = some b → m c = some b) : InvM w P adr m' := ⟨fun c b hc => h.blk c b (hs c b hc), fun c c' b b' g h1 h2 => h.inj c c' b b' g (hs _ _ h1) (hs _ _ h2), h.prot⟩
theorem prefix_get {α : Type} {l r : List α} (h : l <+: r) {j : Nat} {x : α} (hx : l[j]? = some x) : r[j]? = some x := by
  obtain ⟨t, rfl⟩ := h
  rw [List.getElem?_append_left (List.getElem?_eq_some_iff.1 hx).1]
  exact hx
theorem InvM.write (h : InvM w P adr m) {b' : MB} (hlen : b.l.length ≤ b'.l.length) (hm : m c = some b) (ha : adr c = some g) (hty : b'.ty = b.ty) (hes : b'.es = b.es) (hpe : b'.pe = b.pe) {cur cur' : Array Value} (hg : w.heap[g]? = some (.cells cur b.ty (0, 0))) (hsz : cur'.size = cur.size)
    (hsame : ∀ o, P g o → cur'[o]? = cur[o]?) {parts : List (List Value)} (hpl : parts.length = b'.l.length) (hpes : ∀ p ∈ parts, p.length = b'.es)
    (hr : ∀ (j : Nat) x p, b'.l[j]? = some x → parts[j]? = some p → Rep w P (if b'.row then noAdr else adr) x p) (hcur : parts.flatten <+: cur'.toList) :
    InvM (w.setRow g cur') P adr (fput m c b') ∧ Keep w (w.setRow g cur') P P adr adr := by
  have hgw := setRow_heap w g cur cur' b.ty (0, 0) hg
  have k : Keep w (w.setRow g cur') P P adr adr := by
    refine ⟨fun _ _ h => h, fun x o hp => ?_, fun _ _ h => h, fun c' g' cu ty hc hw => ?_⟩
    · by_cases e : x = g
      · subst e
        rw [cell_of_row _ x o cur' b.ty (0, 0) hgw, cell_of_row _ x o cur b.ty (0, 0) hg]
        exact hsame o hp
      · exact cell_same (setRow_other _ _ _ _ e)
    · by_cases e : g' = g
      · subst e
        rw [hg] at hw
        injection hw with hw
        injection hw with h1 h2
        subst h1; subst h2
        exact ⟨cur', hgw, hsz⟩
      · exact ⟨cu, (setRow_other _ _ _ _ e).trans hw, rfl⟩
  refine ⟨⟨fun x y hx => ?_, fun x y bx bY g' hx hy hgx hgy => ?_, fun b o hp => by simpa using h.prot b o hp⟩, k⟩
  · by_cases e : x = c
    · subst e
      rw [fput_same] at hx
      injection hx with hx
      subst hx
      refine .inr ⟨g, ha, ⟨cur', parts, by rw [hty]; exact hgw, hpl, hpes, fun j x p h1 h2 => (hr j x p h1 h2).keep (k.sub b'.row), hcur⟩, fun o ho => ?_, ?_⟩
      rw [hpe, hes]
      rcases h.blk x b hm with h1 | ⟨g', h1, h2⟩
      · rw [ha] at h1; cases h1.2.2.1
      · rw [ha] at h1; injection h1 with h1; subst h1; exact h2.pe o ho
      rw [hpe]
      rcases h.blk x b hm with h1 | ⟨g', h1, h2⟩
      · rw [ha] at h1; cases h1.2.2.1
      · exact Nat.le_trans h2.le hlen
    · rw [fput_ne _ _ e] at hx
      rcases h.blk x y hx with h1 | ⟨g', h1, h2⟩
      · exact .inl h1
      · refine .inr ⟨g', h1, h2.keep k (setRow_other _ _ _ _ fun eg => e ?_) fun o ho => ho⟩
        subst eg
        exact h.inj x c y b g' hx hm h1 ha
  · have old : ∀ {x : Nat} {bx : MB}, fput m c b' x = some bx → ∃ by_, m x = some by_ := by
      intro x bx hx
      by_cases e : x = c
      · subst e; exact ⟨b, hm⟩
      · rw [fput_ne _ _ e] at hx; exact ⟨bx, hx⟩
    obtain ⟨_, h1⟩ := old hx
    obtain ⟨_, h2⟩ := old hy
    exact h.inj x y _ _ g' h1 h2 hgx hgy
theorem InvM.rename {d : Nat} (h : InvM w P adr (fput m c b)) (ha : adr c = some g) (hd : adr d = none) (hm : m d = none) : InvM w P (fput adr d g) (fput (fdel m c) d b) ∧ Keep w w P P adr (fput adr d g) := by
  have k : Keep w w P P adr (fput adr d g) := Keep.adr1 hd g
  have hcd : c ≠ d := by rintro rfl; rw [ha] at hd; cases hd
  have old : ∀ {x : Nat} {y : MB}, x ≠ d → fput (fdel m c) d b x = some y → x ≠ c ∧ fput m c b x = some y := by
    intro x y e hx
    rw [fput_ne _ _ e] at hx
    obtain ⟨h1, h2⟩ := fdel_some hx
    exact ⟨h1, by rw [fput_ne _ _ h1]; exact h2⟩
  refine ⟨⟨fun x y hx => ?_, fun x y bx bY g' hx hy hgx hgy => ?_, h.prot⟩, k⟩
  · by_cases e : x = d
    · subst e
      rw [fput_same] at hx
      injection hx with hx
      subst hx
      rcases h.blk c b (fput_same _ _ _) with h1 | ⟨g', h1, h2⟩
      · rw [ha] at h1; cases h1.2.2.1
      · rw [ha] at h1; injection h1 with h1; subst h1
        exact .inr ⟨g, fput_same _ _ _, h2.keep k rfl fun _ h => h⟩
    · obtain ⟨h1, h2⟩ := old e hx
      rcases h.blk x y h2 with h3 | ⟨g', h3, h4⟩
      · exact .inl ⟨h3.1, h3.2.1, by rw [fput_ne _ _ e]; exact h3.2.2.1, h3.2.2.2⟩
      · exact .inr ⟨g', by rw [fput_ne _ _ e]; exact h3, h4.keep k rfl fun _ h => h⟩
  · by_cases ex : x = d
    · by_cases ey : y = d
      · exact ex.trans ey.symm
      · subst ex
        rw [fput_same] at hgx
        injection hgx with hgx
        obtain ⟨h1, h2⟩ := old ey hy
        rw [fput_ne _ _ ey, ← hgx] at hgy
        exact absurd (h.inj y c _ _ g h2 (fput_same _ _ _) hgy ha) h1
    · by_cases ey : y = d
      · subst ey
        rw [fput_same] at hgy
        injection hgy with hgy
        obtain ⟨h1, h2⟩ := old ex hx
        rw [fput_ne _ _ ex, ← hgy] at hgx
        exact absurd (h.inj x c _ _ g h2 (fput_same _ _ _) hgx ha) h1
      · obtain ⟨_, h2⟩ := old ex hx
        obtain ⟨_, h4⟩ := old ey hy
        rw [fput_ne _ _ ex] at hgx
        rw [fput_ne _ _ ey] at hgy
        exact h.inj x y _ _ g' h2 h4 hgx hgy
theorem InvM.unborn (h : InvM w P adr m) (hc : adr c = none) (hr : b.row = true) (hl : b.l = []) (hpe : b.pe = 0) : InvM w P adr (fput m c b) := by
  refine ⟨fun x y hx => ?_, fun x y bx bY g hx hy hgx hgy => ?_, h.prot⟩
  · by_cases e : x = c
    · subst e
      rw [fput_same] at hx
      injection hx with hx
      subst hx
      exact .inl ⟨hr, hl, hc, hpe⟩
    · rw [fput_ne _ _ e] at hx; exact h.blk x y hx
  · have old : ∀ {x : Nat} {y : MB}, adr x = some g → fput m c b x = some y → m x = some y := by
      intro x y hg hx
      by_cases e : x = c
      · subst e; rw [hc] at hg; cases hg
      · rw [fput_ne _ _ e] at hx; exact hx
    exact h.inj x y _ _ g (old hgx hx) (old hgy hy) hgx hgy
end
end Go.Proofs.YtllepnadffndnaaDoor
namespace Go.Proofs.YtllepnadffndnaaDoor
open Go.RowKit
def tup : List Value → Value
  | [v] => v
  | vs => .tuple vs.toArray
abbrev ContE := Env → Mem → Hist → Prop
section
variable (P : Program) (T : Tab) (N : Nat) (ents : List FuncId)
def putK (dst : Option Tmp) (E : Env) (K : ContE) : Cont := fun sv M H => match dst with
  | none => K E M H
  | some d => match Nat.blt d N with
    | true => K ((d, sv) :: E) M H
    | false => False
def opG (ops : Array Oper) (o : Oper) (K : ContE) : ContE := fun E M H => match o.guard with
  | none => opV P T E M H ents o (putK N o.dst E K)
  | some (j, want) => match (ops[j]?).bind (·.dst) with
    | none => False
    | some s => match E.get s with
      | some (.val (.bool t)) =>
        (t = want → opV P T ((s, .lit want) :: E) M H ents o (putK N o.dst ((s, .lit want) :: E) K)) ∧
        (t = !want → putK N o.dst ((s, .lit (!want)) :: E) K (.val undef) M H)
      | some (.lit t) => match t, want with
        | true, true | false, false => opV P T E M H ents o (putK N o.dst E K)
        | true, false | false, true => putK N o.dst E K (.val undef) M H
      | some (.val (.tuple _)) => putK N o.dst E K (.val undef) M H
      | _ => False
def quietG (M0 : Mem) (H0 : Hist) (C0 : List (Nat × Nat × Nat × SV)) (ops : Array Oper) (o : Oper) (K : ContE) : ContE := fun E M H => match o.guard with
  | none => quietV P T E M0 H0 C0 o fun v => putK N o.dst E K v M H
  | some (j, want) => match (ops[j]?).bind (·.dst) with
    | none => False
    | some s => match E.get s with
      | some (.val (.bool t)) =>
        (t = want → quietV P T ((s, .lit want) :: E) M0 H0 C0 o fun v => putK N o.dst ((s, .lit want) :: E) K v M H) ∧
        (t = !want → putK N o.dst ((s, .lit (!want)) :: E) K (.val undef) M H)
      | some (.lit t) => match t, want with
        | true, true | false, false => quietV P T E M0 H0 C0 o fun v => putK N o.dst E K v M H
        | true, false | false, true => putK N o.dst E K (.val undef) M H
      | some (.val (.tuple _)) => putK N o.dst E K (.val undef) M H
      | _ => False
def vcOps (ops : Array Oper) : List Oper → ContE → ContE
  | [], K => K
  | o :: rest, K => opG P T N ents ops o (vcOps ops rest K)
def keepsH : Hist → Hist → Prop → Prop
  | [], _, X => X
  | p :: r, H, X => p ∈ H ∧ keepsH r H X
def keeps : Mem → Hist → Mem → Hist → Prop → Prop
  | [], H0, _, H, X => keepsH H0 H X
  | (i, kb) :: r, H0, M, H, X => M.find i = some kb ∧ keeps r H0 M H X
inductive Plan where
  | done
  | stop
  | take (i : Nat) (p : Plan)
  | alt (i : Nat) (p q : Plan)
def vcPlan (M0 : Mem) (H0 : Hist) (C0 : List (Nat × Nat × Nat × SV)) (ops : Array Oper) : Plan → ContE → ContE
  | .done, K, E, M, H => K E M H
  | .stop, _, _, _, _ => True
  | .take i p, K, E, M, H => match ops[i]? with | some o => quietG P T N M0 H0 C0 ops o (vcPlan M0 H0 C0 ops p K) E M H | none => False
  | .alt i p .stop, K, E, M, H => match ops[i]? with | some o => opG P T N ents ops o (fun E M H => keeps M0 H0 M H (keepsC C0 M (vcPlan M0 H0 C0 ops p K E M H))) E M H | none => False
  | .alt i p q, K, E, M, H => (match ops[i]? with | some o => opG P T N ents ops o (fun E M H => keeps M0 H0 M H (keepsC C0 M (vcPlan M0 H0 C0 ops p K E M H))) E M H | none => False) ∧ vcPlan M0 H0 C0 ops q K E M H
def Plan.chk (ops : Array Oper) : Plan → Bool → Nat → Array Bool → List Nat → Bool
  | .done, fresh, _, _, rs => fresh && rs.isEmpty
  | .stop, fresh, _, _, rs => !fresh && rs.isEmpty
  | .take i p, fresh, fuel + 1, l, rs => fresh && rs.contains i && Region.free .any ops l i && p.chk ops true fuel (l.setIfInBounds i true) (Region.ready .any ops (l.setIfInBounds i true))
  | .alt i p q, _, fuel + 1, l, rs => rs.contains i && p.chk ops true fuel (l.setIfInBounds i true) (Region.ready .any ops (l.setIfInBounds i true)) && q.chk ops false (fuel + 1) l (rs.filter (· != i))
  | _, _, 0, _, _ => false
def Plan.good (ops : Array Oper) (p : Plan) : Bool := Region.noSelect ops && p.chk ops true ops.size (Array.replicate ops.size false) (Region.ready .any ops (Array.replicate ops.size false))
def Subst : Env → Env → Prop
  | [], _ => True
  | (t, v) :: E', E => (∃ u, E.get t = some u ∧ u.den = v.den) ∧ Subst E' E
def vcC : Code → (Exit → ContE) → ContE
  | .skip, Q, E, M, H => Q .normal E M H
  | .region _ ops draw, Q, E, M, H => match draw with
    | false => vcOps P T N ents ops ops.toList (Q .normal) E M H
    | true => ∃ (E' : Env) (M0 : Mem) (H0 : Hist) (C0 : List (Nat × Nat × Nat × SV)), (Subst E' E ∨ E' = E) ∧ (MSub M0 M ∨ M0 = M) ∧ (∀ p ∈ H0, p ∈ H) ∧ ∃ pl : Plan, pl.good ops = true ∧ keepsC C0 M (vcPlan P T N ents M0 H0 C0 ops pl (Q .normal) E' M H)
  | .seq x y, Q, E, M, H => vcC x (fun e E M H => match e with | .normal => vcC y Q E M H | e => Q e E M H) E M H
  | .cond c x y, Q, E, M, H => withV E c fun v => match v with
    | .val (.bool t) => (t = true → vcC x Q E M H) ∧ (t = false → vcC y Q E M H)
    | .lit true => vcC x Q E M H
    | .lit false => vcC y Q E M H
    | _ => False
  | .block id c, Q, E, M, H => vcC c (fun e E M H => match e with | .exit i => (bif Nat.beq i id then Q .normal E M H else Q (.exit i) E M H) | e => Q e E M H) E M H
  | .loop c, Q, E, M, H => ∃ (X : Type) (E' : X → Env) (M' : X → Mem) (H' : X → Hist) (I : X → Prop) (μ : X → Nat),
      (∀ w, A M H w → ∃ x, I x ∧ Subst (E' x) E ∧ A (M' x) (H' x) w) ∧
      ∀ x, I x → vcC c (fun e E1 M1 H1 => match e with | .normal => ∀ w, A M1 H1 w → ∃ x', I x' ∧ μ x' < μ x ∧ Subst (E' x') E1 ∧ A (M' x') (H' x') w | e => Q e E1 M1 H1) (E' x) (M' x) (H' x)
  | .exit id, Q, E, M, H => Q (.exit id) E M H
  | .ret, Q, E, M, H => Q .ret E M H
  | .label _, Q, E, M, H => Q .normal E M H
  | _, _, _, _, _ => False
def regionOps (n : Nat) : Code → Option (Array Oper)
  | .region id ops _ => bif Nat.beq id n then some ops else none
  | .seq x y => match regionOps n x with | some o => some o | none => regionOps n y
  | .cond _ x y => match regionOps n x with | some o => some o | none => regionOps n y
  | .block _ c => regionOps n c
  | .loop c => regionOps n c
  | _ => none
def opsIn (f : Func) (n : Nat) : Array Oper := match f.body with
  | some c => match regionOps n c with | some o => o | none => #[]
  | none => #[]
def retVals (M : Mem) (H : Hist) (E : Env) : List ResultVar → (List Value → Prop) → Prop
  | [], K => K []
  | .tmp t :: l, K => match E.get t with | some v => retVals M H E l fun r => K (v.den :: r) | none => False
  | .cell p ty :: l, K => match E.get p with | some p => loadV P T M H ty p fun v _ _ => retVals M H E l fun r => K (v.den :: r) | none => False
def retQ (rs : List ResultVar) (R : Ending → World → Prop) : Exit → ContE := fun e E M H => match e with
  | .ret | .normal => retVals P T M H E rs fun vs => ∀ w, A M H w → R (.returned (tup vs)) w
  | _ => False
end
section
variable {P : Program} {T : Tab} {N : Nat} {ents : List FuncId}
def Post (N : Nat) (Q : Exit → ContE) : Exit → Act → World → Prop := fun e a w => ∃ E M H, Q e E M H ∧ Sat N E a ∧ A M H w
theorem putK_out {dst : Option Tmp} {E : Env} {K : ContE} {sv : SV} {M : Mem} {H : Hist} {a : Act} {w : World} (h : putK N dst E K sv M H) (hs : Sat N E a) (hA : A M H w) :
    ∃ E', K E' M H ∧ Sat N E' (a.put dst sv.den) ∧ A M H w := by
  unfold putK at h
  split at h
  · exact ⟨E, h, hs, hA⟩
  · rename_i d
    split at h
    · rename_i hd
      have hd' : d < N := by simpa [Nat.blt_eq] using hd
      exact ⟨_, h, hs.put hd' sv, hA⟩
    · exact h.elim
theorem Sat.know {E : Env} {a : Act} (hs : Sat N E a) {s : Nat} {u v : SV} (hu : E.get s = some u) (he : u.den = v.den) : Sat N ((s, v) :: E) a := by
  refine ⟨hs.defers, hs.size, fun t x hx => ?_⟩
  rw [Env.get_cons] at hx
  split at hx
  · rename_i e
    subst e
    injection hx with hx
    subst hx
    rw [hs.get _ _ hu, he]
  · exact hs.get _ _ hx
theorem opG_out (hS : Seat P T ents) {ops : Array Oper} {o : Oper} {K : ContE} {E : Env} {M : Mem} {H : Hist} {a : Act} {w : World} {next : Act → World → Prop} {Q : Exit → Act → World → Prop}
    (h : opG P T N ents ops o K E M H) (hs : Sat N E a) (hA : A M H w) (hn : ∀ E M H a w, K E M H → Sat N E a → A M H w → next a w) :
    if Region.wanted o (yielded ops a.tmps) then o.wp P a w next Q ∨ (o.asks P a w ∧ LetsOut Q) else next (a.put o.dst undef) w := by
  have run : ∀ {E : Env}, Sat N E a → opV P T E M H ents o (putK N o.dst E K) → o.wp P a w next Q := by
    intro E hs h
    refine (opV_ok hS h hs hA).wp fun sv w' ⟨M', H', hk, hA'⟩ => ?_
    obtain ⟨E', hk', hs', hA''⟩ := putK_out hk hs hA'
    exact hn _ _ _ _ _ hk' hs' hA''
  have skip : ∀ {E : Env}, Sat N E a → putK N o.dst E K (.val undef) M H → next (a.put o.dst undef) w := by
    intro E hs h
    obtain ⟨E', hk', hs', hA''⟩ := putK_out h hs hA
    exact hn _ _ _ _ _ hk' hs' hA''
  unfold opG at h
  split at h
  · rename_i hg
    rw [if_pos (by simp [Region.wanted, hg])]
    exact .inl (run hs h)
  · rename_i j want hg
    split at h
    · exact h.elim
    · rename_i s hj
      split at h
      · rename_i t hE
        have hv := hs.get _ _ hE
        have hy' : yielded ops a.tmps j = some t := by simp [yielded, hj, hv, SV.den]
        by_cases ht : t = want
        · rw [if_pos (by simp [Region.wanted, hg, hy', ht])]
          exact .inl (run (hs.know hE (by rw [ht]; rfl)) (h.1 ht))
        · have ht' : t = !want := by cases t <;> cases want <;> simp_all
          rw [if_neg (by simp [Region.wanted, hg, hy', ht])]
          exact skip (hs.know hE (by rw [ht']; rfl)) (h.2 ht')
      · rename_i t hE
        have hv := hs.get _ _ hE
        have hy' : yielded ops a.tmps j = some t := by simp [yielded, hj, hv, SV.den]
        split at h
        · rw [if_pos (by simp [Region.wanted, hg, hy'])]
          exact .inl (run hs h)
        · rw [if_pos (by simp [Region.wanted, hg, hy'])]
          exact .inl (run hs h)
        · rw [if_neg (by simp [Region.wanted, hg, hy'])]
          exact skip hs h
        · rw [if_neg (by simp [Region.wanted, hg, hy'])]
          exact skip hs h
      · rename_i vs hE
        have hv := hs.get _ _ hE
        have hy' : yielded ops a.tmps j = none := by simp [yielded, hj, hv, SV.den]
        rw [if_neg (by simp [Region.wanted, hg, hy'])]
        exact skip hs h
      · exact h.elim
theorem keepsH_out : ∀ {H0 H : Hist} {X : Prop}, keepsH H0 H X → (∀ p ∈ H0, p ∈ H) ∧ X
  | [], _, _, h => ⟨fun _ hp => (nomatch hp), h⟩
  | _ :: _, _, _, h => ⟨fun p hp => (List.mem_cons.1 hp).elim (fun e => e ▸ h.1) (fun hp => (keepsH_out h.2).1 p hp), (keepsH_out h.2).2⟩
theorem keeps_out : ∀ {M0 M : Mem} {H0 H : Hist} {X : Prop}, keeps M0 H0 M H X → MSub M0 M ∧ (∀ p ∈ H0, p ∈ H) ∧ X
  | [], _, _, _, _, h => ⟨trivial, keepsH_out h⟩
  | _ :: _, _, _, _, _, h => ⟨⟨h.1, (keeps_out h.2).1⟩, (keeps_out h.2).2⟩
theorem quietG_out (hS : Seat P T ents) {M0 : Mem} {H0 : Hist} {C0 : List (Nat × Nat × Nat × SV)} {ops : Array Oper} {o : Oper} {K : ContE} {E : Env} {M : Mem} {H : Hist} {a : Act} {w : World} {next : Act → World → Prop}
    (h : quietG P T N M0 H0 C0 ops o K E M H) (hs : Sat N E a) (hA : A M H w) (hn : ∀ E M H a w, K E M H → Sat N E a → A M H w → next a w) :
    ∃ v, YieldsIf P ops (fun w => A M0 H0 w ∧ CellsOK C0 w) o v a ∧ next (a.put o.dst v) w := by
  have run : ∀ {E : Env}, Region.wanted o (yielded ops a.tmps) = true → Sat N E a → (quietV P T E M0 H0 C0 o fun v => putK N o.dst E K v M H) → ∃ v, YieldsIf P ops (fun w => A M0 H0 w ∧ CellsOK C0 w) o v a ∧ next (a.put o.dst v) w := by
    intro E hw hs h
    obtain ⟨sv, hr, hk⟩ := quietV_out hS.tab h hs
    obtain ⟨E', hk', hs', hA''⟩ := putK_out hk hs hA
    exact ⟨sv.den, .inl ⟨hw, hr⟩, hn _ _ _ _ _ hk' hs' hA''⟩
  have skip : ∀ {E : Env}, Region.wanted o (yielded ops a.tmps) = false → Sat N E a → putK N o.dst E K (.val undef) M H → ∃ v, YieldsIf P ops (fun w => A M0 H0 w ∧ CellsOK C0 w) o v a ∧ next (a.put o.dst v) w := by
    intro E hw hs h
    obtain ⟨E', hk', hs', hA''⟩ := putK_out h hs hA
    exact ⟨undef, .inr ⟨hw, rfl⟩, hn _ _ _ _ _ hk' hs' hA''⟩
  unfold quietG at h
  split at h
  · rename_i hg
    exact run (by simp [Region.wanted, hg]) hs h
  · rename_i j want hg
    split at h
    · exact h.elim
    · rename_i s hj
      split at h
      · rename_i t hE
        have hv := hs.get _ _ hE
        have hy' : yielded ops a.tmps j = some t := by simp [yielded, hj, hv, SV.den]
        by_cases ht : t = want
        · exact run (by simp [Region.wanted, hg, hy', ht]) (hs.know hE (by rw [ht]; rfl)) (h.1 ht)
        · have ht' : t = !want := by cases t <;> cases want <;> simp_all
          exact skip (by simp [Region.wanted, hg, hy', ht]) (hs.know hE (by rw [ht']; rfl)) (h.2 ht')
      · rename_i t hE
        have hv := hs.get _ _ hE
        have hy' : yielded ops a.tmps j = some t := by simp [yielded, hj, hv, SV.den]
        split at h
        · exact run (by simp [Region.wanted, hg, hy']) hs h
        · exact run (by simp [Region.wanted, hg, hy']) hs h
        · exact skip (by simp [Region.wanted, hg, hy']) hs h
        · exact skip (by simp [Region.wanted, hg, hy']) hs h
      · rename_i vs hE
        have hv := hs.get _ _ hE
        have hy' : yielded ops a.tmps j = none := by simp [yielded, hj, hv, SV.den]
        exact skip (by simp [Region.wanted, hg, hy']) hs h
      · exact h.elim
theorem vcOps_ok (hS : Seat P T ents) (ops : Array Oper) : ∀ (l : List Oper) {K : ContE} {E : Env} {M : Mem} {H : Hist} {a : Act} {w : World} {Q : Exit → Act → World → Prop},
    vcOps P T N ents ops l K E M H → Sat N E a → A M H w → (∀ E M H a w, K E M H → Sat N E a → A M H w → Q .normal a w) → wpList P ops Q l a w
  | [], _, E, M, H, a, w, _, h, hs, hA, hQ => hQ E M H a w h hs hA
  | _ :: rest, _, _, _, _, _, _, Q, h, hs, hA, hQ =>
    opG_out hS (next := wpList P ops Q rest) (Q := Q) h hs hA fun _ _ _ _ _ h hs hA => vcOps_ok hS ops rest h hs hA hQ
theorem vcPlan_alt {M0 : Mem} {H0 : Hist} {C0 : List (Nat × Nat × Nat × SV)} {ops : Array Oper} {i : Nat} {p q : Plan} {K : ContE} {E : Env} {M : Mem} {H : Hist} (h : vcPlan P T N ents M0 H0 C0 ops (.alt i p q) K E M H) :
    (∃ o, ops[i]? = some o ∧ opG P T N ents ops o (fun E M H => keeps M0 H0 M H (keepsC C0 M (vcPlan P T N ents M0 H0 C0 ops p K E M H))) E M H) ∧ vcPlan P T N ents M0 H0 C0 ops q K E M H := by
  have one : (match ops[i]? with | some o => opG P T N ents ops o (fun E M H => keeps M0 H0 M H (keepsC C0 M (vcPlan P T N ents M0 H0 C0 ops p K E M H))) E M H | none => False) → ∃ o, ops[i]? = some o ∧ opG P T N ents ops o (fun E M H => keeps M0 H0 M H (keepsC C0 M (vcPlan P T N ents M0 H0 C0 ops p K E M H))) E M H := by
    intro h
    split at h
    · rename_i o ho; exact ⟨o, ho, h⟩
    · exact h.elim
  cases q with
  | stop =>
    refine ⟨?_, trivial⟩
    simp only [vcPlan] at h
    split at h
    · rename_i o ho; exact ⟨o, ho, h⟩
    · exact h.elim
  | done => exact ⟨one h.1, h.2⟩
  | take => exact ⟨one h.1, h.2⟩
  | alt => exact ⟨one h.1, h.2⟩
theorem vcPlan_ok (hS : Seat P T ents) (M0 : Mem) (H0 : Hist) (C0 : List (Nat × Nat × Nat × SV)) (ops : Array Oper) (hsel : Region.noSelect ops = true) {K : ContE} {Q : Exit → Act → World → Prop} (hQ : ∀ E M H a w, K E M H → Sat N E a → A M H w → Q .normal a w) (hno : ∀ c a w, ¬ Q (.panic c) a w) :
    ∀ (p : Plan) {fuel : Nat} {l : Array Bool} {rs : List Nat} {fresh : Bool} {E : Env} {M : Mem} {H : Hist} {a : Act} {w : World}, p.chk ops fresh fuel l rs = true → vcPlan P T N ents M0 H0 C0 ops p K E M H → Sat N E a → A M H w → (A M0 H0 w ∧ CellsOK C0 w) →
      (fresh = true → rs = Region.ready .any ops l → wpAnyH P .any ops Q (fun w => A M0 H0 w ∧ CellsOK C0 w) fuel l a w) ∧ (fresh = false → ∀ i ∈ rs, wpOp P ops Q i (fun a' w' => (A M0 H0 w' ∧ CellsOK C0 w') ∧ wpAnyH P .any ops Q (fun w => A M0 H0 w ∧ CellsOK C0 w) (fuel - 1) (l.setIfInBounds i true) a' w') a w) := by
  intro p
  induction p with
  | done =>
    intro fuel l rs fresh E M H a w hc h hs hA hS0
    simp only [Plan.chk, Bool.and_eq_true, List.isEmpty_iff] at hc
    obtain ⟨hf, rfl⟩ := hc
    refine ⟨fun _ hr => ?_, fun h => by rw [hf] at h; cases h⟩
    have hq := hQ _ _ _ _ _ h hs hA
    cases fuel with
    | zero => exact ⟨hr.symm, hq⟩
    | succ fuel => exact ⟨fun _ => hq, by rw [← hr]; simp⟩
  | stop =>
    intro fuel l rs fresh E M H a w hc h hs hA hS0
    simp only [Plan.chk, Bool.and_eq_true, List.isEmpty_iff, Bool.not_eq_true'] at hc
    obtain ⟨hf, rfl⟩ := hc
    exact ⟨fun h => (by rw [hf] at h; cases h), fun _ => by simp⟩
  | take i p ih =>
    intro fuel l rs fresh E M H a w hc h hs hA hS0
    cases fuel with
    | zero => simp [Plan.chk] at hc
    | succ fuel =>
      simp only [Plan.chk, Bool.and_eq_true] at hc
      obtain ⟨⟨⟨hf, hi⟩, hfree⟩, hc⟩ := hc
      refine ⟨fun _ hr => ?_, fun h => by rw [hf] at h; cases h⟩
      subst hr
      simp only [vcPlan] at h
      split at h
      · rename_i o ho
        obtain ⟨v, hy, hn⟩ := quietG_out hS (next := fun a w => (A M0 H0 w ∧ CellsOK C0 w) → wpAnyH P .any ops Q (fun w => A M0 H0 w ∧ CellsOK C0 w) fuel (l.setIfInBounds i true) a w) h hs hA fun E M H a w h hs hA hS0 => (ih hc h hs hA hS0).1 rfl rfl
        exact wpAnyH_take ho hsel hfree hi (fun c a w hq => absurd hq (hno _ _ _)) hy hS0 (hn hS0)
      · exact h.elim
  | alt i p q ihp ihq =>
    intro fuel l rs fresh E M H a w hc h hs hA hS0
    cases fuel with
    | zero => simp [Plan.chk] at hc
    | succ fuel =>
      simp only [Plan.chk, Bool.and_eq_true] at hc
      obtain ⟨⟨hi, hcp⟩, hcq⟩ := hc
      obtain ⟨⟨o, ho, h1⟩, h2⟩ := vcPlan_alt h
      have key : ∀ j ∈ rs, wpOp P ops Q j (fun a' w' => (A M0 H0 w' ∧ CellsOK C0 w') ∧ wpAnyH P .any ops Q (fun w => A M0 H0 w ∧ CellsOK C0 w) fuel (l.setIfInBounds j true) a' w') a w := by
        intro j hj
        by_cases hji : j = i
        · subst hji
          have := opG_out hS (next := fun a' w' => (A M0 H0 w' ∧ CellsOK C0 w') ∧ wpAnyH P .any ops Q (fun w => A M0 H0 w ∧ CellsOK C0 w) fuel (l.setIfInBounds j true) a' w') (Q := Q) h1 hs hA fun E M H a w h hs hA => by
            obtain ⟨hm, hh, h⟩ := keeps_out h
            obtain ⟨hC, h⟩ := keepsC_out hA h
            have hA0 := And.intro ((hA.sub hm).hist hh) hC
            exact ⟨hA0, (ihp hcp h hs hA hA0).1 rfl rfl⟩
          unfold wpOp
          rw [ho]
          exact this
        · exact (ihq hcq h2 hs hA hS0).2 rfl j (by simp [hj, hji])
      refine ⟨fun _ hr => ?_, fun _ => key⟩
      subst hr
      refine ⟨fun h0 => ?_, key⟩
      rw [h0] at hi
      cases hi
theorem Subst.sat {E : Env} {a : Act} (hs : Sat N E a) : ∀ {E' : Env}, Subst E' E → Sat N E' a
  | [], _ => ⟨hs.defers, hs.size, fun t v h => by simp [Env.get] at h⟩
  | (t, v) :: E', h => by
    obtain ⟨⟨u, hu, he⟩, h'⟩ := h
    have ih := Subst.sat hs h'
    refine ⟨hs.defers, hs.size, fun t' x hx => ?_⟩
    rw [Env.get_cons] at hx
    split at hx
    · rename_i e
      subst e
      injection hx with hx
      subst hx
      rw [hs.get _ _ hu, he]
    · exact ih.get _ _ hx
theorem vcC_ok (hS : Seat P T ents) : ∀ (c : Code) {Q : Exit → ContE} {E : Env} {M : Mem} {H : Hist} {a : Act} {w : World},
    vcC P T N ents c Q E M H → Sat N E a → A M H w → c.wp P (Post N Q) a w := by
  intro c
  induction c with
  | skip => intro Q E M H a w h hs hA; exact wp_skip ⟨E, M, H, h, hs, hA⟩
  | region id ops draw =>
    intro Q E M H a w h hs hA
    cases draw with
    | false => exact wp_region_list (vcOps_ok hS ops _ h hs hA fun E M H a w hk hs hA => ⟨E, M, H, hk, hs, hA⟩)
    | true =>
      obtain ⟨E', M0, H0, C0, hE, hm, hh, pl, hg, h⟩ := h
      have hsE : Sat N E' a := by
        rcases hE with hE | rfl
        · exact hE.sat hs
        · exact hs
      have hm : MSub' M0 M := by
        rcases hm with hm | rfl
        · exact hm.find
        · exact fun _ _ h => h
      obtain ⟨hC, h⟩ := keepsC_out hA h
      simp only [Plan.good, Bool.and_eq_true] at hg
      refine Code.wp_mono (Q := fun e a w => e = .normal ∧ Post N Q .normal a w) (fun e a w hq => by obtain ⟨rfl, hq⟩ := hq; exact hq) ?_
      refine wp_region_held (S := fun w => A M0 H0 w ∧ CellsOK C0 w) hS.mixed ?_
      exact (vcPlan_ok hS M0 H0 C0 ops hg.1 (fun E M H a w h hs hA => ⟨rfl, E, M, H, h, hs, hA⟩) (fun c a w hq => by cases hq.1) pl hg.2 h hsE hA.drew ⟨((hA.sub' hm).hist hh).drew, hC.drew⟩).1 rfl rfl
  | seq x y ihx ihy =>
    intro Q E M H a w h hs hA
    refine wp_seq (Code.wp_mono (fun e a w hq => ?_) (ihx h hs hA))
    obtain ⟨E', M', H', hq, hs', hA'⟩ := hq
    cases e with
    | normal => exact ihy hq hs' hA'
    | _ => exact ⟨E', M', H', hq, hs', hA'⟩
  | cond c x y ihx ihy =>
    intro Q E M H a w h hs hA
    obtain ⟨v, hv, h⟩ := withV_out h
    cases v with
    | ptr => exact h.elim
    | lit t =>
      cases t
      · exact wp_cond_split (hs.ev hv) (fun ht => nomatch ht) (fun _ => ihy h hs hA)
      · exact wp_cond_split (hs.ev hv) (fun _ => ihx h hs hA) (fun ht => nomatch ht)
    | val v =>
      cases v <;> try exact h.elim
      rename_i t
      exact wp_cond_split (hs.ev hv) (fun ht => ihx (h.1 ht) hs hA) (fun ht => ihy (h.2 ht) hs hA)
  | block id c ih =>
    intro Q E M H a w h hs hA
    refine wp_block (Code.wp_mono (fun e a w hq => ?_) (ih h hs hA))
    obtain ⟨E', M', H', hq, hs', hA'⟩ := hq
    cases e with
    | exit i =>
      by_cases hi : i = id
      · subst hi
        simp at hq
        simp only [Exit.inBlock, if_true]
        exact ⟨E', M', H', hq, hs', hA'⟩
      · simp only [beq_ne hi, cond_false] at hq
        simp only [Exit.inBlock, hi, if_false]
        exact ⟨E', M', H', hq, hs', hA'⟩
    | _ => exact ⟨E', M', H', hq, hs', hA'⟩
  | loop c ih =>
    intro Q E M H a w h hs hA
    obtain ⟨X, E', M', H', I, μ, h0, h1⟩ := h
    obtain ⟨x0, hI0, hE0, hA0⟩ := h0 w hA
    intro b k cs
    have key : ∀ n x a w, μ x = n → I x → Sat N (E' x) a → A (M' x) (H' x) w →
        ∃ e a' w', Post N Q e a' w' ∧ Arrives P (lone (b.at a (.code c :: .inLoop c :: k)) cs w) b k cs e a' w' := by
      intro n
      induction n using Nat.strongRecOn with
      | _ n ihn =>
        intro x a w hn hI hs hA
        obtain ⟨e, a₁, w₁, hq, harr⟩ := ih (h1 x hI) hs hA b (.inLoop c :: k) cs
        obtain ⟨E1, M1, H1, hq, hs1, hA1⟩ := hq
        cases e with
        | normal =>
          obtain ⟨x', hI', hlt, hE', hA'⟩ := hq w₁ hA1
          obtain ⟨e₂, a₂, w₂, hq₂, harr₂⟩ := ihn (μ x') (hn ▸ hlt) x' a₁ w₁ rfl hI' (hE'.sat hs1) hA'
          exact ⟨e₂, a₂, w₂, hq₂, .of_steps (Steps.trans harr (.one step_inLoop)) harr₂⟩
        | exit id => exact ⟨_, a₁, w₁, ⟨E1, M1, H1, hq, hs1, hA1⟩, .pass (x := .inLoop c) rfl (fun _ _ => .inl (by simp)) harr⟩
        | goto l => exact ⟨_, a₁, w₁, ⟨E1, M1, H1, hq, hs1, hA1⟩, .pass (x := .inLoop c) rfl (fun _ _ => .inl (by simp)) harr⟩
        | ret => exact ⟨_, a₁, w₁, ⟨E1, M1, H1, hq, hs1, hA1⟩, .pass (x := .inLoop c) rfl (fun _ _ => .inl (by simp)) harr⟩
        | panic ch => exact ⟨_, a₁, w₁, ⟨E1, M1, H1, hq, hs1, hA1⟩, .pass (x := .inLoop c) rfl (fun _ _ => .inl (by simp)) harr⟩
        | outgrown => exact ⟨_, a₁, w₁, ⟨E1, M1, H1, hq, hs1, hA1⟩, .pass (x := .inLoop c) rfl (fun _ _ => .inl (by simp)) harr⟩
    obtain ⟨e, a', w', hq, harr⟩ := key _ x0 a w rfl hI0 (hE0.sat hs) hA0
    exact ⟨e, a', w', hq, .of_steps (.one step_loop) harr⟩
  | exit id => intro Q E M H a w h hs hA; exact wp_exit ⟨E, M, H, h, hs, hA⟩
  | ret => intro Q E M H a w h hs hA; exact wp_ret ⟨E, M, H, h, hs, hA⟩
  | label l => intro Q E M H a w h hs hA; exact wp_label ⟨E, M, H, h, hs, hA⟩
  | rangeFunc => intro Q E M H a w h; exact h.elim
  | scope => intro Q E M H a w h; exact h.elim
  | goto => intro Q E M H a w h; exact h.elim
  | refuse => intro Q E M H a w h; exact h.elim
def resOne (tmps : Array Value) : ResultVar → Sem Value
  | .tmp t => pure (tmps.getD t undef)
  | .cell p t => do loadVar t (← asAddr (tmps.getD p undef))
theorem loadAt_asAddr {ty : TypeId} {v u : Value} {w : World} (h : (Instr.loadAt ty v).run P w = .ok u w) : (do loadVar ty (← asAddr v) : Sem Value).run P w = .ok u w := by
  cases v with
  | pointer ao =>
    cases ao with
    | none => simp [Instr.loadAt, Instr.sureAddr, stuck] at h
    | some a => simpa [Instr.loadAt, Instr.sureAddr, asAddr] using h
  | _ => simp [Instr.loadAt, Instr.sureAddr, stuck] at h
theorem retVals_out (hT : TabOK P T) {M : Mem} {H : Hist} {E : Env} {a : Act} {w : World} (hs : Sat N E a) (hA : A M H w) : ∀ {rs : List ResultVar} {K : List Value → Prop}, retVals P T M H E rs K →
    ∃ vs : List Value, vs.length = rs.length ∧ (∀ (i : Nat) (r : ResultVar), rs[i]? = some r → ∃ v, vs[i]? = some v ∧ (resOne a.tmps r).run P w = .ok v w) ∧ K vs
  | [], K, h => ⟨[], rfl, fun i r hi => by simp at hi, h⟩
  | .tmp t :: l, K, h => by
    unfold retVals at h
    split at h
    · rename_i v hv
      obtain ⟨vs, hl, hi, hK⟩ := retVals_out hT hs hA h
      refine ⟨v.den :: vs, by simp [hl], fun i r hr => ?_, hK⟩
      cases i with
      | zero =>
        simp at hr
        subst hr
        exact ⟨v.den, rfl, by simp [resOne, hs.get _ _ hv]⟩
      | succ i => exact hi i r (by simpa using hr)
    · exact h.elim
  | .cell p ty :: l, K, h => by
    unfold retVals at h
    split at h
    · rename_i pv hv
      obtain ⟨v, hr, M', H', h, hA'⟩ := loadV_out hT h hA
      obtain ⟨vs, hl, hi, hK⟩ := retVals_out hT hs hA h
      refine ⟨v.den :: vs, by simp [hl], fun i r hr' => ?_, hK⟩
      cases i with
      | zero =>
        simp at hr'
        subst hr'
        refine ⟨v.den, rfl, ?_⟩
        have hg' : a.tmps.getD p undef = pv.den := by simp [hs.get _ _ hv]
        simp only [resOne, hg']
        exact loadAt_asAddr hr
      | succ i => exact hi i r (by simpa using hr')
    · exact h.elim
theorem results_out {fn : Func} {rs : List ResultVar} (hrs : fn.results = rs.toArray) (h5 : rs.length ≤ 5) {tmps : Array Value} {w : World} {vs : List Value} (hl : vs.length = rs.length)
    (hi : ∀ (i : Nat) (r : ResultVar), rs[i]? = some r → ∃ v, vs[i]? = some v ∧ (resOne tmps r).run P w = .ok v w) :
    (results fn tmps).run P w = .ok (tup vs) w := by
  have hres : results fn tmps = (do
      let vs ← fn.results.mapM (resOne tmps)
      pure (if h : vs.size = 1 then vs[0] else .tuple vs)) := by
    unfold results
    congr 1
  rw [hres, hrs]
  match rs, vs, h5, hl, hi with
  | [], [], _, _, _ => simp [tup]
  | [r1], [v1], _, _, hi =>
    obtain ⟨u1, e1, r1⟩ := hi 0 _ rfl
    simp at e1; subst e1
    simp [r1, tup]
  | [r1, r2], [v1, v2], _, _, hi =>
    obtain ⟨u1, e1, q1⟩ := hi 0 _ rfl
    obtain ⟨u2, e2, q2⟩ := hi 1 _ rfl
    simp at e1 e2; subst e1; subst e2
    simp [q1, q2, tup]
  | [r1, r2, r3], [v1, v2, v3], _, _, hi =>
    obtain ⟨u1, e1, q1⟩ := hi 0 _ rfl
    obtain ⟨u2, e2, q2⟩ := hi 1 _ rfl
    obtain ⟨u3, e3, q3⟩ := hi 2 _ rfl
    simp at e1 e2 e3; subst e1; subst e2; subst e3
    simp [q1, q2, q3, tup]
  | [r1, r2, r3, r4], [v1, v2, v3, v4], _, _, hi =>
    obtain ⟨u1, e1, q1⟩ := hi 0 _ rfl
    obtain ⟨u2, e2, q2⟩ := hi 1 _ rfl
    obtain ⟨u3, e3, q3⟩ := hi 2 _ rfl
    obtain ⟨u4, e4, q4⟩ := hi 3 _ rfl
    simp at e1 e2 e3 e4; subst e1; subst e2; subst e3; subst e4
    simp [q1, q2, q3, q4, tup]
  | [r1, r2, r3, r4, r5], [v1, v2, v3, v4, v5], _, _, hi =>
    obtain ⟨u1, e1, q1⟩ := hi 0 _ rfl
    obtain ⟨u2, e2, q2⟩ := hi 1 _ rfl
    obtain ⟨u3, e3, q3⟩ := hi 2 _ rfl
    obtain ⟨u4, e4, q4⟩ := hi 3 _ rfl
    obtain ⟨u5, e5, q5⟩ := hi 4 _ rfl
    simp at e1 e2 e3 e4 e5; subst e1; subst e2; subst e3; subst e4; subst e5
    simp [q1, q2, q3, q4, q5, tup]
def envOf : Nat → List SV → Env
  | _, [] => []
  | i, v :: l => (i, v) :: envOf (i + 1) l
theorem envOf_get : ∀ {l : List SV} {i t : Nat} {v : SV}, (envOf i l).get t = some v → i ≤ t ∧ l[t - i]? = some v
  | [], i, t, v, h => by simp [envOf, Env.get] at h
  | x :: l, i, t, v, h => by
    rw [envOf, Env.get_cons] at h
    split at h
    · rename_i e; subst e; injection h with h; subst h; simp
    · rename_i e
      obtain ⟨h1, h2⟩ := envOf_get h
      refine ⟨by omega, ?_⟩
      rw [show t - i = (t - (i + 1)) + 1 by omega]
      simpa using h2
theorem calls_of_vc (hS : Seat P T ents) {f : FuncId} {fn : Func} {c : Code} {rs : List ResultVar} (hf : P.funcs[f]? = some fn) (hb : fn.body = some c) (hrs : fn.results = rs.toArray) (h5 : rs.length ≤ 5) {args : List SV} (hn : args.length ≤ fn.ntmps) (hN : fn.ntmps = N)
    {w : World} {R : Ending → World → Prop} {M : Mem} {H : Hist} (hA : A M H w) (h : vcC P T N ents c (retQ P T rs R) (envOf 0 args) M H) : Calls P f (args.map SV.den).toArray w R := by
  refine calls_of_wp hf hb (Code.wp_mono (fun e a w hq => ?_) (vcC_ok hS c h (a := { tmps := (args.map SV.den).toArray ++ Array.replicate (fn.ntmps - (args.map SV.den).toArray.size) undef, defers := [] }) ⟨rfl, ?_, fun t v ht => ?_⟩ hA))
  · obtain ⟨E', M', H', hq, hs, hA'⟩ := hq
    have fin : ∀ vsK, retVals P T M' H' E' rs vsK → (∀ vs, vsK vs → ∀ w, A M' H' w → R (.returned (tup vs)) w) →
        a.defers = [] ∧ ∃ v, (results fn a.tmps).run P w = .ok v w ∧ R (.returned v) w := by
      intro vsK hv hR
      obtain ⟨vs, hl, hi, hK⟩ := retVals_out hS.tab hs hA' hv
      exact ⟨hs.defers, _, results_out hrs h5 hl hi, hR vs hK w hA'⟩
    cases e with
    | normal => exact fin _ hq fun vs h => h
    | ret => exact fin _ hq fun vs h => h
    | _ => exact hq.elim
  · simp; omega
  · obtain ⟨_, h2⟩ := envOf_get ht
    have hlt := (List.getElem?_eq_some_iff.1 h2).1
    simp at hlt
    rw [Array.getElem?_append_left (by simpa using hlt)]
    simp at h2 ⊢
    exact ⟨v, h2, rfl⟩
end
theorem A.bel {M : Mem} {H : Hist} {w w' : World} (hA : A M H w') (h : (w, fun _ => False) ∈ H) : Below w.heap.size w w' := (hA.since _ h).below
end Go.Proofs.YtllepnadffndnaaDoor
namespace Go.Proofs.YtllepnadffndnaaDoor
open Go.RowKit
theorem wrap_in (n : Int) (h1 : -9223372036854775808 ≤ n) (h2 : n < 9223372036854775808) : IntKind.i64.wrap n = n := by
  rw [IntKind.wrap_i64]; omega
theorem wrapu_in (n : Int) (h1 : 0 ≤ n) (h2 : n < 18446744073709551616) : IntKind.u64.wrap n = n := by
  simp only [IntKind.wrap, IntKind.bits, IntKind.signed]
  simp
  omega
theorem wrap8_in (n : Int) (h1 : 0 ≤ n) (h2 : n < 256) : IntKind.u8.wrap n = n := by
  simp only [IntKind.wrap, IntKind.bits, IntKind.signed]
  simp
  omega
section
variable {P : Program} {T : Tab} {N : Nat} {ents : List FuncId} {M : Mem} {H H' : Hist} {w w' wk : World} {ex : Fp} {base : Nat} {e : TypeId} {es : Nat} {v : Value} {n : Nat} {xs : List Value}
theorem A.cellAt (hA : A M H w) (i : Nat) {b off : Nat} {kb : KB} {v : Value} (hi : M.find i = some kb) (hg : kb.g = b) (hv : nth kb.cs off = some (.val v)) : w.cell? ⟨b, off, none⟩ = some v := by
  subst hg
  rw [(hA.blk i kb hi).cell]
  rw [nth_eq] at hv
  simp [hv, SV.den]
theorem index1 (hT : TabOK P T) {t e' : TypeId} {len : Nat} {d : TD} (hd : Tab.find T t = some (.arr len e' 1)) (he : Tab.find T e' = some d) (ha : d.agg = false) {l : List Value} {k : Nat} {k0 : IntKind} {v : Value} (hk : k < len) (hv : l[k]? = some v) (w : World) :
    (Instr.index t (.agg ⟨l⟩) (.int k0 (k : Int))).run P w = .ok v w := by
  obtain ⟨hu, hs⟩ := TD.fits_arr (hT.fits hd)
  have hi : (0 : Int) ≤ (k : Int) ∧ (k : Int) < (len : Int) := ⟨by omega, by omega⟩
  simp only [Instr.index, asIntOf, Sem.run_bind, Sem.run_pure, Result.andThen_ok, run_underlying hu, hi, and_self, if_true, run_sizeOf_of hs, Int.toNat_natCast, part, TD.fits_agg (hT.fits he), ha]
  simp [hv]
theorem A.now (h : A M H w) : A M ((w, M.gs) :: H) w := h.below (Below.refl _ _)
theorem A.at_start (h : A M H w) {p : World × Fp} (hp : p ∈ H) (i : Nat) {kb : KB} (hi : M.find i = some kb) (hx : ¬ p.2 kb.g) : p.1.heap.size ≤ kb.g := (h.fresh p hp i kb hi).resolve_left hx
theorem Mem.gs_above {g x : Nat} (h : Above M g) (hx : M.gs x) : x < g := by
  obtain ⟨i, kb, hi, rfl⟩ := hx
  exact h i kb hi
theorem ownsRow_since (h : wk.ownsRow base e es v n xs) (hs : Since ex wk w) (hx : ∀ g, v.ownBlock = some g → ¬ ex g) : w.ownsRow base e es v n xs := by
  refine ⟨h.1, ?_⟩
  rcases h.2 with hn | ⟨g, cap, cur, rfl, hb, hgg, rest⟩
  · exact .inl hn
  · refine .inr ⟨g, cap, cur, rfl, hb, ?_, rest⟩
    rw [hs.block g (Array.getElem?_eq_some_iff.1 hgg).1 (hx g rfl)]
    exact hgg
theorem A.grown' {row : Option Nat} (h : A M H w) (hg : w.grownBy w' row) (hM : ∀ i kb, M.find i = some kb → some kb.g ≠ row) (hH : ∀ p ∈ H', p ∈ H ∧ ∀ g, row = some g → p.2 g ∨ p.1.heap.size ≤ g) : A M ((w', M.gs) :: H') w' := by
  have s : Since (fun b => row = some b) w w' := ⟨hg.os, hg.tape, hg.output, hg.size, fun b hb he => hg.block b hb (fun e => he e.symm)⟩
  refine ⟨fun i kb hi => (h.blk i kb hi).grown hg (hM i kb hi), h.apart, fun p hp => ?_, fun p hp i kb hi => ?_⟩
  · rcases List.mem_cons.1 hp with rfl | hp
    · exact Since.refl _ _
    · exact (h.since p (hH p hp).1).step s (fun b e => (hH p hp).2 b e)
  · rcases List.mem_cons.1 hp with rfl | hp
    · exact .inl ⟨i, kb, hi, rfl⟩
    · exact h.fresh p (hH p hp).1 i kb hi
theorem append_mem (hS : Seat P T ents) {M' : Mem} (hM' : MSub M' M) {t ty : TypeId} {by_ : Nat} {zl : List SV} (hd : Tab.find T t = some (.slice e es)) (hby : (P.info? e).map (·.bytes) = some by_) (hz : zeroAcc T 9 e [] = some zl) (hzl : zl.length = es) (hes : 0 < es)
    (hk : (wk, ex) ∈ H) (hown : wk.ownsRow base e es v n xs) (hx : ∀ g, v.ownBlock = some g → ¬ ex g) (hH : ∀ p ∈ H', p ∈ H ∧ p.1.heap.size ≤ base) (hbase : base ≤ wk.heap.size)
    {a : Addr} {m c : Nat} {news : List Value} (hl : news.length = m * es) (hnews : ∀ w, A M H w → ∀ j u, news[j]? = some u → w.cell? (a.add j) = some u) (h1 : ∀ u ∈ news, u.oneCell' = true)
    (h63 : n + m ≤ maxLen) (hbytes : (n + m) * by_ ≤ 140737488355328) {K : Cont} (hK : ∀ v' w', w'.ownsRow base e es v' (n + m) (xs ++ news) → K (.val v') M' ((w', M'.gs) :: H')) :
    memV P M H (Builtin.append_ #[t, t] ty #[v, .slice (some a) m c]) K := by
  intro w hA
  obtain ⟨hu, hs⟩ := TD.fits_slice (hS.tab.fits hd)
  obtain ⟨zv, hzv, hzc⟩ := hS.tab.zero hz w
  cases hi : P.info? e with
  | none => simp [hi] at hby
  | some it =>
    have hby' : it.bytes = by_ := by simpa [hi] using hby
    have hsz : it.size = es := by simpa [sizeB, hi] using hs
    have hit : it.zero = some zv := by
      cases hv : it.zero with
      | none => simp [zeroValue, typeInfo, hi, hv, unsupported] at hzv
      | some v => simp [zeroValue, typeInfo, hi, hv] at hzv; rw [hzv]
    have hsn := hA.since _ hk
    obtain ⟨v', w', hr, ho, hg, _⟩ := run_append_own (P := P) w base t ty e it zv es by_ hu hi hit hsz hby' (by rw [← Array.length_toList, hzc]; simp [hzl]) hes v n xs (ownsRow_since hown hsn hx) a m c news hl (hnews w hA) h1 h63 hbytes (Nat.le_trans hbase hsn.size)
    refine ⟨.val v', w', M', _, hr, ?_, hK v' w' ho⟩
    have hb := hown.lt
    refine (hA.sub hM').grown' hg (fun i kb hi he => ?_) (fun p hp => ⟨(hH p hp).1, fun g hg' => ?_⟩)
    · rcases hA.fresh _ hk i kb (hM'.find i kb hi) with hf | hf
      · exact hx _ he.symm hf
      · have := (hb _ he.symm).2
        have hf : wk.heap.size ≤ kb.g := hf
        omega
    · have := (hb g hg').1
      have := (hH p hp).2
      exact .inr (by omega)
theorem ldS (hT : TabOK P T) {t : TypeId} {d : TD} (hd : Tab.find T t = some d) (ha : d.agg = false) {b o p j : Nat} {cs : List Value} {v : Value} (hr : w.rangeAt b o cs) (hj : cs[j]? = some v) (hp : p = o + j) (hs : Since ex w w') (hx : ¬ ex b) :
    (loadVar t ⟨b, p, none⟩).run P w' = .ok v w' := by
  have hr' := rangeAt_keep (w' := w') hr (fun h => hs.block b h hx)
  exact ld1 hT hd ha hr' hj hp (Below.refl _ _)
theorem Sl.since {α : Type} {r : Rp α} {S : Fp} {a : Option Addr} {xs : List α} (h : Sl r w S a xs) (hs : Since ex w w') (hx : ∀ b, S b → ¬ ex b) : Sl r w' S a xs :=
  h.keep (fun _ h => h) (fun b hS hb => hs.block b hb (hx b hS))
def intsS (k : IntKind) (l : List Int) : List SV := l.map fun n => .val (.int k n)
theorem nth_ints {k : IntKind} {l : List Int} {i : Nat} (h : i < l.length) : nth (intsS k l) i = some (.val (.int k l[i])) := by
  rw [nth_eq, intsS, List.getElem?_map, List.getElem?_eq_getElem h]; rfl
theorem setN_some {α : Type} : ∀ {l : List α} {n : Nat} (v : α), n < l.length → setN l n v = some (l.set n v)
  | [], _, _, h => by simp at h
  | _ :: _, 0, _, _ => rfl
  | x :: l, n + 1, v, h => by
    simp only [setN, setN_some v (show n < l.length by simpa using h)]
    rfl
theorem setN_ints {k : IntKind} {l : List Int} {i : Nat} (n : Int) (h : i < l.length) : setN (intsS k l) i (.val (.int k n)) = some (intsS k (l.set i n)) := by
  rw [setN_some _ (by simpa [intsS] using h)]
  simp [intsS, List.map_set]
theorem setN_at {k : IntKind} {l : List Int} {i j : Nat} (n : Int) (e : i = j) (h : j < l.length) : setN (intsS k l) i (.val (.int k n)) = some (intsS k (l.set j n)) := by subst e; exact setN_ints n h
theorem nth_at {k : IntKind} {l : List Int} {i j : Nat} (e : i = j) (h : j < l.length) : nth (intsS k l) i = some (.val (.int k l[j])) := by subst e; exact nth_ints h
theorem A.start1 {g : Nat} {t : TypeId} {cs : List SV} (hb : Blk w g t (cs.map SV.den).toArray) : A [(0, ⟨g, t, cs⟩)] [(w, fun b => b = g)] w := by
  have one : ∀ i kb, Mem.find [(0, (⟨g, t, cs⟩ : KB))] i = some kb → kb = ⟨g, t, cs⟩ ∧ i = 0 := by
    intro i kb hi
    rw [Mem.find_cons] at hi
    split at hi
    · rename_i e; injection hi with hi; exact ⟨hi.symm, e.symm⟩
    · simp [Mem.find] at hi
  refine ⟨fun i kb hi => ?_, fun i j ki kj hi hj hne => ?_, fun p hp => ?_, fun p hp i kb hi => ?_⟩
  · obtain ⟨rfl, _⟩ := one i kb hi; exact hb
  · exact absurd ((one i ki hi).2.trans (one j kj hj).2.symm) hne
  · simp at hp; subst hp; exact Since.refl _ _
  · simp at hp; subst hp
    obtain ⟨rfl, _⟩ := one i kb hi
    exact .inl rfl
theorem A.wrote (h : A M H w) {i : Nat} {kb : KB} (hi : M.find i = some kb) {cs : List SV} (hs : Since (fun b => b = kb.g) w w') (hb : Blk w' kb.g kb.t (cs.map SV.den).toArray) : A (M.upd i cs) H w' := by
  have key : ∀ {j : Nat} {kj : KB}, (M.upd i cs).find j = some kj → ∃ kj', M.find j = some kj' ∧ kj'.g = kj.g := by
    intro j kj hj
    rw [Mem.find_upd] at hj
    split at hj
    · rename_i e; subst e; rw [hi] at hj; injection hj with hj; subst hj; exact ⟨kb, hi, rfl⟩
    · exact ⟨kj, hj, rfl⟩
  refine ⟨fun j kj hj => ?_, fun j k kj kk hj hk hne => ?_, fun p hp => ?_, fun p hp j kj hj => ?_⟩
  · rw [Mem.find_upd] at hj
    split at hj
    · rename_i e; subst e; rw [hi] at hj; injection hj with hj; subst hj; exact hb
    · rename_i e
      have hne := h.apart i j kb kj hi hj e
      have hbj := h.blk j kj hj
      show w'.heap[kj.g]? = _
      rw [hs.block kj.g hbj.lt (fun e => hne e.symm)]
      exact hbj
  · obtain ⟨a, ha, hag⟩ := key hj
    obtain ⟨b, hb', hbg⟩ := key hk
    rw [← hag, ← hbg]
    exact h.apart j k a b ha hb' hne
  · exact (h.since p hp).step hs (fun b e => by subst e; exact h.fresh p hp i kb hi)
  · obtain ⟨a, ha, hag⟩ := key hj
    rw [← hag]
    exact h.fresh p hp j a ha
theorem A.adopt (h : A M H w) (hb : Below w.heap.size w w') {g : Nat} {t : TypeId} {cs : List SV} (hg : w.heap.size ≤ g) (hk : Blk w' g t (cs.map SV.den).toArray) : A ((newId M, ⟨g, t, cs⟩) :: M) H w' := by
  have h2 := h.below' hb
  refine ⟨fun i kb hi => ?_, fun i j ki kj hi hj hne => ?_, h2.since, fun p hp i kb hi => ?_⟩
  · rw [Mem.find_cons] at hi
    split at hi
    · injection hi with hi; subst hi; exact hk
    · exact h2.blk i kb hi
  · rw [Mem.find_cons] at hi hj
    split at hi <;> split at hj
    · rename_i e1 e2; exact absurd (e1.symm.trans e2) hne
    · injection hi with hi; subst hi
      have := (h.blk j kj hj).lt
      show g ≠ kj.g
      omega
    · injection hj with hj; subst hj
      have := (h.blk i ki hi).lt
      show ki.g ≠ g
      omega
    · exact h.apart i j ki kj hi hj hne
  · rw [Mem.find_cons] at hi
    split at hi
    · injection hi with hi; subst hi
      exact .inr (Nat.le_trans (h.since p hp).size hg)
    · exact h.fresh p hp i kb hi
theorem A.from_start (hA : A M H w) (h : (wk, fun _ => False) ∈ H) (i : Nat) {kb : KB} (hi : M.find i = some kb) : wk.heap.size ≤ kb.g := hA.at_start (p := (wk, fun _ => False)) h i hi (fun h => h)
theorem A.gs_lt (h : A M H w) {b : Nat} (hb : M.gs b) : b < w.heap.size := by
  obtain ⟨i, kb, hi, rfl⟩ := hb
  exact (h.blk i kb hi).lt
theorem A.remember (h : A M H w) (ex : Fp) (hex : ∀ b, M.gs b → ex b) : A M ((w, ex) :: H) w := by
  refine ⟨h.blk, h.apart, fun p hp => ?_, fun p hp i kb hi => ?_⟩
  · rcases List.mem_cons.1 hp with rfl | hp
    · exact Since.refl _ _
    · exact h.since p hp
  · rcases List.mem_cons.1 hp with rfl | hp
    · exact .inl (hex _ ⟨i, kb, hi, rfl⟩)
    · exact h.fresh p hp i kb hi
def SlL {α : Type} (r : Rp α) (w : World) (S : Fp) : List Value → List α → Prop
  | cells, [] => cells = []
  | cells, x :: xs => ∃ c rest, cells = c ++ rest ∧ r.rel w S c x ∧ SlL r w S rest xs
theorem SlL.get {α : Type} {r : Rp α} {S : Fp} : ∀ {cells : List Value} {xs : List α}, SlL r w S cells xs → ∀ (i : Nat) (x : α), xs[i]? = some x → ∃ cs, r.rel w S cs x ∧ ∀ (j : Nat) (v : Value), cs[j]? = some v → cells[i * r.size + j]? = some v
  | cells, [], _, i, x, hx => by simp at hx
  | cells, y :: xs, h, 0, x, hx => by
    obtain ⟨c, rest, rfl, hr, _⟩ := h
    simp at hx
    subst hx
    refine ⟨c, hr, fun j v hj => ?_⟩
    have hlt := (List.getElem?_eq_some_iff.1 hj).1
    rw [Nat.zero_mul, Nat.zero_add, List.getElem?_append_left hlt]
    exact hj
  | cells, y :: xs, h, i + 1, x, hx => by
    obtain ⟨c, rest, rfl, hr, h'⟩ := h
    obtain ⟨cs, h1, h2⟩ := SlL.get h' i x (by simpa using hx)
    refine ⟨cs, h1, fun j v hj => ?_⟩
    have hl := r.len hr
    rw [Nat.succ_mul, List.getElem?_append_right (by omega), show i * r.size + r.size + j - c.length = i * r.size + j by omega]
    exact h2 j v hj
theorem SlL.append {α : Type} {r : Rp α} {S : Fp} : ∀ {a b : List Value} {xs ys : List α}, SlL r w S a xs → SlL r w S b ys → SlL r w S (a ++ b) (xs ++ ys)
  | a, b, [], ys, ha, hb => by
    have ha : a = [] := ha
    subst ha
    exact hb
  | a, b, x :: xs, ys, ha, hb => by
    obtain ⟨c, rest, rfl, hr, h'⟩ := ha
    exact ⟨c, rest ++ b, by simp, hr, h'.append hb⟩
theorem Sl.of_blk {α : Type} {r : Rp α} {S : Fp} {g : Nat} {t : TypeId} {cells : List Value} {xs : List α} (hb : Blk w g t cells.toArray) (hS : S g) (h : SlL r w S cells xs) (hn : xs.length ≤ 140737488355328) : Sl r w S (some ⟨g, 0, none⟩) xs := by
  refine ⟨hn, fun _ => ⟨g, 0, rfl, hS, fun i x hx => ?_⟩⟩
  obtain ⟨cs, h1, h2⟩ := h.get i x hx
  refine ⟨cs, h1, fun j v hj => ?_⟩
  rw [hb.cell]
  have := h2 j v hj
  simp only [Nat.zero_add, List.getElem?_toArray]
  exact this
theorem Sl.of_own {α : Type} {r : Rp α} {S : Fp} {cells : List Value} {ys : List α} (h : w.ownsRow base e r.size v n cells) (hS : ∀ b, base ≤ b → b < w.heap.size → S b) (hl : SlL r w S cells ys) (hy : ys.length = n) (hn : n ≤ 140737488355328) :
    ∃ A' c', v = .slice A' ys.length c' ∧ Sl r w S A' ys := by
  rcases h.2 with ⟨rfl, rfl⟩ | ⟨g, cap, cur, rfl, hb, hgg, hnc, hcm, hcs, htk⟩
  · have : ys = [] := List.length_eq_zero_iff.1 hy
    subst this
    exact ⟨none, 0, rfl, Sl.nil_ _ _ _⟩
  · refine ⟨some ⟨g, 0, none⟩, cap, by rw [hy], by omega, fun _ => ⟨g, 0, rfl, hS g hb (Array.getElem?_eq_some_iff.1 hgg).1, fun i x hx => ?_⟩⟩
    obtain ⟨cs, h1, h2⟩ := hl.get i x hx
    refine ⟨cs, h1, fun j v hj => ?_⟩
    have h3 := h2 j v hj
    rw [← htk, List.getElem?_take] at h3
    split at h3
    · rw [show w.cell? ⟨g, 0 + i * r.size + j, none⟩ = cur[0 + i * r.size + j]? from cell_of_row w g _ cur e (0, 0) hgg]
      simpa using h3
    · cases h3
end
end Go.Proofs.YtllepnadffndnaaDoor
namespace Go.Proofs.YtllepnadffndnaaDoor
open Go.RowKit
def segsOk (T : Tab) : List (Nat × TypeId) → Nat → Nat → Bool
  | [], b, sz => Nat.beq b sz
  | (o, t) :: fs, b, sz => Nat.beq o b && match Tab.find T t with | some d => segsOk T fs (b + d.size) sz | none => false
def flatB (P : Program) (T : Tab) : Nat → TypeId → Bool
  | 0, _ => false
  | f + 1, t => match Tab.find T t with
    | some (.int _) => true
    | some .bool => true
    | some .str => true
    | some (.arr _ e es) => Nat.blt 0 es && flatB P T f e
    | some (.struct fs sz) => !P.stoodInHeld t && (P.fieldsOf t).toList.all (fun x => !(x.name == "_")) && segsOk T fs 0 sz && fs.all (fun x => flatB P T f x.2)
    | _ => false
def confT (T : Tab) : Nat → TypeId → List Value → Prop
  | 0, _, _ => False
  | f + 1, t, cs => match Tab.find T t with
    | some (.int k) => ∃ n, cs = [.int k n]
    | some .bool => ∃ b, cs = [.bool b]
    | some .str => ∃ s, cs = [.string s]
    | some (.arr n e es) => cs.length = n * es ∧ ∀ i, i < n → confT T f e ((cs.drop (i * es)).take es)
    | some (.struct fs sz) => cs.length = sz ∧ fs.foldr (fun x K => (match Tab.find T x.2 with | some d => confT T f x.2 ((cs.drop x.1).take d.size) | none => False) ∧ K) True
    | _ => False
def confB (T : Tab) : Nat → TypeId → List Value → Bool
  | 0, _, _ => false
  | f + 1, t, cs => match Tab.find T t with
    | some (.int k) => match cs with | [.int j _] => Nat.beq (kid j) (kid k) | _ => false
    | some .bool => match cs with | [.bool _] => true | _ => false
    | some .str => match cs with | [.string _] => true | _ => false
    | some (.arr n e es) => Nat.beq cs.length (n * es) && (List.range n).all fun i => confB T f e ((cs.drop (i * es)).take es)
    | some (.struct fs sz) => Nat.beq cs.length sz && fs.foldr (fun x K => (match Tab.find T x.2 with | some d => confB T f x.2 ((cs.drop x.1).take d.size) | none => false) && K) true
    | _ => false
theorem confB_out {T : Tab} : ∀ {f : Nat} {t : TypeId} {cs : List Value}, confB T f t cs = true → confT T f t cs
  | 0, _, _, h => by cases h
  | f + 1, t, cs, h => by
    unfold confB at h
    unfold confT
    split at h
    · rename_i k hd
      split at h
      · rename_i j n
        have := kid_inj h
        subst this
        exact ⟨n, rfl⟩
      · cases h
    · split at h
      · exact ⟨_, rfl⟩
      · cases h
    · split at h
      · exact ⟨_, rfl⟩
      · cases h
    · simp only [Bool.and_eq_true, List.all_eq_true, List.mem_range] at h
      exact ⟨Nat.eq_of_beq_eq_true h.1, fun i hi => confB_out (h.2 i hi)⟩
    · rename_i fs sz hd
      simp only [Bool.and_eq_true] at h
      refine ⟨Nat.eq_of_beq_eq_true h.1, ?_⟩
      have h2 := h.2
      clear h hd
      induction fs with
      | nil => trivial
      | cons x fs ih =>
        simp only [List.foldr_cons, Bool.and_eq_true] at h2 ⊢
        refine ⟨?_, ih h2.2⟩
        have h3 := h2.1
        split at h3
        · exact confB_out h3
        · cases h3
    · cases h
theorem conf_ints {T : Tab} {f n : Nat} {t e : TypeId} {k : IntKind} (hd : Tab.find T t = some (.arr n e 1)) (he : Tab.find T e = some (.int k)) {l : List Int} (hl : l.length = n) : confT T (f + 2) t (l.map (Value.int k)) := by
  unfold confT
  rw [hd]
  refine ⟨by simp [hl], fun i hi => ?_⟩
  unfold confT
  rw [he]
  have hi' : i < l.length := by omega
  refine ⟨l[i], ?_⟩
  simp only [Nat.mul_one]
  rw [List.drop_eq_getElem_cons (by simpa using hi')]
  simp
def valOf (T : Tab) (t : TypeId) (cs : List Value) : Value := match Tab.find T t with
  | some d => match d.agg with | true => .agg ⟨cs⟩ | false => cs.headD undef
  | none => undef
section
variable {P : Program} {T : Tab}
theorem run_part (hT : TabOK P T) {t : TypeId} {d : TD} (hd : Tab.find T t = some d) {xs : List Value} {off : Nat} (hl : ((xs.drop off).take d.size).length = d.size) (hpos : d.agg = false → d.size = 1) (w : World) :
    (part t ⟨xs⟩ off).run P w = .ok (valOf T t ((xs.drop off).take d.size)) w := by
  have hsd := TD.fits_size (hT.fits hd)
  unfold valOf
  rw [hd]
  cases ha : d.agg with
  | true =>
    simp only [part, Sem.run_bind, TD.fits_agg (hT.fits hd), ha, Result.andThen_ok, if_true, run_sizeOf_of hsd, Sem.run_pure]
    simp [List.extract]
  | false =>
    rw [hpos ha] at hl ⊢
    simp only [part, Sem.run_bind, TD.fits_agg (hT.fits hd), ha, Result.andThen_ok, Bool.false_eq_true, if_false]
    have h1 : off < xs.length := by
      rw [List.length_take, List.length_drop] at hl
      omega
    have e : (List.take 1 (List.drop off xs)) = [xs[off]] := by rw [List.drop_eq_getElem_cons h1]; rfl
    rw [e]
    simp [h1]
theorem TD.size_one {d : TD} (h : d.agg = false) : d.size = 1 := by cases d <;> first | rfl | (simp [TD.agg] at h)
theorem conf_len {f : Nat} {t : TypeId} {d : TD} {cs : List Value} (hd : Tab.find T t = some d) (h : confT T f t cs) : cs.length = d.size := by
  cases f with
  | zero => exact h.elim
  | succ f =>
    unfold confT at h
    rw [hd] at h
    cases d with
    | int k => obtain ⟨n, rfl⟩ := h; rfl
    | bool => obtain ⟨n, rfl⟩ := h; rfl
    | str => obtain ⟨n, rfl⟩ := h; rfl
    | arr n e es => exact h.1
    | struct fs sz => exact h.1
    | ptr => exact h.elim
    | slice => exact h.elim
    | fn => exact h.elim
    | other => exact h.elim
    | iface => exact h.elim
theorem segs_eq {xs ys : List Value} {sz : Nat} (hx : xs.length = sz) (hy : ys.length = sz) : ∀ {fs : List (Nat × TypeId)} {b : Nat}, segsOk T fs b sz = true → xs.take b = ys.take b →
    (∀ x ∈ fs, ∀ d, Tab.find T x.2 = some d → (xs.drop x.1).take d.size = (ys.drop x.1).take d.size) → xs = ys
  | [], b, h, h1, _ => by
    have := Nat.eq_of_beq_eq_true h
    subst this
    rw [List.take_of_length_le (by omega), List.take_of_length_le (by omega)] at h1
    exact h1
  | (o, t) :: fs, b, h, h1, h2 => by
    simp only [segsOk, Bool.and_eq_true] at h
    obtain ⟨ho, h⟩ := h
    have := Nat.eq_of_beq_eq_true ho
    subst this
    split at h
    · rename_i d hd
      refine segs_eq hx hy h ?_ (fun x hx => h2 x (List.mem_cons_of_mem _ hx))
      rw [List.take_add, List.take_add, h1, h2 _ List.mem_cons_self d hd]
    · cases h
theorem rows_eq {xs ys : List Value} {n es : Nat} (hes : 0 < es) (hx : xs.length = n * es) (hy : ys.length = n * es) (h : ∀ i, i < n → (xs.drop (i * es)).take es = (ys.drop (i * es)).take es) : xs = ys := by
  refine List.ext_getElem? fun j => ?_
  by_cases hj : j < n * es
  · have hi : j / es < n := (Nat.div_lt_iff_lt_mul hes).2 hj
    have h1 := congrArg (fun l => l[j % es]?) (h _ hi)
    simp only [List.getElem?_take, List.getElem?_drop, if_pos (Nat.mod_lt j hes)] at h1
    have e : j / es * es + j % es = j := by rw [Nat.mul_comm]; exact Nat.div_add_mod j es
    rw [e] at h1
    exact h1
  · rw [List.getElem?_eq_none (by omega), List.getElem?_eq_none (by omega)]
def EqRun (P : Program) (T : Tab) (D : Nat) (t : TypeId) (xs ys : List Value) : Prop := ∃ b : Bool, (∀ w, (Op.equalIn D t (valOf T t xs) (valOf T t ys)).run P w = .ok b w) ∧ (b = true ↔ xs = ys)
theorem eq_items (hT : TabOK P T) {D : Nat} {e : TypeId} {d : TD} (hd : Tab.find T e = some d) {xs ys : List Value} :
    ∀ {is : List Nat}, (∀ i ∈ is, ((xs.drop (i * d.size)).take d.size).length = d.size ∧ ((ys.drop (i * d.size)).take d.size).length = d.size ∧ EqRun P T D e ((xs.drop (i * d.size)).take d.size) ((ys.drop (i * d.size)).take d.size)) →
      ∃ b : Bool, (∀ w, (Op.eqItems D e d.size ⟨xs⟩ ⟨ys⟩ is).run P w = .ok b w) ∧ (b = true ↔ ∀ i ∈ is, (xs.drop (i * d.size)).take d.size = (ys.drop (i * d.size)).take d.size)
  | [], _ => ⟨true, fun w => by simp [Op.eqItems], by simp⟩
  | i :: is, h => by
    obtain ⟨hx, hy, b, hr, hb⟩ := h i List.mem_cons_self
    obtain ⟨b', hr', hb'⟩ := eq_items hT hd (is := is) (fun j hj => h j (List.mem_cons_of_mem _ hj))
    cases b with
    | false =>
      refine ⟨false, fun w => ?_, ?_⟩
      · simp only [Op.eqItems, Sem.run_bind, run_part hT hd hx TD.size_one, run_part hT hd hy TD.size_one, hr, Result.andThen_ok]
        simp
      · simp only [List.mem_cons, forall_eq_or_imp, Bool.false_eq_true, false_iff, not_and]
        intro e
        exact absurd (hb.2 e) (by simp)
    | true =>
      refine ⟨b', fun w => ?_, ?_⟩
      · simp only [Op.eqItems, Sem.run_bind, run_part hT hd hx TD.size_one, run_part hT hd hy TD.size_one, hr, Result.andThen_ok]
        simpa using hr' w
      · simp only [List.mem_cons, forall_eq_or_imp]
        rw [hb']
        exact ⟨fun h => ⟨hb.1 rfl, h⟩, fun h => h.2⟩
theorem eq_fields (hT : TabOK P T) {D : Nat} {xs ys : List Value} :
    ∀ {fs : List Field}, (∀ f ∈ fs, (f.name == "_") = false ∧ ∃ d, Tab.find T f.type = some d ∧ ((xs.drop f.offset).take d.size).length = d.size ∧ ((ys.drop f.offset).take d.size).length = d.size ∧ EqRun P T D f.type ((xs.drop f.offset).take d.size) ((ys.drop f.offset).take d.size)) →
      ∃ b : Bool, (∀ w, (Op.eqFields D ⟨xs⟩ ⟨ys⟩ fs).run P w = .ok b w) ∧ (b = true ↔ ∀ f ∈ fs, ∀ d, Tab.find T f.type = some d → (xs.drop f.offset).take d.size = (ys.drop f.offset).take d.size)
  | [], _ => ⟨true, fun w => by simp [Op.eqFields], by simp⟩
  | f :: fs, h => by
    obtain ⟨hn, d, hd, hx, hy, b, hr, hb⟩ := h f List.mem_cons_self
    obtain ⟨b', hr', hb'⟩ := eq_fields hT (fs := fs) (fun j hj => h j (List.mem_cons_of_mem _ hj))
    have hn' : f.name ≠ "_" := by simpa using hn
    cases b with
    | false =>
      refine ⟨false, fun w => ?_, ?_⟩
      · simp only [Op.eqFields, if_pos hn', Sem.run_bind, run_part hT hd hx TD.size_one, run_part hT hd hy TD.size_one, hr, Result.andThen_ok]
        simp
      · simp only [List.mem_cons, forall_eq_or_imp, Bool.false_eq_true, false_iff, not_and]
        intro e
        exact absurd (hb.2 (e d hd)) (by simp)
    | true =>
      refine ⟨b', fun w => ?_, ?_⟩
      · simp only [Op.eqFields, if_pos hn', Sem.run_bind, run_part hT hd hx TD.size_one, run_part hT hd hy TD.size_one, hr, Result.andThen_ok]
        simpa using hr' w
      · simp only [List.mem_cons, forall_eq_or_imp]
        rw [hb']
        refine ⟨fun h => ⟨fun d' hd' => ?_, h⟩, fun h => h.2⟩
        rw [hd] at hd'
        injection hd' with hd'
        subst hd'
        exact hb.1 rfl
theorem foldr_mem {T : Tab} {f : Nat} {cs : List Value} : ∀ {fs : List (Nat × TypeId)}, fs.foldr (fun x K => (match Tab.find T x.2 with | some d => confT T f x.2 ((cs.drop x.1).take d.size) | none => False) ∧ K) True → ∀ x ∈ fs, ∃ d, Tab.find T x.2 = some d ∧ confT T f x.2 ((cs.drop x.1).take d.size)
  | [], _, x, hx => by cases hx
  | y :: fs, h, x, hx => by
    simp only [List.foldr_cons] at h
    rcases List.mem_cons.1 hx with rfl | hx
    · have h1 := h.1
      split at h1
      · rename_i d hd; exact ⟨d, hd, h1⟩
      · exact h1.elim
    · exact foldr_mem h.2 x hx
theorem size_of_find (hT : TabOK P T) {e : TypeId} {d : TD} {es : Nat} (hd : Tab.find T e = some d) (hs : sizeB P e es = true) : d.size = es := by
  have hsd := TD.fits_size (hT.fits hd)
  unfold sizeB at hs hsd
  split at hs
  · rename_i i hi'; rw [hi'] at hsd; simp at hs hsd; omega
  · cases hs
theorem eq_flat (hT : TabOK P T) : ∀ (f : Nat) {t : TypeId}, flatB P T f t = true → ∀ {D : Nat}, f ≤ D → ∀ {xs ys : List Value}, confT T f t xs → confT T f t ys → EqRun P T D t xs ys
  | 0, _, h, _, _, _, _, _, _ => by cases h
  | f + 1, t, h, D, hD, xs, ys, hx, hy => by
    obtain ⟨D, rfl⟩ : ∃ D', D = D' + 1 := ⟨D - 1, by omega⟩
    unfold flatB at h
    unfold EqRun
    have hx0 := hx
    have hy0 := hy
    unfold confT at hx hy
    unfold valOf
    split at h
    · rename_i k hd
      rw [hd] at hx hy ⊢
      obtain ⟨a, rfl⟩ := hx
      obtain ⟨b, rfl⟩ := hy
      exact ⟨a == b, fun w => run_equalIn_int w D t k k a b (TD.fits_int (hT.fits hd)), by simp⟩
    · rename_i hd
      rw [hd] at hx hy ⊢
      obtain ⟨a, rfl⟩ := hx
      obtain ⟨b, rfl⟩ := hy
      exact ⟨a == b, fun w => run_equalIn_bool' w D t a b (TD.fits_bool (hT.fits hd)), by simp⟩
    · rename_i hd
      rw [hd] at hx hy ⊢
      obtain ⟨a, rfl⟩ := hx
      obtain ⟨b, rfl⟩ := hy
      refine ⟨a.toList == b.toList, fun w => run_equalIn_string w D t a b (TD.fits_str (hT.fits hd)), ?_⟩
      rw [ByteArray.toList_eq, ByteArray.toList_eq]
      obtain ⟨⟨x⟩⟩ := a
      obtain ⟨⟨y⟩⟩ := b
      simp
    · rename_i n e es hd
      simp only [Bool.and_eq_true] at h
      obtain ⟨hpos, hf⟩ := h
      have hpos : 0 < es := by simpa [Nat.blt_eq] using hpos
      rw [hd] at hx hy ⊢
      obtain ⟨lx, cx⟩ := hx
      obtain ⟨ly, cy⟩ := hy
      obtain ⟨hu, hs⟩ := TD.fits_arr (hT.fits hd)
      obtain ⟨i, hi⟩ : ∃ i, P.info? e = some i := by
        unfold sizeB at hs
        split at hs
        · rename_i i hi; exact ⟨i, hi⟩
        · cases hs
      cases hde : Tab.find T e with
      | none =>
        cases f with
        | zero => cases hf
        | succ f => unfold flatB at hf; rw [hde] at hf; cases hf
      | some d =>
        have hes := size_of_find hT hde hs
        subst hes
        have hc : P.cellsOf e = d.size := by
          have := TD.fits_size (hT.fits hde)
          unfold sizeB at this
          rw [hi] at this
          simp at this
          simp [Program.cellsOf, hi, this]
        have hseg : ∀ (zs : List Value), zs.length = n * d.size → ∀ i, i < n → ((zs.drop (i * d.size)).take d.size).length = d.size := by
          intro zs hz i hi
          rw [List.length_take, List.length_drop, hz]
          have : (i + 1) * d.size ≤ n * d.size := Nat.mul_le_mul_right _ hi
          rw [Nat.succ_mul] at this
          omega
        obtain ⟨b, hr, hb⟩ := eq_items hT hde (D := D) (xs := xs) (ys := ys) (is := List.range n) (fun i hi => by
          have hi := List.mem_range.1 hi
          exact ⟨hseg xs lx i hi, hseg ys ly i hi, eq_flat hT f hf (by omega) (cx i hi) (cy i hi)⟩)
        refine ⟨b, fun w => ?_, ?_⟩
        · have := run_equalIn_array (P := P) w D (t := t) (e := e) (n := n) (i := i) ⟨xs⟩ ⟨ys⟩ hu hi
          rw [hc] at this
          exact this.trans (hr w)
        · rw [hb]
          constructor
          · intro h
            exact rows_eq hpos lx ly fun i hi => h i (List.mem_range.2 hi)
          · rintro rfl i _; rfl
    · rename_i fs sz hd
      simp only [Bool.and_eq_true, Bool.not_eq_true'] at h
      obtain ⟨⟨⟨hst, hnm⟩, hsg⟩, hfl⟩ := h
      rw [hd] at hx hy ⊢
      obtain ⟨lx, cx⟩ := hx
      obtain ⟨ly, cy⟩ := hy
      obtain ⟨fields, hu, hfs, _, _⟩ := TD.fits_struct (hT.fits hd)
      have hfo : P.fieldsOf t = fields := by simp [Program.fieldsOf, hu]
      have hu' : P.underlying t = some (.struct (P.fieldsOf t)) := by rw [hfo]; exact hu
      have mem : ∀ g ∈ fields.toList, (g.offset, g.type) ∈ fs := by
        intro g hg
        rw [← hfs]
        exact List.mem_map.2 ⟨g, hg, rfl⟩
      obtain ⟨b, hr, hb⟩ := eq_fields hT (D := D) (xs := xs) (ys := ys) (fs := (P.fieldsOf t).toList) (fun g hg => by
        refine ⟨by simpa using List.all_eq_true.1 hnm g hg, ?_⟩
        rw [hfo] at hg
        have hm := mem g hg
        obtain ⟨d, hdg, hcx⟩ := foldr_mem cx _ hm
        obtain ⟨d', hdg', hcy⟩ := foldr_mem cy _ hm
        rw [hdg] at hdg'
        injection hdg' with e
        subst e
        exact ⟨d, hdg, conf_len hdg hcx, conf_len hdg hcy, eq_flat hT f (List.all_eq_true.1 hfl _ hm) (by omega) hcx hcy⟩)
      refine ⟨b, fun w => ?_, ?_⟩
      · exact (run_equalIn_agg w D t ⟨xs⟩ ⟨ys⟩ hu' hst).trans (hr w)
      · rw [hb]
        constructor
        · intro h
          refine segs_eq lx ly hsg (by simp) fun x hx d hdx => ?_
          rw [← hfs] at hx
          obtain ⟨g, hg, rfl⟩ := List.mem_map.1 hx
          rw [← hfo] at hg
          exact h g hg d hdx
        · rintro rfl f _ d _; rfl
    · cases h
theorem run_eq_flat (hT : TabOK P T) {t : TypeId} {d : TD} (hd : Tab.find T t = some d) (ha : d.agg = true) (hf : flatB P T 9 t = true) (hg : P.eqGuardType P.depth t = false) (x y : Operand) {xs ys : List Value} (hx : confT T 9 t xs) (hy : confT T 9 t ys) :
    ∃ b : Bool, (∀ w, (do eqGuard .eql t x y (.agg ⟨xs⟩) (.agg ⟨ys⟩); binOp .eql t (.agg ⟨xs⟩) (.agg ⟨ys⟩) : Sem Value).run P w = .ok (.bool b) w) ∧
      (∀ w, (do eqGuard .neq t x y (.agg ⟨xs⟩) (.agg ⟨ys⟩); binOp .neq t (.agg ⟨xs⟩) (.agg ⟨ys⟩) : Sem Value).run P w = .ok (.bool (!b)) w) ∧ (b = true ↔ xs = ys) := by
  obtain ⟨b, hr, hb⟩ := eq_flat hT 9 hf (D := 10000) (by decide) hx hy
  unfold valOf at hr
  rw [hd] at hr
  simp only [ha] at hr
  refine ⟨b, fun w => ?_, fun w => ?_, hb⟩
  · rw [Sem.run_bind, run_eqGuard_agg w .eql t x y _ _ hg, Result.andThen_ok, run_eql_struct, hr]; rfl
  · rw [Sem.run_bind, run_eqGuard_agg w .neq t x y _ _ hg, Result.andThen_ok, run_neq_struct, hr]; rfl
end
end Go.Proofs.YtllepnadffndnaaDoor
namespace Go.Proofs.YtllepnadffndnaaDoor
open Go.RowKit
def Ask (A : Type) : Type := (A → Prop) → Prop
def Ask.ret {A : Type} (a : A) : Ask A := fun K => K a
def Ask.bad {A : Type} : Ask A := fun _ => False
def Ask.ask {A α : Type} (o : Option α) (k : α → Ask A) : Ask A := fun K => ∃ a, o = some a ∧ k a K
def Ask.prf {A : Type} (p : Prop) (_ : Decidable p) (k : Ask A) : Ask A := fun K => p ∧ k K
def Ask.br {A : Type} (t : Bool) (x y : Ask A) : Ask A := fun K => (t = true → x K) ∧ (t = false → y K)
def Ask.bind {A B : Type} (x : Ask A) (f : A → Ask B) : Ask B := fun K => x fun a => f a K
def Ask.runP {A : Type} (x : Ask A) (K : A → Prop) : Prop := x K
theorem Ask.bind_runP {A B : Type} {f : A → Ask B} {K : B → Prop} {x : Ask A} : (x.bind f).runP K ↔ x.runP fun a => (f a).runP K := Iff.rfl
abbrev VE := List (Nat × MV)
abbrev VM := List (Nat × MB)
def VE.get : VE → Nat → Option MV
  | [], _ => none
  | (j, v) :: E, i => bif Nat.beq j i then some v else VE.get E i
def VM.get : VM → Nat → Option MB
  | [], _ => none
  | (j, v) :: E, i => bif Nat.beq j i then some v else VM.get E i
def VM.del : VM → Nat → VM
  | [], _ => []
  | (j, v) :: M, i => bif Nat.beq j i then VM.del M i else (j, v) :: VM.del M i
def VM.upd : VM → Nat → List MV → VM
  | [], _, _ => []
  | (j, v) :: M, i, l => bif Nat.beq j i then (j, { v with l := l }) :: VM.upd M i l else (j, v) :: VM.upd M i l
def VM.bump1 : VM → Nat → Nat → VM
  | [], _, _ => []
  | (j, v) :: M, i, n => bif Nat.beq j i then (j, { v with pe := Nat.max v.pe n }) :: VM.bump1 M i n else (j, v) :: VM.bump1 M i n
def VM.bump : VM → List (Nat × Nat) → VM
  | M, [] => M
  | M, (c, n) :: l => VM.bump (VM.bump1 M c n) l
inductive Dl where
  | none
  | new (b : MB)
  | upd (c : Nat) (l : List MV)
  | mv (c : Nat) (b : MB)
  | bump (l : List (Nat × Nat))
def bumpF : FM → List (Nat × Nat) → FM
  | m, [] => m
  | m, (c, n) :: l => bumpF (match m c with | some b => fput m c { b with pe := Nat.max b.pe n } | none => m) l
def Dl.appF (cnt : Nat) : Dl → FM → FM
  | .none, m => m
  | .new b, m => fput m cnt b
  | .upd c l, m => match m c with | some b => fput m c { b with l := l } | Option.none => m
  | .mv c b, m => fput (fdel m c) cnt b
  | .bump l, m => bumpF m l
def Dl.app (cnt : Nat) : Dl → VM → VM
  | .none, M => M
  | .new b, M => (cnt, b) :: M
  | .upd c l, M => VM.upd M c l
  | .mv c b, M => (cnt, b) :: VM.del M c
  | .bump l, M => VM.bump M l
def constM : Value → Option MV
  | .int k n => some (.int k n)
  | .bool b => some (.bool b)
  | .string s => some (.str s.data.toList)
  | .pointer none => some .nilp
  | .slice none 0 0 => some .nils
  | .nilFunc => some .nilf
  | .nilIface => some .nili
  | .func (.func f) ⟨[]⟩ ⟨[]⟩ => some (.fn f [])
  | _ => none
def evM (E : Nat → Option MV) : Operand → Option MV
  | .tmp t => E t
  | .const v => constM v
  | .global g => some (.gp g 0)
  | .func f => some (.fn f [])
def rd {A : Type} (E : Nat → Option MV) (x : Operand) (k : MV → Ask A) : Ask A := match evM E x with | some m => k m | none => .bad
def rds {A : Type} (E : Nat → Option MV) : List Operand → (List MV → Ask A) → Ask A
  | [], k => k []
  | x :: l, k => rd E x fun m => rds E l fun r => k (m :: r)
def rdo {A : Type} (E : Nat → Option MV) : Option Operand → (Option MV → Ask A) → Ask A
  | none, k => k none
  | some x, k => rd E x fun m => k (some m)
def repM : Nat → MV → List MV
  | 0, _ => []
  | n + 1, z => z :: repM n z
def zeroM (T : Tab) : Nat → Nat → Option MV
  | 0, _ => none
  | f + 1, t => match Tab.find T t with
    | some (.int k) => some (.int k 0)
    | some .bool => some (.bool false)
    | some .str => some (.str [])
    | some .ptr => some .nilp
    | some .iface => some .nili
    | some .fn => some .nilf
    | some (.slice ..) => some .nils
    | some (.arr n e es) => match zeroM T f e with
      | some z => bif z.idFree && Nat.beq z.size es then some (.arr n es (repM n z)) else none
      | none => none
    | some (.struct fs _) => match fs.foldr (fun x r => match r, zeroM T f x.2 with | some r, some z => some (z :: r) | _, _ => none) (some []) with
      | some l => some (.st l)
      | none => none
    | _ => none
def bEq : Bool → Bool → Bool
  | true, true => true
  | false, false => true
  | _, _ => false
def MV.isVal : MV → Bool
  | .tup _ => false
  | .undef => false
  | _ => true
def fits (d : TD) (v : MV) : Bool := (v.isVal && Nat.beq v.size d.size) && bEq v.isAgg d.agg
def val {A α : Type} (x : α) (k : α → Ask A) : Ask A := .ask (some x) k
def iBin (op : BinOp) (k : IntKind) (m n : Int) : Ask MV := match op with
  | .add => val (k.wrap (m + n)) fun r => .ret (.int k r)
  | .sub => val (k.wrap (m - n)) fun r => .ret (.int k r)
  | .mul => val (k.wrap (m * n)) fun r => .ret (.int k r)
  | .quo => .prf (n ≠ 0) inferInstance (val (k.wrap (m.tdiv n)) fun r => .ret (.int k r))
  | .rem => .prf (n ≠ 0) inferInstance (val (m.tmod n) fun r => .ret (.int k r))
  | .eql => .ret (.bool (m == n))
  | .neq => .ret (.bool (m != n))
  | .lss => .ret (.bool (decide (m < n)))
  | .leq => .ret (.bool (decide (m ≤ n)))
  | .gtr => .ret (.bool (decide (n < m)))
  | .geq => .ret (.bool (decide (n ≤ m)))
  | .shl => .prf (0 ≤ n) inferInstance (val (k.wrap (m * 2 ^ (min n.toNat k.bits))) fun r => .ret (.int k r))
  | .shr => .prf (0 ≤ n) inferInstance (val (m.fdiv (2 ^ (min n.toNat k.bits))) fun r => .ret (.int k r))
  | .and => val (k.wrap (BitVec.ofInt k.bits m &&& BitVec.ofInt k.bits n).toNat) fun r => .ret (.int k r)
  | .or => val (k.wrap (BitVec.ofInt k.bits m ||| BitVec.ofInt k.bits n).toNat) fun r => .ret (.int k r)
  | .xor => val (k.wrap (BitVec.ofInt k.bits m ^^^ BitVec.ofInt k.bits n).toNat) fun r => .ret (.int k r)
  | .andNot => val (k.wrap (BitVec.ofInt k.bits m &&& ~~~BitVec.ofInt k.bits n).toNat) fun r => .ret (.int k r)
def sBin (op : BinOp) (s t : List UInt8) : Ask MV := match op with
  | .add => .prf (s.length + t.length ≤ 9223372036854775807) inferInstance (val (s ++ t) fun r => .ret (.str r))
  | .eql => .ret (.bool (s == t))
  | .neq => .ret (.bool (!(s == t)))
  | .lss => .ret (.bool (Op.bytesLess s t))
  | .leq => .ret (.bool (Op.bytesLess s t || s == t))
  | .gtr => .ret (.bool (!(Op.bytesLess s t || s == t)))
  | .geq => .ret (.bool (!Op.bytesLess s t))
  | _ => .bad
def bBin (op : BinOp) (s t : Bool) : Ask MV := match op with
  | .eql => .ret (.bool (s == t))
  | .neq => .ret (.bool (s != t))
  | _ => .bad
mutual
def eqM : MV → MV → Option Bool
  | .int k a, .int j b => match decide (k = j) with | true => some (decide (a = b)) | false => none
  | .bool a, .bool b => some (a == b)
  | .str a, .str b => some (a == b)
  | .st l, .st r => eqMs l r
  | .arr n es l, .arr n' es' r => bif Nat.beq n n' && Nat.beq es es' then eqMs l r else none
  | _, _ => none
def eqMs : List MV → List MV → Option Bool
  | [], [] => some true
  | a :: l, b :: r => match eqM a b, eqMs l r with
    | some x, some y => some (x && y)
    | _, _ => none
  | _, _ => none
end
mutual
def confM (T : Tab) : Nat → Nat → MV → Bool
  | 0, _, _ => false
  | f + 1, t, m => match Tab.find T t, m with
    | some (.int k), .int j _ => Nat.beq (kid j) (kid k)
    | some .bool, .bool _ => true
    | some .str, .str _ => true
    | some (.arr n e es), .arr n' es' l => Nat.beq n n' && Nat.beq es es' && l.all (confM T f e)
    | some (.struct fs sz), .st l => confMs T f fs 0 l sz
    | _, _ => false
def confMs (T : Tab) : Nat → List (Nat × TypeId) → Nat → List MV → Nat → Bool
  | _, [], o, [], sz => Nat.beq o sz
  | f, (o', t) :: fs, o, m :: l, sz => Nat.beq o o' && (match Tab.find T t with | some d => Nat.beq m.size d.size && confM T f t m && confMs T f fs (o + d.size) l sz | none => false)
  | _, _, _, _, _ => false
end
def nilM : Nat → MV → Option Bool
  | 0, .nilp => some true
  | 0, .ptr .. => some false
  | 0, .gp .. => some false
  | 0, .ep .. => some false
  | 1, .nils => some true
  | 1, .sl (_ + 1) _ => some false
  | 2, .nili => some true
  | 2, .ifc .. => some false
  | _, _ => none
def idx (n : Nat) (j : Int) : Option Nat := if 0 ≤ j ∧ j < (n : Int) then some j.toNat else none
def idxL (l : List MV) (n : Nat) (j : Int) : Option MV := if 0 ≤ j ∧ j < (n : Int) then l[j.toNat]? else none
def idxS (s : List UInt8) (j : Int) : Option UInt8 := if 0 ≤ j then s[j.toNat]? else none
def bounds (n : Nat) (lo hi : Option MV) : Option (Nat × Nat) :=
  match (match hi with | none => some n | some (.int _ h) => if 0 ≤ h ∧ h ≤ (n : Int) then some h.toNat else none | _ => none) with
  | none => none
  | some h => match (match lo with | none => some 0 | some (.int _ l) => if 0 ≤ l ∧ l ≤ (h : Int) then some l.toNat else none | _ => none) with
    | none => none
    | some l => some (l, h)
def bytesM : List MV → Option (List UInt8)
  | [] => some []
  | .int .u8 n :: l => if 0 ≤ n ∧ n < 256 then (match bytesM l with | some r => some (UInt8.ofNat n.toNat :: r) | none => none) else none
  | _ :: _ => none
def headSize : List MV → Nat → Bool
  | [], _ => true
  | m :: _, es => Nat.beq m.size es
def cutL (l : List MV) (a b : Nat) : List MV := (l.drop a).take (b - a)
def u8s (s : List UInt8) : List MV := s.map fun b => .int .u8 b.toNat
section
variable (P : Program) (T : Tab) (E : Nat → Option MV) (M : FM) (cnt : Nat)
mutual
def frz : MV → Ask (MV × List (Nat × Nat))
  | .ms c es off n => match M c with
    | some b => match b.row && Nat.beq b.es es with
      | true => .prf (off + n ≤ b.l.length) inferInstance (val (cutL b.l off (off + n)) fun l => .ret (.sl n l, [(c, off + n)]))
      | false => .bad
    | none => .bad
  | .nils => .ret (.sl 0 [], [])
  | .st l => (frzs l).bind fun r => .ret (.st r.1, r.2)
  | .fn f l => (frzs l).bind fun r => .ret (.fn f r.1, r.2)
  | .ifc t v => (frz v).bind fun r => .ret (.ifc t r.1, r.2)
  | .ptr c es k fo path => match M c with
    | some b => bif Nat.beq b.es es then .ask (nthM b.l k) fun v => (bif v.idFree then .ret (.ep v fo path, [(c, k + 1)]) else .bad) else .bad
    | none => .bad
  | .tup _ => .bad
  | .undef => .bad
  | m => .ret (m, [])
def frzs : List MV → Ask (List MV × List (Nat × Nat))
  | [] => .ret ([], [])
  | m :: l => (frz m).bind fun x => (frzs l).bind fun r => .ret (x.1 :: r.1, x.2 ++ r.2)
end
def pureA (m : MV) : Ask (MV × Dl) := .ret (m, .none)
def oLoad (t : TypeId) (p : MV) : Ask (MV × Dl) := match Tab.find T t with
  | none => .bad
  | some d => match p with
    | .ptr c es k fo path => match M c with
      | some b => bif Nat.beq b.es es then .ask (nthM b.l k) fun m => .ask (getPO m path fo) fun r => (bif fits d r then pureA r else .bad) else .bad
      | none => .bad
    | .ep v fo path => .ask (getPO v path fo) fun r => bif fits d r then pureA r else .bad
    | _ => .bad
def oStore (t : TypeId) (p v : MV) : Ask (MV × Dl) := match Tab.find T t with
  | none => .bad
  | some d => match p with
    | .ptr c es k fo path => match M c with
      | some b => bif Nat.beq b.es es && fits d v && (!b.row || v.idFree) then .prf (b.pe ≤ k) inferInstance (.ask (nthM b.l k) fun m => .ask (setPO m path fo v) fun m' => val (setL b.l k m') fun l => .ret (.undef, .upd c l)) else .bad
      | none => .bad
    | _ => .bad
def oFieldAddr (t : TypeId) (p : MV) (f : Nat) : Ask (MV × Dl) := match Tab.find T t with
  | some (.struct fs _) => match nth fs f with
    | some (o, _) => match p with
      | .ptr c es k fo path => pureA (.ptr c es k (fo + o) (path ++ [f]))
      | .ep v fo path => pureA (.ep v (fo + o) (path ++ [f]))
      | .gp g off => pureA (.gp g (off + o))
      | _ => .bad
    | none => .bad
  | _ => .bad
def oIndexAddr (t : TypeId) (x j : MV) : Ask (MV × Dl) := match Tab.find T t with
  | some (.slice _ es) => match x, j with
    | .sl n l, .int _ j => .ask (idxL l n j) fun m => bif Nat.beq m.size es then pureA (.ep m 0 []) else .bad
    | .ms c es' off n, .int _ j => bif Nat.beq es' es then .ask (idx n j) fun k => pureA (.ptr c es (off + k) 0 []) else .bad
    | _, _ => .bad
  | some (.arr n _ es) => match x, j with
    | .ptr c es' k fo path, .int _ j => .ask (idx n j) fun i => pureA (.ptr c es' k (fo + i * es) (path ++ [i]))
    | .ep v fo path, .int _ j => .ask (idx n j) fun i => pureA (.ep v (fo + i * es) (path ++ [i]))
    | .gp g off, .int _ j => .ask (idx n j) fun i => pureA (.gp g (off + i * es))
    | _, _ => .bad
  | _ => .bad
def oIndex (t : TypeId) (x j : MV) : Ask (MV × Dl) := match Tab.find T t, x, j with
  | some .str, .str s, .int _ j => .ask (idxS s j) fun c => pureA (.int .u8 c.toNat)
  | some (.arr n e es), .arr n' es' l, .int _ j => match Tab.find T e with
    | some d => bif Nat.beq n n' && Nat.beq es es' then .ask (idxL l n j) fun m => (bif fits d m then pureA m else .bad) else .bad
    | none => .bad
  | _, _, _ => .bad
def oField (t : TypeId) (x : MV) (f : Nat) : Ask (MV × Dl) := match Tab.find T t, x with
  | some (.struct fs _), .st l => match nth fs f, nthM l f with
    | some (o, ft), some m => match Tab.find T ft with
      | some d => bif fits d m && Nat.beq (sizesTo l f) o then pureA m else .bad
      | none => .bad
    | _, _ => .bad
  | _, _ => .bad
def oSlice (t : TypeId) (x : MV) (lo hi : Option MV) : Ask (MV × Dl) := match Tab.find T t, x with
  | some .str, .str s => .ask (bounds s.length lo hi) fun r => val ((s.drop r.1).take (r.2 - r.1)) fun u => pureA (.str u)
  | some (.slice _ es), .sl n l => .ask (bounds n lo hi) fun r => .prf (headSize l es = true) inferInstance (val (cutL l r.1 r.2) fun u => val (r.2 - r.1) fun k => pureA (.sl k u))
  | some (.slice _ es), .ms c es' off n => bif Nat.beq es es' then .ask (bounds n lo hi) fun r => (val (r.2 - r.1) fun k => pureA (.ms c es (off + r.1) k)) else .bad
  | some (.slice _ _), .nils => .ask (bounds 0 lo hi) fun _ => pureA .nils
  | _, _ => .bad
def oSliceA (t : TypeId) (x : MV) (lo hi : Option MV) : Ask (MV × Dl) := match Tab.find T t, x with
  | some (.arr n _ es), .ptr c _ k fo path => match M c with
    | some b => match b.l with
      | [.arr n' es' l] => bif Nat.beq k 0 && Nat.beq fo 0 && path.isEmpty && Nat.beq n n' && Nat.beq es es' then .ask (bounds n lo hi) fun r => val (cutL l r.1 r.2) fun u => val (r.2 - r.1) fun j => .ret (.sl j u, .bump [(c, 1)]) else .bad
      | _ => .bad
    | none => .bad
  | _, _ => oSlice T t x lo hi
def setParts (l : List MV) : List (Nat × MV) → Option (List MV)
  | [] => some l
  | (i, v) :: r => match nthM l i with
    | some m => bif Nat.beq v.size m.size && bEq v.isAgg m.isAgg then setParts (setL l i v) r else none
    | none => none
def sizesB : List MV → List Nat → Bool
  | [], [] => true
  | m :: l, n :: ns => Nat.beq m.size n && sizesB l ns
  | _, _ => false
def oBuild (t : TypeId) (parts : List (Nat × MV)) : Ask (MV × Dl) := match zeroM T 9 t, cutsOf T t with
  | some (.st l), some ns => bif sizesB l ns && parts.all (fun p => p.2.isVal) then (match setParts l parts with
    | some l' => pureA (.st l')
    | none => .bad) else .bad
  | some (.arr n es l), some ns => bif sizesB l ns && parts.all (fun p => p.2.isVal && p.2.idFree) then (match setParts l parts with
    | some l' => pureA (.arr n es l')
    | none => .bad) else .bad
  | _, _ => .bad
def oBuildSlice (t : TypeId) (n : Nat) (parts : List (Nat × MV)) : Ask (MV × Dl) := match Tab.find T t with
  | some (.slice e es) => match n with
    | 0 => match parts with
      | [] => .ret (.ms cnt es 0 0, .new ⟨e, es, true, 0, []⟩)
      | _ => .bad
    | n + 1 => match zeroM T 9 e with
      | some z => bif Nat.beq z.size es && Nat.blt 0 es && Nat.ble ((n + 1) * es) 16777216 && z.idFree && parts.all (fun p => p.2.isVal) then (match setParts (repM (n + 1) z) parts with
        | some l => .ret (.ms cnt es 0 (n + 1), .new ⟨e, es, parts.all (fun p => p.2.idFree), 0, l⟩)
        | none => .bad) else .bad
      | none => .bad
  | _ => .bad
def eqT (t : TypeId) : Bool := flatB P T 9 t && !P.eqGuardType P.depth t
def oNil (b : Option Bool) (op : BinOp) : Ask (MV × Dl) := match b with
  | some b => match op with
    | .eql => pureA (.bool b)
    | .neq => pureA (.bool (!b))
    | _ => .bad
  | none => .bad
def oEq (op : BinOp) (t : TypeId) (x y : MV) : Ask (MV × Dl) := match Tab.find T t with
  | some d => bif d.agg && fits d x && fits d y then .prf (eqT P T t = true ∧ confM T 9 t x = true ∧ confM T 9 t y = true) inferInstance (.ask (eqM x y) fun b => oNil (some b) op) else .bad
  | none => .bad
def oBin (op : BinOp) (t : TypeId) (yo : Operand) (x y : MV) : Ask (MV × Dl) := match y with
  | .int k' n => match x with
    | .int k m => bif isShift op || Nat.beq (kid k) (kid k') then (iBin op k m n).bind pureA else .bad
    | _ => .bad
  | .str u => match x with
    | .str s => (sBin op s u).bind pureA
    | _ => .bad
  | .bool u => match x with
    | .bool s => match Tab.find T t with | some .bool => (bBin op s u).bind pureA | _ => .bad
    | _ => .bad
  | .nilp => match Tab.find T t with
    | some .ptr => oNil (nilM 0 x) op
    | _ => .bad
  | .nils => match Tab.find T t with
    | some (.slice ..) => oNil (nilM 1 x) op
    | _ => .bad
  | .nili => match Tab.find T t, yo with
    | some .iface, .const _ => oNil (nilM 2 x) op
    | _, _ => .bad
  | y => oEq P T op t x y
def oUn (op : UnOp) (x : MV) : Ask (MV × Dl) := match op, x with
  | .not, .bool b => pureA (.bool (!b))
  | .xor, .int k n => val (k.wrap (BitVec.ofInt k.bits (if k.signed then -1 else k.max) ^^^ BitVec.ofInt k.bits n).toNat) fun r => pureA (.int k r)
  | .neg, .int k n => val (k.wrap (0 - n)) fun r => pureA (.int k r)
  | _, _ => .bad
def oConv (src dst : TypeId) (x : MV) : Ask (MV × Dl) := match Tab.find T src, Tab.find T dst, x with
  | some _, some (.int k), .int _ n => val (k.wrap n) fun r => pureA (.int k r)
  | some (.slice e _), some .str, .sl _n l => match Tab.find T e with
    | some (.int .u8) => .ask (bytesM l) fun s => pureA (.str s)
    | _ => .bad
  | some (.slice e _), some .str, .nils => match Tab.find T e with
    | some (.int .u8) => pureA (.str [])
    | _ => .bad
  | some (.slice e _), some .str, .ms c es off n => match Tab.find T e, M c with
    | some (.int .u8), some b => bif Nat.beq es 1 && Nat.beq b.es 1 then .prf (off + n ≤ b.l.length) inferInstance (.ask (bytesM (cutL b.l off (off + n))) fun s => pureA (.str s)) else .bad
    | _, _ => .bad
  | some .str, some (.slice e _), .str s => match Tab.find T e with
    | some (.int .u8) => .prf (s.length ≤ 140737488355328) inferInstance (val (u8s s) fun l => val s.length fun n => pureA (.sl n l))
    | _ => .bad
  | _, _, _ => .bad
def oMakeSlice (t : TypeId) (n m : MV) : Ask (MV × Dl) := match Tab.find T t, n, m with
  | some (.slice e es), .int _ n, .int _ m => match zeroM T 9 e with
    | some z => bif Nat.beq z.size es && Nat.blt 0 es && z.idFree then .prf (n = m) inferInstance (.ask (idx 140737488355328 n) fun k => .ask ((P.info? e).map (·.bytes)) fun by_ => .prf (k * by_ ≤ 281474976710656) inferInstance (.ret (.ms cnt es 0 k, .new ⟨e, es, true, 0, repM k z⟩))) else .bad
    | none => .bad
  | _, _, _ => .bad
def srcM (es : Nat) (y : MV) (k : Nat → List MV → Ask (MV × Dl)) : Ask (MV × Dl) := match y with
  | .sl m l => .prf (headSize l es = true) inferInstance (k m l)
  | .nils => k 0 []
  | .ms c es' off m => match M c with
    | some b => bif Nat.beq es es' && Nat.beq b.es es && b.row then .prf (off + m ≤ b.l.length) inferInstance (val (cutL b.l off (off + m)) fun l => k m l) else .bad
    | none => .bad
  | _ => .bad
def oAppend (ats : List TypeId) (x y : MV) : Ask (MV × Dl) := match ats with
  | [t, u] => bif Nat.beq t u then (match Tab.find T t with
    | some (.slice e es) => match zeroM T 9 e with
      | some z => bif Nat.beq z.size es && Nat.blt 0 es then .ask ((P.info? e).map (·.bytes)) fun by_ => srcM M es y fun m l => (match x with
        | .nils => .prf (m * by_ ≤ 140737488355328 ∧ m ≤ maxLen) inferInstance (.ret (.ms cnt es 0 m, .new ⟨e, es, true, 0, l⟩))
        | .ms c es' off n => match M c with
          | some b => bif Nat.beq off 0 && Nat.beq es es' && Nat.beq b.es es && b.row && Nat.beq b.ty e then .prf (b.l.length = n ∧ (n + m) * by_ ≤ 140737488355328 ∧ n + m ≤ maxLen) inferInstance (val (b.l ++ l) fun r => val (n + m) fun k => .ret (.ms cnt es 0 k, .mv c ⟨e, es, true, b.pe, r⟩)) else .bad
          | none => .bad
        | _ => .bad) else .bad
      | none => .bad
    | _ => .bad) else .bad
  | _ => .bad
def oLen (t : Option TypeId) (x : MV) : Ask (MV × Dl) := match t.bind (Tab.find T), x with
  | some .str, .str s => val (s.length : Int) fun r => pureA (.int .i64 r)
  | some (.slice ..), .sl n _ => pureA (.int .i64 n)
  | some (.slice ..), .nils => pureA (.int .i64 0)
  | some (.slice ..), .ms _ _ _ n => pureA (.int .i64 n)
  | some (.arr n _ _), _ => pureA (.int .i64 n)
  | _, _ => .bad
def oPick (c a b : MV) : Ask (MV × Dl) := match c with
  | .bool t => .br t (pureA a) (pureA b)
  | _ => .bad
def oAlloc (t : TypeId) : Ask (MV × Dl) := match Tab.find T t, zeroM T 9 t with
  | some d, some z => bif fits d z then .ret (.ptr cnt d.size 0 0 [], .new ⟨t, d.size, false, 0, [z]⟩) else .bad
  | _, _ => .bad
def oBox (t : TypeId) (v : MV) : Ask (MV × Dl) := match Tab.find T t with
  | some d => bif fits d v then .ret (.ptr cnt d.size 0 0 [], .new ⟨t, d.size, false, 0, [v]⟩) else .bad
  | none => .bad
def oNilCheck (v : MV) : Ask (MV × Dl) := match v with
  | .ptr .. | .gp .. | .ep .. | .fn .. | .ifc .. => pureA v
  | _ => .bad
def oIface (t : TypeId) (v : MV) : Ask (MV × Dl) := match Tab.find T t with
  | some .iface => .bad
  | some .other => .bad
  | some d => bif fits d v then pureA (.ifc t v) else .bad
  | none => .bad
def oMkFunc (fn : Fn) (first : Array Operand) (ys : List MV) : Ask (MV × Dl) := match fn, first.toList with
  | .func f, [] => bif ys.all MV.isVal then pureA (.fn f ys) else .bad
  | _, _ => .bad
def oExtract (x : MV) (i : Nat) : Ask (MV × Dl) := match x with
  | .tup vs => match nthM vs i with | some m => pureA m | none => .bad
  | _ => .bad
def oBuiltin (b : Builtin) (ats : Array TypeId) (vs : List MV) : Ask (MV × Dl) := match b with
  | .len => match vs with | [x] => oLen T (ats[0]?) x | _ => .bad
  | .append => match vs with | [x, y] => oAppend P T M cnt ats.toList x y | _ => .bad
  | .min => match vs with | [.int k x, .int _ y] => val (if y < x then y else x) fun r => pureA (.int k r) | _ => .bad
  | .max => match vs with | [.int k x, .int _ y] => val (if y > x then y else x) fun r => pureA (.int k r) | _ => .bad
  | _ => .bad
def eOp (o : Oper) : Ask (MV × Dl) := match o.op with
  | .move x => rd E x pureA
  | .assign x => rd E x pureA
  | .pick c a b => rd E c fun c => rd E a fun a => rd E b fun b => oPick c a b
  | .alloc t => oAlloc T cnt t
  | .box t x => rd E x fun v => oBox T cnt t v
  | .build t parts => rds E (parts.toList.map (·.2)) fun vs => oBuild T t ((parts.toList.map (·.1)).zip vs)
  | .buildSlice t n parts => rds E (parts.toList.map (·.2)) fun vs => oBuildSlice T cnt t n ((parts.toList.map (·.1)).zip vs)
  | .load t x => rd E x fun p => oLoad T M t p
  | .store t x y => rd E x fun p => rd E y fun v => oStore T M t p v
  | .nilCheck x => rd E x oNilCheck
  | .binOp op t x y _ => rd E x fun u => rd E y fun v => oBin P T op t y u v
  | .unOp op _ x => rd E x fun v => oUn op v
  | .convert src dst x => rd E x fun v => oConv T M src dst v
  | .makeInterface t x => rd E x fun v => oIface T t v
  | .makeFunc fn first captured => rds E captured.toList fun ys => oMkFunc fn first ys
  | .makeSlice t l c => rd E l fun l => rd E c fun c => oMakeSlice P T cnt t l c
  | .slice t x lo hi mx => match mx with
    | none => rd E x fun x => rdo E lo fun lo => rdo E hi fun hi => oSliceA T M t x lo hi
    | some _ => .bad
  | .fieldAddr t x f => rd E x fun p => oFieldAddr T t p f
  | .field t x f => rd E x fun v => oField T t v f
  | .indexAddr t x ix => rd E x fun v => rd E ix fun i => oIndexAddr T t v i
  | .index t x ix => rd E x fun v => rd E ix fun i => oIndex T t v i
  | .extract x i => rd E x fun x => oExtract x i
  | .call c => match c.callee with
    | .builtin b => rds E c.args.toList fun vs => oBuiltin P T M cnt b c.argTypes vs
    | _ => .bad
  | _ => .bad
end
end Go.Proofs.YtllepnadffndnaaDoor
namespace Go.Proofs.YtllepnadffndnaaDoor
open Go.RowKit
def Post1 (w : World) (P : Prot) (adr : Adr) (m : FM) (cnt : Nat) (r : MV) (δ : Dl) (u : Value) (w' : World) : Prop :=
  ∃ (P' : Prot) (adr' : Adr), RepV w' P' adr' r u ∧ InvM w' P' adr' (δ.appF cnt m) ∧ Keep w w' P P' adr adr' ∧ (∀ c, c ≠ cnt → adr' c = adr c) ∧
    (∀ g, adr' cnt = some g → w.heap.size ≤ g ∨ ∃ c, adr c = some g) ∧ Since (fun b => ∃ c, adr c = some b) w w' ∧ (∀ b o, P' b o → P b o ∨ w.heap.size ≤ b ∨ ∃ c, adr c = some b)
def Res (Pg : Program) (o : Oper) (a : Act) (w : World) (Q : Value → World → Prop) : Prop :=
  (∃ u w', (execOp a.eval o).run Pg w = .ok (.value u) w' ∧ Q u w') ∨ (∃ w', (execOp a.eval o).run Pg w = .ok .skip w' ∧ Q undef w')
section
variable {Pg : Program} {T : Tab} {w w' : World} {P P' : Prot} {adr adr' : Adr} {m : FM} {cnt : Nat} {K : MV × Dl → Prop} {u v x y : Value} {r : MV}
theorem Post1.pure (hI : InvM w P adr m) (hn : adr cnt = none) (h : RepV w P adr r u) : Post1 w P adr m cnt r .none u w :=
  ⟨P, adr, h, hI, Keep.refl _ _ _, fun _ _ => rfl, fun g (hg : adr cnt = some g) => (by rw [hn] at hg; cases hg), Since.refl _ _, fun _ _ h => .inl h⟩
theorem Res.val {o : Oper} {a : Act} {Q : Value → World → Prop} (s : Sem Value) (ho : execOp a.eval o = (do pure (.value (← s)))) (hr : s.run Pg w = .ok u w') (h : Q u w') : Res Pg o a w Q :=
  .inl ⟨u, w', by rw [ho, Sem.run_bind, hr]; rfl, h⟩
theorem Res.unit {o : Oper} {a : Act} {Q : Value → World → Prop} (s : Sem Unit) (ho : execOp a.eval o = (do s; pure .skip)) (hr : s.run Pg w = .ok () w') (h : Q undef w') : Res Pg o a w Q :=
  .inr ⟨w', by rw [ho, Sem.run_bind, hr]; rfl, h⟩
theorem pureA_out {r : MV} (h : (pureA r).runP K) : K (r, .none) := h
theorem RepV.rep (h : RepV w P adr r u) (h1 : r ≠ .undef) (h2 : ∀ l, r ≠ .tup l) : ∃ cs, Rep w P adr r cs ∧ u = valM r cs := by
  cases h with
  | val cs h => exact ⟨cs, h, rfl⟩
  | undef => exact absurd rfl h1
  | tup => exact absurd rfl (h2 _)
theorem valM_agg {cs : List Value} (h : r.isAgg = true) : valM r cs = .agg ⟨cs⟩ := by unfold valM; rw [h]; rfl
theorem valM_one (h : r.isAgg = false) (v : Value) : valM r [v] = v := by unfold valM; rw [h]; rfl
theorem RepV.int_ {k : IntKind} {n : Int} (h : RepV w P adr (.int k n) u) : u = .int k n := by cases h with | val cs h => cases h; rfl
theorem RepV.undef_ (h : RepV w P adr .undef u) : u = Go.undef := by cases h with | val cs h => cases h | undef => rfl
theorem RepV.bool_ {b : Bool} (h : RepV w P adr (.bool b) u) : u = .bool b := by cases h with | val cs h => cases h; rfl
theorem RepV.str_ {s : List UInt8} (h : RepV w P adr (.str s) u) : u = .string ⟨s.toArray⟩ := by cases h with | val cs h => cases h; rfl
theorem RepV.nilp_ (h : RepV w P adr .nilp u) : u = .pointer none := by cases h with | val cs h => cases h; rfl
theorem RepV.nils_ (h : RepV w P adr .nils u) : u = .slice none 0 0 := by cases h with | val cs h => cases h; rfl
theorem RepV.nili_ (h : RepV w P adr .nili u) : u = .nilIface := by cases h with | val cs h => cases h; rfl
theorem RepV.gp_ {g o : Nat} (h : RepV w P adr (.gp g o) u) : u = .pointer (some ⟨g, o, none⟩) := by cases h with | val cs h => cases h; rfl
theorem RepV.ptr_ {c es k fo : Nat} {path : List Nat} (h : RepV w P adr (.ptr c es k fo path) u) : ∃ g, adr c = some g ∧ u = .pointer (some ⟨g, k * es + fo, none⟩) := by
  cases h with | val cs h => cases h with | ptr g h => exact ⟨g, h, rfl⟩
theorem RepV.ep_ {fo : Nat} {path : List Nat} (h : RepV w P adr (.ep r fo path) u) : ∃ (b o : Nat) (vs : List Value), u = .pointer (some ⟨b, o + fo, none⟩) ∧ (∀ (j : Nat) x, vs[j]? = some x → w.cell? ⟨b, o + j, none⟩ = some x ∧ P b (o + j)) ∧ Rep w P noAdr r vs := by
  cases h with | val cs h => cases h with | ep b o vs hc hr => exact ⟨b, o, vs, rfl, hc, hr⟩
theorem RepV.sl_ {n : Nat} {l : List MV} (h : RepV w P adr (.sl n l) u) : ∃ (A : Option Addr) (cap es : Nat) (parts : List (List Value)), u = .slice A n cap ∧ l.length = n ∧ parts.length = n ∧ (∀ p ∈ parts, p.length = es) ∧ (A = none → n = 0 ∧ cap = 0) ∧ n ≤ cap ∧
    (n ≠ 0 → ∃ b o, A = some ⟨b, o, none⟩ ∧ ∀ (j : Nat) x, parts.flatten[j]? = some x → w.cell? ⟨b, o + j, none⟩ = some x ∧ P b (o + j)) ∧ (∀ (j : Nat) m p, l[j]? = some m → parts[j]? = some p → Rep w P noAdr m p) := by
  cases h with | val cs h => cases h with | sl A cap es parts h1 h2 h3 h4 h7 h5 h6 => exact ⟨A, cap, es, parts, rfl, h1, h2, h3, h4, h7, h5, h6⟩
theorem RepV.ms_ {c es off n : Nat} (h : RepV w P adr (.ms c es off n) u) : (u = .slice none 0 0 ∧ off = 0 ∧ n = 0) ∨ ∃ g o cap, adr c = some g ∧ u = .slice (some ⟨g, o, none⟩) n cap ∧ (n ≠ 0 ∨ off = 0 → o = off * es) ∧ n ≤ cap ∧ cap ≤ maxLen ∧
    ∃ cur ty, w.heap[g]? = some (.cells cur ty (0, 0)) ∧ (off = 0 → cur.size = cap * es) := by
  cases h with | val cs h => cases h with
    | ms0 => exact .inl ⟨rfl, rfl, rfl⟩
    | ms g o cap h1 h2 h3 h4 h5 => exact .inr ⟨g, o, cap, h1, rfl, h2, h3, h4, h5⟩
theorem RepV.agg_ (h : RepV w P adr r u) (ha : r.isAgg = true) : ∃ cs, Rep w P adr r cs ∧ u = .agg ⟨cs⟩ := by
  cases h with
  | val cs h => exact ⟨cs, h, valM_agg ha⟩
  | undef => cases ha
  | tup => cases ha
theorem fits_out {d : TD} {r : MV} (h : fits d r = true) : r.size = d.size ∧ r.isAgg = d.agg ∧ r.isVal = true := by
  unfold fits at h
  rw [Bool.and_eq_true, Bool.and_eq_true] at h
  refine ⟨Nat.eq_of_beq_eq_true h.1.2, ?_, h.1.1⟩
  have h2 := h.2
  cases ha : r.isAgg <;> cases hb : d.agg <;> rw [ha, hb] at h2 <;> first | rfl | cases h2
theorem rep_of_fits {d : TD} (h : RepV w P adr r u) (hf : fits d r = true) : ∃ cs, Rep w P adr r cs ∧ u = valM r cs ∧ cs.length = d.size := by
  obtain ⟨hs, _, hv⟩ := fits_out hf
  cases h with
  | val cs h => exact ⟨cs, h, rfl, by rw [h.size, hs]⟩
  | undef => cases hv
  | tup => cases hv
theorem load_part (hT : TabOK Pg T) {t : TypeId} {d : TD} (hd : Tab.find T t = some d) {b o : Nat} {cs : List Value} (hr : Rep w P adr r cs) (hf : fits d r = true) (hc : ∀ (j : Nat) x, cs[j]? = some x → w.cell? ⟨b, o + j, none⟩ = some x) :
    (Instr.loadAt t (.pointer (some ⟨b, o, none⟩))).run Pg w = .ok (valM r cs) w := by
  obtain ⟨hs, ha, _⟩ := fits_out hf
  have hl : cs.length = d.size := by rw [hr.size, hs]
  have hld : (loadVar t ⟨b, o, none⟩).run Pg w = .ok (valM r cs) w := by
    cases hg : d.agg with
    | true =>
      rw [valM_agg (by rw [ha, hg])]
      exact ldn hT hd hg hl (fun j v hv => hc j v hv) (Below.refl _ _)
    | false =>
      have hra : r.isAgg = false := by rw [ha, hg]
      obtain ⟨v, rfl⟩ := hr.scalar hra
      rw [valM_one hra]
      have := hc 0 v rfl
      exact ld1 hT hd hg (o := o) (j := 0) (p := o) (cs := [v]) (fun j x hx => hc j x hx) rfl rfl (Below.refl _ _)
  simp only [Instr.loadAt, Instr.sureAddr, Sem.run_bind, Sem.run_pure, Result.andThen_ok]
  exact hld
theorem oLoad_ok (hT : TabOK Pg T) {t : TypeId} {p : MV} (h : (oLoad T m t p).runP K) (hp : RepV w P adr p u) (hI : InvM w P adr m) :
    ∃ r v, K (r, .none) ∧ (Instr.loadAt t u).run Pg w = .ok v w ∧ RepV w P adr r v := by
  unfold oLoad at h
  split at h
  · exact h.elim
  rename_i d hd
  split at h
  · rename_i c es k fo path
    split at h
    · rename_i b hb
      cases hes : Nat.beq b.es es with
      | false => rw [hes] at h; exact h.elim
      | true =>
        rw [hes] at h
        have hes := Nat.eq_of_beq_eq_true hes
        obtain ⟨x, hx, r, hr, h⟩ := h
        replace h : Ask.runP (bif fits d r then pureA r else .bad) K := h
        cases hf : fits d r with
        | false => rw [hf] at h; exact h.elim
        | true =>
          rw [hf] at h
          obtain ⟨g, hg, rfl⟩ := hp.ptr_
          rw [nthM_eq] at hx
          rcases hI.blk c b hb with h1 | ⟨g', h1, h2⟩
          · rw [hg] at h1; cases h1.2.2.1
          · rw [hg] at h1
            injection h1 with h1
            subst h1
            obtain ⟨cur, parts, h3, h4, h5, h6, h7⟩ := h2.has
            obtain ⟨q, hq⟩ := get_of_len h4 hx
            have hrep : Rep w P adr x q := by
              have := h6 k x q hx hq
              cases hrow : b.row <;> rw [hrow] at this
              · exact this
              · exact this.ofNone
            obtain ⟨pre, cs, post, e1, e2, h8⟩ := getPO_rep hrep hr
            refine ⟨r, _, h, load_part hT hd h8 hf (fun j y hy => ?_), .val cs h8⟩
            have hlt := (List.getElem?_eq_some_iff.1 hq).1
            have hpre : (parts.take k).flatten.length = k * es := by
              rw [flatten_const (es := b.es) fun x hx => h5 x (List.mem_of_mem_take hx), List.length_take, Nat.min_eq_left (by omega), hes]
            have hfl : parts.flatten[k * es + fo + j]? = some y := by
              rw [flatten_split hq, e1, List.append_assoc, List.getElem?_append_right (by omega), hpre]
              rw [List.append_assoc, List.append_assoc, List.getElem?_append_right (by omega), List.getElem?_append_left (by have := (List.getElem?_eq_some_iff.1 hy).1; omega)]
              rw [show k * es + fo + j - k * es - pre.length = j by omega]
              exact hy
            rw [cell_of_row w g _ cur b.ty (0, 0) h3]
            have := prefix_get h7 hfl
            simpa using this
    · exact h.elim
  · rename_i v0 fo path
    obtain ⟨r, hr, h⟩ := h
    replace h : Ask.runP (bif fits d r then pureA r else .bad) K := h
    cases hf : fits d r with
    | false => rw [hf] at h; exact h.elim
    | true =>
      rw [hf] at h
      obtain ⟨b, o, vs, rfl, hc, hv⟩ := hp.ep_
      obtain ⟨pre, cs, post, e1, e2, h8⟩ := getPO_rep hv hr
      refine ⟨r, _, h, load_part hT hd h8 hf (fun j y hy => ?_), .val cs h8.ofNone⟩
      have := (hc (fo + j) y (by rw [e1, List.append_assoc, List.getElem?_append_right (by omega), List.getElem?_append_left (by have := (List.getElem?_eq_some_iff.1 hy).1; omega), show fo + j - pre.length = j by omega]; exact hy)).1
      rw [show o + fo + j = o + (fo + j) by omega]
      exact this
  · exact h.elim
end
end Go.Proofs.YtllepnadffndnaaDoor
namespace Go.Proofs.YtllepnadffndnaaDoor
open Go.RowKit
section
variable {Pg : Program} {T : Tab} {w w' : World} {P P' : Prot} {adr adr' : Adr} {m : FM} {cnt : Nat} {K : MV × Dl → Prop} {u v x y : Value} {r : MV}
theorem valM_size {cs : List Value} (h : Rep w P adr r cs) : (valM r cs).cells.size = cs.length := by rw [← Array.length_toList, valM_cells h]
theorem oStore_ok0 (hT : TabOK Pg T) {t : TypeId} {p q : MV} (h : (oStore T m t p q).runP K) (hp : RepV w P adr p u) (hq : RepV w P adr q v) (hI : InvM w P adr m) (cnt : Nat) :
    ∃ δ w', K (.undef, δ) ∧ (Instr.storeAt t u v).run Pg w = .ok () w' ∧ InvM w' P adr (δ.appF cnt m) ∧ Keep w w' P P adr adr ∧ Since (fun b => ∃ c, adr c = some b) w w' := by
  unfold oStore at h
  split at h
  · exact h.elim
  rename_i d hd
  split at h
  · rename_i c es k fo path
    split at h
    · rename_i b hb
      cases hes : (Nat.beq b.es es && fits d q && (!b.row || q.idFree)) with
      | false => rw [hes] at h; exact h.elim
      | true =>
        rw [hes] at h
        rw [Bool.and_eq_true, Bool.and_eq_true] at hes
        obtain ⟨⟨hes, hf⟩, hrow⟩ := hes
        have hes := Nat.eq_of_beq_eq_true hes
        obtain ⟨hpe, x, hx, x', hx', l, hl, h⟩ := h
        injection hl with hl
        subst hl
        obtain ⟨g, hg, rfl⟩ := hp.ptr_
        rw [nthM_eq] at hx
        obtain ⟨cs, hcs, rfl, hcl⟩ := rep_of_fits hq hf
        rcases hI.blk c b hb with h1 | ⟨g', h1, h2⟩
        · rw [hg] at h1; cases h1.2.2.1
        · rw [hg] at h1
          injection h1 with h1
          subst h1
          obtain ⟨cur, parts, h3, h4, h5, h6, h7⟩ := h2.has
          obtain ⟨z, hz⟩ := get_of_len h4 hx
          have hcs' : Rep w P (if b.row then noAdr else adr) q cs := by
            cases hr : b.row with
            | false => exact hcs
            | true => rw [hr] at hrow; exact hcs.free (by simpa using hrow)
          obtain ⟨pre, old, post, e1, e2, e3, h8, h9, h10⟩ := setPO_rep (h6 k x z hx hz) hx' hcs'
          have hlt := (List.getElem?_eq_some_iff.1 hz).1
          have hpre : (parts.take k).flatten.length = k * es := by
            rw [flatten_const (es := b.es) fun x hx => h5 x (List.mem_of_mem_take hx), List.length_take, Nat.min_eq_left (by omega), hes]
          obtain ⟨tl, htl⟩ := h7
          have hcurl : cur.toList = (parts.take k).flatten ++ (pre ++ old ++ post) ++ ((parts.drop (k + 1)).flatten ++ tl) := by
            rw [← htl, flatten_split hz, e1]; simp
          have hoff : ((parts.take k).flatten ++ pre).length = k * es + fo := by rw [List.length_append, hpre, e2]
          have hsize : cur.size = k * es + fo + old.length + post.length + ((parts.drop (k + 1)).flatten ++ tl).length := by
            rw [← Array.length_toList, hcurl]
            simp only [List.length_append] at hoff ⊢
            omega
          have hst := run_storeCells_at Pg g (k * es + fo) b.ty cs 0 cur w h3 (by omega) hcs.one
          have htake : cur.toList.take (k * es + fo + 0) = (parts.take k).flatten ++ pre := by
            rw [hcurl, Nat.add_zero, ← hoff]
            rw [show (parts.take k).flatten ++ (pre ++ old ++ post) ++ ((parts.drop (k + 1)).flatten ++ tl) = ((parts.take k).flatten ++ pre) ++ (old ++ post ++ ((parts.drop (k + 1)).flatten ++ tl)) by simp]
            exact List.take_left
          have hdrop : cur.toList.drop (k * es + fo + 0 + cs.length) = post ++ ((parts.drop (k + 1)).flatten ++ tl) := by
            rw [hcurl, Nat.add_zero, ← e3, ← hoff]
            rw [show (parts.take k).flatten ++ (pre ++ old ++ post) ++ ((parts.drop (k + 1)).flatten ++ tl) = (((parts.take k).flatten ++ pre) ++ old) ++ (post ++ ((parts.drop (k + 1)).flatten ++ tl)) by simp]
            rw [← List.length_append]
            exact List.drop_left
          rw [htake, hdrop] at hst
          have hw := hI.write (b' := { b with l := setL b.l k x' }) (by simp [setL_eq]) hb hg rfl rfl rfl h3 (cur' := ((parts.take k).flatten ++ pre ++ cs ++ (post ++ ((parts.drop (k + 1)).flatten ++ tl))).toArray)
            (by simp only [List.size_toArray, List.length_append] at hoff hsize ⊢; omega)
            (fun o ho => by
              have h11 := h2.pe o ho
              have h12 : b.pe * b.es ≤ k * es := by rw [hes]; exact Nat.mul_le_mul_right _ hpe
              have e4 : cur[o]? = cur.toList[o]? := by simp
              rw [e4, hcurl]
              have e5 : ((parts.take k).flatten ++ pre ++ cs ++ (post ++ ((parts.drop (k + 1)).flatten ++ tl))).toArray[o]? = ((parts.take k).flatten ++ pre ++ cs ++ (post ++ ((parts.drop (k + 1)).flatten ++ tl)))[o]? := by simp
              rw [e5]
              simp only [List.append_assoc]
              rw [List.getElem?_append_left (by omega), List.getElem?_append_left (by omega)])
            (parts := parts.set k (pre ++ cs ++ post)) (by simp [setL_eq, h4])
            (fun p hp => by
              rcases List.mem_or_eq_of_mem_set hp with hp | rfl
              · exact h5 p hp
              · have := h5 z (List.mem_of_getElem? hz)
                rw [e1] at this
                simp only [List.length_append] at this ⊢
                show _ = b.es
                omega)
            (fun j y z' hy hz' => by
              have hy : (setL b.l k x')[j]? = some y := hy
              rw [setL_eq] at hy
              rcases getElem?_set' hy with ⟨rfl, rfl⟩ | ⟨hne, hy⟩
              · rcases getElem?_set' hz' with ⟨_, rfl⟩ | ⟨hne, _⟩
                · exact h8
                · exact absurd rfl hne
              · rcases getElem?_set' hz' with ⟨rfl, _⟩ | ⟨_, hz'⟩
                · exact absurd rfl hne
                · exact h6 j y z' hy hz')
            ⟨tl, by rw [flatten_set hz]; simp⟩
          refine ⟨.upd c (setL b.l k x'), _, h, ?_, ?_, hw.2, ?_⟩
          · have hs2 := run_sizeOf_of (TD.fits_size (hT.fits hd)) w
            simp only [Instr.storeAt, Instr.sureAddr, Sem.run_bind, Sem.run_pure, Result.andThen_ok, storeVar, hs2, valM_size hcs, hcl]
            simp only [ne_eq, not_true_eq_false, if_false, valM_cells hcs]
            exact hst
          · have e6 : Dl.appF cnt (.upd c (setL b.l k x')) m = fput m c { b with l := setL b.l k x' } := by
              show (match m c with | some b => _ | none => m) = _
              rw [hb]
            rw [e6]
            exact hw.1
          · exact ⟨rfl, rfl, rfl, by simp, fun b' hb' hne => setRow_other _ _ _ _ fun e => hne ⟨c, by rw [e]; exact hg⟩⟩
    · exact h.elim
  · exact h.elim
theorem oStore_ok (hT : TabOK Pg T) {t : TypeId} {p q : MV} (h : (oStore T m t p q).runP K) (hp : RepV w P adr p u) (hq : RepV w P adr q v) (hI : InvM w P adr m) (hn : adr cnt = none) :
    ∃ δ w', K (.undef, δ) ∧ (Instr.storeAt t u v).run Pg w = .ok () w' ∧ Post1 w P adr m cnt .undef δ undef w' := by
  obtain ⟨δ, w', h1, h2, h3, h4, h5⟩ := oStore_ok0 hT h hp hq hI cnt
  exact ⟨δ, w', h1, h2, P, adr, .undef, h3, h4, fun _ _ => rfl, fun g hg => (by rw [hn] at hg; cases hg), h5, fun _ _ h => .inl h⟩
theorem oFieldAddr_ok (hT : TabOK Pg T) {t : TypeId} {p : MV} {f : Nat} (h : (oFieldAddr T t p f).runP K) (hp : RepV w P adr p u) :
    ∃ r v, K (r, .none) ∧ (Instr.fieldAt t u f).run Pg w = .ok v w ∧ RepV w P adr r v := by
  unfold oFieldAddr at h
  split at h
  · rename_i fs sz hd
    have hf := hT.fits hd
    split at h
    · rename_i o ft hnth
      obtain ⟨fields, hu, h3, h4, _⟩ := TD.fits_struct hf
      obtain ⟨fd, hfd, ho⟩ : ∃ fd : Field, fields.toList[f]? = some fd ∧ fd.offset = o := by
        rw [nth_eq, ← h3, List.getElem?_map, Option.map_eq_some_iff] at hnth
        obtain ⟨fd, h5, h6⟩ := hnth
        exact ⟨fd, h5, congrArg Prod.fst h6⟩
      have hfd' : fields[f]? = some fd := by simpa using hfd
      have hpos : ∃ n, sizeB Pg fd.type n = true ∧ 0 < n := by
        have := List.all_eq_true.1 h4 fd (List.mem_of_getElem? hfd)
        unfold sizePos at this
        split at this
        · rename_i i hi
          exact ⟨i.size, by simp [sizeB, hi], by simpa using this⟩
        · cases this
      obtain ⟨n, hn, hn0⟩ := hpos
      have key : ∀ (w : World) (b off : Nat), (Instr.fieldAt t (.pointer (some ⟨b, off, none⟩)) f).run Pg w = .ok (.pointer (some ⟨b, off + o, none⟩)) w := by
        intro w b off
        have hs := run_sizeOf_of hn w
        have hn1 : n ≠ 0 := by omega
        simp only [Instr.fieldAt, Instr.sureAddr, fieldPlace, Sem.run_bind, run_underlying hu, Result.andThen_ok, hfd', Sem.run_pure, hs, hn1, if_false, ho, Addr.add_mid]
      split at h
      · obtain ⟨g, hg, rfl⟩ := hp.ptr_
        refine ⟨_, _, h, key _ _ _, ?_⟩
        rw [Nat.add_assoc]
        exact .val [_] (.ptr g hg)
      · obtain ⟨b, o', vs, rfl, hc, hv⟩ := hp.ep_
        refine ⟨_, _, h, key _ _ _, ?_⟩
        rw [Nat.add_assoc]
        exact .val [_] (.ep b o' vs hc hv)
      · rw [hp.gp_]
        exact ⟨_, _, h, key _ _ _, .val [_] .gp⟩
      · exact h.elim
    · exact h.elim
  · exact h.elim
theorem idx_out {n : Nat} {j : Int} {k : Nat} (h : idx n j = some k) : j = (k : Int) ∧ k < n := by
  unfold idx at h
  split at h
  · injection h with h; omega
  · cases h
theorem idxL_out {l : List MV} {n : Nat} {j : Int} {x : MV} (h : idxL l n j = some x) : ∃ k : Nat, j = (k : Int) ∧ k < n ∧ l[k]? = some x := by
  unfold idxL at h
  split at h
  · exact ⟨j.toNat, by omega, by omega, h⟩
  · cases h
theorem oIndexAddr_ok (hT : TabOK Pg T) {t : TypeId} {p j : MV} (h : (oIndexAddr T t p j).runP K) (hp : RepV w P adr p u) (hj : RepV w P adr j v) :
    ∃ r y, K (r, .none) ∧ (Instr.indexAt t u v).run Pg w = .ok y w ∧ RepV w P adr r y := by
  unfold oIndexAddr at h
  split at h
  · rename_i e es hd
    obtain ⟨hu, hs⟩ := TD.fits_slice (hT.fits hd)
    have key : ∀ (A : Option Addr) (b o len cap k : Nat) (k0 : IntKind), A = some ⟨b, o, none⟩ → k < len → (Instr.indexAt t (.slice A len cap) (.int k0 (k : Int))).run Pg w = .ok (.pointer (some ⟨b, o + k * es, none⟩)) w := by
      intro A b o len cap k k0 hA hk
      subst hA
      have hi : (0 : Int) ≤ (k : Int) ∧ (k : Int) < (len : Int) := ⟨by omega, by omega⟩
      simp only [Instr.indexAt, asIntOf, Sem.run_bind, Sem.run_pure, Result.andThen_ok, run_underlying hu, run_sizeOf_of hs, hi, and_self, if_true, Int.toNat_natCast, Addr.add_mid]
    split at h
    · obtain ⟨x, hx, h⟩ := h
      replace h : Ask.runP (bif Nat.beq x.size es then pureA (.ep x 0 []) else .bad) K := h
      cases hes : Nat.beq x.size es with
      | false => rw [hes] at h; exact h.elim
      | true =>
        rw [hes] at h
        have hes := Nat.eq_of_beq_eq_true hes
        rw [hj.int_]
        obtain ⟨k, rfl, hk, hx⟩ := idxL_out hx
        obtain ⟨A, cap, es', parts, rfl, h1, h2, h3, h4, _, h5, h6⟩ := hp.sl_
        obtain ⟨b, o, hA, hc⟩ := h5 (by omega)
        obtain ⟨q, hq⟩ := get_of_len (h2.trans h1.symm) hx
        have hrep := h6 k x q hx hq
        have hql := h3 q (List.mem_of_getElem? hq)
        have hee : es' = es := by rw [← hql, hrep.size, hes]
        subst hee
        refine ⟨_, _, h, key A b o _ cap k _ hA hk, ?_⟩
        refine .val [_] ?_
        have := Rep.ep (w := w) (P := P) (adr := adr) (v := x) (fo := 0) (path := []) b (o + k * es') q (fun j y hy => ?_) hrep
        · simpa using this
        · have hpre : (parts.take k).flatten.length = k * es' := by
            rw [flatten_const (es := es') fun x hx => h3 x (List.mem_of_mem_take hx), List.length_take, Nat.min_eq_left (by omega)]
          have hfl : parts.flatten[k * es' + j]? = some y := by
            rw [flatten_split hq, List.append_assoc, List.getElem?_append_right (by omega), hpre, List.getElem?_append_left (by have := (List.getElem?_eq_some_iff.1 hy).1; omega), show k * es' + j - k * es' = j by omega]
            exact hy
          have := hc _ y hfl
          rw [show o + k * es' + j = o + (k * es' + j) by omega]
          exact this
    · rename_i c es' off n k1 j1
      cases hes : Nat.beq es' es with
      | false => rw [hes] at h; exact h.elim
      | true =>
        rw [hes] at h
        have hes := Nat.eq_of_beq_eq_true hes
        subst hes
        obtain ⟨k, hk, h⟩ := h
        obtain ⟨hk1, hk2⟩ := idx_out hk
        rw [hj.int_, hk1]
        rcases hp.ms_ with ⟨_, _, h0⟩ | ⟨g, o, cap, hg, rfl, ho, _⟩
        · omega
        · have ho := ho (.inl (by omega))
          subst ho
          refine ⟨_, _, h, key _ g (off * es') _ cap k _ rfl hk2, .val [_] ?_⟩
          have := Rep.ptr (w := w) (P := P) (adr := adr) (c := c) (es := es') (k := off + k) (fo := 0) (path := []) g hg
          rw [Nat.add_mul, Nat.add_zero] at this
          exact this
    · exact h.elim
  · rename_i len e es hd
    obtain ⟨hu, hs⟩ := TD.fits_arr (hT.fits hd)
    have key : ∀ (w : World) (b o k : Nat) (k0 : IntKind), k < len → (Instr.indexAt t (.pointer (some ⟨b, o, none⟩)) (.int k0 (k : Int))).run Pg w = .ok (.pointer (some ⟨b, o + k * es, none⟩)) w := by
      intro w b o k k0 hk
      have hi : (0 : Int) ≤ (k : Int) ∧ (k : Int) < (len : Int) := ⟨by omega, by omega⟩
      simp only [Instr.indexAt, Instr.sureAddr, asIntOf, Sem.run_bind, Sem.run_pure, Result.andThen_ok, run_underlying hu, run_sizeOf_of hs, hi, and_self, if_true, Int.toNat_natCast, Addr.add_mid]
    split at h
    · obtain ⟨k, hk, h⟩ := h
      obtain ⟨hk1, hk2⟩ := idx_out hk
      rw [hj.int_, hk1]
      obtain ⟨g, hg, rfl⟩ := hp.ptr_
      refine ⟨_, _, h, key _ _ _ _ _ hk2, ?_⟩
      rw [Nat.add_assoc]
      exact .val [_] (.ptr g hg)
    · obtain ⟨k, hk, h⟩ := h
      obtain ⟨hk1, hk2⟩ := idx_out hk
      rw [hj.int_, hk1]
      obtain ⟨b, o', vs, rfl, hc, hv⟩ := hp.ep_
      refine ⟨_, _, h, key _ _ _ _ _ hk2, ?_⟩
      rw [Nat.add_assoc]
      exact .val [_] (.ep b o' vs hc hv)
    · obtain ⟨k, hk, h⟩ := h
      obtain ⟨hk1, hk2⟩ := idx_out hk
      rw [hj.int_, hk1, hp.gp_]
      exact ⟨_, _, h, key _ _ _ _ _ hk2, .val [_] .gp⟩
    · exact h.elim
  · exact h.elim
end
end Go.Proofs.YtllepnadffndnaaDoor
