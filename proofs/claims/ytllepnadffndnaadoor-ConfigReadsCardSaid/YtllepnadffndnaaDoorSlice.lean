/- Slices that a function has made itself: appending to them. -/
import Derived.Test.YtllepnadffndnaaDoorCode
namespace Go.Proofs.YtllepnadffndnaaDoor
open Go.RowKit

theorem wrap_in (n : Int) (h1 : -9223372036854775808 ≤ n) (h2 : n < 9223372036854775808) : IntKind.i64.wrap n = n := by
  rw [IntKind.wrap_i64]; omega
theorem wrapu_in (n : Int) (h1 : 0 ≤ n) (h2 : n < 18446744073709551616) : IntKind.u64.wrap n = n := by
  simp only [IntKind.wrap, IntKind.bits, IntKind.signed]
  simp
  omega
theorem wrap8_in (n : Int) (h1 : 0 ≤ n) (h2 : n < 256) : IntKind.u8.wrap n = n := by
  simp only [IntKind.wrap, IntKind.bits, IntKind.signed]
  simp
  omega
section
variable {P : Program} {T : Tab} {N : Nat} {ents : List FuncId} {M : Mem} {H H' : Hist} {w w' wk : World} {ex : Fp} {base : Nat} {e : TypeId} {es : Nat} {v : Value} {n : Nat} {xs : List Value}

theorem A.cellAt (hA : A M H w) (i : Nat) {b off : Nat} {kb : KB} {v : Value} (hi : M.find i = some kb) (hg : kb.g = b) (hv : nth kb.cs off = some (.val v)) : w.cell? ⟨b, off, none⟩ = some v := by
  subst hg
  rw [(hA.blk i kb hi).cell]
  rw [nth_eq] at hv
  simp [hv, SV.den]
theorem index1 (hT : TabOK P T) {t e' : TypeId} {len : Nat} {d : TD} (hd : Tab.find T t = some (.arr len e' 1)) (he : Tab.find T e' = some d) (ha : d.agg = false) {l : List Value} {k : Nat} {k0 : IntKind} {v : Value} (hk : k < len) (hv : l[k]? = some v) (w : World) :
    (Instr.index t (.agg ⟨l⟩) (.int k0 (k : Int))).run P w = .ok v w := by
  obtain ⟨hu, hs⟩ := TD.fits_arr (hT.fits hd)
  have hi : (0 : Int) ≤ (k : Int) ∧ (k : Int) < (len : Int) := ⟨by omega, by omega⟩
  simp only [Instr.index, asIntOf, Sem.run_bind, Sem.run_pure, Result.andThen_ok, run_underlying hu, hi, and_self, if_true, run_sizeOf_of hs, Int.toNat_natCast, part, TD.fits_agg (hT.fits he), ha]
  simp [hv]
theorem A.now (h : A M H w) : A M ((w, M.gs) :: H) w := h.below (Below.refl _ _)
theorem A.at_start (h : A M H w) {p : World × Fp} (hp : p ∈ H) (i : Nat) {kb : KB} (hi : M.find i = some kb) (hx : ¬ p.2 kb.g) : p.1.heap.size ≤ kb.g := (h.fresh p hp i kb hi).resolve_left hx
theorem Mem.gs_above {g x : Nat} (h : Above M g) (hx : M.gs x) : x < g := by
  obtain ⟨i, kb, hi, rfl⟩ := hx
  exact h i kb hi
theorem ownsRow_since (h : wk.ownsRow base e es v n xs) (hs : Since ex wk w) (hx : ∀ g, v.ownBlock = some g → ¬ ex g) : w.ownsRow base e es v n xs := by
  refine ⟨h.1, ?_⟩
  rcases h.2 with hn | ⟨g, cap, cur, rfl, hb, hgg, rest⟩
  · exact .inl hn
  · refine .inr ⟨g, cap, cur, rfl, hb, ?_, rest⟩
    rw [hs.block g (Array.getElem?_eq_some_iff.1 hgg).1 (hx g rfl)]
    exact hgg
theorem A.grown' {row : Option Nat} (h : A M H w) (hg : w.grownBy w' row) (hM : ∀ i kb, M.find i = some kb → some kb.g ≠ row) (hH : ∀ p ∈ H', p ∈ H ∧ ∀ g, row = some g → p.2 g ∨ p.1.heap.size ≤ g) : A M ((w', M.gs) :: H') w' := by
  have s : Since (fun b => row = some b) w w' := ⟨hg.os, hg.tape, hg.output, hg.size, fun b hb he => hg.block b hb (fun e => he e.symm)⟩
  refine ⟨fun i kb hi => (h.blk i kb hi).grown hg (hM i kb hi), h.apart, fun p hp => ?_, fun p hp i kb hi => ?_⟩
  · rcases List.mem_cons.1 hp with rfl | hp
    · exact Since.refl _ _
    · exact (h.since p (hH p hp).1).step s (fun b e => (hH p hp).2 b e)
  · rcases List.mem_cons.1 hp with rfl | hp
    · exact .inl ⟨i, kb, hi, rfl⟩
    · exact h.fresh p (hH p hp).1 i kb hi
theorem append_mem (hS : Seat P T ents) {M' : Mem} (hM' : MSub M' M) {t ty : TypeId} {by_ : Nat} {zl : List SV} (hd : Tab.find T t = some (.slice e es)) (hby : (P.info? e).map (·.bytes) = some by_) (hz : zeroAcc T 9 e [] = some zl) (hzl : zl.length = es) (hes : 0 < es)
    (hk : (wk, ex) ∈ H) (hown : wk.ownsRow base e es v n xs) (hx : ∀ g, v.ownBlock = some g → ¬ ex g) (hH : ∀ p ∈ H', p ∈ H ∧ p.1.heap.size ≤ base) (hbase : base ≤ wk.heap.size)
    {a : Addr} {m c : Nat} {news : List Value} (hl : news.length = m * es) (hnews : ∀ w, A M H w → ∀ j u, news[j]? = some u → w.cell? (a.add j) = some u) (h1 : ∀ u ∈ news, u.oneCell' = true)
    (h63 : n + m ≤ maxLen) (hbytes : (n + m) * by_ ≤ 140737488355328) {K : Cont} (hK : ∀ v' w', w'.ownsRow base e es v' (n + m) (xs ++ news) → K (.val v') M' ((w', M'.gs) :: H')) :
    memV P M H (Builtin.append_ #[t, t] ty #[v, .slice (some a) m c]) K := by
  intro w hA
  obtain ⟨hu, hs⟩ := TD.fits_slice (hS.tab.fits hd)
  obtain ⟨zv, hzv, hzc⟩ := hS.tab.zero hz w
  cases hi : P.info? e with
  | none => simp [hi] at hby
  | some it =>
    have hby' : it.bytes = by_ := by simpa [hi] using hby
    have hsz : it.size = es := by simpa [sizeB, hi] using hs
    have hit : it.zero = some zv := by
      cases hv : it.zero with
      | none => simp [zeroValue, typeInfo, hi, hv, unsupported] at hzv
      | some v => simp [zeroValue, typeInfo, hi, hv] at hzv; rw [hzv]
    have hsn := hA.since _ hk
    obtain ⟨v', w', hr, ho, hg, _⟩ := run_append_own (P := P) w base t ty e it zv es by_ hu hi hit hsz hby' (by rw [← Array.length_toList, hzc]; simp [hzl]) hes v n xs (ownsRow_since hown hsn hx) a m c news hl (hnews w hA) h1 h63 hbytes (Nat.le_trans hbase hsn.size)
    refine ⟨.val v', w', M', _, hr, ?_, hK v' w' ho⟩
    have hb := hown.lt
    refine (hA.sub hM').grown' hg (fun i kb hi he => ?_) (fun p hp => ⟨(hH p hp).1, fun g hg' => ?_⟩)
    · rcases hA.fresh _ hk i kb (hM'.find i kb hi) with hf | hf
      · exact hx _ he.symm hf
      · have := (hb _ he.symm).2
        have hf : wk.heap.size ≤ kb.g := hf
        omega
    · have := (hb g hg').1
      have := (hH p hp).2
      exact .inr (by omega)
theorem ldS (hT : TabOK P T) {t : TypeId} {d : TD} (hd : Tab.find T t = some d) (ha : d.agg = false) {b o p j : Nat} {cs : List Value} {v : Value} (hr : w.rangeAt b o cs) (hj : cs[j]? = some v) (hp : p = o + j) (hs : Since ex w w') (hx : ¬ ex b) :
    (loadVar t ⟨b, p, none⟩).run P w' = .ok v w' := by
  have hr' := rangeAt_keep (w' := w') hr (fun h => hs.block b h hx)
  exact ld1 hT hd ha hr' hj hp (Below.refl _ _)
theorem Sl.since {α : Type} {r : Rp α} {S : Fp} {a : Option Addr} {xs : List α} (h : Sl r w S a xs) (hs : Since ex w w') (hx : ∀ b, S b → ¬ ex b) : Sl r w' S a xs :=
  h.keep (fun _ h => h) (fun b hS hb => hs.block b hb (hx b hS))
/-- A row of numbers, as cells. -/
def intsS (k : IntKind) (l : List Int) : List SV := l.map fun n => .val (.int k n)
theorem nth_ints {k : IntKind} {l : List Int} {i : Nat} (h : i < l.length) : nth (intsS k l) i = some (.val (.int k l[i])) := by
  rw [nth_eq, intsS, List.getElem?_map, List.getElem?_eq_getElem h]; rfl
theorem setN_some {α : Type} : ∀ {l : List α} {n : Nat} (v : α), n < l.length → setN l n v = some (l.set n v)
  | [], _, _, h => by simp at h
  | _ :: _, 0, _, _ => rfl
  | x :: l, n + 1, v, h => by
    simp only [setN, setN_some v (show n < l.length by simpa using h)]
    rfl
theorem setN_ints {k : IntKind} {l : List Int} {i : Nat} (n : Int) (h : i < l.length) : setN (intsS k l) i (.val (.int k n)) = some (intsS k (l.set i n)) := by
  rw [setN_some _ (by simpa [intsS] using h)]
  simp [intsS, List.map_set]
theorem setN_at {k : IntKind} {l : List Int} {i j : Nat} (n : Int) (e : i = j) (h : j < l.length) : setN (intsS k l) i (.val (.int k n)) = some (intsS k (l.set j n)) := by subst e; exact setN_ints n h
theorem nth_at {k : IntKind} {l : List Int} {i j : Nat} (e : i = j) (h : j < l.length) : nth (intsS k l) i = some (.val (.int k l[j])) := by subst e; exact nth_ints h
/-- The beginning, with one block of the caller's that the call may write. -/
theorem A.start1 {g : Nat} {t : TypeId} {cs : List SV} (hb : Blk w g t (cs.map SV.den).toArray) : A [(0, ⟨g, t, cs⟩)] [(w, fun b => b = g)] w := by
  have one : ∀ i kb, Mem.find [(0, (⟨g, t, cs⟩ : KB))] i = some kb → kb = ⟨g, t, cs⟩ ∧ i = 0 := by
    intro i kb hi
    rw [Mem.find_cons] at hi
    split at hi
    · rename_i e; injection hi with hi; exact ⟨hi.symm, e.symm⟩
    · simp [Mem.find] at hi
  refine ⟨fun i kb hi => ?_, fun i j ki kj hi hj hne => ?_, fun p hp => ?_, fun p hp i kb hi => ?_⟩
  · obtain ⟨rfl, _⟩ := one i kb hi; exact hb
  · exact absurd ((one i ki hi).2.trans (one j kj hj).2.symm) hne
  · simp at hp; subst hp; exact Since.refl _ _
  · simp at hp; subst hp
    obtain ⟨rfl, _⟩ := one i kb hi
    exact .inl rfl
/-- Behind a call that has written one known block (and else only what is new). -/
theorem A.wrote (h : A M H w) {i : Nat} {kb : KB} (hi : M.find i = some kb) {cs : List SV} (hs : Since (fun b => b = kb.g) w w') (hb : Blk w' kb.g kb.t (cs.map SV.den).toArray) : A (M.upd i cs) H w' := by
  have key : ∀ {j : Nat} {kj : KB}, (M.upd i cs).find j = some kj → ∃ kj', M.find j = some kj' ∧ kj'.g = kj.g := by
    intro j kj hj
    rw [Mem.find_upd] at hj
    split at hj
    · rename_i e; subst e; rw [hi] at hj; injection hj with hj; subst hj; exact ⟨kb, hi, rfl⟩
    · exact ⟨kj, hj, rfl⟩
  refine ⟨fun j kj hj => ?_, fun j k kj kk hj hk hne => ?_, fun p hp => ?_, fun p hp j kj hj => ?_⟩
  · rw [Mem.find_upd] at hj
    split at hj
    · rename_i e; subst e; rw [hi] at hj; injection hj with hj; subst hj; exact hb
    · rename_i e
      have hne := h.apart i j kb kj hi hj e
      have hbj := h.blk j kj hj
      show w'.heap[kj.g]? = _
      rw [hs.block kj.g hbj.lt (fun e => hne e.symm)]
      exact hbj
  · obtain ⟨a, ha, hag⟩ := key hj
    obtain ⟨b, hb', hbg⟩ := key hk
    rw [← hag, ← hbg]
    exact h.apart j k a b ha hb' hne
  · exact (h.since p hp).step hs (fun b e => by subst e; exact h.fresh p hp i kb hi)
  · obtain ⟨a, ha, hag⟩ := key hj
    rw [← hag]
    exact h.fresh p hp j a ha

/-- A block that a call has made. -/
theorem A.adopt (h : A M H w) (hb : Below w.heap.size w w') {g : Nat} {t : TypeId} {cs : List SV} (hg : w.heap.size ≤ g) (hk : Blk w' g t (cs.map SV.den).toArray) : A ((newId M, ⟨g, t, cs⟩) :: M) H w' := by
  have h2 := h.below' hb
  refine ⟨fun i kb hi => ?_, fun i j ki kj hi hj hne => ?_, h2.since, fun p hp i kb hi => ?_⟩
  · rw [Mem.find_cons] at hi
    split at hi
    · injection hi with hi; subst hi; exact hk
    · exact h2.blk i kb hi
  · rw [Mem.find_cons] at hi hj
    split at hi <;> split at hj
    · rename_i e1 e2; exact absurd (e1.symm.trans e2) hne
    · injection hi with hi; subst hi
      have := (h.blk j kj hj).lt
      show g ≠ kj.g
      omega
    · injection hj with hj; subst hj
      have := (h.blk i ki hi).lt
      show ki.g ≠ g
      omega
    · exact h.apart i j ki kj hi hj hne
  · rw [Mem.find_cons] at hi
    split at hi
    · injection hi with hi; subst hi
      exact .inr (Nat.le_trans (h.since p hp).size hg)
    · exact h.fresh p hp i kb hi
theorem A.from_start (hA : A M H w) (h : (wk, fun _ => False) ∈ H) (i : Nat) {kb : KB} (hi : M.find i = some kb) : wk.heap.size ≤ kb.g := hA.at_start (p := (wk, fun _ => False)) h i hi (fun h => h)
theorem A.gs_lt (h : A M H w) {b : Nat} (hb : M.gs b) : b < w.heap.size := by
  obtain ⟨i, kb, hi, rfl⟩ := hb
  exact (h.blk i kb hi).lt
/-- This world is remembered, but for some blocks. -/
theorem A.remember (h : A M H w) (ex : Fp) (hex : ∀ b, M.gs b → ex b) : A M ((w, ex) :: H) w := by
  refine ⟨h.blk, h.apart, fun p hp => ?_, fun p hp i kb hi => ?_⟩
  · rcases List.mem_cons.1 hp with rfl | hp
    · exact Since.refl _ _
    · exact h.since p hp
  · rcases List.mem_cons.1 hp with rfl | hp
    · exact .inl (hex _ ⟨i, kb, hi, rfl⟩)
    · exact h.fresh p hp i kb hi
/-! ### Rows of elements -/
def SlL {α : Type} (r : Rp α) (w : World) (S : Fp) : List Value → List α → Prop
  | cells, [] => cells = []
  | cells, x :: xs => ∃ c rest, cells = c ++ rest ∧ r.rel w S c x ∧ SlL r w S rest xs
theorem SlL.get {α : Type} {r : Rp α} {S : Fp} : ∀ {cells : List Value} {xs : List α}, SlL r w S cells xs → ∀ (i : Nat) (x : α), xs[i]? = some x → ∃ cs, r.rel w S cs x ∧ ∀ (j : Nat) (v : Value), cs[j]? = some v → cells[i * r.size + j]? = some v
  | cells, [], _, i, x, hx => by simp at hx
  | cells, y :: xs, h, 0, x, hx => by
    obtain ⟨c, rest, rfl, hr, _⟩ := h
    simp at hx
    subst hx
    refine ⟨c, hr, fun j v hj => ?_⟩
    have hlt := (List.getElem?_eq_some_iff.1 hj).1
    rw [Nat.zero_mul, Nat.zero_add, List.getElem?_append_left hlt]
    exact hj
  | cells, y :: xs, h, i + 1, x, hx => by
    obtain ⟨c, rest, rfl, hr, h'⟩ := h
    obtain ⟨cs, h1, h2⟩ := SlL.get h' i x (by simpa using hx)
    refine ⟨cs, h1, fun j v hj => ?_⟩
    have hl := r.len hr
    rw [Nat.succ_mul, List.getElem?_append_right (by omega), show i * r.size + r.size + j - c.length = i * r.size + j by omega]
    exact h2 j v hj
theorem SlL.append {α : Type} {r : Rp α} {S : Fp} : ∀ {a b : List Value} {xs ys : List α}, SlL r w S a xs → SlL r w S b ys → SlL r w S (a ++ b) (xs ++ ys)
  | a, b, [], ys, ha, hb => by
    have ha : a = [] := ha
    subst ha
    exact hb
  | a, b, x :: xs, ys, ha, hb => by
    obtain ⟨c, rest, rfl, hr, h'⟩ := ha
    exact ⟨c, rest ++ b, by simp, hr, h'.append hb⟩
theorem Sl.of_blk {α : Type} {r : Rp α} {S : Fp} {g : Nat} {t : TypeId} {cells : List Value} {xs : List α} (hb : Blk w g t cells.toArray) (hS : S g) (h : SlL r w S cells xs) (hn : xs.length ≤ 140737488355328) : Sl r w S (some ⟨g, 0, none⟩) xs := by
  refine ⟨hn, fun _ => ⟨g, 0, rfl, hS, fun i x hx => ?_⟩⟩
  obtain ⟨cs, h1, h2⟩ := h.get i x hx
  refine ⟨cs, h1, fun j v hj => ?_⟩
  rw [hb.cell]
  have := h2 j v hj
  simp only [Nat.zero_add, List.getElem?_toArray]
  exact this
theorem Sl.of_own {α : Type} {r : Rp α} {S : Fp} {cells : List Value} {ys : List α} (h : w.ownsRow base e r.size v n cells) (hS : ∀ b, base ≤ b → b < w.heap.size → S b) (hl : SlL r w S cells ys) (hy : ys.length = n) (hn : n ≤ 140737488355328) :
    ∃ A' c', v = .slice A' ys.length c' ∧ Sl r w S A' ys := by
  rcases h.2 with ⟨rfl, rfl⟩ | ⟨g, cap, cur, rfl, hb, hgg, hnc, hcm, hcs, htk⟩
  · have : ys = [] := List.length_eq_zero_iff.1 hy
    subst this
    exact ⟨none, 0, rfl, Sl.nil_ _ _ _⟩
  · refine ⟨some ⟨g, 0, none⟩, cap, by rw [hy], by omega, fun _ => ⟨g, 0, rfl, hS g hb (Array.getElem?_eq_some_iff.1 hgg).1, fun i x hx => ?_⟩⟩
    obtain ⟨cs, h1, h2⟩ := hl.get i x hx
    refine ⟨cs, h1, fun j v hj => ?_⟩
    have h3 := h2 j v hj
    rw [← htk, List.getElem?_take] at h3
    split at h3
    · rw [show w.cell? ⟨g, 0 + i * r.size + j, none⟩ = cur[0 + i * r.size + j]? from cell_of_row w g _ cur e (0, 0) hgg]
      simpa using h3
    · cases h3
end
end Go.Proofs.YtllepnadffndnaaDoor
