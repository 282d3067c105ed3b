/- Ranging over a string, and appending to an own row beside other things that are remembered. -/
import Derived.Test.YtllepnadffndnaaDoorSlice
import Derived.Lib.OthersKept
import Derived.Laws.RangeString
namespace Go.Proofs.YtllepnadffndnaaDoor
open Go.RowKit

section
variable {P : Program} {T : Tab} {ents : List FuncId} {M : Mem} {H H' : Hist} {w w' wk : World} {ex : Fp} {base : Nat} {e : TypeId} {es : Nat} {v : Value} {n : Nat} {xs : List Value}

theorem range_mem (hT : TabOK P T) {t : TypeId} {s : ByteArray} {K : Cont} (hd : Tab.find T t = some .str) (hH : ∀ p ∈ H', p ∈ H)
    (hK : ∀ wp w', A M H wp → Below wp.heap.size wp w' → w'.heap[wp.heap.size]? = some (.stringIter s 0) → K (.val (.pointer (some ⟨wp.heap.size, 0, none⟩))) M ((w', M.gs) :: H')) : memV P M H (Instr.range t (.string s)) K := by
  intro w hA
  have hu := TD.fits_str (hT.fits hd)
  have hb : Below w.heap.size w (w.iter s 0) := (Below.refl _ _).alloc (Nat.le_refl _) _
  refine ⟨.val _, w.iter s 0, M, _, run_range_string w t s hu, ?_, hK w _ hA hb (World.iter_heap w s 0)⟩
  exact (hA.below hb).hist (fun p hp => by
    rcases List.mem_cons.1 hp with rfl | hp
    · exact List.mem_cons_self
    · exact List.mem_cons_of_mem _ (hH p hp))

theorem next_mem {g pos : Nat} {s : ByteArray} {ty : TypeId} {K : Cont} (hk : (wk, ex) ∈ H) (hit : wk.heap[g]? = some (.stringIter s pos)) (hx : ¬ ex g)
    (hH : ∀ p ∈ H', p ∈ H ∧ (p.2 g ∨ p.1.heap.size ≤ g))
    (h1 : pos < s.size → ∀ (c k : Nat) wp w', Utf8.decode s pos = (c, k) → A M H wp → Since (fun b => b = g) wp w' → w'.heap[g]? = some (.stringIter s (pos + k)) →
      K (.val (.tuple #[.bool true, .int .i64 pos, .int .i32 c])) M ((w', M.gs) :: H'))
    (h0 : ¬ pos < s.size → ∀ wp, A M H wp → K (.val (.tuple #[.bool false])) M ((wp, M.gs) :: H')) : memV P M H (Instr.next (.pointer (some ⟨g, 0, none⟩)) true ty) K := by
  intro w hA
  have hlt := (Array.getElem?_eq_some_iff.1 hit).1
  have hs := hA.since _ hk
  have hiw : w.heap[g]? = some (.stringIter s pos) := (hs.block g hlt hx).trans hit
  have hg : g < w.heap.size := (Array.getElem?_eq_some_iff.1 hiw).1
  have hM : ∀ i kb, M.find i = some kb → kb.g ≠ g := by
    intro i kb hi e
    have := (hA.blk i kb hi).heap
    rw [e, hiw] at this
    cases this
  by_cases hp : pos < s.size
  · have hr := Lib.run_next_any_at (P := P) w g s pos ty hiw hp
    have hsn : Since (fun b => b = g) w (w.iterAt g s (pos + (Utf8.decode s pos).2)) :=
      ⟨rfl, rfl, rfl, by rw [Lib.iterAt_size]; exact Nat.le_refl _, fun b _ he => Lib.iterAt_other w g b s _ he⟩
    refine ⟨.val _, _, M, _, hr, ?_, h1 hp _ _ w _ rfl hA hsn (Lib.iterAt_heap w g s pos _ hiw)⟩
    have hgr : w.grownBy (w.iterAt g s (pos + (Utf8.decode s pos).2)) (some g) := by
      refine ⟨?_, ?_, ?_, ?_, ?_⟩
      all_goals first | rfl | exact hsn.size | (intro b hb he; exact hsn.block b hb (fun e => he (by rw [e])))
    exact hA.grown' hgr (fun i kb hi he => hM i kb hi (Option.some.inj he)) (fun p hp => ⟨(hH p hp).1, fun g' he => by
      have := Option.some.inj he
      subst this
      exact (hH p hp).2⟩)
  · have hr := Lib.run_next_end_at (P := P) w g s pos ty hiw hp
    refine ⟨.val _, w, M, _, hr, ?_, h0 hp w hA⟩
    exact hA.now.hist (fun p hp => by
      rcases List.mem_cons.1 hp with rfl | hp
      · exact List.mem_cons_self
      · exact List.mem_cons_of_mem _ (hH p hp).1)

theorem append_mem2 (hS : Seat P T ents) {M' : Mem} (hM' : MSub M' M) {t ty : TypeId} {by_ : Nat} {zl : List SV} (hd : Tab.find T t = some (.slice e es)) (hby : (P.info? e).map (·.bytes) = some by_) (hz : zeroAcc T 9 e [] = some zl) (hzl : zl.length = es) (hes : 0 < es)
    (hk : (wk, ex) ∈ H) (hown : wk.ownsRow base e es v n xs) (hx : ∀ g, v.ownBlock = some g → ¬ ex g) (hH : ∀ p ∈ H', p ∈ H ∧ p.1.heap.size ≤ base) (hbase : base ≤ wk.heap.size)
    {a : Addr} {m c : Nat} {news : List Value} (hl : news.length = m * es) (hnews : ∀ w, A M H w → ∀ j u, news[j]? = some u → w.cell? (a.add j) = some u) (h1 : ∀ u ∈ news, u.oneCell' = true)
    (h63 : n + m ≤ maxLen) (hbytes : (n + m) * by_ ≤ 140737488355328) {K : Cont}
    (hK : ∀ wp v' w', A M H wp → (∀ b, b < wp.heap.size → v.ownBlock ≠ some b → w'.heap[b]? = wp.heap[b]?) → wp.heap.size ≤ w'.heap.size → w'.ownsRow base e es v' (n + m) (xs ++ news) → K (.val v') M' ((w', M'.gs) :: H')) :
    memV P M H (Builtin.append_ #[t, t] ty #[v, .slice (some a) m c]) K := by
  intro w hA
  obtain ⟨hu, hs⟩ := TD.fits_slice (hS.tab.fits hd)
  obtain ⟨zv, hzv, hzc⟩ := hS.tab.zero hz w
  cases hi : P.info? e with
  | none => simp [hi] at hby
  | some it =>
    have hby' : it.bytes = by_ := by simpa [hi] using hby
    have hsz : it.size = es := by simpa [sizeB, hi] using hs
    have hit : it.zero = some zv := by
      cases hv : it.zero with
      | none => simp [zeroValue, typeInfo, hi, hv, unsupported] at hzv
      | some v => simp [zeroValue, typeInfo, hi, hv] at hzv; rw [hzv]
    have hsn := hA.since _ hk
    obtain ⟨v', w', hr, ho, hg, _⟩ := run_append_own (P := P) w base t ty e it zv es by_ hu hi hit hsz hby' (by rw [← Array.length_toList, hzc]; simp [hzl]) hes v n xs (ownsRow_since hown hsn hx) a m c news hl (hnews w hA) h1 h63 hbytes (Nat.le_trans hbase hsn.size)
    refine ⟨.val v', w', M', _, hr, ?_, hK w v' w' hA (fun b hb he => hg.block b hb (fun e => he e.symm)) hg.size ho⟩
    have hb := hown.lt
    refine (hA.sub hM').grown' hg (fun i kb hi he => ?_) (fun p hp => ⟨(hH p hp).1, fun g hg' => ?_⟩)
    · rcases hA.fresh _ hk i kb (hM'.find i kb hi) with hf | hf
      · exact hx _ he.symm hf
      · have := (hb _ he.symm).2
        have hf : wk.heap.size ≤ kb.g := hf
        omega
    · have := (hb g hg').1
      have := (hH p hp).2
      exact .inr (by omega)
/-- An own row is no iterator. -/
theorem own_ne_iter {g pos : Nat} {s : ByteArray} (hown : wk.ownsRow base e es v n xs) (hit : wk.heap[g]? = some (.stringIter s pos)) : v.ownBlock ≠ some g := by
  intro h
  rcases hown.2 with ⟨rfl, _⟩ | ⟨g', cap, cur, rfl, _, hgg, _⟩
  · simp [Value.ownBlock] at h
  · simp [Value.ownBlock] at h
    subst h
    rw [hit] at hgg
    cases hgg
end
end Go.Proofs.YtllepnadffndnaaDoor
