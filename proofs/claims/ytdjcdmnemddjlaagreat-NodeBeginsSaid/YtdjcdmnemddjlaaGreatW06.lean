/- Parts of a proof, one behind the other: WV, WX, WY, WQ, WZ, Z2, XA, YE, Z1, YB, BW, J0, Y3, Y4, Y5, M38, Za, Zb, Zc, EV2. -/
import Derived.Test.YtdjcdmnemddjlaaGreatW05
set_option maxRecDepth 20000
set_option maxHeartbeats 16000000
set_option linter.unusedVariables false
set_option linter.unusedSimpArgs false
namespace Go.Proofs.YtdjcdmnemddjlaaGreat
open Go.RowKit
section
open Go.RowKit Go.Lib Go.Shelf Go.Sort
variable {G : GS}
theorem encA_len (a : AcS) : (encA a).length = 3 := rfl
theorem enc_rep {w : World} {P : Prot} {adr : Adr} {a : AcS} {p : List Value} (h : Rep w P adr (acM a) p) : p = encA a := by
 unfold acM at h
 cases h with
 | st parts hp hr =>
  match parts, hp with
  | [p1, p2, p3], _ =>
   have h1 := hr 0 _ p1 rfl rfl
   have h2 := hr 1 _ p2 rfl rfl
   have h3 := hr 2 _ p3 rfl rfl
   cases h1
   cases h2
   cases h3
   rfl
theorem rep_enc (w : World) (P : Prot) (adr : Adr) (a : AcS) : Rep w P adr (acM a) (encA a) := by
 have h : Rep w P adr (.st [.str a.name, .int .u64 a.bal, .int .u64 a.seq]) ([[.string ⟨a.name.toArray⟩], [.int .u64 a.bal], [.int .u64 a.seq]] : List (List Value)).flatten := .st _ rfl (fun j m p hm hp => by
  match j with
  | 0 => simp at hm hp; subst hm; subst hp; exact .str
  | 1 => simp at hm hp; subst hm; subst hp; exact .int
  | 2 => simp at hm hp; subst hm; subst hp; exact .int
  | j + 3 => simp at hm)
 exact h
theorem parts_enc {w : World} {P : Prot} {adr : Adr} : ∀ {l : List AcS} {Q : List (List Value)}, Q.length = (l.map acM).length → (∀ (j : Nat) x p, (l.map acM)[j]? = some x → Q[j]? = some p → Rep w P adr x p) → Q = l.map encA
 | [], [], _, _ => rfl
 | [], _ :: _, h, _ => by simp at h
 | _ :: _, [], h, _ => by simp at h
 | a :: l, q :: Q, h, hr => by
  rw [enc_rep (hr 0 _ q rfl rfl), List.map_cons, parts_enc (l := l) (Q := Q) (by simpa using h) fun j x p hx hp => hr (j + 1) x p (by simpa using hx) (by simpa using hp)]
theorem flat_get : ∀ (l : List AcS) (j : Nat), j < l.length * 3 → (l.map encA).flatten[j]? = (encA (l.getD (j / 3) ac0))[j % 3]?
 | [], j, h => by simp at h
 | a :: l, j, h => by
  rw [List.map_cons, List.flatten_cons]
  by_cases hj : j < 3
  ·rw [List.getElem?_append_left (by rw [encA_len]; exact hj), show j / 3 = 0 by omega, show j % 3 = j by omega]
   rfl
  ·have h' : j - 3 < l.length * 3 := by simp at h; omega
   rw [List.getElem?_append_right (by rw [encA_len]; omega), encA_len, flat_get l (j - 3) h', show j / 3 = (j - 3) / 3 + 1 by omega, show (j - 3) % 3 = j % 3 by omega]
   rfl
theorem flatK_list (d : Array AcS) : (Go.Sort.flatK encA 3 d).toList = (d.toList.map encA).flatten := by
 apply List.ext_getElem?
 intro j
 have hl : (d.toList.map encA).flatten.length = d.size * 3 := by
  rw [flat3_len (fun p hp => by obtain ⟨a, _, rfl⟩ := List.mem_map.1 hp; rfl), List.length_map, Array.length_toList]
 by_cases hj : j < d.size * 3
 ·rw [flat_get _ _ (by rw [Array.length_toList]; exact hj), Array.getElem?_toList, Array.getElem?_eq_getElem (by rw [size_flatK]; exact hj)]
  have h1 := get_flatK encA 3 d j hj
  rw [getElem!_pos _ _ (by rw [size_flatK]; exact hj)] at h1
  rw [h1]
  have h2 : d[j / 3]! = d.toList.getD (j / 3) ac0 := by
   rw [getElem!_pos _ _ (by omega), List.getD_eq_getElem?_getD, Array.getElem?_toList, Array.getElem?_eq_getElem (by omega)]
   rfl
  rw [h2, List.getElem?_eq_getElem (by rw [encA_len]; omega), getElem!_pos _ _ (by rw [encA_len]; omega)]
 ·rw [List.getElem?_eq_none (by rw [Array.length_toList, size_flatK]; omega), List.getElem?_eq_none (by rw [hl]; omega)]
theorem put_cells {w : World} {g : Nat} {cur : Array Value} {ty : TypeId} (hg : w.heap[g]? = some (.cells cur ty (0, 0))) (F : Array Value) (hF : F.size ≤ cur.size) :
  ∃ row : Array Value, row.size = cur.size ∧ F.toList <+: row.toList ∧ putRow id w g 0 F = w.setRow g row := by
 refine ⟨putCells id 0 F cur, by simp [putCells], ?_, ?_⟩
 ·rw [List.prefix_iff_eq_take]
  apply List.ext_getElem?
  intro j
  rw [List.getElem?_take, Array.length_toList]
  split
  ·rename_i hj
   rw [Array.getElem?_toList, Array.getElem?_toList, Array.getElem?_eq_getElem hj, Array.getElem?_eq_getElem (by simp [putCells]; omega)]
   simp [putCells, hj]
  ·rename_i hj
   rw [List.getElem?_eq_none (by rw [Array.length_toList]; omega)]
 ·unfold putRow
  rw [mapBlock_congr w g _ (fun _ => putCells id 0 F cur) (fun c e fr h => by rw [hg] at h; injection h with h; injection h with h; rw [h])]
  unfold mapBlock World.setRow
  congr 1
def SortsA (P : Program) (f g1 : FuncId) : Prop := ∀ (g cap : Nat) (d : Array AcS) (w : World), HoldsK encA 3 w g 0 d → g < w.heap.size → d.size < 4611686018427387904 →
 Calls P f #[.slice (some ⟨g, 0, none⟩) d.size cap, .func (.func g1) #[] #[]] w fun e w' => e = .returned (.tuple #[]) ∧ ∃ d' n os, PermIn 0 d.size d d' ∧ SortedIn (ltOf fun x y : AcS => cmpN x.name y.name) 0 d.size d' ∧ w' = sortWorldK encA 3 w g 0 n d' os
theorem ltOf_less (a b : AcS) : ltOf (fun x y : AcS => cmpN x.name y.name) a b = Op.bytesLess a.name b.name := by
 unfold ltOf
 have := cmpN_lt a.name b.name
 cases h : Op.bytesLess a.name b.name with
 | true => exact decide_eq_true (this.2 h)
 | false => exact decide_eq_false fun hh => by rw [this.1 hh] at h; cases h
theorem sorted_list {l : List AcS} {d' : Array AcS} (hp : PermIn 0 l.toArray.size l.toArray d') (hs : SortedIn (ltOf fun x y : AcS => cmpN x.name y.name) 0 l.toArray.size d') : d'.toList.Perm l ∧ d'.toList.Pairwise (fun a b => Op.bytesLess b.name a.name = false) := by
 obtain ⟨h1, _, h3⟩ := hp
 have e1 : d'.extract 0 l.toArray.size = d' := by rw [← h1]; exact Array.extract_size
 have e2 : l.toArray.extract 0 l.toArray.size = l.toArray := Array.extract_size
 rw [e1, e2] at h3
 refine ⟨h3, List.pairwise_iff_getElem.2 fun i j hi hj hij => ?_⟩
 rw [Array.length_toList] at hi hj
 have := hs i j (Nat.zero_le _) hij (by omega)
 rw [ltOf_less, getElem!_pos d' j hj, getElem!_pos d' i hi] at this
 exact this
theorem fn_val {w : World} {P : Prot} {adr : Adr} {f : FuncId} {v : Value} (h : RepV w P adr (.fn f []) v) : v = .func (.func f) #[] #[] := by
 cases h with
 | val cs h =>
  cases h with
  | fn parts hp hr =>
   match parts, hp with
   | [], _ => rfl
theorem sort_some (hS : SortsA Tryz.prog 203 204) (l l' : List AcS) (hn0 : l ≠ []) (hl : l.length ≤ 100000) (hd : l.Pairwise (fun a b => a.name ≠ b.name)) (hs : SrtA l') (hp : l'.Perm l) :
    SemR Tryz.prog G 203 [.ms 0 3 0 l.length, .fn 204 []] [(0, rowA l)] 1 (.tup []) [(0, rowA l')] 1 := by
  have hlen0 : 0 < l.length := List.length_pos_iff.2 hn0
  intro w P adr vals hg hI hn hL hargs
  cases hargs with | cons a1 hargs => cases hargs with | cons a2 hargs =>
  cases hargs
  have e2 := fn_val a2
  subst e2
  rcases a1.ms_ with ⟨_, _, h0⟩ | ⟨g, o, cap, hg1, rfl, ho, hcap, hcm, cur0, ty0, hw0, hsz0⟩
  · omega
  have ho : o = 0 := by simpa using ho (.inr rfl)
  subst ho
  have hsz0 := hsz0 rfl
  rcases hI.blk 0 (rowA l) rfl with ⟨_, h2, _⟩ | ⟨g', h1, h2⟩
  · have : (rowA l).l.length = 0 := by rw [h2]; rfl
    rw [show (rowA l).l.length = l.length from List.length_map _] at this
    omega
  rw [hg1] at h1
  injection h1 with h1
  subst h1
  obtain ⟨cur, Q, hw, hQl, hQ3, hQr, hQp⟩ := h2.ofR rfl
  rw [hw0] at hw
  injection hw with hw
  injection hw with hw ht
  subst hw
  subst ht
  have hQe : Q = l.map encA := parts_enc hQl hQr
  subst hQe
  have hpg : ∀ o, ¬ P g o := fun o ho => absurd (h2.pe o ho) (Nat.not_lt_zero _)
  have hH : HoldsK encA 3 w g 0 l.toArray := fun j hj => by
    rw [size_flatK] at hj
    have h1 : (Go.Sort.flatK encA 3 l.toArray).toList[j]? = some (Go.Sort.flatK encA 3 l.toArray)[j]! := by
      rw [Array.getElem?_toList, Array.getElem?_eq_getElem (by rw [size_flatK]; exact hj), getElem!_pos _ _ (by rw [size_flatK]; exact hj)]
    rw [flatK_list] at h1
    refine ⟨?_, by simp [World.frozen?, hw0]⟩
    rw [Nat.zero_add]
    exact cell_row hw0 hQp h1
  have hlt : g < w.heap.size := (Array.getElem?_eq_some_iff.1 hw0).1
  refine (hS g cap l.toArray w hH hlt (by simp; omega)).mono ?_
  rintro e w' ⟨rfl, d', m, os, hpm, hst, rfl⟩
  obtain ⟨k1, k2⟩ := sorted_list hpm hst
  have hl' : d'.toList = l' := srt_uniq (srt_of_sorted k1 hd k2) hs (k1.trans hp.symm)
  have hds : d'.size = l.length := hpm.1
  obtain ⟨row, hr1, hr2, hr3⟩ := put_cells (w := Sort.ahead w m) (g := g) hw0 (Go.Sort.flatK encA 3 d') (by rw [size_flatK, hds, hsz0]; exact Nat.mul_le_mul_right 3 hcap)
  unfold sortWorldK putRowK
  rw [hr3]
  rw [flatK_list, hl'] at hr2
  have hka : Keep w (Sort.ahead w m) P P adr adr := ⟨fun _ _ h => h, fun _ _ _ => rfl, fun _ _ h => h, fun _ _ cur _ _ h => ⟨cur, h, rfl⟩⟩
  have hIa : InvM (Sort.ahead w m) P adr (fput (fun _ => none) 0 (rowA l)) := by
    refine ⟨fun c b hc => ?_, fun c c' b b' g hc hc' => hI.inj c c' b b' g ?_ ?_, hI.prot⟩
    · by_cases e : c = 0
      · subst e
        rw [fput_same] at hc
        injection hc with hc
        subst hc
        exact .inr ⟨g, hg1, h2.keep hka rfl fun _ h => h⟩
      · rw [fput_ne _ _ e] at hc; cases hc
    all_goals
      first
        | (by_cases e : c = 0
           · subst e; rw [fput_same] at hc; exact hc
           · rw [fput_ne _ _ e] at hc; cases hc)
        | (by_cases e : c' = 0
           · subst e; rw [fput_same] at hc'; exact hc'
           · rw [fput_ne _ _ e] at hc'; cases hc')
  have hl3 : l'.length = l.length := hp.length_eq
  obtain ⟨j1, j2⟩ := hIa.write (c := 0) (g := g) (b := rowA l) (b' := rowA l') (cur := cur0) (cur' := row) (by show (l.map acM).length ≤ (l'.map acM).length; simp; omega) (fput_same _ _ _) hg1 rfl rfl rfl hw0 hr1 (fun o ho => absurd ho (hpg o)) (parts := l'.map encA) (by show (l'.map encA).length = (l'.map acM).length; simp) (fun p hp => by obtain ⟨a, _, rfl⟩ := List.mem_map.1 hp; rfl) (fun j x p hx hp => by
    have hx : (l'.map acM)[j]? = some x := hx
    rw [List.getElem?_map] at hx hp
    cases hj : l'[j]? with
    | none => rw [hj] at hx; cases hx
    | some a =>
      rw [hj] at hx hp
      injection hx with hx
      injection hp with hp
      subst hx hp
      exact rep_enc _ _ _ _) hr2
  have hb : Below ((Sort.ahead w m).setRow g row).heap.size ((Sort.ahead w m).setRow g row) (grow ((Sort.ahead w m).setRow g row) os) :=
    ⟨rfl, rfl, rfl, by simp, fun k hk => by
      show ((((Sort.ahead w m).setRow g row).heap ++ os))[k]? = _
      rw [Array.getElem?_append_left hk]⟩
  have e0 : fput (fput (fun _ => none) 0 (rowA l)) 0 (rowA l') = fput (fun _ => none) 0 (rowA l') := by
    funext x
    by_cases e : x = 0
    · subst e; rw [fput_same, fput_same]
    · rw [fput_ne _ _ e, fput_ne _ _ e, fput_ne _ _ e]
  rw [e0] at j1
  have hkb := Keep.below' (adr := adr) j1.prot hb
  have j3 : InvM (grow ((Sort.ahead w m).setRow g row) os) P adr (fput (fun _ => none) 0 (rowA l')) := by
    refine ⟨fun c b hc => ?_, j1.inj, fun b o h => Nat.lt_of_lt_of_le (j1.prot b o h) hb.size⟩
    rcases j1.blk c b hc with h | ⟨g', h, h'⟩
    · exact .inl h
    · exact .inr ⟨g', h, h'.keep hkb (hb.block _ h'.lt) fun _ h => h⟩
  refine ⟨_, rfl, P, adr, j3.sub fun c b hc => ?_, .tup [] rfl (fun j m u hm => by simp at hm), (hka.trans j2).trans hkb, fun _ _ => rfl, hn, fun c g hc => .inr ⟨c, hc⟩, fun b o ho => .inl ho, ?_⟩
  · rw [VM.get_cons] at hc
    by_cases e : c = 0
    · subst e
      rw [fput_same]
      exact hc
    · rw [if_neg (Ne.symm e)] at hc
      cases hc
  · have hs := since_row (w := Sort.ahead w m) (ex := fun b => ∃ c0, adr c0 = some b) (g := g) row ⟨0, hg1⟩
    refine ⟨rfl, rfl, rfl, Nat.le_trans hs.size hb.size, fun b hb1 hne => ?_⟩
    have hb2 : b < ((Sort.ahead w m).setRow g row).heap.size := Nat.lt_of_lt_of_le hb1 hs.size
    exact (hb.block b hb2).trans (hs.block b hb1 hne)
end
section
variable {G : GS}
attribute [local irreducible] vOpsN vOpsG vOpsD vOpGD NextD vC SeqQ BlockQ
theorem len64_0 : SemC Tryz.prog G 242 [.int .u64 0] (.int .i64 0) := by
 refine scq seat Tryz.func242 25 ?_
 refine go1 ?_
 refine go0 ?_
 rfl
theorem len_0 : SemC Tryz.prog G 225 [.int .u64 0] (.int .i64 0) := by
 have c1 := len64_0 (G := G)
 refine scq seat Tryz.func225 8 ?_
 refine go1 ?_
 refine yv (c1) ?_
 refine go1 ?_
 refine go0 ?_
 rfl
theorem ins_0 : SemR Tryz.prog G 233 [.ms 0 3 0 0, .int .i64 0, .int .i64 0, .fn 204 []] [(0, rowA [])] 1 (.tup []) [(0, rowA [])] 1 := by
 unfold rowA
 refine srq seat Tryz.func233 53 ?_
 refine go1 ?_
 refine c_loop Unit (fun _ => [(8, .int .i64 1), (2, .int .i64 0)]) (fun _ => [(0, ⟨126, 3, true, 0, ([] : List AcS).map acM⟩)]) 1 (fun _ => True) (fun _ => 0) () trivial (vm [] []) ?_
 rintro ⟨⟩ -
 try dsimp only
 refine go1 ?_
 exact en []
theorem pdq_0 : SemR Tryz.prog G 224 [.ms 0 3 0 0, .int .i64 0, .int .i64 0, .int .i64 0, .fn 204 []] [(0, rowA [])] 1 (.tup []) [(0, rowA [])] 1 := by
 have c1 := ins_0 (G := G)
 unfold rowA at *
 refine srq seat Tryz.func224 148 ?_
 refine go1 ?_
 refine c_loop Unit (fun _ => [(0, .ms 0 3 0 0), (1, .int .i64 0), (2, .int .i64 0), (4, .fn 204 [])]) (fun _ => [(0, ⟨126, 3, true, 0, ([] : List AcS).map acM⟩)]) 1 (fun _ => True) (fun _ => 0) () trivial (vm [] []) ?_
 rintro ⟨⟩ -
 try dsimp only
 refine go1 ?_
 refine yc (c1) [(0, 0)] ?_
 refine go1 ?_
 exact en []
theorem sort_none : SemR Tryz.prog G 203 [.ms 0 3 0 0, .fn 204 []] [(0, rowA [])] 1 (.tup []) [(0, rowA [])] 1 := by
 have c1 := pdq_0 (G := G)
 have c2 := len_0 (G := G)
 unfold rowA at *
 refine srq seat Tryz.func203 14 ?_
 refine go1 ?_
 refine yv (c2) ?_
 refine go1 ?_
 refine yc (c1) [(0, 0)] ?_
 refine go1 ?_
 exact en []
theorem sort_r (hS : SortsA Tryz.prog 203 204) (l l' : List AcS) (hl : l.length ≤ 100000) (hd : l.Pairwise (fun a b => a.name ≠ b.name)) (hs : SrtA l') (hp : l'.Perm l) :
  SemR Tryz.prog G 203 [.ms 0 3 0 l.length, .fn 204 []] [(0, rowA l)] 1 (.tup []) [(0, rowA l')] 1 := by
 by_cases h : l = []
 ·subst h
  have e := List.perm_nil.1 hp
  subst e
  exact sort_none
 ·exact sort_some hS l l' h hl hd hs hp
end
section
variable {G : GS}
attribute [local irreducible] vOpsN vOpsG vOpsD vOpGD NextD vC SeqQ BlockQ
theorem ptotal_r (l : List AcS) (col : Nat) (hc : U64 col) (hl : l.length ≤ 100000) (hs : ∀ a ∈ l, U64 a.bal) : SemR Tryz.prog G 202 [.st [.ms 0 3 0 l.length, .int .u64 col]] [(0, rowA l)] 1 (.tup [.int .u64 (totS l col).1, .bool (totS l col).2]) [(0, rowA l)] 1 := by
 have cs := psum_u (G := G) (col :: l.map (·.bal)) (by simp; omega) (by
  intro a ha
  rcases List.mem_cons.1 ha with rfl | ha
  ·exact hc
  ·obtain ⟨x, hx, rfl⟩ := List.mem_map.1 ha
   exact hs x hx)
 rw [totS_col l hc] at cs
 generalize totS l col = p at *
 obtain ⟨v, b⟩ := p
 dsimp only at cs ⊢
 have hzl : (col :: l.map (·.bal)).length = l.length + 1 := by simp
 unfold rowA
 refine srq seat Tryz.func202 27 ?_
 refine go1 ?_
 refine c_loop Nat (fun k => [(13, .int .i64 k), (12, .int .i64 l.length), (11, .ms 0 3 0 l.length), (4, .ms 1 1 0 (k + 1))]) (fun k => [(0, ⟨126, 3, true, 0, l.map acM⟩), (1, ⟨27, 1, true, 0, u64s (col :: (l.take k).map (·.bal))⟩)]) 2 (fun k => k ≤ l.length) (fun k => l.length - k) 0 (Nat.zero_le _) (by rw [List.take_zero]; exact (vm [(1, _)] [])) ?_
 intro k hk
 try dsimp only
 refine go1 ?_
 refine c_cond rfl (fun h => ?_) (fun h => ?_)
 ·have hk' : k < l.length := by have := of_decide_eq_true h; omega
  have hel := acAt hk'
  have hsucc := u64s_pushB col l hk'
  have hll : (u64s (col :: (l.take k).map (·.bal))).length = k + 1 := by simp [u64s]; omega
  generalize l[k] = x at *
  obtain ⟨nm, bal, seq⟩ := x
  dsimp only at hsucc
  replace hel : nthM (l.map acM) (0 + k) = some (.st [.str nm, .int .u64 bal, .int .u64 seq]) := hel
  have hel := SomF.mk hel
  refine go1 ?_
  refine g_mem rfl rfl (by intro R hR; refine sms hR ?_; (refine And.intro (Nat.le_refl _) ?_; refine ⟨_, rfl, ?_⟩; refine And.intro ⟨hll, app_ok (by kernel_rfl) pf⟩ ?_; refine ⟨u64s (col :: (l.take (k + 1)).map (·.bal)), sv (by rw [hsucc]; rfl), k + 1 + 1, sv pf, ?_⟩); exact hR) rfl ?_
  refine go1 ?_
  exact ⟨k + 1, by show k + 1 ≤ l.length; omega, by show l.length - (k + 1) < l.length - k; omega, (by dsimp only; exact (vm [(1, _)] []))⟩
 ·have hk' : k = l.length := by have := of_decide_eq_false h; omega
  subst hk'
  rw [List.take_length]
  have hlen : l.length = l.length := rfl
  generalize hZ : col :: l.map (·.bal) = Z at *
  rw [← hzl]
  refine go1 ?_
  refine g_call1 rfl (fun _ h => h) rfl (semR_of_semC cs) rfl [(1, Z.length)] ⟨(by show Z.length ≤ (u64s Z).length; simp [u64s]), trivial⟩ lm ?_
  refine go1 ?_
  exact en [_, _]
theorem pgen0_r (hS : SortsA Tryz.prog 203 204) (l : List AcS) (hl : l.length ≤ 100000) (hsm : ∀ a ∈ l, WdAc a) : SemR Tryz.prog G 161 [.sl l.length (l.map acM)] [] 0 (.tup [lgM (genS l).1, .int .i64 (genS l).2]) [] 0 := by
 generalize hQ : genS l = Q
 obtain ⟨⟨Ql, Qc⟩, Qe⟩ := Q
 unfold genS at hQ
 unfold lgM
 dsimp only
 by_cases hn : 256 < l.length
 ·rw [if_pos hn] at hQ
  simp only [lg0, Prod.mk.injEq, LgS.mk.injEq] at hQ
  obtain ⟨⟨rfl, rfl⟩, rfl⟩ := hQ
  refine srq seat Tryz.func161 57 ?_
  refine go1 ?_
  refine c_cond rfl (fun h => ?_) (fun h => ?_)
  ·have _h0 := h
   refine go1 ?_
   refine go0 ?_
   refine ⟨[_, _], [], [], rfl, rfl, trivial, rfl, ⟨?_, ?_, trivial⟩, ?_⟩
   ·exact .inr ⟨_, rfl, lm⟩
   ·exact rv
   ·exact mm
  ·exact absurd (of_decide_eq_false h) (by omega)
 rw [if_neg hn] at hQ
 have hg2 : (genG l []).2 = genK l [] := genG_2 l [] [] List.Pairwise.nil (fun nm => by simp [getS])
 have hg1 := genG_1 l [] List.Pairwise.nil
 have hgn := genK_names l []
 generalize hv : genG l [] = v at *
 obtain ⟨vl, ve⟩ := v
 dsimp only at hQ hg1 hg2
 subst hg2
 have ct := ptotal_r (G := G) l 0 (by unfold U64; omega) hl (fun a ha => (hsm a ha).2.1)
 have co := ownL_row (G := G) ⟨l, 0⟩ (by dsimp only; omega)
 unfold lgM at co
 dsimp only at co
 generalize hK : genK l [] = e at *
 refine srq seat Tryz.func161 57 ?_
 refine go1 ?_
 refine c_cond rfl (fun h => ?_) (fun h => ?_)
 ·exact absurd (of_decide_eq_true h) (by omega)
 refine go1 ?_
 refine c_loop (Nat × List (List UInt8)) (fun x => [(19, .int .i64 x.1), (18, .int .i64 l.length), (17, .sl l.length (l.map acM)), (4, .mp 1), (2, .ptr 0 2 0 0 []), (0, .sl l.length (l.map acM))]) (fun x => [(0, ⟨32, 2, false, 0, [.st [.nils, .int .u64 0]]⟩), (1, ⟨309, 0, false, 0, [namesM x.2]⟩)]) 2 (fun x => x.1 ≤ l.length ∧ x.2.length ≤ x.1 ∧ genK (l.drop x.1) x.2 = e) (fun x => l.length - x.1) (0, []) ⟨Nat.zero_le _, Nat.zero_le _, by rw [List.drop_zero]; exact hK⟩ (by dsimp only; exact (vm [(0, _), (1, _)] [])) ?_
 rintro ⟨k, ks⟩ ⟨hk, hks, hR⟩
 unfold namesM
 try dsimp only
 dsimp only at hk hks hR
 refine go1 ?_
 refine c_cond rfl (fun h => ?_) (fun h => ?_)
 ·have hk' : k < l.length := by have := of_decide_eq_true h; omega
  have hel := acs_at hk'
  have hsa := hsm _ (List.getElem_mem hk')
  have c1 := pname_m (G := G) l[k].name (by have := hsa.1; omega)
  rw [List.drop_eq_getElem_cons hk', genK] at hR
  generalize l[k] = a at *
  obtain ⟨nm, bal, seq⟩ := a
  replace hel : idxL (l.map acM) l.length (k : Int) = some (.st [.str nm, .int .u64 bal, .int .u64 seq]) := hel
  have hel := SomF.mk hel
  dsimp only at hR c1
  by_cases hnm : nameS nm = false
  ·rw [hnm] at c1
   rw [if_pos hnm] at hR
   subst hR
   rw [if_pos (by omega)] at hQ
   simp only [lg0, Prod.mk.injEq, LgS.mk.injEq] at hQ
   obtain ⟨⟨rfl, rfl⟩, rfl⟩ := hQ
   refine go1 ?_
   refine yv (c1) ?_
   refine go1 ?_
   refine go0 ?_
   refine ⟨[_, _], [], [], rfl, rfl, trivial, rfl, ⟨?_, ?_, trivial⟩, ?_⟩
   ·exact .inr ⟨_, rfl, lm⟩
   ·exact rv
   ·exact mm
  rw [if_neg hnm] at hR
  have hnm : nameS nm = true := by simpa using hnm
  rw [hnm] at c1
  have hz := SideF.mk (show (List.replicate ks.length (MV.st [])).length = (ks.map MV.str).length by simp)
  by_cases hm : nm ∈ ks
  ·rw [if_pos hm] at hR
   subst hR
   rw [if_pos (by omega)] at hQ
   simp only [lg0, Prod.mk.injEq, LgS.mk.injEq] at hQ
   obtain ⟨⟨rfl, rfl⟩, rfl⟩ := hQ
   obtain ⟨j, hj, hjl⟩ := findM_yes (i := 0) hm
   have hj := SomF.mk hj
   have hu := SomF.mk (show nthM (List.replicate ks.length (MV.st [])) (0 + j) = some (MV.st []) by rw [nthM_eq, Nat.zero_add]; simp [hjl])
   refine go1 ?_
   refine yv (c1) ?_
   refine go1 ?_
   refine go0 ?_
   refine ⟨[_, _], [], [], rfl, rfl, trivial, rfl, ⟨?_, ?_, trivial⟩, ?_⟩
   ·exact .inr ⟨_, rfl, lm⟩
   ·exact rv
   ·exact mm
  ·rw [if_neg hm] at hR
   have hj := SomF.mk (findM_no (i := 0) hm)
   have hv := EqF.mk (show [MV.mpv (ks.map MV.str ++ [.str nm]) (List.replicate ks.length (MV.st []) ++ [.st []])] = [MV.mpv ((ks ++ [nm]).map MV.str) (List.replicate (ks ++ [nm]).length (.st []))] by rw [List.map_append, List.length_append, List.length_singleton, List.replicate_succ']; rfl)
   refine go1 ?_
   refine yv (c1) ?_
   refine go1 ?_
   exact ⟨(k + 1, ks ++ [nm]), ⟨by dsimp only; omega, by simp; omega, hR⟩, by dsimp only; omega, (by dsimp only; exact (vm [(0, _), (1, _)] []))⟩
 ·have hk' : k = l.length := by have := of_decide_eq_false h; omega
  subst hk'
  rw [List.drop_length, genK] at hR
  subst hR
  rw [if_neg (by simp)] at hQ
  obtain ⟨hs1, hs2⟩ := hg1 rfl
  rw [List.nil_append] at hs2
  have hd := (hgn rfl).1
  have cs := sort_r (G := G) hS l vl hl hd hs1 hs2
  rw [← totS_perm hs2.symm] at hQ
  have hvl := hs2.length_eq
  unfold rowA at co ct cs
  generalize totS l 0 = p at *
  obtain ⟨tot, ok⟩ := p
  dsimp only at ct hQ
  refine go1 ?_
  refine yc (co) [] ?_
  refine go1 ?_
  refine yc (ct) [(0, 5)] ?_
  refine go1 ?_
  cases ok with
  | false =>
   rw [if_pos rfl] at hQ
   simp only [lg0, Prod.mk.injEq, LgS.mk.injEq] at hQ
   obtain ⟨⟨rfl, rfl⟩, rfl⟩ := hQ
   refine go1 ?_
   refine go0 ?_
   refine ⟨[_, _], [], [], rfl, rfl, trivial, rfl, ⟨?_, ?_, trivial⟩, ?_⟩
   ·exact .inr ⟨_, rfl, lm⟩
   ·exact rv
   ·exact mm
  | true =>
   rw [if_neg (by simp)] at hQ
   simp only [Prod.mk.injEq, LgS.mk.injEq] at hQ
   obtain ⟨⟨rfl, rfl⟩, rfl⟩ := hQ
   refine go1 ?_
   refine yc (cs) [(0, 5)] ?_
   refine go1 ?_
   refine go0 ?_
   rw [← hvl]
   refine ⟨[_, _], [], [(5, vl.length)], rfl, rfl, ?_, rfl, ⟨?_, ?_, trivial⟩, ?_⟩
   ·exact ⟨by show vl.length ≤ (vl.map acM).length; simp, trivial⟩
   ·exact .inr ⟨_, rfl, lm⟩
   ·exact rv
   ·exact mm
end
section
attribute [local irreducible] vOpsN vOpsG vOpsD vOpGD NextD vC SeqQ BlockQ
theorem ownApp_m {G : GS} (a : AppS) (ha : SmApp a) : SemC Tryz.prog G 113 [appM a] (appM a) := by
 have c1 := ownL_r (G := G) a.com (by have := ha.1.1; omega)
 have c2 := ownL_r (G := G) a.chk (by have := ha.2.1.1; omega)
 have c3 := ownL_r (G := G) a.nxt (by have := ha.2.2.1.1; omega)
 obtain ⟨⟨a1, b1⟩, ⟨a2, b2⟩, ⟨a3, b3⟩, op, price⟩ := a
 unfold appM lgM at *
 dsimp only at *
 refine scq seat Tryz.func113 16 ?_
 refine go1 ?_
 refine c_draw [(0, false), (1, false), (2, true), (3, false), (4, false), (5, true), (6, false), (7, false), (8, true), (9, false), (10, false), (11, false), (12, false), (13, false), (14, false)] ?_
 refine go1 ?_
 refine ydr (c1) ?_
 refine go1 ?_
 refine ydr (c2) ?_
 refine go1 ?_
 refine ydr (c3) ?_
 refine go1 ?_
 refine go0 ?_
 rfl
end
section
variable {G : GS}
attribute [local irreducible] vOpsN vOpsG vOpsD vOpGD NextD vC SeqQ BlockQ
theorem pinit0_r (hS : SortsA Tryz.prog 203 204) (l : List AcS) (p : Nat) (hl : l.length ≤ 100000) (hsm : ∀ a ∈ l, WdAc a) (hp : U64 p) : SemR Tryz.prog G 109 [.sl l.length (l.map acM), .int .u64 p] [] 0 (.tup [appM (initS l p).1, .int .i64 (initS l p).2]) [] 0 := by
 have c1 := pgen0_r (G := G) hS l hl hsm
 have hgs := genS2_sm hsm
 have co := ownL_r (G := G) (genS l).1 (by have := hgs.1; omega)
 unfold initS
 generalize genS l = y at *
 obtain ⟨⟨nacs, ncol⟩, e⟩ := y
 unfold lgM at c1 co
 dsimp only at *
 by_cases he : e = 0
 ·rw [if_neg (by simpa using he)]
  show SemR _ _ _ _ _ _ (.tup [.st [.st [.sl nacs.length (nacs.map acM), .int .u64 ncol], .st [.sl nacs.length (nacs.map acM), .int .u64 ncol], .st [.sl 0 [], .int .u64 (0 : Nat)], .bool false, .int .u64 p], _]) _ _
  refine srq seat Tryz.func109 22 ?_
  refine go1 ?_
  refine yr (c1) ?_
  refine go1 ?_
  refine c_cond rfl (fun h => ?_) (fun h => ?_)
  ·exact absurd he (fun he => by subst he; simp at h)
  refine go1 ?_
  refine c_draw [(0, false), (1, false), (2, true), (3, false), (4, false), (5, false), (6, false)] ?_
  refine go1 ?_
  refine ydr (co) ?_
  refine go1 ?_
  refine go0 ?_
  refine ⟨[_, _], [], [], rfl, rfl, trivial, rfl, ⟨?_, ?_, trivial⟩, ?_⟩
  ·exact .inr ⟨_, rfl, ⟨rel_lg, rel_lg, rel_lg0, ⟨rfl, rfl⟩, ⟨rfl, rfl⟩, trivial⟩⟩
  ·exact rv
  ·exact mm
 ·rw [if_pos he]
  dsimp only
  refine srq seat Tryz.func109 22 ?_
  refine go1 ?_
  refine yr (c1) ?_
  refine go1 ?_
  refine c_cond rfl (fun h => ?_) (fun h => ?_)
  ·refine go1 ?_
   refine go0 ?_
   refine ⟨[_, _], [], [], rfl, rfl, trivial, rfl, ⟨?_, ?_, trivial⟩, ?_⟩
   ·exact rel_app0
   ·exact rv
   ·exact mm
  ·exfalso
   have : ¬ (e : Int) ≠ 0 := by simpa using h
   omega
end
section
open Go.RowKit Go.Lib Go.Shelf Go.Sort
variable {G : GS}
theorem swoA : SWO (ltOf fun x y : AcS => cmpN x.name y.name) where
 irrefl x := by rw [ltOf_less]; exact less_irr _
 trans x y z h1 h2 := by rw [ltOf_less] at *; exact less_trans h1 h2
 ntrans x y z h1 h2 := by
  rw [ltOf_less] at *
  cases h : Op.bytesLess x.name z.name with
  | false => rfl
  | true =>
   exfalso
   by_cases e : z.name = y.name
   ·rw [e, h1] at h; cases h
   ·have h3 := less_tot h2 (Ne.symm e)
    rw [less_trans h h3] at h1
    cases h1
theorem sortsA : SortsA Tryz.prog 203 204 := by
 intro g cap d w hH hg hd
 have eg : ∀ args w, (callFunc 204 args).run Tryz.prog w = .ok (.enter 204 args) w := enters_of Tryz.func204 (by kernel_rfl) rfl
 exact AnyQ.slices_SortFunc Tryz.sortAcc 3 Tryz.isAgg126 Tryz.sizeOf126 encA (fun _ => rfl) (fun x v hv => by simp [encA] at hv; rcases hv with rfl | rfl | rfl <;> rfl) (fun x y => cmpN x.name y.name) swoA 204 #[] g 0 cap d w eg (fun _ _ _ _ x y => gen1_run x y _) hH hg hd
theorem pinit2_r (l : List AcS) (p : Nat) (hl : l.length ≤ 100000) (hsm : ∀ a ∈ l, WdAc a) (hp : U64 p) : SemR Tryz.prog G 109 [.sl l.length (l.map acM), .int .u64 p] [] 0 (.tup [appM (initS l p).1, .int .i64 (initS l p).2]) [] 0 := pinit0_r sortsA l p hl hsm hp
end
section
variable {G : GS}
attribute [local irreducible] vOpsN vOpsG vOpsD vOpGD NextD vC SeqQ BlockQ
def cfE0 : CfS := ⟨0, 0, 0, 0, 0, 0, false, 0, 0, 0, 0, 0⟩
def stE0 : StS := ⟨cfE0, app0, 0, 0, 0, [], []⟩
def startS (c : CfS) (acs : List AcS) : StS × Int :=
 if validS c ≠ 0 then (stE0, validS c) else if (initS acs c.price).2 ≠ 0 then (stE0, (initS acs c.price).2) else (⟨c, (initS acs c.price).1, 0, 0, 0, [], []⟩, 0)
theorem rel_stZ {σ : Nat → Option Nat} {fz : Fz} : relV σ fz (stM stE0) stZ :=
 have lg : relV σ fz (lgM lg0) (.st [.nils, .int .u64 0]) := .inr ⟨_, rfl, .inr ⟨rfl, rfl⟩, ⟨rfl, rfl⟩, trivial⟩
 .inr ⟨_, rfl, .inl ⟨rfl, rfl⟩, .inr ⟨_, rfl, lg, lg, lg, ⟨rfl, rfl⟩, ⟨rfl, rfl⟩, trivial⟩, ⟨rfl, rfl⟩, ⟨rfl, rfl⟩, ⟨rfl, rfl⟩, .inr ⟨rfl, rfl⟩, .inr ⟨rfl, rfl⟩, trivial⟩
theorem rstart_r (c : CfS) (acs : List AcS) (hl : acs.length ≤ 140737488355328) (hsm : ∀ a ∈ acs, WdAc a) (hp : U64 c.price) : SemR Tryz.prog G 81 [cfM c, .sl acs.length (acs.map acM)] [] 0 (.tup [stM (startS c acs).1, .int .i64 (startS c acs).2]) [] 0 := by
 have cv := rvalid_s (G := G) c
 have ci := init2_r (G := G) acs c.price hl hsm hp
 unfold startS
 generalize validS c = v at *
 generalize initS acs c.price = ia at *
 obtain ⟨a0, ea⟩ := ia
 dsimp only at ci ⊢
 by_cases hv : v = 0
 rotate_left
 ·rw [if_pos hv]
  refine srq seat Tryz.func81 29 ?_
  refine go1 ?_
  refine yv (cv) ?_
  refine go1 ?_
  refine c_cond rfl (fun h => ?_) (fun h => ?_)
  ·refine go1 ?_
   refine go0 ?_
   refine ⟨[_, _], [], [], rfl, rfl, trivial, rfl, ⟨?_, ?_, trivial⟩, ?_⟩
   ·exact rel_stZ
   ·exact rv
   ·exact mm
  ·exact absurd (by simpa using h) hv
 ·subst hv
  rw [if_neg (by simp)]
  by_cases he : ea = 0
  rotate_left
  ·rw [if_pos he]
   refine srq seat Tryz.func81 29 ?_
   refine go1 ?_
   refine yv (cv) ?_
   refine go1 ?_
   refine yr (ci) ?_
   refine go1 ?_
   refine c_cond rfl (fun h => ?_) (fun h => ?_)
   ·refine go1 ?_
    refine go0 ?_
    refine ⟨[_, _], [], [], rfl, rfl, trivial, rfl, ⟨?_, ?_, trivial⟩, ?_⟩
    ·exact rel_stZ
    ·exact rv
    ·exact mm
   ·exact absurd (by simp at h; omega) he
  ·subst he
   rw [if_neg (by simp)]
   refine srq seat Tryz.func81 29 ?_
   refine go1 ?_
   refine yv (cv) ?_
   refine go1 ?_
   refine yr (ci) ?_
   refine go1 ?_
   refine go0 ?_
   exact en [_, _]
end
section
variable {G : GS}
attribute [local irreducible] vOpsN vOpsG vOpsD vOpGD NextD vC SeqQ BlockQ
theorem pstart_r (c : CfS) (acs : List AcS) (hc : CfI c) (hl : acs.length ≤ 100000) (hsm : ∀ a ∈ acs, WdAc a) (hp : U64 c.price) : SemR Tryz.prog G 60 [cfM c, .sl acs.length (acs.map acM)] [] 0 (.tup [stM (startS c acs).1, .int .i64 (startS c acs).2]) [] 0 := by
 have cv := pvalid_s (G := G) c hc
 have ci := pinit2_r (G := G) acs c.price hl hsm hp
 unfold startS
 generalize validS c = v at *
 generalize initS acs c.price = ia at *
 obtain ⟨a0, ea⟩ := ia
 dsimp only at ci ⊢
 by_cases hv : v = 0
 rotate_left
 ·rw [if_pos hv]
  refine srq seat Tryz.func60 29 ?_
  refine go1 ?_
  refine yv (cv) ?_
  refine go1 ?_
  refine c_cond rfl (fun h => ?_) (fun h => ?_)
  ·refine go1 ?_
   refine go0 ?_
   refine ⟨[_, _], [], [], rfl, rfl, trivial, rfl, ⟨?_, ?_, trivial⟩, ?_⟩
   ·exact rel_stZ
   ·exact rv
   ·exact mm
  ·exact absurd (by simpa using h) hv
 ·subst hv
  rw [if_neg (by simp)]
  by_cases he : ea = 0
  rotate_left
  ·rw [if_pos he]
   refine srq seat Tryz.func60 29 ?_
   refine go1 ?_
   refine yv (cv) ?_
   refine go1 ?_
   refine yr (ci) ?_
   refine go1 ?_
   refine c_cond rfl (fun h => ?_) (fun h => ?_)
   ·refine go1 ?_
    refine go0 ?_
    refine ⟨[_, _], [], [], rfl, rfl, trivial, rfl, ⟨?_, ?_, trivial⟩, ?_⟩
    ·exact rel_stZ
    ·exact rv
    ·exact mm
   ·exact absurd (by simp at h; omega) he
  ·subst he
   rw [if_neg (by simp)]
   refine srq seat Tryz.func60 29 ?_
   refine go1 ?_
   refine yv (cv) ?_
   refine go1 ?_
   refine yr (ci) ?_
   refine go1 ?_
   refine go0 ?_
   exact en [_, _]
end
section
variable {G : GS}
attribute [local irreducible] vOpsN vOpsG vOpsD vOpGD NextD vC SeqQ BlockQ
theorem eq_ac (a : List UInt8) (b s : Int) : eqM (.st [.str a, .int .u64 b, .int .u64 s]) (.st [.str a, .int .u64 b, .int .u64 s]) = some true := by
 simp [eqM, eqMs]
theorem confS (f : Nat) (a : List UInt8) : confM tab (f + 1) 9 (.str a) = true := by rw [confM.eq_def]; rfl
theorem confU (f : Nat) (n : Int) : confM tab (f + 1) 27 (.int .u64 n) = true := by rw [confM.eq_def]; rfl
theorem confMs_cons {T : Tab} {f o t : Nat} {fs : List (Nat × TypeId)} {m : MV} {l : List MV} {sz : Nat} {d : TD} (ht : Tab.find T t = some d) (hs : m.size = d.size) (hm : confM T f t m = true) (h : confMs T f fs (o + d.size) l sz = true) : confMs T f ((o, t) :: fs) o (m :: l) sz = true := by
 rw [confMs.eq_def]
 dsimp only
 rw [ht]
 dsimp only
 rw [hs, hm, h, Nat.beq_refl, Nat.beq_refl]
 rfl
theorem confMs_nil {T : Tab} {f n : Nat} : confMs T f [] n [] n = true := by rw [confMs.eq_def]; exact Nat.beq_refl n
theorem conf_ac (a : List UInt8) (b s : Int) : confM tab 9 126 (.st [.str a, .int .u64 b, .int .u64 s]) = true := by
 have h1 : Tab.find tab 126 = some (.struct [(0, 9), (1, 27), (2, 27)] 3) := by kernel_rfl
 rw [confM.eq_def]
 simp only [h1]
 exact confMs_cons (d := .str) (by kernel_rfl) rfl (confS 7 a) (confMs_cons (d := .int .u64) (by kernel_rfl) rfl (confU 7 b) (confMs_cons (d := .int .u64) (by kernel_rfl) rfl (confU 7 s) confMs_nil))
theorem acSide (a : List UInt8) (b s : Int) : eqT Tryz.prog tab 126 = true ∧ confM tab 9 126 (.st [.str a, .int .u64 b, .int .u64 s]) = true ∧ confM tab 9 126 (.st [.str a, .int .u64 b, .int .u64 s]) = true := ⟨by kernel_rfl, conf_ac a b s, conf_ac a b s⟩
theorem sameLg_m (l : LgS) (hl : l.acs.length < 1000000000) : SemC Tryz.prog G 22 [lgM l, lgM l] (.bool true) := by
 obtain ⟨acs, col⟩ := l
 unfold lgM
 dsimp only at *
 refine scq seat Tryz.func22 38 ?_
 refine goe1 ?_
 refine c_loop Nat (fun k => [(23, .int .i64 k), (22, .int .i64 acs.length), (3, .ptr 1 2 0 0 []), (2, .ptr 0 2 0 0 [])]) (fun _ => [(0, ⟨32, 2, false, 0, [.st [.sl acs.length (acs.map acM), .int .u64 col]]⟩), (1, ⟨32, 2, false, 0, [.st [.sl acs.length (acs.map acM), .int .u64 col]]⟩)]) 2 (fun k => k ≤ acs.length) (fun k => acs.length - k) 0 (Nat.zero_le _) (vm [(0, _), (1, _)] []) ?_
 intro k hk
 try dsimp only
 refine go1 ?_
 refine c_cond rfl (fun h => ?_) (fun h => ?_)
 ·have hk' : k < acs.length := by have := of_decide_eq_true h; omega
  have hel := acs_at hk'
  generalize acs[k] = a at *
  obtain ⟨nm, bal, seq⟩ := a
  replace hel : idxL (acs.map acM) acs.length (k : Int) = some (.st [.str nm, .int .u64 bal, .int .u64 seq]) := hel
  have hel := SomF.mk hel
  have he := SomF.mk (eq_ac nm bal seq)
  have hsd := SideF.mk (acSide nm bal seq)
  refine go1 ?_
  refine c_draw [(0, false), (1, false), (2, false), (3, false), (4, false), (5, false), (6, false), (7, false), (8, false), (9, false), (10, false)] ?_
  refine go1 ?_
  refine c_cond rfl (fun h => ?_) (fun h => ?_)
  ·exact absurd h (by simp)
  refine go1 ?_
  exact ⟨k + 1, by show k + 1 ≤ acs.length; omega, by show acs.length - (k + 1) < acs.length - k; omega, (by dsimp only; exact (vm [(0, _), (1, _)] []))⟩
 ·refine go1 ?_
  refine go0 ?_
  rfl
theorem sameApp_m (a : AppS) (ha : SmApp a) : SemC Tryz.prog G 36 [appM a, appM a] (.bool true) := by
 have c1 := sameLg_m (G := G) a.com (by have := ha.1.1; omega)
 have c2 := sameLg_m (G := G) a.chk (by have := ha.2.1.1; omega)
 have c3 := sameLg_m (G := G) a.nxt (by have := ha.2.2.1.1; omega)
 obtain ⟨⟨a1, b1⟩, ⟨a2, b2⟩, ⟨a3, b3⟩, op, price⟩ := a
 unfold appM lgM at *
 dsimp only at *
 cases op
 all_goals (
  refine scq seat Tryz.func36 38 ?_
  refine goe1 ?_
  refine yv (c1) ?_
  refine goe1 ?_
  refine yv (c2) ?_
  refine goe1 ?_
  refine yv (c3) ?_
  refine goe1 ?_
  refine go0 ?_
  rfl)
end
section
variable {G : GS}
attribute [local irreducible] vOpsN vOpsG vOpsD vOpGD NextD vC SeqQ BlockQ
theorem sameBytes_m (a : List UInt8) : SemC Tryz.prog G 43 [.sl a.length (u8s a), .sl a.length (u8s a)] (.bool true) := by
 have hb := SomF.mk (bytesM_u8 a)
 refine scq seat Tryz.func43 10 ?_
 refine goe1 ?_
 refine go0 ?_
 rfl
theorem sameInts_m (l : List Int) (hl : l.length < 1000000000) : SemC Tryz.prog G 153 [intsM l, intsM l] (.bool true) := by
 unfold intsM
 refine scq seat Tryz.func153 26 ?_
 refine goe1 ?_
 refine c_loop Nat (fun k => [(13, .int .i64 k), (12, .int .i64 l.length), (1, .sl l.length (l.map (.int .i64))), (0, .sl l.length (l.map (.int .i64)))]) (fun _ => []) 0 (fun k => k ≤ l.length) (fun k => l.length - k) 0 (Nat.zero_le _) (vm [] []) ?_
 intro k hk
 try dsimp only
 refine go1 ?_
 refine c_cond rfl (fun h => ?_) (fun h => ?_)
 ·have hk' : k < l.length := by have := of_decide_eq_true h; omega
  have hel := SomF.mk (intsM_at hk')
  generalize l[k] = a at *
  refine go1 ?_
  refine c_draw [(0, false), (1, false), (2, false), (3, false), (4, false), (5, false), (6, false), (7, false), (8, false)] ?_
  refine goe1 ?_
  exact ⟨k + 1, by show k + 1 ≤ l.length; omega, by show l.length - (k + 1) < l.length - k; omega, (by dsimp only; exact (vm [] []))⟩
 ·refine go1 ?_
  refine go0 ?_
  rfl
theorem eq_keyT (k : List UInt8) : eqM (keyM k) (keyM k) = some true := by rw [eq_key rfl]; simp
theorem sameKeys_m (l : List (List UInt8)) (hl : l.length < 1000000000) : SemC Tryz.prog G 58 [.sl l.length (l.map keyM), .sl l.length (l.map keyM)] (.bool true) := by
 refine scq seat Tryz.func58 26 ?_
 refine goe1 ?_
 refine c_loop Nat (fun k => [(13, .int .i64 k), (12, .int .i64 l.length), (1, .sl l.length (l.map keyM)), (0, .sl l.length (l.map keyM))]) (fun _ => []) 0 (fun k => k ≤ l.length) (fun k => l.length - k) 0 (Nat.zero_le _) (vm [] []) ?_
 intro k hk
 try dsimp only
 refine go1 ?_
 refine c_cond rfl (fun h => ?_) (fun h => ?_)
 ·have hk' : k < l.length := by have := of_decide_eq_true h; omega
  have hel := SomF.mk (keys_at hk')
  have q1 := SomF.mk (eq_keyT l[k])
  have s1 := SideF.mk (keySide l[k] l[k])
  generalize l[k] = a at *
  refine go1 ?_
  refine c_draw [(0, false), (1, false), (2, false), (3, false), (4, false), (5, false), (6, false), (7, false), (8, false)] ?_
  refine go1 ?_
  exact ⟨k + 1, by show k + 1 ≤ l.length; omega, by show l.length - (k + 1) < l.length - k; omega, (by dsimp only; exact (vm [] []))⟩
 ·refine go1 ?_
  refine go0 ?_
  rfl
theorem sameEntry_m (e : Ent) (hp : e.peers.length < 1000000000) : SemC Tryz.prog G 105 [entM e, entM e] (.bool true) := by
 obtain ⟨e1, e2, e3, e4, e5, e6, e7, e8, e9, e10⟩ := e
 have q1 := SomF.mk (eq_keyT e1)
 have s1 := SideF.mk (keySide e1 e1)
 have c1 := sameBytes_m (G := G) e2
 have c2 := sameInts_m (G := G) e10 hp
 unfold entM intsM at *
 dsimp only at *
 refine scq seat Tryz.func105 73 ?_
 refine goe1 ?_
 refine yv (c1) ?_
 refine goe1 ?_
 refine yv (c2) ?_
 refine goe1 ?_
 refine go0 ?_
 rfl
theorem sameEntries_m (l : List Ent) (hl : l.length < 1000000000) (hok : ∀ e ∈ l, e.peers.length < 1000000000) : SemC Tryz.prog G 54 [.sl l.length (l.map entM), .sl l.length (l.map entM)] (.bool true) := by
 refine scq seat Tryz.func54 27 ?_
 refine goe1 ?_
 refine c_loop Nat (fun k => [(13, .int .i64 k), (12, .int .i64 l.length), (1, .sl l.length (l.map entM)), (0, .sl l.length (l.map entM))]) (fun _ => []) 0 (fun k => k ≤ l.length) (fun k => l.length - k) 0 (Nat.zero_le _) (vm [] []) ?_
 intro k hk
 try dsimp only
 refine go1 ?_
 refine c_cond rfl (fun h => ?_) (fun h => ?_)
 ·have hk' : k < l.length := by have := of_decide_eq_true h; omega
  have c1 := sameEntry_m (G := G) l[k] (hok _ (List.getElem_mem hk'))
  have hel := SomF.mk (ents_at hk')
  generalize l[k] = e at *
  refine go1 ?_
  refine c_draw [(0, false), (1, false), (2, false), (3, false), (4, false), (5, false), (6, false), (7, false), (8, true), (9, false)] ?_
  refine go1 ?_
  refine ydv (c1) ?_
  refine go1 ?_
  exact ⟨k + 1, by show k + 1 ≤ l.length; omega, by show l.length - (k + 1) < l.length - k; omega, (by dsimp only; exact (vm [] []))⟩
 ·refine go1 ?_
  refine go0 ?_
  rfl
theorem confBo (f : Nat) (b : Bool) : confM tab (f + 1) 4 (.bool b) = true := by rw [confM.eq_def]; rfl
theorem eq_cfg (c : CfS) : eqM (cfM c) (cfM c) = some true := by simp [eqM, eqMs]
theorem conf_cfg (c : CfS) : confM tab 9 29 (cfM c) = true := by
 have h1 : Tab.find tab 29 = some (.struct [(0, 3), (1, 3), (2, 3), (3, 3), (4, 3), (5, 3), (6, 4), (7, 3), (8, 3), (9, 27), (10, 3), (11, 3)] 12) := by kernel_rfl
 have I : Tab.find tab 3 = some (.int .i64) := by kernel_rfl
 rw [confM.eq_def]
 simp only [h1]
 exact confMs_cons I rfl (confI 7 _) (confMs_cons I rfl (confI 7 _) (confMs_cons I rfl (confI 7 _) (confMs_cons I rfl (confI 7 _) (confMs_cons I rfl (confI 7 _) (confMs_cons I rfl (confI 7 _) (confMs_cons (d := .bool) (by kernel_rfl) rfl (confBo 7 _) (confMs_cons I rfl (confI 7 _) (confMs_cons I rfl (confI 7 _) (confMs_cons (d := .int .u64) (by kernel_rfl) rfl (confU 7 _) (confMs_cons I rfl (confI 7 _) (confMs_cons I rfl (confI 7 _) confMs_nil)))))))))))
theorem cfgSide (c : CfS) : eqT Tryz.prog tab 29 = true ∧ confM tab 9 29 (cfM c) = true ∧ confM tab 9 29 (cfM c) = true := ⟨by kernel_rfl, conf_cfg c, conf_cfg c⟩
theorem sameState_m (s : StS) (ha : SmApp s.app) (hl : s.ents.length < 1000000000) (hok : ∀ e ∈ s.ents, e.peers.length < 1000000000) (hc : s.cache.length < 1000000000) : SemC Tryz.prog G 20 [stM s, stM s] (.bool true) := by
 have q1 := SomF.mk (eq_cfg s.cfg)
 have s1 := SideF.mk (cfgSide s.cfg)
 have c1 := sameApp_m (G := G) s.app ha
 have c2 := sameEntries_m (G := G) s.ents hl hok
 have c3 := sameKeys_m (G := G) s.cache hc
 refine scq seat Tryz.func20 52 ?_
 refine goe1 ?_
 simp only [eq_self, decide_true, Bool.and_self, Bool.and_true, BEq.rfl]
 refine goe1 ?_
 refine yv (c1) ?_
 refine goe1 ?_
 refine yv (c2) ?_
 refine goe1 ?_
 refine yv (c3) ?_
 refine goe1 ?_
 refine go0 ?_
 rfl
end
section
inductive RD (q : MV → Bool) (m : FM) : MV → MV → Prop where
 | same {v} (h : q v = true) : RD q m v v
 | nils : RD q m (.sl 0 []) .nils
 | ms {c off n es l'} (b : MB) (hb : m c = some b) (he : b.es = es) (h0 : es ≠ 0) (hn : off + n ≤ b.l.length) (hl : l'.length = n) (h : ∀ (j : Nat) x y, l'[j]? = some x → b.l[off + j]? = some y → RD q m x y) : RD q m (.sl n l') (.ms c es off n)
 | ptr {c es k fo path x} (b : MB) (y : MV) (hb : m c = some b) (he : b.es = es) (h0 : es ≠ 0) (hx : b.l[k]? = some y) (h : RD q m x y) : RD q m (.ep x fo path) (.ptr c es k fo path)
 | st {l' l} (hl : l'.length = l.length) (h : ∀ (j : Nat) x y, l'[j]? = some x → l[j]? = some y → RD q m x y) : RD q m (.st l') (.st l)
 | fn {f l' l} (hl : l'.length = l.length) (h : ∀ (j : Nat) x y, l'[j]? = some x → l[j]? = some y → RD q m x y) : RD q m (.fn f l') (.fn f l)
inductive RDs (q : MV → Bool) (m : FM) : List MV → List MV → Prop where
 | nil : RDs q m [] []
 | cons {x y l r} (h : RD q m x y) (t : RDs q m l r) : RDs q m (x :: l) (y :: r)
inductive RDt (q : MV → Bool) (m : FM) : MV → MV → Prop where
 | one {x y} (h : RD q m x y) : RDt q m x y
 | tup {l r} (h : RDs q m l r) : RDt q m (.tup l) (.tup r)
mutual
def MV.flat : MV → Bool
 | .int .. => true
 | .bool .. => true
 | .str .. => true
 | .st l => MV.flats l
 | .arr _ _ l => MV.flats l
 | _ => false
def MV.flats : List MV → Bool
 | [] => true
 | m :: l => MV.flat m && MV.flats l
end
theorem flats_get : ∀ {l : List MV} {j : Nat} {r : MV}, MV.flats l = true → l[j]? = some r → r.flat = true
 | a :: l, 0, r, h, hj => by
  have h : (a.flat && MV.flats l) = true := h
  rw [Bool.and_eq_true] at h
  injection hj with hj; subst hj; exact h.1
 | a :: l, j + 1, r, h, hj => by
  have h : (a.flat && MV.flats l) = true := h
  rw [Bool.and_eq_true] at h
  exact flats_get h.2 (by simpa using hj)
theorem RDs.same {q : MV → Bool} {m : FM} : ∀ {l : List MV}, l.all q = true → RDs q m l l
 | [], _ => .nil
 | x :: l, h => by
  have h : (q x && l.all q) = true := h
  rw [Bool.and_eq_true] at h
  exact .cons (.same h.1) (RDs.same h.2)
theorem RDs.get {q : MV → Bool} {m : FM} : ∀ {l r : List MV}, RDs q m l r → l.length = r.length ∧ ∀ {j : Nat} {x : MV}, l[j]? = some x → ∃ y, r[j]? = some y ∧ RD q m x y
 | _, _, .nil => ⟨rfl, fun h => by simp at h⟩
 | _, _, .cons h t => by
  obtain ⟨h1, h2⟩ := t.get
  refine ⟨by simpa using h1, fun {j x} hj => ?_⟩
  cases j with
  | zero => injection hj with hj; subst hj; exact ⟨_, rfl, h⟩
  | succ j => exact h2 (by simpa using hj)
theorem RD.row {q : MV → Bool} {m : FM} {c n es : Nat} {l : List MV} (b : MB) (hb : m c = some b) (hl : b.l = l) (hn : l.length = n) (hf : ∀ x ∈ l, q x = true) (h0 : es ≠ 0 := by decide) (he : b.es = es := by rfl) : RD q m (.sl n l) (.ms c es 0 n) := by
 subst hl
 refine .ms b hb he h0 (by omega) hn fun j x y hx hy => ?_
 rw [Nat.zero_add, hx] at hy
 injection hy with hy
 subst hy
 exact .same (hf x (List.mem_of_getElem? hx))
section
variable {w w' : World} {P P' P2 : Prot} {adr adr' : Adr} {m : FM} {x v : MV} {cs : List Value} {q : MV → Bool}
theorem flat_rep {r : MV} (hr : Rep w P adr r cs) : r.flat = true → ∀ {adr' : Adr}, Rep w' P' adr' r cs := by
 induction hr with
 | int => intro _ _; exact .int
 | bool => intro _ _; exact .bool
 | str => intro _ _; exact .str
 | st parts hp hr ih => intro hf _; exact .st parts hp fun j m p h1 h2 => ih j m p h1 h2 (flats_get hf h1)
 | arr parts hl hp hes hr ih => intro hf _; exact .arr parts hl hp hes fun j m p h1 h2 => ih j m p h1 h2 (flats_get hf h1)
 | _ => intro hf; cases hf
theorem RD.agg (h : RD q m x v) : x.isAgg = v.isAgg := by cases h <;> rfl
def pAll (w : World) : Prot := fun b _ => b < w.heap.size
theorem nil_rep : Rep w P adr (.sl 0 []) [.slice none 0 0] := .sl none 0 0 [] rfl rfl (fun p hp => nomatch hp) (fun _ => ⟨rfl, rfl⟩) (Nat.le_refl _) (fun h => absurd rfl h) (fun j m p h => by simp at h)
theorem RD.rep (hI : InvM w P adr m) (hq : ∀ {v : MV} {a : Adr} {cs : List Value}, q v = true → Rep w P a v cs → Rep w P2 noAdr v cs) (hp2 : ∀ c g, adr c = some g → g < w.heap.size → ∀ o, P2 g o) (h : RD q m x v) : ∀ {a : Adr} {cs : List Value}, (∀ c g, a c = some g → adr c = some g) → Rep w P a v cs → Rep w P2 noAdr x cs := by
 have cellA : ∀ {c g : Nat} {cur : Array Value} {t : TypeId} {i : Nat} {u : Value}, adr c = some g → w.heap[g]? = some (.cells cur t (0, 0)) → cur.toList[i]? = some u → w.cell? ⟨g, i, none⟩ = some u ∧ P2 g i := fun {c g cur t i u} ha hg hu => by
  refine ⟨?_, hp2 c g ha (Array.getElem?_eq_some_iff.1 hg).1 _⟩
  rw [cell_of_row w g _ cur t (0, 0) hg]
  simpa using hu
 have sub : ∀ {b : MB} {c g : Nat}, (if b.row then noAdr else adr) c = some g → adr c = some g := fun {b c g} h => by
  split at h
  ·cases h
  ·exact h
 induction h with
 | same hf => intro a cs _ hr; exact hq hf hr
 | nils =>
  intro a cs _ hr
  cases hr
  exact nil_rep
 | @ms c off n es l' b hb he h0 hn hl h ih =>
  intro a cs ha hr
  cases hr with
  | ms0 =>
   have : l' = [] := List.length_eq_zero_iff.1 hl
   subst this
   exact nil_rep
  | ms g o cap hg ho hcap hcap2 hsz =>
   have hg := ha _ _ hg
   rcases hI.blk c b hb with ⟨_, _, h3, _⟩ | ⟨g', h1, h2⟩
   ·rw [hg] at h3; cases h3
   rw [hg] at h1
   injection h1 with h1
   subst h1
   obtain ⟨cur, parts, c1, c2, c3, c4, c5⟩ := h2.ofE (by rw [he]; exact h0)
   have hpes : ∀ p ∈ parts, p.length = es := fun p hp => by rw [c3 p hp, he]
   have hall : ∀ p ∈ (parts.drop off).take n, p.length = es := fun p hp => hpes p (List.mem_of_mem_drop (List.mem_of_mem_take hp))
   have hlen2 : ((parts.drop off).take n).length = n := by rw [List.length_take, List.length_drop]; omega
   refine .sl (some ⟨g, o, none⟩) cap es ((parts.drop off).take n) hl hlen2 hall (fun h => nomatch h) hcap (fun hn0 => ⟨g, o, rfl, fun j u hj => ?_⟩) fun j y p hy hp => ?_
   ·have ho := ho (.inl hn0)
    subst ho
    exact cellA hg c1 (prefix_get c5 (flatten_take hpes off n hj (by omega)))
   ·have hjl := (List.getElem?_eq_some_iff.1 hy).1
    rw [List.getElem?_take_of_lt (by omega), List.getElem?_drop] at hp
    obtain ⟨z, hz⟩ : ∃ z, b.l[off + j]? = some z := ⟨b.l[off + j]'(by omega), List.getElem?_eq_getElem (by omega)⟩
    exact ih j y z hy hz (fun _ _ h => sub h) (c4 _ z p hz hp)
 | @ptr c es k fo path x b y hb he h0 hx h ih =>
  intro a cs ha hr
  cases hr with
  | ptr g hg =>
   have hg := ha _ _ hg
   rcases hI.blk c b hb with ⟨_, _, h3, _⟩ | ⟨g', h1, h2⟩
   ·rw [hg] at h3; cases h3
   rw [hg] at h1
   injection h1 with h1
   subst h1
   obtain ⟨cur, parts, c1, c2, c3, c4, c5⟩ := h2.ofE (by rw [he]; exact h0)
   have hpes : ∀ p ∈ parts, p.length = es := fun p hp => by rw [c3 p hp, he]
   have hkl := (List.getElem?_eq_some_iff.1 hx).1
   have hk2 : k < parts.length := by omega
   refine .ep g (k * es) parts[k] (fun j u hj => cellA hg c1 (prefix_get c5 (flatten_take hpes k 1 (x := u) ?_ (by omega)))) (ih (fun _ _ h => sub h) (c4 k y parts[k] hx (List.getElem?_eq_getElem hk2)))
   rw [show (parts.drop k).take 1 = [parts[k]] by rw [List.drop_eq_getElem_cons hk2]; rfl]
   simpa using hj
 | @st l' l hl h ih =>
  intro a cs ha hr
  cases hr with
  | st parts hp hr =>
   refine .st parts (by omega) fun j x p hx hp2 => ?_
   have hj := (List.getElem?_eq_some_iff.1 hp2).1
   have hz : l[j]? = some (l[j]'(by omega)) := List.getElem?_eq_getElem (by omega)
   exact ih j x _ hx hz ha (hr j _ p hz hp2)
 | @fn f l' l hl h ih =>
  intro a cs ha hr
  cases hr with
  | fn parts hp hr =>
   have e : List.zipWith valM l parts = List.zipWith valM l' parts := by
    apply List.ext_getElem?
    intro j
    rw [List.getElem?_zipWith, List.getElem?_zipWith]
    by_cases hj : j < l.length
    ·have h1 : l[j]? = some (l[j]'hj) := List.getElem?_eq_getElem hj
     have h2 : l'[j]? = some (l'[j]'(by omega)) := List.getElem?_eq_getElem (by omega)
     have h3 : parts[j]? = some (parts[j]'(by omega)) := List.getElem?_eq_getElem (by omega)
     rw [h1, h2, h3]
     show some (valM _ _) = some (valM _ _)
     unfold valM
     rw [(h j _ _ h2 h1).agg]
    ·have h1 : l[j]? = none := List.getElem?_eq_none (by omega)
     have h2 : l'[j]? = none := List.getElem?_eq_none (by omega)
     rw [h1, h2]
   rw [e]
   refine .fn parts (by omega) fun j x p hx hp2 => ?_
   have hj := (List.getElem?_eq_some_iff.1 hp2).1
   have hz : l[j]? = some (l[j]'(by omega)) := List.getElem?_eq_getElem (by omega)
   exact ih j x _ hx hz ha (hr j _ p hz hp2)
theorem RD.val (hq : ∀ v : MV, q v = true → v.isVal = true) (h : RD q m x v) : v.isVal = true := by
 cases h with
 | same h => exact hq _ h
 | _ => rfl
theorem RD.repV {u : Value} (hI : InvM w P adr m) (hv : ∀ v : MV, q v = true → v.isVal = true) (hq : ∀ {v : MV} {a : Adr} {cs : List Value}, q v = true → Rep w P a v cs → Rep w P2 noAdr v cs) (hp2 : ∀ c g, adr c = some g → g < w.heap.size → ∀ o, P2 g o) (h : RD q m x v) (hr : RepV w P adr v u) : RepV w P2 noAdr x u := by
 have hv := h.val hv
 cases hr with
 | val cs hr =>
  have e : valM v cs = valM x cs := by unfold valM; rw [h.agg]
  rw [e]
  exact .val cs (h.rep hI hq hp2 (fun _ _ h => h) hr)
 | undef => cases hv
 | tup vs hl h2 => cases hv
theorem RDs.repVs (hI : InvM w P adr m) (hv : ∀ v : MV, q v = true → v.isVal = true) (hq : ∀ {v : MV} {a : Adr} {cs : List Value}, q v = true → Rep w P a v cs → Rep w P2 noAdr v cs) (hp2 : ∀ c g, adr c = some g → g < w.heap.size → ∀ o, P2 g o) : ∀ {l r : List MV} {us : List Value}, RDs q m l r → RepVs w P adr r us → RepVs w P2 noAdr l us
 | _, _, _, .nil, .nil => .nil
 | _, _, _, .cons h t, .cons h2 t2 => .cons (h.repV hI hv hq hp2 h2) (RDs.repVs hI hv hq hp2 t t2)
theorem RDt.repV {u : Value} (hI : InvM w P adr m) (hv : ∀ v : MV, q v = true → v.isVal = true) (hq : ∀ {v : MV} {a : Adr} {cs : List Value}, q v = true → Rep w P a v cs → Rep w P2 noAdr v cs) (hp2 : ∀ c g, adr c = some g → g < w.heap.size → ∀ o, P2 g o) (h : RDt q m x v) (hr : RepV w P adr v u) : RepV w P2 noAdr x u := by
 cases h with
 | one h => exact h.repV hI hv hq hp2 hr
 | tup h =>
  obtain ⟨h1, h2⟩ := h.get
  cases hr with
  | val cs hr => cases hr
  | tup vs hl h3 =>
   refine .tup vs (by omega) fun j x u hx hu => ?_
   obtain ⟨y, hy, hd⟩ := h2 hx
   obtain ⟨cs, h4, rfl⟩ := h3 j y u hy hu
   exact ⟨cs, hd.rep hI hq hp2 (fun _ _ h => h) h4, by unfold valM; rw [hd.agg]⟩
theorem idFree_val : ∀ v : MV, v.idFree = true → v.isVal = true := fun v h => by cases v <;> first | rfl | cases h
theorem flat_val : ∀ v : MV, v.flat = true → v.isVal = true := fun v h => by cases v <;> first | rfl | cases h
end
theorem borrow {Pg : Program} {G : GS} {f : FuncId} {args' args : List MV} {res res1 : MV} {M1 : VM} {n1 : Nat} (hc : SemR Pg G f args' [] 0 res1 M1 n1) {M0 : VM} {n0 : Nat} (hd : RDs MV.idFree (VM.get M0) args' args) (hf : RDt MV.flat (VM.get M1) res res1) : SemR Pg G f args M0 n0 res M0 n0 := by
 intro w P adr vals hG hI hn hL hr
 have ha := hd.repVs (P2 := pAll w) hI idFree_val (fun {v a cs} hv hr => (hr.free hv).keep ⟨fun b o h => hI.prot b o h, fun _ _ _ => rfl, fun _ _ h => h, fun _ _ _ _ h => nomatch h⟩) (fun c g _ hg o => hg) hr
 refine Calls.mono (hc w (pAll w) noAdr vals hG ⟨fun c b h => (nomatch h), fun c c' b b' g h => (nomatch h), fun b o h => h⟩ (fun _ _ => rfl) (fun c g h => nomatch h) ha) ?_
 rintro e w' ⟨v, h1, P1, a1, hI1, h2, _, _, _, hnew, _, h3⟩
 have h3 : Since (fun _ => False) w w' := ⟨h3.os, h3.tape, h3.output, h3.size, fun b hb _ => h3.block b hb (fun ⟨_, h⟩ => nomatch h)⟩
 have hb := h3.below
 refine ⟨v, h1, protNew w w' P, adr, hI.below hb, ?_, Keep.below hI.prot hb, fun _ _ => rfl, hn, fun c g h => .inr ⟨c, h⟩, fun b o h => ?_, ⟨h3.os, h3.tape, h3.output, h3.size, fun b hb2 _ => h3.block b hb2 (fun e => e)⟩⟩
 ·refine (hf.repV hI1 flat_val (fun hv hr => flat_rep hr hv) (fun c g hg hlt o => .inr ⟨?_, hlt⟩) h2).ofNone
  rcases hnew c g hg with h | ⟨_, h⟩
  ·exact h
  ·cases h
 ·rcases h with h | h
  ·exact .inl h
  ·exact .inr (.inl h.1)
end
section
variable {G : GS}
theorem head_ints : ∀ (l : List Int), headSize (l.map (MV.int .i64)) 1 = true
 | [] => rfl
 | _ :: _ => rfl
theorem clone_ints (l : List Int) (hbl : l.length < 536870912) : SemR Tryz.prog G 215 [intsM l] [] 0 (intsM l) [] 0 := by
 unfold intsM
 refine srq seat Tryz.func215 8 ?_
 refine go1 ?_
 refine g_nil rfl rfl (fun b hb => ?_)
 cases b with
 | true =>
  have h0 := hb rfl
  have h1 : l = [] := List.length_eq_zero_iff.1 h0
  subst h1
  refine go1 ?_
  refine go0 ?_
  exact en [_]
 | false =>
  refine go1 ?_
  refine g_mem rfl rfl (by intro R hR; refine sms hR ?_; refine And.intro ((head_ints l)) ?_; refine And.intro ⟨rfl, app_ok (by kernel_rfl) pf⟩ ?_; refine ⟨l.map (MV.int .i64), sv (by show [] ++ l.map (MV.int .i64) = _; rw [List.nil_append]), l.length, sv pf, ?_⟩; exact hR) rfl ?_
  refine go1 ?_
  refine ⟨[_], [], [(5, l.length)], rfl, rfl, ?_, rfl, ⟨?_, trivial⟩, ?_⟩
  ·exact ⟨by show l.length ≤ (l.map (MV.int .i64)).length; simp, trivial⟩
  ·exact .inr ⟨rfl, rfl, rfl, Nat.le_of_eq (Nat.zero_add _), cut_all (MV.int .i64) l⟩
  ·exact mm
theorem own_entry (e : Ent) (hr : e.raw.length < 536870912) (hp : e.peers.length < 536870912) : SemC Tryz.prog G 169 [entM e] (entM e) := by
 obtain ⟨e1, e2, e3, e4, e5, e6, e7, e8, e9, e10⟩ := e
 have c1 := clone_u8 (G := G) e2 hr
 have c2 := clone_ints (G := G) e10 hp
 unfold entM intsM at *
 dsimp only at *
 refine scq seat Tryz.func169 12 ?_
 refine go1 ?_
 refine c_draw [(0, false), (1, false), (2, true), (3, false), (4, false), (5, true), (6, false), (7, false), (8, false), (9, false)] ?_
 refine go1 ?_
 refine ydr (c1) ?_
 refine go1 ?_
 refine ydr (c2) ?_
 refine go1 ?_
 refine go0 ?_
 rfl
def keysB (l : List (List UInt8)) : VM := [(0, ⟨40, 32, true, 0, l.map keyM⟩)]
theorem own_entries2 (l : List Ent) (hl : l.length < 1000000) (hok : ∀ e ∈ l, e.raw.length < 536870912 ∧ e.peers.length < 536870912) : SemR Tryz.prog G 114 [.sl l.length (l.map entM)] [] 0 (.ms 0 41 0 l.length) [(0, ⟨155, 41, true, 0, l.map entM⟩)] 1 := by
 refine srq seat Tryz.func114 19 ?_
 refine go1 ?_
 refine c_loop Nat (fun k => [(8, .int .i64 k), (7, .int .i64 l.length), (6, .sl l.length (l.map entM)), (3, .ms 0 41 0 k)]) (fun k => [(0, ⟨155, 41, true, 0, (l.take k).map entM⟩)]) 1 (fun k => k ≤ l.length) (fun k => l.length - k) 0 (Nat.zero_le _) (vm [] []) ?_
 intro k hk
 try dsimp only
 refine go1 ?_
 refine c_cond rfl (fun h => ?_) (fun h => ?_)
 ·have hk' : k < l.length := by have := of_decide_eq_true h; omega
  have hke := hok _ (List.getElem_mem hk')
  (have fct := SomF.mk (ents_at hk'); refine go1 ?_)
  refine yv (own_entry l[k] hke.1 hke.2) ?_
  refine go1 ?_
  refine g_mem rfl rfl (by intro R hR; refine sms hR ?_; (refine And.intro (Nat.le_refl _) ?_; refine ⟨_, rfl, ?_⟩; refine And.intro ⟨(by simp; omega), app_ok (by kernel_rfl) pf⟩ ?_; refine ⟨(l.take (k + 1)).map entM, sv (by rw [List.take_succ_eq_append_getElem hk', List.map_append]; rfl), k + 1, sv pf, ?_⟩); exact hR) rfl ?_
  refine go1 ?_
  exact ⟨k + 1, by show k + 1 ≤ l.length; omega, by show l.length - (k + 1) < l.length - k; omega, (by dsimp only; exact (vm [(0, _)] []))⟩
 ·have hk' : k = l.length := by have := of_decide_eq_false h; omega
  subst hk'
  rw [List.take_length]
  refine go1 ?_
  refine ⟨[_], [(0, 0)], [], rfl, rfl, trivial, rfl, ⟨?_, trivial⟩, ?_⟩
  ·exact .inr ⟨_, rfl, rfl⟩
  ·exact mm
end
section
variable {G : GS}
attribute [local irreducible] vOpsN vOpsG vOpsD vOpGD NextD vC SeqQ BlockQ
theorem flat_u8 : ∀ l : List UInt8, MV.flats (u8s l) = true
 | [] => rfl
 | a :: l => by
  show (true && MV.flats (u8s l)) = true
  rw [flat_u8 l]; rfl
theorem flat_key (k : List UInt8) : (keyM k).flat = true := flat_u8 k
theorem rd_keys (l : List (List UInt8)) : RD MV.flat (VM.get (keysB l)) (.sl l.length (l.map keyM)) (.ms 0 32 0 l.length) :=
 RD.row ⟨40, 32, true, 0, l.map keyM⟩ rfl rfl (by simp) (fun x hx => by obtain ⟨y, _, rfl⟩ := List.mem_map.1 hx; exact flat_key y)
theorem cloneK_row (l : List (List UInt8)) (hl : l.length ≤ 1000000) : SemR Tryz.prog G 104 [.sl l.length (l.map keyM)] [] 0 (.ms 0 32 0 l.length) (keysB l) 1 := by
 unfold keysB
 refine srq seat Tryz.func104 8 ?_
 refine go1 ?_
 refine g_nil rfl rfl (fun b hb => ?_)
 cases b with
 | true =>
  have h0 := hb rfl
  have h1 : l = [] := List.length_eq_zero_iff.1 h0
  subst h1
  refine go1 ?_
  refine go0 ?_
  exact en [_]
 | false =>
  refine go1 ?_
  refine g_mem rfl rfl (by intro R hR; refine sms hR ?_; refine And.intro ((head_keys l)) ?_; refine And.intro ⟨rfl, app_ok (by kernel_rfl) pf⟩ ?_; refine ⟨l.map keyM, sv (by show [] ++ l.map keyM = _; rw [List.nil_append]), l.length, sv pf, ?_⟩; exact hR) rfl ?_
  refine go1 ?_
  exact eb [_] [(0, 5)] []
theorem cloneK_r (l : List (List UInt8)) (hl : l.length ≤ 1000000) : SemR Tryz.prog G 104 [.sl l.length (l.map keyM)] [] 0 (.sl l.length (l.map keyM)) [] 0 :=
 borrow (cloneK_row l hl) (RDs.same rfl) (.one (rd_keys l))
end
section
variable {G : GS}
attribute [local irreducible] vOpsN vOpsG vOpsD vOpGD NextD vC SeqQ BlockQ
def rowEn (l : List Ent) : MB := ⟨155, 41, true, 0, l.map entM⟩
end
section
attribute [local irreducible] vOpsN vOpsG vOpsD vOpGD NextD vC SeqQ BlockQ
abbrev stE (s : StS) (c : Nat) : MV := .st [cfM s.cfg, appM s.app, .int .i64 s.height, .int .i64 s.time, .int .i64 s.arr, .ms c 41 0 s.ents.length, .sl s.cache.length (s.cache.map keyM)]
theorem own_stateA {G : GS} (s : StS) (ha : SmApp s.app) (hl : s.ents.length < 1000000) (hc : s.cache.length ≤ 1000000) (hok : ∀ e ∈ s.ents, e.raw.length < 536870912 ∧ e.peers.length < 536870912) : SemR Tryz.prog G 62 [stM s] [] 0 (stE s 0) [(0, rowEn s.ents)] 1 := by
 have c1 := ownApp_m (G := G) s.app ha
 have c2 := own_entries2 (G := G) s.ents hl hok
 have c3 := cloneK_r (G := G) s.cache hc
 clear ha hok
 obtain ⟨⟨f1, f2, f3, f4, f5, f6, keep, f8, f9, f10, f11, f12⟩, ⟨⟨a1, a2⟩, ⟨a3, a4⟩, ⟨a5, a6⟩, a7, a8⟩, height, time, arr, ents, cache⟩ := s
 unfold rowEn
 dsimp only [stM, stE, cfM, appM, lgM] at *
 generalize ents.map entM = b4 at *
 generalize cache.map keyM = b6 at *
 try generalize a1.map acM = b1 at *
 try generalize a1.length = d1 at *
 try generalize a3.map acM = b3 at *
 try generalize a3.length = d3 at *
 try generalize a5.map acM = b5 at *
 try generalize a5.length = d5 at *
 refine srq seat Tryz.func62 16 ?_
 refine go1 ?_
 refine c_draw [(0, false), (1, false), (2, true), (3, false), (4, false), (5, true), (6, false), (7, false), (8, true), (9, false), (10, false), (11, false), (12, false), (13, false), (14, false)] ?_
 refine go1 ?_
 refine ydv (c1) ?_
 refine go1 ?_
 refine gd_callR1 rfl (fun _ h => h) rfl [] (c2) [] [] ⟨rfl, trivial, rfl, lm, mm⟩ rfl rfl rfl rfl rfl ?_
 refine go1 ?_
 refine ydr (c3) ?_
 refine go1 ?_
 refine go0 ?_
 exact eb [_] [(0, 7)] []
end
section
def comps : MV → List MV
 | .tup l => l
 | r => [r]
def okCo : MV → Bool
 | .tup [_] => false
 | _ => true
theorem repVs_of {w : World} {P : Prot} {adr : Adr} : ∀ {l : List MV} {vs : List Value}, vs.length = l.length → (∀ (j : Nat) m u, l[j]? = some m → vs[j]? = some u → ∃ cs, Rep w P adr m cs ∧ u = valM m cs) → RepVs w P adr l vs
 | [], [], _, _ => .nil
 | m :: l, u :: vs, hl, h => by
  obtain ⟨cs, h1, rfl⟩ := h 0 m u rfl rfl
  exact .cons (.val cs h1) (repVs_of (by simpa using hl) fun j m u hj hu => h (j + 1) m u (by simpa using hj) (by simpa using hu))
 | [], _ :: _, h, _ => by simp at h
 | _ :: _, [], h, _ => by simp at h
theorem comps_rep {w : World} {P : Prot} {adr : Adr} {r : MV} {v : Value} (h : RepV w P adr r v) (hc : okCo r = true) : ∃ us, RepVs w P adr (comps r) us ∧ tup us = v := by
 cases h with
 | tup us hl hp =>
  rename_i l
  refine ⟨us, repVs_of hl hp, ?_⟩
  match us, l, hl, hc with
  | [], _, _, _ => rfl
  | [x], [y], _, hc => cases hc
  | x :: y :: us, _, _, _ => rfl
 | val cs h1 =>
  have e : comps r = [r] := by cases h1 <;> rfl
  rw [e]
  exact ⟨[_], .cons (.val cs h1) .nil, rfl⟩
 | undef => exact ⟨[_], .cons .undef .nil, rfl⟩
theorem semR_match {σ bs : List (Nat × Nat)} {n0 : Nat} {Pg : Program} {G : GS} {f : FuncId} {args : List MV} {M0 M1 M2 : VM} {n1 n2 : Nat} {res : MV} {rv : List MV} (h : SemR Pg G f args M0 n0 res M1 n1) (hm : LMatch n0 rv M2 n2 (comps res) M1 σ bs) (hc : okCo res = true) : SemR Pg G f args M0 n0 (tupM rv) M2 n2 := by
 obtain ⟨hok, hokb, hall, hrel, hmm⟩ := hm
 have hσ := okSg_out hok
 intro w P adr vals a1 a2 a3 a4 a5
 refine Calls.mono (h w P adr vals a1 a2 a3 a4 a5) ?_
 rintro e w' ⟨v, rfl, P1, adr1, hI, hr, hk, h4, h5, h6, h7, h8⟩
 obtain ⟨us, hus, rfl⟩ := comps_rep hr hc
 obtain ⟨P2, i1, i2, i3, i4⟩ := hI.frozen hokb
 obtain ⟨r1, r2⟩ := relVs_repVs i4 hrel (hus.kp i2)
 have hA0 : AdrOK w ⟨fun g => ∃ c, adr c = some g, adr, n0, fun c g hc => by
   rcases Nat.lt_or_ge c n0 with h | h
   ·exact h
   ·rw [a3 c h] at hc; cases hc⟩ P w' P1 adr1 := ⟨h6, h4, hk⟩
 have hA := (hA0.frozen i2).matched hσ
 refine ⟨_, rfl, P2, adrS (sigA n0 σ) adr1, i1.matched hσ i4 hmm, tup_rep r1 r2, hA.keep, fun c hc => hA.old c hc, fun c hc => adrS_none hσ hc, fun c g hc => hA.in_ c g hc, fun b o ho => ?_, h8⟩
 rcases i3 b o ho with h | ⟨c, h⟩
 ·exact h7 b o h
 ·rcases h6 c b h with h | h
  ·exact .inr (.inl h)
  ·exact .inr (.inr h)
end
section
variable {G : GS}
attribute [local irreducible] vOpsN vOpsG vOpsD vOpGD NextD vC SeqQ BlockQ
theorem fz_stE0 {fz : Fz} {s : StS} {c : Nat} (h : FzR fz (.ms c 41 0 s.ents.length) s.ents.length (s.ents.map entM)) : relV (sigA 0 []) fz (stM s) (stE s c) :=
 .inr ⟨_, rfl, .inl ⟨rfl, rfl⟩, .inl ⟨rfl, rfl⟩, ⟨rfl, rfl⟩, ⟨rfl, rfl⟩, ⟨rfl, rfl⟩, .inr h, .inl rfl, trivial⟩
theorem own_state0 (s : StS) (ha : SmApp s.app) (hl : s.ents.length < 1000000) (hc : s.cache.length ≤ 1000000) (hok : ∀ e ∈ s.ents, e.raw.length < 536870912 ∧ e.peers.length < 536870912) : SemR Tryz.prog G 62 [stM s] [] 0 (stM s) [] 0 :=
 semR_match (rv := [stM s]) (σ := []) (bs := [(0, s.ents.length)]) (own_stateA s ha hl hc hok) ⟨rfl, ⟨by show s.ents.length ≤ (s.ents.map entM).length; simp, trivial⟩, rfl, ⟨fz_stE0 ⟨rfl, rfl, rfl, Nat.le_of_eq (Nat.zero_add _), cut_all _ _⟩, trivial⟩, trivial⟩ rfl
abbrev ndV (S T : MV) : MV := .st [S, T, .nils, .arr 16 1 (List.replicate 16 .nils), .nils, .nils]
abbrev ndP (S T : MV) : MV := .ep (ndV S T) 0 []
theorem nnew_y (c : CfS) (acs : List AcS) (s : StS) (h : SemR Tryz.prog G 60 [cfM c, .sl acs.length (acs.map acM)] [] 0 (.tup [stM s, .int .i64 0]) [] 0) (hs : SmLg s.app.com) : SemR Tryz.prog G 16 [cfM c, .sl acs.length (acs.map acM)] [] 0 (.tup [ndP (stM s) (tipM (genT s.app.com)), .int .i64 0]) [] 0 := by
 have cg := pgen_m (G := G) s.app.com hs
 generalize acs.map acM = A at *
 generalize genT s.app.com = t at *
 obtain ⟨⟨f1, f2, f3, f4, f5, f6, keep, f8, f9, f10, f11, f12⟩, ⟨⟨a1, a2⟩, ⟨a3, a4⟩, ⟨a5, a6⟩, a7, a8⟩, height, time, arr, ents, cache⟩ := s
 dsimp only at *
 dsimp only [stM, cfM, appM, lgM, tipM] at *
 generalize ents.map entM = b4 at *
 generalize cache.map keyM = b6 at *
 try generalize a1.map acM = b1 at *
 try generalize a1.length = d1 at *
 try generalize a3.map acM = b3 at *
 try generalize a3.length = d3 at *
 try generalize a5.map acM = b5 at *
 try generalize a5.length = d5 at *
 refine srq seat Tryz.func16 24 ?_
 refine go1 ?_
 refine yr (h) ?_
 refine go1 ?_
 refine c_draw [(0, false), (1, false), (2, false), (3, false), (4, true), (5, false), (6, false), (7, false), (8, false)] ?_
 refine go1 ?_
 refine ydv (cg) ?_
 refine go1 ?_
 refine go0 ?_
 refine ⟨[_, _], [], [(19, 1)], rfl, rfl, ?_, rfl, ⟨?_, ?_, trivial⟩, ?_⟩
 ·exact ⟨Nat.le_refl _, trivial⟩
 ·exact .inr ⟨rfl, Nat.zero_lt_one, rfl, rfl, rfl, rfl⟩
 ·exact rv
 ·exact mm
theorem nnew_n (c : CfS) (acs : List AcS) (s : StS) (e : Int) (he : e ≠ 0) (h : SemR Tryz.prog G 60 [cfM c, .sl acs.length (acs.map acM)] [] 0 (.tup [stM s, .int .i64 e]) [] 0) : SemR Tryz.prog G 16 [cfM c, .sl acs.length (acs.map acM)] [] 0 (.tup [.nilp, .int .i64 e]) [] 0 := by
 unfold stM at h
 refine srq seat Tryz.func16 24 ?_
 refine go1 ?_
 refine yr (h) ?_
 refine go1 ?_
 refine c_cond rfl (fun h => ?_) (fun h => ?_)
 ·refine go1 ?_
  refine go0 ?_
  exact en [_, _]
 ·exact absurd (by simp at h; omega) he
end
section
variable {G : GS}
attribute [local irreducible] vOpsN vOpsG vOpsD vOpGD NextD vC SeqQ BlockQ
theorem nstate_r (s : StS) (T : MV) (ha : SmApp s.app) (hl : s.ents.length < 1000000) (hc : s.cache.length ≤ 1000000) (hok : ∀ e ∈ s.ents, e.raw.length < 536870912 ∧ e.peers.length < 536870912) : SemR Tryz.prog G 17 [ndP (stM s) T] [] 0 (stM s) [] 0 := by
 have c1 := own_state0 (G := G) s ha hl hc hok
 clear ha hok hl hc
 obtain ⟨⟨f1, f2, f3, f4, f5, f6, keep, f8, f9, f10, f11, f12⟩, ⟨⟨a1, a2⟩, ⟨a3, a4⟩, ⟨a5, a6⟩, a7, a8⟩, height, time, arr, ents, cache⟩ := s
 try dsimp only at *
 dsimp only [stM, cfM, appM, lgM] at *
 generalize ents.map entM = b4 at *
 generalize cache.map keyM = b6 at *
 try generalize a1.map acM = b1 at *
 try generalize a1.length = d1 at *
 try generalize a3.map acM = b3 at *
 try generalize a3.length = d3 at *
 try generalize a5.map acM = b5 at *
 try generalize a5.length = d5 at *
 refine srq seat Tryz.func17 11 ?_
 refine go1 ?_
 refine yr (c1) ?_
 refine go1 ?_
 refine go0 ?_
 exact en [_]
theorem ntip_m (s : StS) (t : TipS) : SemC Tryz.prog G 41 [ndP (stM s) (tipM t)] (tipM t) := by
 obtain ⟨height0, ttime, hash, app, res⟩ := t
 obtain ⟨⟨f1, f2, f3, f4, f5, f6, keep, f8, f9, f10, f11, f12⟩, ⟨⟨a1, a2⟩, ⟨a3, a4⟩, ⟨a5, a6⟩, a7, a8⟩, height, time, arr, ents, cache⟩ := s
 dsimp only [stM, cfM, appM, lgM, tipM] at *
 generalize ents.map entM = b4 at *
 generalize cache.map keyM = b6 at *
 try generalize a1.map acM = b1 at *
 try generalize a1.length = d1 at *
 try generalize a3.map acM = b3 at *
 try generalize a3.length = d3 at *
 try generalize a5.map acM = b5 at *
 try generalize a5.length = d5 at *
 refine scq seat Tryz.func41 10 ?_
 refine go1 ?_
 refine go0 ?_
 rfl
theorem nlog_m (s : StS) (t : TipS) : SemC Tryz.prog G 37 [ndP (stM s) (tipM t)] (.sl 0 []) := by
 have c1 := clone_u8 (G := G) [] (by simp)
 obtain ⟨height0, ttime, hash, app, res⟩ := t
 obtain ⟨⟨f1, f2, f3, f4, f5, f6, keep, f8, f9, f10, f11, f12⟩, ⟨⟨a1, a2⟩, ⟨a3, a4⟩, ⟨a5, a6⟩, a7, a8⟩, height, time, arr, ents, cache⟩ := s
 dsimp only [stM, cfM, appM, lgM, tipM] at *
 generalize ents.map entM = b4 at *
 generalize cache.map keyM = b6 at *
 try generalize a1.map acM = b1 at *
 try generalize a1.length = d1 at *
 try generalize a3.map acM = b3 at *
 try generalize a3.length = d3 at *
 try generalize a5.map acM = b5 at *
 try generalize a5.length = d5 at *
 refine scq seat Tryz.func37 10 ?_
 refine go1 ?_
 refine yr (c1) ?_
 refine go1 ?_
 refine go0 ?_
 rfl
theorem nsent_m (s : StS) (t : TipS) (i : Int) (hi : 1 ≤ i ∧ i ≤ 15) : SemC Tryz.prog G 53 [ndP (stM s) (tipM t), .int .i64 i] (.sl 0 []) := by
 have c1 := cloneK_r (G := G) [] (by simp)
 have c2 : SemC Tryz.prog G 103 [.int .i64 i] (.bool true) := by
  refine scq seat Tryz.func103 9 ?_
  refine go1 ?_
  refine n_guard rfl rfl (fun h => ?_) rfl (fun h => ?_)
  ·have k1 := of_decide_eq_true h
   refine go1 ?_
   refine go0 ?_
   exact congrArg MV.bool (decide_eq_true (by omega))
  ·exact absurd (of_decide_eq_false h) (by omega)
 have h : i = 1 ∨ i = 2 ∨ i = 3 ∨ i = 4 ∨ i = 5 ∨ i = 6 ∨ i = 7 ∨ i = 8 ∨ i = 9 ∨ i = 10 ∨ i = 11 ∨ i = 12 ∨ i = 13 ∨ i = 14 ∨ i = 15 := by omega
 clear hi
 rcases h with rfl | rfl | rfl | rfl | rfl | rfl | rfl | rfl | rfl | rfl | rfl | rfl | rfl | rfl | rfl
 all_goals
  obtain ⟨height0, ttime, hash, app, res⟩ := t
  obtain ⟨⟨f1, f2, f3, f4, f5, f6, keep, f8, f9, f10, f11, f12⟩, ⟨⟨a1, a2⟩, ⟨a3, a4⟩, ⟨a5, a6⟩, a7, a8⟩, height, time, arr, ents, cache⟩ := s
  dsimp only [stM, cfM, appM, lgM, tipM] at *
  generalize ents.map entM = b4 at *
  generalize cache.map keyM = b6 at *
  try generalize a1.map acM = b1 at *
  try generalize a1.length = d1 at *
  try generalize a3.map acM = b3 at *
  try generalize a3.length = d3 at *
  try generalize a5.map acM = b5 at *
  try generalize a5.length = d5 at *
  refine scq seat Tryz.func53 19 ?_
  refine go1 ?_
  refine yv (c2) ?_
  refine go1 ?_
  refine yr (c1) ?_
  refine go1 ?_
  refine go0 ?_
  rfl
theorem nblocks_m (s : StS) (t : TipS) : SemC Tryz.prog G 23 [ndP (stM s) (tipM t)] (.sl 0 []) := by
 obtain ⟨height0, ttime, hash, app, res⟩ := t
 obtain ⟨⟨f1, f2, f3, f4, f5, f6, keep, f8, f9, f10, f11, f12⟩, ⟨⟨a1, a2⟩, ⟨a3, a4⟩, ⟨a5, a6⟩, a7, a8⟩, height, time, arr, ents, cache⟩ := s
 dsimp only [stM, cfM, appM, lgM, tipM] at *
 generalize ents.map entM = b4 at *
 generalize cache.map keyM = b6 at *
 try generalize a1.map acM = b1 at *
 try generalize a1.length = d1 at *
 try generalize a3.map acM = b3 at *
 try generalize a3.length = d3 at *
 try generalize a5.map acM = b5 at *
 try generalize a5.length = d5 at *
 refine scq seat Tryz.func23 24 ?_
 refine go1 ?_
 refine c_loop Unit (fun _ => [(13, .int .i64 0), (12, .int .i64 0), (3, .nils)]) (fun _ => []) 0 (fun _ => True) (fun _ => 0) () trivial (vm [] []) ?_
 intro _ _
 try dsimp only
 refine go1 ?_
 refine go0 ?_
 rfl
end
section
variable {G : GS}
attribute [local irreducible] vOpsN vOpsG vOpsD vOpGD NextD vC SeqQ BlockQ
theorem keysBy : ∀ x, some x = (Tryz.prog.info? 36).map (·.bytes) → x = 24 := fun _ h => Option.some.inj (h.trans (show (Tryz.prog.info? 36).map (·.bytes) = some 24 by kernel_rfl))
abbrev blkZ : MV := .st [hdZ, .nils]
abbrev ndR (S T : MV) : MV := .st [S, T, .nils, .sl 15 (List.replicate 15 .nils), .bool false, blkZ, .nils]
theorem rnew_y (c : CfS) (acs : List AcS) (s : StS) (h : SemR Tryz.prog G 81 [cfM c, .sl acs.length (acs.map acM)] [] 0 (.tup [stM s, .int .i64 0]) [] 0) (hs : SmLg s.app.com) : SemR Tryz.prog G 30 [cfM c, .sl acs.length (acs.map acM)] [] 0 (.tup [ndR (stM s) (tipM (genT s.app.com)), .int .i64 0]) [] 0 := by
 have cg := rgen_m (G := G) s.app.com hs
 have hb2 := keysBy
 generalize acs.map acM = A at *
 generalize genT s.app.com = t at *
 obtain ⟨⟨f1, f2, f3, f4, f5, f6, keep, f8, f9, f10, f11, f12⟩, ⟨⟨a1, a2⟩, ⟨a3, a4⟩, ⟨a5, a6⟩, a7, a8⟩, height, time, arr, ents, cache⟩ := s
 try dsimp only at *
 dsimp only [stM, cfM, appM, lgM, tipM] at *
 generalize ents.map entM = b4 at *
 generalize cache.map keyM = b6 at *
 try generalize a1.map acM = b1 at *
 try generalize a1.length = d1 at *
 try generalize a3.map acM = b3 at *
 try generalize a3.length = d3 at *
 try generalize a5.map acM = b5 at *
 try generalize a5.length = d5 at *
 refine srq seat Tryz.func30 25 ?_
 refine go1 ?_
 refine yr (h) ?_
 refine go1 ?_
 refine c_draw [(0, false), (1, false), (2, false), (3, false), (4, true), (5, false), (6, false), (7, false), (8, false)] ?_
 refine go1 ?_
 refine ydv (cg) ?_
 refine go1 ?_
 refine gd_mem rfl (by intro R hR; refine sms hR ?_; refine And.intro (Nat.le_trans (Nat.mul_le_mul_left _ (Nat.le_of_eq (hb2 _ rfl))) (by decide)) ?_; exact hR) rfl ?_
 refine go1 ?_
 refine go0 ?_
 refine ⟨[_, _], [], [(18, 15)], rfl, rfl, ?_, rfl, ⟨?_, ?_, trivial⟩, ?_⟩
 ·exact ⟨Nat.le_refl 15, trivial⟩
 ·exact .inr ⟨_, rfl, lm⟩
 ·exact rv
 ·exact mm
abbrev tpZ : MV := .st [.int .i64 0, .int .i64 0, keyZ, keyZ, keyZ]
abbrev ndZ : MV := .st [stZ, tpZ, .nils, .nils, .bool false, blkZ, .nils]
theorem rnew_n (c : CfS) (acs : List AcS) (s : StS) (e : Int) (he : e ≠ 0) (h : SemR Tryz.prog G 81 [cfM c, .sl acs.length (acs.map acM)] [] 0 (.tup [stM s, .int .i64 e]) [] 0) : SemR Tryz.prog G 30 [cfM c, .sl acs.length (acs.map acM)] [] 0 (.tup [ndZ, .int .i64 e]) [] 0 := by
 unfold stM at h
 refine srq seat Tryz.func30 25 ?_
 refine go1 ?_
 refine yr (h) ?_
 refine go1 ?_
 refine c_cond rfl (fun h => ?_) (fun h => ?_)
 ·refine go1 ?_
  refine go0 ?_
  exact en [_, _]
 ·exact absurd (by simp at h; omega) he
theorem sameBlocks0 : SemC Tryz.prog G 42 [.sl 0 [], .sl 0 []] (.bool true) := by
 refine scq seat Tryz.func42 27 ?_
 refine go1 ?_
 refine c_loop Unit (fun _ => [(13, .int .i64 0), (12, .int .i64 0), (0, .sl 0 []), (1, .sl 0 [])]) (fun _ => []) 0 (fun _ => True) (fun _ => 0) () trivial (vm [] []) ?_
 intro _ _
 try dsimp only
 refine go1 ?_
 refine go0 ?_
 rfl
theorem rdig0_len : (rdigS []).length = 32 := by
 unfold rdigS
 exact rootS_len _
theorem tip0_ok {a b c : List UInt8} (ha : a.length = 32) (hb : b.length = 32) (hc : c.length = 32) : TipOk ⟨0, 0, a, b, c⟩ := ⟨by simp [I64], by simp [I64], ha, hb, hc⟩
theorem genT0_ok (l : LgS) : TipOk (genT l) := by
 unfold genT
 exact tip0_ok (shaS_len _) (digS_len _) rdig0_len
abbrev stU (s : StS) : MV := .st [cfM s.cfg, .st [.st [.sl s.app.com.acs.length (s.app.com.acs.map acM), .int .u64 s.app.com.col], .st [.sl s.app.chk.acs.length (s.app.chk.acs.map acM), .int .u64 s.app.chk.col], .st [.sl s.app.nxt.acs.length (s.app.nxt.acs.map acM), .int .u64 s.app.nxt.col], .bool s.app.opn, .int .u64 s.app.price], .int .i64 s.height, .int .i64 s.time, .int .i64 s.arr, .sl s.ents.length (s.ents.map entM), .sl s.cache.length (s.cache.map keyM)]
theorem same0_m (s : StS) (t : TipS) (ht : TipOk t) (ha : SmApp s.app) (hl : s.ents.length < 1000000) (hc : s.cache.length ≤ 1000000) (hok : ∀ e ∈ s.ents, e.raw.length < 536870912 ∧ e.peers.length < 536870912) : SemC Tryz.prog G 31 [ndP (stM s) (tipM t), ndR (stM s) (tipM t)] (.bool true) := by
 have c1 := nstate_r (G := G) s (tipM t) ha hl hc hok
 have c2 := sameState_m (G := G) s ha (by omega) (fun e h => by have := hok e h; omega) (by omega)
 have c3 := ntip_m (G := G) s t
 have c4 := nblocks_m (G := G) s t
 have c5 := nlog_m (G := G) s t
 have c6 := fun i hi => nsent_m (G := G) s t i hi
 have c7 := sameBytes_m (G := G) []
 have c8 := sameKeys_m (G := G) [] (by simp)
 have c9 := sameBlocks0 (G := G)
 have q1 := SomF.mk (show eqM (tipM t) (tipM t) = some true by rw [eq_tip ht ht]; simp)
 have s1 := SideF.mk (tipSide t t)
 clear ha hok hl hc ht
 have e1 : stM s = stU s := rfl
 rw [e1] at c1 c2 c3 c4 c5
 simp only [e1] at c6 ⊢
 clear e1
 refine scq seat Tryz.func31 47 ?_
 refine go1 ?_
 refine c_loop Int (fun x => [(5, .int .i64 x), (0, ndP (stU s) (tipM t)), (3, .ptr 0 259 0 0 [])]) (fun _ => [(0, ⟨52, 259, false, 0, [ndR (stU s) (tipM t)]⟩)]) 1 (fun x => 1 ≤ x ∧ x ≤ 16) (fun x => (16 - x).toNat) 1 (by omega) (vm [(0, _)] []) ?_
 intro k hk
 try dsimp only
 refine go1 ?_
 refine c_cond rfl (fun h => ?_) (fun h => ?_)
 ·have hk' : k ≤ 15 := by have := of_decide_eq_true h; omega
  have cc := c6 k (by omega)
  have hel := SomF.mk (show idxL (List.replicate 15 MV.nils) 15 (k - 1) = some .nils by
   obtain ⟨j, hj⟩ : ∃ j : Nat, k - 1 = j := ⟨(k - 1).toNat, by omega⟩
   rw [hj]
   exact index_at (by omega) (by rw [List.getElem?_replicate, if_pos (by omega)]))
  refine go1 ?_
  refine c_draw [(0, false), (1, false), (2, true), (3, false), (4, false), (5, false), (6, false), (7, false), (8, false), (9, true), (10, false)] ?_
  refine go1 ?_
  refine ydv (cc) ?_
  refine go1 ?_
  refine ydv (c8) ?_
  refine go1 ?_
  exact ⟨k + 1, (by omega), (by dsimp only; omega), (vm [(0, _)] [])⟩
 ·refine go1 ?_
  refine c_draw [(0, false), (1, true), (2, false), (3, false), (4, true), (5, false), (6, false), (7, true), (8, false), (9, false), (10, false), (11, false), (12, false), (13, false), (14, true), (15, false), (16, false), (17, true), (18, false), (19, false), (20, false), (21, true), (22, false), (23, false), (24, true), (25, false), (26, false)] ?_
  refine go1 ?_
  refine ydr (c1) ?_
  refine go1 ?_
  refine ydv (c2) ?_
  refine go1 ?_
  refine ydv (c3) ?_
  refine go1 ?_
  refine ydv (c4) ?_
  refine go1 ?_
  refine ydv (c9) ?_
  refine go1 ?_
  refine ydv (c5) ?_
  refine go1 ?_
  refine ydv (c7) ?_
  refine go1 ?_
  refine go0 ?_
  rfl
end
section
abbrev Bs := List (Nat × Nat)
section
variable (n0 : Nat) (σ : Bs) (κ : Nat → Option Nat) (M : VM)
def okTo (d c : Nat) : Bool := match sigA n0 σ d with
 | some x => Nat.beq x c
 | none => false
mutual
def mkV : MV → Option (MV × Bs)
 | .ms c es off n => match κ c with
  | some d => bif okTo n0 σ d c then some (.ms d es off n, []) else none
  | none => match VM.get M c with
   | some b => bif b.row && Nat.beq b.es es && Nat.ble (off + n) b.l.length then some (.sl n (cutL b.l off (off + n)), [(c, b.l.length)]) else none
   | none => none
 | .ptr c es k fo path => match κ c with
  | some d => bif okTo n0 σ d c then some (.ptr d es k fo path, []) else none
  | none => match VM.get M c with
   | some b => match nthM b.l k with
    | some x => bif Nat.beq b.es es && x.idFree then some (.ep x fo path, [(c, b.l.length)]) else none
    | none => none
   | none => none
 | .mp c => match κ c with
  | some d => bif okTo n0 σ d c then some (.mp d, []) else none
  | none => none
 | .st l => bif MV.idFrees l then some (.st l, []) else match mkVs l with
  | some (r, b) => some (.st r, b)
  | none => none
 | .fn f l => bif MV.idFrees l then some (.fn f l, []) else match mkVs l with
  | some (r, b) => some (.fn f r, b)
  | none => none
 | .ifc t x => bif x.idFree then some (.ifc t x, []) else match mkV x with
  | some (y, b) => some (.ifc t y, b)
  | none => none
 | .tup _ => none
 | .mpv .. => none
 | .undef => none
 | m => some (m, [])
def mkVs : List MV → Option (List MV × Bs)
 | [] => some ([], [])
 | m :: l => match mkV m with
  | some (x, b) => match mkVs l with
   | some (r, c) => some (x :: r, b ++ c)
   | none => none
  | none => none
end
def mkC : Bs → Option (List (Nat × Nat × MB × List MV) × Bs)
 | [] => some ([], [])
 | (d, c) :: cs => match VM.get M c with
  | some b => match mkC cs with
   | some (r, bs) => bif okTo n0 σ d c then (bif b.row || isMpv b.l then some ((d, c, b, b.l) :: r, bs) else match mkVs n0 σ κ M b.l with
    | some (l, b2) => some ((d, c, b, l) :: r, b2 ++ bs)
    | none => none) else none
   | none => none
  | none => none
def mkB (up : Bool) (bs : Bs) : List (Nat × Nat × MB × List MV) → VM
 | [] => []
 | (d, c, b, l) :: r => (d, { b with l := l, pe := Nat.max b.pe (mxB bs c), row := b.row || (up && Nat.ble n0 d && !isMpv b.l && MV.idFrees l) }) :: mkB up bs r
def mkAll (up : Bool) (cs : Bs) (vs : List MV) : Option (List MV × VM × Bs) := match mkVs n0 σ κ M vs with
 | some (rv, b1) => match mkC n0 σ κ M cs with
  | some (r, b2) => some (rv, mkB n0 up (b1 ++ b2) r, b1 ++ b2)
  | none => none
 | none => none
end
section
variable {n0 n' : Nat} {σ : Bs} {κ : Nat → Option Nat} {M M' : VM} {bs : Bs}
def GoodB (M : VM) (bs : Bs) : Prop := ∀ c k, (c, k) ∈ bs → ∃ b, VM.get M c = some b ∧ k = b.l.length
theorem fzb_of : ∀ {bs : Bs}, GoodB M bs → ∀ {c k : Nat}, (c, k) ∈ bs → ∃ b, VM.get M c = some b ∧ fzb M bs c = some (b, b.l.length)
 | (x, j) :: l, hg, c, k, h => by
  obtain ⟨b, h1, h2⟩ := hg c k h
  refine ⟨b, h1, ?_⟩
  show (bif Nat.beq x c then (match VM.get M c with | some b => some (b, j) | none => none) else fzb M l c) = _
  cases hx : Nat.beq x c with
  | true =>
   have := Nat.eq_of_beq_eq_true hx
   subst this
   obtain ⟨b', h3, h4⟩ := hg x j (by simp)
   rw [h1] at h3
   injection h3 with h3
   subst h3
   simp only [cond_true, h1, h4]
  | false =>
   rcases List.mem_cons.1 h with e | h
   ·injection e with e1 e2
    subst e1
    rw [Nat.beq_refl] at hx; cases hx
   ·obtain ⟨b', h3, h4⟩ := fzb_of (bs := l) (fun c k h => hg c k (List.mem_cons_of_mem _ h)) h
    rw [h1] at h3
    injection h3 with h3
    subst h3
    exact h4
theorem okB_of : ∀ {bs : Bs}, GoodB M bs → okB M bs
 | [], _ => trivial
 | (c, k) :: l, h => by
  refine ⟨?_, okB_of fun c k hc => h c k (List.mem_cons_of_mem _ hc)⟩
  obtain ⟨b, h1, h2⟩ := h c k (by simp)
  rw [h1]
  exact Nat.le_of_eq h2
theorem okTo_out {d c : Nat} (h : okTo n0 σ d c = true) : sigA n0 σ d = some c := by
 unfold okTo at h
 split at h
 ·rename_i x hx
  rw [hx, Nat.eq_of_beq_eq_true h]
 ·cases h
theorem bif_some {α : Type} {p : Bool} {x : Option α} {y : α} (h : (bif p then x else none) = some y) : p = true ∧ x = some y := by cases p <;> first | exact ⟨rfl, h⟩ | cases h
mutual
theorem mkV_good : ∀ {v v' : MV} {b : Bs}, mkV n0 σ κ M v = some (v', b) → GoodB M b
 | .ms c es off n, v', b, h => by
  unfold mkV at h
  split at h
  ·obtain ⟨_, h⟩ := bif_some h
   injection h with h; injection h with h1 h2; subst h2; exact fun _ _ h => nomatch h
  ·split at h
   ·rename_i b0 hb
    obtain ⟨_, h⟩ := bif_some h
    injection h with h; injection h with h1 h2; subst h2
    intro c' k hc
    rw [List.mem_singleton] at hc
    injection hc with e1 e2
    subst e1
    exact ⟨b0, hb, e2⟩
   ·cases h
 | .ptr c es k fo path, v', b, h => by
  unfold mkV at h
  split at h
  ·obtain ⟨_, h⟩ := bif_some h
   injection h with h; injection h with h1 h2; subst h2; exact fun _ _ h => nomatch h
  ·split at h
   ·rename_i b0 hb
    split at h
    ·obtain ⟨_, h⟩ := bif_some h
     injection h with h; injection h with h1 h2; subst h2
     intro c' k hc
     rw [List.mem_singleton] at hc
     injection hc with e1 e2
     subst e1
     exact ⟨b0, hb, e2⟩
    ·cases h
   ·cases h
 | .mp c, v', b, h => by
  unfold mkV at h
  split at h
  ·obtain ⟨_, h⟩ := bif_some h
   injection h with h; injection h with h1 h2; subst h2; exact fun _ _ h => nomatch h
  ·cases h
 | .st l, v', b, h => by
  unfold mkV at h
  cases hf : MV.idFrees l with
  | true => rw [hf] at h; injection h with h; injection h with h1 h2; subst h2; exact fun _ _ h => nomatch h
  | false =>
   rw [hf] at h
   dsimp only [cond_false] at h
   split at h
   ·rename_i r b1 hr
    injection h with h; injection h with h1 h2; subst h2; exact mkVs_good hr
   ·cases h
 | .fn f l, v', b, h => by
  unfold mkV at h
  cases hf : MV.idFrees l with
  | true => rw [hf] at h; injection h with h; injection h with h1 h2; subst h2; exact fun _ _ h => nomatch h
  | false =>
   rw [hf] at h
   dsimp only [cond_false] at h
   split at h
   ·rename_i r b1 hr
    injection h with h; injection h with h1 h2; subst h2; exact mkVs_good hr
   ·cases h
 | .ifc t x, v', b, h => by
  unfold mkV at h
  cases hf : x.idFree with
  | true => rw [hf] at h; injection h with h; injection h with h1 h2; subst h2; exact fun _ _ h => nomatch h
  | false =>
   rw [hf] at h
   dsimp only [cond_false] at h
   split at h
   ·rename_i r b1 hr
    injection h with h; injection h with h1 h2; subst h2; exact mkV_good hr
   ·cases h
 | .tup _, v', b, h => by cases h
 | .mpv .., v', b, h => by cases h
 | .undef, v', b, h => by cases h
 | .int .., v', b, h => by injection h with h; injection h with h1 h2; subst h2; exact fun _ _ h => nomatch h
 | .bool .., v', b, h => by injection h with h; injection h with h1 h2; subst h2; exact fun _ _ h => nomatch h
 | .str .., v', b, h => by injection h with h; injection h with h1 h2; subst h2; exact fun _ _ h => nomatch h
 | .nilp, v', b, h => by injection h with h; injection h with h1 h2; subst h2; exact fun _ _ h => nomatch h
 | .gp .., v', b, h => by injection h with h; injection h with h1 h2; subst h2; exact fun _ _ h => nomatch h
 | .ep .., v', b, h => by injection h with h; injection h with h1 h2; subst h2; exact fun _ _ h => nomatch h
 | .sl .., v', b, h => by injection h with h; injection h with h1 h2; subst h2; exact fun _ _ h => nomatch h
 | .nils, v', b, h => by injection h with h; injection h with h1 h2; subst h2; exact fun _ _ h => nomatch h
 | .nilf, v', b, h => by injection h with h; injection h with h1 h2; subst h2; exact fun _ _ h => nomatch h
 | .nili, v', b, h => by injection h with h; injection h with h1 h2; subst h2; exact fun _ _ h => nomatch h
 | .arr .., v', b, h => by injection h with h; injection h with h1 h2; subst h2; exact fun _ _ h => nomatch h
theorem mkVs_good : ∀ {l r : List MV} {b : Bs}, mkVs n0 σ κ M l = some (r, b) → GoodB M b
 | [], r, b, h => by injection h with h; injection h with h1 h2; subst h2; exact fun _ _ h => nomatch h
 | m :: l, r, b, h => by
  unfold mkVs at h
  split at h
  ·rename_i x b1 hx
   split at h
   ·rename_i r1 b2 hr
    injection h with h; injection h with h1 h2; subst h2
    intro c k hc
    exact (List.mem_append.1 hc).elim (mkV_good hx c k) (mkVs_good hr c k)
   ·cases h
  ·cases h
end
mutual
theorem mkV_ok (hg : GoodB M bs) : ∀ {v v' : MV} {b : Bs}, mkV n0 σ κ M v = some (v', b) → (∀ x ∈ b, x ∈ bs) → relV (sigA n0 σ) (fzb M bs) v' v
 | .ms c es off n, v', b, h, hs => by
  unfold mkV at h
  split at h
  ·obtain ⟨h0, h⟩ := bif_some h
   injection h with h; injection h with h1 h2; subst h1
   exact .inr ⟨c, okTo_out h0, rfl⟩
  ·split at h
   ·rename_i b0 hb
    obtain ⟨h0, h⟩ := bif_some h
    injection h with h; injection h with h1 h2; subst h1; subst h2
    simp only [Bool.and_eq_true, Nat.ble_eq] at h0
    obtain ⟨⟨q1, q2⟩, q3⟩ := h0
    obtain ⟨b', e1, e2⟩ := fzb_of hg (hs (c, b0.l.length) (by simp))
    rw [hb] at e1
    injection e1 with e1
    subst e1
    refine .inr ?_
    show (match fzb M bs c with | some (b, k) => _ | none => False : Prop)
    rw [e2]
    exact ⟨q1, Nat.eq_of_beq_eq_true q2, rfl, q3, rfl⟩
   ·cases h
 | .ptr c es k fo path, v', b, h, hs => by
  unfold mkV at h
  split at h
  ·obtain ⟨h0, h⟩ := bif_some h
   injection h with h; injection h with h1 h2; subst h1
   exact ⟨c, okTo_out h0, rfl⟩
  ·split at h
   ·rename_i b0 hb
    split at h
    ·rename_i x hx
     obtain ⟨h0, h⟩ := bif_some h
     injection h with h; injection h with h1 h2; subst h1; subst h2
     simp only [Bool.and_eq_true] at h0
     obtain ⟨b', e1, e2⟩ := fzb_of hg (hs (c, b0.l.length) (by simp))
     rw [hb] at e1
     injection e1 with e1
     subst e1
     refine .inr ?_
     show (match fzb M bs c with | some (b, kk) => _ | none => False : Prop)
     rw [e2]
     have hk : k < b0.l.length := by rw [nthM_eq] at hx; exact (List.getElem?_eq_some_iff.1 hx).1
     exact ⟨Nat.eq_of_beq_eq_true h0.1, hk, rfl, rfl, hx, h0.2⟩
    ·cases h
   ·cases h
 | .mp c, v', b, h, hs => by
  unfold mkV at h
  split at h
  ·obtain ⟨h0, h⟩ := bif_some h
   injection h with h; injection h with h1 h2; subst h1
   exact ⟨c, okTo_out h0, rfl⟩
  ·cases h
 | .st l, v', b, h, hs => by
  unfold mkV at h
  cases hf : MV.idFrees l with
  | true => rw [hf] at h; injection h with h; injection h with h1 h2; subst h1; exact .inl ⟨rfl, hf⟩
  | false =>
   rw [hf] at h
   dsimp only [cond_false] at h
   split at h
   ·rename_i r b1 hr
    injection h with h; injection h with h1 h2; subst h1; subst h2; exact .inr ⟨l, rfl, mkVs_ok hg hr hs⟩
   ·cases h
 | .fn f l, v', b, h, hs => by
  unfold mkV at h
  cases hf : MV.idFrees l with
  | true => rw [hf] at h; injection h with h; injection h with h1 h2; subst h1; exact .inl ⟨rfl, hf⟩
  | false =>
   rw [hf] at h
   dsimp only [cond_false] at h
   split at h
   ·rename_i r b1 hr
    injection h with h; injection h with h1 h2; subst h1; subst h2; exact .inr ⟨l, rfl, mkVs_ok hg hr hs⟩
   ·cases h
 | .ifc t x, v', b, h, hs => by
  unfold mkV at h
  cases hf : x.idFree with
  | true => rw [hf] at h; injection h with h; injection h with h1 h2; subst h1; exact .inl ⟨rfl, hf⟩
  | false =>
   rw [hf] at h
   dsimp only [cond_false] at h
   split at h
   ·rename_i r b1 hr
    injection h with h; injection h with h1 h2; subst h1; subst h2; exact .inr ⟨x, rfl, mkV_ok hg hr hs⟩
   ·cases h
 | .tup _, v', b, h, hs => by cases h
 | .mpv .., v', b, h, hs => by cases h
 | .undef, v', b, h, hs => by cases h
 | .int .., v', b, h, hs => by injection h with h; injection h with h1 h2; subst h1; exact ⟨rfl, rfl⟩
 | .bool .., v', b, h, hs => by injection h with h; injection h with h1 h2; subst h1; exact ⟨rfl, rfl⟩
 | .str .., v', b, h, hs => by injection h with h; injection h with h1 h2; subst h1; exact ⟨rfl, rfl⟩
 | .nilp, v', b, h, hs => by injection h with h; injection h with h1 h2; subst h1; exact ⟨rfl, rfl⟩
 | .gp .., v', b, h, hs => by injection h with h; injection h with h1 h2; subst h1; exact ⟨rfl, rfl⟩
 | .ep .., v', b, h, hs => by injection h with h; injection h with h1 h2; subst h1; exact .inl rfl
 | .sl .., v', b, h, hs => by injection h with h; injection h with h1 h2; subst h1; exact .inl rfl
 | .nils, v', b, h, hs => by injection h with h; injection h with h1 h2; subst h1; exact ⟨rfl, rfl⟩
 | .nilf, v', b, h, hs => by injection h with h; injection h with h1 h2; subst h1; exact ⟨rfl, rfl⟩
 | .nili, v', b, h, hs => by injection h with h; injection h with h1 h2; subst h1; exact ⟨rfl, rfl⟩
 | .arr .., v', b, h, hs => by injection h with h; injection h with h1 h2; subst h1; exact ⟨rfl, rfl⟩
theorem mkVs_ok (hg : GoodB M bs) : ∀ {l r : List MV} {b : Bs}, mkVs n0 σ κ M l = some (r, b) → (∀ x ∈ b, x ∈ bs) → relV.relVs (sigA n0 σ) (fzb M bs) r l
 | [], r, b, h, hs => by injection h with h; injection h with h1 h2; subst h1; exact trivial
 | m :: l, r, b, h, hs => by
  unfold mkVs at h
  split at h
  ·rename_i x b1 hx
   split at h
   ·rename_i r1 b2 hr
    injection h with h; injection h with h1 h2; subst h1; subst h2
    exact ⟨mkV_ok hg hx fun y hy => hs y (List.mem_append_left _ hy), mkVs_ok hg hr fun y hy => hs y (List.mem_append_right _ hy)⟩
   ·cases h
  ·cases h
end
theorem mkC_ok {up : Bool} : ∀ {cs : Bs} {r : List (Nat × Nat × MB × List MV)} {b : Bs}, mkC n0 σ κ M cs = some (r, b) → GoodB M b ∧ ∀ {bs : Bs}, GoodB M bs → (∀ x ∈ b, x ∈ bs) → mM (sigA n0 σ) (fzb M bs) (mkB n0 up bs r) (VM.bump M bs)
 | [], r, b, h => by injection h with h; injection h with h1 h2; subst h1; subst h2; exact ⟨fun _ _ h => (nomatch h), fun _ _ => trivial⟩
 | (d, c) :: cs, r, b, h => by
  unfold mkC at h
  split at h
  ·rename_i b0 hb
   split at h
   ·rename_i r1 b1 hr
    obtain ⟨h0, h⟩ := bif_some h
    have hd := okTo_out h0
    obtain ⟨k1, k2⟩ := mkC_ok (up := up) hr
    have hrow : ∀ (l : List MV) (p : Nat), RowR { b0 with l := l, pe := p, row := b0.row || (up && Nat.ble n0 d && !isMpv b0.l && MV.idFrees l) } { b0 with pe := p } := fun l p => by
     cases hr0 : b0.row with
     | true => exact .inl (by simp [hr0])
     | false =>
      cases hu : (up && Nat.ble n0 d && !isMpv b0.l && MV.idFrees l) with
      | false => exact .inl (by simp [hr0, hu])
      | true =>
       simp only [Bool.and_eq_true] at hu
       exact .inr (.inr ⟨rfl, by simp [hu], hu.2⟩)
    have hgb : ∀ bs : Bs, VM.get (VM.bump M bs) c = some { b0 with pe := Nat.max b0.pe (mxB bs c) } := fun bs => by
     rw [VM.get_bump, bumpF_get, hb]; rfl
    cases hx : (b0.row || isMpv b0.l) with
    | true =>
     rw [hx] at h
     injection h with h; injection h with h1 h2; subst h1; subst h2
     refine ⟨k1, fun {bs} hg hs => ⟨.inr ⟨c, _, hd, hgb bs, rfl, rfl, hrow _ _, .inl rfl, .inl ⟨rfl, hx⟩⟩, k2 hg hs⟩⟩
    | false =>
     rw [hx] at h
     dsimp only [cond_false] at h
     split at h
     ·rename_i l2 b2 hl
      injection h with h; injection h with h1 h2; subst h1; subst h2
      refine ⟨fun c k hc => (List.mem_append.1 hc).elim (mkVs_good hl c k) (k1 c k), fun {bs} hg hs => ⟨.inr ⟨c, _, hd, hgb bs, rfl, rfl, hrow _ _, .inl rfl, .inr ?_⟩, k2 hg fun x hx => hs x (List.mem_append_right _ hx)⟩⟩
      exact mkVs_ok hg hl fun x hx => hs x (List.mem_append_left _ hx)
     ·cases h
   ·cases h
  ·cases h
theorem mkAll_ok {up : Bool} {cs : Bs} {vs rv : List MV} (h : mkAll n0 σ κ M up cs vs = some (rv, M', bs)) (h1 : okSg n0 n' σ = true) (h2 : M'.all (fun x => Nat.blt x.1 n') = true) : LMatch n0 rv M' n' vs M σ bs := by
 unfold mkAll at h
 split at h
 ·rename_i r1 b1 hr
  split at h
  ·rename_i r2 b2 hc
   injection h with h; injection h with e1 h; injection h with e2 e3
   subst e1; subst e2; subst e3
   obtain ⟨k1, k2⟩ := mkC_ok (up := up) hc
   have hg : GoodB M (b1 ++ b2) := fun c k hc => (List.mem_append.1 hc).elim (mkVs_good hr c k) (k1 c k)
   exact ⟨h1, okB_of hg, h2, mkVs_ok hg hr fun x hx => List.mem_append_left _ hx, k2 hg fun x hx => List.mem_append_right _ hx⟩
  ·cases h
 ·cases h
end
mutual
def msV : MV → List Nat
 | .ms c .. => [c]
 | .st l => bif MV.idFrees l then [] else msVs l
 | .fn _ l => bif MV.idFrees l then [] else msVs l
 | .ifc _ v => bif v.idFree then [] else msV v
 | _ => []
def msVs : List MV → List Nat
 | [] => []
 | m :: l => msV m ++ msVs l
end
def looseR (n : Nat) (M : VM) : List Nat → List Nat → List Nat
 | [], s => s
 | c :: t, s => bif Nat.blt c n || s.any (Nat.beq c) then looseR n M t s else match VM.get M c with
  | some b => bif b.row || isMpv b.l then looseR n M t s else looseR n M t (c :: s)
  | none => looseR n M t s
def oldL (n : Nat) : VM → List MV
 | [] => []
 | (c, b) :: M => bif Nat.blt c n && !(b.row || isMpv b.l) then b.l ++ oldL n M else oldL n M
def oldS (n : Nat) : VM → Bs
 | [] => []
 | (c, _) :: M => bif Nat.blt c n then (c, c) :: oldS n M else oldS n M
def numbS : Nat → List Nat → Bs
 | _, [] => []
 | n, c :: l => (n, c) :: numbS (n + 1) l
def rsig : Bs → Nat → Option Nat
 | [], _ => none
 | (d, c) :: l, x => bif Nat.beq c x then some d else rsig l x
def tight (n : Nat) (r : MV) (M : VM) (k : Option Nat) : Option (MV × VM × Nat) := match looseR n M (msVs (comps r) ++ msVs (oldL n M)) [] with
 | [] => some (r, M, n)
 | K => match numbS n (match k with | some c => bif K.any (Nat.beq c) then K else c :: K | none => K) with
  | σ => match mkAll n σ (fun c => bif Nat.blt c n then some c else rsig σ c) M true (oldS n M ++ σ) (comps r) with
   | some (rv, M2, _) => bif okSg n (n + σ.length) σ && M2.all (fun x => Nat.blt x.1 (n + σ.length)) && okCo r then some (tupM rv, M2, n + σ.length) else none
   | none => none
theorem tight_ok {Pg : Program} {G : GS} {f : FuncId} {args : List MV} {M0 M1 M2 : VM} {n n1 n2 : Nat} {r r2 : MV} {k : Option Nat} (h : SemR Pg G f args M0 n r M1 n1) (ht : tight n r M1 k = some (r2, M2, n2)) : ∃ n3, SemR Pg G f args M0 n r2 M2 n3 := by
 unfold tight at ht
 split at ht
 ·injection ht with ht; injection ht with e1 ht; injection ht with e2 e3
  subst e1; subst e2
  exact ⟨n1, h⟩
 ·dsimp only at ht
  generalize numbS n _ = σ at ht
  split at ht
  ·rename_i rv M3 bs hm
   obtain ⟨h0, hx⟩ := bif_some ht
   simp only [Bool.and_eq_true] at h0
   obtain ⟨⟨q1, q2⟩, q3⟩ := h0
   injection hx with hx; injection hx with e1 hx; injection hx with e2 e3
   subst e1; subst e2
   exact ⟨_, semR_match h (mkAll_ok hm q1 q2) q3⟩
  ·cases ht
end
end Go.Proofs.YtdjcdmnemddjlaaGreat
