/- AppBegins: the row and the card: whatever the arguments, the law answers true and its arguments read as before. Conditions: none but what the row lists (the laid tables). -/
import Derived.Test.YtohikcplmbkmeaaGreatDoorW06
set_option maxRecDepth 20000
set_option maxHeartbeats 16000000
set_option linter.unusedVariables false
set_option linter.unusedSimpArgs false
namespace Go.Proofs.YtohikcplmbkmeaaGreatDoor
open Go.RowKit
section
open Go.ChangeShapes Go.WideShapes Go.ChangeAt Go.RowKit
def fRaw (m : MV) : Prop := ∃ l, m = .sl l.length l ∧ (∀ x ∈ l, ∃ n, x = .int .u8 n ∧ (Lit.int .u8 n).wf = true) ∧ l.length ≤ 140737488355328
theorem opn_rawsF : Opn Tryz.prog 42 1 fun m => ∃ l, m = .sl l.length l ∧ (∀ x ∈ l, fRaw x) ∧ l.length ≤ 140737488355328 := Opn.slice Tryz.underlying42 (by kernel_rfl) (Nat.le_of_ble_eq_true (by kernel_rfl)) (by omega) opn_bytes
theorem raws_full {m : MV} (h : ∃ l, m = .sl l.length l ∧ (∀ x ∈ l, fRaw x) ∧ l.length ≤ 140737488355328) : ∃ rs : List (List UInt8), m = rawsM rs ∧ rs.length ≤ 140737488355328 ∧ ∀ r ∈ rs, r.length ≤ 140737488355328 := by
 obtain ⟨l, rfl, h, hl⟩ := h
 obtain ⟨rs, rfl, hr⟩ := lift_list (f := rawM) (R := fun r => r.length ≤ 140737488355328) l fun x hx => by
  obtain ⟨r, e, hr⟩ := bytes_lift (h x hx)
  exact ⟨r, e, hr⟩
 rw [List.length_map] at hl
 exact ⟨rs, by unfold rawsM; rw [List.length_map], hl, hr⟩
def fStr (m : MV) : Prop := ∃ s, m = .str s ∧ s.length ≤ 140737488355328
def fU64 (m : MV) : Prop := ∃ n, m = .int .u64 n ∧ (Lit.int .u64 n).wf = true
def qsAc : List (Nat × (MV → Prop)) := [(1, fStr), (1, fU64), (1, fU64)]
def fAc (m : MV) : Prop := ∃ l, m = .st l ∧ AllQ qsAc l
theorem opnL_cons {P : Program} {o n : Nat} {Q : MV → Prop} {f : Field} {fs : List Field} {qs : List (Nat × (MV → Prop))} (h1 : f.offset = o) (h2 : Opn P f.type n Q) (h3 : OpnL P (o + n) fs qs) : OpnL P o (f :: fs) ((n, Q) :: qs) := ⟨h1, h2, h3⟩
theorem opn_ac : Opn Tryz.prog 91 3 fAc := by
 refine Opn.struct (P := Tryz.prog) (qs := qsAc) Tryz.underlying91 (by kernel_rfl) ?_
 unfold qsAc
 refine opnL_cons rfl (Opn.str Tryz.underlying9 (by kernel_rfl)) ?_
 refine opnL_cons rfl (Opn.int Tryz.underlying23 (by kernel_rfl)) ?_
 refine opnL_cons rfl (Opn.int Tryz.underlying23 (by kernel_rfl)) ?_
 exact trivial
theorem opn_accs : Opn Tryz.prog 22 1 fun m => ∃ l, m = .sl l.length l ∧ (∀ x ∈ l, fAc x) ∧ l.length ≤ 140737488355328 := Opn.slice Tryz.underlying22 (by kernel_rfl) (Nat.le_of_ble_eq_true (by kernel_rfl)) (by omega) opn_ac
theorem u64_lift {m : MV} (h : fU64 m) : ∃ n : Nat, m = .int .u64 n ∧ U64 n := by
 obtain ⟨n, rfl, h⟩ := h
 simp [Lit.wf, IntKind.min, IntKind.max, IntKind.signed, IntKind.bits] at h
 exact ⟨n.toNat, by rw [Int.toNat_of_nonneg (by omega)], by unfold U64; omega⟩
theorem ac_lift {m : MV} (h : fAc m) : ∃ a : AcS, m = acM a ∧ a.name.length ≤ 140737488355328 ∧ U64 a.bal ∧ U64 a.seq := by
 obtain ⟨l, rfl, h⟩ := h
 unfold qsAc at h
 match l, h with
 | [x, y, z], h =>
  obtain ⟨⟨s, rfl, hs⟩, h2, h3, _⟩ := h
  obtain ⟨b, rfl, hb⟩ := u64_lift h2
  obtain ⟨q, rfl, hq⟩ := u64_lift h3
  exact ⟨⟨s, b, q⟩, rfl, hs, hb, hq⟩
theorem accs_full {m : MV} (h : ∃ l, m = .sl l.length l ∧ (∀ x ∈ l, fAc x) ∧ l.length ≤ 140737488355328) : ∃ rs : List AcS, m = .sl rs.length (rs.map acM) ∧ rs.length ≤ 140737488355328 ∧ ∀ a ∈ rs, a.name.length ≤ 140737488355328 ∧ U64 a.bal ∧ U64 a.seq := by
 obtain ⟨l, rfl, h, hl⟩ := h
 obtain ⟨rs, rfl, hr⟩ := lift_list (f := acM) (R := fun a => a.name.length ≤ 140737488355328 ∧ U64 a.bal ∧ U64 a.seq) l fun x hx => ac_lift (h x hx)
 rw [List.length_map] at hl
 exact ⟨rs, by rw [List.length_map], hl, hr⟩
theorem nat_of_u64 {n : Int} (h : (Lit.int .u64 n).wf = true) : ∃ k : Nat, n = k ∧ U64 k := by
 simp [Lit.wf, IntKind.min, IntKind.max, IntKind.signed, IntKind.bits] at h
 exact ⟨n.toNat, by rw [Int.toNat_of_nonneg (by omega)], by unfold U64; omega⟩
end
section
attribute [local irreducible] vOpsN vOpsG vOpsD vOpGD NextD vC SeqQ BlockQ
theorem code_neB (e : Nat) : ((e : Int) != (e : Int)) = false := by simp
theorem wrap_add (a : Int) (b : Nat) : IntKind.i64.wrap (IntKind.i64.wrap a + (b : Int)) = IntKind.i64.wrap (a + (b : Int)) := by
 rw [IntKind.wrap_i64, IntKind.wrap_i64, IntKind.wrap_i64]
 omega
theorem small_w (l : List AcS) (hl : l.length ≤ 140737488355328) : SemC Tryz.prog GU 11 [.sl l.length (l.map acM)] (.bool (decide (IntKind.i64.wrap (smallS l : Int) < 200))) := by
 have h0 : IntKind.i64.wrap ((l.length + ((l.take 0).map (·.name.length)).sum : Nat) : Int) = (l.length : Int) := by
  rw [List.take_zero, List.map_nil, List.sum_nil, Nat.add_zero, IntKind.wrap_i64]
  omega
 refine scq seat Tryz.func11 22 ?_
 refine go1 ?_
 refine c_loop Nat (fun k => [(10, .int .i64 k), (9, .int .i64 l.length), (8, .sl l.length (l.map acM)), (3, .int .i64 (IntKind.i64.wrap ((l.length + ((l.take k).map (·.name.length)).sum : Nat) : Int)))]) (fun _ => []) 0 (fun k => k ≤ l.length) (fun k => l.length - k) 0 (Nat.zero_le _) (by rw [h0]; exact (vm [] [])) ?_
 intro k hk
 try dsimp only
 refine go1 ?_
 ((with_reducible apply c_cond); (case he => exact rfl); (all_goals intro h))
 ·have hk' : k < l.length := by have := of_decide_eq_true h; omega
  have hel := acs_at hk'
  have hs1 : ((l.take (k + 1)).map (·.name.length)).sum = ((l.take k).map (·.name.length)).sum + l[k].name.length := by
   rw [List.take_succ_eq_append_getElem hk', List.map_append, List.sum_append]; simp
  generalize l[k] = a at *
  obtain ⟨nm, bal, seq⟩ := a
  dsimp only at hs1
  replace hel : idxL (l.map acM) l.length (k : Int) = some (.st [.str nm, .int .u64 bal, .int .u64 seq]) := hel
  have hel := SomF.mk hel
  have hw := EqF.mk ((wrap_add ((l.length + ((l.take k).map (·.name.length)).sum : Nat) : Int) nm.length).trans (show _ = IntKind.i64.wrap ((l.length + ((l.take (k + 1)).map (·.name.length)).sum : Nat) : Int) by rw [hs1]; congr 1; omega))
  generalize IntKind.i64.wrap ((l.length + ((l.take k).map (·.name.length)).sum : Nat) : Int) = s0 at *
  generalize hs2 : IntKind.i64.wrap ((l.length + ((l.take (k + 1)).map (·.name.length)).sum : Nat) : Int) = s2 at *
  refine go1 ?_
  rw [← hs2]
  exact ⟨k + 1, by show k + 1 ≤ l.length; omega, by show l.length - (k + 1) < l.length - k; omega, (by dsimp only; exact (vm [] []))⟩
 ·have hk' : k = l.length := by have := of_decide_eq_false h; omega
  subst hk'
  rw [List.take_length]
  refine go1 ?_
  refine go0 ?_
  rfl
theorem gen_big {G : GS} (l : List AcS) (hl : l.length ≤ 140737488355328) (hn : 256 < l.length) : SemR Tryz.prog G 47 [.sl l.length (l.map acM)] [] 0 (.tup [lgM lg0, .int .i64 3]) [] 0 := by
 unfold lgM lg0
 dsimp only
 refine srq seat Tryz.func47 46 ?_
 refine go1 ?_
 (iterate 4 ((all_goals (refine go1 ?_)); (all_goals (first | ((first | ((with_reducible apply n_grd); (case hf => exact ⟨rfl, rfl, rfl⟩)) | ((with_reducible apply c_cond); (case he => exact rfl))); (all_goals intro h); (all_goals (try simp only [bx] at h)); (all_goals (try (exfalso; omega)))) | skip))))
 all_goals (refine go0 ?_; (refine ⟨[_, _], [], [], rfl, rfl, trivial, rfl, ⟨?_, ?_, trivial⟩, ?_⟩; (exact .inr ⟨_, rfl, lm⟩); exact rv; exact mm))
theorem pgen_big {G : GS} (l : List AcS) (hl : l.length ≤ 140737488355328) (hn : 256 < l.length) : SemR Tryz.prog G 45 [.sl l.length (l.map acM)] [] 0 (.tup [lgM lg0, .int .i64 3]) [] 0 := by
 unfold lgM lg0
 dsimp only
 refine srq seat Tryz.func45 57 ?_
 refine go1 ?_
 (iterate 4 ((all_goals (refine go1 ?_)); (all_goals (first | ((first | ((with_reducible apply n_grd); (case hf => exact ⟨rfl, rfl, rfl⟩)) | ((with_reducible apply c_cond); (case he => exact rfl))); (all_goals intro h); (all_goals (try simp only [bx] at h)); (all_goals (try (exfalso; omega)))) | skip))))
 all_goals (refine go0 ?_; (refine ⟨[_, _], [], [], rfl, rfl, trivial, rfl, ⟨?_, ?_, trivial⟩, ?_⟩; (exact .inr ⟨_, rfl, lm⟩); exact rv; exact mm))
theorem init_big (l : List AcS) (p : Nat) (hl : l.length ≤ 140737488355328) (hn : 256 < l.length) : SemR Tryz.prog GU 16 [.sl l.length (l.map acM), .int .u64 p] [] 0 (.tup [appM app0, .int .i64 3]) [] 0 := by
 have c1 := gen_big (G := GU) l hl hn
 unfold lgM lg0 at c1
 dsimp only at c1
 refine srq seat Tryz.func16 21 ?_
 refine go1 ?_
 refine g_call2 rfl (fun _ h => h) rfl (c1) rfl lm ?_
 refine go1 ?_
 refine go0 ?_
 refine ⟨[_, _], [], [], rfl, rfl, trivial, rfl, ⟨?_, ?_, trivial⟩, ?_⟩
 ·exact rel_app0
 ·exact rv
 ·exact mm
theorem pinit_big (l : List AcS) (p : Nat) (hl : l.length ≤ 140737488355328) (hn : 256 < l.length) : SemR Tryz.prog GU 15 [.sl l.length (l.map acM), .int .u64 p] [] 0 (.tup [appM app0, .int .i64 3]) [] 0 := by
 have c1 := pgen_big (G := GU) l hl hn
 unfold lgM lg0 at c1
 dsimp only at c1
 refine srq seat Tryz.func15 22 ?_
 refine go1 ?_
 refine g_call2 rfl (fun _ h => h) rfl (c1) rfl lm ?_
 refine go1 ?_
 refine go0 ?_
 refine ⟨[_, _], [], [], rfl, rfl, trivial, rfl, ⟨?_, ?_, trivial⟩, ?_⟩
 ·exact rel_app0
 ·exact rv
 ·exact mm
def acsM (l : List AcS) : MV := .sl l.length (l.map acM)
structure BothI (p : Nat) (x : List AcS) : Prop where
 a : SemR Tryz.prog GU 15 [.sl x.length (x.map acM), .int .u64 p] [] 0 (.tup [appM (initS x p).1, .int .i64 (initS x p).2]) [] 0
 b : SemR Tryz.prog GU 16 [.sl x.length (x.map acM), .int .u64 p] [] 0 (.tup [appM (initS x p).1, .int .i64 (initS x p).2]) [] 0
 sm : SmApp (initS x p).1
theorem bothI_of {p : Nat} {x : List AcS} (hl : x.length ≤ 100000) (hs : ∀ a ∈ x, SmAc a) (hp : U64 p) : BothI p x := ⟨pinit_r x p hl hs hp, init_r x p hl hs hp, initS_sm hs hp⟩
theorem bothI_big {p : Nat} {x : List AcS} (hl : x.length ≤ 140737488355328) (hn : 256 < x.length) : BothI p x := by
 have e : initS x p = (app0, 3) := by unfold initS genS; rw [if_pos hn]; rfl
 exact ⟨by rw [e]; exact pinit_big x p hl hn, by rw [e]; exact init_big x p hl hn, by rw [e]; exact app0_sm⟩
theorem small_bound : ∀ (l : List AcS) (B : Nat), (∀ a ∈ l, a.name.length ≤ B) → (l.map (·.name.length)).sum ≤ l.length * B
 | [], _, _ => Nat.zero_le _
 | a :: r, B, h => by
  have := small_bound r B fun x hx => h x (List.mem_cons_of_mem _ hx)
  have := h a (List.mem_cons_self ..)
  rw [List.map_cons, List.sum_cons, List.length_cons, Nat.succ_mul]
  omega
theorem small_names : ∀ (l : List AcS) {a : AcS}, a ∈ l → a.name.length ≤ (l.map (·.name.length)).sum
 | b :: r, a, h => by
  rw [List.map_cons, List.sum_cons]
  rcases List.mem_cons.1 h with rfl | h
  ·omega
  ·have := small_names r h; omega
theorem begins_core (l : List AcS) (hl : l.length ≤ 140737488355328) (hn : ∀ a ∈ l, a.name.length ≤ 140737488355328 ∧ U64 a.bal ∧ U64 a.seq) (price : Nat) (hp : U64 price) (k : List Int) (hk : k.length ≤ 140737488355328) : SemC Tryz.prog GU 3 [.sl l.length (l.map acM), .int .u64 price, intsM k] (.bool true) := by
 have cl := long_m k hk
 by_cases h1 : 160 < k.length
 ·rw [decide_eq_true h1] at cl
  unfold intsM at *
  refine scq seat Tryz.func3 55 ?_
  refine go1 ?_
  refine g_call1 rfl (fun _ h => h) rfl (semR_of_semC (cl)) rfl [(2, 1)] mm lm ?_
  refine go1 ?_
  refine g_call2 rfl (fun _ h => h) rfl (semR_of_semC (known_m)) rfl lm ?_
  refine go1 ?_
  refine go0 ?_
  rfl
 rw [decide_eq_false h1] at cl
 have cs := small_w l hl
 by_cases h2 : IntKind.i64.wrap (smallS l : Int) < 200
 rotate_left
 ·rw [decide_eq_false h2] at cs
  unfold intsM at *
  refine scq seat Tryz.func3 55 ?_
  refine go1 ?_
  refine g_call1 rfl (fun _ h => h) rfl (semR_of_semC (cl)) rfl [(2, 1)] mm lm ?_
  refine go1 ?_
  refine g_call2 rfl (fun _ h => h) rfl (semR_of_semC (cs)) rfl lm ?_
  refine go1 ?_
  refine g_call2 rfl (fun _ h => h) rfl (semR_of_semC (known_m)) rfl lm ?_
  refine go1 ?_
  refine go0 ?_
  rfl
 rw [decide_eq_true h2] at cs
 have hb : BothI price l := by
  by_cases hbig : 256 < l.length
  ·exact bothI_big hl hbig
  ·have hle := small_bound l 140737488355328 fun a ha => (hn a ha).1
   have hmul : l.length * 140737488355328 ≤ 256 * 140737488355328 := Nat.mul_le_mul_right _ (by omega)
   have h3 : smallS l < 200 := by
    unfold smallS at *
    rw [IntKind.wrap_i64] at h2
    omega
   refine bothI_of (by omega) (fun a ha => ⟨?_, (hn a ha).2.1, (hn a ha).2.2⟩) hp
   have := small_names l ha
   unfold smallS at h3
   omega
 clear hn h2
 unfold intsM at *
 refine scq seat Tryz.func3 55 ?_
 refine go1 ?_
 refine g_call1 rfl (fun _ h => h) rfl (semR_of_semC (cl)) rfl [(2, 1)] mm lm ?_
 refine go1 ?_
 refine g_call2 rfl (fun _ h => h) rfl (semR_of_semC (cs)) rfl lm ?_
 refine go1 ?_
 refine g_callR1 rfl (fun _ h => h) rfl (from_r (G := GU) k) [] [] ⟨rfl, trivial, rfl, lm, mm⟩ rfl rfl ?_
 refine go1 ?_
 refine g_callN1 rfl (fun _ h => h) rfl (accounts_n (G := GU) k 0 (by omega)) rfl 9 [] ⟨rfl, trivial, rfl, lm, mm⟩ rfl ?_
 rintro _ K1 ⟨acs, ha, hsm, hK1, rfl⟩
 have hb2 : BothI price acs := bothI_of (by omega) hsm hp
 obtain ⟨D, hD⟩ : ∃ D, D = [l, acs] := ⟨_, rfl⟩
 have hDl : D.length = 2 := by rw [hD]; rfl
 have hDb : ∀ x ∈ D, BothI price x := by
  intro x hx
  rw [hD] at hx
  rcases List.mem_cons.1 hx with rfl | hx
  ·exact hb
  ·rw [List.mem_singleton.1 hx]; exact hb2
 have hDm : D.map acsM = [.sl l.length (l.map acM), .sl acs.length (acs.map acM)] := by rw [hD]; rfl
 clear hb hb2
 refine go1 ?_
 refine c_loop Nat (fun j => [(28, .int .i64 j), (27, .int .i64 D.length), (26, .sl D.length (D.map acsM)), (1, .int .u64 price)]) (fun _ => []) 0 (fun j => j ≤ D.length) (fun j => D.length - j) 0 (Nat.zero_le _) (by rw [hDl, hDm]; exact vm [] [(11, 2)]) ?_
 clear hD hDm hsm ha hK1 cl cs
 intro j hj
 try dsimp only
 refine go1 ?_
 ((with_reducible apply c_cond); (case he => exact rfl); (all_goals intro h))
 rotate_left
 ·have _h := h
  refine go1 ?_
  refine g_call2 rfl (fun _ h => h) rfl (semR_of_semC (known_m)) rfl lm ?_
  refine go1 ?_
  refine go0 ?_
  rfl
 have hj' : j < D.length := by have := of_decide_eq_true h; omega
 have hel : idxL (D.map acsM) D.length (j : Int) = some (acsM D[j]) := index_at hj' (by simp [hj'])
 have hbx := hDb _ (List.getElem_mem hj')
 generalize D[j] = x at *
 replace hel : idxL (D.map acsM) D.length (j : Int) = some (.sl x.length (x.map acM)) := hel
 have hel := SomF.mk hel
 have q1 := hbx.a
 have q2 := hbx.b
 have q3 := sameApp_m (G := GU) _ hbx.sm
 clear hbx hDb
 generalize initS x price = F at *
 obtain ⟨⟨⟨c1, d1⟩, ⟨c2, d2⟩, ⟨c3, d3⟩, cop, cpr⟩, e⟩ := F
 unfold appM lgM at *
 dsimp only at *
 refine go1 ?_
 refine g_call2 rfl (fun _ h => h) rfl (q1) rfl lm ?_
 refine go1 ?_
 refine g_call2 rfl (fun _ h => h) rfl (q2) rfl lm ?_
 refine go1 ?_
 rw [code_neB]
 refine go1 ?_
 refine g_call2 rfl (fun _ h => h) rfl (semR_of_semC (q3)) rfl lm ?_
 refine go1 ?_
 exact ⟨j + 1, by show j + 1 ≤ D.length; omega, by show D.length - (j + 1) < D.length - j; omega, (by dsimp only; exact (vm [] []))⟩
end
end Go.Proofs.YtohikcplmbkmeaaGreatDoor
namespace Go.Proofs.YtohikcplmbkmeaaGreatDoor.appBegins
open Go.Proofs.YtohikcplmbkmeaaGreatDoor
theorem r1 : (Rows.appBeginsRow.inPlace == Tryz.prog.inPlace 3) = true := by kernel_rfl
theorem r2 : (Rows.appBeginsRow.unfollowed == Tryz.prog.unfollowed 3) = true := by kernel_rfl
theorem r3 : (Rows.appBeginsRow.recurses == Tryz.prog.recurses 3) = true := by kernel_rfl
theorem r4 : (Rows.appBeginsRow.named == Tryz.prog.varsNamed 3) = true := by kernel_rfl
set_option maxRecDepth 100000 in
theorem closed : joinedFacts Tryz.prog 3 Tryz.f3 (OpenSpec.ofChange Rows.appBeginsSpec).bare Rows.appBeginsRow = true := by
 simp only [joinedFacts, Bool.and_eq_true]
 and_intros
 all_goals first
  | (with_reducible exact r1)
  | (with_reducible exact r2)
  | (with_reducible exact r3)
  | (with_reducible exact r4)
  | kernel_rfl
end Go.Proofs.YtohikcplmbkmeaaGreatDoor.appBegins
namespace Go.Proofs.YtohikcplmbkmeaaGreatDoor.appBegins
open Go.ChangeShapes Go.WideShapes Go.ChangeAt Go.RowKit Go.Proofs.YtohikcplmbkmeaaGreatDoor
set_option maxRecDepth 100000 in
theorem contract (H : Type) (enc : TypeId × Value → H) (W : World) (base : Nat) (args : Array Value) (ds gs : List (DataW H)) (before : List MemPlace)
  (hval : ∀ (j : Nat) t v, Tryz.f3.params[j]? = some t → args[j]? = some v → Value.okWide Tryz.prog W .any base t v)
  (hW : DataW.Whole enc Tryz.prog Tryz.f3.params.toList Rows.appBeginsSpec.vars false W args.toList ds gs before)
  (hw : (DataW.weightsEach Tryz.prog (Tryz.f3.params.toList ++ (OpenSpec.ofChange Rows.appBeginsSpec).bare.plain.varTypes Tryz.prog) (ds ++ gs)).all (· ≤ reachBytes) = true)
  (hL : laidMetH Tryz.prog Rows.appBeginsRow.laid W) (hopen : W.ShapedOpen Tryz.prog) :
  Calls Tryz.prog 3 args W fun e W' => ∃ v, e = .returned v ∧ Rows.appBeginsSpec.post enc Tryz.prog Tryz.f3 false true false false W args v W' := by
 have hW' := hW
 obtain ⟨p, q, hA0, hV, rfl, hfz, hnd⟩ := hW
 have hA : DataW.TrodAll enc Tryz.prog W 0 (fun _ => true) true Tryz.f3.params.toList args.toList ds p := hA0
 rw [Tryz.params3] at hA hval hw
 obtain ⟨v0, vs0, d0, ds0, p0, q0, hargs, rfl, rfl, h0, r0⟩ := trodAll_cons hA
 obtain ⟨v1, vs1, d1, ds1, p1, q1, rfl, rfl, rfl, h1, r1⟩ := trodAll_cons r0
 obtain ⟨v2, vs2, d2, ds2, p2, q2, rfl, rfl, rfl, h2, r2⟩ := trodAll_cons r1
 obtain ⟨rfl, rfl, rfl⟩ := trodAll_nil r2
 obtain rfl : args = #[v0, v1, v2] := by cases args; simp_all
 obtain ⟨rfl, rfl⟩ := trodVars_none hV
 have k0 := h0
 have lt0 : ∀ x ∈ p0, x.block < W.heap.size := by obtain ⟨m, hm⟩ := k0; exact DataW.trod_lt m _ _ _ hm
 have k1 := h1
 have lt1 : ∀ x ∈ p1, x.block < W.heap.size := by obtain ⟨m, hm⟩ := k1; exact DataW.trod_lt m _ _ _ hm
 have k2 := h2
 have lt2 : ∀ x ∈ p2, x.block < W.heap.size := by obtain ⟨m, hm⟩ := k2; exact DataW.trod_lt m _ _ _ hm
 simp only [List.append_nil] at hW'
 have hw : (d0.weights Tryz.prog 22 ++ (d1.weights Tryz.prog 23 ++ (d2.weights Tryz.prog 24 ++ (DataW.weightsEach Tryz.prog ((OpenSpec.ofChange Rows.appBeginsSpec).bare.plain.varTypes Tryz.prog) [])))).all (· ≤ reachBytes) = true := hw
 simp only [List.all_append, Bool.and_eq_true] at hw
 obtain ⟨hw0, hw1, hw2, _⟩ := hw
 obtain ⟨A0, n0, cap0, rfl⟩ := okWide_slice Tryz.underlying22 (hval 0 22 v0 rfl rfl)
 obtain ⟨fuel0, hf0⟩ := h0
 obtain ⟨_, m0, hm0, hr0, hb0⟩ := opn_accs.2 enc W _ true fuel0 _ d0 p0 hf0 hw0
 obtain ⟨x0, rfl, hx0, hy0⟩ := accs_full hm0
 obtain ⟨a1, rfl, rfl, rfl, wa1⟩ := open_int Tryz.underlying23 (hval 1 23 v1 rfl rfl) h1
 obtain ⟨u1, rfl, hu1⟩ := nat_of_u64 wa1
 obtain ⟨A2, n2, cap2, rfl⟩ := okWide_slice Tryz.underlying24 (hval 2 24 v2 rfl rfl)
 obtain ⟨fuel2, hf2⟩ := h2
 obtain ⟨_, m2, hm2, hr2, hb2⟩ := opn_ints.2 enc W _ true fuel2 _ d2 p2 hf2 hw2
 obtain ⟨x2, rfl, hx2⟩ := ints_lift hm2
 refine (begins_core x0 hx0 hy0 u1 hu1 x2 hx2 W (allP W) [_, _, _] (libOK_of (show laidMet Tryz.prog laidL W from hL) hopen) (fun b o h => h) (.cons (.val [_] hr0) (.cons (.val [_] .int) (.cons (.val [_] hr2) .nil)))).mono fun e W' ⟨v, he, hv, bel⟩ => ?_
 subst he
 obtain rfl := hv.bool_
 exact ⟨_, rfl, _, _, _, [], _, [], hW', trodAll_mk1 (shut_bool Tryz.underlying4 _), (trodAll_cons_mk (Below.trod laidOut (by kernel_rfl) (of_decide_eq_true (by kernel_rfl)) k0 bel lt0) (trodAll_cons_mk (shut_int Tryz.underlying23 wa1) (trodAll_cons_mk (Below.trod laidOut (by kernel_rfl) (of_decide_eq_true (by kernel_rfl)) k2 bel lt2) trodAll_mk0))), rfl, bel.frame _, fun h => by cases h⟩
theorem reads (os : Os) {H : Type} (enc : TypeId × Value → H) : ∃ places, DataW.whole enc Tryz.prog ((laidW os).forCall (fun _ _ => 0) ⟨#[], #[.slice none 0 0, .int .u64 0, .slice none 0 0], []⟩).memory Tryz.f3.params.toList Rows.appBeginsSpec.vars false #[Value.slice none 0 0, Value.int .u64 0, Value.slice none 0 0].toList 8 = some ([.nil, .lit (.int .u64 0), .nil], [], places) :=
 ⟨[], by kernel_rfl⟩
set_option maxRecDepth 100000 in
theorem lifted (os : Os) (started : os.Started) (H : Type) (enc : TypeId × Value → H) (F : Stop.Interp) :
  ReturnsInHanded {} Tryz.checked os 3 .any ((OpenSpec.ofChange Rows.appBeginsSpec).preRow enc Tryz.prog Tryz.f3 Rows.appBeginsRow.domain false Rows.appBeginsRow.laid) (((OpenSpec.ofChange Rows.appBeginsSpec).at F).post enc Tryz.prog Tryz.f3 false true false false) := by
 obtain ⟨places, hx⟩ := reads os enc
 refine returnsInHanded_of_row (C := Tryz.checked) (s := OpenSpec.ofChange Rows.appBeginsSpec) own started (by kernel_rfl) Tryz.func3
  (witness_zip (enc := enc) (C := Tryz.checked) (laidW os) (World.laidAll_os _ _ _) #[.slice none 0 0, .int .u64 0, .slice none 0 0] (shapedW os _) (by kernel_rfl)
   (OpenSpec.preRow_of_cond 8 hx (by kernel_rfl) (fun k hk => by cases hk) (by kernel_rfl) (laid_met os _))) ?_
 intro W base args ds gs before hval hW _ _ hw hL hopen _
 exact contract H enc W base args ds gs before hval hW hw hL hopen
theorem said : Rows.AppBeginsSaid :=
 OpenClaim.holds_of_cond 3 Tryz.f3 rfl rfl rfl rfl rfl rfl rfl ⟨rfl, rfl, rfl, rfl, rfl⟩ rfl rfl rfl rfl rfl (by kernel_rfl) Tryz.func3 closed
  (of_decide_eq_true (by kernel_rfl)) (by unfold Func.isWrapper; first | (rw [if_pos (by decide +kernel)]; kernel_rfl) | (rw [if_neg (by decide +kernel)]; exact ⟨rfl, rfl⟩))
  (fun os started H enc _ F => by rw [OpenClaim.pre_eq_preRow]; exact lifted os started H enc F)
theorem plain (f : FuncId) (fn : Func) (hf : Tryz.pinned.checked.prog.funcNamed "mempool/mempoollaw15.AppBegins" = some f) (hfn : Tryz.pinned.checked.prog.funcs[f]? = some fn) :
  true = Tryz.pinned.checked.prog.looks [] ∧ ∀ (j : Nat) t, fn.params[j]? = some t → Tryz.pinned.checked.prog.wantsStandIn t = false := by
 obtain rfl : f = 3 := Option.some.inj ((show Tryz.prog.funcNamed "mempool/mempoollaw15.AppBegins" = some 3 by kernel_rfl).symm.trans hf) |>.symm
 obtain rfl : fn = Tryz.f3 := (Option.some.inj (Tryz.func3.symm.trans hfn)).symm
 refine ⟨by kernel_rfl, fun j t ht => ?_⟩
 have key : (Tryz.f3.params.all fun t => Tryz.prog.wantsStandIn t == false) = true := by kernel_rfl
 have := Array.all_eq_true_iff_forall_mem.1 key t (Array.mem_of_getElem? ht)
 show Tryz.prog.wantsStandIn t = false
 simpa using this
theorem card : Rows.AppBeginsCardSaid :=
 Claim7.holds_tied_plain_at .later [] _ _ _ _ said (fun _ h => by cases h) (by kernel_rfl) (fun _ h => by cases h) appBegins_row_tie rfl ⟨rfl, rfl⟩ (by kernel_rfl) rfl plain (by kernel_rfl)
end Go.Proofs.YtohikcplmbkmeaaGreatDoor.appBegins
