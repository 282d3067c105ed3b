/- AppLimits: the row and the card: whatever the arguments, the law answers true and its arguments read as before. Conditions: none but what the row lists (the laid tables). -/
import Derived.Test.YtohikcplmbkmeaaGreatDoorW06
set_option maxRecDepth 20000
set_option maxHeartbeats 16000000
set_option linter.unusedVariables false
set_option linter.unusedSimpArgs false
namespace Go.Proofs.YtohikcplmbkmeaaGreatDoor
open Go.RowKit
section
theorem getS_no {l : List AcS} {nm : List UInt8} (h : (getS l nm).2 = false) : (getS l nm).1 = ac0 := by
 unfold getS at *
 split at h
 ·cases h
 ·rfl
def gOf : Option AcS → AcS × Bool
 | some a => (a, true)
 | none => (ac0, false)
theorem getS_gOf (l : List AcS) (nm : List UInt8) : getS l nm = gOf (l.find? fun a => decide (a.name = nm)) := by unfold getS gOf; rfl
theorem balS_app (l m : List AcS) : balS (l ++ m) = balS l + balS m := by simp [balS]
theorem balS_cons (a : AcS) (m : List AcS) : balS (a :: m) = a.bal + balS m := by simp [balS]
theorem put_cut {a : AcS} {l : List AcS} (hs : SrtA l) : ∃ u v w, l = u ++ v ++ w ∧ putS a l = u ++ a :: w ∧ (∀ x ∈ u, x.name ≠ a.name) ∧ ((v = [] ∧ getS l a.name = (ac0, false)) ∨ ∃ x, v = [x] ∧ x.name = a.name ∧ getS l a.name = (x, true)) := by
 rcases getS_pos (nm := a.name) hs with ⟨h1, h2, h3⟩ | ⟨h1, h2⟩
 ·obtain ⟨hk, h4⟩ := List.getElem?_eq_some_iff.1 h2
  refine ⟨l.take (posA a.name l), [l[posA a.name l]], l.drop (posA a.name l + 1), ?_, ?_, ?_, .inr ⟨_, rfl, by rw [h4]; exact h3, by rw [h4, ← h1]⟩⟩
  ·rw [List.append_assoc, List.singleton_append, ← List.drop_eq_getElem_cons hk, List.take_append_drop]
  ·rw [putS_set hs h1]
   exact List.set_eq_take_append_cons_drop.trans (if_pos hk)
  ·intro x hx e
   obtain ⟨j, hj, rfl⟩ := List.mem_iff_getElem.1 hx
   rw [List.length_take] at hj
   rw [List.getElem_take] at e
   have := (posA_lt (nm := a.name) hs (k := j) (by omega)).2 (by omega)
   rw [e, less_irr] at this
   cases this
 ·refine ⟨l.take (posA a.name l), [], l.drop (posA a.name l), ?_, putS_ins hs h1, fun x hx => h2 x (List.mem_of_mem_take hx), .inl ⟨rfl, by rw [← getS_no h1, ← h1]⟩⟩
  rw [List.append_nil, List.take_append_drop]
theorem getS_put {a : AcS} {l : List AcS} (hs : SrtA l) (nm : List UInt8) : getS (putS a l) nm = if a.name = nm then (a, true) else getS l nm := by
 obtain ⟨u, v, w, h1, h2, h3, h4⟩ := put_cut (a := a) hs
 rw [h2, getS_gOf, List.find?_append]
 by_cases e : a.name = nm
 ·subst e
  rw [if_pos rfl, List.find?_eq_none.2 (fun x hx => by simpa using h3 x hx), List.find?_cons_of_pos (by simp)]
  rfl
 ·rw [if_neg e, List.find?_cons_of_neg (by simpa using e), getS_gOf, h1, List.append_assoc, List.find?_append, List.find?_append]
  rcases h4 with ⟨rfl, _⟩ | ⟨x, rfl, hx, _⟩
  ·rfl
  ·rw [List.find?_cons_of_neg (by rw [hx]; simpa using e)]
   rfl
theorem put_sum {a : AcS} {l : List AcS} (hs : SrtA l) : balS (putS a l) + (getS l a.name).1.bal = balS l + a.bal := by
 obtain ⟨u, v, w, h1, h2, h3, h4⟩ := put_cut (a := a) hs
 rw [h2, balS_app, balS_cons]
 rcases h4 with ⟨rfl, h5⟩ | ⟨x, rfl, hx, h5⟩
 ·rw [h5, h1, balS_app, balS_app]
  simp [balS, ac0]
  omega
 ·rw [h5]
  conv => rhs; rw [h1]
  rw [balS_app, balS_app, balS_cons]
  simp [balS]
  omega
theorem get_le (nm : List UInt8) : ∀ l : List AcS, (getS l nm).1.bal ≤ balS l
 | [] => by simp [getS, ac0]
 | a :: r => by
  rw [balS_cons]
  have ih := get_le nm r
  rw [getS_gOf] at *
  by_cases h : a.name = nm
  ·rw [List.find?_cons_of_pos (by simpa using h)]
   show a.bal ≤ _
   omega
  ·rw [List.find?_cons_of_neg (by simpa using h)]
   omega
theorem payB_bal (x : TrS) (acs : List AcS) : (payB x acs).bal = (getS acs x.to_).1.bal := by
 unfold payB
 cases h : (getS acs x.to_).2 with
 | true => rw [if_pos rfl]
 | false => rw [if_neg (by simp), getS_no h]; rfl
theorem payB_seq (x : TrS) (acs : List AcS) : (payB x acs).seq = (getS acs x.to_).1.seq := by
 unfold payB
 cases h : (getS acs x.to_).2 with
 | true => rw [if_pos rfl]
 | false => rw [if_neg (by simp), getS_no h]; rfl
theorem pay_sum {x : TrS} {acs : List AcS} (hs : SrtA acs) (h : balS acs + x.amt < 18446744073709551616) : balS (payS acs x) = balS acs + x.amt := by
 have hn := payB_name x hs
 have hb := payB_bal x acs
 have hl := get_le x.to_ acs
 have hp := put_sum (a := ⟨(payB x acs).name, ((payB x acs).bal + x.amt) % 18446744073709551616, (payB x acs).seq⟩) hs
 dsimp only at hp
 unfold payS
 rw [hn] at hp ⊢
 rw [hb] at hp ⊢
 rw [Nat.mod_eq_of_lt (by omega)] at hp ⊢
 omega
theorem pays_sum : ∀ (trs : List TrS) (acs : List AcS), SrtA acs → balS acs + (trs.map (·.amt)).sum < 18446744073709551616 → balS (trs.foldl payS acs) = balS acs + (trs.map (·.amt)).sum ∧ SrtA (trs.foldl payS acs)
 | [], acs, hs, _ => ⟨by simp, hs⟩
 | x :: r, acs, hs, h => by
  rw [List.map_cons, List.sum_cons] at *
  rw [List.foldl_cons]
  have h1 := pay_sum (x := x) hs (by omega)
  have h2 := pays_sum r (payS acs x) (pay_srt hs) (by omega)
  exact ⟨by omega, h2.2⟩
theorem trs_names : ∀ {l : List TrS}, trsS l = 0 → ∀ x ∈ l, nameS x.to_ = true
 | [], _, x, hx => by cases hx
 | y :: r, h, x, hx => by
  rw [trsS] at h
  split at h
  ·exact absurd h (by decide)
  ·rename_i hn
   split at h
   ·exact absurd h (by decide)
   ·rcases List.mem_cons.1 hx with rfl | hx
    ·simpa using hn
    ·exact trs_names h x hx
theorem dec_names {raw : List UInt8} (h : (decodeTxS raw).2 = 0) : nameS (decodeTxS raw).1.sender = true ∧ ∀ x ∈ (decodeTxS raw).1.trs, nameS x.to_ = true := by
 unfold decodeTxS at *
 split at h
 ·exact absurd h (by decide)
 ·rename_i h1
  rw [if_neg h1]
  split at h
  ·exact absurd h (by decide)
  ·rename_i h2
   rw [if_neg h2]
   split at h
   ·rename_i h3; exact absurd h h3
   ·rename_i h3
    rw [if_neg h3]
    have h4 := Decidable.not_not.1 h3
    dsimp only
    generalize (rdTxS (fieldsS raw).1 tx0).1 = t at *
    unfold validTxS at h4
    split at h4
    ·exact absurd h4 (by decide)
    ·rename_i k1
     split at h4
     ·exact absurd h4 (by decide)
     ·split at h4
      ·exact absurd h4 (by decide)
      ·split at h4
       ·exact absurd h4 (by decide)
       ·exact ⟨by simpa using k1, trs_names h4⟩
theorem pays_names : ∀ (trs : List TrS) (acs : List AcS), SrtA acs → (∀ x ∈ trs, nameS x.to_ = true) → (∀ a ∈ acs, nameS a.name = true) → ∀ a ∈ trs.foldl payS acs, nameS a.name = true
 | [], _, _, _, h => h
 | x :: r, acs, hs, h1, h2 => by
  rw [List.foldl_cons]
  refine pays_names r _ (pay_srt hs) (fun y hy => h1 y (List.mem_cons_of_mem _ hy)) fun a ha => ?_
  unfold payS at ha
  rcases mem_putS ha with rfl | ha
  ·dsimp only
   rw [payB_name x hs]
   exact h1 x (List.mem_cons_self ..)
  ·exact h2 a ha
def Adv (l m : List AcS) : Prop := ∀ nm, (getS l nm).2 = true → (getS m nm).2 = true ∧ (getS l nm).1.seq ≤ (getS m nm).1.seq
theorem Adv.refl (l : List AcS) : Adv l l := fun _ h => ⟨h, Nat.le_refl _⟩
theorem Adv.trans {l m k : List AcS} (h1 : Adv l m) (h2 : Adv m k) : Adv l k := fun nm h => ⟨(h2 nm (h1 nm h).1).1, Nat.le_trans (h1 nm h).2 (h2 nm (h1 nm h).1).2⟩
theorem pay_adv {x : TrS} {acs : List AcS} (hs : SrtA acs) : Adv acs (payS acs x) := by
 intro nm h
 unfold payS
 rw [getS_put hs]
 dsimp only
 rw [payB_name x hs]
 split
 ·rename_i e
  subst e
  refine ⟨rfl, ?_⟩
  dsimp only
  rw [payB_seq]
  exact Nat.le_refl _
 ·exact ⟨h, Nat.le_refl _⟩
theorem pays_adv : ∀ (trs : List TrS) (acs : List AcS), SrtA acs → Adv acs (trs.foldl payS acs)
 | [], acs, _ => Adv.refl acs
 | x :: r, acs, hs => (pay_adv hs).trans (pays_adv r _ (pay_srt hs))
theorem sumG_val : ∀ (l : List Nat) (s : Nat), (sumG l s).2 = true → (sumG l s).1 = s + l.sum
 | [], s, _ => by simp [sumG]
 | x :: r, s, h => by
  rw [sumG] at *
  unfold addS at *
  by_cases hl : s + x < 18446744073709551616
  ·rw [if_pos hl] at *
   rw [if_pos rfl] at *
   rw [sumG_val r _ h, List.sum_cons]
   dsimp only
   omega
  ·rw [if_neg hl] at h
   rw [if_neg (by simp)] at h
   cases h
theorem vl_names : ∀ {l : List AcS} {q : Option (List UInt8)}, vlG q l = 0 → ∀ a ∈ l, nameS a.name = true
 | [], _, _, a, ha => by cases ha
 | b :: r, q, h, a, ha => by
  rw [vlG_cons] at h
  split at h
  ·exact absurd h (by decide)
  ·rename_i hn
   rcases List.mem_cons.1 ha with rfl | ha
   ·simpa using hn
   ·cases q with
    | none => exact vl_names h a ha
    | some q0 =>
     dsimp only at h
     split at h
     ·exact absurd h (by decide)
     ·split at h
      ·exact absurd h (by decide)
      ·exact vl_names h a ha
theorem vl_of : ∀ {l : List AcS} {q : Option (List UInt8)}, SrtA l → (∀ a ∈ l, nameS a.name = true) → (∀ q0, q = some q0 → ∀ a ∈ l, Op.bytesLess q0 a.name = true) → vlG q l = 0
 | [], _, _, _, _ => vlG_nil _
 | b :: r, q, hs, hn, hq => by
  have hs' := List.pairwise_cons.1 hs
  have ih := vl_of (q := some b.name) hs'.2 (fun a ha => hn a (List.mem_cons_of_mem _ ha)) (fun q0 e a ha => by cases e; exact hs'.1 a ha)
  rw [vlG_cons, if_neg (by rw [hn b (List.mem_cons_self ..)]; simp)]
  cases q with
  | none => exact ih
  | some q0 =>
   have hl := hq q0 rfl b (List.mem_cons_self ..)
   dsimp only
   rw [if_neg (fun e => by rw [e, less_irr] at hl; cases hl), if_neg (by rw [hl]; simp)]
   exact ih
theorem valid_to {l : LgS} (h : validLS l = 0) (hs : SmLg l) : (∀ a ∈ l.acs, nameS a.name = true) ∧ l.col + balS l.acs < 18446744073709551616 := by
 unfold validLS at h
 split at h
 ·exact absurd h (by decide)
 ·split at h
  ·rename_i h1; exact absurd h h1
  ·rename_i h1
   refine ⟨vl_names (Decidable.not_not.1 h1), ?_⟩
   split at h
   ·exact absurd h (by decide)
   ·rename_i h2
    have h3 := (totS_2 l.acs l.col).1 (by simpa using h2)
    rcases h3 with h3 | h3
    ·rw [h3]
     have := hs.2.1
     unfold U64 at this
     simp [balS]
     exact this
    ·exact h3
theorem valid_of {l : LgS} (hs : SrtA l.acs) (hn : ∀ a ∈ l.acs, nameS a.name = true) (hl : l.acs.length ≤ 256) (ht : l.col + balS l.acs < 18446744073709551616) : validLS l = 0 := by
 unfold validLS
 rw [if_neg (by omega), vl_of hs hn (fun q0 e => by cases e), if_neg (by simp), (totS_2 l.acs l.col).2 (.inr ht), if_neg (by simp)]
theorem faultS_all {l : LgS} {p : Nat} {t : TxS} {n : Nat} (h : faultS l p t n = 0) : (getS l.acs t.sender).2 = true ∧ (getS l.acs t.sender).1.seq = t.seq ∧ t.seq ≠ 18446744073709551615 ∧ (costS t).2 = true ∧ (costS t).1 ≤ (getS l.acs t.sender).1.bal ∧ (doneS l t (costS t).1).acs.length ≤ 256 := by
 have h0 := fault_there h
 unfold faultS at h
 rw [if_neg (by rw [h0]; simp)] at h
 by_cases h1 : (getS l.acs t.sender).1.seq ≠ t.seq
 ·rw [if_pos h1] at h; exact absurd h (by decide)
 rw [if_neg h1] at h
 by_cases h2 : t.seq = 18446744073709551615
 ·rw [if_pos h2] at h; exact absurd h (by decide)
 rw [if_neg h2] at h
 by_cases h3 : t.gas < usedS n t.trs.length
 ·rw [if_pos h3] at h; exact absurd h (by decide)
 rw [if_neg h3] at h
 by_cases h4 : (mulS t.gas p).2 = false
 ·rw [if_pos h4] at h; exact absurd h (by decide)
 rw [if_neg h4] at h
 by_cases h5 : t.fee < (mulS t.gas p).1
 ·rw [if_pos h5] at h; exact absurd h (by decide)
 rw [if_neg h5] at h
 by_cases h6 : (costS t).2 = false
 ·rw [if_pos h6] at h; exact absurd h (by decide)
 rw [if_neg h6] at h
 by_cases h7 : (getS l.acs t.sender).1.bal < (costS t).1
 ·rw [if_pos h7] at h; exact absurd h (by decide)
 rw [if_neg h7] at h
 by_cases h8 : 256 < (doneS l t (costS t).1).acs.length
 ·rw [if_pos h8] at h; exact absurd h (by decide)
 exact ⟨h0, Decidable.not_not.1 h1, h2, by simpa using h6, by omega, by omega⟩
theorem done_keeps {l : LgS} {p : Nat} {t : TxS} {n : Nat} (hv : validLS l = 0) (hl : SmLg l) (hf : faultS l p t n = 0) (hn : nameS t.sender = true) (hx : ∀ x ∈ t.trs, nameS x.to_ = true) :
  validLS (doneS l t (costS t).1) = 0 ∧ Adv l.acs (doneS l t (costS t).1).acs ∧ (getS (doneS l t (costS t).1).acs t.sender).2 = true ∧ t.seq < (getS (doneS l t (costS t).1).acs t.sender).1.seq := by
 obtain ⟨h0, h1, h2, h3, h4, h5⟩ := faultS_all hf
 obtain ⟨v1, v2⟩ := valid_to hv hl
 have hs := (valid_srt hv).1
 have hc := sumG_val _ _ h3
 rw [List.sum_cons, Nat.zero_add] at hc
 have hle := get_le t.sender l.acs
 have hname : (getS l.acs t.sender).1.name = t.sender := by
  rcases getS_pos (nm := t.sender) hs with ⟨_, _, k⟩ | ⟨k, _⟩
  ·exact k
  ·rw [h0] at k; cases k
 have hsq : U64 (getS l.acs t.sender).1.seq := (getS_sm hl.2.2).2.2
 unfold U64 at hsq
 have hcs : costS t = sumG (t.fee :: t.trs.map (·.amt)) 0 := rfl
 rw [← hcs] at hc
 generalize (costS t).1 = c at *
 have e1 : (doneA l t c).name = t.sender := hname
 have e2 : (doneA l t c).bal = (getS l.acs t.sender).1.bal - c := by
  show ((getS l.acs t.sender).1.bal + (18446744073709551616 - c)) % 18446744073709551616 = _
  omega
 have e3 : (doneA l t c).seq = t.seq + 1 := by
  show ((getS l.acs t.sender).1.seq + 1) % 18446744073709551616 = _
  rw [h1] at hsq ⊢
  omega
 have hp := put_sum (a := doneA l t c) hs
 rw [e1, e2] at hp
 have hs1 : SrtA (putS (doneA l t c) l.acs) := srt_put hs
 have hg := getS_put (a := doneA l t c) hs
 rw [e1] at hg
 have ha1 : Adv l.acs (putS (doneA l t c) l.acs) := by
  intro nm h
  rw [hg]
  split
  ·rename_i e
   subst e
   exact ⟨rfl, by dsimp only; rw [e3, h1]; omega⟩
  ·exact ⟨h, Nat.le_refl _⟩
 have hps := pays_sum t.trs _ hs1 (by omega)
 have ha2 := pays_adv t.trs _ hs1
 have hq := ha2 t.sender (by rw [hg, if_pos rfl])
 rw [hg, if_pos rfl] at hq
 dsimp only at hq
 refine ⟨?_, ha1.trans ha2, hq.1, Nat.lt_of_lt_of_le (by rw [e3]; omega) hq.2⟩
 refine valid_of hps.2 ?_ h5 ?_
 ·refine pays_names _ _ hs1 hx fun a ha => ?_
  rcases mem_putS ha with rfl | ha
  ·rw [e1]; exact hn
  ·exact v1 a ha
 ·show (l.col + t.fee) % 18446744073709551616 + balS (t.trs.foldl payS (putS (doneA l t c) l.acs)) < _
  rw [hps.1, Nat.mod_eq_of_lt (by omega)]
  omega
theorem tx_keeps {l : LgS} (p : Nat) (raw : List UInt8) (hv : validLS l = 0) (hl : SmLg l) : validLS (txS l p raw).1 = 0 ∧ Adv l.acs (txS l p raw).1.acs ∧ ((txS l p raw).2.code = 0 → (decodeTxS raw).2 = 0 ∧ (getS (txS l p raw).1.acs (decodeTxS raw).1.sender).2 = true ∧ (decodeTxS raw).1.seq < (getS (txS l p raw).1.acs (decodeTxS raw).1.sender).1.seq) := by
 unfold txS
 rw [if_neg (by rw [hv]; simp)]
 by_cases hd : (decodeTxS raw).2 = 0
 ·rw [if_neg (by rw [hd]; simp)]
  dsimp only
  by_cases hf : faultS l p (decodeTxS raw).1 raw.length = 0
  ·rw [if_neg (by rw [hf]; simp)]
   obtain ⟨n1, n2⟩ := dec_names hd
   obtain ⟨k1, k2, k3, k4⟩ := done_keeps hv hl hf n1 n2
   exact ⟨k1, k2, fun _ => ⟨hd, k3, k4⟩⟩
  ·rw [if_pos hf]
   exact ⟨hv, Adv.refl _, fun h => absurd h hf⟩
 ·rw [if_pos hd]
  exact ⟨hv, Adv.refl _, fun h => absurd h hd⟩
def allL (p : Nat) : List (List UInt8) → LgS → LgS
 | [], l => l
 | raw :: r, l => allL p r (txS l p raw).1
def allC (p : Nat) : List (List UInt8) → LgS → List ResS
 | [], _ => []
 | raw :: r, l => (txS l p raw).2 :: allC p r (txS l p raw).1
theorem allG_eq (p : Nat) : ∀ (r : List (List UInt8)) (l : LgS) (out : List ResS), allG p r l out = (allL p r l, out ++ allC p r l)
 | [], l, out => by rw [allG, allL, allC, List.append_nil]
 | raw :: r, l, out => by rw [allG, allL, allC, allG_eq p r, List.append_assoc, List.singleton_append]
theorem allC_len (p : Nat) : ∀ (r : List (List UInt8)) (l : LgS), (allC p r l).length = r.length
 | [], _ => rfl
 | _ :: r, l => by rw [allC, List.length_cons, allC_len p r, List.length_cons]
theorem allL_keeps (p : Nat) : ∀ (r : List (List UInt8)) (l : LgS), validLS l = 0 → SmLg l → validLS (allL p r l) = 0 ∧ Adv l.acs (allL p r l).acs
 | [], l, hv, _ => ⟨hv, Adv.refl _⟩
 | raw :: r, l, hv, hl => by
  obtain ⟨h1, h2, _⟩ := tx_keeps p raw hv hl
  obtain ⟨h3, h4⟩ := allL_keeps p r _ h1 (txS_sm hl).1
  exact ⟨h3, h2.trans h4⟩
theorem txS_valid {l : LgS} {p : Nat} {raw : List UInt8} (h : (txS l p raw).2.code = 0) : validLS l = 0 := by
 unfold txS at h
 split at h
 ·exact absurd h (by simp)
 ·rename_i h1; exact Decidable.not_not.1 h1
theorem refused (p : Nat) : ∀ (r : List (List UInt8)) (l : LgS), SmLg l → ∀ (i : Nat) (hi : i < r.length) (x : ResS), (allC p r l)[i]? = some x → x.code = 0 → (txS (allL p r l) p r[i]).2.code = 14
 | [], _, _, i, hi, _, _, _ => absurd hi (Nat.not_lt_zero _)
 | raw :: r, l, hl, 0, _, x, hx, h0 => by
  rw [allC, List.getElem?_cons_zero] at hx
  simp only [Option.some.injEq] at hx
  subst hx
  have hv := txS_valid h0
  obtain ⟨h1, h2, h3⟩ := tx_keeps p raw hv hl
  obtain ⟨h4, h5, h6⟩ := h3 h0
  obtain ⟨h7, h8⟩ := allL_keeps p r _ h1 (txS_sm hl).1
  obtain ⟨h9, h10⟩ := h8 _ h5
  rw [List.getElem_cons_zero, allL]
  generalize allL p r (txS l p raw).1 = L at *
  unfold txS
  rw [if_neg (by rw [h7]; simp), if_neg (by rw [h4]; simp)]
  dsimp only
  unfold faultS
  rw [if_neg (by rw [h9]; simp), if_pos (by omega)]
 | raw :: r, l, hl, i + 1, hi, x, hx, h0 => by
  rw [allC, List.getElem?_cons_succ] at hx
  rw [List.getElem_cons_succ, allL]
  exact refused p r _ (txS_sm hl).1 i (by simpa using hi) x hx h0
theorem strict_all (p : Nat) : ∀ (r : List (List UInt8)) (i : Nat) (l : LgS), ((strictG p r i l).2.2 == 0) = (allC p r l).all (fun x => x.code == 0)
 | [], _, _ => rfl
 | raw :: r, i, l => by
  rw [strictG, allC, List.all_cons]
  by_cases h : (txS l p raw).2.code = 0
  ·rw [if_neg (by rw [h]; simp), h, strict_all p r]
   simp
  ·rw [if_pos h]
   dsimp only
   rw [beq_eq_false_iff_ne.2 h, Bool.false_and]
end
section
attribute [local irreducible] vOpsN vOpsG vOpsD vOpGD NextD vC SeqQ BlockQ
theorem rel_nils {σ : Nat → Option Nat} {fz : Fz} : ∀ (W : List (List UInt8)), (∀ x ∈ W, x = []) → relV.relVs σ fz (W.map rawM) (repM W.length .nils)
 | [], _ => trivial
 | x :: W, h => by
  rw [h x (List.mem_cons_self ..)]
  exact ⟨.inr ⟨rfl, rfl⟩, rel_nils W fun y hy => h y (List.mem_cons_of_mem _ hy)⟩
theorem rawsBy : ∀ x, some x = (Tryz.prog.info? 41).map (·.bytes) → x = 24 := fun _ h => Option.some.inj (h.trans (show (Tryz.prog.info? 41).map (·.bytes) = some 24 by kernel_rfl))
def appB : AppS := ⟨lg0, lg0, lg0, false, 0⟩
theorem appB_sm : SmApp appB := ⟨lg0_sm, lg0_sm, lg0_sm, by simp [appB, U64]⟩
theorem initS_nil : initS [] 0 = (appB, 0) := by rfl
theorem fin_lim {W : List (List UInt8)} (h : 512 < W.length) : finS appB W = (app0, [], 3) := by
 unfold finS
 rw [if_neg (by simp [appB]), if_pos h]
theorem fin_ok {W : List (List UInt8)} (h : ¬ 512 < W.length) : ∃ L R, finS appB W = (⟨lg0, lg0, L, true, 0⟩, R, 0) ∧ R.length = W.length := by
 refine ⟨allL 0 W lg0, allC 0 W lg0, ?_, allC_len _ _ _⟩
 unfold finS
 rw [if_neg (by simp [appB]), if_neg h, allG_eq]
 rfl
theorem limits_core (n : Int) : SemC Tryz.prog GU 7 [.int .i64 n] (.bool true) := by
 have cp := place_m (G := GU) n 3 (by omega) (by omega)
 obtain ⟨m, hm, hme⟩ : ∃ m : Nat, m < 3 ∧ n % 3 = m := ⟨(n % 3).toNat, by omega, by omega⟩
 rw [hme] at cp
 have ci := init_r (G := GU) [] 0 (by simp) (by simp) (by unfold U64; omega)
 rw [initS_nil] at ci
 have hw := EqF.mk (show IntKind.i64.wrap (511 + (m : Int)) = ((511 + m : Nat) : Int) by rw [IntKind.wrap_i64]; omega)
 have hk1 : 511 ≤ 511 + m := by omega
 have hk2 : 511 + m ≤ 513 := by omega
 obtain ⟨W, hWk, hWn⟩ : ∃ W : List (List UInt8), 511 + m = W.length ∧ ∀ x ∈ W, x = [] := ⟨List.replicate (511 + m) [], by simp, fun x hx => List.eq_of_mem_replicate hx⟩
 rw [hWk] at hw hk1 hk2
 have hb2 := rawsBy
 have cf := pfin_r appB W appB_sm (by omega) (fun b hb => by rw [hWn b hb]; simp)
 unfold appM lgM appB lg0 at ci
 dsimp only at ci
 refine scq seat Tryz.func7 58 ?_
 refine go1 ?_
 refine g_call2 rfl (fun _ h => h) rfl (ci) rfl lm ?_
 refine go1 ?_
 refine g_call2 rfl (fun _ h => h) rfl (semR_of_semC (cp)) rfl lm ?_
 refine go1 ?_
 ((with_reducible apply g_mem); (case hq => exact rfl); (case hv => exact rfl); (case he => (intro R hR; refine sms hR ?_; refine And.intro (Nat.le_trans (Nat.mul_le_mul_left _ (Nat.le_of_eq (hb2 _ rfl))) (by omega)) ?_; exact hR)); (case hd => exact rfl))
 refine gor ?_
 refine n_reQ ([(5, .ms 1 1 0 W.length), (3, .ptr 0 8 0 0 [])]) ([(0, ⟨35, 8, false, 0, [.st [.st [.sl 0 [], .int .u64 0], .st [.sl 0 [], .int .u64 0], .st [.sl 0 [], .int .u64 0], .bool false, .int .u64 0]]⟩), (1, ⟨41, 1, true, 0, W.map rawM⟩)]) 2 ⟨[(0, _), (1, _)], [], rfl, trivial, rfl, ⟨⟨_, rfl, rv⟩, ⟨_, rfl, rv⟩, trivial⟩, ⟨(by refine .inr ⟨_, _, rfl, rfl, ?_⟩; exact ⟨rfl, rfl, .inl rfl, .inl rfl, .inr ⟨.inr ⟨_, rfl, ⟨rel_lg, rel_lg, rel_lg, ⟨rfl, rfl⟩, ⟨rfl, rfl⟩, trivial⟩⟩, trivial⟩⟩), (by refine .inr ⟨_, _, rfl, rfl, ?_⟩; exact ⟨rfl, rfl, .inl rfl, .inl rfl, .inr (rel_nils W hWn)⟩), trivial⟩⟩ ?_
 by_cases hbig : 512 < W.length
 ·rw [fin_lim hbig] at cf
  unfold appM lgM appB rawsM app0 lg0 at cf
  dsimp only at cf
  refine go1 ?_
  refine g_call1 rfl (fun _ h => h) rfl (cf) rfl [(1, W.length)] mm lm ?_
  refine go1 ?_
  ((with_reducible apply c_cond); (case he => exact rfl); (all_goals intro h))
  rotate_left
  ·exact absurd (of_decide_eq_false h) (by omega)
  refine go1 ?_
  refine g_call2 rfl (fun _ h => h) rfl (semR_of_semC (known_m)) rfl lm ?_
  refine go1 ?_
  refine go0 ?_
  rfl
 ·obtain ⟨L, R, he, hR⟩ := fin_ok hbig
  rw [he] at cf
  obtain ⟨l1, l2⟩ := L
  unfold appM lgM appB rawsM lg0 at cf
  dsimp only at cf
  rw [hR] at cf
  refine go1 ?_
  refine g_call1 rfl (fun _ h => h) rfl (cf) rfl [(1, W.length)] mm lm ?_
  refine go1 ?_
  ((with_reducible apply c_cond); (case he => exact rfl); (all_goals intro h))
  ·exact absurd (of_decide_eq_true h) (by omega)
  refine go1 ?_
  rw [show ((W.length : Int) == (W.length : Int)) = true by simp]
  refine go1 ?_
  refine g_call2 rfl (fun _ h => h) rfl (semR_of_semC (known_m)) rfl lm ?_
  refine go1 ?_
  refine go0 ?_
  rfl
end
end Go.Proofs.YtohikcplmbkmeaaGreatDoor
namespace Go.Proofs.YtohikcplmbkmeaaGreatDoor.appLimits
open Go.Proofs.YtohikcplmbkmeaaGreatDoor
theorem r1 : (Rows.appLimitsRow.inPlace == Tryz.prog.inPlace 7) = true := by kernel_rfl
theorem r2 : (Rows.appLimitsRow.unfollowed == Tryz.prog.unfollowed 7) = true := by kernel_rfl
theorem r3 : (Rows.appLimitsRow.recurses == Tryz.prog.recurses 7) = true := by kernel_rfl
theorem r4 : (Rows.appLimitsRow.named == Tryz.prog.varsNamed 7) = true := by kernel_rfl
set_option maxRecDepth 100000 in
theorem closed : joinedFacts Tryz.prog 7 Tryz.f7 (OpenSpec.ofChange Rows.appLimitsSpec).bare Rows.appLimitsRow = true := by
 simp only [joinedFacts, Bool.and_eq_true]
 and_intros
 all_goals first
  | (with_reducible exact r1)
  | (with_reducible exact r2)
  | (with_reducible exact r3)
  | (with_reducible exact r4)
  | kernel_rfl
end Go.Proofs.YtohikcplmbkmeaaGreatDoor.appLimits
namespace Go.Proofs.YtohikcplmbkmeaaGreatDoor.appLimits
open Go.ChangeShapes Go.WideShapes Go.ChangeAt Go.RowKit Go.Proofs.YtohikcplmbkmeaaGreatDoor
set_option maxRecDepth 100000 in
theorem contract (H : Type) (enc : TypeId × Value → H) (W : World) (base : Nat) (args : Array Value) (ds gs : List (DataW H)) (before : List MemPlace)
  (hval : ∀ (j : Nat) t v, Tryz.f7.params[j]? = some t → args[j]? = some v → Value.okWide Tryz.prog W .any base t v)
  (hW : DataW.Whole enc Tryz.prog Tryz.f7.params.toList Rows.appLimitsSpec.vars false W args.toList ds gs before)
  (hw : (DataW.weightsEach Tryz.prog (Tryz.f7.params.toList ++ (OpenSpec.ofChange Rows.appLimitsSpec).bare.plain.varTypes Tryz.prog) (ds ++ gs)).all (· ≤ reachBytes) = true)
  (hL : laidMetH Tryz.prog Rows.appLimitsRow.laid W) (hopen : W.ShapedOpen Tryz.prog) :
  Calls Tryz.prog 7 args W fun e W' => ∃ v, e = .returned v ∧ Rows.appLimitsSpec.post enc Tryz.prog Tryz.f7 false true false false W args v W' := by
 have hW' := hW
 obtain ⟨p, q, hA0, hV, rfl, hfz, hnd⟩ := hW
 have hA : DataW.TrodAll enc Tryz.prog W 0 (fun _ => true) true Tryz.f7.params.toList args.toList ds p := hA0
 rw [Tryz.params7] at hA hval hw
 obtain ⟨v0, vs0, d0, ds0, p0, q0, hargs, rfl, rfl, h0, r0⟩ := trodAll_cons hA
 obtain ⟨rfl, rfl, rfl⟩ := trodAll_nil r0
 obtain rfl : args = #[v0] := by cases args; simp_all
 obtain ⟨rfl, rfl⟩ := trodVars_none hV
 have k0 := h0
 have lt0 : ∀ x ∈ p0, x.block < W.heap.size := by obtain ⟨m, hm⟩ := k0; exact DataW.trod_lt m _ _ _ hm
 simp only [List.append_nil] at hW'
 have hw : (d0.weights Tryz.prog 3 ++ (DataW.weightsEach Tryz.prog ((OpenSpec.ofChange Rows.appLimitsSpec).bare.plain.varTypes Tryz.prog) [])).all (· ≤ reachBytes) = true := hw
 simp only [List.all_append, Bool.and_eq_true] at hw
 obtain ⟨hw0, _⟩ := hw
 obtain ⟨a0, rfl, rfl, rfl, wa0⟩ := open_int Tryz.underlying3 (hval 0 3 v0 rfl rfl) h0
 refine (limits_core a0 W (allP W) [_] (libOK_of (show laidMet Tryz.prog laidL W from hL) hopen) (fun b o h => h) (.cons (.val [_] .int) .nil)).mono fun e W' ⟨v, he, hv, bel⟩ => ?_
 subst he
 obtain rfl := hv.bool_
 exact ⟨_, rfl, _, _, _, [], _, [], hW', trodAll_mk1 (shut_bool Tryz.underlying4 _), (trodAll_cons_mk (shut_int Tryz.underlying3 wa0) trodAll_mk0), rfl, bel.frame _, fun h => by cases h⟩
theorem reads (os : Os) {H : Type} (enc : TypeId × Value → H) : ∃ places, DataW.whole enc Tryz.prog ((laidW os).forCall (fun _ _ => 0) ⟨#[], #[.int .i64 0], []⟩).memory Tryz.f7.params.toList Rows.appLimitsSpec.vars false #[Value.int .i64 0].toList 8 = some ([.lit (.int .i64 0)], [], places) :=
 ⟨[], by kernel_rfl⟩
set_option maxRecDepth 100000 in
theorem lifted (os : Os) (started : os.Started) (H : Type) (enc : TypeId × Value → H) (F : Stop.Interp) :
  ReturnsInHanded {} Tryz.checked os 7 .any ((OpenSpec.ofChange Rows.appLimitsSpec).preRow enc Tryz.prog Tryz.f7 Rows.appLimitsRow.domain false Rows.appLimitsRow.laid) (((OpenSpec.ofChange Rows.appLimitsSpec).at F).post enc Tryz.prog Tryz.f7 false true false false) := by
 obtain ⟨places, hx⟩ := reads os enc
 refine returnsInHanded_of_row (C := Tryz.checked) (s := OpenSpec.ofChange Rows.appLimitsSpec) own started (by kernel_rfl) Tryz.func7
  (witness_zip (enc := enc) (C := Tryz.checked) (laidW os) (World.laidAll_os _ _ _) #[.int .i64 0] (shapedW os _) (by kernel_rfl)
   (OpenSpec.preRow_of_cond 8 hx (by kernel_rfl) (fun k hk => by cases hk) (by kernel_rfl) (laid_met os _))) ?_
 intro W base args ds gs before hval hW _ _ hw hL hopen _
 exact contract H enc W base args ds gs before hval hW hw hL hopen
theorem said : Rows.AppLimitsSaid :=
 OpenClaim.holds_of_cond 7 Tryz.f7 rfl rfl rfl rfl rfl rfl rfl ⟨rfl, rfl, rfl, rfl, rfl⟩ rfl rfl rfl rfl rfl (by kernel_rfl) Tryz.func7 closed
  (of_decide_eq_true (by kernel_rfl)) (by unfold Func.isWrapper; first | (rw [if_pos (by decide +kernel)]; kernel_rfl) | (rw [if_neg (by decide +kernel)]; exact ⟨rfl, rfl⟩))
  (fun os started H enc _ F => by rw [OpenClaim.pre_eq_preRow]; exact lifted os started H enc F)
theorem plain (f : FuncId) (fn : Func) (hf : Tryz.pinned.checked.prog.funcNamed "mempool/mempoollaw15.AppLimits" = some f) (hfn : Tryz.pinned.checked.prog.funcs[f]? = some fn) :
  true = Tryz.pinned.checked.prog.looks [] ∧ ∀ (j : Nat) t, fn.params[j]? = some t → Tryz.pinned.checked.prog.wantsStandIn t = false := by
 obtain rfl : f = 7 := Option.some.inj ((show Tryz.prog.funcNamed "mempool/mempoollaw15.AppLimits" = some 7 by kernel_rfl).symm.trans hf) |>.symm
 obtain rfl : fn = Tryz.f7 := (Option.some.inj (Tryz.func7.symm.trans hfn)).symm
 refine ⟨by kernel_rfl, fun j t ht => ?_⟩
 have key : (Tryz.f7.params.all fun t => Tryz.prog.wantsStandIn t == false) = true := by kernel_rfl
 have := Array.all_eq_true_iff_forall_mem.1 key t (Array.mem_of_getElem? ht)
 show Tryz.prog.wantsStandIn t = false
 simpa using this
theorem card : Rows.AppLimitsCardSaid :=
 Claim7.holds_tied_plain_at .later [] _ _ _ _ said (fun _ h => by cases h) (by kernel_rfl) (fun _ h => by cases h) appLimits_row_tie rfl ⟨rfl, rfl⟩ (by kernel_rfl) rfl plain (by kernel_rfl)
end Go.Proofs.YtohikcplmbkmeaaGreatDoor.appLimits
