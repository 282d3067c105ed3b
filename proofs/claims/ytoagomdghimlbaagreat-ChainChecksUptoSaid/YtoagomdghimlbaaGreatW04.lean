/- Parts of a proof, one behind the other: H2, B6, B7, C1, C2, C3, C4, D1, D2, D3, D4, D5, D6, D7, F1, F2, F3, F4, G1, G2. -/
import Derived.Test.YtoagomdghimlbaaGreatW03
set_option maxRecDepth 20000
set_option maxHeartbeats 16000000
namespace Go.Proofs.YtoagomdghimlbaaGreat
open Go.RowKit
section
theorem hhq {α : Type} {x : α} : ∀ R : α → Prop, R x → R x := fun _ h => h
theorem seq' {Pg : Program} {T : Tab} {ents : List FuncId} {G : GS} (hS : Seat Pg T ents) {f : FuncId} {fn : Func} (hf : Pg.funcs[f]? = some fn) (N : Nat) {c : Code} {rs : List ResultVar} {args : List MV} {M0 : VM} {n0 : Nat} {Φ : MV → VM → Nat → Prop} (h : vC Pg T N ents G n0 c (vRetE T n0 rs Φ) (envM 0 args) M0 n0) (hb : fn.body = some c := by rfl) (hrs : fn.results = rs.toArray := by rfl) (h5 : rs.length ≤ 6 := by exact Nat.le_of_ble_eq_true rfl) (hn : args.length ≤ fn.ntmps := by exact Nat.le_of_ble_eq_true rfl) (hN : fn.ntmps = N := by rfl) (hM0 : M0.all (fun x => Nat.blt x.1 n0) = true := by rfl) : SemE Pg G f args M0 n0 Φ := semE_of_vc hS hf hb hrs h5 hn hN hM0 h
theorem src {Pg : Program} {G : GS} {f : FuncId} {args : List MV} {res : MV} (h : SemC Pg G f args res) : SemR Pg G f args [] 0 res [] 0 := semR_of_semC h
variable {G : GS}
theorem quo_nat (i n : Nat) (h : i < 4611686018427387904) : IntKind.i64.wrap ((i : Int).tdiv (n : Int)) = ((i / n : Nat) : Int) := by
 have e : (i : Int).tdiv (n : Int) = ((i / n : Nat) : Int) := rfl
 have := Nat.div_le_self i n
 generalize i / n = q at *
 rw [e, wrap_in _ (by omega) (by omega)]
theorem bounds_at {n a c : Nat} {k k' : IntKind} {lo hi : Int} (ha : lo = (a : Int)) (hc : hi = (c : Int)) (h1 : a ≤ c) (h2 : c ≤ n) : bounds n (some (.int k lo)) (some (.int k' hi)) = some (a, c) := by
 subst ha; subst hc
 unfold bounds
 simp only
 rw [if_pos (by omega)]
 simp only [Int.toNat_natCast]
 rw [if_pos (by omega)]
theorem head_u8 (m : List UInt8) : headSize (u8s m) 1 = true := by cases m <;> rfl
def padN (n : Nat) : Nat := (119 - n % 64) % 64
def byteAt (n k : Nat) : UInt8 := UInt8.ofNat (n / 2 ^ (8 * (7 - k)))
def be64 (n : Nat) : List UInt8 := (List.range 8).map (byteAt n)
def padS (b : List UInt8) : List UInt8 := b ++ [128] ++ List.replicate (padN b.length) 0 ++ be64 (8 * b.length)
def initW : W8 := ⟨1779033703, 3144134277, 1013904242, 2773480762, 1359893119, 2600822924, 528734635, 1541459225⟩
def absorb (s : W8) (m : List UInt8) : Nat → W8
 | 0 => s
 | k + 1 => blockS (absorb s m k) ((m.drop (64 * k)).take 64)
def outAt (s : W8) (i : Nat) : UInt8 := (s.nth (i / 4) >>> UInt32.ofNat (24 - i % 4 * 8)).toUInt8
def outK (s : W8) : Nat → List UInt8
 | 0 => List.replicate 32 0
 | i + 1 => (outK s i).set i (outAt s i)
theorem outK_len (s : W8) : ∀ i, (outK s i).length = 32
 | 0 => by simp [outK]
 | i + 1 => by simp [outK, outK_len s i]
def shaS (b : List UInt8) : List UInt8 := outK (absorb initW (padS b) ((padS b).length / 64)) 32
theorem shaS_len (b : List UInt8) : (shaS b).length = 32 := outK_len _ _
def keyM (k : List UInt8) : MV := .arr 32 1 (u8s k)
theorem padS_len (b : List UInt8) : (padS b).length = b.length + 9 + padN b.length := by simp [padS, be64]; omega
theorem padS_div (b : List UInt8) : (padS b).length = 64 * ((padS b).length / 64) := by rw [padS_len]; unfold padN; omega
theorem key_get {k : List UInt8} {i : Nat} (h : i < k.length) : getPO (keyM k) ([] ++ [i]) (0 + i * 1) = some (u8M (k.getD i 0)) := by
 show (match nthM (u8s k) i with | some m => bif Nat.ble (i * 1) (0 + i * 1) then getPO m [] (0 + i * 1 - i * 1) else none | none => none) = _
 have e : nthM (u8s k) i = some (u8M (k.getD i 0)) := by rw [nthM_eq]; exact u8_at h
 rw [e]
 have e2 : Nat.ble (i * 1) (0 + i * 1) = true := by simp
 simp only [e2, cond_true]
 simp [getPO]
theorem key_set {k : List UInt8} {i : Nat} (h : i < k.length) (x : UInt8) : setPO (keyM k) ([] ++ [i]) (0 + i * 1) (u8M x) = some (keyM (k.set i x)) := by
 show (match nthM (u8s k) i with | some m => bif Nat.ble (i * 1) (0 + i * 1) && (u8M x).idFree then (match setPO m [] (0 + i * 1 - i * 1) (u8M x) with | some m' => some (MV.arr 32 1 (setL (u8s k) i m')) | none => none) else none | none => none) = _
 have e : nthM (u8s k) i = some (u8M (k.getD i 0)) := by rw [nthM_eq]; exact u8_at h
 rw [e]
 have e2 : Nat.ble (i * 1) (0 + i * 1) = true := by simp
 simp only [e2]
 simp [setPO, setL_eq, MV.idFree, MV.size, MV.isAgg, keyM, u8s, List.map_set]
theorem byteAt_eq (n k : Nat) (hk : k < 8) : IntKind.u8.wrap (((n : Int) * 8).fdiv (2 ^ (min (8 * (7 - (k : Int))).toNat IntKind.u64.bits))) = ((byteAt (8 * n) k).toNat : Int) := by
 have e : min (8 * (7 - (k : Int))).toNat IntKind.u64.bits = 8 * (7 - k) := by simp [IntKind.bits]; omega
 have e2 : ((n : Int) * 8) = ((8 * n : Nat) : Int) := by omega
 rw [e, e2, Int.fdiv_eq_ediv_of_nonneg _ (Int.le_of_lt (Int.pow_pos (by omega))), w8, byteAt, UInt8.toNat_ofNat']
 have e3 : (2 : Int) ^ (8 * (7 - k)) = ((2 ^ (8 * (7 - k)) : Nat) : Int) := by rw [Int.natCast_pow]; rfl
 rw [e3, ← Int.natCast_ediv]
 exact (Int.natCast_emod _ 256).symm
theorem sha_m (b : List UInt8) (hb : b.length < 536870912) : SemC Tryz.prog G 36 [.sl b.length (u8s b)] (keyM (shaS b)) := by
 have hp : padN b.length < 64 := by unfold padN; omega
 refine scq seat Tryz.func36 69 ?_
 refine gow0 ?_
 refine ⟨head_u8 b, ?_⟩
 refine gow0 ?_
 (refine And.intro ⟨pf, app_ok (by kernel_rfl) pf⟩ ?_; refine ⟨u8s b, sv pf, b.length, sv pf, ?_⟩)
 refine gow0 ?_
 (refine And.intro (Nat.le_refl _) ?_; refine ⟨_, rfl, ?_⟩; refine And.intro ⟨pf, app_ok (by kernel_rfl) pf⟩ ?_; refine ⟨u8s (b ++ [128]), sv pf, b.length + 1, sv pf, ?_⟩)
 refine gow0 ?_
 refine ⟨Nat, fun k => [(3, .ms 1 1 0 (b.length + 1 + k)), (2, .ptr 0 32 0 0 []), (0, .sl b.length (u8s b))], fun k => [(0, ⟨25, 32, false, 0, [keyM (List.replicate 32 0)]⟩), (1, ⟨5, 1, true, 0, u8s (b ++ [128] ++ List.replicate k 0)⟩)], 2, fun k => k ≤ padN b.length, fun k => padN b.length - k, ⟨0, Nat.zero_le _, (vm [(0, _), (1, _)] [])⟩, ?_⟩
 intro k hk
 refine gow0 ?_
 refine ⟨fun hc => ?_, fun hc => ?_⟩
 ·have hk' : k < padN b.length := by
   have hc : ((b.length + 1 + k : Nat) : Int).tmod (64 : Int) ≠ 56 := by simpa using hc
   have e : ((b.length + 1 + k : Nat) : Int).tmod (64 : Int) = (((b.length + 1 + k) % 64 : Nat) : Int) := rfl
   unfold padN at hk ⊢
   omega
  refine gow0 ?_
  (refine And.intro (Nat.le_refl _) ?_; refine ⟨_, rfl, ?_⟩; refine And.intro ⟨pf, app_ok (by kernel_rfl) pf⟩ ?_; refine ⟨u8s (b ++ [128] ++ List.replicate (k + 1) 0), sv pf, b.length + 1 + (k + 1), sv pf, ?_⟩)
  refine gow0 ?_
  exact ⟨k + 1, by show k + 1 ≤ padN b.length; omega, by show padN b.length - (k + 1) < padN b.length - k; omega, (vm [(0, _), (1, _)] [])⟩
 ·have hk' : k = padN b.length := by
   have hc : ((b.length + 1 + k : Nat) : Int).tmod (64 : Int) = 56 := by simpa using hc
   have e : ((b.length + 1 + k : Nat) : Int).tmod (64 : Int) = (((b.length + 1 + k) % 64 : Nat) : Int) := rfl
   unfold padN at hk ⊢
   omega
  subst hk'
  refine gow0 ?_
  refine ⟨Nat, fun k => [(5, .int .i64 (7 - (k : Int))), (4, .int .u64 ((b.length : Int) * 8)), (3, .ms 1 1 0 (b.length + 1 + padN b.length + k)), (2, .ptr 0 32 0 0 [])], fun k => [(0, ⟨25, 32, false, 0, [keyM (List.replicate 32 0)]⟩), (1, ⟨5, 1, true, 0, u8s (b ++ [128] ++ List.replicate (padN b.length) 0 ++ (List.range k).map (byteAt (8 * b.length)))⟩)], 2, fun k => k ≤ 8, fun k => 8 - k, ⟨0, Nat.zero_le _, (vm [(0, _), (1, _)] [])⟩, ?_⟩
  intro k hk
  refine gow0 ?_
  refine ⟨fun hc => ?_, fun hc => ?_⟩
  ·have hk' : k < 8 := by have := of_decide_eq_true hc; omega
   (repeat ((try conv => whnf); first | (with_reducible refine ⟨_, sv (byteAt_eq _ _ hk'), ?_⟩) | (with_reducible refine Rt.go ?_) | (with_reducible refine Rs.go ?_) | (with_reducible refine And.intro (Nat.zero_le _) ?_) | (with_reducible refine And.intro rfl ?_) | (with_reducible refine ⟨fun _ => ?_, fun h => Bool.noConfusion h⟩) | (with_reducible refine ⟨fun h => Bool.noConfusion h, fun _ => ?_⟩) | (with_reducible refine ⟨_, sv (add32 _ _), ?_⟩) | (with_reducible refine ⟨_, sv (xor32 _ _), ?_⟩) | (with_reducible refine ⟨_, sv (and32 _ _), ?_⟩) | (with_reducible refine ⟨_, sv (or32 _ _), ?_⟩) | (with_reducible refine ⟨_, sv (not32 _), ?_⟩) | (with_reducible refine ⟨_, sv (shlI _ _ (by omega) (by omega)), ?_⟩) | (with_reducible refine ⟨_, sv (shrI _ _ (by omega) (by omega)), ?_⟩) | (with_reducible refine ⟨_, sv (conv832 _), ?_⟩) | (with_reducible refine ⟨_, sv (conv328 _), ?_⟩) | (with_reducible refine ⟨_, sv (wrap_in _ (by omega) (by omega)), ?_⟩) | (with_reducible refine ⟨_, sv (wrapu_in _ (by omega) (by omega)), ?_⟩) | (with_reducible refine ⟨_, sv (wrap8_in _ (by omega) (by omega)), ?_⟩) | refine ⟨_, rfl, ?_⟩ | refine And.intro (show okDraw _ _ = true by kernel_rfl) ?_ | refine And.intro (by omega) ?_))
   (refine And.intro (Nat.le_refl _) ?_; refine ⟨_, rfl, ?_⟩; refine And.intro ⟨pf, app_ok (by kernel_rfl) pf⟩ ?_; refine ⟨u8s (b ++ [128] ++ List.replicate (padN b.length) 0 ++ (List.range (k + 1)).map (byteAt (8 * b.length))), sv pf, b.length + 1 + padN b.length + (k + 1), sv pf, ?_⟩)
   refine gow0 ?_
   exact ⟨k + 1, by show k + 1 ≤ 8; omega, by show 8 - (k + 1) < 8 - k; omega, (vm [(0, _), (1, _)] [])⟩
  ·have hk' : k = 8 := by have := of_decide_eq_false hc; omega
   subst hk'
   have hm : b ++ [128] ++ List.replicate (padN b.length) 0 ++ (List.range 8).map (byteAt (8 * b.length)) = padS b := rfl
   have hl := padS_len b
   have hd := padS_div b
   have hlm : b.length + 1 + padN b.length + 8 = (padS b).length := by omega
   unfold shaS
   dsimp only
   rw [hm, hlm]
   generalize (padS b).length / 64 = q at *
   have hq : (padS b).length < 2000000000 := by omega
   generalize padS b = m at *
   refine gow0 ?_
   refine ⟨Nat, fun k => [(7, .int .i64 ((64 * k : Nat) : Int)), (6, .ptr 1 8 0 0 []), (3, .sl m.length (u8s m)), (2, .ptr 0 32 0 0 [])], fun k => [(0, ⟨25, 32, false, 0, [keyM (List.replicate 32 0)]⟩), (1, ⟨137, 8, false, 0, [(absorb initW m k).toM]⟩)], 2, fun k => k ≤ q, fun k => q - k, ⟨0, Nat.zero_le _, (vm [(0, _), (1, _)] [(1, m.length)])⟩, ?_⟩
   intro k hk
   refine gow0 ?_
   refine ⟨fun hc => ?_, fun hc => ?_⟩
   ·have hk' : k < q := by have := of_decide_eq_true hc; omega
    refine gow0 ?_
    refine ⟨[(0, false), (1, false), (2, false), (3, false), (4, false), (5, false), (6, false), (7, false)], ?_⟩
    refine gow0 ?_
    refine ⟨_, bounds_at (a := 64 * k) (c := 64 * k + 64) rfl (by omega) (by omega) (by omega), head_u8 m, ?_⟩
    refine ⟨u8s ((m.drop (64 * k)).take 64), sv ((cut_u8 _ _ _).trans (by rw [show 64 * k + 64 - 64 * k = 64 by omega])), 64, sv (by omega), ?_⟩
    refine ⟨_, block_m _ _ (by simp; omega), ?_⟩
    refine gow0 ?_
    exact ⟨k + 1, by show k + 1 ≤ q; omega, by show q - (k + 1) < q - k; omega, (vm [(0, _), (1, _)] [])⟩
   ·have hk' : k = q := by have := of_decide_eq_false hc; omega
    subst hk'
    dsimp only
    generalize absorb initW m k = s at *
    refine gow0 ?_
    refine ⟨Nat, fun i => [(52, .int .i64 i), (8, .ptr 2 32 0 0 []), (6, .ptr 1 8 0 0 []), (2, .ptr 0 32 0 0 [])], fun i => [(0, ⟨25, 32, false, 0, [keyM (List.replicate 32 0)]⟩), (1, ⟨137, 8, false, 0, [s.toM]⟩), (2, ⟨25, 32, false, 0, [keyM (outK s i)]⟩)], 3, fun i => i ≤ 32, fun i => 32 - i, ⟨0, Nat.zero_le _, (vm [(0, _), (1, _), (2, _)] [])⟩, ?_⟩
    intro i hi
    refine gow0 ?_
    refine ⟨fun hc => ?_, fun hc => ?_⟩
    ·have hi' : i < 32 := by have := of_decide_eq_true hc; omega
     have hl := outK_len s i
     have e1 : IntKind.i64.wrap ((i : Int).tmod 4 * 8) = ((i % 4 * 8 : Nat) : Int) := by
      have e : (i : Int).tmod 4 = ((i % 4 : Nat) : Int) := rfl
      rw [e, wrap_in _ (by omega) (by omega)]; omega
     have e2 : IntKind.i64.wrap (24 - ((i % 4 * 8 : Nat) : Int)) = ((24 - i % 4 * 8 : Nat) : Int) := by
      rw [wrap_in _ (by omega) (by omega)]; omega
     (repeat ((try conv => whnf); first | (with_reducible refine ⟨_, sv (quo_nat i 4 (by omega)), ?_⟩) | (with_reducible refine Rt.go ?_) | (with_reducible refine Rs.go ?_) | (with_reducible refine And.intro (Nat.zero_le _) ?_) | (with_reducible refine And.intro rfl ?_) | (with_reducible refine ⟨fun _ => ?_, fun h => Bool.noConfusion h⟩) | (with_reducible refine ⟨fun h => Bool.noConfusion h, fun _ => ?_⟩) | (with_reducible refine ⟨_, sv (add32 _ _), ?_⟩) | (with_reducible refine ⟨_, sv (xor32 _ _), ?_⟩) | (with_reducible refine ⟨_, sv (and32 _ _), ?_⟩) | (with_reducible refine ⟨_, sv (or32 _ _), ?_⟩) | (with_reducible refine ⟨_, sv (not32 _), ?_⟩) | (with_reducible refine ⟨_, sv (shlI _ _ (by omega) (by omega)), ?_⟩) | (with_reducible refine ⟨_, sv (shrI _ _ (by omega) (by omega)), ?_⟩) | (with_reducible refine ⟨_, sv (conv832 _), ?_⟩) | (with_reducible refine ⟨_, sv (conv328 _), ?_⟩) | (with_reducible refine ⟨_, sv (wrap_in _ (by omega) (by omega)), ?_⟩) | (with_reducible refine ⟨_, sv (wrapu_in _ (by omega) (by omega)), ?_⟩) | (with_reducible refine ⟨_, sv (wrap8_in _ (by omega) (by omega)), ?_⟩) | refine ⟨_, rfl, ?_⟩ | refine And.intro (show okDraw _ _ = true by kernel_rfl) ?_ | refine And.intro (by omega) ?_))
     refine ⟨_, idx_of (i / 4) rfl (by omega), ?_⟩
     refine gow0 ?_
     refine ⟨_, get8 _ (by omega), ?_⟩
     (repeat ((try conv => whnf); first | (with_reducible refine ⟨_, sv e1, ?_⟩) | (with_reducible refine ⟨_, sv e2, ?_⟩) | (with_reducible refine ⟨_, sv (shr32 _ (24 - i % 4 * 8) (by omega)), ?_⟩) | (with_reducible refine Rt.go ?_) | (with_reducible refine Rs.go ?_) | (with_reducible refine And.intro (Nat.zero_le _) ?_) | (with_reducible refine And.intro rfl ?_) | (with_reducible refine ⟨fun _ => ?_, fun h => Bool.noConfusion h⟩) | (with_reducible refine ⟨fun h => Bool.noConfusion h, fun _ => ?_⟩) | (with_reducible refine ⟨_, sv (add32 _ _), ?_⟩) | (with_reducible refine ⟨_, sv (xor32 _ _), ?_⟩) | (with_reducible refine ⟨_, sv (and32 _ _), ?_⟩) | (with_reducible refine ⟨_, sv (or32 _ _), ?_⟩) | (with_reducible refine ⟨_, sv (not32 _), ?_⟩) | (with_reducible refine ⟨_, sv (shlI _ _ (by omega) (by omega)), ?_⟩) | (with_reducible refine ⟨_, sv (shrI _ _ (by omega) (by omega)), ?_⟩) | (with_reducible refine ⟨_, sv (conv832 _), ?_⟩) | (with_reducible refine ⟨_, sv (conv328 _), ?_⟩) | (with_reducible refine ⟨_, sv (wrap_in _ (by omega) (by omega)), ?_⟩) | (with_reducible refine ⟨_, sv (wrapu_in _ (by omega) (by omega)), ?_⟩) | (with_reducible refine ⟨_, sv (wrap8_in _ (by omega) (by omega)), ?_⟩) | refine ⟨_, rfl, ?_⟩ | refine And.intro (show okDraw _ _ = true by kernel_rfl) ?_ | refine And.intro (by omega) ?_))
     refine ⟨_, idx_at (by omega), ?_⟩
     refine gow0 ?_
     refine ⟨_, key_set (by omega) _, ?_⟩
     refine gow0 ?_
     exact ⟨i + 1, by show i + 1 ≤ 32; omega, by show 32 - (i + 1) < 32 - i; omega, (vm [(0, _), (1, _), (2, _)] [])⟩
    ·have hi' : i = 32 := by have := of_decide_eq_false hc; omega
     subst hi'
     refine gow0 ?_
     rfl
end
section
variable {G : GS}
attribute [local irreducible] vOpsN vOpsG vOpsD vOpGD NextD vC SeqQ BlockQ
theorem flds_at {l : List Fld} {k : Nat} (hk : k < l.length) : idxL (l.map fldM) l.length (k : Int) = some (fldM l[k]) := index_at hk (by simp [hk])
theorem msgS_succ (l : List Fld) {k : Nat} (hk : k < l.length) : msgS (l.take (k + 1)) = msgS (l.take k) ++ fieldS l[k] := by
 unfold msgS
 rw [List.take_succ_eq_append_getElem hk, List.map_append, List.flatten_append]; simp
theorem msgS_take (l : List Fld) (k : Nat) : (msgS (l.take k)).length ≤ (msgS l).length := by
 have : msgS (l.take k) ++ msgS (l.drop k) = msgS l := by
  unfold msgS
  rw [← List.flatten_append, ← List.map_append, List.take_append_drop]
 rw [← this, List.length_append]; omega
theorem fieldS_bytes {f : Fld} (hf : okF f) : f.bytes.length ≤ (fieldS f).length := by
 unfold okF at hf
 unfold fieldS
 split
 ·have : f.bytes = [] := by
   rcases hf.2.2 with h | h
   ·exact h.2.1
   ·omega
  rw [this]; simp
 ·simp only [List.length_append]; omega
theorem message_r (l : List Fld) (hl : ∀ f ∈ l, okF f) (hm : (msgS l).length < 200000000) (hll : l.length < 1000000) : SemR Tryz.prog G 66 [.sl l.length (l.map fldM)] [] 0 (.sl (msgS l).length (u8s (msgS l))) [] 0 := by
 refine srq seat Tryz.func66 20 ?_
 refine go1 ?_
 refine c_loop Nat (fun k => [(8, .int .i64 k), (7, .int .i64 l.length), (6, .sl l.length (l.map fldM)), (3, .ms 0 1 0 (msgS (l.take k)).length)]) (fun k => [(0, ⟨5, 1, true, 0, u8s (msgS (l.take k))⟩)]) 1 (fun k => k ≤ l.length) (fun k => l.length - k) 0 (Nat.zero_le _) (by rw [List.take_zero]; exact (vm [] [])) ?_
 intro k hk
 try dsimp only
 refine go1 ?_
 (refine c_cond rfl ?_ ?_ <;> intro h)
 ·have hk' : k < l.length := by have := of_decide_eq_true h; omega
  have hs := msgS_succ l hk'
  have hle := msgS_take l (k + 1)
  have hfo := hl _ (List.getElem_mem hk')
  have hfb := fieldS_bytes hfo
  have hel := flds_at hk'
  generalize l[k] = f at *
  have hlen : (msgS (l.take (k + 1))).length = (msgS (l.take k)).length + (fieldS f).length := by rw [hs, List.length_append]
  have c1 := field_r (G := G) (msgS (l.take k)) f hfo (by omega)
  rw [← hs] at c1
  unfold rowB at c1
  generalize msgS (l.take k) = p at *
  (have fct := SomF.mk (hel); refine go1 ?_)
  refine g_callR1 rfl hhq rfl (c1) [] [(0, p.length)] ⟨rfl, mm, rfl, lm, mm⟩ rfl rfl ?_
  refine go1 ?_
  exact ⟨k + 1, by show k + 1 ≤ l.length; omega, by show l.length - (k + 1) < l.length - k; omega, (by dsimp only; exact (vm [(0, _)] []))⟩
 ·have hk' : k = l.length := by have := of_decide_eq_false h; omega
  subst hk'
  rw [List.take_length]
  generalize msgS l = p at *
  refine go1 ?_
  refine ⟨[_], [], [(0, p.length)], rfl, rfl, ?_, rfl, ⟨?_, trivial⟩, ?_⟩
  ·exact ⟨by show p.length ≤ (u8s p).length; simp [u8s], trivial⟩
  ·exact rv
  ·exact mm
def halfS : Nat → Nat → Nat → Nat
 | 0, _, k => k
 | f + 1, n, k => if k < n - k then halfS f n (k * 2) else k
theorem halfS_lt : ∀ (f n k : Nat), k < n → 1 ≤ k → 1 ≤ halfS f n k ∧ halfS f n k < n
 | 0, n, k, h, h1 => ⟨h1, h⟩
 | f + 1, n, k, h, h1 => by
  rw [halfS]
  split
  ·exact halfS_lt f n (k * 2) (by omega) (by omega)
  ·exact ⟨h1, h⟩
def hlf (n : Nat) : Nat := halfS n n 1
theorem hlf_lt {n : Nat} (h : 2 ≤ n) : 1 ≤ hlf n ∧ hlf n < n := halfS_lt n n 1 (by omega) (by omega)
theorem half_m (n : Nat) (h2 : 1 ≤ n) (hn : n < 4000000000) : SemC Tryz.prog G 59 [.int .i64 n] (.int .i64 (hlf n)) := by
 generalize hr : hlf n = r
 unfold hlf at hr
 refine scq seat Tryz.func59 12 ?_
 refine go1 ?_
 refine c_loop (Nat × Nat) (fun x => [(3, .int .i64 x.2), (0, .int .i64 n)]) (fun _ => []) 0 (fun x => halfS x.1 n x.2 = r ∧ 1 ≤ x.2 ∧ x.2 ≤ n ∧ n ≤ x.1 + x.2) (fun x => x.1) (n, 1) ⟨hr, by dsimp only; omega, by dsimp only; omega, by dsimp only; omega⟩ (by dsimp only; exact (vm [] [])) ?_
 rintro ⟨f, k⟩ ⟨hk, h1, h3, h4⟩
 try dsimp only
 dsimp only at hk h1 h3 h4
 refine go1 ?_
 (refine c_cond rfl ?_ ?_ <;> intro h)
 ·have hlt : k < n - k := by have := of_decide_eq_true h; omega
  match f, hk, h4 with
  | 0, hk, h4 => exfalso; omega
  | f + 1, hk, h4 =>
  rw [halfS, if_pos hlt] at hk
  refine go1 ?_
  refine ⟨(f, k * 2), ⟨hk, by dsimp only; omega, by dsimp only; omega, by dsimp only; omega⟩, by show f < f + 1; omega, ?_⟩
  dsimp only
  rw [show ((k * 2 : Nat) : Int) = (k : Int) * 2 by omega]
  exact (vm [] [])
 ·have hlt : ¬ k < n - k := by have := of_decide_eq_false h; omega
  have : halfS f n k = k := by cases f with | zero => rfl | succ f => rw [halfS, if_neg hlt]
  rw [this] at hk
  subst hk
  refine go1 ?_
  refine go0 ?_
  rfl
theorem rleaf_m (b : List UInt8) (hb : b.length < 400000000) : SemC Tryz.prog G 58 [.sl b.length (u8s b)] (keyM (shaS (0 :: b))) := by
 have c1 := sha_m (G := G) (0 :: b) (by simp only [List.length_cons]; omega)
 rw [List.length_cons] at c1
 refine scq seat Tryz.func58 7 ?_
 refine go1 ?_
 ((with_reducible apply g_mem); (case hq => exact rfl); (case hv => exact rfl); (case he => (intro R hR; refine sms hR ?_; refine And.intro (head_b b) ?_; refine And.intro ⟨(by simp [setL, repM]), app_ok (by kernel_rfl) pf⟩ ?_; refine ⟨u8s (0 :: b), sv (by simp [u8s, setL, repM]), b.length + 1, sv pf, ?_⟩; exact hR)); (case hd => exact rfl))
 refine go1 ?_
 refine g_call1 rfl hhq rfl (src (c1)) rfl [(3, b.length + 1)] mm lm ?_
 refine go1 ?_
 refine go0 ?_
 rfl
end
section
variable {G : GS}
attribute [local irreducible] vOpsN vOpsG vOpsD vOpGD NextD vC SeqQ BlockQ
theorem cut_key {a : List UInt8} (ha : a.length = 32) : cutL (u8s a) 0 32 = u8s a := by rw [cut_u8, List.drop_zero, List.take_of_length_le (by omega)]
theorem rinner_m (a b : List UInt8) (ha : a.length = 32) (hb : b.length = 32) : SemC Tryz.prog G 60 [keyM a, keyM b] (keyM (shaS (1 :: (a ++ b)))) := by
 have c1 := sha_m (G := G) (1 :: (a ++ b)) (by simp only [List.length_cons, List.length_append]; omega)
 have hql : (1 :: (a ++ b) : List UInt8).length = 65 := by simp only [List.length_cons, List.length_append]; omega
 generalize hq : (1 :: (a ++ b) : List UInt8) = q at *
 refine scq seat Tryz.func60 11 ?_
 refine go1 ?_
 refine c_draw [(0, false), (1, false), (2, false), (3, false), (4, false), (5, true), (6, false)] ?_
 refine go1 ?_
 ((with_reducible apply gd_mem); (case hv => exact rfl); (case he => (intro R hR; refine sms hR ?_; refine And.intro (head_cut a 0 32) ?_; refine And.intro ⟨(by simp [setL, repM]), app_ok (by kernel_rfl) pf⟩ ?_; refine ⟨u8s (1 :: a), sv (by rw [cut_key ha]; simp [u8s, setL, repM]), 33, sv pf, ?_⟩; exact hR)); (case hd => exact rfl))
 refine go1 ?_
 ((with_reducible apply gd_mem); (case hv => exact rfl); (case he => (intro R hR; refine sms hR ?_; refine And.intro (head_cut b 0 32) ?_; refine And.intro ⟨(by simp [u8s, ha]), app_ok (by kernel_rfl) pf⟩ ?_; refine ⟨u8s q, sv (by rw [cut_key hb, ← hq]; simp [u8s]), q.length, sv pf, ?_⟩; exact hR)); (case hd => exact rfl))
 refine go1 ?_
 refine gd_call1 rfl hhq rfl [7] (src (c1)) rfl [(7, q.length)] mm lm rfl ?_
 refine go1 ?_
 refine go0 ?_
 rfl
def rawM (b : List UInt8) : MV := .sl b.length (u8s b)
def rootF : Nat → List (List UInt8) → List UInt8
 | 0, _ => shaS []
 | f + 1, l => match l with
  | [] => shaS []
  | [b] => shaS (0 :: b)
  | l => shaS (1 :: (rootF f (l.take (hlf l.length)) ++ rootF f (l.drop (hlf l.length))))
def rootS (l : List (List UInt8)) : List UInt8 := rootF l.length l
theorem rootF_two (f : Nat) {l : List (List UInt8)} (h : 2 ≤ l.length) : rootF (f + 1) l = shaS (1 :: (rootF f (l.take (hlf l.length)) ++ rootF f (l.drop (hlf l.length)))) := by
 match l, h with
 | a :: b :: r, _ => rfl
theorem rootF_len : ∀ (f : Nat) (l : List (List UInt8)), (rootF f l).length = 32
 | 0, _ => shaS_len _
 | _f + 1, l => match l with
  | [] => shaS_len _
  | [_] => shaS_len _
  | _ :: _ :: _ => shaS_len _
theorem rootF_more : ∀ (f g : Nat) (l : List (List UInt8)), l.length ≤ f → l.length ≤ g → rootF f l = rootF g l
 | 0, g, l, h, _ => by
  obtain rfl := List.length_eq_zero_iff.1 (by omega : l.length = 0)
  cases g <;> rfl
 | f + 1, 0, l, _, h => by
  obtain rfl := List.length_eq_zero_iff.1 (by omega : l.length = 0)
  rfl
 | f + 1, g + 1, l, hf, hg => by
  match l with
  | [] => rfl
  | [b] => rfl
  | a :: b :: r =>
   have h2 : 2 ≤ (a :: b :: r).length := by simp only [List.length_cons]; omega
   rw [rootF_two f h2, rootF_two g h2]
   have := hlf_lt h2
   rw [rootF_more f g _ (by rw [List.length_take]; omega) (by rw [List.length_take]; omega), rootF_more f g _ (by rw [List.length_drop]; omega) (by rw [List.length_drop]; omega)]
theorem rootS_two {l : List (List UInt8)} (h : 2 ≤ l.length) : rootS l = shaS (1 :: (rootS (l.take (hlf l.length)) ++ rootS (l.drop (hlf l.length)))) := by
 obtain ⟨f, hf⟩ : ∃ f, l.length = f + 1 := ⟨l.length - 1, by omega⟩
 have := hlf_lt h
 unfold rootS
 rw [hf, rootF_two f h]
 rw [rootF_more f (l.take (hlf l.length)).length _ (by rw [List.length_take]; omega) (Nat.le_refl _), rootF_more f (l.drop (hlf l.length)).length _ (by rw [List.length_drop]; omega) (Nat.le_refl _), ← hf]
theorem rootS_len (l : List (List UInt8)) : (rootS l).length = 32 := rootF_len _ _
theorem cut_take {α : Type} (f : α → MV) (l : List α) (k : Nat) : cutL (l.map f) 0 k = (l.take k).map f := by simp [cutL, List.map_take]
theorem cut_drop {α : Type} (f : α → MV) (l : List α) (k : Nat) : cutL (l.map f) k l.length = (l.drop k).map f := by
 unfold cutL
 rw [List.take_of_length_le (by rw [List.length_drop, List.length_map]; omega), List.map_drop]
theorem head_raw : ∀ (l : List (List UInt8)), headSize (l.map rawM) 1 = true
 | [] => rfl
 | _ :: _ => rfl
theorem raws_at {l : List (List UInt8)} {k : Nat} (hk : k < l.length) : idxL (l.map rawM) l.length (k : Int) = some (rawM l[k]) := index_at hk (by simp [hk])
theorem rroot_m : ∀ (f : Nat) (l : List (List UInt8)), l.length ≤ f → l.length < 1000000 → (∀ b ∈ l, b.length < 300000000) → SemC Tryz.prog G 31 [.sl l.length (l.map rawM)] (keyM (rootS l)) := by
 intro f
 induction f with
 | zero =>
  intro l hl _ _
  obtain rfl := List.length_eq_zero_iff.1 (by omega : l.length = 0)
  have c1 := sha_m (G := G) [] (by simp)
  refine scq seat Tryz.func31 27 ?_
  refine go1 ?_
  refine g_call2 rfl hhq rfl (src (c1)) rfl lm ?_
  refine go1 ?_
  refine go0 ?_
  rfl
 | succ f ih =>
  intro l hl hn hb
  match hh : l with
  | [] =>
   have c1 := sha_m (G := G) [] (by simp)
   refine scq seat Tryz.func31 27 ?_
   refine go1 ?_
   refine g_call2 rfl hhq rfl (src (c1)) rfl lm ?_
   refine go1 ?_
   refine go0 ?_
   rfl
  | [b] =>
   have c1 := rleaf_m (G := G) b (by have := hb b (by simp); omega)
   refine scq seat Tryz.func31 27 ?_
   refine go1 ?_
   refine g_call2 rfl hhq rfl (src (c1)) rfl lm ?_
   refine go1 ?_
   refine go0 ?_
   rfl
  | a :: b :: r =>
   rw [← hh] at hl hn hb ⊢
   have h2 : 2 ≤ l.length := by rw [hh]; simp only [List.length_cons]; omega
   clear hh
   obtain ⟨k1, k2⟩ := hlf_lt h2
   have ch := half_m (G := G) l.length (by omega) (by omega)
   have c1 := ih (l.take (hlf l.length)) (by rw [List.length_take]; omega) (by rw [List.length_take]; omega) fun x hx => hb x (List.mem_of_mem_take hx)
   have c2 := ih (l.drop (hlf l.length)) (by rw [List.length_drop]; omega) (by rw [List.length_drop]; omega) fun x hx => hb x (List.mem_of_mem_drop hx)
   have c3 := rinner_m (G := G) (rootS (l.take (hlf l.length))) (rootS (l.drop (hlf l.length))) (rootS_len _) (rootS_len _)
   rw [rootS_two h2]
   rw [List.length_take, Nat.min_eq_left (by omega), ← cut_take] at c1
   rw [List.length_drop, ← cut_drop] at c2
   generalize hlf l.length = k at *
   refine scq seat Tryz.func31 27 ?_
   refine go1 ?_
   (refine c_cond rfl ?_ ?_ <;> intro h)
   ·exfalso
    have : (l.length : Int) = 0 := by simpa using h
    omega
   refine go1 ?_
   (refine c_cond rfl ?_ ?_ <;> intro h)
   ·exfalso
    have : (l.length : Int) = 1 := by simpa using h
    omega
   refine go1 ?_
   refine g_call2 rfl hhq rfl (src (ch)) rfl lm ?_
   refine go1 ?_
   refine c_draw [(0, false), (1, false), (2, false), (3, true), (4, false), (5, false), (6, false), (7, true), (8, true), (9, false)] ?_
   (have fct := SomF.mk (bndHi (κ := .i64) (Nat.le_of_lt k2)); have fct := SomF.mk (bndLo (κ := .i64) (Nat.le_of_lt k2)); have fct := SideF.mk (head_raw l); refine go1 ?_)
   refine gd_call1 rfl hhq rfl [] (src (c1)) rfl [] trivial lm rfl ?_
   refine go1 ?_
   refine gd_call1 rfl hhq rfl [] (src (c2)) rfl [] trivial lm rfl ?_
   refine go1 ?_
   refine gd_call1 rfl hhq rfl [] (src (c3)) rfl [] trivial lm rfl ?_
   refine go1 ?_
   refine go0 ?_
   rfl
end
section
variable {G : GS}
attribute [local irreducible] vOpsN vOpsG vOpsD vOpGD NextD vC SeqQ BlockQ
theorem neg_u64 {n : Nat} (h0 : 0 < n) (h1 : n < 32) : IntKind.u64.wrap (0 - (n : Int)) = ((18446744073709551616 - n : Nat) : Int) := by rw [wu64]; omega
theorem and31 {n : Nat} (h0 : 0 < n) (h1 : n < 32) : IntKind.u64.wrap ((BitVec.ofInt IntKind.u64.bits ((18446744073709551616 - n : Nat) : Int) &&& BitVec.ofInt IntKind.u64.bits (31 : Int)).toNat : Int) = ((32 - n : Nat) : Int) := by
 have e : (18446744073709551616 - n) &&& 31 = 32 - n := by
  have := Nat.and_two_pow_sub_one_eq_mod (18446744073709551616 - n) 5
  rw [show (2 ^ 5 - 1 : Nat) = 31 by rfl] at this
  rw [this]; omega
 rw [BitVec.toNat_and, bv_of _ _ (show 18446744073709551616 - n < 2 ^ IntKind.u64.bits by show _ < 18446744073709551616; omega), show (BitVec.ofInt IntKind.u64.bits (31 : Int)).toNat = 31 by rfl, e, wu64]
 omega
theorem sub32 {n : Nat} (h0 : 0 < n) (h1 : n < 32) : IntKind.u64.wrap (32 - ((32 - n : Nat) : Int)) = (n : Int) := by rw [wu64]; omega
theorem rot_m (x : UInt32) (n : Nat) (h0 : 0 < n) (h1 : n < 32) : SemC Tryz.prog G 178 [u32M x, .int .i64 (0 - (n : Int))] (u32M (turnU x n)) := by
 have e : turnU x n = (x <<< UInt32.ofNat (32 - n)) ||| (x >>> UInt32.ofNat n) := by unfold turnU; rw [UInt32.or_comm]
 refine scq seat Tryz.func178 17 ?_
 (have fct := EqF.mk (neg_u64 h0 h1); have fct := EqF.mk (and31 h0 h1); have fct := EqF.mk (sub32 h0 h1); have fct := EqF.mk (shl32 x (32 - n) (by omega)); have fct := EqF.mk (shr32 x n h1); refine gow1 ?_)
 refine go0 ?_
 exact congrArg u32M e.symm
theorem right_m' (x : UInt32) (n : Nat) (h0 : 0 < n) (h1 : n < 32) : SemC Tryz.prog G 150 [u32M x, .int .i64 n] (u32M (turnU x n)) := by
 have c1 := rot_m (G := G) x n h0 h1
 refine scq seat Tryz.func150 9 ?_
 refine go1 ?_
 refine g_call2 rfl hhq rfl (src (c1)) rfl lm ?_
 refine go1 ?_
 refine go0 ?_
 rfl
def bitsN (n : Nat) : Nat := if n = 0 then 0 else n.log2 + 1
theorem tab_at {l : List UInt8} (hl : l = (List.range 256).map fun i => UInt8.ofNat (bitsN i)) {j : Nat} (hj : j < 256) : idxS l (j : Int) = some (UInt8.ofNat (bitsN j)) := by
 subst hl
 unfold idxS
 rw [if_pos (by omega)]
 simp [hj]
theorem bitsN_spec {n : Nat} (h : 0 < n) : ∃ k, bitsN n = k + 1 ∧ 2 ^ k ≤ n ∧ n < 2 ^ (k + 1) := ⟨n.log2, by unfold bitsN; rw [if_neg (by omega)], Nat.log2_self_le (by omega), Nat.lt_log2_self⟩
theorem bitsN_small {n : Nat} (h : n < 256) : bitsN n ≤ 8 := by
 rcases Nat.eq_zero_or_pos n with rfl | h0
 ·decide
 ·obtain ⟨k, h1, h2, _⟩ := bitsN_spec h0
  rw [h1]
  rcases Nat.lt_or_ge k 8 with h3 | h3
  ·omega
  ·have : 2 ^ 8 ≤ 2 ^ k := Nat.pow_le_pow_right (by omega) h3
   omega
theorem shr8_64 (m : Nat) : ((m : Int).fdiv (2 ^ (min (8 : Int).toNat IntKind.u64.bits))) = ((m / 256 : Nat) : Int) := by
 rw [show min (8 : Int).toNat IntKind.u64.bits = 8 by rfl, Int.fdiv_eq_ediv_of_nonneg _ (by decide)]
 exact (Int.natCast_ediv m 256).symm
theorem len64_m (x : Nat) (h0 : 0 < x) (hx : x < 65536) : ∃ k, 2 ^ k ≤ x ∧ x < 2 ^ (k + 1) ∧ SemC Tryz.prog G 177 [.int .u64 x] (.int .i64 ((k + 1 : Nat) : Int)) := by
 by_cases hs : x < 256
 ·obtain ⟨k, hk, h1, h2⟩ := bitsN_spec h0
  have hy : x < 256 := hs
  have hb := bitsN_small hs
  refine ⟨k, h1, h2, ?_⟩
  rw [← hk]
  have hn : (UInt8.ofNat (bitsN x)).toNat = bitsN x := ofNat_toNat (by omega)
  refine scq seat Tryz.func177 25 ?_
  refine go1 ?_
  ((with_reducible apply c_cond); (case he => exact rfl); (all_goals intro h))
  ·exfalso
   have := of_decide_eq_true h
   omega
  refine go1 ?_
  ((with_reducible apply c_cond); (case he => exact rfl); (all_goals intro h))
  ·exfalso
   have := of_decide_eq_true h
   omega
  refine go1 ?_
  ((with_reducible apply c_cond); (case he => exact rfl); (all_goals intro h))
  ·exfalso
   have := of_decide_eq_true h
   omega
  refine go1 ?_
  ((with_reducible apply g_val); (case hq => exact rfl); (case hv => exact rfl); (case he => (intro R hR; (try conv => whnf); refine ⟨_, tab_at (by kernel_rfl) hy, ?_⟩; exact hR)); (case hd => exact rfl))
  rw [hn]
  refine go1 ?_
  refine go0 ?_
  exact congrArg (MV.int .i64) (by omega)
 ·have hd0 : 0 < x / 256 := by omega
  have hy : x / 256 < 256 := by omega
  obtain ⟨k, hk, h1, h2⟩ := bitsN_spec hd0
  have hb := bitsN_small hy
  have p1 : 2 ^ (k + 8) = 2 ^ k * 256 := by rw [Nat.pow_add]
  have p2 : 2 ^ (k + 8 + 1) = 2 ^ (k + 1) * 256 := by rw [show k + 8 + 1 = k + 1 + 8 by omega, Nat.pow_add]
  refine ⟨k + 8, by rw [p1]; omega, by rw [p2]; omega, ?_⟩
  rw [show k + 8 + 1 = 8 + bitsN (x / 256) by omega]
  have hn : (UInt8.ofNat (bitsN (x / 256))).toNat = bitsN (x / 256) := ofNat_toNat (by omega)
  have hsh := shr8_64 x
  generalize x / 256 = y at *
  refine scq seat Tryz.func177 25 ?_
  refine go1 ?_
  ((with_reducible apply c_cond); (case he => exact rfl); (all_goals intro h))
  ·exfalso
   have := of_decide_eq_true h
   omega
  refine go1 ?_
  ((with_reducible apply c_cond); (case he => exact rfl); (all_goals intro h))
  ·exfalso
   have := of_decide_eq_true h
   omega
  refine go1 ?_
  ((with_reducible apply c_cond); (case he => exact rfl); (all_goals intro h))
  case h2 =>
   exfalso
   have := of_decide_eq_false h
   omega
  (have fct := EqF.mk (hsh); refine go1 ?_)
  ((with_reducible apply g_val); (case hq => exact rfl); (case hv => exact rfl); (case he => (intro R hR; (try conv => whnf); refine ⟨_, tab_at (by kernel_rfl) hy, ?_⟩; exact hR)); (case hd => exact rfl))
  rw [hn]
  refine go1 ?_
  refine go0 ?_
  exact congrArg (MV.int .i64) (by omega)
theorem halfS_pow : ∀ (f n k : Nat), k < n → 1 ≤ k → n ≤ f + k → ∃ m, halfS f n k = k * 2 ^ m ∧ k * 2 ^ m < n ∧ n ≤ 2 * (k * 2 ^ m)
 | 0, n, k, h, h1, hf => by omega
 | f + 1, n, k, h, h1, hf => by
  rw [halfS]
  split
  ·obtain ⟨m, q1, q2, q3⟩ := halfS_pow f n (k * 2) (by omega) (by omega) (by omega)
   have e : k * 2 * 2 ^ m = k * 2 ^ (m + 1) := by rw [Nat.pow_succ, Nat.mul_assoc, Nat.mul_comm 2]
   rw [e] at q1 q2 q3
   exact ⟨m + 1, q1, q2, q3⟩
  ·exact ⟨0, by simp, by simpa using h, by simp; omega⟩
theorem hlf_pow {n k : Nat} (h2 : 2 ≤ n) (h1 : 2 ^ k ≤ n - 1) (h3 : n - 1 < 2 ^ (k + 1)) : hlf n = 2 ^ k := by
 obtain ⟨m, q1, q2, q3⟩ := halfS_pow n n 1 (by omega) (by omega) (by omega)
 rw [Nat.one_mul] at q1 q2 q3
 unfold hlf
 rw [q1]
 have e : m = k := by
  rcases Nat.lt_trichotomy m k with h | h | h
  ·have h4 : 2 ^ (m + 1) ≤ 2 ^ k := Nat.pow_le_pow_right (by omega) h
   rw [Nat.pow_succ] at h4; omega
  ·exact h
  ·have h4 : 2 ^ (k + 1) ≤ 2 ^ m := Nat.pow_le_pow_right (by omega) h
   omega
 rw [e]
theorem shl1 {k : Nat} (h : k < 62) : IntKind.i64.wrap (1 * 2 ^ (min (k : Int).toNat IntKind.i64.bits)) = ((2 ^ k : Nat) : Int) := by
 have e : min (k : Int).toNat IntKind.i64.bits = k := by simp [IntKind.bits]; omega
 have h4 : 2 ^ k ≤ 2 ^ 61 := Nat.pow_le_pow_right (by omega) (by omega)
 have e2 : (1 * 2 ^ k : Int) = ((2 ^ k : Nat) : Int) := by rw [Int.one_mul, Int.natCast_pow]; rfl
 rw [e, e2]
 generalize 2 ^ k = p at *
 exact wrap_in _ (by omega) (by omega)
theorem phalf_m (n : Nat) (h2 : 2 ≤ n) (hn : n < 65536) : SemC Tryz.prog G 97 [.int .i64 n] (.int .i64 (hlf n)) := by
 obtain ⟨k, h1, h3, c1⟩ := len64_m (G := G) (n - 1) (by omega) (by omega)
 rw [hlf_pow h2 h1 h3]
 have hk : k < 62 := by
  rcases Nat.lt_or_ge k 62 with h | h
  ·exact h
  ·have : 2 ^ 62 ≤ 2 ^ k := Nat.pow_le_pow_right (by omega) h
   omega
 have c2 : SemC Tryz.prog G 147 [.int .u64 ((n - 1 : Nat) : Int)] (.int .i64 ((k + 1 : Nat) : Int)) := by
  refine scq seat Tryz.func147 8 ?_
  refine go1 ?_
  refine g_call2 rfl hhq rfl (src (c1)) rfl lm ?_
  refine go1 ?_
  refine go0 ?_
  rfl
 have e : (((k + 1 : Nat) : Int)) - 1 = (k : Int) := by omega
 have hs := shl1 hk
 refine scq seat Tryz.func97 9 ?_
 refine go1 ?_
 refine g_call2 rfl hhq rfl (src (c2)) rfl lm ?_
 (repeat (first | ((with_reducible apply n_load); (case hp => exact rfl); (case hc => exact rfl); (case hm => exact rfl); (case hr => exact rfl); (case hk => kernel_rfl)) | ((with_reducible apply n_store); (case hp => exact rfl); (case hy => exact rfl); (case hc => exact rfl); (case hpe => exact Nat.zero_le _); (case hm => exact rfl); (case hs => exact rfl); (case hk => kernel_rfl)) | ((with_reducible apply n_box); (case hx => exact rfl); (case ht => exact rfl); (case hk => kernel_rfl)) | ((with_reducible apply n_alloc); (case ht => exact rfl); (case hz => exact rfl); (case hk => kernel_rfl)) | ((with_reducible apply n_val); (case hb => exact rfl); (case he => (intro R hR; first | ((with_reducible apply he_loadP); (case hp => exact rfl); (case hc => exact rfl); (case hm => exact rfl); (case hr => exact rfl); (case hk => kernel_rfl); (case hR => exact hR)) | ((with_reducible apply he_storeP); (case hp => exact rfl); (case hy => exact rfl); (case hc => exact rfl); (case hpe => exact Nat.zero_le _); (case hm => exact rfl); (case hs => exact rfl); (case hk => kernel_rfl); (case hR => exact hR)) | ((with_reducible apply he_box); (case hx => exact rfl); (case ht => exact rfl); (case hk => kernel_rfl); (case hR => exact hR)) | ((with_reducible apply he_alloc); (case ht => exact rfl); (case hz => exact rfl); (case hk => kernel_rfl); (case hR => exact hR)) | (repeat (first | exact hR | ((try conv => whnf); first | exact hR | (with_reducible refine ⟨_, sv ((wrap_in _ (by omega) (by omega)).trans e), ?_⟩) | (with_reducible refine ⟨_, sv (hs), ?_⟩) | (with_reducible refine And.intro (Nat.zero_le _) ?_) | (with_reducible refine And.intro rfl ?_) | (with_reducible refine ⟨_, idx_at (by omega), ?_⟩) | (with_reducible refine ⟨fun _ => ?_, fun h => Bool.noConfusion h⟩) | (with_reducible refine ⟨fun h => Bool.noConfusion h, fun _ => ?_⟩) | (with_reducible refine ⟨_, sv (wrap_in _ (by omega) (by omega)), ?_⟩) | (with_reducible refine ⟨_, sv (wrapu_in _ (by omega) (by omega)), ?_⟩) | (with_reducible refine ⟨_, sv (wrap8_in _ (by omega) (by omega)), ?_⟩) | (refine ⟨_, rfl, ?_⟩) | (refine And.intro (by omega) ?_))))))) | ((with_reducible apply n_nilS)) | ((with_reducible apply c_seqR)) | ((with_reducible apply n_app)) | ((with_reducible apply n_app0)) | ((with_reducible apply e_val); (case ho => exact rfl); (case hb => exact rfl); (case he => (intro R hR; first | ((with_reducible apply he_loadP); (case hp => exact rfl); (case hc => exact rfl); (case hm => exact rfl); (case hr => exact rfl); (case hk => kernel_rfl); (case hR => exact hR)) | ((with_reducible apply he_storeP); (case hp => exact rfl); (case hy => exact rfl); (case hc => exact rfl); (case hpe => exact Nat.zero_le _); (case hm => exact rfl); (case hs => exact rfl); (case hk => kernel_rfl); (case hR => exact hR)) | ((with_reducible apply he_box); (case hx => exact rfl); (case ht => exact rfl); (case hk => kernel_rfl); (case hR => exact hR)) | ((with_reducible apply he_alloc); (case ht => exact rfl); (case hz => exact rfl); (case hk => kernel_rfl); (case hR => exact hR)) | (repeat (first | exact hR | ((try conv => whnf); first | exact hR | (with_reducible refine ⟨_, sv ((wrap_in _ (by omega) (by omega)).trans e), ?_⟩) | (with_reducible refine ⟨_, sv (hs), ?_⟩) | (with_reducible refine And.intro (Nat.zero_le _) ?_) | (with_reducible refine And.intro rfl ?_) | (with_reducible refine ⟨_, idx_at (by omega), ?_⟩) | (with_reducible refine ⟨fun _ => ?_, fun h => Bool.noConfusion h⟩) | (with_reducible refine ⟨fun h => Bool.noConfusion h, fun _ => ?_⟩) | (with_reducible refine ⟨_, sv (wrap_in _ (by omega) (by omega)), ?_⟩) | (with_reducible refine ⟨_, sv (wrapu_in _ (by omega) (by omega)), ?_⟩) | (with_reducible refine ⟨_, sv (wrap8_in _ (by omega) (by omega)), ?_⟩) | (refine ⟨_, rfl, ?_⟩) | (refine And.intro (by omega) ?_))))))) | ((with_reducible apply d_end); (case ho => exact (show okDraw _ _ = true by kernel_rfl))) | ((with_reducible apply n_none); (case hb => exact rfl); (case he => (intro R hR; first | ((with_reducible apply he_loadP); (case hp => exact rfl); (case hc => exact rfl); (case hm => exact rfl); (case hr => exact rfl); (case hk => kernel_rfl); (case hR => exact hR)) | ((with_reducible apply he_storeP); (case hp => exact rfl); (case hy => exact rfl); (case hc => exact rfl); (case hpe => exact Nat.zero_le _); (case hm => exact rfl); (case hs => exact rfl); (case hk => kernel_rfl); (case hR => exact hR)) | ((with_reducible apply he_box); (case hx => exact rfl); (case ht => exact rfl); (case hk => kernel_rfl); (case hR => exact hR)) | ((with_reducible apply he_alloc); (case ht => exact rfl); (case hz => exact rfl); (case hk => kernel_rfl); (case hR => exact hR)) | (repeat (first | exact hR | ((try conv => whnf); first | exact hR | (with_reducible refine ⟨_, sv ((wrap_in _ (by omega) (by omega)).trans e), ?_⟩) | (with_reducible refine ⟨_, sv (hs), ?_⟩) | (with_reducible refine And.intro (Nat.zero_le _) ?_) | (with_reducible refine And.intro rfl ?_) | (with_reducible refine ⟨_, idx_at (by omega), ?_⟩) | (with_reducible refine ⟨fun _ => ?_, fun h => Bool.noConfusion h⟩) | (with_reducible refine ⟨fun h => Bool.noConfusion h, fun _ => ?_⟩) | (with_reducible refine ⟨_, sv (wrap_in _ (by omega) (by omega)), ?_⟩) | (with_reducible refine ⟨_, sv (wrapu_in _ (by omega) (by omega)), ?_⟩) | (with_reducible refine ⟨_, sv (wrap8_in _ (by omega) (by omega)), ?_⟩) | (refine ⟨_, rfl, ?_⟩) | (refine And.intro (by omega) ?_))))))) | ((with_reducible apply n_mem); (case hb => exact rfl); (case he => (intro R hR; first | ((with_reducible apply he_loadP); (case hp => exact rfl); (case hc => exact rfl); (case hm => exact rfl); (case hr => exact rfl); (case hk => kernel_rfl); (case hR => exact hR)) | ((with_reducible apply he_storeP); (case hp => exact rfl); (case hy => exact rfl); (case hc => exact rfl); (case hpe => exact Nat.zero_le _); (case hm => exact rfl); (case hs => exact rfl); (case hk => kernel_rfl); (case hR => exact hR)) | ((with_reducible apply he_box); (case hx => exact rfl); (case ht => exact rfl); (case hk => kernel_rfl); (case hR => exact hR)) | ((with_reducible apply he_alloc); (case ht => exact rfl); (case hz => exact rfl); (case hk => kernel_rfl); (case hR => exact hR)) | (repeat (first | exact hR | ((try conv => whnf); first | exact hR | (with_reducible refine ⟨_, sv ((wrap_in _ (by omega) (by omega)).trans e), ?_⟩) | (with_reducible refine ⟨_, sv (hs), ?_⟩) | (with_reducible refine And.intro (Nat.zero_le _) ?_) | (with_reducible refine And.intro rfl ?_) | (with_reducible refine ⟨_, idx_at (by omega), ?_⟩) | (with_reducible refine ⟨fun _ => ?_, fun h => Bool.noConfusion h⟩) | (with_reducible refine ⟨fun h => Bool.noConfusion h, fun _ => ?_⟩) | (with_reducible refine ⟨_, sv (wrap_in _ (by omega) (by omega)), ?_⟩) | (with_reducible refine ⟨_, sv (wrapu_in _ (by omega) (by omega)), ?_⟩) | (with_reducible refine ⟨_, sv (wrap8_in _ (by omega) (by omega)), ?_⟩) | (refine ⟨_, rfl, ?_⟩) | (refine And.intro (by omega) ?_))))))) | ((with_reducible apply n_valY); (case hs => exact rfl); (case hv => exact rfl); (case hb => exact rfl); (case he => (intro R hR; first | ((with_reducible apply he_loadP); (case hp => exact rfl); (case hc => exact rfl); (case hm => exact rfl); (case hr => exact rfl); (case hk => kernel_rfl); (case hR => exact hR)) | ((with_reducible apply he_storeP); (case hp => exact rfl); (case hy => exact rfl); (case hc => exact rfl); (case hpe => exact Nat.zero_le _); (case hm => exact rfl); (case hs => exact rfl); (case hk => kernel_rfl); (case hR => exact hR)) | ((with_reducible apply he_box); (case hx => exact rfl); (case ht => exact rfl); (case hk => kernel_rfl); (case hR => exact hR)) | ((with_reducible apply he_alloc); (case ht => exact rfl); (case hz => exact rfl); (case hk => kernel_rfl); (case hR => exact hR)) | (repeat (first | exact hR | ((try conv => whnf); first | exact hR | (with_reducible refine ⟨_, sv ((wrap_in _ (by omega) (by omega)).trans e), ?_⟩) | (with_reducible refine ⟨_, sv (hs), ?_⟩) | (with_reducible refine And.intro (Nat.zero_le _) ?_) | (with_reducible refine And.intro rfl ?_) | (with_reducible refine ⟨_, idx_at (by omega), ?_⟩) | (with_reducible refine ⟨fun _ => ?_, fun h => Bool.noConfusion h⟩) | (with_reducible refine ⟨fun h => Bool.noConfusion h, fun _ => ?_⟩) | (with_reducible refine ⟨_, sv (wrap_in _ (by omega) (by omega)), ?_⟩) | (with_reducible refine ⟨_, sv (wrapu_in _ (by omega) (by omega)), ?_⟩) | (with_reducible refine ⟨_, sv (wrap8_in _ (by omega) (by omega)), ?_⟩) | (refine ⟨_, rfl, ?_⟩) | (refine And.intro (by omega) ?_))))))) | ((with_reducible apply n_guardN); (case hs => exact rfl); (case hv => exact rfl); (case hd => exact rfl)) | ((with_reducible apply n_guardU); (case hs => exact rfl); (case hv => exact rfl); (case hd => exact rfl)) | ((with_reducible apply g_val); (case hq => exact rfl); (case hv => exact rfl); (case he => (intro R hR; first | ((with_reducible apply he_loadP); (case hp => exact rfl); (case hc => exact rfl); (case hm => exact rfl); (case hr => exact rfl); (case hk => kernel_rfl); (case hR => exact hR)) | ((with_reducible apply he_storeP); (case hp => exact rfl); (case hy => exact rfl); (case hc => exact rfl); (case hpe => exact Nat.zero_le _); (case hm => exact rfl); (case hs => exact rfl); (case hk => kernel_rfl); (case hR => exact hR)) | ((with_reducible apply he_box); (case hx => exact rfl); (case ht => exact rfl); (case hk => kernel_rfl); (case hR => exact hR)) | ((with_reducible apply he_alloc); (case ht => exact rfl); (case hz => exact rfl); (case hk => kernel_rfl); (case hR => exact hR)) | (repeat (first | exact hR | ((try conv => whnf); first | exact hR | (with_reducible refine ⟨_, sv ((wrap_in _ (by omega) (by omega)).trans e), ?_⟩) | (with_reducible refine ⟨_, sv (hs), ?_⟩) | (with_reducible refine And.intro (Nat.zero_le _) ?_) | (with_reducible refine And.intro rfl ?_) | (with_reducible refine ⟨_, idx_at (by omega), ?_⟩) | (with_reducible refine ⟨fun _ => ?_, fun h => Bool.noConfusion h⟩) | (with_reducible refine ⟨fun h => Bool.noConfusion h, fun _ => ?_⟩) | (with_reducible refine ⟨_, sv (wrap_in _ (by omega) (by omega)), ?_⟩) | (with_reducible refine ⟨_, sv (wrapu_in _ (by omega) (by omega)), ?_⟩) | (with_reducible refine ⟨_, sv (wrap8_in _ (by omega) (by omega)), ?_⟩) | (refine ⟨_, rfl, ?_⟩) | (refine And.intro (by omega) ?_)))))); (case hd => exact rfl)) | ((with_reducible apply g_none); (case hq => exact rfl); (case hv => exact rfl); (case he => (intro R hR; first | ((with_reducible apply he_loadP); (case hp => exact rfl); (case hc => exact rfl); (case hm => exact rfl); (case hr => exact rfl); (case hk => kernel_rfl); (case hR => exact hR)) | ((with_reducible apply he_storeP); (case hp => exact rfl); (case hy => exact rfl); (case hc => exact rfl); (case hpe => exact Nat.zero_le _); (case hm => exact rfl); (case hs => exact rfl); (case hk => kernel_rfl); (case hR => exact hR)) | ((with_reducible apply he_box); (case hx => exact rfl); (case ht => exact rfl); (case hk => kernel_rfl); (case hR => exact hR)) | ((with_reducible apply he_alloc); (case ht => exact rfl); (case hz => exact rfl); (case hk => kernel_rfl); (case hR => exact hR)) | (repeat (first | exact hR | ((try conv => whnf); first | exact hR | (with_reducible refine ⟨_, sv ((wrap_in _ (by omega) (by omega)).trans e), ?_⟩) | (with_reducible refine ⟨_, sv (hs), ?_⟩) | (with_reducible refine And.intro (Nat.zero_le _) ?_) | (with_reducible refine And.intro rfl ?_) | (with_reducible refine ⟨_, idx_at (by omega), ?_⟩) | (with_reducible refine ⟨fun _ => ?_, fun h => Bool.noConfusion h⟩) | (with_reducible refine ⟨fun h => Bool.noConfusion h, fun _ => ?_⟩) | (with_reducible refine ⟨_, sv (wrap_in _ (by omega) (by omega)), ?_⟩) | (with_reducible refine ⟨_, sv (wrapu_in _ (by omega) (by omega)), ?_⟩) | (with_reducible refine ⟨_, sv (wrap8_in _ (by omega) (by omega)), ?_⟩) | (refine ⟨_, rfl, ?_⟩) | (refine And.intro (by omega) ?_))))))) | ((with_reducible apply g_mem); (case hq => exact rfl); (case hv => exact rfl); (case he => (intro R hR; first | ((with_reducible apply he_loadP); (case hp => exact rfl); (case hc => exact rfl); (case hm => exact rfl); (case hr => exact rfl); (case hk => kernel_rfl); (case hR => exact hR)) | ((with_reducible apply he_storeP); (case hp => exact rfl); (case hy => exact rfl); (case hc => exact rfl); (case hpe => exact Nat.zero_le _); (case hm => exact rfl); (case hs => exact rfl); (case hk => kernel_rfl); (case hR => exact hR)) | ((with_reducible apply he_box); (case hx => exact rfl); (case ht => exact rfl); (case hk => kernel_rfl); (case hR => exact hR)) | ((with_reducible apply he_alloc); (case ht => exact rfl); (case hz => exact rfl); (case hk => kernel_rfl); (case hR => exact hR)) | (repeat (first | exact hR | ((try conv => whnf); first | exact hR | (with_reducible refine ⟨_, sv ((wrap_in _ (by omega) (by omega)).trans e), ?_⟩) | (with_reducible refine ⟨_, sv (hs), ?_⟩) | (with_reducible refine And.intro (Nat.zero_le _) ?_) | (with_reducible refine And.intro rfl ?_) | (with_reducible refine ⟨_, idx_at (by omega), ?_⟩) | (with_reducible refine ⟨fun _ => ?_, fun h => Bool.noConfusion h⟩) | (with_reducible refine ⟨fun h => Bool.noConfusion h, fun _ => ?_⟩) | (with_reducible refine ⟨_, sv (wrap_in _ (by omega) (by omega)), ?_⟩) | (with_reducible refine ⟨_, sv (wrapu_in _ (by omega) (by omega)), ?_⟩) | (with_reducible refine ⟨_, sv (wrap8_in _ (by omega) (by omega)), ?_⟩) | (refine ⟨_, rfl, ?_⟩) | (refine And.intro (by omega) ?_)))))); (case hd => exact rfl)) | ((with_reducible apply n_nil)) | ((with_reducible apply c_seq)) | ((with_reducible apply seqQ_n)) | ((with_reducible apply c_region)) | ((with_reducible apply c_condT); (case he => exact rfl)) | ((with_reducible apply c_condF); (case he => exact rfl)) | ((with_reducible apply c_block)) | ((with_reducible apply c_skip)) | ((with_reducible apply c_exit)) | ((with_reducible apply c_ret)) | ((with_reducible apply seqQ_x)) | ((with_reducible apply seqQ_r)) | ((with_reducible apply blockQ_n)) | ((with_reducible apply blockQ_r)) | ((with_reducible apply blockQ_x); (case hb => exact rfl)) | ((with_reducible apply blockQ_y); (case hb => exact rfl)) | ((with_reducible apply loopQ_x)) | ((with_reducible apply loopQ_r)) | ((with_reducible apply c_label)) | (with_reducible refine joinF_r (by assumption) ?_) | (with_reducible refine joinF_x (by assumption) ?_) | ((with_reducible apply e_none); (case ho => exact rfl); (case hb => exact rfl); (case he => (intro R hR; first | ((with_reducible apply he_loadP); (case hp => exact rfl); (case hc => exact rfl); (case hm => exact rfl); (case hr => exact rfl); (case hk => kernel_rfl); (case hR => exact hR)) | ((with_reducible apply he_storeP); (case hp => exact rfl); (case hy => exact rfl); (case hc => exact rfl); (case hpe => exact Nat.zero_le _); (case hm => exact rfl); (case hs => exact rfl); (case hk => kernel_rfl); (case hR => exact hR)) | ((with_reducible apply he_box); (case hx => exact rfl); (case ht => exact rfl); (case hk => kernel_rfl); (case hR => exact hR)) | ((with_reducible apply he_alloc); (case ht => exact rfl); (case hz => exact rfl); (case hk => kernel_rfl); (case hR => exact hR)) | (repeat (first | exact hR | ((try conv => whnf); first | exact hR | (with_reducible refine ⟨_, sv ((wrap_in _ (by omega) (by omega)).trans e), ?_⟩) | (with_reducible refine ⟨_, sv (hs), ?_⟩) | (with_reducible refine And.intro (Nat.zero_le _) ?_) | (with_reducible refine And.intro rfl ?_) | (with_reducible refine ⟨_, idx_at (by omega), ?_⟩) | (with_reducible refine ⟨fun _ => ?_, fun h => Bool.noConfusion h⟩) | (with_reducible refine ⟨fun h => Bool.noConfusion h, fun _ => ?_⟩) | (with_reducible refine ⟨_, sv (wrap_in _ (by omega) (by omega)), ?_⟩) | (with_reducible refine ⟨_, sv (wrapu_in _ (by omega) (by omega)), ?_⟩) | (with_reducible refine ⟨_, sv (wrap8_in _ (by omega) (by omega)), ?_⟩) | (refine ⟨_, rfl, ?_⟩) | (refine And.intro (by omega) ?_))))))) | ((with_reducible apply e_valY); (case ho => exact rfl); (case hs => exact rfl); (case hv => exact rfl); (case hb => exact rfl); (case he => (intro R hR; first | ((with_reducible apply he_loadP); (case hp => exact rfl); (case hc => exact rfl); (case hm => exact rfl); (case hr => exact rfl); (case hk => kernel_rfl); (case hR => exact hR)) | ((with_reducible apply he_storeP); (case hp => exact rfl); (case hy => exact rfl); (case hc => exact rfl); (case hpe => exact Nat.zero_le _); (case hm => exact rfl); (case hs => exact rfl); (case hk => kernel_rfl); (case hR => exact hR)) | ((with_reducible apply he_box); (case hx => exact rfl); (case ht => exact rfl); (case hk => kernel_rfl); (case hR => exact hR)) | ((with_reducible apply he_alloc); (case ht => exact rfl); (case hz => exact rfl); (case hk => kernel_rfl); (case hR => exact hR)) | (repeat (first | exact hR | ((try conv => whnf); first | exact hR | (with_reducible refine ⟨_, sv ((wrap_in _ (by omega) (by omega)).trans e), ?_⟩) | (with_reducible refine ⟨_, sv (hs), ?_⟩) | (with_reducible refine And.intro (Nat.zero_le _) ?_) | (with_reducible refine And.intro rfl ?_) | (with_reducible refine ⟨_, idx_at (by omega), ?_⟩) | (with_reducible refine ⟨fun _ => ?_, fun h => Bool.noConfusion h⟩) | (with_reducible refine ⟨fun h => Bool.noConfusion h, fun _ => ?_⟩) | (with_reducible refine ⟨_, sv (wrap_in _ (by omega) (by omega)), ?_⟩) | (with_reducible refine ⟨_, sv (wrapu_in _ (by omega) (by omega)), ?_⟩) | (with_reducible refine ⟨_, sv (wrap8_in _ (by omega) (by omega)), ?_⟩) | (refine ⟨_, rfl, ?_⟩) | (refine And.intro (by omega) ?_))))))) | ((with_reducible apply e_mem); (case ho => exact rfl); (case hb => exact rfl); (case he => (intro R hR; first | ((with_reducible apply he_loadP); (case hp => exact rfl); (case hc => exact rfl); (case hm => exact rfl); (case hr => exact rfl); (case hk => kernel_rfl); (case hR => exact hR)) | ((with_reducible apply he_storeP); (case hp => exact rfl); (case hy => exact rfl); (case hc => exact rfl); (case hpe => exact Nat.zero_le _); (case hm => exact rfl); (case hs => exact rfl); (case hk => kernel_rfl); (case hR => exact hR)) | ((with_reducible apply he_box); (case hx => exact rfl); (case ht => exact rfl); (case hk => kernel_rfl); (case hR => exact hR)) | ((with_reducible apply he_alloc); (case ht => exact rfl); (case hz => exact rfl); (case hk => kernel_rfl); (case hR => exact hR)) | (repeat (first | exact hR | ((try conv => whnf); first | exact hR | (with_reducible refine ⟨_, sv ((wrap_in _ (by omega) (by omega)).trans e), ?_⟩) | (with_reducible refine ⟨_, sv (hs), ?_⟩) | (with_reducible refine And.intro (Nat.zero_le _) ?_) | (with_reducible refine And.intro rfl ?_) | (with_reducible refine ⟨_, idx_at (by omega), ?_⟩) | (with_reducible refine ⟨fun _ => ?_, fun h => Bool.noConfusion h⟩) | (with_reducible refine ⟨fun h => Bool.noConfusion h, fun _ => ?_⟩) | (with_reducible refine ⟨_, sv (wrap_in _ (by omega) (by omega)), ?_⟩) | (with_reducible refine ⟨_, sv (wrapu_in _ (by omega) (by omega)), ?_⟩) | (with_reducible refine ⟨_, sv (wrap8_in _ (by omega) (by omega)), ?_⟩) | (refine ⟨_, rfl, ?_⟩) | (refine And.intro (by omega) ?_))))))) | ((with_reducible apply d_next)) | ((with_reducible apply d_step); (case ho => exact rfl)) | ((with_reducible apply d_guardN); (case hs => exact rfl); (case hv => exact rfl); (case hd => exact rfl)) | ((with_reducible apply d_guardU); (case hs => exact rfl); (case hv => exact rfl); (case hd => exact rfl)) | ((with_reducible apply d_guardY); (case hs => exact rfl); (case hv => exact rfl)) | ((with_reducible apply d_go)) | ((with_reducible apply gd_val); (case hv => exact rfl); (case he => (intro R hR; first | ((with_reducible apply he_loadP); (case hp => exact rfl); (case hc => exact rfl); (case hm => exact rfl); (case hr => exact rfl); (case hk => kernel_rfl); (case hR => exact hR)) | ((with_reducible apply he_storeP); (case hp => exact rfl); (case hy => exact rfl); (case hc => exact rfl); (case hpe => exact Nat.zero_le _); (case hm => exact rfl); (case hs => exact rfl); (case hk => kernel_rfl); (case hR => exact hR)) | ((with_reducible apply he_box); (case hx => exact rfl); (case ht => exact rfl); (case hk => kernel_rfl); (case hR => exact hR)) | ((with_reducible apply he_alloc); (case ht => exact rfl); (case hz => exact rfl); (case hk => kernel_rfl); (case hR => exact hR)) | (repeat (first | exact hR | ((try conv => whnf); first | exact hR | (with_reducible refine ⟨_, sv ((wrap_in _ (by omega) (by omega)).trans e), ?_⟩) | (with_reducible refine ⟨_, sv (hs), ?_⟩) | (with_reducible refine And.intro (Nat.zero_le _) ?_) | (with_reducible refine And.intro rfl ?_) | (with_reducible refine ⟨_, idx_at (by omega), ?_⟩) | (with_reducible refine ⟨fun _ => ?_, fun h => Bool.noConfusion h⟩) | (with_reducible refine ⟨fun h => Bool.noConfusion h, fun _ => ?_⟩) | (with_reducible refine ⟨_, sv (wrap_in _ (by omega) (by omega)), ?_⟩) | (with_reducible refine ⟨_, sv (wrapu_in _ (by omega) (by omega)), ?_⟩) | (with_reducible refine ⟨_, sv (wrap8_in _ (by omega) (by omega)), ?_⟩) | (refine ⟨_, rfl, ?_⟩) | (refine And.intro (by omega) ?_)))))); (case hd => exact rfl)) | ((with_reducible apply gd_none); (case hv => exact rfl); (case he => (intro R hR; first | ((with_reducible apply he_loadP); (case hp => exact rfl); (case hc => exact rfl); (case hm => exact rfl); (case hr => exact rfl); (case hk => kernel_rfl); (case hR => exact hR)) | ((with_reducible apply he_storeP); (case hp => exact rfl); (case hy => exact rfl); (case hc => exact rfl); (case hpe => exact Nat.zero_le _); (case hm => exact rfl); (case hs => exact rfl); (case hk => kernel_rfl); (case hR => exact hR)) | ((with_reducible apply he_box); (case hx => exact rfl); (case ht => exact rfl); (case hk => kernel_rfl); (case hR => exact hR)) | ((with_reducible apply he_alloc); (case ht => exact rfl); (case hz => exact rfl); (case hk => kernel_rfl); (case hR => exact hR)) | (repeat (first | exact hR | ((try conv => whnf); first | exact hR | (with_reducible refine ⟨_, sv ((wrap_in _ (by omega) (by omega)).trans e), ?_⟩) | (with_reducible refine ⟨_, sv (hs), ?_⟩) | (with_reducible refine And.intro (Nat.zero_le _) ?_) | (with_reducible refine And.intro rfl ?_) | (with_reducible refine ⟨_, idx_at (by omega), ?_⟩) | (with_reducible refine ⟨fun _ => ?_, fun h => Bool.noConfusion h⟩) | (with_reducible refine ⟨fun h => Bool.noConfusion h, fun _ => ?_⟩) | (with_reducible refine ⟨_, sv (wrap_in _ (by omega) (by omega)), ?_⟩) | (with_reducible refine ⟨_, sv (wrapu_in _ (by omega) (by omega)), ?_⟩) | (with_reducible refine ⟨_, sv (wrap8_in _ (by omega) (by omega)), ?_⟩) | (refine ⟨_, rfl, ?_⟩) | (refine And.intro (by omega) ?_))))))) | ((with_reducible apply gd_mem); (case hv => exact rfl); (case he => (intro R hR; first | ((with_reducible apply he_loadP); (case hp => exact rfl); (case hc => exact rfl); (case hm => exact rfl); (case hr => exact rfl); (case hk => kernel_rfl); (case hR => exact hR)) | ((with_reducible apply he_storeP); (case hp => exact rfl); (case hy => exact rfl); (case hc => exact rfl); (case hpe => exact Nat.zero_le _); (case hm => exact rfl); (case hs => exact rfl); (case hk => kernel_rfl); (case hR => exact hR)) | ((with_reducible apply he_box); (case hx => exact rfl); (case ht => exact rfl); (case hk => kernel_rfl); (case hR => exact hR)) | ((with_reducible apply he_alloc); (case ht => exact rfl); (case hz => exact rfl); (case hk => kernel_rfl); (case hR => exact hR)) | (repeat (first | exact hR | ((try conv => whnf); first | exact hR | (with_reducible refine ⟨_, sv ((wrap_in _ (by omega) (by omega)).trans e), ?_⟩) | (with_reducible refine ⟨_, sv (hs), ?_⟩) | (with_reducible refine And.intro (Nat.zero_le _) ?_) | (with_reducible refine And.intro rfl ?_) | (with_reducible refine ⟨_, idx_at (by omega), ?_⟩) | (with_reducible refine ⟨fun _ => ?_, fun h => Bool.noConfusion h⟩) | (with_reducible refine ⟨fun h => Bool.noConfusion h, fun _ => ?_⟩) | (with_reducible refine ⟨_, sv (wrap_in _ (by omega) (by omega)), ?_⟩) | (with_reducible refine ⟨_, sv (wrapu_in _ (by omega) (by omega)), ?_⟩) | (with_reducible refine ⟨_, sv (wrap8_in _ (by omega) (by omega)), ?_⟩) | (refine ⟨_, rfl, ?_⟩) | (refine And.intro (by omega) ?_)))))); (case hd => exact rfl)) | ((with_reducible apply n_guardY); (case hs => exact rfl); (case hv => exact rfl)) | ((with_reducible apply n_go))))
 refine go0 ?_
 rfl
end
section
variable {G : GS}
theorem schedule_m (b : List UInt8) (hb : b.length = 64) : SemC Tryz.prog G 148 [.sl 64 (u8s b)] (wsM (moreW b 48)) := by
 refine scq seat Tryz.func148 93 ?_
 refine gow0 ?_
 refine ⟨Nat, fun t => [(10, .int .i64 t), (3, .ptr 1 64 0 0 []), (2, .ptr 0 64 0 0 []), (0, .sl 64 (u8s b))], fun t => [(0, ⟨183, 64, false, 0, [wsM (List.replicate 64 0)]⟩), (1, ⟨183, 64, false, 0, [wsM (fillW b t)]⟩)], 2, fun t => t ≤ 16, fun t => 16 - t, ⟨0, by omega, (vm [(0, _), (1, _)] [])⟩, ?_⟩
 intro t ht
 refine gow0 ?_
 refine ⟨fun hc => ?_, fun hc => ?_⟩
 ·have ht' : t < 16 := by have := of_decide_eq_true hc; omega
  have hl := fillW_len b t
  refine gow0 ?_
  refine ⟨[(0, false), (1, false), (2, false), (3, false), (4, false), (5, false), (6, false), (7, false), (8, false), (9, false), (10, false), (11, false), (12, false), (13, false), (14, false), (15, false), (16, false), (17, false), (18, false), (19, false), (20, false), (21, false), (22, false), (23, false), (24, false), (25, false), (26, false), (27, false), (28, false), (29, false), (30, false), (31, false), (32, false), (33, false), (34, false), (35, false)], ?_⟩
  refine gow0 ?_
  refine ⟨_, index_of (4 * t) (by omega) (by omega) (u8_at (by omega)), ?_⟩
  refine gow0 ?_
  refine ⟨_, index_of (4 * t + 1) (by omega) (by omega) (u8_at (by omega)), ?_⟩
  refine gow0 ?_
  refine ⟨_, index_of (4 * t + 2) (by omega) (by omega) (u8_at (by omega)), ?_⟩
  refine gow0 ?_
  refine ⟨_, index_of (4 * t + 3) (by omega) (by omega) (u8_at (by omega)), ?_⟩
  refine gow0 ?_
  refine ⟨_, idx_at (by omega), ?_⟩
  refine gow0 ?_
  refine ⟨_, ws_set (by omega) _, ?_⟩
  refine gow0 ?_
  exact ⟨t + 1, by omega, by show 16 - (t + 1) < 16 - t; omega, (vm [(0, _), (1, _)] [])⟩
 ·have ht' : t = 16 := by have := of_decide_eq_false hc; omega
  subst ht'
  refine gow0 ?_
  refine ⟨Nat, fun t => [(5, .int .i64 ((16 + t : Nat) : Int)), (3, .ptr 1 64 0 0 []), (2, .ptr 0 64 0 0 [])], fun t => [(0, ⟨183, 64, false, 0, [wsM (List.replicate 64 0)]⟩), (1, ⟨183, 64, false, 0, [wsM (moreW b t)]⟩)], 2, fun t => t ≤ 48, fun t => 48 - t, ⟨0, by omega, (vm [(0, _), (1, _)] [])⟩, ?_⟩
  intro t ht
  refine gow0 ?_
  refine ⟨fun hc => ?_, fun hc => ?_⟩
  ·have ht' : t < 48 := by have := of_decide_eq_true hc; omega
   have hl := moreW_len b t
   refine gow0 ?_
   refine ⟨[(0, false), (1, false), (2, false), (3, false), (4, false), (5, false), (6, false), (7, false), (8, false), (9, false)], ?_⟩
   refine gow0 ?_
   refine ⟨_, idx_of (16 + t - 15) (by omega) (by omega), ?_⟩
   refine gow0 ?_
   refine ⟨_, ws_get (by omega), ?_⟩
   refine gow0 ?_
   refine ⟨_, idx_of (16 + t - 2) (by omega) (by omega), ?_⟩
   refine gow0 ?_
   refine ⟨_, ws_get (by omega), ?_⟩
   refine gow0 ?_
   refine .inl ⟨_, right_m' _ 7 (by omega) (by omega), ?_⟩
   refine gow0 ?_
   refine .inl ⟨_, right_m' _ 18 (by omega) (by omega), ?_⟩
   refine gow0 ?_
   refine .inl ⟨_, right_m' _ 17 (by omega) (by omega), ?_⟩
   refine gow0 ?_
   refine .inl ⟨_, right_m' _ 19 (by omega) (by omega), ?_⟩
   refine gow0 ?_
   refine ⟨[(0, false), (1, false), (2, false), (3, false), (4, false), (5, false), (6, false), (7, false), (8, false), (9, false), (10, false), (11, false), (12, false), (13, false), (14, false), (15, false)], ?_⟩
   refine gow0 ?_
   refine ⟨_, idx_of (16 + t - 7) (by omega) (by omega), ?_⟩
   refine gow0 ?_
   refine ⟨_, ws_get (by omega), ?_⟩
   refine gow0 ?_
   refine ⟨_, idx_of (16 + t - 16) (by omega) (by omega), ?_⟩
   refine gow0 ?_
   refine ⟨_, ws_get (by omega), ?_⟩
   refine gow0 ?_
   refine ⟨_, idx_of (16 + t) (by omega) (by omega), ?_⟩
   refine gow0 ?_
   refine ⟨_, ws_set (by omega) _, ?_⟩
   refine gow0 ?_
   exact ⟨t + 1, by show t + 1 ≤ 48; omega, by show 48 - (t + 1) < 48 - t; omega, (vm [(0, _), (1, _)] [])⟩
  ·have ht' : t = 48 := by have := of_decide_eq_false hc; omega
   subst ht'
   refine gow0 ?_
   rfl
set_option maxRecDepth 40000 in
theorem rounds_r : SemR Tryz.prog G 149 [] [] 0 (.ptr 0 64 0 0 []) [(0, ⟨183, 64, false, 0, [wsM kL]⟩)] 1 := by
 refine srq seat Tryz.func149 3 ?_
 refine go1 ?_
 refine ⟨[_], [(0, 2)], [], rfl, rfl, trivial, rfl, ⟨?_, trivial⟩, ?_⟩
 ·exact rv
 ·exact mm
set_option maxRecDepth 40000 in
theorem begin_m : SemC Tryz.prog G 99 [] initW.toM := by
 refine scq seat Tryz.func99 2 ?_
 refine go1 ?_
 refine go0 ?_
 rfl
def roundP (k w : UInt32) (s : W8) : W8 := ⟨tmp1 k w s + (turnU s.a 2 ^^^ turnU s.a 13 ^^^ turnU s.a 22) + (s.a &&& s.b ^^^ s.a &&& s.c ^^^ s.b &&& s.c), s.a, s.b, s.c, s.d + tmp1 k w s, s.e, s.f, s.g⟩
theorem roundP_eq (k w : UInt32) (s : W8) : roundS k w s = roundP k w s := by
 unfold roundS roundP tmp2
 rw [UInt32.add_assoc]
theorem wblock_m (h : W8) (b : List UInt8) (hb : b.length = 64) : SemC Tryz.prog G 100 [h.toM, .sl 64 (u8s b)] (blockS h b).toM := by
 have c1 := schedule_m (G := G) b hb
 have hl := moreW_len b 48
 have hk : kL.length = 64 := rfl
 have c2 := rounds_r (G := G)
 unfold blockS
 generalize moreW b 48 = ws at *
 generalize kL = kl at *
 refine scq seat Tryz.func100 119 ?_
 refine gow1 ?_
 refine g_call2 rfl hhq rfl (src (c1)) rfl lm ?_
 refine gow1 ?_
 refine g_callR1 rfl hhq rfl (c2) [] [] ⟨rfl, trivial, rfl, lm, mm⟩ rfl rfl ?_
 refine gow1 ?_
 refine ⟨Nat, fun t => [(21, .int .i64 t), (7, .ptr 4 8 0 0 []), (6, .ptr 3 64 0 0 []), (5, .ptr 2 64 0 0 []), (4, .ptr 1 8 0 0 []), (2, .ptr 0 8 0 0 [])], fun t => [(0, ⟨174, 8, false, 0, [h.toM]⟩), (1, ⟨174, 8, false, 0, [W8.toM ⟨0, 0, 0, 0, 0, 0, 0, 0⟩]⟩), (2, ⟨183, 64, false, 0, [wsM ws]⟩), (3, ⟨183, 64, false, 0, [wsM kl]⟩), (4, ⟨174, 8, false, 0, [(rounds kl ws h t).toM]⟩)], 5, fun t => t ≤ 64, fun t => 64 - t, ⟨0, by omega, (vm [(0, 0), (1, 1), (2, 4), (3, 3), (4, 8)] [])⟩, ?_⟩
 intro t ht
 refine gow0 ?_
 refine ⟨fun hc => ?_, fun hc => ?_⟩
 ·have ht' : t < 64 := by have := of_decide_eq_true hc; omega
  have hr : rounds kl ws h (t + 1) = roundP (kl.getD t 0) (ws.getD t 0) (rounds kl ws h t) := roundP_eq _ _ _
  dsimp only
  generalize rounds kl ws h t = s at *
  refine gow0 ?_
  refine ⟨[(0, false), (1, false), (2, false), (3, false), (4, false), (5, false)], ?_⟩
  refine gow0 ?_
  refine .inl ⟨_, right_m' _ 6 (by omega) (by omega), ?_⟩
  refine gow0 ?_
  refine .inl ⟨_, right_m' _ 11 (by omega) (by omega), ?_⟩
  refine gow0 ?_
  refine .inl ⟨_, right_m' _ 25 (by omega) (by omega), ?_⟩
  refine gow0 ?_
  refine ⟨[(0, false), (1, false), (2, false), (3, false), (4, false), (5, false), (6, false), (7, false), (8, false), (9, false), (10, false), (11, false), (12, false), (13, false), (14, false), (15, false), (16, false)], ?_⟩
  refine gow0 ?_
  refine ⟨_, idx_at (by omega), ?_⟩
  refine gow0 ?_
  refine ⟨_, ws_get (by omega), ?_⟩
  refine gow0 ?_
  refine ⟨_, idx_at (by omega), ?_⟩
  refine gow0 ?_
  refine ⟨_, ws_get (by omega), ?_⟩
  refine gow0 ?_
  refine .inl ⟨_, right_m' _ 2 (by omega) (by omega), ?_⟩
  refine gow0 ?_
  refine .inl ⟨_, right_m' _ 13 (by omega) (by omega), ?_⟩
  refine gow0 ?_
  refine .inl ⟨_, right_m' _ 22 (by omega) (by omega), ?_⟩
  refine gow0 ?_
  exact ⟨t + 1, by show t + 1 ≤ 64; omega, by show 64 - (t + 1) < 64 - t; omega, (by dsimp only; rw [hr]; exact (vm [(0, _), (1, _), (2, _), (3, _), (4, _)] []))⟩
 ·have ht' : t = 64 := by have := of_decide_eq_false hc; omega
  subst ht'
  dsimp only
  generalize rounds kl ws h 64 = s at *
  refine gow0 ?_
  refine ⟨Nat, fun i => [(106, .int .i64 i), (7, .ptr 2 8 0 0 []), (4, .ptr 1 8 0 0 []), (2, .ptr 0 8 0 0 [])], fun i => [(0, ⟨174, 8, false, 0, [(addW h s i).toM]⟩), (1, ⟨174, 8, false, 0, [W8.toM ⟨0, 0, 0, 0, 0, 0, 0, 0⟩]⟩), (2, ⟨174, 8, false, 0, [s.toM]⟩)], 3, fun i => i ≤ 8, fun i => 8 - i, ⟨0, by omega, (vm [(0, 0), (1, 1), (2, 4)] [])⟩, ?_⟩
  intro i hi
  refine gow0 ?_
  refine ⟨fun hc => ?_, fun hc => ?_⟩
  ·have hi' : i < 8 := by have := of_decide_eq_true hc; omega
   refine gow0 ?_
   refine ⟨[(0, false), (1, false), (2, false), (3, false), (4, false), (5, false), (6, false), (7, false), (8, false)], ?_⟩
   refine gow0 ?_
   refine ⟨_, idx_at (by omega), ?_⟩
   refine gow0 ?_
   refine ⟨_, get8 _ hi', ?_⟩
   refine gow0 ?_
   refine ⟨_, idx_at (by omega), ?_⟩
   refine gow0 ?_
   refine ⟨_, get8 _ hi', ?_⟩
   refine gow0 ?_
   refine ⟨_, idx_at (by omega), ?_⟩
   refine gow0 ?_
   refine ⟨_, set8 h s hi', ?_⟩
   refine gow0 ?_
   exact ⟨i + 1, by show i + 1 ≤ 8; omega, by show 8 - (i + 1) < 8 - i; omega, (vm [(0, _), (1, _), (2, _)] [])⟩
  ·have hi' : i = 8 := by have := of_decide_eq_false hc; omega
   subst hi'
   refine gow0 ?_
   rfl
end
section
variable {G : GS}
attribute [local irreducible] vOpsN vOpsG vOpsD vOpGD NextD vC SeqQ BlockQ
theorem absorb_app (s : W8) (m b : List UInt8) : ∀ q, 64 * q ≤ m.length → absorb s (m ++ b) q = absorb s m q
 | 0, _ => rfl
 | q + 1, h => by
  rw [absorb, absorb, absorb_app s m b q (by omega)]
  congr 1
  rw [List.drop_append_of_le_length (by omega), List.take_append_of_le_length (by rw [List.length_drop]; omega)]
def digM (m : List UInt8) : MV := .st [(absorb initW m (m.length / 64)).toM, .sl (m.length % 64) (u8s (m.drop (64 * (m.length / 64)))), .int .i64 m.length]
def digB (m : List UInt8) : VM := [(0, ⟨177, 10, false, 0, [digM m]⟩)]
abbrev digP : MV := .ptr 0 10 0 0 []
set_option maxRecDepth 40000 in
theorem new_r : SemR Tryz.prog G 62 [] [] 0 digP (digB []) 1 := by
 unfold digB digM
 refine srq seat Tryz.func62 4 ?_
 refine go1 ?_
 refine g_call2 rfl hhq rfl (src (begin_m)) rfl lm ?_
 refine go1 ?_
 refine ⟨[_], [(0, 2)], [], rfl, rfl, trivial, rfl, ⟨?_, trivial⟩, ?_⟩
 ·exact rv
 ·exact ⟨.inr ⟨_, _, rfl, rfl, rfl, rfl, .inl rfl, .inl rfl, .inr ⟨.inr ⟨_, rfl, ⟨rfl, rfl⟩, .inr ⟨rfl, rfl⟩, ⟨rfl, rfl⟩, trivial⟩, trivial⟩⟩, trivial⟩
theorem write_r (m b : List UInt8) (hm : m.length + b.length < 1000000000) : SemR Tryz.prog G 63 [digP, .sl b.length (u8s b)] (digB m) 1 (.tup []) (digB (m ++ b)) 1 := by
 have hq : 64 * (m.length / 64) ≤ m.length := by omega
 have hz : m.drop (64 * (m.length / 64)) ++ b = (m ++ b).drop (64 * (m.length / 64)) := (List.drop_append_of_le_length hq).symm
 have hl0 : (m.drop (64 * (m.length / 64))).length = m.length % 64 := by rw [List.length_drop]; omega
 have hab := absorb_app initW m b (m.length / 64) hq
 have hlen : (m ++ b).length = m.length + b.length := List.length_append
 unfold digB digM
 rw [← hab]
 generalize hM : m ++ b = M at *
 generalize hqq : m.length / 64 = q at *
 generalize hr0 : m.drop (64 * q) = r0 at *
 rw [← hl0]
 refine srq seat Tryz.func63 43 ?_
 refine go1 ?_
 ((with_reducible apply g_mem); (case hq => exact rfl); (case hv => exact rfl); (case he => (intro R hR; refine sms hR ?_; refine And.intro (head_b r0) ?_; refine And.intro (app_ok1 (by kernel_rfl) (by omega)) ?_; exact hR)); (case hd => exact rfl))
 refine go1 ?_
 have hw0 : (M.drop (64 * q)).length = r0.length + b.length := by rw [← hz, List.length_append]
 ((with_reducible apply g_mem); (case hq => exact rfl); (case hv => exact rfl); (case he => (intro R hR; refine sms hR ?_; refine And.intro (head_b b) ?_; refine And.intro ⟨(by simp [u8s]), app_ok (by kernel_rfl) pf⟩ ?_; refine ⟨u8s (M.drop (64 * q)), sv (by rw [← hz]; simp [u8s]), (M.drop (64 * q)).length, sv pf, ?_⟩; exact hR)); (case hd => exact rfl))
 refine go1 ?_
 refine c_loop Nat (fun k => [(4, .sl (M.drop (64 * (q + k))).length (u8s (M.drop (64 * (q + k))))), (0, digP)]) (fun k => [(0, ⟨177, 10, false, 0, [.st [(absorb initW M (q + k)).toM, .sl r0.length (u8s r0), .int .i64 M.length]]⟩)]) 1 (fun k => 64 * (q + k) ≤ M.length) (fun k => M.length - k) 0 (by omega) ?_ ?_
 ·rw [Nat.add_zero, hlen, Int.natCast_add]
  exact (vm [] [(19, (M.drop (64 * q)).length)])
 intro k hk
 try dsimp only
 have hwl : (M.drop (64 * (q + k))).length = M.length - 64 * (q + k) := List.length_drop
 have hnext : (M.drop (64 * (q + k))).drop 64 = M.drop (64 * (q + (k + 1))) := by rw [List.drop_drop, show 64 * (q + k) + 64 = 64 * (q + (k + 1)) by omega]
 have habs : absorb initW M (q + (k + 1)) = blockS (absorb initW M (q + k)) ((M.drop (64 * (q + k))).take 64) := rfl
 by_cases hlast : 64 ≤ M.length - 64 * (q + k)
 ·generalize absorb initW M (q + k) = S at *
  generalize hw : M.drop (64 * (q + k)) = w at *
  have hb1 : bounds w.length none (some (.int .i64 64)) = some (0, 64) := bndHi (k := 64) (by omega)
  have hb2 : bounds w.length (some (.int .i64 64)) none = some (64, w.length) := bndLo (k := 64) (by omega)
  have hc1 : cutL (u8s w) 0 64 = u8s (w.take 64) := by rw [cut_u8, List.drop_zero]
  have hc2 : cutL (u8s w) 64 w.length = u8s (w.drop 64) := by rw [cut_u8, List.take_of_length_le (by rw [List.length_drop]; omega)]
  have hc3 : w.length - 64 = (w.drop 64).length := List.length_drop.symm
  have c1 := wblock_m (G := G) S (w.take 64) (by rw [List.length_take]; omega)
  refine go1 ?_
  ((with_reducible apply c_cond); (case he => exact rfl); (all_goals intro h))
  case h2 =>
   exfalso
   have := of_decide_eq_false h
   omega
  refine go1 ?_
  refine c_draw [(0, false), (1, false), (2, false), (3, false), (4, false), (5, false), (6, false), (7, true), (8, false), (9, false), (10, false)] ?_
  (have fct := SomF.mk (hb1); have fct := SomF.mk (hb2); have fct := EqF.mk (hc1); have fct := EqF.mk (hc2); have fct := EqF.mk (hc3); have fct := SideF.mk (head_b w); refine go1 ?_)
  refine gd_call1 rfl hhq rfl [] (src (c1)) rfl [] trivial lm rfl ?_
  (have fct := SomF.mk (hb1); have fct := SomF.mk (hb2); have fct := EqF.mk (hc1); have fct := EqF.mk (hc2); have fct := EqF.mk (hc3); have fct := SideF.mk (head_b w); refine go1 ?_)
  exact ⟨k + 1, by show 64 * (q + (k + 1)) ≤ M.length; omega, by show M.length - (k + 1) < M.length - k; omega, (by dsimp only; rw [← hnext, habs]; exact (vm [] []))⟩
 ·have e1 : M.length / 64 = q + k := by omega
  have e2 : M.length % 64 = (M.drop (64 * (q + k))).length := by omega
  rw [e1, e2]
  generalize absorb initW M (q + k) = S at *
  generalize hw : M.drop (64 * (q + k)) = w at *
  refine go1 ?_
  ((with_reducible apply c_cond); (case he => exact rfl); (all_goals intro h))
  ·exfalso
   have := of_decide_eq_true h
   omega
  refine go1 ?_
  ((with_reducible apply g_mem); (case hq => exact rfl); (case hv => exact rfl); (case he => (intro R hR; refine sms hR ?_; refine And.intro (head_b w) ?_; refine And.intro (app_ok1 (by kernel_rfl) (by omega)) ?_; exact hR)); (case hd => exact rfl))
  refine go1 ?_
  refine ⟨[], [], [(6, w.length)], rfl, rfl, ?_, rfl, trivial, ?_⟩
  ·exact ⟨by show w.length ≤ (u8s w).length; simp [u8s], trivial⟩
  ·exact ⟨.inr ⟨_, _, rfl, rfl, rfl, rfl, .inl rfl, .inl rfl, .inr ⟨.inr ⟨_, rfl, ⟨rfl, rfl⟩, .inr ⟨rfl, rfl, rfl, Nat.le_of_eq (Nat.zero_add _), cut_all _ _⟩, ⟨rfl, rfl⟩, trivial⟩, trivial⟩⟩, trivial⟩
theorem rem64 (n : Nat) : (n : Int).tmod 64 = ((n % 64 : Nat) : Int) := rfl
theorem shrN (n k : Nat) (hk : k < 8) : IntKind.u8.wrap (((n : Nat) : Int).fdiv (2 ^ (min (56 - 8 * (k : Int)).toNat IntKind.u64.bits))) = ((byteAt n k).toNat : Int) := by
 have e : min (56 - 8 * (k : Int)).toNat IntKind.u64.bits = 8 * (7 - k) := by simp [IntKind.bits]; omega
 rw [e, Int.fdiv_eq_ediv_of_nonneg _ (Int.le_of_lt (Int.pow_pos (by omega))), w8, byteAt, UInt8.toNat_ofNat']
 have e3 : (2 : Int) ^ (8 * (7 - k)) = ((2 ^ (8 * (7 - k)) : Nat) : Int) := by rw [Int.natCast_pow]; rfl
 rw [e3, ← Int.natCast_ediv]
 exact (Int.natCast_emod _ 256).symm
theorem pad_drop (m : List UInt8) (q : Nat) (hq : 64 * q ≤ m.length) : (padS m).drop (64 * q) = m.drop (64 * q) ++ [128] ++ List.replicate (padN m.length) 0 ++ be64 (8 * m.length) := by
 unfold padS
 rw [List.append_assoc, List.append_assoc, List.drop_append_of_le_length hq, ← List.append_assoc, ← List.append_assoc]
theorem absorb_pad (m : List UInt8) (q : Nat) (hq : 64 * q ≤ m.length) : absorb initW (padS m) q = absorb initW m q := by
 unfold padS
 rw [List.append_assoc, List.append_assoc]
 exact absorb_app _ _ _ _ hq
theorem nth8 (S : W8) {i : Nat} (h : i < 8) : idxL [u32M S.a, u32M S.b, u32M S.c, u32M S.d, u32M S.e, u32M S.f, u32M S.g, u32M S.h] 8 (i : Int) = some (u32M (S.nth i)) := by
 have h8 : i = 0 ∨ i = 1 ∨ i = 2 ∨ i = 3 ∨ i = 4 ∨ i = 5 ∨ i = 6 ∨ i = 7 := by omega
 rcases h8 with rfl | rfl | rfl | rfl | rfl | rfl | rfl | rfl <;> rfl
theorem out4 (S : W8) (i : Nat) : outK S (4 * (i + 1)) = ((((outK S (4 * i)).set (4 * i) (S.nth i >>> UInt32.ofNat 24).toUInt8).set (4 * i + 1) (S.nth i >>> UInt32.ofNat 16).toUInt8).set (4 * i + 2) (S.nth i >>> UInt32.ofNat 8).toUInt8).set (4 * i + 3) (S.nth i).toUInt8 := by
 have e : outK S (4 * (i + 1)) = ((((outK S (4 * i)).set (4 * i) (outAt S (4 * i))).set (4 * i + 1) (outAt S (4 * i + 1))).set (4 * i + 2) (outAt S (4 * i + 2))).set (4 * i + 3) (outAt S (4 * i + 3)) := rfl
 rw [e]
 unfold outAt
 rw [show 4 * i / 4 = i by omega, show (4 * i + 1) / 4 = i by omega, show (4 * i + 2) / 4 = i by omega, show (4 * i + 3) / 4 = i by omega, show 24 - 4 * i % 4 * 8 = 24 by omega, show 24 - (4 * i + 1) % 4 * 8 = 16 by omega, show 24 - (4 * i + 2) % 4 * 8 = 8 by omega, show 24 - (4 * i + 3) % 4 * 8 = 0 by omega]
 rw [show UInt32.ofNat 0 = 0 by rfl, UInt32.shiftRight_zero]
theorem sum_r (m : List UInt8) (hm : m.length < 1000000000) : SemR Tryz.prog G 64 [digP] (digB m) 1 (keyM (shaS m)) (digB m) 1 := by
 have hq : 64 * (m.length / 64) ≤ m.length := by omega
 have hl0 : (m.drop (64 * (m.length / 64))).length = m.length % 64 := by rw [List.length_drop]; omega
 have hpd := pad_drop m _ hq
 have hpa := absorb_pad m _ hq
 have hpl := padS_len m
 have hpv := padS_div m
 have hp : padN m.length < 64 := by unfold padN; omega
 have hpn : (m.length % 64 + 1 + padN m.length) % 64 = 56 := by unfold padN; omega
 have hpf : ∀ k, k < padN m.length → (m.length % 64 + 1 + k) % 64 ≠ 56 := by unfold padN; intro k hk; omega
 unfold digB digM shaS
 rw [← hl0] at hpn hpf ⊢
 generalize hqq : m.length / 64 = q at *
 generalize hr0 : m.drop (64 * q) = r0 at *
 generalize hpN : padN m.length = pn at *
 generalize hP : padS m = P at *
 rw [← hpa]
 refine srq seat Tryz.func64 90 ?_
 refine go1 ?_
 ((with_reducible apply g_mem); (case hq => exact rfl); (case hv => exact rfl); (case he => (intro R hR; refine sms hR ?_; refine And.intro (head_b r0) ?_; refine And.intro (app_ok1 (by kernel_rfl) (by omega)) ?_; exact hR)); (case hd => exact rfl))
 refine go1 ?_
 ((with_reducible apply g_mem); (case hq => exact rfl); (case hv => exact rfl); (case he => (intro R hR; refine sms hR ?_; (refine And.intro (Nat.le_refl _) ?_; refine ⟨_, rfl, ?_⟩; refine And.intro ⟨(by simp [u8s]), app_ok (by kernel_rfl) pf⟩ ?_; refine ⟨u8s (r0 ++ [128]), sv (by simp [u8s, setL, repM, cutL]), r0.length + 1, sv pf, ?_⟩); exact hR)); (case hd => exact rfl))
 refine go1 ?_
 have hTl : r0.length + 1 + pn + 8 = (P.drop (64 * q)).length := by rw [hpd]; simp [be64]; omega
 refine c_loop Nat (fun k => [(4, .ms 3 1 0 (r0.length + 1 + k)), (3, .ptr 2 32 0 0 []), (2, .ptr 1 32 0 0 []), (0, digP)]) (fun k => [(0, ⟨177, 10, false, 0, [.st [(absorb initW P q).toM, .sl r0.length (u8s r0), .int .i64 m.length]]⟩), (1, ⟨25, 32, false, 0, [keyM (List.replicate 32 0)]⟩), (2, ⟨25, 32, false, 0, [keyM (List.replicate 32 0)]⟩), (3, ⟨5, 1, true, 0, u8s (r0 ++ [128] ++ List.replicate k 0)⟩)]) 4 (fun k => k ≤ pn) (fun k => pn - k) 0 (Nat.zero_le _) (vm [(1, _), (2, _), (3, _)] []) ?_
 intro k hk
 try dsimp only
 (have fct := EqF.mk (rem64 (r0.length + 1 + k)); refine go1 ?_)
 ((with_reducible apply c_cond); (case he => exact rfl); (all_goals intro h))
 ·have hk' : k < pn := by
   have h1 : (((r0.length + 1 + k) % 64 : Nat) : Int) ≠ 56 := by simpa using h
   rcases Nat.lt_or_ge k pn with h2 | h2
   ·exact h2
   ·have : k = pn := by omega
    subst this
    rw [hpn] at h1
    exact absurd rfl h1
  refine go1 ?_
  ((with_reducible apply g_mem); (case hq => exact rfl); (case hv => exact rfl); (case he => (intro R hR; refine sms hR ?_; (refine And.intro (Nat.le_refl _) ?_; refine ⟨_, rfl, ?_⟩; refine And.intro ⟨pf, app_ok (by kernel_rfl) pf⟩ ?_; refine ⟨u8s (r0 ++ [128] ++ List.replicate (k + 1) 0), sv pf, r0.length + 1 + (k + 1), sv pf, ?_⟩); exact hR)); (case hd => exact rfl))
  refine go1 ?_
  exact ⟨k + 1, by show k + 1 ≤ pn; omega, by show pn - (k + 1) < pn - k; omega, (by dsimp only; exact (vm [(1, _), (2, _), (3, _)] []))⟩
 ·have hk' : k = pn := by
   have h1 : (((r0.length + 1 + k) % 64 : Nat) : Int) = 56 := by simpa using h
   rcases Nat.lt_or_ge k pn with h2 | h2
   ·have := hpf k h2; omega
   ·omega
  subst hk'
  refine go1 ?_
  refine c_loop Nat (fun j => [(6, .int .i64 (56 - 8 * (j : Int))), (5, .int .u64 ((8 * m.length : Nat) : Int)), (4, .ms 3 1 0 (r0.length + 1 + k + j)), (3, .ptr 2 32 0 0 []), (2, .ptr 1 32 0 0 []), (0, digP)]) (fun j => [(0, ⟨177, 10, false, 0, [.st [(absorb initW P q).toM, .sl r0.length (u8s r0), .int .i64 m.length]]⟩), (1, ⟨25, 32, false, 0, [keyM (List.replicate 32 0)]⟩), (2, ⟨25, 32, false, 0, [keyM (List.replicate 32 0)]⟩), (3, ⟨5, 1, true, 0, u8s (r0 ++ [128] ++ List.replicate k 0 ++ (List.range j).map (byteAt (8 * m.length)))⟩)]) 4 (fun j => j ≤ 8) (fun j => 8 - j) 0 (Nat.zero_le _) (by rw [List.range_zero, List.map_nil, List.append_nil]; exact (vm [(1, _), (2, _), (3, _)] [])) ?_
  intro j hj
  try dsimp only
  refine go1 ?_
  ((with_reducible apply c_cond); (case he => exact rfl); (all_goals intro h))
  ·have hj' : j < 8 := by have := of_decide_eq_true h; omega
   (have fct := EqF.mk (shrN (8 * m.length) j hj'); refine go1 ?_)
   ((with_reducible apply g_mem); (case hq => exact rfl); (case hv => exact rfl); (case he => (intro R hR; refine sms hR ?_; (refine And.intro (Nat.le_refl _) ?_; refine ⟨_, rfl, ?_⟩; refine And.intro ⟨pf, app_ok (by kernel_rfl) pf⟩ ?_; refine ⟨u8s (r0 ++ [128] ++ List.replicate k 0 ++ (List.range (j + 1)).map (byteAt (8 * m.length))), sv pf, r0.length + 1 + k + (j + 1), sv pf, ?_⟩); exact hR)); (case hd => exact rfl))
   refine go1 ?_
   exact ⟨j + 1, by show j + 1 ≤ 8; omega, by show 8 - (j + 1) < 8 - j; omega, (by dsimp only; exact (vm [(1, _), (2, _), (3, _)] []))⟩
  ·have hj' : j = 8 := by have := of_decide_eq_false h; omega
   subst hj'
   have hbe : (List.range 8).map (byteAt (8 * m.length)) = be64 (8 * m.length) := rfl
   rw [hbe, ← hpd, hTl]
   refine go1 ?_
   refine c_loop Nat (fun k => [(7, .ptr 3 8 0 0 []), (4, .sl (P.drop (64 * (q + k))).length (u8s (P.drop (64 * (q + k))))), (3, .ptr 2 32 0 0 []), (2, .ptr 1 32 0 0 []), (0, digP)]) (fun k => [(0, ⟨177, 10, false, 0, [.st [(absorb initW P q).toM, .sl r0.length (u8s r0), .int .i64 m.length]]⟩), (1, ⟨25, 32, false, 0, [keyM (List.replicate 32 0)]⟩), (2, ⟨25, 32, false, 0, [keyM (List.replicate 32 0)]⟩), (3, ⟨174, 8, false, 0, [(absorb initW P (q + k)).toM]⟩)]) 4 (fun k => 64 * (q + k) ≤ P.length) (fun k => P.length - k) 0 (by omega) (by rw [Nat.add_zero]; exact (vm [(1, _), (2, _), (3, _)] [(3, (P.drop (64 * q)).length)])) ?_
   intro k hk
   try dsimp only
   have hwl : (P.drop (64 * (q + k))).length = P.length - 64 * (q + k) := List.length_drop
   have hnext : (P.drop (64 * (q + k))).drop 64 = P.drop (64 * (q + (k + 1))) := by rw [List.drop_drop, show 64 * (q + k) + 64 = 64 * (q + (k + 1)) by omega]
   have habs : absorb initW P (q + (k + 1)) = blockS (absorb initW P (q + k)) ((P.drop (64 * (q + k))).take 64) := rfl
   by_cases hlast : 64 * (q + k) < P.length
   ·generalize absorb initW P (q + k) = S at *
    generalize hw : P.drop (64 * (q + k)) = w at *
    have hb1 : bounds w.length none (some (.int .i64 64)) = some (0, 64) := bndHi (k := 64) (by omega)
    have hb2 : bounds w.length (some (.int .i64 64)) none = some (64, w.length) := bndLo (k := 64) (by omega)
    have hc1 : cutL (u8s w) 0 64 = u8s (w.take 64) := by rw [cut_u8, List.drop_zero]
    have hc2 : cutL (u8s w) 64 w.length = u8s (w.drop 64) := by rw [cut_u8, List.take_of_length_le (by rw [List.length_drop]; omega)]
    have hc3 : w.length - 64 = (w.drop 64).length := List.length_drop.symm
    have c1 := wblock_m (G := G) S (w.take 64) (by rw [List.length_take]; omega)
    refine go1 ?_
    ((with_reducible apply c_cond); (case he => exact rfl); (all_goals intro h))
    case h2 =>
     exfalso
     have := of_decide_eq_false h
     omega
    refine go1 ?_
    refine c_draw [(0, false), (1, false), (2, false), (3, true), (4, false)] ?_
    (have fct := SomF.mk (hb1); have fct := SomF.mk (hb2); have fct := EqF.mk (hc1); have fct := EqF.mk (hc2); have fct := EqF.mk (hc3); have fct := SideF.mk (head_b w); refine go1 ?_)
    refine gd_call1 rfl hhq rfl [] (src (c1)) rfl [] trivial lm rfl ?_
    (have fct := SomF.mk (hb1); have fct := SomF.mk (hb2); have fct := EqF.mk (hc1); have fct := EqF.mk (hc2); have fct := EqF.mk (hc3); have fct := SideF.mk (head_b w); refine go1 ?_)
    exact ⟨k + 1, by show 64 * (q + (k + 1)) ≤ P.length; omega, by show P.length - (k + 1) < P.length - k; omega, (by dsimp only; rw [← hnext, habs]; exact (vm [(1, _), (2, _), (3, _)] []))⟩
   ·have e1 : P.length / 64 = q + k := by omega
    rw [e1]
    generalize absorb initW P (q + k) = S at *
    generalize hw : P.drop (64 * (q + k)) = w at *
    refine go1 ?_
    ((with_reducible apply c_cond); (case he => exact rfl); (all_goals intro h))
    ·exfalso
     have := of_decide_eq_true h
     omega
    refine go1 ?_
    refine c_loop Nat (fun i => [(58, .int .i64 i), (57, S.toM), (3, .ptr 2 32 0 0 []), (2, .ptr 1 32 0 0 []), (0, digP)]) (fun i => [(0, ⟨177, 10, false, 0, [.st [(absorb initW P q).toM, .sl r0.length (u8s r0), .int .i64 m.length]]⟩), (1, ⟨25, 32, false, 0, [keyM (List.replicate 32 0)]⟩), (2, ⟨25, 32, false, 0, [keyM (outK S (4 * i))]⟩)]) 3 (fun i => i ≤ 8) (fun i => 8 - i) 0 (Nat.zero_le _) (vm [(1, _), (2, _)] []) ?_
    intro i hi
    try dsimp only
    refine go1 ?_
    ((with_reducible apply c_cond); (case he => exact rfl); (all_goals intro h))
    ·have hi' : i < 8 := by have := of_decide_eq_true h; omega
     have hix : idxL [u32M S.a, u32M S.b, u32M S.c, u32M S.d, u32M S.e, u32M S.f, u32M S.g, u32M S.h] 8 (i : Int) = some (u32M (S.nth i)) := nth8 S hi'
     have hol := outK_len S (4 * i)
     have hout := out4 S i
     generalize S.nth i = x at *
     generalize outK S (4 * i) = ok at *
     have s24 : (x.toNat : Int).fdiv (2 ^ (min (24 : Int).toNat IntKind.u32.bits)) = ((x >>> UInt32.ofNat 24).toNat : Int) := shr32 x 24 (by omega)
     have s16 : (x.toNat : Int).fdiv (2 ^ (min (16 : Int).toNat IntKind.u32.bits)) = ((x >>> UInt32.ofNat 16).toNat : Int) := shr32 x 16 (by omega)
     have s8 : (x.toNat : Int).fdiv (2 ^ (min (8 : Int).toNat IntKind.u32.bits)) = ((x >>> UInt32.ofNat 8).toNat : Int) := shr32 x 8 (by omega)
     have v24 := conv328 (x >>> UInt32.ofNat 24)
     have v16 := conv328 (x >>> UInt32.ofNat 16)
     have v8 := conv328 (x >>> UInt32.ofNat 8)
     have v0 := conv328 x
     generalize (x >>> UInt32.ofNat 24) = y24 at *
     generalize (x >>> UInt32.ofNat 16) = y16 at *
     generalize (x >>> UInt32.ofNat 8) = y8 at *
     have j0 : idx 32 (4 * (i : Int)) = some (4 * i) := idx_of (4 * i) (by omega) (by omega)
     have j1 : idx 32 (4 * (i : Int) + 1) = some (4 * i + 1) := idx_of (4 * i + 1) (by omega) (by omega)
     have j2 : idx 32 (4 * (i : Int) + 2) = some (4 * i + 2) := idx_of (4 * i + 2) (by omega) (by omega)
     have j3 : idx 32 (4 * (i : Int) + 3) = some (4 * i + 3) := idx_of (4 * i + 3) (by omega) (by omega)
     have k0 := key_set (k := ok) (i := 4 * i) (by omega) y24.toUInt8
     have k1 := key_set (k := ok.set (4 * i) y24.toUInt8) (i := 4 * i + 1) (by rw [List.length_set]; omega) y16.toUInt8
     have k2 := key_set (k := (ok.set (4 * i) y24.toUInt8).set (4 * i + 1) y16.toUInt8) (i := 4 * i + 2) (by rw [List.length_set, List.length_set]; omega) y8.toUInt8
     have k3 := key_set (k := ((ok.set (4 * i) y24.toUInt8).set (4 * i + 1) y16.toUInt8).set (4 * i + 2) y8.toUInt8) (i := 4 * i + 3) (by rw [List.length_set, List.length_set, List.length_set]; omega) x.toUInt8
     (have fct := SomF.mk (hix); have fct := EqF.mk (s24); have fct := EqF.mk (s16); have fct := EqF.mk (s8); have fct := EqF.mk (v24); have fct := EqF.mk (v16); have fct := EqF.mk (v8); have fct := EqF.mk (v0); have fct := SomF.mk (j0); have fct := SomF.mk (j1); have fct := SomF.mk (j2); have fct := SomF.mk (j3); have fct := SomF.mk (k0); have fct := SomF.mk (k1); have fct := SomF.mk (k2); have fct := SomF.mk (k3); refine go1 ?_)
     exact ⟨i + 1, by show i + 1 ≤ 8; omega, by show 8 - (i + 1) < 8 - i; omega, (by dsimp only; rw [hout]; exact (vm [(1, _), (2, _)] []))⟩
    ·have hi' : i = 8 := by have := of_decide_eq_false h; omega
     subst hi'
     refine go1 ?_
     refine go0 ?_
     refine ⟨[_], [], [], rfl, rfl, trivial, rfl, ⟨?_, trivial⟩, ?_⟩
     ·exact rv
     ·exact mm
end
section
variable {G : GS}
attribute [local irreducible] vOpsN vOpsG vOpsD vOpGD NextD vC SeqQ BlockQ
theorem write_g (m b M : List UInt8) (hM : m ++ b = M) (hm : m.length + b.length < 1000000000) : SemR Tryz.prog G 63 [digP, .sl b.length (u8s b)] (digB m) 1 (.tup []) (digB M) 1 := by
 subst hM; exact write_r m b hm
theorem psha_m (b : List UInt8) (hb : b.length < 500000000) : SemC Tryz.prog G 33 [.sl b.length (u8s b)] (keyM (shaS b)) := by
 have c1 := new_r (G := G)
 have c2 := write_g (G := G) [] b b rfl (by simp; omega)
 have c3 := sum_r (G := G) b (by omega)
 unfold digB at c1 c2 c3
 refine scq seat Tryz.func33 10 ?_
 refine go1 ?_
 refine g_callR1 rfl hhq rfl (c1) [] [] ⟨rfl, trivial, rfl, lm, mm⟩ rfl rfl ?_
 refine go1 ?_
 refine g_callR1 rfl hhq rfl (c2) [(0, 1)] [] ⟨rfl, trivial, rfl, lm, mm⟩ rfl rfl ?_
 refine go1 ?_
 refine g_callR1 rfl hhq rfl (c3) [(0, 1)] [] ⟨rfl, trivial, rfl, lm, mm⟩ rfl rfl ?_
 refine go1 ?_
 refine go0 ?_
 rfl
theorem pleaf_m (b : List UInt8) (hb : b.length < 500000000) : SemC Tryz.prog G 96 [.sl b.length (u8s b)] (keyM (shaS (0 :: b))) := by
 have c1 := new_r (G := G)
 have c2 := write_g (G := G) [] [0] [0] rfl (by simp)
 have c3 := write_g (G := G) [0] b (0 :: b) rfl (by simp only [List.length_cons, List.length_nil]; omega)
 have c4 := sum_r (G := G) (0 :: b) (by simp only [List.length_cons]; omega)
 unfold digB at c1 c2 c3 c4
 refine scq seat Tryz.func96 13 ?_
 refine go1 ?_
 refine g_callR1 rfl hhq rfl (c1) [] [] ⟨rfl, trivial, rfl, lm, mm⟩ rfl rfl ?_
 refine go1 ?_
 refine g_callR1 rfl hhq rfl (c2) [(0, 1)] [(4, 1)] ⟨rfl, mm, rfl, lm, mm⟩ rfl rfl ?_
 refine go1 ?_
 refine g_callR1 rfl hhq rfl (c3) [(0, 1)] [] ⟨rfl, trivial, rfl, lm, mm⟩ rfl rfl ?_
 refine go1 ?_
 refine g_callR1 rfl hhq rfl (c4) [(0, 1)] [] ⟨rfl, trivial, rfl, lm, mm⟩ rfl rfl ?_
 refine go1 ?_
 refine go0 ?_
 rfl
theorem pinner_m (a b : List UInt8) (ha : a.length = 32) (hb : b.length = 32) : SemC Tryz.prog G 98 [keyM a, keyM b] (keyM (shaS (1 :: (a ++ b)))) := by
 have c1 := new_r (G := G)
 have c2 := write_g (G := G) [] [1] [1] rfl (by simp)
 have c3 := write_g (G := G) [1] a (1 :: a) rfl (by simp only [List.length_cons, List.length_nil]; omega)
 have c4 := write_g (G := G) (1 :: a) b (1 :: (a ++ b)) rfl (by simp only [List.length_cons]; omega)
 have c5 := sum_r (G := G) (1 :: (a ++ b)) (by simp only [List.length_cons, List.length_append]; omega)
 rw [ha, ← cut_key ha] at c3
 rw [hb, ← cut_key hb] at c4
 unfold digB at c1 c2 c3 c4 c5
 refine scq seat Tryz.func98 18 ?_
 refine go1 ?_
 refine g_callR1 rfl hhq rfl (c1) [] [] ⟨rfl, trivial, rfl, lm, mm⟩ rfl rfl ?_
 refine go1 ?_
 refine g_callR1 rfl hhq rfl (c2) [(0, 3)] [(6, 1)] ⟨rfl, mm, rfl, lm, mm⟩ rfl rfl ?_
 refine go1 ?_
 refine g_callR1 rfl hhq rfl (c3) [(0, 3)] [] ⟨rfl, trivial, rfl, lm, mm⟩ rfl rfl ?_
 refine go1 ?_
 refine g_callR1 rfl hhq rfl (c4) [(0, 3)] [] ⟨rfl, trivial, rfl, lm, mm⟩ rfl rfl ?_
 refine go1 ?_
 refine g_callR1 rfl hhq rfl (c5) [(0, 3)] [] ⟨rfl, trivial, rfl, lm, mm⟩ rfl rfl ?_
 refine go1 ?_
 refine go0 ?_
 rfl
theorem proot_m : ∀ (f : Nat) (l : List (List UInt8)), l.length ≤ f → l.length < 60000 → (∀ b ∈ l, b.length < 300000000) → SemC Tryz.prog G 56 [.sl l.length (l.map rawM)] (keyM (rootS l)) := by
 intro f
 induction f with
 | zero =>
  intro l hl _ _
  obtain rfl := List.length_eq_zero_iff.1 (by omega : l.length = 0)
  have c1 := psha_m (G := G) [] (by simp)
  refine scq seat Tryz.func56 27 ?_
  refine go1 ?_
  refine g_call2 rfl hhq rfl (src (c1)) rfl lm ?_
  refine go1 ?_
  refine go0 ?_
  rfl
 | succ f ih =>
  intro l hl hn hb
  match hh : l with
  | [] =>
   have c1 := psha_m (G := G) [] (by simp)
   refine scq seat Tryz.func56 27 ?_
   refine go1 ?_
   refine g_call2 rfl hhq rfl (src (c1)) rfl lm ?_
   refine go1 ?_
   refine go0 ?_
   rfl
  | [b] =>
   have c1 := pleaf_m (G := G) b (by have := hb b (by simp); omega)
   refine scq seat Tryz.func56 27 ?_
   refine go1 ?_
   refine g_call2 rfl hhq rfl (src (c1)) rfl lm ?_
   refine go1 ?_
   refine go0 ?_
   rfl
  | a :: b :: r =>
   rw [← hh] at hl hn hb ⊢
   have h2 : 2 ≤ l.length := by rw [hh]; simp only [List.length_cons]; omega
   clear hh
   obtain ⟨k1, k2⟩ := hlf_lt h2
   have ch := phalf_m (G := G) l.length (by omega) (by omega)
   have c1 := ih (l.take (hlf l.length)) (by rw [List.length_take]; omega) (by rw [List.length_take]; omega) fun x hx => hb x (List.mem_of_mem_take hx)
   have c2 := ih (l.drop (hlf l.length)) (by rw [List.length_drop]; omega) (by rw [List.length_drop]; omega) fun x hx => hb x (List.mem_of_mem_drop hx)
   have c3 := pinner_m (G := G) (rootS (l.take (hlf l.length))) (rootS (l.drop (hlf l.length))) (rootS_len _) (rootS_len _)
   rw [rootS_two h2]
   rw [List.length_take, Nat.min_eq_left (by omega), ← cut_take] at c1
   rw [List.length_drop, ← cut_drop] at c2
   generalize hlf l.length = k at *
   refine scq seat Tryz.func56 27 ?_
   refine go1 ?_
   (refine c_cond rfl ?_ ?_ <;> intro h)
   ·exfalso
    have : (l.length : Int) = 0 := by simpa using h
    omega
   refine go1 ?_
   (refine c_cond rfl ?_ ?_ <;> intro h)
   ·exfalso
    have : (l.length : Int) = 1 := by simpa using h
    omega
   refine go1 ?_
   refine g_call2 rfl hhq rfl (src (ch)) rfl lm ?_
   refine go1 ?_
   refine c_draw [(0, false), (1, false), (2, false), (3, true), (4, false), (5, false), (6, false), (7, true), (8, true), (9, false)] ?_
   (have fct := SomF.mk (bndHi (κ := .i64) (Nat.le_of_lt k2)); have fct := SomF.mk (bndLo (κ := .i64) (Nat.le_of_lt k2)); have fct := SideF.mk (head_raw l); refine go1 ?_)
   refine gd_call1 rfl hhq rfl [] (src (c1)) rfl [] trivial lm rfl ?_
   refine go1 ?_
   refine gd_call1 rfl hhq rfl [] (src (c2)) rfl [] trivial lm rfl ?_
   refine go1 ?_
   refine gd_call1 rfl hhq rfl [] (src (c3)) rfl [] trivial lm rfl ?_
   refine go1 ?_
   refine go0 ?_
   rfl
end
section
section
variable {Pg : Program} {G : GS} {f : FuncId} {args : List MV} {M0 : VM}
theorem semR_move {b : MB} {es n : Nat} (hrow : b.row = true) (h : SemR Pg G f args M0 1 (.ms 0 es 0 n) [(0, b)] 1) : SemR Pg G f args M0 1 (.ms 1 es 0 n) [(1, b)] 2 := by
 intro w P adr vals h1 h2 h3 h4 h5
 refine (h w P adr vals h1 h2 h3 h4 h5).mono ?_
 rintro e w' ⟨v, rfl, P', adr', j1, j2, j3, j4, j5, j6, j7, j8⟩
 have get1 : ∀ {c b'}, VM.get [(1, b)] c = some b' → c = 1 ∧ b' = b := fun {c b'} hc => by
  rw [VM.get_cons] at hc
  split at hc
  ·rename_i e; injection hc with hc; exact ⟨e.symm, hc.symm⟩
  ·cases hc
 have get0 : VM.get [(0, b)] 0 = some b := rfl
 have only0 : ∀ {c g}, adr c = some g → c = 0 := fun {c g} hc => by
  rcases Nat.lt_or_ge c 1 with h | h
  ·omega
  ·rw [h3 c h] at hc; cases hc
 refine ⟨v, rfl, P', fun c => if c = 1 then adr' 0 else adr' c, ⟨fun c b' hc => ?_, fun c c' b1 b2 g hc hc' _ _ => ?_, j1.prot⟩, ?_, ⟨j3.prot, j3.cell, fun c g hc => ?_, j3.size⟩, fun c hc => ?_, fun c hc => ?_, fun c g hc => ?_, j7, j8⟩
 ·obtain ⟨rfl, rfl⟩ := get1 hc
  rcases j1.blk 0 b' get0 with q | ⟨g, q1, q2⟩
  ·exact .inl ⟨q.1, q.2.1, by simpa using q.2.2.1, q.2.2.2⟩
  ·refine .inr ⟨g, by simpa using q1, ?_⟩
   obtain ⟨cur, parts, c1, c2, c3, c4, c5⟩ := q2.has
   exact ⟨⟨cur, parts, c1, c2, c3, fun j x p hx hp => by have := c4 j x p hx hp; rw [hrow] at this ⊢; exact this, c5⟩, q2.pe, q2.le⟩
 ·rw [(get1 hc).1, (get1 hc').1]
 ·rcases j2.ms_ with ⟨rfl, _, rfl⟩ | ⟨g, o, cap, q1, rfl, q2, q3, q4, q5⟩
  ·exact .val [_] .ms0
  ·exact .val [_] (.ms g o cap (by simpa using q1) q2 q3 q4 q5)
 ·obtain rfl := only0 hc
  exact j3.num 0 g hc
 ·obtain rfl : c = 0 := by omega
  exact j4 0 (by omega)
 ·have : c ≠ 1 := by omega
  simp only [this, if_false]
  exact j5 c (by omega)
 ·by_cases h : c = 1
  ·simp only [h, if_true] at hc; exact j6 0 g hc
  ·simp only [h, if_false] at hc; exact j6 c g hc
end
theorem rel_snoc {σ : Nat → Option Nat} {fz : Fz} {a b : MV} : ∀ (l : List MV), (∀ x ∈ l, relV σ fz x x) → relV σ fz a b → relV.relVs σ fz (l ++ [a]) (l ++ [b])
 | [], _, h => ⟨h, trivial⟩
 | x :: l, hl, h => ⟨hl x (by simp), rel_snoc l (fun y hy => hl y (by simp [hy])) h⟩
variable {G : GS}
attribute [local irreducible] vOpsN vOpsG vOpsD vOpGD NextD vC SeqQ BlockQ
def rowF (l : List Fld) : MB := ⟨128, 4, true, 0, l.map fldM⟩
def textF (n : Nat) (s : List UInt8) : List Fld := if s = [] then [] else [⟨n, 2, 0, s⟩]
def numF (n : Nat) (v : Nat) : List Fld := if v = 0 then [] else [⟨n, 0, v, []⟩]
theorem text_r (l : List Fld) (n : Nat) (s : List UInt8) (hl : l.length < 100000000) (hs : s.length < 100000000) : SemR Tryz.prog G 139 [.ms 0 4 0 l.length, .int .i64 n, .str s] [(0, rowF l)] 1 (.ms 1 4 0 (l ++ textF n s).length) [(1, rowF (l ++ textF n s))] 2 := by
 unfold rowF textF
 by_cases h0 : s = []
 ·rw [if_pos h0, List.append_nil]
  subst h0
  refine semR_move rfl ?_
  refine srq seat Tryz.func139 17 ?_
  refine go1 ?_
  refine ⟨[_], [], [], rfl, rfl, trivial, rfl, ⟨?_, trivial⟩, ?_⟩
  ·exact rv
  ·exact mm
 ·rw [if_neg h0, List.length_append, List.length_singleton]
  refine srq seat Tryz.func139 17 ?_
  refine go1 ?_
  (refine c_cond rfl ?_ ?_ <;> intro h)
  ·exact absurd h (by simp; intro h; exact absurd h h0)
  ·refine go1 ?_
   ((with_reducible apply g_mem); (case hq => exact rfl); (case hv => exact rfl); (case he => (intro R hR; refine sms hR ?_; (refine And.intro (Nat.le_refl _) ?_; refine ⟨_, rfl, ?_⟩; refine And.intro ⟨(by simp), app_ok (by kernel_rfl) pf⟩ ?_; refine ⟨(l ++ [(⟨n, 2, 0, s⟩ : Fld)]).map fldM, sv (by simp; rfl), l.length + 1, sv pf, ?_⟩); exact hR)); (case hd => exact rfl))
   refine go1 ?_
   refine ⟨[_], [(1, 10)], [], rfl, rfl, trivial, rfl, ⟨?_, trivial⟩, ?_⟩
   ·exact rv
   ·exact mm
theorem number_r (l : List Fld) (n : Nat) (v : Nat) (hl : l.length < 100000000) : SemR Tryz.prog G 140 [.ms 0 4 0 l.length, .int .i64 n, .int .u64 v] [(0, rowF l)] 1 (.ms 1 4 0 (l ++ numF n v).length) [(1, rowF (l ++ numF n v))] 2 := by
 unfold rowF numF
 by_cases h0 : v = 0
 ·rw [if_pos h0, List.append_nil]
  subst h0
  refine semR_move rfl ?_
  refine srq seat Tryz.func140 16 ?_
  refine go1 ?_
  refine ⟨[_], [], [], rfl, rfl, trivial, rfl, ⟨?_, trivial⟩, ?_⟩
  ·exact rv
  ·exact mm
 ·rw [if_neg h0, List.length_append, List.length_singleton]
  refine srq seat Tryz.func140 16 ?_
  refine go1 ?_
  (refine c_cond rfl ?_ ?_ <;> intro h)
  ·exfalso
   have : (v : Int) = 0 := by simpa using h
   omega
  ·refine go1 ?_
   ((with_reducible apply g_mem); (case hq => exact rfl); (case hv => exact rfl); (case he => (intro R hR; refine sms hR ?_; (refine And.intro (Nat.le_refl _) ?_; refine ⟨_, rfl, ?_⟩; refine And.intro ⟨(by simp), app_ok (by kernel_rfl) pf⟩ ?_; refine ⟨l.map fldM ++ [.st [.int .i64 n, .int .i64 0, .int .u64 v, .nils]], sv (by simp [cutL, setL, repM]), l.length + 1, sv pf, ?_⟩); exact hR)); (case hd => exact rfl))
   refine go1 ?_
   refine ⟨[_], [(1, 9)], [], rfl, rfl, trivial, rfl, ⟨?_, trivial⟩, ?_⟩
   ·exact rv
   ·refine ⟨.inr ⟨_, _, rfl, rfl, rfl, rfl, .inl rfl, .inl rfl, .inr ?_⟩, trivial⟩
    rw [List.map_append]
    exact rel_snoc _ (fun x hx => by obtain ⟨f, _, rfl⟩ := List.mem_map.1 hx; exact .inl ⟨rfl, rfl⟩) (.inr ⟨_, rfl, ⟨rfl, rfl⟩, ⟨rfl, rfl⟩, ⟨rfl, rfl⟩, .inr ⟨rfl, rfl⟩, trivial⟩)
end
section
variable {G : GS}
attribute [local irreducible] vOpsN vOpsG vOpsD vOpGD NextD vC SeqQ BlockQ
structure TrS where
 to_ : List UInt8
 amt : Nat
 deriving DecidableEq
structure TxS where
 sender : List UInt8
 seq : Nat
 gas : Nat
 fee : Nat
 memo : List UInt8
 trs : List TrS
 deriving DecidableEq
def trM (x : TrS) : MV := .st [.str x.to_, .int .u64 x.amt]
def txM (t : TxS) : MV := .st [.str t.sender, .int .u64 t.seq, .int .u64 t.gas, .int .u64 t.fee, .str t.memo, .sl t.trs.length (t.trs.map trM)]
abbrev U64 (n : Nat) : Prop := n < 18446744073709551616
def SmTr (x : TrS) : Prop := x.to_.length ≤ 5000 ∧ U64 x.amt
def SmTx (t : TxS) : Prop := t.sender.length ≤ 5000 ∧ U64 t.seq ∧ U64 t.gas ∧ U64 t.fee ∧ t.memo.length ≤ 5000 ∧ t.trs.length ≤ 5000 ∧ ∀ x ∈ t.trs, SmTr x
def trF (x : TrS) : Fld := ⟨6, 2, 0, msgS (textF 1 x.to_ ++ numF 2 x.amt)⟩
def formF (t : TxS) : List Fld := textF 1 t.sender ++ numF 2 t.seq ++ numF 3 t.gas ++ numF 4 t.fee ++ textF 5 t.memo ++ t.trs.map trF
def formS (t : TxS) : List UInt8 := msgS (formF t)
theorem fieldS_len {f : Fld} (hf : okF f) : (fieldS f).length ≤ f.bytes.length + 20 := by
 have h1 := (varS_len10 (n := f.num * 8 + f.kind) (by unfold okF at hf; omega)).2
 unfold fieldS
 rw [List.length_append]
 split
 ·have h2 := (varS_len10 (n := f.val) (by unfold okF at hf; omega)).2
  omega
 ·rename_i hk
  have h2 := (varS_len10 (n := f.bytes.length) (by unfold okF at hf; omega)).2
  rw [List.length_append]; omega
theorem msgS_len_le (B : Nat) : ∀ (l : List Fld), (∀ f ∈ l, okF f ∧ f.bytes.length ≤ B) → (msgS l).length ≤ l.length * (B + 20)
 | [], _ => by simp [msgS]
 | f :: l, h => by
  have h1 := fieldS_len (h f (by simp)).1
  have h2 := (h f (by simp)).2
  have ih := msgS_len_le B l fun g hg => h g (by simp [hg])
  have e : msgS (f :: l) = fieldS f ++ msgS l := by simp [msgS]
  rw [e, List.length_append, List.length_cons, Nat.add_mul]
  omega
theorem textF_ok {n : Nat} {s : List UInt8} (h1 : 1 ≤ n) (h2 : n ≤ 100) (B : Nat) (hs : s.length ≤ B) (hB : B < 18446744073709551616) : (∀ f ∈ textF n s, okF f ∧ f.bytes.length ≤ B) ∧ (textF n s).length ≤ 1 := by
 unfold textF
 split
 ·simp
 ·refine ⟨fun f hf => ?_, by simp⟩
  rw [List.mem_singleton.1 hf]
  exact ⟨⟨by dsimp only; omega, by dsimp only; omega, .inr ⟨rfl, rfl, by dsimp only; omega⟩⟩, hs⟩
theorem numF_ok {n v : Nat} (h1 : 1 ≤ n) (h2 : n ≤ 100) (B : Nat) (hv : U64 v) : (∀ f ∈ numF n v, okF f ∧ f.bytes.length ≤ B) ∧ (numF n v).length ≤ 1 := by
 unfold numF
 split
 ·simp
 ·refine ⟨fun f hf => ?_, by simp⟩
  rw [List.mem_singleton.1 hf]
  exact ⟨⟨by dsimp only; omega, by dsimp only; omega, .inl ⟨rfl, rfl, hv⟩⟩, by simp⟩
theorem all_app {α : Type} {p : α → Prop} {a b : List α} (ha : ∀ x ∈ a, p x) (hb : ∀ x ∈ b, p x) : ∀ x ∈ a ++ b, p x := fun x hx => (List.mem_append.1 hx).elim (ha x) (hb x)
theorem inner_ok {x : TrS} (h : SmTr x) : (∀ f ∈ textF 1 x.to_ ++ numF 2 x.amt, okF f ∧ f.bytes.length ≤ 5000) ∧ (textF 1 x.to_ ++ numF 2 x.amt).length ≤ 2 := by
 have h1 := textF_ok (n := 1) (s := x.to_) (by omega) (by omega) 5000 h.1 (by omega)
 have h2 := numF_ok (n := 2) (v := x.amt) (by omega) (by omega) 5000 h.2
 exact ⟨all_app h1.1 h2.1, by rw [List.length_append]; omega⟩
theorem inner_len {x : TrS} (h : SmTr x) : (msgS (textF 1 x.to_ ++ numF 2 x.amt)).length ≤ 10040 := by
 have h1 := inner_ok h
 have h2 := msgS_len_le 5000 _ h1.1
 have h3 := Nat.mul_le_mul_right (5000 + 20) h1.2
 omega
theorem trF_ok {x : TrS} (h : SmTr x) : okF (trF x) ∧ (trF x).bytes.length ≤ 10040 := by
 have := inner_len h
 exact ⟨⟨by unfold trF; dsimp only; omega, by unfold trF; dsimp only; omega, .inr ⟨rfl, rfl, by unfold trF; dsimp only; omega⟩⟩, this⟩
theorem formF_ok {t : TxS} (h : SmTx t) : (∀ f ∈ formF t, okF f ∧ f.bytes.length ≤ 10040) ∧ (formF t).length ≤ 5005 := by
 obtain ⟨h1, h2, h3, h4, h5, h6, h7⟩ := h
 have a1 := textF_ok (n := 1) (s := t.sender) (by omega) (by omega) 10040 (by omega) (by omega)
 have a2 := numF_ok (n := 2) (v := t.seq) (by omega) (by omega) 10040 h2
 have a3 := numF_ok (n := 3) (v := t.gas) (by omega) (by omega) 10040 h3
 have a4 := numF_ok (n := 4) (v := t.fee) (by omega) (by omega) 10040 h4
 have a5 := textF_ok (n := 5) (s := t.memo) (by omega) (by omega) 10040 (by omega) (by omega)
 unfold formF
 refine ⟨all_app (all_app (all_app (all_app (all_app a1.1 a2.1) a3.1) a4.1) a5.1) fun f hf => ?_, ?_⟩
 ·obtain ⟨x, hx, rfl⟩ := List.mem_map.1 hf
  exact trF_ok (h7 x hx)
 ·simp only [List.length_append, List.length_map]; omega
theorem formS_len {t : TxS} (h : SmTx t) : (formS t).length ≤ 50350300 := by
 have h1 := formF_ok h
 have h2 := msgS_len_le 10040 _ h1.1
 have h3 := Nat.mul_le_mul_right (10040 + 20) h1.2
 unfold formS
 omega
theorem trs_at {l : List TrS} {k : Nat} (hk : k < l.length) : idxL (l.map trM) l.length (k : Int) = some (trM l[k]) := index_at hk (by simp [hk])
theorem form_r (t : TxS) (ht : SmTx t) : SemR Tryz.prog G 82 [txM t] [] 0 (.sl (formS t).length (u8s (formS t))) [] 0 := by
 have hok := formF_ok ht
 have hfl := formS_len ht
 obtain ⟨sender, seq, gas, fee, memo, trs⟩ := t
 obtain ⟨h1, h2, h3, h4, h5, h6, h7⟩ := ht
 dsimp only at h1 h2 h3 h4 h5 h6 h7
 have cm := message_r (G := G) _ (fun f hf => (hok.1 f hf).1) (show (msgS _).length < 200000000 from Nat.lt_of_le_of_lt hfl (by omega)) (by omega)
 have a1 := (textF_ok (n := 1) (s := sender) (by omega) (by omega) 10040 (by omega) (by omega)).2
 have a2 := (numF_ok (n := 2) (v := seq) (by omega) (by omega) 10040 h2).2
 have a3 := (numF_ok (n := 3) (v := gas) (by omega) (by omega) 10040 h3).2
 have a4 := (numF_ok (n := 4) (v := fee) (by omega) (by omega) 10040 h4).2
 have a5 := (textF_ok (n := 5) (s := memo) (by omega) (by omega) 10040 (by omega) (by omega)).2
 unfold formS formF at *
 unfold txM
 dsimp only at *
 have c1 := text_r (G := G) [] 1 sender (by simp) (by omega)
 rw [List.nil_append] at c1
 generalize textF 1 sender = l1 at *
 have c2 := number_r (G := G) l1 2 seq (by omega)
 have q2 : (l1 ++ numF 2 seq).length ≤ 2 := by rw [List.length_append]; omega
 generalize l1 ++ numF 2 seq = l2 at *
 have c3 := number_r (G := G) l2 3 gas (by omega)
 have q3 : (l2 ++ numF 3 gas).length ≤ 3 := by rw [List.length_append]; omega
 generalize l2 ++ numF 3 gas = l3 at *
 have c4 := number_r (G := G) l3 4 fee (by omega)
 have q4 : (l3 ++ numF 4 fee).length ≤ 4 := by rw [List.length_append]; omega
 generalize l3 ++ numF 4 fee = l4 at *
 have c5 := text_r (G := G) l4 5 memo (by omega) (by omega)
 have q5 : (l4 ++ textF 5 memo).length ≤ 5 := by rw [List.length_append]; omega
 generalize l4 ++ textF 5 memo = l5 at *
 unfold rowF at c1 c2 c3 c4 c5
 refine srq seat Tryz.func82 46 ?_
 refine go1 ?_
 refine g_callR1 rfl hhq rfl (c1) [] [] ⟨rfl, trivial, rfl, lm, mm⟩ rfl rfl ?_
 refine go1 ?_
 refine g_callR1 rfl hhq rfl (c2) [(0, _)] [] ⟨rfl, trivial, rfl, lm, mm⟩ rfl rfl ?_
 refine go1 ?_
 refine g_callR1 rfl hhq rfl (c3) [(0, _)] [] ⟨rfl, trivial, rfl, lm, mm⟩ rfl rfl ?_
 refine go1 ?_
 refine g_callR1 rfl hhq rfl (c4) [(0, _)] [] ⟨rfl, trivial, rfl, lm, mm⟩ rfl rfl ?_
 refine go1 ?_
 refine g_callR1 rfl hhq rfl (c5) [(0, _)] [] ⟨rfl, trivial, rfl, lm, mm⟩ rfl rfl ?_
 refine go1 ?_
 refine c_loop Nat (fun k => [(28, .int .i64 k), (27, .int .i64 trs.length), (26, .sl trs.length (trs.map trM)), (3, .ms 0 4 0 (l5 ++ (trs.take k).map trF).length)]) (fun k => [(0, ⟨128, 4, true, 0, (l5 ++ (trs.take k).map trF).map fldM⟩)]) 1 (fun k => k ≤ trs.length) (fun k => trs.length - k) 0 (Nat.zero_le _) (by rw [List.take_zero, List.map_nil, List.append_nil]; exact (vm [(0, _)] [])) ?_
 intro k hk
 try dsimp only
 refine go1 ?_
 (refine c_cond rfl ?_ ?_ <;> intro h)
 ·have hk' : k < trs.length := by have := of_decide_eq_true h; omega
  have hx := h7 _ (List.getElem_mem hk')
  have hel := trs_at hk'
  have hsucc : l5 ++ (trs.take (k + 1)).map trF = (l5 ++ (trs.take k).map trF) ++ [trF trs[k]] := by rw [List.take_succ_eq_append_getElem hk', List.map_append, List.append_assoc]; rfl
  have hll : (l5 ++ (trs.take k).map trF).length ≤ 5005 := by rw [List.length_append, List.length_map, List.length_take]; omega
  generalize trs[k] = x at *
  generalize l5 ++ (trs.take k).map trF = lk at *
  have hio := inner_ok hx
  have hil := inner_len hx
  have hto := textF_ok (n := 1) (s := x.to_) (by omega) (by omega) 5000 hx.1 (by omega)
  have d1 := text_r (G := G) [] 1 x.to_ (by simp) (by have := hx.1; omega)
  rw [List.nil_append] at d1
  have d2 := number_r (G := G) (textF 1 x.to_) 2 x.amt (by omega)
  have d3 := message_r (G := G) (textF 1 x.to_ ++ numF 2 x.amt) (fun f hf => (hio.1 f hf).1) (by omega) (by omega)
  unfold rowF at d1 d2
  have htr : trF x = ⟨6, 2, 0, msgS (textF 1 x.to_ ++ numF 2 x.amt)⟩ := rfl
  generalize textF 1 x.to_ ++ numF 2 x.amt = li at *
  generalize textF 1 x.to_ = lt at *
  generalize msgS li = mi at *
  (have fct := SomF.mk (hel); refine go1 ?_)
  refine c_draw [(0, false), (1, false), (2, false), (3, true), (4, false), (5, false), (6, true), (7, true), (8, false), (9, false), (10, false), (11, false)] ?_
  refine go1 ?_
  refine gd_callR1 rfl hhq rfl [] (d1) [] [] ⟨rfl, trivial, rfl, lm, mm⟩ rfl rfl rfl rfl ?_
  refine go1 ?_
  refine gd_callR1 rfl hhq rfl [9] (d2) [(0, 9)] [] ⟨rfl, trivial, rfl, lm, mm⟩ rfl rfl rfl rfl ?_
  refine go1 ?_
  refine gd_call1 rfl hhq rfl [12] (d3) rfl [(12, li.length)] mm lm rfl ?_
  refine go1 ?_
  ((with_reducible apply gd_mem); (case hv => exact rfl); (case he => (intro R hR; refine sms hR ?_; (refine And.intro (Nat.le_refl _) ?_; refine ⟨_, rfl, ?_⟩; refine And.intro ⟨(by simp), app_ok (by kernel_rfl) pf⟩ ?_; refine ⟨(lk ++ [(⟨6, 2, 0, mi⟩ : Fld)]).map fldM, sv (by simp; rfl), lk.length + 1, sv pf, ?_⟩); exact hR)); (case hd => exact rfl))
  refine go1 ?_
  exact ⟨k + 1, by show k + 1 ≤ trs.length; omega, by show trs.length - (k + 1) < trs.length - k; omega, (by dsimp only; rw [hsucc, htr, List.length_append, List.length_singleton]; exact (vm [(0, _)] []))⟩
 ·have hk' : k = trs.length := by have := of_decide_eq_false h; omega
  subst hk'
  rw [List.take_length]
  generalize l5 ++ trs.map trF = lk at *
  generalize msgS lk = mk at *
  refine go1 ?_
  refine g_call1 rfl hhq rfl (cm) rfl [(0, lk.length)] mm lm ?_
  refine go1 ?_
  refine ⟨[_], [], [], rfl, rfl, trivial, rfl, ⟨?_, trivial⟩, ?_⟩
  ·exact rv
  ·exact mm
end
section
mutual
theorem relV_self {σ : Nat → Option Nat} {fz : Fz} : ∀ (m : MV), m.idFree = true → relV σ fz m m
 | .st l, h => .inl ⟨rfl, h⟩
 | .fn f l, h => .inl ⟨rfl, h⟩
 | .ifc t v, h => .inl ⟨rfl, h⟩
 | .sl .., _ => .inl rfl
 | .ep .., _ => .inl rfl
 | .ptr .., h => by cases h
 | .ms .., h => by cases h
 | .tup .., h => by cases h
 | .undef, h => by cases h
 | .int .., _ => ⟨rfl, rfl⟩
 | .bool .., _ => ⟨rfl, rfl⟩
 | .str .., _ => ⟨rfl, rfl⟩
 | .nilp, _ => ⟨rfl, rfl⟩
 | .gp .., _ => ⟨rfl, rfl⟩
 | .nils, _ => ⟨rfl, rfl⟩
 | .nilf, _ => ⟨rfl, rfl⟩
 | .nili, _ => ⟨rfl, rfl⟩
 | .arr .., _ => ⟨rfl, rfl⟩
theorem relVs_self {σ : Nat → Option Nat} {fz : Fz} : ∀ (l : List MV), MV.idFrees l = true → relV.relVs σ fz l l
 | [], _ => trivial
 | m :: l, h => by
  simp only [MV.idFrees, Bool.and_eq_true] at h
  exact ⟨relV_self m h.1, relVs_self l h.2⟩
end
section
variable {Pg : Program} {T : Tab} {N : Nat} {ents : List FuncId} {G : GS} {ops : Array Oper} {d : Tmp} {ty : TypeId} {pos : String} {after : Array Edge} {g : Option (Nat × Bool)} {rest : List Oper} {K : VK} {E : VE} {M : VM} {n : Nat} {f : Operand} {args : Array Operand} {ats : Array TypeId} {f0 : FuncId} {vs : List MV} {res : MV}
theorem g_call3 (hd : Nat.blt d N = true) (h1 : ∀ R : FuncId × List MV → Prop, R (f0, vs) → (vArgs E f args.toList).runP R) (h2 : ents.contains f0 = true) (hc : SemR Pg G f0 vs [] 0 res [] 0) (hf : nfree res = true) (hi : MV.idFrees vs = true)
  (h : vOpsN Pg T N ents G ops rest K ((d, res) :: E) M n) : vOpsG Pg T N ents G ops ⟨some d, .call ⟨.value f, args, ats⟩, ty, pos, after, g⟩ rest K E M n :=
 g_call2 hd h1 h2 hc hf (relVs_self vs hi) h
end
variable {G : GS}
attribute [local irreducible] vOpsN vOpsG vOpsD vOpGD NextD vC SeqQ BlockQ
def followS (s : List UInt8) (i : Nat) : Bool := decide (i < s.length) && (decide (128 ≤ (s.getD i 0).toNat) && decide ((s.getD i 0).toNat < 192))
theorem idxS_at {s : List UInt8} {i : Nat} (h : i < s.length) : idxS s (i : Int) = some (s.getD i 0) := by
 unfold idxS
 rw [if_pos (by omega)]
 simp [h]
theorem idxS_of {s : List UInt8} {j : Int} (i : Nat) (hj : j = i) (h : i < s.length) : idxS s j = some (s.getD i 0) := by
 subst hj; exact idxS_at h
theorem follow_m (s : List UInt8) (i : Nat) (_hs : s.length < 1000000000) : SemC Tryz.prog G 182 [.str s, .int .i64 i] (.bool (followS s i)) := by
 unfold followS
 by_cases hi : i < s.length
 ·have f1 := SomF.mk (idxS_at hi)
  generalize s.getD i 0 = c at *
  rw [decide_eq_true hi, Bool.true_and]
  by_cases h1 : 128 ≤ c.toNat
  ·rw [decide_eq_true h1, Bool.true_and]
   refine scq seat Tryz.func182 21 ?_
   (iterate 3 ((all_goals (refine go1 ?_)); (all_goals (first | ((with_reducible apply n_grd); (case hf => exact ⟨rfl, rfl, rfl⟩); (all_goals intro h); (all_goals (try simp only [decide_eq_true_eq, decide_eq_false_iff_not, Bool.not_true] at h)); (all_goals (try (exfalso; omega)))) | ((with_reducible apply c_cond); (case he => exact rfl); (all_goals intro h); (all_goals (try simp only [bx] at h)); (all_goals (try (exfalso; omega)))) | skip))))
   all_goals first | (exfalso; omega) | (refine go0 ?_; first | rfl | exact congrArg MV.bool (decide_eq_decide.2 (by omega)))
  ·rw [decide_eq_false h1, Bool.false_and]
   refine scq seat Tryz.func182 21 ?_
   (iterate 3 ((all_goals (refine go1 ?_)); (all_goals (first | ((with_reducible apply n_grd); (case hf => exact ⟨rfl, rfl, rfl⟩); (all_goals intro h); (all_goals (try simp only [decide_eq_true_eq, decide_eq_false_iff_not, Bool.not_true] at h)); (all_goals (try (exfalso; omega)))) | ((with_reducible apply c_cond); (case he => exact rfl); (all_goals intro h); (all_goals (try simp only [bx] at h)); (all_goals (try (exfalso; omega)))) | skip))))
   all_goals first | (exfalso; omega) | (refine go0 ?_; first | rfl | exact congrArg MV.bool (decide_eq_decide.2 (by omega)))
 ·rw [decide_eq_false hi, Bool.false_and]
  refine scq seat Tryz.func182 21 ?_
  (iterate 3 ((all_goals (refine go1 ?_)); (all_goals (first | ((with_reducible apply n_grd); (case hf => exact ⟨rfl, rfl, rfl⟩); (all_goals intro h); (all_goals (try simp only [decide_eq_true_eq, decide_eq_false_iff_not, Bool.not_true] at h)); (all_goals (try (exfalso; omega)))) | ((with_reducible apply c_cond); (case he => exact rfl); (all_goals intro h); (all_goals (try simp only [bx] at h)); (all_goals (try (exfalso; omega)))) | skip))))
  all_goals first | (exfalso; omega) | (refine go0 ?_; first | rfl | exact congrArg MV.bool (decide_eq_decide.2 (by omega)))
def runeS (s : List UInt8) (i : Nat) : Nat :=
 if (s.getD i 0).toNat < 128 then 1 else
 if 194 ≤ (s.getD i 0).toNat ∧ (s.getD i 0).toNat < 224 ∧ followS s (i + 1) = true then 2 else
 if 224 ≤ (s.getD i 0).toNat ∧ (s.getD i 0).toNat < 240 ∧ followS s (i + 1) = true ∧ followS s (i + 2) = true then
  (if (s.getD i 0).toNat = 224 ∧ (s.getD (i + 1) 0).toNat < 160 ∨ (s.getD i 0).toNat = 237 ∧ 160 ≤ (s.getD (i + 1) 0).toNat then 0 else 3) else
 if 240 ≤ (s.getD i 0).toNat ∧ (s.getD i 0).toNat < 245 ∧ followS s (i + 1) = true ∧ followS s (i + 2) = true ∧ followS s (i + 3) = true then
  (if (s.getD i 0).toNat = 240 ∧ (s.getD (i + 1) 0).toNat < 144 ∨ (s.getD i 0).toNat = 244 ∧ 144 ≤ (s.getD (i + 1) 0).toNat then 0 else 4) else 0
theorem followS_lt {s : List UInt8} {i : Nat} (h : followS s i = true) : i < s.length := by
 unfold followS at h
 rw [Bool.and_eq_true] at h
 exact of_decide_eq_true h.1
theorem rune_m (s : List UInt8) (i : Nat) (hs : s.length < 1000000000) (hi : i < s.length) : SemC Tryz.prog G 180 [.str s, .int .i64 i] (.int .i64 (runeS s i)) := by
 have f0 := SomF.mk (idxS_at hi)
 have c1 : SemC Tryz.prog G 182 [.str s, .int .i64 ((i : Int) + 1)] _ := follow_m s (i + 1) hs
 have c2 : SemC Tryz.prog G 182 [.str s, .int .i64 ((i : Int) + 2)] _ := follow_m s (i + 2) hs
 have c3 : SemC Tryz.prog G 182 [.str s, .int .i64 ((i : Int) + 3)] _ := follow_m s (i + 3) hs
 generalize hr : runeS s i = r
 unfold runeS at hr
 have l1 := followS_lt (s := s) (i := i + 1)
 have f1 : i + 1 < s.length → idxS s ((i : Int) + 1) = some (s.getD (i + 1) 0) := fun h => idxS_of (i + 1) (by omega) h
 generalize s.getD i 0 = x at *
 generalize s.getD (i + 1) 0 = y at *
 generalize followS s (i + 1) = b1 at *
 generalize followS s (i + 2) = b2 at *
 generalize followS s (i + 3) = b3 at *
 rcases Nat.lt_or_ge x.toNat 128 with g1 | g1
 ·
  clear l1 f1
  refine scq seat Tryz.func180 109 ?_
  (iterate 12 ((all_goals (refine go1 ?_)); (all_goals (first | (refine g_call3 rfl hhq rfl (src (c1)) rfl rfl ?_) | (refine g_call3 rfl hhq rfl (src (c2)) rfl rfl ?_) | (refine g_call3 rfl hhq rfl (src (c3)) rfl rfl ?_) | ((with_reducible apply n_grd); (case hf => exact ⟨rfl, rfl, rfl⟩); (all_goals intro h); (all_goals (try simp only [bx] at h)); (all_goals (try (exfalso; omega)))) | ((with_reducible apply c_cond); (case he => exact rfl); (all_goals intro h); (all_goals (try simp only [decide_eq_true_eq, decide_eq_false_iff_not] at h)); (all_goals (try (exfalso; omega)))) | skip))))
  refine go0 ?_
  exact congrArg (MV.int .i64) (by subst hr; (repeat (first | rw [if_pos (by omega)] | rw [if_neg (by omega)])); first | rfl | omega)
 rcases Nat.lt_or_ge x.toNat 194 with g2 | g2
 ·
  clear l1 f1
  refine scq seat Tryz.func180 109 ?_
  (iterate 12 ((all_goals (refine go1 ?_)); (all_goals (first | (refine g_call3 rfl hhq rfl (src (c1)) rfl rfl ?_) | (refine g_call3 rfl hhq rfl (src (c2)) rfl rfl ?_) | (refine g_call3 rfl hhq rfl (src (c3)) rfl rfl ?_) | ((with_reducible apply n_grd); (case hf => exact ⟨rfl, rfl, rfl⟩); (all_goals intro h); (all_goals (try simp only [decide_eq_true_eq, decide_eq_false_iff_not, Bool.not_true] at h)); (all_goals (try (exfalso; omega)))) | ((with_reducible apply c_cond); (case he => exact rfl); (all_goals intro h); (all_goals (try simp only [decide_eq_true_eq, decide_eq_false_iff_not] at h)); (all_goals (try (exfalso; omega)))) | skip))))
  refine go0 ?_
  exact congrArg (MV.int .i64) (by subst hr; (repeat (first | rw [if_pos (by omega)] | rw [if_neg (by omega)])); first | rfl | omega)
 rcases Nat.lt_or_ge x.toNat 224 with g3 | g3
 ·cases b1 with
  | false =>
   simp only [Bool.false_eq_true, and_false, false_and, if_false] at hr
   clear l1 f1
   refine scq seat Tryz.func180 109 ?_
   (iterate 12 ((all_goals (refine go1 ?_)); (all_goals (first | (refine g_call3 rfl hhq rfl (src (c1)) rfl rfl ?_) | (refine g_call3 rfl hhq rfl (src (c2)) rfl rfl ?_) | (refine g_call3 rfl hhq rfl (src (c3)) rfl rfl ?_) | ((with_reducible apply n_grd); (case hf => exact ⟨rfl, rfl, rfl⟩); (all_goals intro h); (all_goals (try simp only [decide_eq_true_eq, decide_eq_false_iff_not, Bool.not_true] at h)); (all_goals (try (exfalso; omega)))) | ((with_reducible apply c_cond); (case he => exact rfl); (all_goals intro h); (all_goals (try simp only [decide_eq_true_eq, decide_eq_false_iff_not] at h)); (all_goals (try (exfalso; omega)))) | skip))))
   refine go0 ?_
   exact congrArg (MV.int .i64) (by subst hr; (repeat (first | rw [if_pos (by omega)] | rw [if_neg (by omega)])); first | rfl | omega)
  | true =>
   rw [if_neg (by omega), if_pos ⟨by omega, by omega, rfl⟩] at hr
   clear l1 f1
   refine scq seat Tryz.func180 109 ?_
   (iterate 12 ((all_goals (refine go1 ?_)); (all_goals (first | (refine g_call3 rfl hhq rfl (src (c1)) rfl rfl ?_) | (refine g_call3 rfl hhq rfl (src (c2)) rfl rfl ?_) | (refine g_call3 rfl hhq rfl (src (c3)) rfl rfl ?_) | ((with_reducible apply n_grd); (case hf => exact ⟨rfl, rfl, rfl⟩); (all_goals intro h); (all_goals (try simp only [decide_eq_true_eq, decide_eq_false_iff_not, Bool.not_true] at h)); (all_goals (try (exfalso; omega)))) | ((with_reducible apply c_cond); (case he => exact rfl); (all_goals intro h); (all_goals (try simp only [decide_eq_true_eq, decide_eq_false_iff_not] at h)); (all_goals (try (exfalso; omega)))) | skip))))
   refine go0 ?_
   exact congrArg (MV.int .i64) (by subst hr; (repeat (first | rw [if_pos (by omega)] | rw [if_neg (by omega)])); first | rfl | omega)
 rw [if_neg (by omega), if_neg (by omega)] at hr
 rcases Nat.lt_or_ge x.toNat 240 with g4 | g4
 ·cases b1 with
  | false =>
   simp only [Bool.false_eq_true, and_false, false_and, if_false] at hr
   clear l1 f1
   refine scq seat Tryz.func180 109 ?_
   (iterate 12 ((all_goals (refine go1 ?_)); (all_goals (first | (refine g_call3 rfl hhq rfl (src (c1)) rfl rfl ?_) | (refine g_call3 rfl hhq rfl (src (c2)) rfl rfl ?_) | (refine g_call3 rfl hhq rfl (src (c3)) rfl rfl ?_) | ((with_reducible apply n_grd); (case hf => exact ⟨rfl, rfl, rfl⟩); (all_goals intro h); (all_goals (try simp only [decide_eq_true_eq, decide_eq_false_iff_not, Bool.not_true] at h)); (all_goals (try (exfalso; omega)))) | ((with_reducible apply c_cond); (case he => exact rfl); (all_goals intro h); (all_goals (try simp only [decide_eq_true_eq, decide_eq_false_iff_not] at h)); (all_goals (try (exfalso; omega)))) | skip))))
   refine go0 ?_
   exact congrArg (MV.int .i64) (by subst hr; (repeat (first | rw [if_pos (by omega)] | rw [if_neg (by omega)])); first | rfl | omega)
  | true =>
   cases b2 with
   | false =>
    simp only [Bool.false_eq_true, and_false, false_and, if_false] at hr
    clear l1 f1
    refine scq seat Tryz.func180 109 ?_
    (iterate 12 ((all_goals (refine go1 ?_)); (all_goals (first | (refine g_call3 rfl hhq rfl (src (c1)) rfl rfl ?_) | (refine g_call3 rfl hhq rfl (src (c2)) rfl rfl ?_) | (refine g_call3 rfl hhq rfl (src (c3)) rfl rfl ?_) | ((with_reducible apply n_grd); (case hf => exact ⟨rfl, rfl, rfl⟩); (all_goals intro h); (all_goals (try simp only [decide_eq_true_eq, decide_eq_false_iff_not, Bool.not_true] at h)); (all_goals (try (exfalso; omega)))) | ((with_reducible apply c_cond); (case he => exact rfl); (all_goals intro h); (all_goals (try simp only [decide_eq_true_eq, decide_eq_false_iff_not] at h)); (all_goals (try (exfalso; omega)))) | skip))))
    refine go0 ?_
    exact congrArg (MV.int .i64) (by subst hr; (repeat (first | rw [if_pos (by omega)] | rw [if_neg (by omega)])); first | rfl | omega)
   | true =>
    have f1 := SomF.mk (f1 (l1 rfl))
    rw [if_pos ⟨by omega, by omega, rfl, rfl⟩] at hr
    refine scq seat Tryz.func180 109 ?_
    (iterate 20 ((all_goals (refine go1 ?_)); (all_goals (first | (refine g_call3 rfl hhq rfl (src (c1)) rfl rfl ?_) | (refine g_call3 rfl hhq rfl (src (c2)) rfl rfl ?_) | (refine g_call3 rfl hhq rfl (src (c3)) rfl rfl ?_) | ((with_reducible apply n_grd); (case hf => exact ⟨rfl, rfl, rfl⟩); (all_goals intro h); (all_goals (try simp only [decide_eq_true_eq, decide_eq_false_iff_not, beq_iff_eq, ne_eq, Bool.not_true, Bool.not_false, beq_eq_false_iff_ne] at h)); (all_goals (try (exfalso; omega)))) | ((with_reducible apply c_cond); (case he => exact rfl); (all_goals intro h); (all_goals (try simp only [decide_eq_true_eq, decide_eq_false_iff_not] at h)); (all_goals (try (exfalso; omega)))) | skip))))
    all_goals (refine go0 ?_; exact congrArg (MV.int .i64) (by subst hr; (repeat (first | rw [if_pos (by omega)] | rw [if_neg (by omega)])); first | rfl | omega))
 rw [if_neg (by omega)] at hr
 rcases Nat.lt_or_ge x.toNat 245 with g5 | g5
 ·cases b1 with
  | false =>
   simp only [Bool.false_eq_true, and_false, false_and, if_false] at hr
   clear l1 f1
   refine scq seat Tryz.func180 109 ?_
   (iterate 12 ((all_goals (refine go1 ?_)); (all_goals (first | (refine g_call3 rfl hhq rfl (src (c1)) rfl rfl ?_) | (refine g_call3 rfl hhq rfl (src (c2)) rfl rfl ?_) | (refine g_call3 rfl hhq rfl (src (c3)) rfl rfl ?_) | ((with_reducible apply n_grd); (case hf => exact ⟨rfl, rfl, rfl⟩); (all_goals intro h); (all_goals (try simp only [decide_eq_true_eq, decide_eq_false_iff_not, Bool.not_true] at h)); (all_goals (try (exfalso; omega)))) | ((with_reducible apply c_cond); (case he => exact rfl); (all_goals intro h); (all_goals (try simp only [decide_eq_true_eq, decide_eq_false_iff_not] at h)); (all_goals (try (exfalso; omega)))) | skip))))
   refine go0 ?_
   exact congrArg (MV.int .i64) (by subst hr; (repeat (first | rw [if_pos (by omega)] | rw [if_neg (by omega)])); first | rfl | omega)
  | true =>
   cases b2 with
   | false =>
    simp only [Bool.false_eq_true, and_false, false_and, if_false] at hr
    clear l1 f1
    refine scq seat Tryz.func180 109 ?_
    (iterate 12 ((all_goals (refine go1 ?_)); (all_goals (first | (refine g_call3 rfl hhq rfl (src (c1)) rfl rfl ?_) | (refine g_call3 rfl hhq rfl (src (c2)) rfl rfl ?_) | (refine g_call3 rfl hhq rfl (src (c3)) rfl rfl ?_) | ((with_reducible apply n_grd); (case hf => exact ⟨rfl, rfl, rfl⟩); (all_goals intro h); (all_goals (try simp only [decide_eq_true_eq, decide_eq_false_iff_not, Bool.not_true] at h)); (all_goals (try (exfalso; omega)))) | ((with_reducible apply c_cond); (case he => exact rfl); (all_goals intro h); (all_goals (try simp only [decide_eq_true_eq, decide_eq_false_iff_not] at h)); (all_goals (try (exfalso; omega)))) | skip))))
    refine go0 ?_
    exact congrArg (MV.int .i64) (by subst hr; (repeat (first | rw [if_pos (by omega)] | rw [if_neg (by omega)])); first | rfl | omega)
   | true =>
    cases b3 with
    | false =>
     simp only [Bool.false_eq_true, and_false, if_false] at hr
     clear l1 f1
     refine scq seat Tryz.func180 109 ?_
     (iterate 12 ((all_goals (refine go1 ?_)); (all_goals (first | (refine g_call3 rfl hhq rfl (src (c1)) rfl rfl ?_) | (refine g_call3 rfl hhq rfl (src (c2)) rfl rfl ?_) | (refine g_call3 rfl hhq rfl (src (c3)) rfl rfl ?_) | ((with_reducible apply n_grd); (case hf => exact ⟨rfl, rfl, rfl⟩); (all_goals intro h); (all_goals (try simp only [decide_eq_true_eq, decide_eq_false_iff_not, Bool.not_true] at h)); (all_goals (try (exfalso; omega)))) | ((with_reducible apply c_cond); (case he => exact rfl); (all_goals intro h); (all_goals (try simp only [decide_eq_true_eq, decide_eq_false_iff_not] at h)); (all_goals (try (exfalso; omega)))) | skip))))
     refine go0 ?_
     exact congrArg (MV.int .i64) (by subst hr; (repeat (first | rw [if_pos (by omega)] | rw [if_neg (by omega)])); first | rfl | omega)
    | true =>
     have f1 := SomF.mk (f1 (l1 rfl))
     rw [if_pos ⟨by omega, by omega, rfl, rfl, rfl⟩] at hr
     refine scq seat Tryz.func180 109 ?_
     (iterate 24 ((all_goals (refine go1 ?_)); (all_goals (first | (refine g_call3 rfl hhq rfl (src (c1)) rfl rfl ?_) | (refine g_call3 rfl hhq rfl (src (c2)) rfl rfl ?_) | (refine g_call3 rfl hhq rfl (src (c3)) rfl rfl ?_) | ((with_reducible apply n_grd); (case hf => exact ⟨rfl, rfl, rfl⟩); (all_goals intro h); (all_goals (try simp only [decide_eq_true_eq, decide_eq_false_iff_not, beq_iff_eq, ne_eq, Bool.not_true, Bool.not_false, beq_eq_false_iff_ne] at h)); (all_goals (try (exfalso; omega)))) | ((with_reducible apply c_cond); (case he => exact rfl); (all_goals intro h); (all_goals (try simp only [decide_eq_true_eq, decide_eq_false_iff_not] at h)); (all_goals (try (exfalso; omega)))) | skip))))
     all_goals (refine go0 ?_; exact congrArg (MV.int .i64) (by subst hr; (repeat (first | rw [if_pos (by omega)] | rw [if_neg (by omega)])); first | rfl | omega))
 ·rw [if_neg (by omega)] at hr
  clear l1 f1
  refine scq seat Tryz.func180 109 ?_
  (iterate 12 ((all_goals (refine go1 ?_)); (all_goals (first | (refine g_call3 rfl hhq rfl (src (c1)) rfl rfl ?_) | (refine g_call3 rfl hhq rfl (src (c2)) rfl rfl ?_) | (refine g_call3 rfl hhq rfl (src (c3)) rfl rfl ?_) | ((with_reducible apply n_grd); (case hf => exact ⟨rfl, rfl, rfl⟩); (all_goals intro h); (all_goals (try simp only [decide_eq_true_eq, decide_eq_false_iff_not, Bool.not_true] at h)); (all_goals (try (exfalso; omega)))) | ((with_reducible apply c_cond); (case he => exact rfl); (all_goals intro h); (all_goals (try simp only [decide_eq_true_eq, decide_eq_false_iff_not] at h)); (all_goals (try (exfalso; omega)))) | skip))))
  refine go0 ?_
  exact congrArg (MV.int .i64) (by subst hr; (repeat (first | rw [if_pos (by omega)] | rw [if_neg (by omega)])); first | rfl | omega)
end
section
variable {G : GS}
attribute [local irreducible] vOpsN vOpsG vOpsD vOpGD NextD vC SeqQ BlockQ
def runesG : Nat → List UInt8 → Nat → Nat → Nat × Bool
 | 0, _, _, n => (n, true)
 | f + 1, s, i, n => if i < s.length then (if runeS s i = 0 then (0, false) else runesG f s (i + runeS s i) (n + 1)) else (n, true)
def runesS (s : List UInt8) : Nat × Bool := runesG s.length s 0 0
def memoS (s : List UInt8) : Bool := (runesS s).2 && decide ((runesS s).1 ≤ 64)
theorem runeS_le (s : List UInt8) (i : Nat) : runeS s i ≤ 4 := by
 unfold runeS
 repeat' split
 all_goals omega
theorem runes_m (s : List UInt8) (hs : s.length < 500000000) : SemC Tryz.prog G 174 [.str s] (.tup [.int .i64 (runesS s).1, .bool (runesS s).2]) := by
  generalize hr : runesS s = r
  unfold runesS at hr
  obtain ⟨r1, r2⟩ := r
  dsimp only
  refine scq seat Tryz.func174 22 ?_
  refine go1 ?_
  refine c_loop (Nat × Nat × Nat) (fun x => [(5, .int .i64 x.2.1), (4, .int .i64 x.2.2), (0, .str s)]) (fun _ => []) 0 (fun x => runesG x.1 s x.2.1 x.2.2 = (r1, r2) ∧ s.length ≤ x.2.1 + x.1 ∧ x.2.1 ≤ s.length + 4 ∧ x.2.2 + x.1 ≤ s.length) (fun x => x.1) (s.length, 0, 0) ⟨hr, by dsimp only; omega, by dsimp only; omega, by dsimp only; omega⟩ (by dsimp only; exact (vm [] [])) ?_
  rintro ⟨f, i, n⟩ ⟨hR, h1, h2, h3⟩
  try dsimp only
  dsimp only at hR h1 h2 h3
  refine go1 ?_
  (refine c_cond rfl ?_ ?_ <;> intro h)
  · have hi : i < s.length := by have := of_decide_eq_true h; omega
    have c1 := rune_m (G := G) s i (by omega) hi
    have hk := runeS_le s i
    match f, hR, h1, h3 with
    | 0, hR, h1, h3 => exfalso; omega
    | f + 1, hR, h1, h3 =>
    rw [runesG, if_pos hi] at hR
    generalize runeS s i = k at *
    refine go1 ?_
    refine g_call2 rfl hhq rfl (src (c1)) rfl lm ?_
    refine go1 ?_
    (refine c_cond rfl ?_ ?_ <;> intro h)
    · have hk0 : k = 0 := by have : (k : Int) = 0 := by simpa using h
                             omega
      rw [if_pos hk0] at hR
      simp only [Prod.mk.injEq] at hR
      obtain ⟨rfl, rfl⟩ := hR
      refine go1 ?_
      refine go0 ?_
      rfl
    · have hk0 : k ≠ 0 := by have : ¬ (k : Int) = 0 := by simpa using h
                             omega
      rw [if_neg hk0] at hR
      refine go1 ?_
      exact ⟨(f, i + k, n + 1), ⟨hR, by dsimp only; omega, by dsimp only; omega, by dsimp only; omega⟩, by show f < f + 1; omega, (by dsimp only; exact (vm [] []))⟩
  · have hi : ¬ i < s.length := by have := of_decide_eq_false h; omega
    have : runesG f s i n = (n, true) := by cases f with | zero => rfl | succ f => rw [runesG, if_neg hi]
    rw [this] at hR
    simp only [Prod.mk.injEq] at hR
    obtain ⟨rfl, rfl⟩ := hR
    refine go1 ?_
    refine go0 ?_
    rfl
theorem memo_m (s : List UInt8) (hs : s.length < 500000000) : SemC Tryz.prog G 138 [.str s] (.bool (memoS s)) := by
 have c1 := runes_m (G := G) s hs
 unfold memoS
 generalize runesS s = r at *
 obtain ⟨n, ok⟩ := r
 dsimp only at c1 ⊢
 cases ok with
 | true =>
  refine scq seat Tryz.func138 15 ?_
  refine go1 ?_
  refine g_call2 rfl hhq rfl (src (c1)) rfl lm ?_
  refine go1 ?_
  refine go0 ?_
  exact congrArg MV.bool (decide_eq_decide.2 (by omega))
 | false =>
  refine scq seat Tryz.func138 15 ?_
  refine go1 ?_
  refine g_call2 rfl hhq rfl (src (c1)) rfl lm ?_
  refine go1 ?_
  refine go0 ?_
  rfl
def okCh (c : UInt8) : Bool := decide (97 ≤ c.toNat ∧ c.toNat ≤ 122 ∨ 48 ≤ c.toNat ∧ c.toNat ≤ 57 ∨ c.toNat = 45)
def nameS (s : List UInt8) : Bool := s.all okCh && decide (1 ≤ s.length ∧ s.length ≤ 20)
theorem name_m (s : List UInt8) (hs : s.length < 500000000) : SemC Tryz.prog G 85 [.str s] (.bool (nameS s)) := by
 generalize hr : nameS s = r
 unfold nameS at hr
 refine scq seat Tryz.func85 41 ?_
 refine go1 ?_
 refine c_loop Nat (fun i => [(3, .int .i64 i), (0, .str s)]) (fun _ => []) 0 (fun i => i ≤ s.length ∧ (s.take i).all okCh = true) (fun i => s.length - i) 0 ⟨Nat.zero_le _, by simp⟩ (vm [] []) ?_
 rintro i ⟨hi, hp⟩
 try dsimp only
 refine go1 ?_
 (refine c_cond rfl ?_ ?_ <;> intro h)
 ·have hi' : i < s.length := by have := of_decide_eq_true h; omega
  have f0 := SomF.mk (idxS_at hi')
  have hsu : (s.take (i + 1)).all okCh = ((s.take i).all okCh && okCh (s.getD i 0)) := by
   rw [List.take_succ_eq_append_getElem hi', List.all_append]; simp [hi']
  have hall : okCh (s.getD i 0) = false → s.all okCh = false := fun h => by
   rw [← List.take_append_drop (i + 1) s, List.all_append, hsu, h]; simp
  generalize s.getD i 0 = c at *
  by_cases hc : okCh c = true
  ·rw [hp, hc] at hsu
   have hc' := of_decide_eq_true hc
   (iterate 6 ((all_goals (refine go1 ?_)); (all_goals (first | ((with_reducible apply n_grd); (case hf => exact ⟨rfl, rfl, rfl⟩); (all_goals intro h); (all_goals (try simp only [decide_eq_true_eq, decide_eq_false_iff_not, Bool.not_true, Bool.not_false] at h)); (all_goals (try (exfalso; omega)))) | ((with_reducible apply c_cond); (case he => exact rfl); (all_goals intro h); (all_goals (try simp only [beq_iff_eq, ne_eq, Bool.not_true, Bool.not_false, beq_eq_false_iff_ne, Bool.not_eq_eq_eq_not] at h)); (all_goals (try (exfalso; omega)))) | skip))))
   all_goals exact ⟨i + 1, ⟨by omega, by rw [hsu]; rfl⟩, by show s.length - (i + 1) < s.length - i; omega, (by dsimp only; exact (vm [] []))⟩
  ·have hcf : okCh c = false := by simpa using hc
   rw [hall hcf, Bool.false_and] at hr
   subst hr
   have hc' := of_decide_eq_false hcf
   (iterate 6 ((all_goals (refine go1 ?_)); (all_goals (first | ((with_reducible apply n_grd); (case hf => exact ⟨rfl, rfl, rfl⟩); (all_goals intro h); (all_goals (try simp only [decide_eq_true_eq, decide_eq_false_iff_not, Bool.not_true, Bool.not_false] at h)); (all_goals (try (exfalso; omega)))) | ((with_reducible apply c_cond); (case he => exact rfl); (all_goals intro h); (all_goals (try simp only [beq_iff_eq, ne_eq, Bool.not_true, Bool.not_false, beq_eq_false_iff_ne, Bool.not_eq_eq_eq_not] at h)); (all_goals (try (exfalso; omega)))) | skip))))
   all_goals (refine go0 ?_; rfl)
 ·have hi' : i = s.length := by have := of_decide_eq_false h; omega
  subst hi'
  rw [List.take_length] at hp
  rw [hp, Bool.true_and] at hr
  subst hr
  (iterate 3 ((all_goals (refine go1 ?_)); (all_goals (first | ((with_reducible apply n_grd); (case hf => exact ⟨rfl, rfl, rfl⟩); (all_goals intro h); (all_goals (try simp only [decide_eq_true_eq, decide_eq_false_iff_not, Bool.not_true] at h)); (all_goals (try (exfalso; omega)))) | ((with_reducible apply c_cond); (case he => exact rfl); (all_goals intro h); (all_goals (try simp only [bx] at h)); (all_goals (try (exfalso; omega)))) | skip))))
  all_goals (refine go0 ?_; exact congrArg MV.bool (by first | exact decide_eq_decide.2 (by omega) | exact (decide_eq_false (by omega)).symm))
def trsS : List TrS → Nat
 | [] => 0
 | x :: r => if nameS x.to_ = false then 10 else if x.amt = 0 then 12 else trsS r
def validTxS (t : TxS) : Nat := if nameS t.sender = false then 10 else if t.gas = 0 then 15 else if memoS t.memo = false then 11 else if t.trs.length = 0 ∨ 16 < t.trs.length then 3 else trsS t.trs
theorem validTx_m (t : TxS) (ht : SmTx t) : SemC Tryz.prog G 81 [txM t] (.int .i64 (validTxS t)) := by
 obtain ⟨sender, seq, gas, fee, memo, trs⟩ := t
 obtain ⟨h1, h2, h3, h4, h5, h6, h7⟩ := ht
 dsimp only at h1 h2 h3 h4 h5 h6 h7
 have c1 := name_m (G := G) sender (by omega)
 have c2 := memo_m (G := G) memo (by omega)
 generalize hr : validTxS _ = r
 unfold validTxS at hr
 unfold txM
 dsimp only at hr ⊢
 generalize nameS sender = b1 at *
 generalize memoS memo = b2 at *
 cases b1 with
 | false =>
  rw [if_pos rfl] at hr
  subst hr
  refine scq seat Tryz.func81 45 ?_
  (iterate 2 ((all_goals (refine go1 ?_)); (all_goals (first | (refine g_call3 rfl hhq rfl (src (c1)) rfl rfl ?_) | ((first | ((with_reducible apply n_grd); (case hf => exact ⟨rfl, rfl, rfl⟩)) | ((with_reducible apply c_cond); (case he => exact rfl))); (all_goals intro h); (all_goals (try simp only [bx] at h)); (all_goals (try (exfalso; omega)))) | skip))))
  refine go0 ?_
  rfl
 | true =>
 rw [if_neg (by simp)] at hr
 by_cases hg : gas = 0
 ·rw [if_pos hg] at hr
  subst hr
  refine scq seat Tryz.func81 45 ?_
  (iterate 3 ((all_goals (refine go1 ?_)); (all_goals (first | (refine g_call3 rfl hhq rfl (src (c1)) rfl rfl ?_) | ((with_reducible apply n_grd); (case hf => exact ⟨rfl, rfl, rfl⟩); (all_goals intro h); (all_goals (try simp only [bx] at h)); (all_goals (try (exfalso; omega)))) | ((with_reducible apply c_cond); (case he => exact rfl); (all_goals intro h); (all_goals (try simp only [beq_iff_eq, ne_eq, beq_eq_false_iff_ne] at h)); (all_goals (try (exfalso; omega)))) | skip))))
  refine go0 ?_
  rfl
 rw [if_neg hg] at hr
 cases b2 with
 | false =>
  rw [if_pos rfl] at hr
  subst hr
  refine scq seat Tryz.func81 45 ?_
  (iterate 4 ((all_goals (refine go1 ?_)); (all_goals (first | (refine g_call3 rfl hhq rfl (src (c1)) rfl rfl ?_) | (refine g_call3 rfl hhq rfl (src (c2)) rfl rfl ?_) | ((with_reducible apply n_grd); (case hf => exact ⟨rfl, rfl, rfl⟩); (all_goals intro h); (all_goals (try simp only [bx] at h)); (all_goals (try (exfalso; omega)))) | ((with_reducible apply c_cond); (case he => exact rfl); (all_goals intro h); (all_goals (try simp only [beq_iff_eq, ne_eq, beq_eq_false_iff_ne] at h)); (all_goals (try (exfalso; omega)))) | skip))))
  refine go0 ?_
  rfl
 | true =>
 rw [if_neg (by simp)] at hr
 by_cases hl : trs.length = 0 ∨ 16 < trs.length
 ·rw [if_pos hl] at hr
  subst hr
  refine scq seat Tryz.func81 45 ?_
  (iterate 6 ((all_goals (refine go1 ?_)); (all_goals (first | (refine g_call3 rfl hhq rfl (src (c1)) rfl rfl ?_) | (refine g_call3 rfl hhq rfl (src (c2)) rfl rfl ?_) | ((with_reducible apply n_grd); (case hf => exact ⟨rfl, rfl, rfl⟩); (all_goals intro h); (all_goals (try simp only [beq_iff_eq, ne_eq, Bool.not_false, beq_eq_false_iff_ne] at h)); (all_goals (try (exfalso; omega)))) | ((with_reducible apply c_cond); (case he => exact rfl); (all_goals intro h); (all_goals (try simp only [decide_eq_true_eq, decide_eq_false_iff_not, beq_iff_eq, ne_eq, beq_eq_false_iff_ne] at h)); (all_goals (try (exfalso; omega)))) | skip))))
  all_goals (refine go0 ?_; rfl)
 rw [if_neg hl] at hr
 refine scq seat Tryz.func81 45 ?_
 (iterate 6 ((all_goals (refine go1 ?_)); (all_goals (first | (refine g_call3 rfl hhq rfl (src (c1)) rfl rfl ?_) | (refine g_call3 rfl hhq rfl (src (c2)) rfl rfl ?_) | ((with_reducible apply n_grd); (case hf => exact ⟨rfl, rfl, rfl⟩); (all_goals intro h); (all_goals (try simp only [beq_iff_eq, ne_eq, Bool.not_false, beq_eq_false_iff_ne] at h)); (all_goals (try (exfalso; omega)))) | ((with_reducible apply c_cond); (case he => exact rfl); (all_goals intro h); (all_goals (try simp only [decide_eq_true_eq, decide_eq_false_iff_not, beq_iff_eq, ne_eq, beq_eq_false_iff_ne] at h)); (all_goals (try (exfalso; omega)))) | skip))))
 refine c_loop Nat (fun k => [(33, .int .i64 k), (32, .int .i64 trs.length), (31, .sl trs.length (trs.map trM))]) (fun _ => []) 0 (fun k => k ≤ trs.length ∧ trsS (trs.drop k) = r) (fun k => trs.length - k) 0 ⟨Nat.zero_le _, by rw [List.drop_zero]; exact hr⟩ (vm [] []) ?_
 rintro k ⟨hk, hR⟩
 try dsimp only
 refine go1 ?_
 (refine c_cond rfl ?_ ?_ <;> intro h)
 ·have hk' : k < trs.length := by have := of_decide_eq_true h; omega
  have hx := h7 _ (List.getElem_mem hk')
  have hel := SomF.mk (trs_at hk')
  rw [List.drop_eq_getElem_cons hk', trsS] at hR
  generalize trs[k] = x at *
  have d1 := name_m (G := G) x.to_ (by have := hx.1; omega)
  generalize nameS x.to_ = b at *
  cases b with
  | false =>
   rw [if_pos rfl] at hR
   subst hR
   (iterate 3 ((all_goals (refine go1 ?_)); (all_goals (first | (refine g_call3 rfl hhq rfl (src (d1)) rfl rfl ?_) | ((first | ((with_reducible apply n_grd); (case hf => exact ⟨rfl, rfl, rfl⟩)) | ((with_reducible apply c_cond); (case he => exact rfl))); (all_goals intro h); (all_goals (try simp only [bx] at h)); (all_goals (try (exfalso; omega)))) | skip))))
   refine go0 ?_
   rfl
  | true =>
   rw [if_neg (by simp)] at hR
   by_cases hz : x.amt = 0
   ·rw [if_pos hz] at hR
    subst hR
    (iterate 4 ((all_goals (refine go1 ?_)); (all_goals (first | (refine g_call3 rfl hhq rfl (src (d1)) rfl rfl ?_) | ((with_reducible apply n_grd); (case hf => exact ⟨rfl, rfl, rfl⟩); (all_goals intro h); (all_goals (try simp only [bx] at h)); (all_goals (try (exfalso; omega)))) | ((with_reducible apply c_cond); (case he => exact rfl); (all_goals intro h); (all_goals (try simp only [beq_iff_eq, ne_eq, beq_eq_false_iff_ne] at h)); (all_goals (try (exfalso; omega)))) | skip))))
    refine go0 ?_
    rfl
   ·rw [if_neg hz] at hR
    (iterate 4 ((all_goals (refine go1 ?_)); (all_goals (first | (refine g_call3 rfl hhq rfl (src (d1)) rfl rfl ?_) | ((with_reducible apply n_grd); (case hf => exact ⟨rfl, rfl, rfl⟩); (all_goals intro h); (all_goals (try simp only [bx] at h)); (all_goals (try (exfalso; omega)))) | ((with_reducible apply c_cond); (case he => exact rfl); (all_goals intro h); (all_goals (try simp only [beq_iff_eq, ne_eq, beq_eq_false_iff_ne] at h)); (all_goals (try (exfalso; omega)))) | skip))))
    exact ⟨k + 1, ⟨by omega, hR⟩, by show trs.length - (k + 1) < trs.length - k; omega, (by dsimp only; exact (vm [] []))⟩
 ·have hk' : k = trs.length := by have := of_decide_eq_false h; omega
  subst hk'
  rw [List.drop_length, trsS] at hR
  subst hR
  refine go1 ?_
  refine go0 ?_
  rfl
end
section
variable {G : GS}
attribute [local irreducible] vOpsN vOpsG vOpsD vOpGD NextD vC SeqQ BlockQ
def encodeS (t : TxS) : List UInt8 × Nat := if validTxS t ≠ 0 then ([], validTxS t) else if 4096 < (formS t).length then ([], 3) else (formS t, 0)
theorem encode_r (t : TxS) (ht : SmTx t) : SemR Tryz.prog G 48 [txM t] [] 0 (.tup [.sl (encodeS t).1.length (u8s (encodeS t).1), .int .i64 (encodeS t).2]) [] 0 := by
 have c1 := validTx_m (G := G) t ht
 have c2 := form_r (G := G) t ht
 have hfl := formS_len ht
 unfold encodeS
 generalize validTxS t = v at *
 generalize formS t = m at *
 by_cases hv : v = 0
 ·subst hv
  rw [if_neg (by simp)]
  by_cases hm : 4096 < m.length
  ·rw [if_pos hm]
   refine srq seat Tryz.func48 17 ?_
   (iterate 6 ((all_goals (refine go1 ?_)); (all_goals (first | (refine g_call3 rfl hhq rfl (src (c1)) rfl rfl ?_) | (refine g_call3 rfl hhq rfl (c2) rfl rfl ?_) | ((with_reducible apply n_grd); (case hf => exact ⟨rfl, rfl, rfl⟩); (all_goals intro h); (all_goals (try simp only [bx] at h)); (all_goals (try (exfalso; omega)))) | ((with_reducible apply c_cond); (case he => exact rfl); (all_goals intro h); (all_goals (try simp only [decide_eq_true_eq, decide_eq_false_iff_not] at h)); (all_goals (try (exfalso; omega)))) | skip))))
   refine ⟨[_, _], [], [], rfl, rfl, trivial, rfl, ⟨?_, ?_, trivial⟩, ?_⟩
   ·exact .inr ⟨rfl, rfl⟩
   ·exact rv
   ·exact mm
  ·rw [if_neg hm]
   refine srq seat Tryz.func48 17 ?_
   (iterate 6 ((all_goals (refine go1 ?_)); (all_goals (first | (refine g_call3 rfl hhq rfl (src (c1)) rfl rfl ?_) | (refine g_call3 rfl hhq rfl (c2) rfl rfl ?_) | ((with_reducible apply n_grd); (case hf => exact ⟨rfl, rfl, rfl⟩); (all_goals intro h); (all_goals (try simp only [bx] at h)); (all_goals (try (exfalso; omega)))) | ((with_reducible apply c_cond); (case he => exact rfl); (all_goals intro h); (all_goals (try simp only [decide_eq_true_eq, decide_eq_false_iff_not] at h)); (all_goals (try (exfalso; omega)))) | skip))))
   refine ⟨[_, _], [], [], rfl, rfl, trivial, rfl, ⟨?_, ?_, trivial⟩, ?_⟩
   ·exact rv
   ·exact rv
   ·exact mm
 ·rw [if_pos hv]
  refine srq seat Tryz.func48 17 ?_
  (iterate 5 ((all_goals (refine go1 ?_)); (all_goals (first | (refine g_call3 rfl hhq rfl (src (c1)) rfl rfl ?_) | (refine g_call3 rfl hhq rfl (c2) rfl rfl ?_) | ((with_reducible apply n_grd); (case hf => exact ⟨rfl, rfl, rfl⟩); (all_goals intro h); (all_goals (try simp only [bx] at h)); (all_goals (try (exfalso; omega)))) | ((with_reducible apply c_cond); (case he => exact rfl); (all_goals intro h); (all_goals (try simp only [bne_iff_ne, ne_eq, bne_eq_false_iff_eq] at h)); (all_goals (try (exfalso; omega)))) | skip))))
  refine ⟨[_, _], [], [], rfl, rfl, trivial, rfl, ⟨?_, ?_, trivial⟩, ?_⟩
  ·exact .inr ⟨rfl, rfl⟩
  ·exact rv
  ·exact mm
theorem fieldsG_ok (B : Nat) : ∀ (k : Nat) (b : List UInt8) (at_ : Nat) (acc : List Fld), b.length ≤ B → (∀ f ∈ acc, okF f ∧ f.bytes.length ≤ B) → (∀ f ∈ (fieldsG k b at_ acc).1, okF f ∧ f.bytes.length ≤ B) ∧ (fieldsG k b at_ acc).1.length ≤ acc.length + k
 | k, [], at_, acc, _, ha => by rw [fieldsG_end]; exact ⟨ha, by dsimp only; omega⟩
 | 0, x :: b, at_, acc, _, _ => by rw [fieldsG_full (by simp)]; exact ⟨by simp, by simp⟩
 | k + 1, x :: b, at_, acc, hb, ha => by
  rw [fieldsG_step (by simp)]
  split
  ·exact ⟨by simp, by simp⟩
  ·rename_i h
   have h1 := one_ok (b := x :: b) (by omega)
   have := fieldsG_ok B k ((x :: b).drop (oneS (x :: b)).2.1) (at_ + (oneS (x :: b)).2.1) (acc ++ [(oneS (x :: b)).1]) (by rw [List.length_drop]; omega) (all_app ha fun f hf => by rw [List.mem_singleton.1 hf]; exact ⟨h1.2.2.1, by omega⟩)
   rw [List.length_append, List.length_singleton] at this
   exact ⟨this.1, by omega⟩
theorem fields_ok (b : List UInt8) : (∀ f ∈ (fieldsS b).1, okF f ∧ f.bytes.length ≤ b.length) ∧ (fieldsS b).1.length ≤ 1024 := by
 have := fieldsG_ok b.length 1024 b 0 [] (Nat.le_refl _) (by simp)
 simpa [fieldsS] using this
def rdTrS : List Fld → TrS → TrS × Bool
 | [], x => (x, true)
 | f :: r, x => if f.num = 1 ∧ f.kind = 2 then rdTrS r ⟨f.bytes, x.amt⟩ else if f.num = 2 ∧ f.kind = 0 then rdTrS r ⟨x.to_, f.val⟩ else (x, false)
def transferS (b : List UInt8) : TrS × Bool := match rdTrS (fieldsS b).1 ⟨[], 0⟩ with
 | (x, ok) => (x, ok && (decide ((fieldsS b).2.2 = 0) && (msgS (textF 1 x.to_ ++ numF 2 x.amt) == b)))
theorem sameB_m (a b : List UInt8) : SemC Tryz.prog G 41 [.sl a.length (u8s a), .sl b.length (u8s b)] (.bool (a == b)) := by
 have f1 := SomF.mk (bytesM_u8 a)
 have f2 := SomF.mk (bytesM_u8 b)
 refine scq seat Tryz.func41 10 ?_
 refine go1 ?_
 refine go0 ?_
 rfl
theorem transfer_r (b : List UInt8) (hb : b.length ≤ 5000) : SemR Tryz.prog G 143 [.sl b.length (u8s b)] [] 0 (.tup [trM (transferS b).1, .bool (transferS b).2]) [] 0 := by
 have c0 := fields_r (G := G) b (by omega)
 have hfo := fields_ok b
 generalize hr : transferS b = r
 unfold transferS at hr
 generalize fieldsS b = t at *
 obtain ⟨l, at1, e⟩ := t
 dsimp only at hr hfo c0
 obtain ⟨R, okk⟩ := r
 dsimp only
 refine srq seat Tryz.func143 63 ?_
 refine go1 ?_
 refine g_call2 rfl hhq rfl (c0) rfl lm ?_
 refine go1 ?_
 refine c_loop (Nat × TrS) (fun x => [(18, .int .i64 x.1), (17, .int .i64 l.length), (16, .sl l.length (l.map fldM)), (7, .ptr 1 2 0 0 []), (6, .int .i64 e), (2, .ptr 0 2 0 0 []), (0, .sl b.length (u8s b))]) (fun x => [(0, ⟨159, 2, false, 0, [.st [.str [], .int .u64 0]]⟩), (1, ⟨159, 2, false, 0, [.st [.str x.2.to_, .int .u64 x.2.amt]]⟩)]) 2 (fun x => x.1 ≤ l.length ∧ x.2.to_.length ≤ 5000 ∧ U64 x.2.amt ∧ (match rdTrS (l.drop x.1) x.2 with | (x, ok) => (x, ok && (decide (e = 0) && (msgS (textF 1 x.to_ ++ numF 2 x.amt) == b)))) = (R, okk)) (fun x => l.length - x.1) (0, ⟨[], 0⟩) ⟨Nat.zero_le _, by simp, by simp [U64], by dsimp only; rw [List.drop_zero]; exact hr⟩ (by dsimp only; exact (vm [(0, _), (1, _)] [])) ?_
 rintro ⟨k, x⟩ ⟨hk, hx1, hx2, hR⟩
 obtain ⟨to_, amt⟩ := x
 try dsimp only
 dsimp only at hk hx1 hx2 hR
 refine go1 ?_
 (refine c_cond rfl ?_ ?_ <;> intro h)
 ·have hk' : k < l.length := by have := of_decide_eq_true h; omega
  have hok := hfo.1 _ (List.getElem_mem hk')
  have hel := flds_at hk'
  rw [List.drop_eq_getElem_cons hk'] at hR
  generalize l[k] = f at *
  obtain ⟨num, kind, val, bytes⟩ := f
  replace hel : idxL (l.map fldM) l.length (k : Int) = some (.st [.int .i64 num, .int .i64 kind, .int .u64 val, .sl bytes.length (u8s bytes)]) := hel
  have hel := SomF.mk hel
  have hby := SomF.mk (bytesM_u8 bytes)
  rw [rdTrS] at hR
  dsimp only at hR hok
  by_cases g1 : num = 1 ∧ kind = 2
  ·rw [if_pos g1] at hR
   obtain ⟨rfl, rfl⟩ := g1
   (iterate 6 ((all_goals (refine go1 ?_)); (all_goals (first | ((first | ((with_reducible apply n_grd); (case hf => exact ⟨rfl, rfl, rfl⟩)) | ((with_reducible apply c_cond); (case he => exact rfl))); (all_goals intro h); (all_goals (try simp only [bx] at h)); (all_goals (try (exfalso; omega)))) | skip))))
   exact ⟨(k + 1, ⟨bytes, amt⟩), ⟨by dsimp only; omega, by dsimp only; omega, hx2, hR⟩, by show l.length - (k + 1) < l.length - k; omega, (by dsimp only; exact (vm [(0, _), (1, _)] []))⟩
  rw [if_neg g1] at hR
  by_cases g2 : num = 2 ∧ kind = 0
  ·rw [if_pos g2] at hR
   obtain ⟨rfl, rfl⟩ := g2
   (iterate 6 ((all_goals (refine go1 ?_)); (all_goals (first | ((first | ((with_reducible apply n_grd); (case hf => exact ⟨rfl, rfl, rfl⟩)) | ((with_reducible apply c_cond); (case he => exact rfl))); (all_goals intro h); (all_goals (try simp only [bx] at h)); (all_goals (try (exfalso; omega)))) | skip))))
   exact ⟨(k + 1, ⟨to_, val⟩), ⟨by dsimp only; omega, hx1, by have := hok.1; unfold okF at this; dsimp only at this ⊢; unfold U64; omega, hR⟩, by show l.length - (k + 1) < l.length - k; omega, (by dsimp only; exact (vm [(0, _), (1, _)] []))⟩
  ·rw [if_neg g2] at hR
   dsimp only at hR
   rw [Bool.false_and] at hR
   simp only [Prod.mk.injEq] at hR
   obtain ⟨rfl, rfl⟩ := hR
   (iterate 6 ((all_goals (refine go1 ?_)); (all_goals (first | ((with_reducible apply n_grd); (case hf => exact ⟨rfl, rfl, rfl⟩); (all_goals intro h); (all_goals (try simp only [beq_iff_eq, ne_eq, Bool.not_true, beq_eq_false_iff_ne] at h)); (all_goals (try (exfalso; omega)))) | ((with_reducible apply c_cond); (case he => exact rfl); (all_goals intro h); (all_goals (try simp only [beq_iff_eq, ne_eq, beq_eq_false_iff_ne] at h)); (all_goals (try (exfalso; omega)))) | skip))))
   all_goals (refine go0 ?_; (refine ⟨[_, _], [], [], rfl, rfl, trivial, rfl, ⟨?_, ?_, trivial⟩, ?_⟩; (exact .inl ⟨rfl, rfl⟩); exact rv; exact mm))
 ·have hk' : k = l.length := by have := of_decide_eq_false h; omega
  subst hk'
  rw [List.drop_length, rdTrS] at hR
  dsimp only at hR
  rw [Bool.true_and] at hR
  have hio := inner_ok (x := ⟨to_, amt⟩) ⟨hx1, hx2⟩
  have hil := inner_len (x := ⟨to_, amt⟩) ⟨hx1, hx2⟩
  have hto := textF_ok (n := 1) (s := to_) (by omega) (by omega) 5000 hx1 (by omega)
  have d1 := text_r (G := G) [] 1 to_ (by simp) (by omega)
  rw [List.nil_append] at d1
  have d2 := number_r (G := G) (textF 1 to_) 2 amt (by omega)
  dsimp only at hio hil
  have d3 := message_r (G := G) (textF 1 to_ ++ numF 2 amt) (fun f hf => (hio.1 f hf).1) (by omega) (by omega)
  have d4 := sameB_m (G := G) (msgS (textF 1 to_ ++ numF 2 amt)) b
  unfold rowF at d1 d2
  by_cases he : e = 0
  ·subst he
   rw [decide_eq_true rfl, Bool.true_and] at hR
   simp only [Prod.mk.injEq] at hR
   obtain ⟨rfl, rfl⟩ := hR
   generalize textF 1 to_ ++ numF 2 amt = li at *
   generalize textF 1 to_ = lt at *
   generalize msgS li = mi at *
   refine go1 ?_
   refine c_draw [(0, false), (1, false), (2, false), (3, false), (4, false), (5, false), (6, true), (7, false), (8, false), (9, true), (10, true), (11, false), (12, true), (13, false), (14, false), (15, false)] ?_
   refine go1 ?_
   refine gd_callR1 rfl hhq rfl [] (d1) [] [] ⟨rfl, trivial, rfl, lm, mm⟩ rfl rfl rfl rfl ?_
   refine go1 ?_
   refine gd_callR1 rfl hhq rfl [9] (d2) [(0, 9)] [] ⟨rfl, trivial, rfl, lm, mm⟩ rfl rfl rfl rfl ?_
   refine go1 ?_
   refine gd_call1 rfl hhq rfl [12] (d3) rfl [(12, li.length)] mm lm rfl ?_
   refine go1 ?_
   refine gd_call1 rfl hhq rfl [] (src (d4)) rfl [] trivial lm rfl ?_
   refine go1 ?_
   refine go0 ?_
   refine ⟨[_, _], [], [], rfl, rfl, trivial, rfl, ⟨?_, ?_, trivial⟩, ?_⟩
   ·exact .inl ⟨rfl, rfl⟩
   ·exact rv
   ·exact mm
  ·rw [decide_eq_false he, Bool.false_and] at hR
   simp only [Prod.mk.injEq] at hR
   obtain ⟨rfl, rfl⟩ := hR
   refine go1 ?_
   refine c_draw [(0, false), (1, false), (2, false), (3, false), (4, false), (5, false), (6, true), (7, false), (8, false), (9, true), (10, true), (11, false), (12, true), (13, false), (14, false), (15, false)] ?_
   refine go1 ?_
   ((with_reducible apply d_guard); (case hs => exact rfl); (case hv => exact rfl); (case hd => exact rfl); (all_goals intro h))
   ·exfalso
    have : (e : Int) = 0 := by simpa using h
    omega
   refine go1 ?_
   refine go0 ?_
   refine ⟨[_, _], [], [], rfl, rfl, trivial, rfl, ⟨?_, ?_, trivial⟩, ?_⟩
   ·exact .inl ⟨rfl, rfl⟩
   ·exact rv
   ·exact mm
end
section
variable {G : GS}
attribute [local irreducible] vOpsN vOpsG vOpsD vOpGD NextD vC SeqQ BlockQ
def rdTxS : List Fld → TxS → TxS × Bool
 | [], t => (t, true)
 | f :: r, t =>
  if f.num = 1 ∧ f.kind = 2 then rdTxS r ⟨f.bytes, t.seq, t.gas, t.fee, t.memo, t.trs⟩ else
  if f.num = 2 ∧ f.kind = 0 then rdTxS r ⟨t.sender, f.val, t.gas, t.fee, t.memo, t.trs⟩ else
  if f.num = 3 ∧ f.kind = 0 then rdTxS r ⟨t.sender, t.seq, f.val, t.fee, t.memo, t.trs⟩ else
  if f.num = 4 ∧ f.kind = 0 then rdTxS r ⟨t.sender, t.seq, t.gas, f.val, t.memo, t.trs⟩ else
  if f.num = 5 ∧ f.kind = 2 then rdTxS r ⟨t.sender, t.seq, t.gas, t.fee, f.bytes, t.trs⟩ else
  if f.num = 6 ∧ f.kind = 2 then (if (transferS f.bytes).2 then rdTxS r ⟨t.sender, t.seq, t.gas, t.fee, t.memo, t.trs ++ [(transferS f.bytes).1]⟩ else (t, false)) else (t, false)
def tx0 : TxS := ⟨[], 0, 0, 0, [], []⟩
theorem rdTrS_sm : ∀ (l : List Fld) (x : TrS), (∀ f ∈ l, okF f ∧ f.bytes.length ≤ 5000) → SmTr x → SmTr (rdTrS l x).1
 | [], x, _, h => h
 | f :: r, x, hl, h => by
  have hf := hl f (by simp)
  rw [rdTrS]
  split
  ·exact rdTrS_sm r _ (fun g hg => hl g (by simp [hg])) ⟨hf.2, h.2⟩
  ·split
   ·exact rdTrS_sm r _ (fun g hg => hl g (by simp [hg])) ⟨h.1, by have := hf.1; unfold okF at this; unfold U64; dsimp only; omega⟩
   ·exact h
theorem transferS_sm {b : List UInt8} (hb : b.length ≤ 5000) : SmTr (transferS b).1 := by
 unfold transferS
 have h := fields_ok b
 have := rdTrS_sm (fieldsS b).1 ⟨[], 0⟩ (fun f hf => ⟨(h.1 f hf).1, by have := (h.1 f hf).2; omega⟩) ⟨by simp, by simp [U64]⟩
 generalize rdTrS (fieldsS b).1 ⟨[], 0⟩ = r at *
 exact this
theorem rdTxS_sm : ∀ (l : List Fld) (t : TxS), (∀ f ∈ l, okF f ∧ f.bytes.length ≤ 5000) → t.trs.length + l.length ≤ 5000 → SmTx t → SmTx (rdTxS l t).1
 | [], t, _, _, h => h
 | f :: r, t, hl, hn, h => by
  have hf := hl f (by simp)
  have hr : ∀ g ∈ r, okF g ∧ g.bytes.length ≤ 5000 := fun g hg => hl g (by simp [hg])
  have hv : U64 f.val := by have := hf.1; unfold okF at this; unfold U64; omega
  simp only [List.length_cons] at hn
  obtain ⟨h1, h2, h3, h4, h5, h6, h7⟩ := h
  rw [rdTxS]
  split
  ·exact rdTxS_sm r _ hr (by dsimp only; omega) ⟨hf.2, h2, h3, h4, h5, h6, h7⟩
  split
  ·exact rdTxS_sm r _ hr (by dsimp only; omega) ⟨h1, hv, h3, h4, h5, h6, h7⟩
  split
  ·exact rdTxS_sm r _ hr (by dsimp only; omega) ⟨h1, h2, hv, h4, h5, h6, h7⟩
  split
  ·exact rdTxS_sm r _ hr (by dsimp only; omega) ⟨h1, h2, h3, hv, h5, h6, h7⟩
  split
  ·exact rdTxS_sm r _ hr (by dsimp only; omega) ⟨h1, h2, h3, h4, hf.2, h6, h7⟩
  split
  ·split
   ·exact rdTxS_sm r _ hr (by dsimp only; rw [List.length_append, List.length_singleton]; omega) ⟨h1, h2, h3, h4, h5, by dsimp only; rw [List.length_append, List.length_singleton]; omega, all_app h7 fun x hx => by rw [List.mem_singleton.1 hx]; exact transferS_sm hf.2⟩
   ·exact ⟨h1, h2, h3, h4, h5, h6, h7⟩
  ·exact ⟨h1, h2, h3, h4, h5, h6, h7⟩
theorem read_r (l : List Fld) (hl : ∀ f ∈ l, okF f ∧ f.bytes.length ≤ 5000) (hn : l.length ≤ 1024) : SemR Tryz.prog G 88 [.sl l.length (l.map fldM)] [] 0 (.tup [txM (rdTxS l tx0).1, .bool (rdTxS l tx0).2]) [] 0 := by
 generalize hr : rdTxS l tx0 = r
 obtain ⟨R, okk⟩ := r
 dsimp only
 refine srq seat Tryz.func88 104 ?_
 refine go1 ?_
 refine c_loop (Nat × TxS) (fun x => [(11, .int .i64 x.1), (10, .int .i64 l.length), (9, .sl l.length (l.map fldM)), (4, .ptr 1 6 0 0 []), (2, .ptr 0 6 0 0 [])]) (fun x => [(0, ⟨114, 6, false, 0, [.st [.str [], .int .u64 0, .int .u64 0, .int .u64 0, .str [], .nils]]⟩), (1, ⟨114, 6, false, 0, [.st [.str x.2.sender, .int .u64 x.2.seq, .int .u64 x.2.gas, .int .u64 x.2.fee, .str x.2.memo, .ms 2 2 0 x.2.trs.length]]⟩), (2, ⟨159, 2, true, 0, x.2.trs.map trM⟩)]) 3 (fun x => x.1 ≤ l.length ∧ x.2.trs.length ≤ x.1 ∧ rdTxS (l.drop x.1) x.2 = (R, okk)) (fun x => l.length - x.1) (0, tx0) ⟨Nat.zero_le _, Nat.zero_le _, by dsimp only; rw [List.drop_zero]; exact hr⟩ (by dsimp only; exact (vm [(0, _), (1, _)] [])) ?_
 rintro ⟨k, t⟩ ⟨hk, ht, hR⟩
 obtain ⟨sender, seq, gas, fee, memo, trs⟩ := t
 try dsimp only
 dsimp only at hk ht hR
 refine go1 ?_
 (refine c_cond rfl ?_ ?_ <;> intro h)
 ·have hk' : k < l.length := by have := of_decide_eq_true h; omega
  have hok := hl _ (List.getElem_mem hk')
  have hel := flds_at hk'
  rw [List.drop_eq_getElem_cons hk'] at hR
  generalize l[k] = f at *
  obtain ⟨num, kind, val, bytes⟩ := f
  replace hel : idxL (l.map fldM) l.length (k : Int) = some (.st [.int .i64 num, .int .i64 kind, .int .u64 val, .sl bytes.length (u8s bytes)]) := hel
  have hel := SomF.mk hel
  have hby := SomF.mk (bytesM_u8 bytes)
  rw [rdTxS] at hR
  dsimp only at hR hok
  by_cases g1 : num = 1 ∧ kind = 2
  ·rw [if_pos g1] at hR
   obtain ⟨rfl, rfl⟩ := g1
   (iterate 4 ((all_goals (refine go1 ?_)); (all_goals (first | ((first | ((with_reducible apply n_grd); (case hf => exact ⟨rfl, rfl, rfl⟩)) | ((with_reducible apply c_cond); (case he => exact rfl))); (all_goals intro h); (all_goals (try simp only [bx] at h)); (all_goals (try (exfalso; omega)))) | skip))))
   exact ⟨(k + 1, ⟨bytes, seq, gas, fee, memo, trs⟩), ⟨by dsimp only; omega, by dsimp only; omega, hR⟩, by show l.length - (k + 1) < l.length - k; omega, (by dsimp only; exact (vm [(0, _), (1, _), (2, _)] []))⟩
  rw [if_neg g1] at hR
  by_cases g2 : num = 2 ∧ kind = 0
  ·rw [if_pos g2] at hR
   obtain ⟨rfl, rfl⟩ := g2
   (iterate 6 ((all_goals (refine go1 ?_)); (all_goals (first | ((first | ((with_reducible apply n_grd); (case hf => exact ⟨rfl, rfl, rfl⟩)) | ((with_reducible apply c_cond); (case he => exact rfl))); (all_goals intro h); (all_goals (try simp only [bx] at h)); (all_goals (try (exfalso; omega)))) | skip))))
   exact ⟨(k + 1, ⟨sender, val, gas, fee, memo, trs⟩), ⟨by dsimp only; omega, by dsimp only; omega, hR⟩, by show l.length - (k + 1) < l.length - k; omega, (by dsimp only; exact (vm [(0, _), (1, _), (2, _)] []))⟩
  rw [if_neg g2] at hR
  by_cases g3 : num = 3 ∧ kind = 0
  ·rw [if_pos g3] at hR
   obtain ⟨rfl, rfl⟩ := g3
   (iterate 8 ((all_goals (refine go1 ?_)); (all_goals (first | ((first | ((with_reducible apply n_grd); (case hf => exact ⟨rfl, rfl, rfl⟩)) | ((with_reducible apply c_cond); (case he => exact rfl))); (all_goals intro h); (all_goals (try simp only [bx] at h)); (all_goals (try (exfalso; omega)))) | skip))))
   exact ⟨(k + 1, ⟨sender, seq, val, fee, memo, trs⟩), ⟨by dsimp only; omega, by dsimp only; omega, hR⟩, by show l.length - (k + 1) < l.length - k; omega, (by dsimp only; exact (vm [(0, _), (1, _), (2, _)] []))⟩
  rw [if_neg g3] at hR
  by_cases g4 : num = 4 ∧ kind = 0
  ·rw [if_pos g4] at hR
   obtain ⟨rfl, rfl⟩ := g4
   (iterate 10 ((all_goals (refine go1 ?_)); (all_goals (first | ((first | ((with_reducible apply n_grd); (case hf => exact ⟨rfl, rfl, rfl⟩)) | ((with_reducible apply c_cond); (case he => exact rfl))); (all_goals intro h); (all_goals (try simp only [bx] at h)); (all_goals (try (exfalso; omega)))) | skip))))
   exact ⟨(k + 1, ⟨sender, seq, gas, val, memo, trs⟩), ⟨by dsimp only; omega, by dsimp only; omega, hR⟩, by show l.length - (k + 1) < l.length - k; omega, (by dsimp only; exact (vm [(0, _), (1, _), (2, _)] []))⟩
  rw [if_neg g4] at hR
  by_cases g5 : num = 5 ∧ kind = 2
  ·rw [if_pos g5] at hR
   obtain ⟨rfl, rfl⟩ := g5
   (iterate 12 ((all_goals (refine go1 ?_)); (all_goals (first | ((first | ((with_reducible apply n_grd); (case hf => exact ⟨rfl, rfl, rfl⟩)) | ((with_reducible apply c_cond); (case he => exact rfl))); (all_goals intro h); (all_goals (try simp only [bx] at h)); (all_goals (try (exfalso; omega)))) | skip))))
   exact ⟨(k + 1, ⟨sender, seq, gas, fee, bytes, trs⟩), ⟨by dsimp only; omega, by dsimp only; omega, hR⟩, by show l.length - (k + 1) < l.length - k; omega, (by dsimp only; exact (vm [(0, _), (1, _), (2, _)] []))⟩
  rw [if_neg g5] at hR
  by_cases g6 : num = 6 ∧ kind = 2
  ·rw [if_pos g6] at hR
   obtain ⟨rfl, rfl⟩ := g6
   have c1 := transfer_r (G := G) bytes hok.2
   generalize transferS bytes = q at *
   obtain ⟨x, b⟩ := q
   dsimp only at c1 hR
   cases b with
   | false =>
    rw [if_neg (by simp)] at hR
    simp only [Prod.mk.injEq] at hR
    obtain ⟨rfl, rfl⟩ := hR
    (iterate 16 ((all_goals (refine go1 ?_)); (all_goals (first | (refine g_call3 rfl hhq rfl (c1) rfl rfl ?_) | ((first | ((with_reducible apply n_grd); (case hf => exact ⟨rfl, rfl, rfl⟩)) | ((with_reducible apply c_cond); (case he => exact rfl))); (all_goals intro h); (all_goals (try simp only [bx] at h)); (all_goals (try (exfalso; omega)))) | skip))))
    all_goals (refine go0 ?_; (refine ⟨[_, _], [], [(2, trs.length)], rfl, rfl, ?_, rfl, ⟨?_, ?_, trivial⟩, ?_⟩; (exact ⟨(show trs.length ≤ (trs.map trM).length by simp), trivial⟩); (exact .inr ⟨_, rfl, lm⟩); exact rv; exact mm))
   | true =>
    rw [if_pos rfl] at hR
    (iterate 10 ((all_goals (refine go1 ?_)); (all_goals (first | (refine g_call3 rfl hhq rfl (c1) rfl rfl ?_) | ((first | ((with_reducible apply n_grd); (case hf => exact ⟨rfl, rfl, rfl⟩)) | ((with_reducible apply c_cond); (case he => exact rfl))); (all_goals intro h); (all_goals (try simp only [bx] at h)); (all_goals (try (exfalso; omega)))) | skip))))
    ((with_reducible apply g_mem); (case hq => exact rfl); (case hv => exact rfl); (case he => (intro R hR; refine sms hR ?_; (refine And.intro (Nat.le_refl _) ?_; refine ⟨_, rfl, ?_⟩; refine And.intro ⟨(by simp), app_ok (by kernel_rfl) pf⟩ ?_; refine ⟨(trs ++ [x]).map trM, sv (by simp; rfl), trs.length + 1, sv pf, ?_⟩); exact hR)); (case hd => exact rfl))
    refine go1 ?_
    exact ⟨(k + 1, ⟨sender, seq, gas, fee, memo, trs ++ [x]⟩), ⟨by dsimp only; omega, by dsimp only; rw [List.length_append, List.length_singleton]; omega, hR⟩, by show l.length - (k + 1) < l.length - k; omega, (by dsimp only; rw [List.length_append, List.length_singleton]; exact (vm [(0, _), (1, _), (2, _)] []))⟩
  ·rw [if_neg g6] at hR
   simp only [Prod.mk.injEq] at hR
   obtain ⟨rfl, rfl⟩ := hR
   (iterate 14 ((all_goals (refine go1 ?_)); (all_goals (first | ((with_reducible apply n_grd); (case hf => exact ⟨rfl, rfl, rfl⟩); (all_goals intro h); (all_goals (try simp only [beq_iff_eq, ne_eq, Bool.not_true, beq_eq_false_iff_ne] at h)); (all_goals (try (exfalso; omega)))) | ((with_reducible apply c_cond); (case he => exact rfl); (all_goals intro h); (all_goals (try simp only [beq_iff_eq, ne_eq, beq_eq_false_iff_ne] at h)); (all_goals (try (exfalso; omega)))) | skip))))
   all_goals (refine go0 ?_; (refine ⟨[_, _], [], [(2, trs.length)], rfl, rfl, ?_, rfl, ⟨?_, ?_, trivial⟩, ?_⟩; (exact ⟨(show trs.length ≤ (trs.map trM).length by simp), trivial⟩); (exact .inr ⟨_, rfl, lm⟩); exact rv; exact mm))
 ·have hk' : k = l.length := by have := of_decide_eq_false h; omega
  subst hk'
  rw [List.drop_length, rdTxS] at hR
  simp only [Prod.mk.injEq] at hR
  obtain ⟨rfl, rfl⟩ := hR
  refine go1 ?_
  all_goals (refine go0 ?_; (refine ⟨[_, _], [], [(2, trs.length)], rfl, rfl, ?_, rfl, ⟨?_, ?_, trivial⟩, ?_⟩; (exact ⟨(show trs.length ≤ (trs.map trM).length by simp), trivial⟩); (exact .inr ⟨_, rfl, lm⟩); exact rv; exact mm))
end
section
variable {G : GS}
attribute [local irreducible] vOpsN vOpsG vOpsD vOpGD NextD vC SeqQ BlockQ
def decodeTxS (raw : List UInt8) : TxS × Nat :=
 if 4096 < raw.length then (tx0, 3) else
 if (fieldsS raw).2.2 ≠ 0 ∨ (rdTxS (fieldsS raw).1 tx0).2 = false ∨ formS (rdTxS (fieldsS raw).1 tx0).1 ≠ raw then (tx0, 4) else
 if validTxS (rdTxS (fieldsS raw).1 tx0).1 ≠ 0 then (tx0, validTxS (rdTxS (fieldsS raw).1 tx0).1) else ((rdTxS (fieldsS raw).1 tx0).1, 0)
theorem tx0_sm : SmTx tx0 := ⟨by simp [tx0], by simp [tx0, U64], by simp [tx0, U64], by simp [tx0, U64], by simp [tx0], by simp [tx0], by simp [tx0]⟩
theorem rd_sm {raw : List UInt8} (h : raw.length ≤ 4096) : SmTx (rdTxS (fieldsS raw).1 tx0).1 := by
 have hf := fields_ok raw
 refine rdTxS_sm _ tx0 (fun f hm => ⟨(hf.1 f hm).1, by have := (hf.1 f hm).2; omega⟩) ?_ tx0_sm
 show 0 + _ ≤ _
 omega
theorem decodeTx_r (raw : List UInt8) (hraw : raw.length ≤ 1000000) : SemR Tryz.prog G 51 [.sl raw.length (u8s raw)] [] 0 (.tup [txM (decodeTxS raw).1, .int .i64 (decodeTxS raw).2]) [] 0 := by
 generalize hr : decodeTxS raw = r
 obtain ⟨R, code⟩ := r
 dsimp only
 unfold decodeTxS at hr
 by_cases h1 : 4096 < raw.length
 ·rw [if_pos h1] at hr
  simp only [Prod.mk.injEq] at hr
  obtain ⟨rfl, rfl⟩ := hr
  refine srq seat Tryz.func51 46 ?_
  refine go1 ?_
  (iterate 4 ((all_goals (refine go1 ?_)); (all_goals (first | ((with_reducible apply n_grd); (case hf => exact ⟨rfl, rfl, rfl⟩); (all_goals intro h); (all_goals (try simp only [bx] at h)); (all_goals (try (exfalso; omega)))) | ((with_reducible apply c_cond); (case he => exact rfl); (all_goals intro h); (all_goals (try simp only [decide_eq_true_eq, decide_eq_false_iff_not] at h)); (all_goals (try (exfalso; omega)))) | skip))))
  all_goals (refine go0 ?_; (refine ⟨[_, _], [], [], rfl, rfl, trivial, rfl, ⟨?_, ?_, trivial⟩, ?_⟩; (exact .inr ⟨_, rfl, lm⟩); exact rv; exact mm))
 rw [if_neg h1] at hr
 have c1 := fields_r (G := G) raw (by omega)
 have hf := fields_ok raw
 have c2 := read_r (G := G) (fieldsS raw).1 (fun f hm => ⟨(hf.1 f hm).1, by have := (hf.1 f hm).2; omega⟩) hf.2
 have hsm := rd_sm (raw := raw) (by omega)
 have c3 := form_r (G := G) _ hsm
 have c4 := sameB_m (G := G) (formS (rdTxS (fieldsS raw).1 tx0).1) raw
 have c5 := validTx_m (G := G) _ hsm
 clear hf hsm
 generalize fieldsS raw = F at *
 obtain ⟨l, at_, e⟩ := F
 dsimp only at c1 c2 c3 c4 c5 hr
 generalize rdTxS l tx0 = T at *
 obtain ⟨t, ok⟩ := T
 dsimp only at c1 c2 c3 c4 c5 hr
 generalize formS t = fs at *
 generalize validTxS t = vt at *
 have hb : (fs == raw) = true ↔ fs = raw := by simp
 generalize (fs == raw) = b at *
 by_cases he : e = 0
 ·subst he
  cases ok with
  | false =>
   rw [if_pos (by simp)] at hr
   simp only [Prod.mk.injEq] at hr
   obtain ⟨rfl, rfl⟩ := hr
   refine srq seat Tryz.func51 46 ?_
   refine go1 ?_
   (iterate 12 ((all_goals (refine go1 ?_)); (all_goals (first | (refine g_call3 rfl hhq rfl (c1) rfl rfl ?_) | (refine g_call3 rfl hhq rfl (c2) rfl rfl ?_) | (refine g_call3 rfl hhq rfl (c3) rfl rfl ?_) | (refine g_call3 rfl hhq rfl (src (c4)) rfl rfl ?_) | (refine g_call3 rfl hhq rfl (src (c5)) rfl rfl ?_) | ((with_reducible apply n_grd); (case hf => exact ⟨rfl, rfl, rfl⟩); (all_goals intro h); (all_goals (try simp only [bx] at h)); (all_goals (try (exfalso; omega)))) | ((with_reducible apply c_cond); (case he => exact rfl); (all_goals intro h); (all_goals (try simp only [decide_eq_true_eq, decide_eq_false_iff_not] at h)); (all_goals (try (exfalso; omega)))) | skip))))
   all_goals (refine go0 ?_; (refine ⟨[_, _], [], [], rfl, rfl, trivial, rfl, ⟨?_, ?_, trivial⟩, ?_⟩; (exact .inr ⟨_, rfl, lm⟩); exact rv; exact mm))
  | true =>
   cases b with
   | false =>
    have hne : fs ≠ raw := fun e => by have := hb.2 e; simp at this
    rw [if_pos (by simp [hne])] at hr
    simp only [Prod.mk.injEq] at hr
    obtain ⟨rfl, rfl⟩ := hr
    refine srq seat Tryz.func51 46 ?_
    refine go1 ?_
    (iterate 12 ((all_goals (refine go1 ?_)); (all_goals (first | (refine g_call3 rfl hhq rfl (c1) rfl rfl ?_) | (refine g_call3 rfl hhq rfl (c2) rfl rfl ?_) | (refine g_call3 rfl hhq rfl (c3) rfl rfl ?_) | (refine g_call3 rfl hhq rfl (src (c4)) rfl rfl ?_) | (refine g_call3 rfl hhq rfl (src (c5)) rfl rfl ?_) | ((with_reducible apply n_grd); (case hf => exact ⟨rfl, rfl, rfl⟩); (all_goals intro h); (all_goals (try simp only [bx] at h)); (all_goals (try (exfalso; omega)))) | ((with_reducible apply c_cond); (case he => exact rfl); (all_goals intro h); (all_goals (try simp only [decide_eq_true_eq, decide_eq_false_iff_not] at h)); (all_goals (try (exfalso; omega)))) | skip))))
    all_goals (refine go0 ?_; (refine ⟨[_, _], [], [], rfl, rfl, trivial, rfl, ⟨?_, ?_, trivial⟩, ?_⟩; (exact .inr ⟨_, rfl, lm⟩); exact rv; exact mm))
   | true =>
    have heq : fs = raw := hb.1 rfl
    rw [if_neg (by simp [heq])] at hr
    by_cases hv : vt = 0
    ·subst hv
     rw [if_neg (by simp)] at hr
     simp only [Prod.mk.injEq] at hr
     obtain ⟨rfl, rfl⟩ := hr
     refine srq seat Tryz.func51 46 ?_
     refine go1 ?_
     (iterate 12 ((all_goals (refine go1 ?_)); (all_goals (first | (refine g_call3 rfl hhq rfl (c1) rfl rfl ?_) | (refine g_call3 rfl hhq rfl (c2) rfl rfl ?_) | (refine g_call3 rfl hhq rfl (c3) rfl rfl ?_) | (refine g_call3 rfl hhq rfl (src (c4)) rfl rfl ?_) | (refine g_call3 rfl hhq rfl (src (c5)) rfl rfl ?_) | ((with_reducible apply n_grd); (case hf => exact ⟨rfl, rfl, rfl⟩); (all_goals intro h); (all_goals (try simp only [bx] at h)); (all_goals (try (exfalso; omega)))) | ((with_reducible apply c_cond); (case he => exact rfl); (all_goals intro h); (all_goals (try simp only [decide_eq_true_eq, decide_eq_false_iff_not] at h)); (all_goals (try (exfalso; omega)))) | skip))))
     all_goals (refine go0 ?_; (refine ⟨[_, _], [], [], rfl, rfl, trivial, rfl, ⟨?_, ?_, trivial⟩, ?_⟩; (exact .inr ⟨_, rfl, lm⟩); exact rv; exact mm))
    ·rw [if_pos hv] at hr
     simp only [Prod.mk.injEq] at hr
     obtain ⟨rfl, rfl⟩ := hr
     refine srq seat Tryz.func51 46 ?_
     refine go1 ?_
     (iterate 12 ((all_goals (refine go1 ?_)); (all_goals (first | (refine g_call3 rfl hhq rfl (c1) rfl rfl ?_) | (refine g_call3 rfl hhq rfl (c2) rfl rfl ?_) | (refine g_call3 rfl hhq rfl (c3) rfl rfl ?_) | (refine g_call3 rfl hhq rfl (src (c4)) rfl rfl ?_) | (refine g_call3 rfl hhq rfl (src (c5)) rfl rfl ?_) | ((with_reducible apply n_grd); (case hf => exact ⟨rfl, rfl, rfl⟩); (all_goals intro h); (all_goals (try simp only [bx] at h)); (all_goals (try (exfalso; omega)))) | ((with_reducible apply c_cond); (case he => exact rfl); (all_goals intro h); (all_goals (try simp only [decide_eq_true_eq, decide_eq_false_iff_not, bne_iff_ne, ne_eq, bne_eq_false_iff_eq] at h)); (all_goals (try (exfalso; omega)))) | skip))))
     all_goals (refine go0 ?_; (refine ⟨[_, _], [], [], rfl, rfl, trivial, rfl, ⟨?_, ?_, trivial⟩, ?_⟩; (exact .inr ⟨_, rfl, lm⟩); exact rv; exact mm))
 ·rw [if_pos (.inl he)] at hr
  simp only [Prod.mk.injEq] at hr
  obtain ⟨rfl, rfl⟩ := hr
  refine srq seat Tryz.func51 46 ?_
  refine go1 ?_
  (iterate 12 ((all_goals (refine go1 ?_)); (all_goals (first | (refine g_call3 rfl hhq rfl (c1) rfl rfl ?_) | (refine g_call3 rfl hhq rfl (c2) rfl rfl ?_) | (refine g_call3 rfl hhq rfl (c3) rfl rfl ?_) | (refine g_call3 rfl hhq rfl (src (c4)) rfl rfl ?_) | (refine g_call3 rfl hhq rfl (src (c5)) rfl rfl ?_) | ((with_reducible apply n_grd); (case hf => exact ⟨rfl, rfl, rfl⟩); (all_goals intro h); (all_goals (try simp only [bne_iff_ne, ne_eq, Bool.not_false, bne_eq_false_iff_eq] at h)); (all_goals (try (exfalso; omega)))) | ((with_reducible apply c_cond); (case he => exact rfl); (all_goals intro h); (all_goals (try simp only [decide_eq_true_eq, decide_eq_false_iff_not] at h)); (all_goals (try (exfalso; omega)))) | skip))))
  all_goals (refine go0 ?_; (refine ⟨[_, _], [], [], rfl, rfl, trivial, rfl, ⟨?_, ?_, trivial⟩, ?_⟩; (exact .inr ⟨_, rfl, lm⟩); exact rv; exact mm))
end
section
variable {G : GS}
attribute [local irreducible] vOpsN vOpsG vOpsD vOpGD NextD vC SeqQ BlockQ
structure AcS where
 name : List UInt8
 bal : Nat
 seq : Nat
def acM (a : AcS) : MV := .st [.str a.name, .int .u64 a.bal, .int .u64 a.seq]
def SmAc (a : AcS) : Prop := a.name.length ≤ 5000 ∧ U64 a.bal ∧ U64 a.seq
def ac0 : AcS := ⟨[], 0, 0⟩
structure LgS where
 acs : List AcS
 col : Nat
def lgM (l : LgS) : MV := .st [.sl l.acs.length (l.acs.map acM), .int .u64 l.col]
def addS (a b : Nat) : Nat × Bool := if a + b < 18446744073709551616 then (a + b, true) else (0, false)
theorem acs_at {l : List AcS} {k : Nat} (hk : k < l.length) : idxL (l.map acM) l.length (k : Int) = some (acM l[k]) := index_at hk (by simp [hk])
theorem add_m (a b : Nat) (ha : U64 a) (hb : U64 b) : SemC Tryz.prog G 141 [.int .u64 a, .int .u64 b] (.tup [.int .u64 (addS a b).1, .bool (addS a b).2]) := by
 unfold U64 at ha hb
 generalize hr : addS a b = r
 obtain ⟨R, okk⟩ := r
 unfold addS at hr
 dsimp only
 split at hr
 ·rename_i h
  simp only [Prod.mk.injEq] at hr
  obtain ⟨rfl, rfl⟩ := hr
  refine scq seat Tryz.func141 13 ?_
  refine go1 ?_
  (iterate 4 ((all_goals (refine go1 ?_)); (all_goals (first | ((with_reducible apply n_grd); (case hf => exact ⟨rfl, rfl, rfl⟩); (all_goals intro h); (all_goals (try simp only [bx] at h)); (all_goals (try (exfalso; omega)))) | ((with_reducible apply c_cond); (case he => exact rfl); (all_goals intro h); (all_goals (try simp only [decide_eq_true_eq, decide_eq_false_iff_not] at h)); (all_goals (try (exfalso; omega)))) | skip))))
  all_goals (refine go0 ?_)
  all_goals rfl
 ·rename_i h
  simp only [Prod.mk.injEq] at hr
  obtain ⟨rfl, rfl⟩ := hr
  refine scq seat Tryz.func141 13 ?_
  refine go1 ?_
  (iterate 4 ((all_goals (refine go1 ?_)); (all_goals (first | ((with_reducible apply n_grd); (case hf => exact ⟨rfl, rfl, rfl⟩); (all_goals intro h); (all_goals (try simp only [bx] at h)); (all_goals (try (exfalso; omega)))) | ((with_reducible apply c_cond); (case he => exact rfl); (all_goals intro h); (all_goals (try simp only [decide_eq_true_eq, decide_eq_false_iff_not] at h)); (all_goals (try (exfalso; omega)))) | skip))))
  all_goals (refine go0 ?_)
  all_goals rfl
def findS (name : List UInt8) : List AcS → Nat → Int
 | [], _ => -1
 | a :: r, i => if a.name = name then i else findS name r (i + 1)
theorem find_m (l : List AcS) (name : List UInt8) (hl : l.length ≤ 1000000) : SemC Tryz.prog G 95 [.sl l.length (l.map acM), .str name] (.int .i64 (findS name l 0)) := by
 generalize hr : findS name l 0 = R
 refine scq seat Tryz.func95 20 ?_
 refine go1 ?_
 refine c_loop Nat (fun k => [(9, .int .i64 k), (8, .int .i64 l.length), (7, .sl l.length (l.map acM)), (1, .str name)]) (fun _ => []) 0 (fun k => k ≤ l.length ∧ findS name (l.drop k) k = R) (fun k => l.length - k) 0 ⟨Nat.zero_le _, by rw [List.drop_zero]; exact hr⟩ (vm [] []) ?_
 rintro k ⟨hk, hR⟩
 try dsimp only
 refine go1 ?_
 (refine c_cond rfl ?_ ?_ <;> intro h)
 ·have hk' : k < l.length := by have := of_decide_eq_true h; omega
  have hel := acs_at hk'
  rw [List.drop_eq_getElem_cons hk', findS] at hR
  generalize l[k] = a at *
  obtain ⟨nm, bal, seq⟩ := a
  replace hel : idxL (l.map acM) l.length (k : Int) = some (.st [.str nm, .int .u64 bal, .int .u64 seq]) := hel
  have hel := SomF.mk hel
  dsimp only at hR
  by_cases he : nm = name
  ·rw [if_pos he] at hR
   subst he
   subst hR
   refine goe1 ?_
   refine go0 ?_
   rfl
  ·rw [if_neg he] at hR
   refine go1 ?_
   (refine c_cond rfl ?_ ?_ <;> intro h)
   ·exact absurd (eq_of_beq h) he
   ·refine go1 ?_
    exact ⟨k + 1, ⟨by show k + 1 ≤ l.length; omega, hR⟩, by show l.length - (k + 1) < l.length - k; omega, (by dsimp only; exact (vm [] []))⟩
 ·have hk' : k = l.length := by have := of_decide_eq_false h; omega
  subst hk'
  rw [List.drop_length, findS] at hR
  subst hR
  refine go1 ?_
  refine go0 ?_
  rfl
end
section
variable {G : GS}
attribute [local irreducible] vOpsN vOpsG vOpsD vOpGD NextD vC SeqQ BlockQ
def limS (n : Int) : Nat := (max 0 (min n 1073741824)).toNat
theorem limited_m (n : Int) (hn : -9223372036854775808 ≤ n ∧ n < 9223372036854775808) : SemC Tryz.prog G 144 [.int .i64 n] (.int .u64 (limS n)) := by
 refine scq seat Tryz.func144 7 ?_
 refine go1 ?_
 refine go0 ?_
 refine congrArg (MV.int .u64) ?_
 unfold limS
 split <;> split <;> omega
def mulS (a b : Nat) : Nat × Bool := if a * b < 18446744073709551616 then (a * b, true) else (0, false)
theorem mul_m (a b : Nat) (ha : U64 a) (_hb : U64 b) : SemC Tryz.prog G 145 [.int .u64 a, .int .u64 b] (.tup [.int .u64 (mulS a b).1, .bool (mulS a b).2]) := by
 unfold U64 at ha
 have hq : 0 < a → (18446744073709551615 / a < b ↔ 18446744073709551615 < b * a) := fun h => Nat.div_lt_iff_lt_mul h
 have hm : a = 0 → a * b = 0 := fun h => by rw [h, Nat.zero_mul]
 rw [Nat.mul_comm b a] at hq
 have f1 := EqF.mk (show IntKind.u64.wrap ((18446744073709551615 : Int).tdiv (a : Int)) = ((18446744073709551615 / a : Nat) : Int) from tdivn (a := 18446744073709551615) a (by omega))
 have f2 : a * b < 18446744073709551616 → IntKind.u64.wrap ((a : Int) * (b : Int)) = ((a * b : Nat) : Int) := fun h => by
  rw [← Int.natCast_mul]
  exact wrapu_in _ (by omega) (by omega)
 have hz : (18446744073709551615 / a : Nat) < 18446744073709551616 := Nat.lt_of_le_of_lt (Nat.div_le_self _ _) (by omega)
 generalize hr : mulS a b = r
 obtain ⟨R, okk⟩ := r
 unfold mulS at hr
 generalize a * b = m at *
 generalize 18446744073709551615 / a = q at *
 dsimp only
 by_cases h : m < 18446744073709551616
 ·rw [if_pos h] at hr
  simp only [Prod.mk.injEq] at hr
  obtain ⟨rfl, rfl⟩ := hr
  have f2 := EqF.mk (f2 h)
  refine scq seat Tryz.func145 17 ?_
  refine go1 ?_
  (iterate 6 ((all_goals (refine go1 ?_)); (all_goals (first | ((with_reducible apply n_grd); (case hf => exact ⟨rfl, rfl, rfl⟩); (all_goals intro h); (all_goals (try simp only [bne_iff_ne, ne_eq, Bool.not_true, bne_eq_false_iff_eq] at h)); (all_goals (try (exfalso; omega)))) | ((with_reducible apply c_cond); (case he => exact rfl); (all_goals intro h); (all_goals (try simp only [decide_eq_true_eq, decide_eq_false_iff_not] at h)); (all_goals (try (exfalso; omega)))) | skip))))
  all_goals (refine go0 ?_)
  all_goals rfl
 ·rw [if_neg h] at hr
  simp only [Prod.mk.injEq] at hr
  obtain ⟨rfl, rfl⟩ := hr
  refine scq seat Tryz.func145 17 ?_
  refine go1 ?_
  (iterate 6 ((all_goals (refine go1 ?_)); (all_goals (first | ((with_reducible apply n_grd); (case hf => exact ⟨rfl, rfl, rfl⟩); (all_goals intro h); (all_goals (try simp only [bne_iff_ne, ne_eq, Bool.not_true, bne_eq_false_iff_eq] at h)); (all_goals (try (exfalso; omega)))) | ((with_reducible apply c_cond); (case he => exact rfl); (all_goals intro h); (all_goals (try simp only [decide_eq_true_eq, decide_eq_false_iff_not] at h)); (all_goals (try (exfalso; omega)))) | skip))))
  all_goals (refine go0 ?_)
  all_goals rfl
def usedS (size trs : Int) : Nat := 50 + limS size + 20 * limS trs
theorem used_m (x y : Int) (hx : -9223372036854775808 ≤ x ∧ x < 9223372036854775808) (hy : -9223372036854775808 ≤ y ∧ y < 9223372036854775808) : SemC Tryz.prog G 90 [.int .i64 x, .int .i64 y] (.int .u64 (usedS x y)) := by
 have c1 := limited_m (G := G) x hx
 have c2 := limited_m (G := G) y hy
 have l1 : limS x ≤ 1073741824 := by unfold limS; omega
 have l2 : limS y ≤ 1073741824 := by unfold limS; omega
 unfold usedS
 generalize limS x = u at *
 generalize limS y = v at *
 refine scq seat Tryz.func90 13 ?_
 refine go1 ?_
 (iterate 4 ((all_goals (refine go1 ?_)); (all_goals (first | (refine g_call3 rfl hhq rfl (src (c1)) rfl rfl ?_) | (refine g_call3 rfl hhq rfl (src (c2)) rfl rfl ?_) | ((first | ((with_reducible apply n_grd); (case hf => exact ⟨rfl, rfl, rfl⟩)) | ((with_reducible apply c_cond); (case he => exact rfl))); (all_goals intro h); (all_goals (try simp only [bx] at h)); (all_goals (try (exfalso; omega)))) | skip))))
 all_goals (refine go0 ?_)
 refine congrArg (MV.int .u64) ?_
 omega
end
section
variable {G : GS}
attribute [local irreducible] vOpsN vOpsG vOpsD vOpGD NextD vC SeqQ BlockQ
def getS (l : List AcS) (name : List UInt8) : AcS × Bool := match l.find? (fun a => decide (a.name = name)) with
 | some a => (a, true)
 | none => (ac0, false)
theorem findS_spec (name : List UInt8) : ∀ (l : List AcS) (i : Nat), (findS name l i = -1 ∧ l.find? (fun a => decide (a.name = name)) = none) ∨ ∃ k a, findS name l i = ((i + k : Nat) : Int) ∧ l[k]? = some a ∧ l.find? (fun a => decide (a.name = name)) = some a
 | [], i => .inl ⟨rfl, rfl⟩
 | a :: r, i => by
  by_cases h : a.name = name
  ·exact .inr ⟨0, a, by rw [findS, if_pos h]; rfl, rfl, by simp [h]⟩
  ·have hf : (a :: r).find? (fun a => decide (a.name = name)) = r.find? (fun a => decide (a.name = name)) := by simp [h]
   rw [findS, if_neg h, hf]
   rcases findS_spec name r (i + 1) with h1 | ⟨k, b, h1, h2, h3⟩
   ·exact .inl h1
   ·exact .inr ⟨k + 1, b, by rw [h1]; omega, by simpa using h2, h3⟩
theorem get_m (l : List AcS) (col : Nat) (name : List UInt8) (hl : l.length ≤ 1000000) : SemC Tryz.prog G 89 [.st [.sl l.length (l.map acM), .int .u64 col], .str name] (.tup [acM (getS l name).1, .bool (getS l name).2]) := by
 have c1 := find_m (G := G) l name hl
 rcases findS_spec name l 0 with ⟨h1, h2⟩ | ⟨k, a, h1, h2, h3⟩
 ·rw [h1] at c1
  have e : getS l name = (ac0, false) := by unfold getS; rw [h2]
  rw [e]
  refine scq seat Tryz.func89 19 ?_
  refine go1 ?_
  (iterate 6 ((all_goals (refine go1 ?_)); (all_goals (first | (refine g_call3 rfl hhq rfl (src (c1)) rfl rfl ?_) | ((first | ((with_reducible apply n_grd); (case hf => exact ⟨rfl, rfl, rfl⟩)) | ((with_reducible apply c_cond); (case he => exact rfl))); (all_goals intro h); (all_goals (try simp only [bx] at h)); (all_goals (try (exfalso; omega)))) | skip))))
  all_goals (refine go0 ?_)
  all_goals rfl
 ·rw [h1, Nat.zero_add] at c1
  have e : getS l name = (a, true) := by unfold getS; rw [h3]
  rw [e]
  obtain ⟨hk, ha⟩ := List.getElem?_eq_some_iff.1 h2
  have hel := acs_at hk
  rw [ha] at hel
  obtain ⟨nm, bal, seq⟩ := a
  replace hel : idxL (l.map acM) l.length (k : Int) = some (.st [.str nm, .int .u64 bal, .int .u64 seq]) := hel
  have hel := SomF.mk hel
  clear h1 h2 h3 e ha
  refine scq seat Tryz.func89 19 ?_
  refine go1 ?_
  (iterate 6 ((all_goals (refine go1 ?_)); (all_goals (first | (refine g_call3 rfl hhq rfl (src (c1)) rfl rfl ?_) | ((first | ((with_reducible apply n_grd); (case hf => exact ⟨rfl, rfl, rfl⟩)) | ((with_reducible apply c_cond); (case he => exact rfl))); (all_goals intro h); (all_goals (try simp only [bx] at h)); (all_goals (try (exfalso; omega)))) | skip))))
  all_goals (refine go0 ?_)
  all_goals rfl
def totS : List AcS → Nat → Nat × Bool
 | [], s => (s, true)
 | a :: r, s => if (addS s a.bal).2 then totS r (addS s a.bal).1 else (0, false)
theorem addS_u64 {a b : Nat} : U64 (addS a b).1 := by
 unfold addS U64
 split
 ·assumption
 ·show 0 < _; omega
theorem total_m (l : List AcS) (col : Nat) (hc : U64 col) (hl : l.length ≤ 1000000) (hs : ∀ a ∈ l, U64 a.bal) : SemC Tryz.prog G 86 [.st [.sl l.length (l.map acM), .int .u64 col]] (.tup [.int .u64 (totS l col).1, .bool (totS l col).2]) := by
 generalize hr : totS l col = r
 obtain ⟨R, okk⟩ := r
 dsimp only
 refine scq seat Tryz.func86 30 ?_
 refine go1 ?_
 refine c_loop (Nat × Nat) (fun x => [(14, .int .i64 x.1), (13, .int .i64 l.length), (12, .sl l.length (l.map acM)), (4, .int .u64 x.2)]) (fun _ => []) 0 (fun x => x.1 ≤ l.length ∧ U64 x.2 ∧ totS (l.drop x.1) x.2 = (R, okk)) (fun x => l.length - x.1) (0, col) ⟨Nat.zero_le _, hc, by rw [List.drop_zero]; exact hr⟩ (by dsimp only; exact (vm [] [])) ?_
 rintro ⟨k, s⟩ ⟨hk, hsU, hR⟩
 try dsimp only
 dsimp only at hk hsU hR
 refine go1 ?_
 (refine c_cond rfl ?_ ?_ <;> intro h)
 ·have hk' : k < l.length := by have := of_decide_eq_true h; omega
  have hel := acs_at hk'
  have hb := hs _ (List.getElem_mem hk')
  rw [List.drop_eq_getElem_cons hk', totS] at hR
  generalize l[k] = a at *
  obtain ⟨nm, bal, seq⟩ := a
  replace hel : idxL (l.map acM) l.length (k : Int) = some (.st [.str nm, .int .u64 bal, .int .u64 seq]) := hel
  have hel := SomF.mk hel
  dsimp only at hR hb
  have c1 := add_m (G := G) s bal hsU hb
  have hU := @addS_u64 s bal
  generalize addS s bal = p at *
  obtain ⟨v, b⟩ := p
  dsimp only at c1 hR hU
  cases b with
  | true =>
   rw [if_pos rfl] at hR
   refine go1 ?_
   (iterate 6 ((all_goals (refine go1 ?_)); (all_goals (first | (refine g_call3 rfl hhq rfl (src (c1)) rfl rfl ?_) | ((first | ((with_reducible apply n_grd); (case hf => exact ⟨rfl, rfl, rfl⟩)) | ((with_reducible apply c_cond); (case he => exact rfl))); (all_goals intro h); (all_goals (try simp only [bx] at h)); (all_goals (try (exfalso; omega)))) | skip))))
   exact ⟨(k + 1, v), ⟨by show k + 1 ≤ l.length; omega, hU, hR⟩, by show l.length - (k + 1) < l.length - k; omega, (by dsimp only; exact (vm [] []))⟩
  | false =>
   rw [if_neg (by simp)] at hR
   simp only [Prod.mk.injEq] at hR
   obtain ⟨rfl, rfl⟩ := hR
   refine go1 ?_
   (iterate 6 ((all_goals (refine go1 ?_)); (all_goals (first | (refine g_call3 rfl hhq rfl (src (c1)) rfl rfl ?_) | ((first | ((with_reducible apply n_grd); (case hf => exact ⟨rfl, rfl, rfl⟩)) | ((with_reducible apply c_cond); (case he => exact rfl))); (all_goals intro h); (all_goals (try simp only [bx] at h)); (all_goals (try (exfalso; omega)))) | skip))))
   all_goals (refine go0 ?_)
   all_goals rfl
 ·have hk' : k = l.length := by have := of_decide_eq_false h; omega
  subst hk'
  rw [List.drop_length, totS] at hR
  simp only [Prod.mk.injEq] at hR
  obtain ⟨rfl, rfl⟩ := hR
  refine go1 ?_
  refine go0 ?_
  rfl
end
section
variable {G : GS}
attribute [local irreducible] vOpsN vOpsG vOpsD vOpGD NextD vC SeqQ BlockQ
def insA (a : AcS) : List AcS → List AcS
 | [] => [a]
 | b :: r => if Op.bytesLess b.name a.name then b :: insA a r else a :: b :: r
def putS (a : AcS) (l : List AcS) : List AcS := if 0 ≤ findS a.name l 0 then l.set (findS a.name l 0).toNat a else insA a l
theorem insA_at (a : AcS) : ∀ (l : List AcS) (k : Nat), k ≤ l.length → (∀ j (hj : j < l.length), j < k → Op.bytesLess l[j].name a.name = true) → (∀ hk : k < l.length, Op.bytesLess l[k].name a.name = false) → insA a l = l.take k ++ a :: l.drop k
 | [], k, h, _, _ => by
  have : k = 0 := by simpa using h
  subst this; rfl
 | b :: r, 0, _, _, h2 => by
  have := h2 (by simp)
  simp only [List.getElem_cons_zero] at this
  rw [insA, if_neg (by rw [this]; simp)]
  rfl
 | b :: r, k + 1, h, h1, h2 => by
  have hb := h1 0 (by simp) (by omega)
  simp only [List.getElem_cons_zero] at hb
  rw [insA, if_pos hb, insA_at a r k (by simpa using h) (fun j hj hjk => by have := h1 (j + 1) (by simpa using hj) (by omega); simpa using this) (fun hk => by have := h2 (by simpa using hk); simpa using this)]
  rfl
theorem head_ac (l : List AcS) : headSize (l.map acM) 3 = true := by cases l <;> rfl
theorem insA_len (a : AcS) : ∀ l, (insA a l).length = l.length + 1
 | [] => rfl
 | b :: r => by
  rw [insA]
  split
  ·simp [insA_len a r]
  ·simp
theorem putS_len (a : AcS) (l : List AcS) : (putS a l).length ≤ l.length + 1 := by
 unfold putS
 split
 ·simp
 ·rw [insA_len]; omega
theorem put_r (a : AcS) (l : List AcS) (hl : l.length ≤ 1000000) : SemR Tryz.prog G 94 [.sl l.length (l.map acM), acM a] [] 0 (.sl (putS a l).length ((putS a l).map acM)) [] 0 := by
 have c1 := find_m (G := G) l a.name hl
 obtain ⟨nm, bal, seq⟩ := a
 dsimp only at c1
 have hspec := findS_spec nm l 0
 have hput : putS ⟨nm, bal, seq⟩ l = if 0 ≤ findS nm l 0 then l.set (findS nm l 0).toNat ⟨nm, bal, seq⟩ else insA ⟨nm, bal, seq⟩ l := rfl
 by_cases hf : findS nm l 0 = -1
 ·rw [hf] at c1 hput
  rw [if_neg (by omega)] at hput
  rw [hput]
  clear hspec hf hput
  have hins := insA_at ⟨nm, bal, seq⟩ l
  have hil := insA_len ⟨nm, bal, seq⟩ l
  dsimp only at hins
  generalize insA ⟨nm, bal, seq⟩ l = Z at *
  refine srq seat Tryz.func94 50 ?_
  refine go1 ?_
  (iterate 3 ((all_goals (refine go1 ?_)); (all_goals (first | (refine g_call3 rfl hhq rfl (src (c1)) rfl rfl ?_) | ((first | ((with_reducible apply n_grd); (case hf => exact ⟨rfl, rfl, rfl⟩)) | ((with_reducible apply c_cond); (case he => exact rfl))); (all_goals intro h); (all_goals (try simp only [bx] at h)); (all_goals (try (exfalso; omega)))) | skip))))
  refine c_loop Nat (fun k => [(7, .int .i64 k), (3, .ptr 0 3 0 0 []), (0, .sl l.length (l.map acM))]) (fun _ => [(0, ⟨74, 3, false, 0, [.st [.str nm, .int .u64 bal, .int .u64 seq]]⟩)]) 1 (fun k => k ≤ l.length ∧ ∀ j (hj : j < l.length), j < k → Op.bytesLess l[j].name nm = true) (fun k => l.length - k) 0 ⟨Nat.zero_le _, fun j hj h => absurd h (Nat.not_lt_zero _)⟩ (vm [(0, _)] []) ?_
  rintro k ⟨hki, hpre⟩
  try dsimp only
  have step : ∀ hk : k < l.length, Op.bytesLess l[k].name nm = true → (k + 1 ≤ l.length ∧ ∀ j (hj : j < l.length), j < k + 1 → Op.bytesLess l[j].name nm = true) := fun hk hb => ⟨by omega, fun j hj hjk => by
   rcases Nat.lt_or_ge j k with h | h
   ·exact hpre j hj h
   ·have : j = k := by omega
    subst this; exact hb⟩
  have done : (∀ hk : k < l.length, Op.bytesLess l[k].name nm = false) → Z = l.take k ++ ⟨nm, bal, seq⟩ :: l.drop k := fun h => hins k hki hpre h
  clear hins
  refine go1 ?_
  refine c_draw [(0, false), (1, false), (2, false), (3, false), (4, false), (5, false), (6, false), (7, false), (8, false), (9, false), (10, false), (11, false), (12, false), (13, false)] ?_
  refine go1 ?_
  ((with_reducible apply d_guard); (case hs => exact rfl); (case hv => exact rfl); (case hd => exact rfl); (all_goals intro h))
  ·have hk : k < l.length := by have := of_decide_eq_true h; omega
   have hel := acs_at hk
   replace step := step hk
   generalize he : l[k] = b at *
   obtain ⟨nm', bal', seq'⟩ := b
   replace hel : idxL (l.map acM) l.length (k : Int) = some (.st [.str nm', .int .u64 bal', .int .u64 seq']) := hel
   have hel := SomF.mk hel
   dsimp only at step
   refine go1 ?_
   (refine c_cond rfl ?_ ?_ <;> intro h)
   ·refine go1 ?_
    exact ⟨k + 1, step h, by show l.length - (k + 1) < l.length - k; omega, (by dsimp only; exact (vm [(0, _)] []))⟩
   ·have hfin := done (fun _ => by rw [he]; exact h)
    have fb1 := SomF.mk (bndHi (κ := .i64) hki)
    have fb2 := SomF.mk (bndLo (κ := .i64) hki)
    have fb3 := SideF.mk (head_ac l)
    refine go1 ?_
    refine c_draw [(0, false), (1, false), (2, false), (3, false), (4, false), (5, false), (6, false), (7, false), (8, false), (9, false), (10, false), (11, false), (12, false)] ?_
    refine go1 ?_
    ((with_reducible apply gd_mem); (case hv => exact rfl); (case he => (intro R hR; refine sms hR ?_; refine And.intro ((by show headSize (cutL _ 0 k) 3 = true; rw [cut_take]; exact head_ac _)) ?_; refine And.intro ⟨rfl, app_ok (by kernel_rfl) pf⟩ ?_; refine ⟨(l.take k).map acM, sv (by show [] ++ cutL _ 0 k = _; rw [List.nil_append, cut_take]), k, sv pf, ?_⟩; exact hR)); (case hd => exact rfl))
    refine go1 ?_
    ((with_reducible apply gd_mem); (case hv => exact rfl); (case he => (intro R hR; refine sms hR ?_; (refine And.intro (Nat.le_refl _) ?_; refine ⟨_, rfl, ?_⟩; refine And.intro ⟨(by simp <;> omega), app_ok (by kernel_rfl) pf⟩ ?_; refine ⟨(l.take k ++ [(⟨nm, bal, seq⟩ : AcS)]).map acM, sv (by simp; rfl), k+1, sv pf, ?_⟩); exact hR)); (case hd => exact rfl))
    refine go1 ?_
    ((with_reducible apply gd_mem); (case hv => exact rfl); (case he => (intro R hR; refine sms hR ?_; refine And.intro ((by show headSize (cutL _ k l.length) 3 = true; rw [cut_drop]; exact head_ac _)) ?_; refine And.intro ⟨(by simp <;> omega), app_ok (by kernel_rfl) pf⟩ ?_; refine ⟨Z.map acM, sv (by rw [hfin]; show _ ++ cutL _ k l.length = _; rw [cut_drop]; simp), Z.length, sv pf, ?_⟩; exact hR)); (case hd => exact rfl))
    refine go1 ?_
    refine ⟨[_], [], [(26, Z.length)], rfl, rfl, ?_, rfl, ⟨?_, trivial⟩, ?_⟩
    ·exact ⟨by show Z.length ≤ (Z.map acM).length; simp, trivial⟩
    ·exact .inr ⟨rfl, rfl, rfl, Nat.le_of_eq (Nat.zero_add _), cut_all acM Z⟩
    ·exact mm
  ·have hk : k = l.length := by have := of_decide_eq_false h; omega
   have hfin := done (fun h => absurd h (by omega))
   refine go1 ?_
   have fb1 := SomF.mk (bndHi (κ := .i64) hki)
   have fb2 := SomF.mk (bndLo (κ := .i64) hki)
   have fb3 := SideF.mk (head_ac l)
   refine go1 ?_
   refine c_draw [(0, false), (1, false), (2, false), (3, false), (4, false), (5, false), (6, false), (7, false), (8, false), (9, false), (10, false), (11, false), (12, false)] ?_
   refine go1 ?_
   ((with_reducible apply gd_mem); (case hv => exact rfl); (case he => (intro R hR; refine sms hR ?_; refine And.intro ((by show headSize (cutL _ 0 k) 3 = true; rw [cut_take]; exact head_ac _)) ?_; refine And.intro ⟨rfl, app_ok (by kernel_rfl) pf⟩ ?_; refine ⟨(l.take k).map acM, sv (by show [] ++ cutL _ 0 k = _; rw [List.nil_append, cut_take]), k, sv pf, ?_⟩; exact hR)); (case hd => exact rfl))
   refine go1 ?_
   ((with_reducible apply gd_mem); (case hv => exact rfl); (case he => (intro R hR; refine sms hR ?_; (refine And.intro (Nat.le_refl _) ?_; refine ⟨_, rfl, ?_⟩; refine And.intro ⟨(by simp <;> omega), app_ok (by kernel_rfl) pf⟩ ?_; refine ⟨(l.take k ++ [(⟨nm, bal, seq⟩ : AcS)]).map acM, sv (by simp; rfl), k+1, sv pf, ?_⟩); exact hR)); (case hd => exact rfl))
   refine go1 ?_
   ((with_reducible apply gd_mem); (case hv => exact rfl); (case he => (intro R hR; refine sms hR ?_; refine And.intro ((by show headSize (cutL _ k l.length) 3 = true; rw [cut_drop]; exact head_ac _)) ?_; refine And.intro ⟨(by simp <;> omega), app_ok (by kernel_rfl) pf⟩ ?_; refine ⟨Z.map acM, sv (by rw [hfin]; show _ ++ cutL _ k l.length = _; rw [cut_drop]; simp), Z.length, sv pf, ?_⟩; exact hR)); (case hd => exact rfl))
   refine go1 ?_
   refine ⟨[_], [], [(26, Z.length)], rfl, rfl, ?_, rfl, ⟨?_, trivial⟩, ?_⟩
   ·exact ⟨by show Z.length ≤ (Z.map acM).length; simp, trivial⟩
   ·exact .inr ⟨rfl, rfl, rfl, Nat.le_of_eq (Nat.zero_add _), cut_all acM Z⟩
   ·exact mm
 ·obtain ⟨k, b, h1, h2, _⟩ := hspec.resolve_left (fun h => hf h.1)
  have hk := (List.getElem?_eq_some_iff.1 h2).1
  rw [h1] at c1 hput
  rw [if_pos (by omega), Int.toNat_natCast, Nat.zero_add] at hput
  rw [Nat.zero_add] at c1
  rw [hput]
  clear h1 h2 hspec hf hput
  rw [List.length_set]
  have f1 := SomF.mk (idx_at hk)
  have hrow : nthM (l.map acM) (0 + k) = some (acM l[k]) := by rw [nthM_eq, Nat.zero_add]; simp [hk]
  generalize l[k] = b' at hrow
  obtain ⟨nm', bal', seq'⟩ := b'
  have hrow := SomF.mk (show nthM (l.map acM) (0 + k) = some (.st [.str nm', .int .u64 bal', .int .u64 seq']) from hrow)
  refine srq seat Tryz.func94 50 ?_
  refine go1 ?_
  (iterate 3 ((all_goals (refine go1 ?_)); (all_goals (first | (refine g_call3 rfl hhq rfl (src (c1)) rfl rfl ?_) | ((first | ((with_reducible apply n_grd); (case hf => exact ⟨rfl, rfl, rfl⟩)) | ((with_reducible apply c_cond); (case he => exact rfl))); (all_goals intro h); (all_goals (try simp only [bx] at h)); (all_goals (try (exfalso; omega)))) | skip))))
  ((with_reducible apply g_mem); (case hq => exact rfl); (case hv => exact rfl); (case he => (intro R hR; refine sms hR ?_; refine And.intro ((head_ac l)) ?_; refine And.intro ⟨rfl, app_ok (by kernel_rfl) pf⟩ ?_; refine ⟨l.map acM, sv (by show [] ++ l.map acM = _; rw [List.nil_append]), l.length, sv pf, ?_⟩; exact hR)); (case hd => exact rfl))
  refine go1 ?_
  refine ⟨[_], [], [(10, l.length)], rfl, rfl, ?_, rfl, ⟨?_, trivial⟩, ?_⟩
  ·exact ⟨by show l.length ≤ (setL (l.map acM) (0 + k) _).length; rw [setL_eq]; simp, trivial⟩
  ·refine .inr ⟨rfl, rfl, rfl, Nat.le_of_eq (Nat.zero_add _), ?_⟩
   show cutL (setL (l.map acM) (0 + k) (acM ⟨nm, bal, seq⟩)) 0 (0 + l.length) = (l.set k ⟨nm, bal, seq⟩).map acM
   rw [setL_eq, Nat.zero_add, ← List.map_set, cut_take, Nat.zero_add]
   rw [List.take_of_length_le (by rw [List.length_set]; omega)]
  ·exact mm
end
section
variable {G : GS}
attribute [local irreducible] vOpsN vOpsG vOpsD vOpGD NextD vC SeqQ BlockQ
def sumG : List Nat → Nat → Nat × Bool
 | [], s => (s, true)
 | x :: r, s => if (addS s x).2 then sumG r (addS s x).1 else (0, false)
def u64s (l : List Nat) : List MV := l.map fun (n : Nat) => MV.int .u64 (n : Int)
theorem u64s_at {l : List Nat} {k : Nat} (hk : k < l.length) : idxL (u64s l) l.length (k : Int) = some (.int .u64 (l[k] : Int)) := index_at hk (by simp [u64s, hk])
theorem shrD32 (m : Nat) : ((m : Int).fdiv (2 ^ (min (32 : Int).toNat IntKind.u64.bits))) = ((m / 4294967296 : Nat) : Int) := by
 rw [show min (32 : Int).toNat IntKind.u64.bits = 32 by rfl, Int.fdiv_eq_ediv_of_nonneg _ (by decide)]
 exact (Int.natCast_ediv m 4294967296).symm
theorem and_low {m : Nat} (hm : m < 18446744073709551616) : IntKind.u64.wrap ((BitVec.ofInt IntKind.u64.bits (m : Int) &&& BitVec.ofInt IntKind.u64.bits (4294967295 : Int)).toNat : Int) = ((m % 4294967296 : Nat) : Int) := by
 have e := Nat.and_two_pow_sub_one_eq_mod m 32
 rw [BitVec.toNat_and, bv_of _ _ (show m < 2 ^ IntKind.u64.bits from hm), show (4294967295 : Int) = ((4294967295 : Nat) : Int) by rfl, bv_of _ _ (show 4294967295 < 2 ^ IntKind.u64.bits by decide), show (4294967295 : Nat) = 2 ^ 32 - 1 by rfl, e, wu64]
 omega
theorem or_low {h l : Nat} (hh : h < 4294967296) (hl : l < 4294967296) : IntKind.u64.wrap ((BitVec.ofInt IntKind.u64.bits ((h * 4294967296 : Nat) : Int) ||| BitVec.ofInt IntKind.u64.bits (l : Int)).toNat : Int) = ((h * 4294967296 + l : Nat) : Int) := by
 have e : h * 4294967296 ||| l = h * 4294967296 + l := by
  have := Nat.shiftLeft_add_eq_or_of_lt (i := 32) hl h
  rw [Nat.shiftLeft_eq] at this
  exact this.symm
 rw [BitVec.toNat_or, bv_of _ _ (show h * 4294967296 < 2 ^ IntKind.u64.bits by show _ < 18446744073709551616; omega), bv_of _ _ (show l < 2 ^ IntKind.u64.bits by show _ < 18446744073709551616; omega), e, wu64]
 omega
theorem shlD32 (m : Nat) : IntKind.u64.wrap ((m : Int) * 2 ^ (min (32 : Int).toNat IntKind.u64.bits)) = ((m % 4294967296 * 4294967296 : Nat) : Int) := by
 rw [show min (32 : Int).toNat IntKind.u64.bits = 32 by rfl, wu64]
 omega
def mulDivS (a b c : Nat) : Nat × Bool := if c = 0 ∨ c ≤ a * b / 18446744073709551616 then (0, false) else (a * b / c, true)
theorem mul_hl (a b : Nat) (ha : U64 a) (hb : U64 b) : ∃ w p q r : Nat, a / 4294967296 * (b / 4294967296) = w ∧ a % 4294967296 * (b % 4294967296) = p ∧ a / 4294967296 * (b % 4294967296) = q ∧ a % 4294967296 * (b / 4294967296) = r ∧ w < 18446744065119617026 ∧ p < 18446744065119617026 ∧ q < 18446744065119617026 ∧ r < 18446744065119617026 ∧ a * b = w * 18446744073709551616 + (q + r) * 4294967296 + p ∧ a * b / 18446744073709551616 < 18446744073709551616 := by
 unfold U64 at ha hb
 have b1 : ∀ x y : Nat, x ≤ 4294967295 → y ≤ 4294967295 → x * y < 18446744065119617026 := fun x y hx hy => by
  have := Nat.mul_le_mul hx hy
  omega
 refine ⟨_, _, _, _, rfl, rfl, rfl, rfl, b1 _ _ (by omega) (by omega), b1 _ _ (by omega) (by omega), b1 _ _ (by omega) (by omega), b1 _ _ (by omega) (by omega), ?_, ?_⟩
 ·have e1 : a = a / 4294967296 * 4294967296 + a % 4294967296 := by omega
  have e2 : b = b / 4294967296 * 4294967296 + b % 4294967296 := by omega
  generalize a / 4294967296 = x at *
  generalize a % 4294967296 = y at *
  generalize b / 4294967296 = u at *
  generalize b % 4294967296 = v at *
  subst e1
  subst e2
  rw [Nat.add_mul, Nat.mul_add, Nat.mul_add, Nat.add_mul]
  have h1 : x * 4294967296 * (u * 4294967296) = x * u * 18446744073709551616 := by rw [Nat.mul_mul_mul_comm]
  have h2 : x * 4294967296 * v = x * v * 4294967296 := by rw [Nat.mul_right_comm]
  have h3 : y * (u * 4294967296) = y * u * 4294967296 := by rw [Nat.mul_assoc]
  rw [h1, h2, h3]
  omega
 ·rw [Nat.div_lt_iff_lt_mul (by omega)]
  have := Nat.mul_le_mul (show a ≤ 18446744073709551615 by omega) (show b ≤ 18446744073709551615 by omega)
  omega
theorem product_m (a b : Nat) (ha : U64 a) (hb : U64 b) : SemC Tryz.prog G 146 [.int .u64 a, .int .u64 b] (.tup [.int .u64 (a * b / 18446744073709551616 : Nat), .int .u64 (a * b % 18446744073709551616 : Nat)]) := by
 obtain ⟨w, p, q, r, hw, hp, hq, hr, bw, bp, bq, br, hab, hhi⟩ := mul_hl a b ha hb
 unfold U64 at ha hb
 have mk : ∀ x y z : Nat, x * y = z → z < 18446744065119617026 → IntKind.u64.wrap ((x : Int) * (y : Int)) = (z : Int) := fun x y z h hz => by
  rw [← Int.natCast_mul, h]
  exact wrapu_in _ (by omega) (by omega)
 have m1 := EqF.mk (mk _ _ _ hw bw)
 have m2 := EqF.mk (mk _ _ _ hp bp)
 have m3 := EqF.mk (mk _ _ _ hq bq)
 have m4 := EqF.mk (mk _ _ _ hr br)
 have s1 := EqF.mk (shrD32 a)
 have s2 := EqF.mk (shrD32 b)
 have s3 := EqF.mk (shrD32 p)
 have s4 := EqF.mk (shrD32 q)
 have s5 := EqF.mk (shrD32 r)
 have l1 := EqF.mk (and_low (m := a) ha)
 have l2 := EqF.mk (and_low (m := b) hb)
 have l3 := EqF.mk (and_low (m := p) (by omega))
 have l4 := EqF.mk (and_low (m := q) (by omega))
 have l5 := EqF.mk (and_low (m := r) (by omega))
 clear hw hp hq hr mk
 generalize a * b = n at *
 subst hab
 have hm : p / 4294967296 + q % 4294967296 + r % 4294967296 < 18446744073709551616 := by omega
 have a1 := EqF.mk (show IntKind.u64.wrap (((p / 4294967296 : Nat) : Int) + ((q % 4294967296 : Nat) : Int)) = ((p / 4294967296 + q % 4294967296 : Nat) : Int) from wrapu_in _ (by omega) (by omega))
 have a2 := EqF.mk (show IntKind.u64.wrap (((p / 4294967296 + q % 4294967296 : Nat) : Int) + ((r % 4294967296 : Nat) : Int)) = ((p / 4294967296 + q % 4294967296 + r % 4294967296 : Nat) : Int) from wrapu_in _ (by omega) (by omega))
 have s6 := EqF.mk (shrD32 (p / 4294967296 + q % 4294967296 + r % 4294967296))
 have s7 := EqF.mk (shlD32 (p / 4294967296 + q % 4294967296 + r % 4294967296))
 have o1 := EqF.mk (or_low (h := (p / 4294967296 + q % 4294967296 + r % 4294967296) % 4294967296) (l := p % 4294967296) (by omega) (by omega))
 refine scq seat Tryz.func146 56 ?_
 refine go1 ?_
 (iterate 4 ((all_goals (refine go1 ?_)); (all_goals (first | ((first | ((with_reducible apply n_grd); (case hf => exact ⟨rfl, rfl, rfl⟩)) | ((with_reducible apply c_cond); (case he => exact rfl))); (all_goals intro h); (all_goals (try simp only [bx] at h)); (all_goals (try (exfalso; omega)))) | skip))))
 all_goals (refine go0 ?_)
 refine congrArg MV.tup ?_
 refine List.cons_eq_cons.2 ⟨congrArg (MV.int .u64) ?_, List.cons_eq_cons.2 ⟨congrArg (MV.int .u64) ?_, rfl⟩⟩
 ·omega
 ·omega
theorem shr63 (m : Nat) : ((m : Int).fdiv (2 ^ (min (63 : Int).toNat IntKind.u64.bits))) = ((m / 9223372036854775808 : Nat) : Int) := by
 rw [show min (63 : Int).toNat IntKind.u64.bits = 63 by rfl, Int.fdiv_eq_ediv_of_nonneg _ (by decide)]
 exact (Int.natCast_ediv m 9223372036854775808).symm
theorem shri (m : Nat) {i : Nat} (hi : i < 64) : ((m : Int).fdiv (2 ^ (min (i : Int).toNat IntKind.u64.bits))) = ((m / 2 ^ i : Nat) : Int) := by
 rw [show min (i : Int).toNat IntKind.u64.bits = i by rw [Int.toNat_natCast]; exact Nat.min_eq_left (Nat.le_of_lt hi), Int.fdiv_eq_ediv_of_nonneg _ (by exact Int.le_of_lt (Int.pow_pos (by decide)))]
 rw [Int.natCast_ediv, Int.natCast_pow]; rfl
theorem and1 {m : Nat} (hm : m < 18446744073709551616) : IntKind.u64.wrap ((BitVec.ofInt IntKind.u64.bits (m : Int) &&& BitVec.ofInt IntKind.u64.bits (1 : Int)).toNat : Int) = ((m % 2 : Nat) : Int) := by
 have e := Nat.and_two_pow_sub_one_eq_mod m 1
 rw [BitVec.toNat_and, bv_of _ _ (show m < 2 ^ IntKind.u64.bits from hm), show (1 : Int) = ((1 : Nat) : Int) by rfl, bv_of _ _ (show 1 < 2 ^ IntKind.u64.bits by decide), show (1 : Nat) = 2 ^ 1 - 1 by rfl, e, wu64]
 omega
theorem shl1_64 (m : Nat) : IntKind.u64.wrap ((m : Int) * 2 ^ (min (1 : Int).toNat IntKind.u64.bits)) = ((2 * m % 18446744073709551616 : Nat) : Int) := by
 rw [show min (1 : Int).toNat IntKind.u64.bits = 1 by rfl, wu64]
 omega
theorem or_bit {m b : Nat} (hm : m % 2 = 0) (hb : b < 2) (h : m < 18446744073709551616) : IntKind.u64.wrap ((BitVec.ofInt IntKind.u64.bits (m : Int) ||| BitVec.ofInt IntKind.u64.bits (b : Int)).toNat : Int) = ((m + b : Nat) : Int) := by
 have e : m ||| b = m + b := by
  have := Nat.shiftLeft_add_eq_or_of_lt (i := 1) hb (m / 2)
  rw [Nat.shiftLeft_eq, show m / 2 * 2 ^ 1 = m by omega] at this
  exact this.symm
 rw [BitVec.toNat_or, bv_of _ _ (show m < 2 ^ IntKind.u64.bits from h), bv_of _ _ (show b < 2 ^ IntKind.u64.bits by show _ < 18446744073709551616; omega), e, wu64]
 omega
theorem or_one {m : Nat} (hm : m % 2 = 0) (h : m < 18446744073709551616) : IntKind.u64.wrap ((BitVec.ofInt IntKind.u64.bits (m : Int) ||| BitVec.ofInt IntKind.u64.bits (1 : Int)).toNat : Int) = ((m + 1 : Nat) : Int) := or_bit (b := 1) hm (by omega) h
theorem md_step {N c i out rest bit : Nat} (hb : N / 2 ^ i % 2 = bit) (h : N / 2 ^ (i + 1) = c * out + rest) : N / 2 ^ i = c * (2 * out) + (2 * rest + bit) := by
 have e : N / 2 ^ (i + 1) = N / 2 ^ i / 2 := by rw [Nat.pow_succ, Nat.div_div_eq_div_mul]
 rw [e] at h
 rw [show c * (2 * out) = 2 * (c * out) by rw [Nat.mul_left_comm]]
 omega
theorem low_bit (N : Nat) {i : Nat} (hi : i < 64) : N % 18446744073709551616 / 2 ^ i % 2 = N / 2 ^ i % 2 := by
 have h1 := Nat.testBit_mod_two_pow N 64 i
 rw [Nat.testBit_eq_decide_div_mod_eq, Nat.testBit_eq_decide_div_mod_eq, decide_eq_true hi, Bool.true_and, decide_eq_decide] at h1
 have e : (2 : Nat) ^ 64 = 18446744073709551616 := by rfl
 rw [e] at h1
 omega
theorem mulDiv_m (a b c : Nat) (ha : U64 a) (hb : U64 b) (hc : U64 c) : SemC Tryz.prog G 92 [.int .u64 a, .int .u64 b, .int .u64 c] (.tup [.int .u64 (mulDivS a b c).1, .bool (mulDivS a b c).2]) := by
 have c1 := product_m (G := G) a b ha hb
 obtain ⟨_, _, _, _, _, _, _, _, _, _, _, _, _, hhi⟩ := mul_hl a b ha hb
 unfold U64 at ha hb hc
 generalize hr : mulDivS a b c = r
 obtain ⟨R, okk⟩ := r
 dsimp only
 unfold mulDivS at hr
 have hlow := fun i hi => low_bit (a * b) (i := i) hi
 have hlt : (a * b) % 18446744073709551616 < 18446744073709551616 := Nat.mod_lt _ (by omega)
 by_cases h0 : c = 0 ∨ c ≤ a * b / 18446744073709551616
 ·rw [if_pos h0] at hr
  simp only [Prod.mk.injEq] at hr
  obtain ⟨rfl, rfl⟩ := hr
  generalize a * b / 18446744073709551616 = hi at *
  refine scq seat Tryz.func92 54 ?_
  refine go1 ?_
  (iterate 6 ((all_goals (refine go1 ?_)); (all_goals (first | (refine g_call3 rfl hhq rfl (src (c1)) rfl rfl ?_) | ((with_reducible apply n_grd); (case hf => exact ⟨rfl, rfl, rfl⟩); (all_goals intro h); (all_goals (try simp only [beq_iff_eq, ne_eq, Bool.not_false, beq_eq_false_iff_ne] at h)); (all_goals (try (exfalso; omega)))) | ((with_reducible apply c_cond); (case he => exact rfl); (all_goals intro h); (all_goals (try simp only [decide_eq_true_eq, decide_eq_false_iff_not] at h)); (all_goals (try (exfalso; omega)))) | skip))))
  all_goals (refine go0 ?_)
  all_goals rfl
 ·rw [if_neg h0] at hr
  simp only [Prod.mk.injEq] at hr
  obtain ⟨rfl, rfl⟩ := hr
  have hbig : a * b < 18446744073709551616 * c := by rw [Nat.mul_comm 18446744073709551616 c]; exact (Nat.div_lt_iff_lt_mul (by omega)).1 (by omega)
  generalize a * b = N at *
  generalize hhi' : N / 18446744073709551616 = hi at *
  generalize N % 18446744073709551616 = low at *
  have hi0 : N / 2 ^ 64 = c * 0 + hi := by rw [Nat.mul_zero, Nat.zero_add]; exact hhi'
  have hc0 : 0 < c := by omega
  refine scq seat Tryz.func92 54 ?_
  refine go1 ?_
  (iterate 6 ((all_goals (refine go1 ?_)); (all_goals (first | (refine g_call3 rfl hhq rfl (src (c1)) rfl rfl ?_) | ((with_reducible apply n_grd); (case hf => exact ⟨rfl, rfl, rfl⟩); (all_goals intro h); (all_goals (try simp only [beq_iff_eq, ne_eq, Bool.not_false, beq_eq_false_iff_ne] at h)); (all_goals (try (exfalso; omega)))) | ((with_reducible apply c_cond); (case he => exact rfl); (all_goals intro h); (all_goals (try simp only [decide_eq_true_eq, decide_eq_false_iff_not] at h)); (all_goals (try (exfalso; omega)))) | skip))))
  refine c_loop (Nat × Nat × Nat) (fun x => [(11, .int .i64 ((x.1 : Int) - 1)), (10, .int .u64 x.2.2), (9, .int .u64 low), (8, .int .u64 x.2.1), (2, .int .u64 c)]) (fun _ => []) 0 (fun x => x.1 ≤ 64 ∧ x.2.1 < c ∧ N / 2 ^ x.1 = c * x.2.2 + x.2.1) (fun x => x.1) (64, hi, 0) ⟨by dsimp only; omega, by dsimp only; omega, hi0⟩ (by dsimp only; exact (vm [] [])) ?_
  rintro ⟨j, rest, out⟩ ⟨hj, hrest, hq⟩
  try dsimp only
  dsimp only at hj hrest hq
  cases j with
  | zero =>
   rw [Nat.pow_zero, Nat.div_one] at hq
   have hout : N / c = out := by rw [hq, Nat.mul_add_div hc0, Nat.div_eq_of_lt hrest, Nat.add_zero]
   rw [hout]
   refine go1 ?_
   (iterate 4 ((all_goals (refine go1 ?_)); (all_goals (first | ((first | ((with_reducible apply n_grd); (case hf => exact ⟨rfl, rfl, rfl⟩)) | ((with_reducible apply c_cond); (case he => exact rfl))); (all_goals intro h); (all_goals (try simp only [bx] at h)); (all_goals (try (exfalso; omega)))) | skip))))
   all_goals (refine go0 ?_)
   all_goals rfl
  | succ i =>
   have hi6 : i < 64 := by omega
   have hcast : ((i + 1 : Nat) : Int) - 1 = (i : Int) := by omega
   rw [hcast]
   obtain ⟨bit, hbit⟩ : ∃ bit, bit = low / 2 ^ i % 2 := ⟨_, rfl⟩
   have hb2 : bit < 2 := by omega
   have hstep := md_step (bit := bit) (by rw [hbit]; exact (hlow i hi6).symm) hq
   have hsm : low / 2 ^ i < 18446744073709551616 := Nat.lt_of_le_of_lt (Nat.div_le_self _ _) hlt
   have e1 := EqF.mk (shr63 rest)
   have e2 := EqF.mk (shl1_64 rest)
   have e3 := EqF.mk (shri low hi6)
   have e4 := EqF.mk (and1 hsm)
   rw [← hbit] at e4
   have e5 := EqF.mk (or_bit (m := 2 * rest % 18446744073709551616) (by omega) hb2 (by omega))
   have e6 := EqF.mk (shl1_64 out)
   have hcap : ∀ o r, N / 2 ^ i = c * o + r → o < 18446744073709551616 := fun o r h => by
    have h1 : N / 2 ^ i ≤ N := Nat.div_le_self _ _
    refine Nat.lt_of_mul_lt_mul_left (a := c) ?_
    rw [Nat.mul_comm c 18446744073709551616]
    omega
   have ho := hcap _ _ hstep
   by_cases hge : c ≤ 2 * rest + bit
   ·have h2 : N / 2 ^ i = c * (2 * out + 1) + (2 * rest + bit - c) := by rw [hstep, Nat.mul_add, Nat.mul_one]; omega
    have ho2 := hcap _ _ h2
    have e7 := EqF.mk (show IntKind.u64.wrap (((2 * rest % 18446744073709551616 + bit : Nat) : Int) - (c : Int)) = ((2 * rest + bit - c : Nat) : Int) by rw [wu64]; omega)
    have e8 := EqF.mk (or_one (m := 2 * out % 18446744073709551616) (by omega) (by omega))
    have e9 : 2 * out % 18446744073709551616 + 1 = 2 * out + 1 := by omega
    rw [e9] at e8
    have hlt2 : 2 * rest + bit - c < c := by omega
    clear hlow hbit hstep hcap hq
    generalize 2 * rest + bit - c = r2 at *
    generalize 2 * out + 1 = o2 at *
    refine go1 ?_
    (iterate 6 ((all_goals (refine go1 ?_)); (all_goals (first | ((with_reducible apply n_grd); (case hf => exact ⟨rfl, rfl, rfl⟩); (all_goals intro h); (all_goals (try simp only [beq_iff_eq, ne_eq, Bool.not_false, beq_eq_false_iff_ne] at h)); (all_goals (try (exfalso; omega)))) | ((with_reducible apply c_cond); (case he => exact rfl); (all_goals intro h); (all_goals (try simp only [decide_eq_true_eq, decide_eq_false_iff_not] at h)); (all_goals (try (exfalso; omega)))) | skip))))
    all_goals (exact ⟨(i, r2, o2), ⟨by dsimp only; omega, hlt2, h2⟩, by dsimp only; omega, (by dsimp only; exact (vm [] []))⟩)
   ·have e9 : 2 * out % 18446744073709551616 = 2 * out := by omega
    rw [e9] at e6
    have e10 : 2 * rest % 18446744073709551616 + bit = 2 * rest + bit := by omega
    rw [e10] at e5
    clear hlow hbit hcap hq
    refine go1 ?_
    (iterate 6 ((all_goals (refine go1 ?_)); (all_goals (first | ((with_reducible apply n_grd); (case hf => exact ⟨rfl, rfl, rfl⟩); (all_goals intro h); (all_goals (try simp only [beq_iff_eq, ne_eq, Bool.not_false, beq_eq_false_iff_ne] at h)); (all_goals (try (exfalso; omega)))) | ((with_reducible apply c_cond); (case he => exact rfl); (all_goals intro h); (all_goals (try simp only [decide_eq_true_eq, decide_eq_false_iff_not] at h)); (all_goals (try (exfalso; omega)))) | skip))))
    all_goals (exact ⟨(i, 2 * rest + bit, 2 * out), ⟨by dsimp only; omega, by dsimp only; omega, hstep⟩, by dsimp only; omega, (by dsimp only; exact (vm [] []))⟩)
def prioS (fee gas : Nat) : Nat := if gas = 0 then 0 else if (mulDivS fee 1000 gas).2 then (mulDivS fee 1000 gas).1 else 18446744073709551615
end
section
variable {G : GS}
attribute [local irreducible] vOpsN vOpsG vOpsD vOpGD NextD vC SeqQ BlockQ
theorem sum_m (l : List Nat) (hl : l.length ≤ 1000000) (hs : ∀ a ∈ l, U64 a) : SemC Tryz.prog G 93 [.sl l.length (u64s l)] (.tup [.int .u64 (sumG l 0).1, .bool (sumG l 0).2]) := by
 generalize hr : sumG l 0 = r
 obtain ⟨R, okk⟩ := r
 dsimp only
 refine scq seat Tryz.func93 26 ?_
 refine go1 ?_
 refine c_loop (Nat × Nat) (fun x => [(11, .int .i64 x.1), (10, .int .i64 l.length), (9, .sl l.length (u64s l)), (4, .int .u64 x.2)]) (fun _ => []) 0 (fun x => x.1 ≤ l.length ∧ U64 x.2 ∧ sumG (l.drop x.1) x.2 = (R, okk)) (fun x => l.length - x.1) (0, 0) ⟨Nat.zero_le _, by unfold U64; omega, by rw [List.drop_zero]; exact hr⟩ (by dsimp only; exact (vm [] [])) ?_
 rintro ⟨k, s⟩ ⟨hk, hsU, hR⟩
 try dsimp only
 dsimp only at hk hsU hR
 refine go1 ?_
 (refine c_cond rfl ?_ ?_ <;> intro h)
 ·have hk' : k < l.length := by have := of_decide_eq_true h; omega
  have hel := u64s_at hk'
  have hb := hs _ (List.getElem_mem hk')
  rw [List.drop_eq_getElem_cons hk', sumG] at hR
  generalize l[k] = a at *
  have hel := SomF.mk hel
  have c1 := add_m (G := G) s a hsU hb
  have hU := @addS_u64 s a
  generalize addS s a = p at *
  obtain ⟨v, b⟩ := p
  dsimp only at c1 hR hU
  cases b with
  | true =>
   rw [if_pos rfl] at hR
   refine go1 ?_
   (iterate 6 ((all_goals (refine go1 ?_)); (all_goals (first | (refine g_call3 rfl hhq rfl (src (c1)) rfl rfl ?_) | ((first | ((with_reducible apply n_grd); (case hf => exact ⟨rfl, rfl, rfl⟩)) | ((with_reducible apply c_cond); (case he => exact rfl))); (all_goals intro h); (all_goals (try simp only [bx] at h)); (all_goals (try (exfalso; omega)))) | skip))))
   exact ⟨(k + 1, v), ⟨by show k + 1 ≤ l.length; omega, hU, hR⟩, by show l.length - (k + 1) < l.length - k; omega, (by dsimp only; exact (vm [] []))⟩
  | false =>
   rw [if_neg (by simp)] at hR
   simp only [Prod.mk.injEq] at hR
   obtain ⟨rfl, rfl⟩ := hR
   refine go1 ?_
   (iterate 6 ((all_goals (refine go1 ?_)); (all_goals (first | (refine g_call3 rfl hhq rfl (src (c1)) rfl rfl ?_) | ((first | ((with_reducible apply n_grd); (case hf => exact ⟨rfl, rfl, rfl⟩)) | ((with_reducible apply c_cond); (case he => exact rfl))); (all_goals intro h); (all_goals (try simp only [bx] at h)); (all_goals (try (exfalso; omega)))) | skip))))
   all_goals (refine go0 ?_)
   all_goals rfl
 ·have hk' : k = l.length := by have := of_decide_eq_false h; omega
  subst hk'
  rw [List.drop_length, sumG] at hR
  simp only [Prod.mk.injEq] at hR
  obtain ⟨rfl, rfl⟩ := hR
  refine go1 ?_
  refine go0 ?_
  rfl
theorem prio_m (fee gas : Nat) (h1 : U64 fee) (h2 : U64 gas) : SemC Tryz.prog G 53 [.int .u64 fee, .int .u64 gas] (.int .u64 (prioS fee gas)) := by
 have c1 := mulDiv_m (G := G) fee 1000 gas h1 (by unfold U64; omega) h2
 unfold prioS
 generalize mulDivS fee 1000 gas = p at *
 obtain ⟨v, b⟩ := p
 dsimp only at c1 ⊢
 by_cases hg : gas = 0
 ·subst hg
  rw [if_pos rfl]
  refine scq seat Tryz.func53 17 ?_
  refine go1 ?_
  (iterate 6 ((all_goals (refine go1 ?_)); (all_goals (first | (refine g_call3 rfl hhq rfl (src (c1)) rfl rfl ?_) | ((first | ((with_reducible apply n_grd); (case hf => exact ⟨rfl, rfl, rfl⟩)) | ((with_reducible apply c_cond); (case he => exact rfl))); (all_goals intro h); (all_goals (try simp only [bx] at h)); (all_goals (try (exfalso; omega)))) | skip))))
  all_goals (refine go0 ?_)
  all_goals rfl
 ·rw [if_neg hg]
  cases b with
  | true =>
   rw [if_pos rfl]
   refine scq seat Tryz.func53 17 ?_
   refine go1 ?_
   (iterate 6 ((all_goals (refine go1 ?_)); (all_goals (first | (refine g_call3 rfl hhq rfl (src (c1)) rfl rfl ?_) | ((with_reducible apply n_grd); (case hf => exact ⟨rfl, rfl, rfl⟩); (all_goals intro h); (all_goals (try simp only [bx] at h)); (all_goals (try (exfalso; omega)))) | ((with_reducible apply c_cond); (case he => exact rfl); (all_goals intro h); (all_goals (try simp only [beq_iff_eq, ne_eq, beq_eq_false_iff_ne] at h)); (all_goals (try (exfalso; omega)))) | skip))))
   all_goals (refine go0 ?_)
   all_goals rfl
  | false =>
   rw [if_neg (by simp)]
   refine scq seat Tryz.func53 17 ?_
   refine go1 ?_
   (iterate 6 ((all_goals (refine go1 ?_)); (all_goals (first | (refine g_call3 rfl hhq rfl (src (c1)) rfl rfl ?_) | ((with_reducible apply n_grd); (case hf => exact ⟨rfl, rfl, rfl⟩); (all_goals intro h); (all_goals (try simp only [bx] at h)); (all_goals (try (exfalso; omega)))) | ((with_reducible apply c_cond); (case he => exact rfl); (all_goals intro h); (all_goals (try simp only [beq_iff_eq, ne_eq, beq_eq_false_iff_ne] at h)); (all_goals (try (exfalso; omega)))) | skip))))
   all_goals (refine go0 ?_)
   all_goals rfl
theorem need_m (a b : Nat) (ha : U64 a) (hb : U64 b) : SemC Tryz.prog G 91 [.int .u64 a, .int .u64 b] (.tup [.int .u64 (mulS a b).1, .bool (mulS a b).2]) := by
 have c1 := mul_m (G := G) a b ha hb
 generalize mulS a b = p at *
 obtain ⟨v, b⟩ := p
 dsimp only at c1 ⊢
 refine scq seat Tryz.func91 11 ?_
 refine go1 ?_
 (iterate 6 ((all_goals (refine go1 ?_)); (all_goals (first | (refine g_call3 rfl hhq rfl (src (c1)) rfl rfl ?_) | ((first | ((with_reducible apply n_grd); (case hf => exact ⟨rfl, rfl, rfl⟩)) | ((with_reducible apply c_cond); (case he => exact rfl))); (all_goals intro h); (all_goals (try simp only [bx] at h)); (all_goals (try (exfalso; omega)))) | skip))))
 all_goals (refine go0 ?_)
 all_goals rfl
theorem sizeVar_m (n : Nat) (hn : U64 n) : SemC Tryz.prog G 109 [.int .u64 n] (.int .i64 (varS n).length) := by
 have c1 := varint_r (G := G) [] n (by simp) hn
 rw [List.nil_append, List.length_nil, Nat.zero_add] at c1
 refine scq seat Tryz.func109 6 ?_
 refine go1 ?_
 refine g_callR1 rfl hhq rfl (c1) [] [] ⟨rfl, trivial, rfl, lm, mm⟩ rfl rfl ?_
 refine go1 ?_
 refine go0 ?_
 rfl
def wireB (n : Nat) : Nat := 1 + (varS n).length + n
theorem wireB_le {n : Nat} (h : U64 n) : wireB n ≤ n + 11 := by
 have := (varS_len10 h).2
 unfold wireB
 omega
theorem wireB_m (n : Nat) (hn : n < 4611686018427387904) : SemC Tryz.prog G 70 [.int .i64 n] (.int .i64 (wireB n)) := by
 have c1 := sizeVar_m (G := G) n (by unfold U64; omega)
 have h2 := (varS_len10 (n := n) (by omega)).2
 unfold wireB
 generalize (varS n).length = v at *
 have hw := EqF.mk (show IntKind.u64.wrap (n : Int) = (n : Int) from wrapu_in _ (by omega) (by omega))
 refine scq seat Tryz.func70 11 ?_
 refine go1 ?_
 (iterate 6 ((all_goals (refine go1 ?_)); (all_goals (first | (refine g_call3 rfl hhq rfl (src (c1)) rfl rfl ?_) | ((first | ((with_reducible apply n_grd); (case hf => exact ⟨rfl, rfl, rfl⟩)) | ((with_reducible apply c_cond); (case he => exact rfl))); (all_goals intro h); (all_goals (try simp only [bx] at h)); (all_goals (try (exfalso; omega)))) | skip))))
 all_goals (refine go0 ?_)
 all_goals (refine congrArg (MV.int .i64) ?_; omega)
theorem hasInt_m (l : List Int) (n : Int) (hl : l.length < 1000000000) : SemC Tryz.prog G 159 [intsM l, .int .i64 n] (.bool (decide (n ∈ l))) := by
 generalize hr : decide (n ∈ l) = R
 unfold intsM
 refine scq seat Tryz.func159 17 ?_
 refine go1 ?_
 refine c_loop Nat (fun k => [(9, .int .i64 k), (8, .int .i64 l.length), (7, .sl l.length (l.map (MV.int .i64))), (1, .int .i64 n)]) (fun _ => []) 0 (fun k => k ≤ l.length ∧ decide (n ∈ l.drop k) = R) (fun k => l.length - k) 0 ⟨Nat.zero_le _, by rw [List.drop_zero]; exact hr⟩ (vm [] []) ?_
 rintro k ⟨hk, hR⟩
 try dsimp only
 refine go1 ?_
 (refine c_cond rfl ?_ ?_ <;> intro h)
 ·have hk' : k < l.length := by have := of_decide_eq_true h; omega
  have hel := intsM_at hk'
  rw [List.drop_eq_getElem_cons hk'] at hR
  generalize l[k] = a at *
  have hel := SomF.mk hel
  by_cases he : a = n
  ·subst he
   have : R = true := by rw [← hR]; simp
   subst this
   refine goe1 ?_
   refine go0 ?_
   rfl
  ·have hR2 : decide (n ∈ l.drop (k + 1)) = R := by rw [← hR]; simp [Ne.symm he]
   refine go1 ?_
   (refine c_cond rfl ?_ ?_ <;> intro h)
   ·exact absurd (eq_of_beq h) he
   ·refine go1 ?_
    exact ⟨k + 1, ⟨by show k + 1 ≤ l.length; omega, hR2⟩, by show l.length - (k + 1) < l.length - k; omega, (by dsimp only; exact (vm [] []))⟩
 ·have hk' : k = l.length := by have := of_decide_eq_false h; omega
  subst hk'
  rw [List.drop_length] at hR
  have : R = false := by rw [← hR]; simp
  subst this
  refine go1 ?_
  refine go0 ?_
  rfl
def rawsM (l : List (List UInt8)) : MV := .sl l.length (l.map rawM)
theorem sameLists_m (a b : List (List UInt8)) (ha : a.length < 1000000000) (_hb : b.length < 1000000000) : SemC Tryz.prog G 22 [rawsM a, rawsM b] (.bool (decide (a = b))) := by
 generalize hr : decide (a = b) = R
 unfold rawsM
 by_cases hlen : a.length = b.length
 ·refine scq seat Tryz.func22 27 ?_
  refine go1 ?_
  (iterate 2 ((all_goals (refine go1 ?_)); (all_goals (first | ((with_reducible apply n_grd); (case hf => exact ⟨rfl, rfl, rfl⟩); (all_goals intro h); (all_goals (try simp only [bx] at h)); (all_goals (try (exfalso; omega)))) | ((with_reducible apply c_cond); (case he => exact rfl); (all_goals intro h); (all_goals (try simp only [bne_iff_ne, ne_eq, bne_eq_false_iff_eq] at h)); (all_goals (try (exfalso; omega)))) | skip))))
  refine c_loop Nat (fun k => [(13, .int .i64 k), (12, .int .i64 a.length), (1, .sl b.length (b.map rawM)), (0, .sl a.length (a.map rawM))]) (fun _ => []) 0 (fun k => k ≤ a.length ∧ decide (a.drop k = b.drop k) = R) (fun k => a.length - k) 0 ⟨Nat.zero_le _, by rw [List.drop_zero, List.drop_zero]; exact hr⟩ (vm [] []) ?_
  rintro k ⟨hk, hR⟩
  try dsimp only
  refine go1 ?_
  (refine c_cond rfl ?_ ?_ <;> intro h)
  ·have hk' : k < a.length := by have := of_decide_eq_true h; omega
   have hk2 : k < b.length := by omega
   have h1 := raws_at hk'
   have h2 := raws_at hk2
   rw [List.drop_eq_getElem_cons hk', List.drop_eq_getElem_cons hk2] at hR
   generalize a[k] = x at *
   generalize b[k] = y at *
   have h1 : idxL (a.map rawM) a.length (k : Int) = some (.sl x.length (u8s x)) := h1
   have h2 : idxL (b.map rawM) b.length (k : Int) = some (.sl y.length (u8s y)) := h2
   have h1 := SomF.mk h1
   have h2 := SomF.mk h2
   have c1 := sameB_m (G := G) x y
   refine go1 ?_
   refine c_draw [(0, false), (1, false), (2, false), (3, false), (4, false), (5, false), (6, false), (7, false), (8, true), (9, false)] ?_
   refine go1 ?_
   refine gd_call1 rfl hhq rfl [] (src (c1)) rfl [] trivial lm rfl ?_
   have hxy : (x == y) = true ↔ x = y := by simp
   generalize (x == y) = e at *
   cases e with
   | true =>
    have hxy := hxy.1 rfl
    subst hxy
    have hR2 : decide (a.drop (k + 1) = b.drop (k + 1)) = R := by rw [← hR]; simp
    refine go1 ?_
    exact ⟨k + 1, ⟨by show k + 1 ≤ a.length; omega, hR2⟩, by show a.length - (k + 1) < a.length - k; omega, (by dsimp only; exact (vm [] []))⟩
   | false =>
    have : R = false := by rw [← hR]; simp; exact fun e => absurd (hxy.2 e) (by simp)
    subst this
    refine go1 ?_
    refine go0 ?_
    rfl
  ·have hk' : k = a.length := by have := of_decide_eq_false h; omega
   have : R = true := by rw [← hR, hk', List.drop_length, hlen, List.drop_length]; simp
   subst this
   refine go1 ?_
   refine go0 ?_
   rfl
 ·have : R = false := by rw [← hr]; simp; exact fun e => hlen (by rw [e])
  subst this
  refine scq seat Tryz.func22 27 ?_
  refine go1 ?_
  (iterate 2 ((all_goals (refine go1 ?_)); (all_goals (first | ((with_reducible apply n_grd); (case hf => exact ⟨rfl, rfl, rfl⟩); (all_goals intro h); (all_goals (try simp only [bx] at h)); (all_goals (try (exfalso; omega)))) | ((with_reducible apply c_cond); (case he => exact rfl); (all_goals intro h); (all_goals (try simp only [bne_iff_ne, ne_eq, bne_eq_false_iff_eq] at h)); (all_goals (try (exfalso; omega)))) | skip))))
  all_goals (refine go0 ?_)
  all_goals rfl
end
end Go.Proofs.YtoagomdghimlbaaGreat
