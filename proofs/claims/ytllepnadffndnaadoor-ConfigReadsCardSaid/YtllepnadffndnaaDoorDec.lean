/- The reference's decimal text. -/
import Derived.Test.YtllepnadffndnaaDoorSeat
import Derived.Test.YtllepnadffndnaaDoorSlice
import Derived.Lib.ItoaNum
import Derived.Lib.Builder
namespace Go.Proofs.YtllepnadffndnaaDoor
open Go.RowKit

theorem wrap_u64 (n : Int) (h1 : 0 ≤ n) (h2 : n < 18446744073709551616) : IntKind.u64.wrap n = n := by
  simp only [IntKind.wrap, IntKind.bits, IntKind.signed]
  simp
  omega
theorem wrap_u8 (n : Int) (h1 : 0 ≤ n) (h2 : n < 256) : IntKind.u8.wrap n = n := by
  simp only [IntKind.wrap, IntKind.bits, IntKind.signed]
  simp
  omega
theorem ba_app (a b : List UInt8) : (⟨a.toArray⟩ ++ ⟨b.toArray⟩ : ByteArray) = ⟨(a ++ b).toArray⟩ := by
  apply ByteArray.ext; simp
theorem decDigits_short (u : Nat) : (Lib.decDigits u).length ≤ 1 + u / 10 := by
  induction u using Nat.strongRecOn with
  | _ u ih =>
    rw [Lib.decDigits]
    by_cases h : u < 10
    · simp [h]
    · have := ih (u / 10) (by omega)
      simp [h]
      omega

theorem unsigned_c (n : Nat) (hn : n < 18446744073709551616) (w : World) :
    Calls Tryd.prog 26 #[.int .u64 n] w fun e w' => e = .returned (.string ⟨(Lib.decDigits n).toArray⟩) ∧ Below w.heap.size w w' := by
  refine calls_of_vc seat Tryd.func26 rfl rfl (Nat.le_of_ble_eq_true rfl) (N := 17) (args := [.val (.int .u64 n)]) (Nat.le_of_ble_eq_true rfl) rfl (A.start w) ?_
  refine ⟨Nat × List UInt8, fun x => [(0, .val (.int .u64 x.1)), (3, .val (.string ⟨x.2.toArray⟩))], fun _ => [], fun _ => [(w, fun _ => False)], fun x => x.1 < 18446744073709551616 ∧ Lib.decDigits x.1 ++ x.2 = Lib.decDigits n, fun x => x.1, ?_, ?_⟩
  · intro w1 hA
    exact ⟨(n, []), ⟨hn, by simp⟩, ⟨⟨_, rfl, rfl⟩, ⟨_, rfl, rfl⟩, trivial⟩, hA⟩
  rintro ⟨m, s⟩ ⟨hm, hs⟩
  have hm : m < 18446744073709551616 := hm
  have hs : Lib.decDigits m ++ s = Lib.decDigits n := hs
  have hlen : s.length ≤ 1 + n / 10 := by
    have h1 := decDigits_short n
    rw [← hs, List.length_append] at h1
    omega
  refine ⟨by omega, ((m % 10 : Nat) : Int), by rw [Int.tmod_eq_emod_of_nonneg (by omega)]; omega, ?_⟩
  refine ⟨((48 + m % 10 : Nat) : Int), by rw [wrap_u64 _ (by omega) (by omega)]; omega, ?_⟩
  refine ⟨((48 + m % 10 : Nat) : Int), wrap_u8 _ (by omega) (by omega), ?_⟩
  refine ⟨⟨rfl, trivial⟩, ?_⟩
  intro g _
  have hdig : ((UInt8.ofNat (48 + m % 10)).toNat : Int) = ((48 + m % 10 : Nat) : Int) := by
    rw [UInt8.toNat_ofNat']
    omega
  refine ⟨.string ⟨[UInt8.ofNat (48 + m % 10)].toArray⟩, fun w' hA => run_convert_bytes_back w' 38 9 5 ⟨g, 0, none⟩ 1 [UInt8.ofNat (48 + m % 10)] Tryd.underlying38 Tryd.underlying5 Tryd.underlying9 (fun j hj => ?_), ?_⟩
  · have hj0 : j = 0 := by simpa using hj
    subst hj0
    rw [show (⟨g, 0, none⟩ : Addr).add 0 = ⟨g, 0, none⟩ from rfl, hA.cellAt 0 rfl rfl rfl]
    simp only [List.getElem_cons_zero, hdig]
    rfl
  refine ⟨by simp [ByteArray.size]; omega, ?_⟩
  refine ⟨by omega, ((m / 10 : Nat) : Int), ?_, ?_⟩
  · rw [Int.tdiv_eq_ediv_of_nonneg (by omega), wrap_u64 _ (by omega) (by omega)]
    omega
  refine ⟨fun h => ?_, fun h => ?_⟩
  · intro w' hA
    have h0 : ((m / 10 : Nat) : Int) = 0 := by simpa using h
    refine ⟨?_, hA.bel (by simp)⟩
    have hm10 : m < 10 := by omega
    have hs' : [UInt8.ofNat (48 + m % 10)] ++ s = Lib.decDigits n := by
      rw [← hs, Lib.decDigits, dif_pos hm10, Nat.mod_eq_of_lt hm10]
    show Ending.returned (.string _) = _
    rw [ba_app, hs']
  · intro w' hA
    have h0 : ¬ ((m / 10 : Nat) : Int) = 0 := by simpa using h
    have hm10 : ¬ m < 10 := by omega
    refine ⟨(m / 10, UInt8.ofNat (48 + m % 10) :: s), ⟨by show m / 10 < _; omega, ?_⟩, by show m / 10 < m; omega, ⟨⟨_, rfl, rfl⟩, ⟨_, rfl, ?_⟩, trivial⟩, hA.sub trivial⟩
    · show Lib.decDigits (m / 10) ++ UInt8.ofNat (48 + m % 10) :: s = _
      rw [← hs, Lib.decDigits.eq_def m, dif_neg hm10]
      simp
    · show Value.string _ = Value.string _
      rw [ba_app]; rfl

theorem decimal_c (n : Int) (h0 : -9223372036854775808 ≤ n) (h1 : n < 9223372036854775808) (w : World) :
    Calls Tryd.prog 38 #[.int .i64 n] w fun e w' => e = .returned (.string ⟨(Lib.itoa n).toArray⟩) ∧ Below w.heap.size w w' := by
  refine calls_of_vc seat Tryd.func38 rfl rfl (Nat.le_of_ble_eq_true rfl) (N := 13) (args := [.val (.int .i64 n)]) (Nat.le_of_ble_eq_true rfl) rfl (A.start w) ?_
  refine ⟨fun h => ?_, fun h => ?_⟩
  · have hn : n < 0 := by simpa using h
    refine ⟨n + 18446744073709551616, ?_, (n.natAbs : Int), ?_, ?_⟩
    · simp only [IntKind.wrap, IntKind.bits, IntKind.signed]
      simp
      omega
    · simp only [IntKind.wrap, IntKind.bits, IntKind.signed]
      simp
      omega
    intro w1 hA
    refine (unsigned_c n.natAbs (by omega) w1).mono ?_
    rintro e w2 ⟨rfl, hb⟩
    refine ⟨.val _, _, _, rfl, hA.below' hb, ?_⟩
    have hlen := decDigits_short n.natAbs
    refine ⟨by simp [ByteArray.size]; omega, ?_⟩
    intro w' hA
    refine ⟨?_, hA.bel (by simp)⟩
    show Ending.returned (.string _) = _
    rw [show (⟨#[45]⟩ : ByteArray) = ⟨[45].toArray⟩ from rfl, ba_app, Lib.itoa, if_pos hn]
    rfl
  · have hn : ¬ n < 0 := by simpa using h
    refine ⟨(n.toNat : Int), ?_, ?_⟩
    · simp only [IntKind.wrap, IntKind.bits, IntKind.signed]
      simp
      omega
    intro w1 hA
    refine (unsigned_c n.toNat (by omega) w1).mono ?_
    rintro e w2 ⟨rfl, hb⟩
    refine ⟨.val _, _, _, rfl, hA.below' hb, ?_⟩
    intro w' hA
    refine ⟨?_, hA.bel (by simp)⟩
    show Ending.returned (.string _) = _
    rw [Lib.itoa, if_neg hn]
theorem dd_len : ∀ (k u : Nat), u < 10 ^ (k + 1) → (Lib.decDigits u).length ≤ k + 1
  | 0, u, h => by rw [Lib.decDigits, dif_pos (by simpa using h)]; simp
  | k + 1, u, h => by
    rw [Lib.decDigits]
    by_cases hu : u < 10
    · simp [hu]
    · have := dd_len k (u / 10) (by rw [Nat.pow_succ] at h; omega)
      simp [hu]
      omega
theorem itoa_len (n : Int) (h0 : -9223372036854775808 ≤ n) (h1 : n < 9223372036854775808) : (Lib.itoa n).length ≤ 20 := by
  unfold Lib.itoa
  split
  · have := dd_len 18 n.natAbs (by omega)
    simp; omega
  · have := dd_len 18 n.toNat (by omega)
    omega

theorem isBuilder_since {T e : TypeId} {B b : Nat} {bs : List Value} {wk w : World} {ex : Fp} (h : Lib.IsBuilder T e B b bs wk) (hs : Since ex wk w) (hx : ∀ x, ex x → x < B) : Lib.IsBuilder T e B b bs w := by
  have key : ∀ p, Lib.BuilderAt T e B b p bs wk → Lib.BuilderAt T e B b p bs w := by
    rintro p hb
    have hlt := hb.lt
    obtain ⟨hB, v, hbk, hown, hne⟩ := hb
    refine ⟨hB, v, (hs.block b hlt fun h => ?_).trans hbk, ownsRow_since hown hs (fun g hg h => ?_), hne⟩
    · have := hx b h; omega
    · have h1 := (hown.lt g hg).1
      have h2 := hx g h
      omega
  exact h.imp (key _) (key _)

end Go.Proofs.YtllepnadffndnaaDoor
