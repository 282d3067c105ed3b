/- The program's struct types as Lean structures, and how they read. Printed by gendata.py. -/
import Derived.Test.YtllepnadffndnaaDoorBase
namespace Go.Proofs.YtllepnadffndnaaDoor
open Go.RowKit

def Rp.key : Rp (List Int) := Rp.arr .u8 32
def Rp.bytes : Rp (List Int) := Rp.slice (Rp.int .u8)
def Rp.ints : Rp (List Int) := Rp.slice (Rp.int .i64)
theorem take1 {cs : List Value} {n : Nat} {v : Value} (h : (cs.drop n).take 1 = [v]) : cs[n]? = some v := by
  have h0 : ((cs.drop n).take 1)[0]? = some v := by rw [h]; rfl
  simpa [List.getElem?_take, List.getElem?_drop] using h0
theorem Rp.pair_iff {α β : Type} {r : Rp α} {s : Rp β} {w : World} {S : Fp} {cs : List Value} {x : α × β} : (r.pair s).rel w S cs x ↔ r.rel w S (cs.take r.size) x.1 ∧ s.rel w S (cs.drop r.size) x.2 := by
  constructor
  · rintro ⟨c, d, rfl, h, k⟩
    have hl := r.len h
    rw [← hl, List.take_left, List.drop_left]
    exact ⟨h, k⟩
  · rintro ⟨h, k⟩
    exact ⟨_, _, (List.take_append_drop _ _).symm, h, k⟩
section
variable {w : World} {S : Fp} {cs : List Value}
theorem cellI {k : IntKind} {n : Nat} {x : Int} (h : (Rp.int k).rel w S ((cs.drop n).take 1) x) : cs[n]? = some (.int k x) ∧ (Lit.int k x).wf = true := ⟨take1 h.1, h.2⟩
theorem cellB {n : Nat} {x : Bool} (h : Rp.bool.rel w S ((cs.drop n).take 1) x) : cs[n]? = some (.bool x) := take1 h
theorem cellS {n : Nat} {x : ByteArray} (h : Rp.str.rel w S ((cs.drop n).take 1) x) : cs[n]? = some (.string x) ∧ x.size ≤ 140737488355328 := ⟨take1 h.1, h.2⟩
theorem cellL {α : Type} {r : Rp α} {n : Nat} {x : List α} (h : (Rp.slice r).rel w S ((cs.drop n).take 1) x) : ∃ A c, cs[n]? = some (.slice A x.length c) ∧ Sl r w S A x := by
  obtain ⟨A, c, h, k⟩ := h
  exact ⟨A, c, take1 h, k⟩
end

structure MField where
  number : Int
  kind : Int
  value : Int
  bytes : List Int
  deriving DecidableEq, Inhabited
def Rp.field : Rp MField := Rp.via (fun x => (x.number, x.kind, x.value, x.bytes)) (Rp.pair (Rp.int .i64) (Rp.pair (Rp.int .i64) (Rp.pair (Rp.int .u64) Rp.bytes)))
theorem Rp.field_size : Rp.field.size = 4 := rfl
theorem Rp.field_fields {w : World} {S : Fp} {cs : List Value} {x : MField} (h : Rp.field.rel w S cs x) :
    (Rp.int .i64).rel w S ((cs.drop 0).take 1) x.number ∧
    (Rp.int .i64).rel w S ((cs.drop 1).take 1) x.kind ∧
    (Rp.int .u64).rel w S ((cs.drop 2).take 1) x.value ∧
    Rp.bytes.rel w S ((cs.drop 3).take 1) x.bytes := by
  have hl : cs.length = 4 := Rp.field.len h
  have h : (Rp.pair (Rp.int .i64) (Rp.pair (Rp.int .i64) (Rp.pair (Rp.int .u64) Rp.bytes))).rel w S cs (x.number, x.kind, x.value, x.bytes) := h
  simp only [Rp.pair_iff] at h
  obtain ⟨h0, h1, h2, h3⟩ := h
  refine ⟨?_, ?_, ?_, ?_⟩
  · refine cast (congrArg (fun l => (Rp.int .i64).rel w S l x.number) ?_) h0
    first | rfl | (simp only [List.drop_drop]; rfl)
  · refine cast (congrArg (fun l => (Rp.int .i64).rel w S l x.kind) ?_) h1
    first | rfl | (simp only [List.drop_drop]; rfl)
  · refine cast (congrArg (fun l => (Rp.int .u64).rel w S l x.value) ?_) h2
    first | rfl | (simp only [List.drop_drop]; rfl)
  · refine cast (congrArg (fun l => Rp.bytes.rel w S l x.bytes) ?_) h3
    have e : cs.drop 3 = (cs.drop 3).take 1 := (List.take_of_length_le (by simp [hl])).symm
    refine Eq.trans ?_ e
    first | rfl | (simp only [List.drop_drop]; rfl)
theorem Rp.field_mk {w : World} {S : Fp} {cs : List Value} {x : MField} (hl : cs.length = 4)
    (h0 : (Rp.int .i64).rel w S ((cs.drop 0).take 1) x.number)
    (h1 : (Rp.int .i64).rel w S ((cs.drop 1).take 1) x.kind)
    (h2 : (Rp.int .u64).rel w S ((cs.drop 2).take 1) x.value)
    (h3 : Rp.bytes.rel w S ((cs.drop 3).take 1) x.bytes)
    : Rp.field.rel w S cs x := by
  show (Rp.pair (Rp.int .i64) (Rp.pair (Rp.int .i64) (Rp.pair (Rp.int .u64) Rp.bytes))).rel w S cs (x.number, x.kind, x.value, x.bytes)
  simp only [Rp.pair_iff]
  refine ⟨?_, ?_, ?_, ?_⟩
  · refine cast (congrArg (fun l => (Rp.int .i64).rel w S l x.number) ?_) h0
    first | rfl | (simp only [List.drop_drop]; rfl)
  · refine cast (congrArg (fun l => (Rp.int .i64).rel w S l x.kind) ?_) h1
    first | rfl | (simp only [List.drop_drop]; rfl)
  · refine cast (congrArg (fun l => (Rp.int .u64).rel w S l x.value) ?_) h2
    first | rfl | (simp only [List.drop_drop]; rfl)
  · refine cast (congrArg (fun l => Rp.bytes.rel w S l x.bytes) ?_) h3
    have e : cs.drop 3 = (cs.drop 3).take 1 := (List.take_of_length_le (by simp [hl])).symm
    refine e.symm.trans ?_
    first | rfl | (simp only [List.drop_drop]; rfl)

structure MAccount where
  name : ByteArray
  balance : Int
  sequence : Int
  deriving DecidableEq, Inhabited
def Rp.account : Rp MAccount := Rp.via (fun x => (x.name, x.balance, x.sequence)) (Rp.pair Rp.str (Rp.pair (Rp.int .u64) (Rp.int .u64)))
theorem Rp.account_size : Rp.account.size = 3 := rfl
theorem Rp.account_fields {w : World} {S : Fp} {cs : List Value} {x : MAccount} (h : Rp.account.rel w S cs x) :
    Rp.str.rel w S ((cs.drop 0).take 1) x.name ∧
    (Rp.int .u64).rel w S ((cs.drop 1).take 1) x.balance ∧
    (Rp.int .u64).rel w S ((cs.drop 2).take 1) x.sequence := by
  have hl : cs.length = 3 := Rp.account.len h
  have h : (Rp.pair Rp.str (Rp.pair (Rp.int .u64) (Rp.int .u64))).rel w S cs (x.name, x.balance, x.sequence) := h
  simp only [Rp.pair_iff] at h
  obtain ⟨h0, h1, h2⟩ := h
  refine ⟨?_, ?_, ?_⟩
  · refine cast (congrArg (fun l => Rp.str.rel w S l x.name) ?_) h0
    first | rfl | (simp only [List.drop_drop]; rfl)
  · refine cast (congrArg (fun l => (Rp.int .u64).rel w S l x.balance) ?_) h1
    first | rfl | (simp only [List.drop_drop]; rfl)
  · refine cast (congrArg (fun l => (Rp.int .u64).rel w S l x.sequence) ?_) h2
    have e : cs.drop 2 = (cs.drop 2).take 1 := (List.take_of_length_le (by simp [hl])).symm
    refine Eq.trans ?_ e
    first | rfl | (simp only [List.drop_drop]; rfl)
theorem Rp.account_mk {w : World} {S : Fp} {cs : List Value} {x : MAccount} (hl : cs.length = 3)
    (h0 : Rp.str.rel w S ((cs.drop 0).take 1) x.name)
    (h1 : (Rp.int .u64).rel w S ((cs.drop 1).take 1) x.balance)
    (h2 : (Rp.int .u64).rel w S ((cs.drop 2).take 1) x.sequence)
    : Rp.account.rel w S cs x := by
  show (Rp.pair Rp.str (Rp.pair (Rp.int .u64) (Rp.int .u64))).rel w S cs (x.name, x.balance, x.sequence)
  simp only [Rp.pair_iff]
  refine ⟨?_, ?_, ?_⟩
  · refine cast (congrArg (fun l => Rp.str.rel w S l x.name) ?_) h0
    first | rfl | (simp only [List.drop_drop]; rfl)
  · refine cast (congrArg (fun l => (Rp.int .u64).rel w S l x.balance) ?_) h1
    first | rfl | (simp only [List.drop_drop]; rfl)
  · refine cast (congrArg (fun l => (Rp.int .u64).rel w S l x.sequence) ?_) h2
    have e : cs.drop 2 = (cs.drop 2).take 1 := (List.take_of_length_le (by simp [hl])).symm
    refine e.symm.trans ?_
    first | rfl | (simp only [List.drop_drop]; rfl)

structure MLedger where
  accounts : List MAccount
  collected : Int
  deriving DecidableEq, Inhabited
def Rp.ledger : Rp MLedger := Rp.via (fun x => (x.accounts, x.collected)) (Rp.pair (Rp.slice Rp.account) (Rp.int .u64))
theorem Rp.ledger_size : Rp.ledger.size = 2 := rfl
theorem Rp.ledger_fields {w : World} {S : Fp} {cs : List Value} {x : MLedger} (h : Rp.ledger.rel w S cs x) :
    (Rp.slice Rp.account).rel w S ((cs.drop 0).take 1) x.accounts ∧
    (Rp.int .u64).rel w S ((cs.drop 1).take 1) x.collected := by
  have hl : cs.length = 2 := Rp.ledger.len h
  have h : (Rp.pair (Rp.slice Rp.account) (Rp.int .u64)).rel w S cs (x.accounts, x.collected) := h
  simp only [Rp.pair_iff] at h
  obtain ⟨h0, h1⟩ := h
  refine ⟨?_, ?_⟩
  · refine cast (congrArg (fun l => (Rp.slice Rp.account).rel w S l x.accounts) ?_) h0
    first | rfl | (simp only [List.drop_drop]; rfl)
  · refine cast (congrArg (fun l => (Rp.int .u64).rel w S l x.collected) ?_) h1
    have e : cs.drop 1 = (cs.drop 1).take 1 := (List.take_of_length_le (by simp [hl])).symm
    refine Eq.trans ?_ e
    first | rfl | (simp only [List.drop_drop]; rfl)
theorem Rp.ledger_mk {w : World} {S : Fp} {cs : List Value} {x : MLedger} (hl : cs.length = 2)
    (h0 : (Rp.slice Rp.account).rel w S ((cs.drop 0).take 1) x.accounts)
    (h1 : (Rp.int .u64).rel w S ((cs.drop 1).take 1) x.collected)
    : Rp.ledger.rel w S cs x := by
  show (Rp.pair (Rp.slice Rp.account) (Rp.int .u64)).rel w S cs (x.accounts, x.collected)
  simp only [Rp.pair_iff]
  refine ⟨?_, ?_⟩
  · refine cast (congrArg (fun l => (Rp.slice Rp.account).rel w S l x.accounts) ?_) h0
    first | rfl | (simp only [List.drop_drop]; rfl)
  · refine cast (congrArg (fun l => (Rp.int .u64).rel w S l x.collected) ?_) h1
    have e : cs.drop 1 = (cs.drop 1).take 1 := (List.take_of_length_le (by simp [hl])).symm
    refine e.symm.trans ?_
    first | rfl | (simp only [List.drop_drop]; rfl)

structure MTransfer where
  to_ : ByteArray
  amount : Int
  deriving DecidableEq, Inhabited
def Rp.transfer : Rp MTransfer := Rp.via (fun x => (x.to_, x.amount)) (Rp.pair Rp.str (Rp.int .u64))
theorem Rp.transfer_size : Rp.transfer.size = 2 := rfl
theorem Rp.transfer_fields {w : World} {S : Fp} {cs : List Value} {x : MTransfer} (h : Rp.transfer.rel w S cs x) :
    Rp.str.rel w S ((cs.drop 0).take 1) x.to_ ∧
    (Rp.int .u64).rel w S ((cs.drop 1).take 1) x.amount := by
  have hl : cs.length = 2 := Rp.transfer.len h
  have h : (Rp.pair Rp.str (Rp.int .u64)).rel w S cs (x.to_, x.amount) := h
  simp only [Rp.pair_iff] at h
  obtain ⟨h0, h1⟩ := h
  refine ⟨?_, ?_⟩
  · refine cast (congrArg (fun l => Rp.str.rel w S l x.to_) ?_) h0
    first | rfl | (simp only [List.drop_drop]; rfl)
  · refine cast (congrArg (fun l => (Rp.int .u64).rel w S l x.amount) ?_) h1
    have e : cs.drop 1 = (cs.drop 1).take 1 := (List.take_of_length_le (by simp [hl])).symm
    refine Eq.trans ?_ e
    first | rfl | (simp only [List.drop_drop]; rfl)
theorem Rp.transfer_mk {w : World} {S : Fp} {cs : List Value} {x : MTransfer} (hl : cs.length = 2)
    (h0 : Rp.str.rel w S ((cs.drop 0).take 1) x.to_)
    (h1 : (Rp.int .u64).rel w S ((cs.drop 1).take 1) x.amount)
    : Rp.transfer.rel w S cs x := by
  show (Rp.pair Rp.str (Rp.int .u64)).rel w S cs (x.to_, x.amount)
  simp only [Rp.pair_iff]
  refine ⟨?_, ?_⟩
  · refine cast (congrArg (fun l => Rp.str.rel w S l x.to_) ?_) h0
    first | rfl | (simp only [List.drop_drop]; rfl)
  · refine cast (congrArg (fun l => (Rp.int .u64).rel w S l x.amount) ?_) h1
    have e : cs.drop 1 = (cs.drop 1).take 1 := (List.take_of_length_le (by simp [hl])).symm
    refine e.symm.trans ?_
    first | rfl | (simp only [List.drop_drop]; rfl)

structure MTx where
  sender : ByteArray
  sequence : Int
  gas : Int
  fee : Int
  memo : ByteArray
  transfers : List MTransfer
  deriving DecidableEq, Inhabited
def Rp.tx : Rp MTx := Rp.via (fun x => (x.sender, x.sequence, x.gas, x.fee, x.memo, x.transfers)) (Rp.pair Rp.str (Rp.pair (Rp.int .u64) (Rp.pair (Rp.int .u64) (Rp.pair (Rp.int .u64) (Rp.pair Rp.str (Rp.slice Rp.transfer))))))
theorem Rp.tx_size : Rp.tx.size = 6 := rfl
theorem Rp.tx_fields {w : World} {S : Fp} {cs : List Value} {x : MTx} (h : Rp.tx.rel w S cs x) :
    Rp.str.rel w S ((cs.drop 0).take 1) x.sender ∧
    (Rp.int .u64).rel w S ((cs.drop 1).take 1) x.sequence ∧
    (Rp.int .u64).rel w S ((cs.drop 2).take 1) x.gas ∧
    (Rp.int .u64).rel w S ((cs.drop 3).take 1) x.fee ∧
    Rp.str.rel w S ((cs.drop 4).take 1) x.memo ∧
    (Rp.slice Rp.transfer).rel w S ((cs.drop 5).take 1) x.transfers := by
  have hl : cs.length = 6 := Rp.tx.len h
  have h : (Rp.pair Rp.str (Rp.pair (Rp.int .u64) (Rp.pair (Rp.int .u64) (Rp.pair (Rp.int .u64) (Rp.pair Rp.str (Rp.slice Rp.transfer)))))).rel w S cs (x.sender, x.sequence, x.gas, x.fee, x.memo, x.transfers) := h
  simp only [Rp.pair_iff] at h
  obtain ⟨h0, h1, h2, h3, h4, h5⟩ := h
  refine ⟨?_, ?_, ?_, ?_, ?_, ?_⟩
  · refine cast (congrArg (fun l => Rp.str.rel w S l x.sender) ?_) h0
    first | rfl | (simp only [List.drop_drop]; rfl)
  · refine cast (congrArg (fun l => (Rp.int .u64).rel w S l x.sequence) ?_) h1
    first | rfl | (simp only [List.drop_drop]; rfl)
  · refine cast (congrArg (fun l => (Rp.int .u64).rel w S l x.gas) ?_) h2
    first | rfl | (simp only [List.drop_drop]; rfl)
  · refine cast (congrArg (fun l => (Rp.int .u64).rel w S l x.fee) ?_) h3
    first | rfl | (simp only [List.drop_drop]; rfl)
  · refine cast (congrArg (fun l => Rp.str.rel w S l x.memo) ?_) h4
    first | rfl | (simp only [List.drop_drop]; rfl)
  · refine cast (congrArg (fun l => (Rp.slice Rp.transfer).rel w S l x.transfers) ?_) h5
    have e : cs.drop 5 = (cs.drop 5).take 1 := (List.take_of_length_le (by simp [hl])).symm
    refine Eq.trans ?_ e
    first | rfl | (simp only [List.drop_drop]; rfl)
theorem Rp.tx_mk {w : World} {S : Fp} {cs : List Value} {x : MTx} (hl : cs.length = 6)
    (h0 : Rp.str.rel w S ((cs.drop 0).take 1) x.sender)
    (h1 : (Rp.int .u64).rel w S ((cs.drop 1).take 1) x.sequence)
    (h2 : (Rp.int .u64).rel w S ((cs.drop 2).take 1) x.gas)
    (h3 : (Rp.int .u64).rel w S ((cs.drop 3).take 1) x.fee)
    (h4 : Rp.str.rel w S ((cs.drop 4).take 1) x.memo)
    (h5 : (Rp.slice Rp.transfer).rel w S ((cs.drop 5).take 1) x.transfers)
    : Rp.tx.rel w S cs x := by
  show (Rp.pair Rp.str (Rp.pair (Rp.int .u64) (Rp.pair (Rp.int .u64) (Rp.pair (Rp.int .u64) (Rp.pair Rp.str (Rp.slice Rp.transfer)))))).rel w S cs (x.sender, x.sequence, x.gas, x.fee, x.memo, x.transfers)
  simp only [Rp.pair_iff]
  refine ⟨?_, ?_, ?_, ?_, ?_, ?_⟩
  · refine cast (congrArg (fun l => Rp.str.rel w S l x.sender) ?_) h0
    first | rfl | (simp only [List.drop_drop]; rfl)
  · refine cast (congrArg (fun l => (Rp.int .u64).rel w S l x.sequence) ?_) h1
    first | rfl | (simp only [List.drop_drop]; rfl)
  · refine cast (congrArg (fun l => (Rp.int .u64).rel w S l x.gas) ?_) h2
    first | rfl | (simp only [List.drop_drop]; rfl)
  · refine cast (congrArg (fun l => (Rp.int .u64).rel w S l x.fee) ?_) h3
    first | rfl | (simp only [List.drop_drop]; rfl)
  · refine cast (congrArg (fun l => Rp.str.rel w S l x.memo) ?_) h4
    first | rfl | (simp only [List.drop_drop]; rfl)
  · refine cast (congrArg (fun l => (Rp.slice Rp.transfer).rel w S l x.transfers) ?_) h5
    have e : cs.drop 5 = (cs.drop 5).take 1 := (List.take_of_length_le (by simp [hl])).symm
    refine e.symm.trans ?_
    first | rfl | (simp only [List.drop_drop]; rfl)

structure MResult where
  code : Int
  sender : ByteArray
  sequence : Int
  gas : Int
  priority : Int
  deriving DecidableEq, Inhabited
def Rp.result : Rp MResult := Rp.via (fun x => (x.code, x.sender, x.sequence, x.gas, x.priority)) (Rp.pair (Rp.int .i64) (Rp.pair Rp.str (Rp.pair (Rp.int .u64) (Rp.pair (Rp.int .u64) (Rp.int .u64)))))
theorem Rp.result_size : Rp.result.size = 5 := rfl
theorem Rp.result_fields {w : World} {S : Fp} {cs : List Value} {x : MResult} (h : Rp.result.rel w S cs x) :
    (Rp.int .i64).rel w S ((cs.drop 0).take 1) x.code ∧
    Rp.str.rel w S ((cs.drop 1).take 1) x.sender ∧
    (Rp.int .u64).rel w S ((cs.drop 2).take 1) x.sequence ∧
    (Rp.int .u64).rel w S ((cs.drop 3).take 1) x.gas ∧
    (Rp.int .u64).rel w S ((cs.drop 4).take 1) x.priority := by
  have hl : cs.length = 5 := Rp.result.len h
  have h : (Rp.pair (Rp.int .i64) (Rp.pair Rp.str (Rp.pair (Rp.int .u64) (Rp.pair (Rp.int .u64) (Rp.int .u64))))).rel w S cs (x.code, x.sender, x.sequence, x.gas, x.priority) := h
  simp only [Rp.pair_iff] at h
  obtain ⟨h0, h1, h2, h3, h4⟩ := h
  refine ⟨?_, ?_, ?_, ?_, ?_⟩
  · refine cast (congrArg (fun l => (Rp.int .i64).rel w S l x.code) ?_) h0
    first | rfl | (simp only [List.drop_drop]; rfl)
  · refine cast (congrArg (fun l => Rp.str.rel w S l x.sender) ?_) h1
    first | rfl | (simp only [List.drop_drop]; rfl)
  · refine cast (congrArg (fun l => (Rp.int .u64).rel w S l x.sequence) ?_) h2
    first | rfl | (simp only [List.drop_drop]; rfl)
  · refine cast (congrArg (fun l => (Rp.int .u64).rel w S l x.gas) ?_) h3
    first | rfl | (simp only [List.drop_drop]; rfl)
  · refine cast (congrArg (fun l => (Rp.int .u64).rel w S l x.priority) ?_) h4
    have e : cs.drop 4 = (cs.drop 4).take 1 := (List.take_of_length_le (by simp [hl])).symm
    refine Eq.trans ?_ e
    first | rfl | (simp only [List.drop_drop]; rfl)
theorem Rp.result_mk {w : World} {S : Fp} {cs : List Value} {x : MResult} (hl : cs.length = 5)
    (h0 : (Rp.int .i64).rel w S ((cs.drop 0).take 1) x.code)
    (h1 : Rp.str.rel w S ((cs.drop 1).take 1) x.sender)
    (h2 : (Rp.int .u64).rel w S ((cs.drop 2).take 1) x.sequence)
    (h3 : (Rp.int .u64).rel w S ((cs.drop 3).take 1) x.gas)
    (h4 : (Rp.int .u64).rel w S ((cs.drop 4).take 1) x.priority)
    : Rp.result.rel w S cs x := by
  show (Rp.pair (Rp.int .i64) (Rp.pair Rp.str (Rp.pair (Rp.int .u64) (Rp.pair (Rp.int .u64) (Rp.int .u64))))).rel w S cs (x.code, x.sender, x.sequence, x.gas, x.priority)
  simp only [Rp.pair_iff]
  refine ⟨?_, ?_, ?_, ?_, ?_⟩
  · refine cast (congrArg (fun l => (Rp.int .i64).rel w S l x.code) ?_) h0
    first | rfl | (simp only [List.drop_drop]; rfl)
  · refine cast (congrArg (fun l => Rp.str.rel w S l x.sender) ?_) h1
    first | rfl | (simp only [List.drop_drop]; rfl)
  · refine cast (congrArg (fun l => (Rp.int .u64).rel w S l x.sequence) ?_) h2
    first | rfl | (simp only [List.drop_drop]; rfl)
  · refine cast (congrArg (fun l => (Rp.int .u64).rel w S l x.gas) ?_) h3
    first | rfl | (simp only [List.drop_drop]; rfl)
  · refine cast (congrArg (fun l => (Rp.int .u64).rel w S l x.priority) ?_) h4
    have e : cs.drop 4 = (cs.drop 4).take 1 := (List.take_of_length_le (by simp [hl])).symm
    refine e.symm.trans ?_
    first | rfl | (simp only [List.drop_drop]; rfl)

structure MApp where
  committed : MLedger
  check : MLedger
  next : MLedger
  open_ : Bool
  price : Int
  deriving DecidableEq, Inhabited
def Rp.app : Rp MApp := Rp.via (fun x => (x.committed, x.check, x.next, x.open_, x.price)) (Rp.pair Rp.ledger (Rp.pair Rp.ledger (Rp.pair Rp.ledger (Rp.pair Rp.bool (Rp.int .u64)))))
theorem Rp.app_size : Rp.app.size = 8 := rfl
theorem Rp.app_fields {w : World} {S : Fp} {cs : List Value} {x : MApp} (h : Rp.app.rel w S cs x) :
    Rp.ledger.rel w S ((cs.drop 0).take 2) x.committed ∧
    Rp.ledger.rel w S ((cs.drop 2).take 2) x.check ∧
    Rp.ledger.rel w S ((cs.drop 4).take 2) x.next ∧
    Rp.bool.rel w S ((cs.drop 6).take 1) x.open_ ∧
    (Rp.int .u64).rel w S ((cs.drop 7).take 1) x.price := by
  have hl : cs.length = 8 := Rp.app.len h
  have h : (Rp.pair Rp.ledger (Rp.pair Rp.ledger (Rp.pair Rp.ledger (Rp.pair Rp.bool (Rp.int .u64))))).rel w S cs (x.committed, x.check, x.next, x.open_, x.price) := h
  simp only [Rp.pair_iff] at h
  obtain ⟨h0, h1, h2, h3, h4⟩ := h
  refine ⟨?_, ?_, ?_, ?_, ?_⟩
  · refine cast (congrArg (fun l => Rp.ledger.rel w S l x.committed) ?_) h0
    first | rfl | (simp only [List.drop_drop]; rfl)
  · refine cast (congrArg (fun l => Rp.ledger.rel w S l x.check) ?_) h1
    first | rfl | (simp only [List.drop_drop]; rfl)
  · refine cast (congrArg (fun l => Rp.ledger.rel w S l x.next) ?_) h2
    first | rfl | (simp only [List.drop_drop]; rfl)
  · refine cast (congrArg (fun l => Rp.bool.rel w S l x.open_) ?_) h3
    first | rfl | (simp only [List.drop_drop]; rfl)
  · refine cast (congrArg (fun l => (Rp.int .u64).rel w S l x.price) ?_) h4
    have e : cs.drop 7 = (cs.drop 7).take 1 := (List.take_of_length_le (by simp [hl])).symm
    refine Eq.trans ?_ e
    first | rfl | (simp only [List.drop_drop]; rfl)
theorem Rp.app_mk {w : World} {S : Fp} {cs : List Value} {x : MApp} (hl : cs.length = 8)
    (h0 : Rp.ledger.rel w S ((cs.drop 0).take 2) x.committed)
    (h1 : Rp.ledger.rel w S ((cs.drop 2).take 2) x.check)
    (h2 : Rp.ledger.rel w S ((cs.drop 4).take 2) x.next)
    (h3 : Rp.bool.rel w S ((cs.drop 6).take 1) x.open_)
    (h4 : (Rp.int .u64).rel w S ((cs.drop 7).take 1) x.price)
    : Rp.app.rel w S cs x := by
  show (Rp.pair Rp.ledger (Rp.pair Rp.ledger (Rp.pair Rp.ledger (Rp.pair Rp.bool (Rp.int .u64))))).rel w S cs (x.committed, x.check, x.next, x.open_, x.price)
  simp only [Rp.pair_iff]
  refine ⟨?_, ?_, ?_, ?_, ?_⟩
  · refine cast (congrArg (fun l => Rp.ledger.rel w S l x.committed) ?_) h0
    first | rfl | (simp only [List.drop_drop]; rfl)
  · refine cast (congrArg (fun l => Rp.ledger.rel w S l x.check) ?_) h1
    first | rfl | (simp only [List.drop_drop]; rfl)
  · refine cast (congrArg (fun l => Rp.ledger.rel w S l x.next) ?_) h2
    first | rfl | (simp only [List.drop_drop]; rfl)
  · refine cast (congrArg (fun l => Rp.bool.rel w S l x.open_) ?_) h3
    first | rfl | (simp only [List.drop_drop]; rfl)
  · refine cast (congrArg (fun l => (Rp.int .u64).rel w S l x.price) ?_) h4
    have e : cs.drop 7 = (cs.drop 7).take 1 := (List.take_of_length_le (by simp [hl])).symm
    refine e.symm.trans ?_
    first | rfl | (simp only [List.drop_drop]; rfl)

structure MConfig where
  maxTxs : Int
  maxBytes : Int
  maxTxBytes : Int
  cacheSize : Int
  ttlBlocks : Int
  ttlTime : Int
  keepInvalid : Bool
  blockBytes : Int
  blockGas : Int
  price : Int
  self : Int
  nodes : Int
  deriving DecidableEq, Inhabited
def Rp.config : Rp MConfig := Rp.via (fun x => (x.maxTxs, x.maxBytes, x.maxTxBytes, x.cacheSize, x.ttlBlocks, x.ttlTime, x.keepInvalid, x.blockBytes, x.blockGas, x.price, x.self, x.nodes)) (Rp.pair (Rp.int .i64) (Rp.pair (Rp.int .i64) (Rp.pair (Rp.int .i64) (Rp.pair (Rp.int .i64) (Rp.pair (Rp.int .i64) (Rp.pair (Rp.int .i64) (Rp.pair Rp.bool (Rp.pair (Rp.int .i64) (Rp.pair (Rp.int .i64) (Rp.pair (Rp.int .u64) (Rp.pair (Rp.int .i64) (Rp.int .i64))))))))))))
theorem Rp.config_size : Rp.config.size = 12 := rfl
theorem Rp.config_fields {w : World} {S : Fp} {cs : List Value} {x : MConfig} (h : Rp.config.rel w S cs x) :
    (Rp.int .i64).rel w S ((cs.drop 0).take 1) x.maxTxs ∧
    (Rp.int .i64).rel w S ((cs.drop 1).take 1) x.maxBytes ∧
    (Rp.int .i64).rel w S ((cs.drop 2).take 1) x.maxTxBytes ∧
    (Rp.int .i64).rel w S ((cs.drop 3).take 1) x.cacheSize ∧
    (Rp.int .i64).rel w S ((cs.drop 4).take 1) x.ttlBlocks ∧
    (Rp.int .i64).rel w S ((cs.drop 5).take 1) x.ttlTime ∧
    Rp.bool.rel w S ((cs.drop 6).take 1) x.keepInvalid ∧
    (Rp.int .i64).rel w S ((cs.drop 7).take 1) x.blockBytes ∧
    (Rp.int .i64).rel w S ((cs.drop 8).take 1) x.blockGas ∧
    (Rp.int .u64).rel w S ((cs.drop 9).take 1) x.price ∧
    (Rp.int .i64).rel w S ((cs.drop 10).take 1) x.self ∧
    (Rp.int .i64).rel w S ((cs.drop 11).take 1) x.nodes := by
  have hl : cs.length = 12 := Rp.config.len h
  have h : (Rp.pair (Rp.int .i64) (Rp.pair (Rp.int .i64) (Rp.pair (Rp.int .i64) (Rp.pair (Rp.int .i64) (Rp.pair (Rp.int .i64) (Rp.pair (Rp.int .i64) (Rp.pair Rp.bool (Rp.pair (Rp.int .i64) (Rp.pair (Rp.int .i64) (Rp.pair (Rp.int .u64) (Rp.pair (Rp.int .i64) (Rp.int .i64)))))))))))).rel w S cs (x.maxTxs, x.maxBytes, x.maxTxBytes, x.cacheSize, x.ttlBlocks, x.ttlTime, x.keepInvalid, x.blockBytes, x.blockGas, x.price, x.self, x.nodes) := h
  simp only [Rp.pair_iff] at h
  obtain ⟨h0, h1, h2, h3, h4, h5, h6, h7, h8, h9, h10, h11⟩ := h
  refine ⟨?_, ?_, ?_, ?_, ?_, ?_, ?_, ?_, ?_, ?_, ?_, ?_⟩
  · refine cast (congrArg (fun l => (Rp.int .i64).rel w S l x.maxTxs) ?_) h0
    first | rfl | (simp only [List.drop_drop]; rfl)
  · refine cast (congrArg (fun l => (Rp.int .i64).rel w S l x.maxBytes) ?_) h1
    first | rfl | (simp only [List.drop_drop]; rfl)
  · refine cast (congrArg (fun l => (Rp.int .i64).rel w S l x.maxTxBytes) ?_) h2
    first | rfl | (simp only [List.drop_drop]; rfl)
  · refine cast (congrArg (fun l => (Rp.int .i64).rel w S l x.cacheSize) ?_) h3
    first | rfl | (simp only [List.drop_drop]; rfl)
  · refine cast (congrArg (fun l => (Rp.int .i64).rel w S l x.ttlBlocks) ?_) h4
    first | rfl | (simp only [List.drop_drop]; rfl)
  · refine cast (congrArg (fun l => (Rp.int .i64).rel w S l x.ttlTime) ?_) h5
    first | rfl | (simp only [List.drop_drop]; rfl)
  · refine cast (congrArg (fun l => Rp.bool.rel w S l x.keepInvalid) ?_) h6
    first | rfl | (simp only [List.drop_drop]; rfl)
  · refine cast (congrArg (fun l => (Rp.int .i64).rel w S l x.blockBytes) ?_) h7
    first | rfl | (simp only [List.drop_drop]; rfl)
  · refine cast (congrArg (fun l => (Rp.int .i64).rel w S l x.blockGas) ?_) h8
    first | rfl | (simp only [List.drop_drop]; rfl)
  · refine cast (congrArg (fun l => (Rp.int .u64).rel w S l x.price) ?_) h9
    first | rfl | (simp only [List.drop_drop]; rfl)
  · refine cast (congrArg (fun l => (Rp.int .i64).rel w S l x.self) ?_) h10
    first | rfl | (simp only [List.drop_drop]; rfl)
  · refine cast (congrArg (fun l => (Rp.int .i64).rel w S l x.nodes) ?_) h11
    have e : cs.drop 11 = (cs.drop 11).take 1 := (List.take_of_length_le (by simp [hl])).symm
    refine Eq.trans ?_ e
    first | rfl | (simp only [List.drop_drop]; rfl)
theorem Rp.config_mk {w : World} {S : Fp} {cs : List Value} {x : MConfig} (hl : cs.length = 12)
    (h0 : (Rp.int .i64).rel w S ((cs.drop 0).take 1) x.maxTxs)
    (h1 : (Rp.int .i64).rel w S ((cs.drop 1).take 1) x.maxBytes)
    (h2 : (Rp.int .i64).rel w S ((cs.drop 2).take 1) x.maxTxBytes)
    (h3 : (Rp.int .i64).rel w S ((cs.drop 3).take 1) x.cacheSize)
    (h4 : (Rp.int .i64).rel w S ((cs.drop 4).take 1) x.ttlBlocks)
    (h5 : (Rp.int .i64).rel w S ((cs.drop 5).take 1) x.ttlTime)
    (h6 : Rp.bool.rel w S ((cs.drop 6).take 1) x.keepInvalid)
    (h7 : (Rp.int .i64).rel w S ((cs.drop 7).take 1) x.blockBytes)
    (h8 : (Rp.int .i64).rel w S ((cs.drop 8).take 1) x.blockGas)
    (h9 : (Rp.int .u64).rel w S ((cs.drop 9).take 1) x.price)
    (h10 : (Rp.int .i64).rel w S ((cs.drop 10).take 1) x.self)
    (h11 : (Rp.int .i64).rel w S ((cs.drop 11).take 1) x.nodes)
    : Rp.config.rel w S cs x := by
  show (Rp.pair (Rp.int .i64) (Rp.pair (Rp.int .i64) (Rp.pair (Rp.int .i64) (Rp.pair (Rp.int .i64) (Rp.pair (Rp.int .i64) (Rp.pair (Rp.int .i64) (Rp.pair Rp.bool (Rp.pair (Rp.int .i64) (Rp.pair (Rp.int .i64) (Rp.pair (Rp.int .u64) (Rp.pair (Rp.int .i64) (Rp.int .i64)))))))))))).rel w S cs (x.maxTxs, x.maxBytes, x.maxTxBytes, x.cacheSize, x.ttlBlocks, x.ttlTime, x.keepInvalid, x.blockBytes, x.blockGas, x.price, x.self, x.nodes)
  simp only [Rp.pair_iff]
  refine ⟨?_, ?_, ?_, ?_, ?_, ?_, ?_, ?_, ?_, ?_, ?_, ?_⟩
  · refine cast (congrArg (fun l => (Rp.int .i64).rel w S l x.maxTxs) ?_) h0
    first | rfl | (simp only [List.drop_drop]; rfl)
  · refine cast (congrArg (fun l => (Rp.int .i64).rel w S l x.maxBytes) ?_) h1
    first | rfl | (simp only [List.drop_drop]; rfl)
  · refine cast (congrArg (fun l => (Rp.int .i64).rel w S l x.maxTxBytes) ?_) h2
    first | rfl | (simp only [List.drop_drop]; rfl)
  · refine cast (congrArg (fun l => (Rp.int .i64).rel w S l x.cacheSize) ?_) h3
    first | rfl | (simp only [List.drop_drop]; rfl)
  · refine cast (congrArg (fun l => (Rp.int .i64).rel w S l x.ttlBlocks) ?_) h4
    first | rfl | (simp only [List.drop_drop]; rfl)
  · refine cast (congrArg (fun l => (Rp.int .i64).rel w S l x.ttlTime) ?_) h5
    first | rfl | (simp only [List.drop_drop]; rfl)
  · refine cast (congrArg (fun l => Rp.bool.rel w S l x.keepInvalid) ?_) h6
    first | rfl | (simp only [List.drop_drop]; rfl)
  · refine cast (congrArg (fun l => (Rp.int .i64).rel w S l x.blockBytes) ?_) h7
    first | rfl | (simp only [List.drop_drop]; rfl)
  · refine cast (congrArg (fun l => (Rp.int .i64).rel w S l x.blockGas) ?_) h8
    first | rfl | (simp only [List.drop_drop]; rfl)
  · refine cast (congrArg (fun l => (Rp.int .u64).rel w S l x.price) ?_) h9
    first | rfl | (simp only [List.drop_drop]; rfl)
  · refine cast (congrArg (fun l => (Rp.int .i64).rel w S l x.self) ?_) h10
    first | rfl | (simp only [List.drop_drop]; rfl)
  · refine cast (congrArg (fun l => (Rp.int .i64).rel w S l x.nodes) ?_) h11
    have e : cs.drop 11 = (cs.drop 11).take 1 := (List.take_of_length_le (by simp [hl])).symm
    refine e.symm.trans ?_
    first | rfl | (simp only [List.drop_drop]; rfl)

structure MItem where
  id : Int
  priority : Int
  order : Int
  deriving DecidableEq, Inhabited
def Rp.item : Rp MItem := Rp.via (fun x => (x.id, x.priority, x.order)) (Rp.pair (Rp.int .i64) (Rp.pair (Rp.int .u64) (Rp.int .i64)))
theorem Rp.item_size : Rp.item.size = 3 := rfl
theorem Rp.item_fields {w : World} {S : Fp} {cs : List Value} {x : MItem} (h : Rp.item.rel w S cs x) :
    (Rp.int .i64).rel w S ((cs.drop 0).take 1) x.id ∧
    (Rp.int .u64).rel w S ((cs.drop 1).take 1) x.priority ∧
    (Rp.int .i64).rel w S ((cs.drop 2).take 1) x.order := by
  have hl : cs.length = 3 := Rp.item.len h
  have h : (Rp.pair (Rp.int .i64) (Rp.pair (Rp.int .u64) (Rp.int .i64))).rel w S cs (x.id, x.priority, x.order) := h
  simp only [Rp.pair_iff] at h
  obtain ⟨h0, h1, h2⟩ := h
  refine ⟨?_, ?_, ?_⟩
  · refine cast (congrArg (fun l => (Rp.int .i64).rel w S l x.id) ?_) h0
    first | rfl | (simp only [List.drop_drop]; rfl)
  · refine cast (congrArg (fun l => (Rp.int .u64).rel w S l x.priority) ?_) h1
    first | rfl | (simp only [List.drop_drop]; rfl)
  · refine cast (congrArg (fun l => (Rp.int .i64).rel w S l x.order) ?_) h2
    have e : cs.drop 2 = (cs.drop 2).take 1 := (List.take_of_length_le (by simp [hl])).symm
    refine Eq.trans ?_ e
    first | rfl | (simp only [List.drop_drop]; rfl)
theorem Rp.item_mk {w : World} {S : Fp} {cs : List Value} {x : MItem} (hl : cs.length = 3)
    (h0 : (Rp.int .i64).rel w S ((cs.drop 0).take 1) x.id)
    (h1 : (Rp.int .u64).rel w S ((cs.drop 1).take 1) x.priority)
    (h2 : (Rp.int .i64).rel w S ((cs.drop 2).take 1) x.order)
    : Rp.item.rel w S cs x := by
  show (Rp.pair (Rp.int .i64) (Rp.pair (Rp.int .u64) (Rp.int .i64))).rel w S cs (x.id, x.priority, x.order)
  simp only [Rp.pair_iff]
  refine ⟨?_, ?_, ?_⟩
  · refine cast (congrArg (fun l => (Rp.int .i64).rel w S l x.id) ?_) h0
    first | rfl | (simp only [List.drop_drop]; rfl)
  · refine cast (congrArg (fun l => (Rp.int .u64).rel w S l x.priority) ?_) h1
    first | rfl | (simp only [List.drop_drop]; rfl)
  · refine cast (congrArg (fun l => (Rp.int .i64).rel w S l x.order) ?_) h2
    have e : cs.drop 2 = (cs.drop 2).take 1 := (List.take_of_length_le (by simp [hl])).symm
    refine e.symm.trans ?_
    first | rfl | (simp only [List.drop_drop]; rfl)

structure MHandle where
  slot : Int
  use : Int
  deriving DecidableEq, Inhabited
def Rp.handle : Rp MHandle := Rp.via (fun x => (x.slot, x.use)) (Rp.pair (Rp.int .i64) (Rp.int .i64))
theorem Rp.handle_size : Rp.handle.size = 2 := rfl
theorem Rp.handle_fields {w : World} {S : Fp} {cs : List Value} {x : MHandle} (h : Rp.handle.rel w S cs x) :
    (Rp.int .i64).rel w S ((cs.drop 0).take 1) x.slot ∧
    (Rp.int .i64).rel w S ((cs.drop 1).take 1) x.use := by
  have hl : cs.length = 2 := Rp.handle.len h
  have h : (Rp.pair (Rp.int .i64) (Rp.int .i64)).rel w S cs (x.slot, x.use) := h
  simp only [Rp.pair_iff] at h
  obtain ⟨h0, h1⟩ := h
  refine ⟨?_, ?_⟩
  · refine cast (congrArg (fun l => (Rp.int .i64).rel w S l x.slot) ?_) h0
    first | rfl | (simp only [List.drop_drop]; rfl)
  · refine cast (congrArg (fun l => (Rp.int .i64).rel w S l x.use) ?_) h1
    have e : cs.drop 1 = (cs.drop 1).take 1 := (List.take_of_length_le (by simp [hl])).symm
    refine Eq.trans ?_ e
    first | rfl | (simp only [List.drop_drop]; rfl)
theorem Rp.handle_mk {w : World} {S : Fp} {cs : List Value} {x : MHandle} (hl : cs.length = 2)
    (h0 : (Rp.int .i64).rel w S ((cs.drop 0).take 1) x.slot)
    (h1 : (Rp.int .i64).rel w S ((cs.drop 1).take 1) x.use)
    : Rp.handle.rel w S cs x := by
  show (Rp.pair (Rp.int .i64) (Rp.int .i64)).rel w S cs (x.slot, x.use)
  simp only [Rp.pair_iff]
  refine ⟨?_, ?_⟩
  · refine cast (congrArg (fun l => (Rp.int .i64).rel w S l x.slot) ?_) h0
    first | rfl | (simp only [List.drop_drop]; rfl)
  · refine cast (congrArg (fun l => (Rp.int .i64).rel w S l x.use) ?_) h1
    have e : cs.drop 1 = (cs.drop 1).take 1 := (List.take_of_length_le (by simp [hl])).symm
    refine e.symm.trans ?_
    first | rfl | (simp only [List.drop_drop]; rfl)

structure MEntry where
  key : List Int
  raw : List Int
  sender : ByteArray
  sequence : Int
  gas : Int
  priority : Int
  height : Int
  time : Int
  order : Int
  peers : List Int
  deriving DecidableEq, Inhabited
def Rp.entry : Rp MEntry := Rp.via (fun x => (x.key, x.raw, x.sender, x.sequence, x.gas, x.priority, x.height, x.time, x.order, x.peers)) (Rp.pair Rp.key (Rp.pair Rp.bytes (Rp.pair Rp.str (Rp.pair (Rp.int .u64) (Rp.pair (Rp.int .u64) (Rp.pair (Rp.int .u64) (Rp.pair (Rp.int .i64) (Rp.pair (Rp.int .i64) (Rp.pair (Rp.int .i64) Rp.ints)))))))))
theorem Rp.entry_size : Rp.entry.size = 41 := rfl
theorem Rp.entry_fields {w : World} {S : Fp} {cs : List Value} {x : MEntry} (h : Rp.entry.rel w S cs x) :
    Rp.key.rel w S ((cs.drop 0).take 32) x.key ∧
    Rp.bytes.rel w S ((cs.drop 32).take 1) x.raw ∧
    Rp.str.rel w S ((cs.drop 33).take 1) x.sender ∧
    (Rp.int .u64).rel w S ((cs.drop 34).take 1) x.sequence ∧
    (Rp.int .u64).rel w S ((cs.drop 35).take 1) x.gas ∧
    (Rp.int .u64).rel w S ((cs.drop 36).take 1) x.priority ∧
    (Rp.int .i64).rel w S ((cs.drop 37).take 1) x.height ∧
    (Rp.int .i64).rel w S ((cs.drop 38).take 1) x.time ∧
    (Rp.int .i64).rel w S ((cs.drop 39).take 1) x.order ∧
    Rp.ints.rel w S ((cs.drop 40).take 1) x.peers := by
  have hl : cs.length = 41 := Rp.entry.len h
  have h : (Rp.pair Rp.key (Rp.pair Rp.bytes (Rp.pair Rp.str (Rp.pair (Rp.int .u64) (Rp.pair (Rp.int .u64) (Rp.pair (Rp.int .u64) (Rp.pair (Rp.int .i64) (Rp.pair (Rp.int .i64) (Rp.pair (Rp.int .i64) Rp.ints))))))))).rel w S cs (x.key, x.raw, x.sender, x.sequence, x.gas, x.priority, x.height, x.time, x.order, x.peers) := h
  simp only [Rp.pair_iff] at h
  obtain ⟨h0, h1, h2, h3, h4, h5, h6, h7, h8, h9⟩ := h
  refine ⟨?_, ?_, ?_, ?_, ?_, ?_, ?_, ?_, ?_, ?_⟩
  · refine cast (congrArg (fun l => Rp.key.rel w S l x.key) ?_) h0
    first | rfl | (simp only [List.drop_drop]; rfl)
  · refine cast (congrArg (fun l => Rp.bytes.rel w S l x.raw) ?_) h1
    first | rfl | (simp only [List.drop_drop]; rfl)
  · refine cast (congrArg (fun l => Rp.str.rel w S l x.sender) ?_) h2
    first | rfl | (simp only [List.drop_drop]; rfl)
  · refine cast (congrArg (fun l => (Rp.int .u64).rel w S l x.sequence) ?_) h3
    first | rfl | (simp only [List.drop_drop]; rfl)
  · refine cast (congrArg (fun l => (Rp.int .u64).rel w S l x.gas) ?_) h4
    first | rfl | (simp only [List.drop_drop]; rfl)
  · refine cast (congrArg (fun l => (Rp.int .u64).rel w S l x.priority) ?_) h5
    first | rfl | (simp only [List.drop_drop]; rfl)
  · refine cast (congrArg (fun l => (Rp.int .i64).rel w S l x.height) ?_) h6
    first | rfl | (simp only [List.drop_drop]; rfl)
  · refine cast (congrArg (fun l => (Rp.int .i64).rel w S l x.time) ?_) h7
    first | rfl | (simp only [List.drop_drop]; rfl)
  · refine cast (congrArg (fun l => (Rp.int .i64).rel w S l x.order) ?_) h8
    first | rfl | (simp only [List.drop_drop]; rfl)
  · refine cast (congrArg (fun l => Rp.ints.rel w S l x.peers) ?_) h9
    have e : cs.drop 40 = (cs.drop 40).take 1 := (List.take_of_length_le (by simp [hl])).symm
    refine Eq.trans ?_ e
    first | rfl | (simp only [List.drop_drop]; rfl)
theorem Rp.entry_mk {w : World} {S : Fp} {cs : List Value} {x : MEntry} (hl : cs.length = 41)
    (h0 : Rp.key.rel w S ((cs.drop 0).take 32) x.key)
    (h1 : Rp.bytes.rel w S ((cs.drop 32).take 1) x.raw)
    (h2 : Rp.str.rel w S ((cs.drop 33).take 1) x.sender)
    (h3 : (Rp.int .u64).rel w S ((cs.drop 34).take 1) x.sequence)
    (h4 : (Rp.int .u64).rel w S ((cs.drop 35).take 1) x.gas)
    (h5 : (Rp.int .u64).rel w S ((cs.drop 36).take 1) x.priority)
    (h6 : (Rp.int .i64).rel w S ((cs.drop 37).take 1) x.height)
    (h7 : (Rp.int .i64).rel w S ((cs.drop 38).take 1) x.time)
    (h8 : (Rp.int .i64).rel w S ((cs.drop 39).take 1) x.order)
    (h9 : Rp.ints.rel w S ((cs.drop 40).take 1) x.peers)
    : Rp.entry.rel w S cs x := by
  show (Rp.pair Rp.key (Rp.pair Rp.bytes (Rp.pair Rp.str (Rp.pair (Rp.int .u64) (Rp.pair (Rp.int .u64) (Rp.pair (Rp.int .u64) (Rp.pair (Rp.int .i64) (Rp.pair (Rp.int .i64) (Rp.pair (Rp.int .i64) Rp.ints))))))))).rel w S cs (x.key, x.raw, x.sender, x.sequence, x.gas, x.priority, x.height, x.time, x.order, x.peers)
  simp only [Rp.pair_iff]
  refine ⟨?_, ?_, ?_, ?_, ?_, ?_, ?_, ?_, ?_, ?_⟩
  · refine cast (congrArg (fun l => Rp.key.rel w S l x.key) ?_) h0
    first | rfl | (simp only [List.drop_drop]; rfl)
  · refine cast (congrArg (fun l => Rp.bytes.rel w S l x.raw) ?_) h1
    first | rfl | (simp only [List.drop_drop]; rfl)
  · refine cast (congrArg (fun l => Rp.str.rel w S l x.sender) ?_) h2
    first | rfl | (simp only [List.drop_drop]; rfl)
  · refine cast (congrArg (fun l => (Rp.int .u64).rel w S l x.sequence) ?_) h3
    first | rfl | (simp only [List.drop_drop]; rfl)
  · refine cast (congrArg (fun l => (Rp.int .u64).rel w S l x.gas) ?_) h4
    first | rfl | (simp only [List.drop_drop]; rfl)
  · refine cast (congrArg (fun l => (Rp.int .u64).rel w S l x.priority) ?_) h5
    first | rfl | (simp only [List.drop_drop]; rfl)
  · refine cast (congrArg (fun l => (Rp.int .i64).rel w S l x.height) ?_) h6
    first | rfl | (simp only [List.drop_drop]; rfl)
  · refine cast (congrArg (fun l => (Rp.int .i64).rel w S l x.time) ?_) h7
    first | rfl | (simp only [List.drop_drop]; rfl)
  · refine cast (congrArg (fun l => (Rp.int .i64).rel w S l x.order) ?_) h8
    first | rfl | (simp only [List.drop_drop]; rfl)
  · refine cast (congrArg (fun l => Rp.ints.rel w S l x.peers) ?_) h9
    have e : cs.drop 40 = (cs.drop 40).take 1 := (List.take_of_length_le (by simp [hl])).symm
    refine e.symm.trans ?_
    first | rfl | (simp only [List.drop_drop]; rfl)

structure MState where
  config : MConfig
  app : MApp
  height : Int
  time : Int
  arrived : Int
  entries : List MEntry
  cache : List (List Int)
  deriving DecidableEq, Inhabited
def Rp.state : Rp MState := Rp.via (fun x => (x.config, x.app, x.height, x.time, x.arrived, x.entries, x.cache)) (Rp.pair Rp.config (Rp.pair Rp.app (Rp.pair (Rp.int .i64) (Rp.pair (Rp.int .i64) (Rp.pair (Rp.int .i64) (Rp.pair (Rp.slice Rp.entry) (Rp.slice Rp.key)))))))
theorem Rp.state_size : Rp.state.size = 25 := rfl
theorem Rp.state_fields {w : World} {S : Fp} {cs : List Value} {x : MState} (h : Rp.state.rel w S cs x) :
    Rp.config.rel w S ((cs.drop 0).take 12) x.config ∧
    Rp.app.rel w S ((cs.drop 12).take 8) x.app ∧
    (Rp.int .i64).rel w S ((cs.drop 20).take 1) x.height ∧
    (Rp.int .i64).rel w S ((cs.drop 21).take 1) x.time ∧
    (Rp.int .i64).rel w S ((cs.drop 22).take 1) x.arrived ∧
    (Rp.slice Rp.entry).rel w S ((cs.drop 23).take 1) x.entries ∧
    (Rp.slice Rp.key).rel w S ((cs.drop 24).take 1) x.cache := by
  have hl : cs.length = 25 := Rp.state.len h
  have h : (Rp.pair Rp.config (Rp.pair Rp.app (Rp.pair (Rp.int .i64) (Rp.pair (Rp.int .i64) (Rp.pair (Rp.int .i64) (Rp.pair (Rp.slice Rp.entry) (Rp.slice Rp.key))))))).rel w S cs (x.config, x.app, x.height, x.time, x.arrived, x.entries, x.cache) := h
  simp only [Rp.pair_iff] at h
  obtain ⟨h0, h1, h2, h3, h4, h5, h6⟩ := h
  refine ⟨?_, ?_, ?_, ?_, ?_, ?_, ?_⟩
  · refine cast (congrArg (fun l => Rp.config.rel w S l x.config) ?_) h0
    first | rfl | (simp only [List.drop_drop]; rfl)
  · refine cast (congrArg (fun l => Rp.app.rel w S l x.app) ?_) h1
    first | rfl | (simp only [List.drop_drop]; rfl)
  · refine cast (congrArg (fun l => (Rp.int .i64).rel w S l x.height) ?_) h2
    first | rfl | (simp only [List.drop_drop]; rfl)
  · refine cast (congrArg (fun l => (Rp.int .i64).rel w S l x.time) ?_) h3
    first | rfl | (simp only [List.drop_drop]; rfl)
  · refine cast (congrArg (fun l => (Rp.int .i64).rel w S l x.arrived) ?_) h4
    first | rfl | (simp only [List.drop_drop]; rfl)
  · refine cast (congrArg (fun l => (Rp.slice Rp.entry).rel w S l x.entries) ?_) h5
    first | rfl | (simp only [List.drop_drop]; rfl)
  · refine cast (congrArg (fun l => (Rp.slice Rp.key).rel w S l x.cache) ?_) h6
    have e : cs.drop 24 = (cs.drop 24).take 1 := (List.take_of_length_le (by simp [hl])).symm
    refine Eq.trans ?_ e
    first | rfl | (simp only [List.drop_drop]; rfl)
theorem Rp.state_mk {w : World} {S : Fp} {cs : List Value} {x : MState} (hl : cs.length = 25)
    (h0 : Rp.config.rel w S ((cs.drop 0).take 12) x.config)
    (h1 : Rp.app.rel w S ((cs.drop 12).take 8) x.app)
    (h2 : (Rp.int .i64).rel w S ((cs.drop 20).take 1) x.height)
    (h3 : (Rp.int .i64).rel w S ((cs.drop 21).take 1) x.time)
    (h4 : (Rp.int .i64).rel w S ((cs.drop 22).take 1) x.arrived)
    (h5 : (Rp.slice Rp.entry).rel w S ((cs.drop 23).take 1) x.entries)
    (h6 : (Rp.slice Rp.key).rel w S ((cs.drop 24).take 1) x.cache)
    : Rp.state.rel w S cs x := by
  show (Rp.pair Rp.config (Rp.pair Rp.app (Rp.pair (Rp.int .i64) (Rp.pair (Rp.int .i64) (Rp.pair (Rp.int .i64) (Rp.pair (Rp.slice Rp.entry) (Rp.slice Rp.key))))))).rel w S cs (x.config, x.app, x.height, x.time, x.arrived, x.entries, x.cache)
  simp only [Rp.pair_iff]
  refine ⟨?_, ?_, ?_, ?_, ?_, ?_, ?_⟩
  · refine cast (congrArg (fun l => Rp.config.rel w S l x.config) ?_) h0
    first | rfl | (simp only [List.drop_drop]; rfl)
  · refine cast (congrArg (fun l => Rp.app.rel w S l x.app) ?_) h1
    first | rfl | (simp only [List.drop_drop]; rfl)
  · refine cast (congrArg (fun l => (Rp.int .i64).rel w S l x.height) ?_) h2
    first | rfl | (simp only [List.drop_drop]; rfl)
  · refine cast (congrArg (fun l => (Rp.int .i64).rel w S l x.time) ?_) h3
    first | rfl | (simp only [List.drop_drop]; rfl)
  · refine cast (congrArg (fun l => (Rp.int .i64).rel w S l x.arrived) ?_) h4
    first | rfl | (simp only [List.drop_drop]; rfl)
  · refine cast (congrArg (fun l => (Rp.slice Rp.entry).rel w S l x.entries) ?_) h5
    first | rfl | (simp only [List.drop_drop]; rfl)
  · refine cast (congrArg (fun l => (Rp.slice Rp.key).rel w S l x.cache) ?_) h6
    have e : cs.drop 24 = (cs.drop 24).take 1 := (List.take_of_length_le (by simp [hl])).symm
    refine e.symm.trans ?_
    first | rfl | (simp only [List.drop_drop]; rfl)

structure MReply where
  err : Int
  key : List Int
  priority : Int
  evicted : List (List Int)
  expired : List (List Int)
  invalid : List (List Int)
  done : List (List Int)
  flushed : List (List Int)
  txs : List (List Int)
  height : Int
  digest : List Int
  deriving DecidableEq, Inhabited
def Rp.reply : Rp MReply := Rp.via (fun x => (x.err, x.key, x.priority, x.evicted, x.expired, x.invalid, x.done, x.flushed, x.txs, x.height, x.digest)) (Rp.pair (Rp.int .i64) (Rp.pair Rp.key (Rp.pair (Rp.int .u64) (Rp.pair (Rp.slice Rp.key) (Rp.pair (Rp.slice Rp.key) (Rp.pair (Rp.slice Rp.key) (Rp.pair (Rp.slice Rp.key) (Rp.pair (Rp.slice Rp.key) (Rp.pair (Rp.slice Rp.bytes) (Rp.pair (Rp.int .i64) Rp.key))))))))))
theorem Rp.reply_size : Rp.reply.size = 73 := rfl
theorem Rp.reply_fields {w : World} {S : Fp} {cs : List Value} {x : MReply} (h : Rp.reply.rel w S cs x) :
    (Rp.int .i64).rel w S ((cs.drop 0).take 1) x.err ∧
    Rp.key.rel w S ((cs.drop 1).take 32) x.key ∧
    (Rp.int .u64).rel w S ((cs.drop 33).take 1) x.priority ∧
    (Rp.slice Rp.key).rel w S ((cs.drop 34).take 1) x.evicted ∧
    (Rp.slice Rp.key).rel w S ((cs.drop 35).take 1) x.expired ∧
    (Rp.slice Rp.key).rel w S ((cs.drop 36).take 1) x.invalid ∧
    (Rp.slice Rp.key).rel w S ((cs.drop 37).take 1) x.done ∧
    (Rp.slice Rp.key).rel w S ((cs.drop 38).take 1) x.flushed ∧
    (Rp.slice Rp.bytes).rel w S ((cs.drop 39).take 1) x.txs ∧
    (Rp.int .i64).rel w S ((cs.drop 40).take 1) x.height ∧
    Rp.key.rel w S ((cs.drop 41).take 32) x.digest := by
  have hl : cs.length = 73 := Rp.reply.len h
  have h : (Rp.pair (Rp.int .i64) (Rp.pair Rp.key (Rp.pair (Rp.int .u64) (Rp.pair (Rp.slice Rp.key) (Rp.pair (Rp.slice Rp.key) (Rp.pair (Rp.slice Rp.key) (Rp.pair (Rp.slice Rp.key) (Rp.pair (Rp.slice Rp.key) (Rp.pair (Rp.slice Rp.bytes) (Rp.pair (Rp.int .i64) Rp.key)))))))))).rel w S cs (x.err, x.key, x.priority, x.evicted, x.expired, x.invalid, x.done, x.flushed, x.txs, x.height, x.digest) := h
  simp only [Rp.pair_iff] at h
  obtain ⟨h0, h1, h2, h3, h4, h5, h6, h7, h8, h9, h10⟩ := h
  refine ⟨?_, ?_, ?_, ?_, ?_, ?_, ?_, ?_, ?_, ?_, ?_⟩
  · refine cast (congrArg (fun l => (Rp.int .i64).rel w S l x.err) ?_) h0
    first | rfl | (simp only [List.drop_drop]; rfl)
  · refine cast (congrArg (fun l => Rp.key.rel w S l x.key) ?_) h1
    first | rfl | (simp only [List.drop_drop]; rfl)
  · refine cast (congrArg (fun l => (Rp.int .u64).rel w S l x.priority) ?_) h2
    first | rfl | (simp only [List.drop_drop]; rfl)
  · refine cast (congrArg (fun l => (Rp.slice Rp.key).rel w S l x.evicted) ?_) h3
    first | rfl | (simp only [List.drop_drop]; rfl)
  · refine cast (congrArg (fun l => (Rp.slice Rp.key).rel w S l x.expired) ?_) h4
    first | rfl | (simp only [List.drop_drop]; rfl)
  · refine cast (congrArg (fun l => (Rp.slice Rp.key).rel w S l x.invalid) ?_) h5
    first | rfl | (simp only [List.drop_drop]; rfl)
  · refine cast (congrArg (fun l => (Rp.slice Rp.key).rel w S l x.done) ?_) h6
    first | rfl | (simp only [List.drop_drop]; rfl)
  · refine cast (congrArg (fun l => (Rp.slice Rp.key).rel w S l x.flushed) ?_) h7
    first | rfl | (simp only [List.drop_drop]; rfl)
  · refine cast (congrArg (fun l => (Rp.slice Rp.bytes).rel w S l x.txs) ?_) h8
    first | rfl | (simp only [List.drop_drop]; rfl)
  · refine cast (congrArg (fun l => (Rp.int .i64).rel w S l x.height) ?_) h9
    first | rfl | (simp only [List.drop_drop]; rfl)
  · refine cast (congrArg (fun l => Rp.key.rel w S l x.digest) ?_) h10
    have e : cs.drop 41 = (cs.drop 41).take 32 := (List.take_of_length_le (by simp [hl])).symm
    refine Eq.trans ?_ e
    first | rfl | (simp only [List.drop_drop]; rfl)
theorem Rp.reply_mk {w : World} {S : Fp} {cs : List Value} {x : MReply} (hl : cs.length = 73)
    (h0 : (Rp.int .i64).rel w S ((cs.drop 0).take 1) x.err)
    (h1 : Rp.key.rel w S ((cs.drop 1).take 32) x.key)
    (h2 : (Rp.int .u64).rel w S ((cs.drop 33).take 1) x.priority)
    (h3 : (Rp.slice Rp.key).rel w S ((cs.drop 34).take 1) x.evicted)
    (h4 : (Rp.slice Rp.key).rel w S ((cs.drop 35).take 1) x.expired)
    (h5 : (Rp.slice Rp.key).rel w S ((cs.drop 36).take 1) x.invalid)
    (h6 : (Rp.slice Rp.key).rel w S ((cs.drop 37).take 1) x.done)
    (h7 : (Rp.slice Rp.key).rel w S ((cs.drop 38).take 1) x.flushed)
    (h8 : (Rp.slice Rp.bytes).rel w S ((cs.drop 39).take 1) x.txs)
    (h9 : (Rp.int .i64).rel w S ((cs.drop 40).take 1) x.height)
    (h10 : Rp.key.rel w S ((cs.drop 41).take 32) x.digest)
    : Rp.reply.rel w S cs x := by
  show (Rp.pair (Rp.int .i64) (Rp.pair Rp.key (Rp.pair (Rp.int .u64) (Rp.pair (Rp.slice Rp.key) (Rp.pair (Rp.slice Rp.key) (Rp.pair (Rp.slice Rp.key) (Rp.pair (Rp.slice Rp.key) (Rp.pair (Rp.slice Rp.key) (Rp.pair (Rp.slice Rp.bytes) (Rp.pair (Rp.int .i64) Rp.key)))))))))).rel w S cs (x.err, x.key, x.priority, x.evicted, x.expired, x.invalid, x.done, x.flushed, x.txs, x.height, x.digest)
  simp only [Rp.pair_iff]
  refine ⟨?_, ?_, ?_, ?_, ?_, ?_, ?_, ?_, ?_, ?_, ?_⟩
  · refine cast (congrArg (fun l => (Rp.int .i64).rel w S l x.err) ?_) h0
    first | rfl | (simp only [List.drop_drop]; rfl)
  · refine cast (congrArg (fun l => Rp.key.rel w S l x.key) ?_) h1
    first | rfl | (simp only [List.drop_drop]; rfl)
  · refine cast (congrArg (fun l => (Rp.int .u64).rel w S l x.priority) ?_) h2
    first | rfl | (simp only [List.drop_drop]; rfl)
  · refine cast (congrArg (fun l => (Rp.slice Rp.key).rel w S l x.evicted) ?_) h3
    first | rfl | (simp only [List.drop_drop]; rfl)
  · refine cast (congrArg (fun l => (Rp.slice Rp.key).rel w S l x.expired) ?_) h4
    first | rfl | (simp only [List.drop_drop]; rfl)
  · refine cast (congrArg (fun l => (Rp.slice Rp.key).rel w S l x.invalid) ?_) h5
    first | rfl | (simp only [List.drop_drop]; rfl)
  · refine cast (congrArg (fun l => (Rp.slice Rp.key).rel w S l x.done) ?_) h6
    first | rfl | (simp only [List.drop_drop]; rfl)
  · refine cast (congrArg (fun l => (Rp.slice Rp.key).rel w S l x.flushed) ?_) h7
    first | rfl | (simp only [List.drop_drop]; rfl)
  · refine cast (congrArg (fun l => (Rp.slice Rp.bytes).rel w S l x.txs) ?_) h8
    first | rfl | (simp only [List.drop_drop]; rfl)
  · refine cast (congrArg (fun l => (Rp.int .i64).rel w S l x.height) ?_) h9
    first | rfl | (simp only [List.drop_drop]; rfl)
  · refine cast (congrArg (fun l => Rp.key.rel w S l x.digest) ?_) h10
    have e : cs.drop 41 = (cs.drop 41).take 32 := (List.take_of_length_le (by simp [hl])).symm
    refine e.symm.trans ?_
    first | rfl | (simp only [List.drop_drop]; rfl)

structure MHeader where
  height : Int
  time : Int
  proposer : Int
  parent : List Int
  txs : List Int
  app : List Int
  results : List Int
  deriving DecidableEq, Inhabited
def Rp.header : Rp MHeader := Rp.via (fun x => (x.height, x.time, x.proposer, x.parent, x.txs, x.app, x.results)) (Rp.pair (Rp.int .i64) (Rp.pair (Rp.int .i64) (Rp.pair (Rp.int .i64) (Rp.pair Rp.key (Rp.pair Rp.key (Rp.pair Rp.key Rp.key))))))
theorem Rp.header_size : Rp.header.size = 131 := rfl
theorem Rp.header_fields {w : World} {S : Fp} {cs : List Value} {x : MHeader} (h : Rp.header.rel w S cs x) :
    (Rp.int .i64).rel w S ((cs.drop 0).take 1) x.height ∧
    (Rp.int .i64).rel w S ((cs.drop 1).take 1) x.time ∧
    (Rp.int .i64).rel w S ((cs.drop 2).take 1) x.proposer ∧
    Rp.key.rel w S ((cs.drop 3).take 32) x.parent ∧
    Rp.key.rel w S ((cs.drop 35).take 32) x.txs ∧
    Rp.key.rel w S ((cs.drop 67).take 32) x.app ∧
    Rp.key.rel w S ((cs.drop 99).take 32) x.results := by
  have hl : cs.length = 131 := Rp.header.len h
  have h : (Rp.pair (Rp.int .i64) (Rp.pair (Rp.int .i64) (Rp.pair (Rp.int .i64) (Rp.pair Rp.key (Rp.pair Rp.key (Rp.pair Rp.key Rp.key)))))).rel w S cs (x.height, x.time, x.proposer, x.parent, x.txs, x.app, x.results) := h
  simp only [Rp.pair_iff] at h
  obtain ⟨h0, h1, h2, h3, h4, h5, h6⟩ := h
  refine ⟨?_, ?_, ?_, ?_, ?_, ?_, ?_⟩
  · refine cast (congrArg (fun l => (Rp.int .i64).rel w S l x.height) ?_) h0
    first | rfl | (simp only [List.drop_drop]; rfl)
  · refine cast (congrArg (fun l => (Rp.int .i64).rel w S l x.time) ?_) h1
    first | rfl | (simp only [List.drop_drop]; rfl)
  · refine cast (congrArg (fun l => (Rp.int .i64).rel w S l x.proposer) ?_) h2
    first | rfl | (simp only [List.drop_drop]; rfl)
  · refine cast (congrArg (fun l => Rp.key.rel w S l x.parent) ?_) h3
    first | rfl | (simp only [List.drop_drop]; rfl)
  · refine cast (congrArg (fun l => Rp.key.rel w S l x.txs) ?_) h4
    first | rfl | (simp only [List.drop_drop]; rfl)
  · refine cast (congrArg (fun l => Rp.key.rel w S l x.app) ?_) h5
    first | rfl | (simp only [List.drop_drop]; rfl)
  · refine cast (congrArg (fun l => Rp.key.rel w S l x.results) ?_) h6
    have e : cs.drop 99 = (cs.drop 99).take 32 := (List.take_of_length_le (by simp [hl])).symm
    refine Eq.trans ?_ e
    first | rfl | (simp only [List.drop_drop]; rfl)
theorem Rp.header_mk {w : World} {S : Fp} {cs : List Value} {x : MHeader} (hl : cs.length = 131)
    (h0 : (Rp.int .i64).rel w S ((cs.drop 0).take 1) x.height)
    (h1 : (Rp.int .i64).rel w S ((cs.drop 1).take 1) x.time)
    (h2 : (Rp.int .i64).rel w S ((cs.drop 2).take 1) x.proposer)
    (h3 : Rp.key.rel w S ((cs.drop 3).take 32) x.parent)
    (h4 : Rp.key.rel w S ((cs.drop 35).take 32) x.txs)
    (h5 : Rp.key.rel w S ((cs.drop 67).take 32) x.app)
    (h6 : Rp.key.rel w S ((cs.drop 99).take 32) x.results)
    : Rp.header.rel w S cs x := by
  show (Rp.pair (Rp.int .i64) (Rp.pair (Rp.int .i64) (Rp.pair (Rp.int .i64) (Rp.pair Rp.key (Rp.pair Rp.key (Rp.pair Rp.key Rp.key)))))).rel w S cs (x.height, x.time, x.proposer, x.parent, x.txs, x.app, x.results)
  simp only [Rp.pair_iff]
  refine ⟨?_, ?_, ?_, ?_, ?_, ?_, ?_⟩
  · refine cast (congrArg (fun l => (Rp.int .i64).rel w S l x.height) ?_) h0
    first | rfl | (simp only [List.drop_drop]; rfl)
  · refine cast (congrArg (fun l => (Rp.int .i64).rel w S l x.time) ?_) h1
    first | rfl | (simp only [List.drop_drop]; rfl)
  · refine cast (congrArg (fun l => (Rp.int .i64).rel w S l x.proposer) ?_) h2
    first | rfl | (simp only [List.drop_drop]; rfl)
  · refine cast (congrArg (fun l => Rp.key.rel w S l x.parent) ?_) h3
    first | rfl | (simp only [List.drop_drop]; rfl)
  · refine cast (congrArg (fun l => Rp.key.rel w S l x.txs) ?_) h4
    first | rfl | (simp only [List.drop_drop]; rfl)
  · refine cast (congrArg (fun l => Rp.key.rel w S l x.app) ?_) h5
    first | rfl | (simp only [List.drop_drop]; rfl)
  · refine cast (congrArg (fun l => Rp.key.rel w S l x.results) ?_) h6
    have e : cs.drop 99 = (cs.drop 99).take 32 := (List.take_of_length_le (by simp [hl])).symm
    refine e.symm.trans ?_
    first | rfl | (simp only [List.drop_drop]; rfl)

structure MBlock where
  header : MHeader
  txs : List (List Int)
  deriving DecidableEq, Inhabited
def Rp.block : Rp MBlock := Rp.via (fun x => (x.header, x.txs)) (Rp.pair Rp.header (Rp.slice Rp.bytes))
theorem Rp.block_size : Rp.block.size = 132 := rfl
theorem Rp.block_fields {w : World} {S : Fp} {cs : List Value} {x : MBlock} (h : Rp.block.rel w S cs x) :
    Rp.header.rel w S ((cs.drop 0).take 131) x.header ∧
    (Rp.slice Rp.bytes).rel w S ((cs.drop 131).take 1) x.txs := by
  have hl : cs.length = 132 := Rp.block.len h
  have h : (Rp.pair Rp.header (Rp.slice Rp.bytes)).rel w S cs (x.header, x.txs) := h
  simp only [Rp.pair_iff] at h
  obtain ⟨h0, h1⟩ := h
  refine ⟨?_, ?_⟩
  · refine cast (congrArg (fun l => Rp.header.rel w S l x.header) ?_) h0
    first | rfl | (simp only [List.drop_drop]; rfl)
  · refine cast (congrArg (fun l => (Rp.slice Rp.bytes).rel w S l x.txs) ?_) h1
    have e : cs.drop 131 = (cs.drop 131).take 1 := (List.take_of_length_le (by simp [hl])).symm
    refine Eq.trans ?_ e
    first | rfl | (simp only [List.drop_drop]; rfl)
theorem Rp.block_mk {w : World} {S : Fp} {cs : List Value} {x : MBlock} (hl : cs.length = 132)
    (h0 : Rp.header.rel w S ((cs.drop 0).take 131) x.header)
    (h1 : (Rp.slice Rp.bytes).rel w S ((cs.drop 131).take 1) x.txs)
    : Rp.block.rel w S cs x := by
  show (Rp.pair Rp.header (Rp.slice Rp.bytes)).rel w S cs (x.header, x.txs)
  simp only [Rp.pair_iff]
  refine ⟨?_, ?_⟩
  · refine cast (congrArg (fun l => Rp.header.rel w S l x.header) ?_) h0
    first | rfl | (simp only [List.drop_drop]; rfl)
  · refine cast (congrArg (fun l => (Rp.slice Rp.bytes).rel w S l x.txs) ?_) h1
    have e : cs.drop 131 = (cs.drop 131).take 1 := (List.take_of_length_le (by simp [hl])).symm
    refine e.symm.trans ?_
    first | rfl | (simp only [List.drop_drop]; rfl)

structure MTip where
  height : Int
  time : Int
  hash : List Int
  app : List Int
  results : List Int
  deriving DecidableEq, Inhabited
def Rp.tip : Rp MTip := Rp.via (fun x => (x.height, x.time, x.hash, x.app, x.results)) (Rp.pair (Rp.int .i64) (Rp.pair (Rp.int .i64) (Rp.pair Rp.key (Rp.pair Rp.key Rp.key))))
theorem Rp.tip_size : Rp.tip.size = 98 := rfl
theorem Rp.tip_fields {w : World} {S : Fp} {cs : List Value} {x : MTip} (h : Rp.tip.rel w S cs x) :
    (Rp.int .i64).rel w S ((cs.drop 0).take 1) x.height ∧
    (Rp.int .i64).rel w S ((cs.drop 1).take 1) x.time ∧
    Rp.key.rel w S ((cs.drop 2).take 32) x.hash ∧
    Rp.key.rel w S ((cs.drop 34).take 32) x.app ∧
    Rp.key.rel w S ((cs.drop 66).take 32) x.results := by
  have hl : cs.length = 98 := Rp.tip.len h
  have h : (Rp.pair (Rp.int .i64) (Rp.pair (Rp.int .i64) (Rp.pair Rp.key (Rp.pair Rp.key Rp.key)))).rel w S cs (x.height, x.time, x.hash, x.app, x.results) := h
  simp only [Rp.pair_iff] at h
  obtain ⟨h0, h1, h2, h3, h4⟩ := h
  refine ⟨?_, ?_, ?_, ?_, ?_⟩
  · refine cast (congrArg (fun l => (Rp.int .i64).rel w S l x.height) ?_) h0
    first | rfl | (simp only [List.drop_drop]; rfl)
  · refine cast (congrArg (fun l => (Rp.int .i64).rel w S l x.time) ?_) h1
    first | rfl | (simp only [List.drop_drop]; rfl)
  · refine cast (congrArg (fun l => Rp.key.rel w S l x.hash) ?_) h2
    first | rfl | (simp only [List.drop_drop]; rfl)
  · refine cast (congrArg (fun l => Rp.key.rel w S l x.app) ?_) h3
    first | rfl | (simp only [List.drop_drop]; rfl)
  · refine cast (congrArg (fun l => Rp.key.rel w S l x.results) ?_) h4
    have e : cs.drop 66 = (cs.drop 66).take 32 := (List.take_of_length_le (by simp [hl])).symm
    refine Eq.trans ?_ e
    first | rfl | (simp only [List.drop_drop]; rfl)
theorem Rp.tip_mk {w : World} {S : Fp} {cs : List Value} {x : MTip} (hl : cs.length = 98)
    (h0 : (Rp.int .i64).rel w S ((cs.drop 0).take 1) x.height)
    (h1 : (Rp.int .i64).rel w S ((cs.drop 1).take 1) x.time)
    (h2 : Rp.key.rel w S ((cs.drop 2).take 32) x.hash)
    (h3 : Rp.key.rel w S ((cs.drop 34).take 32) x.app)
    (h4 : Rp.key.rel w S ((cs.drop 66).take 32) x.results)
    : Rp.tip.rel w S cs x := by
  show (Rp.pair (Rp.int .i64) (Rp.pair (Rp.int .i64) (Rp.pair Rp.key (Rp.pair Rp.key Rp.key)))).rel w S cs (x.height, x.time, x.hash, x.app, x.results)
  simp only [Rp.pair_iff]
  refine ⟨?_, ?_, ?_, ?_, ?_⟩
  · refine cast (congrArg (fun l => (Rp.int .i64).rel w S l x.height) ?_) h0
    first | rfl | (simp only [List.drop_drop]; rfl)
  · refine cast (congrArg (fun l => (Rp.int .i64).rel w S l x.time) ?_) h1
    first | rfl | (simp only [List.drop_drop]; rfl)
  · refine cast (congrArg (fun l => Rp.key.rel w S l x.hash) ?_) h2
    first | rfl | (simp only [List.drop_drop]; rfl)
  · refine cast (congrArg (fun l => Rp.key.rel w S l x.app) ?_) h3
    first | rfl | (simp only [List.drop_drop]; rfl)
  · refine cast (congrArg (fun l => Rp.key.rel w S l x.results) ?_) h4
    have e : cs.drop 66 = (cs.drop 66).take 32 := (List.take_of_length_le (by simp [hl])).symm
    refine e.symm.trans ?_
    first | rfl | (simp only [List.drop_drop]; rfl)

structure MOp where
  kind : Int
  n : Int
  bytes : Int
  gas : Int
  raw : List Int
  deriving DecidableEq, Inhabited
def Rp.op : Rp MOp := Rp.via (fun x => (x.kind, x.n, x.bytes, x.gas, x.raw)) (Rp.pair (Rp.int .i64) (Rp.pair (Rp.int .i64) (Rp.pair (Rp.int .i64) (Rp.pair (Rp.int .i64) Rp.bytes))))
theorem Rp.op_size : Rp.op.size = 5 := rfl
theorem Rp.op_fields {w : World} {S : Fp} {cs : List Value} {x : MOp} (h : Rp.op.rel w S cs x) :
    (Rp.int .i64).rel w S ((cs.drop 0).take 1) x.kind ∧
    (Rp.int .i64).rel w S ((cs.drop 1).take 1) x.n ∧
    (Rp.int .i64).rel w S ((cs.drop 2).take 1) x.bytes ∧
    (Rp.int .i64).rel w S ((cs.drop 3).take 1) x.gas ∧
    Rp.bytes.rel w S ((cs.drop 4).take 1) x.raw := by
  have hl : cs.length = 5 := Rp.op.len h
  have h : (Rp.pair (Rp.int .i64) (Rp.pair (Rp.int .i64) (Rp.pair (Rp.int .i64) (Rp.pair (Rp.int .i64) Rp.bytes)))).rel w S cs (x.kind, x.n, x.bytes, x.gas, x.raw) := h
  simp only [Rp.pair_iff] at h
  obtain ⟨h0, h1, h2, h3, h4⟩ := h
  refine ⟨?_, ?_, ?_, ?_, ?_⟩
  · refine cast (congrArg (fun l => (Rp.int .i64).rel w S l x.kind) ?_) h0
    first | rfl | (simp only [List.drop_drop]; rfl)
  · refine cast (congrArg (fun l => (Rp.int .i64).rel w S l x.n) ?_) h1
    first | rfl | (simp only [List.drop_drop]; rfl)
  · refine cast (congrArg (fun l => (Rp.int .i64).rel w S l x.bytes) ?_) h2
    first | rfl | (simp only [List.drop_drop]; rfl)
  · refine cast (congrArg (fun l => (Rp.int .i64).rel w S l x.gas) ?_) h3
    first | rfl | (simp only [List.drop_drop]; rfl)
  · refine cast (congrArg (fun l => Rp.bytes.rel w S l x.raw) ?_) h4
    have e : cs.drop 4 = (cs.drop 4).take 1 := (List.take_of_length_le (by simp [hl])).symm
    refine Eq.trans ?_ e
    first | rfl | (simp only [List.drop_drop]; rfl)
theorem Rp.op_mk {w : World} {S : Fp} {cs : List Value} {x : MOp} (hl : cs.length = 5)
    (h0 : (Rp.int .i64).rel w S ((cs.drop 0).take 1) x.kind)
    (h1 : (Rp.int .i64).rel w S ((cs.drop 1).take 1) x.n)
    (h2 : (Rp.int .i64).rel w S ((cs.drop 2).take 1) x.bytes)
    (h3 : (Rp.int .i64).rel w S ((cs.drop 3).take 1) x.gas)
    (h4 : Rp.bytes.rel w S ((cs.drop 4).take 1) x.raw)
    : Rp.op.rel w S cs x := by
  show (Rp.pair (Rp.int .i64) (Rp.pair (Rp.int .i64) (Rp.pair (Rp.int .i64) (Rp.pair (Rp.int .i64) Rp.bytes)))).rel w S cs (x.kind, x.n, x.bytes, x.gas, x.raw)
  simp only [Rp.pair_iff]
  refine ⟨?_, ?_, ?_, ?_, ?_⟩
  · refine cast (congrArg (fun l => (Rp.int .i64).rel w S l x.kind) ?_) h0
    first | rfl | (simp only [List.drop_drop]; rfl)
  · refine cast (congrArg (fun l => (Rp.int .i64).rel w S l x.n) ?_) h1
    first | rfl | (simp only [List.drop_drop]; rfl)
  · refine cast (congrArg (fun l => (Rp.int .i64).rel w S l x.bytes) ?_) h2
    first | rfl | (simp only [List.drop_drop]; rfl)
  · refine cast (congrArg (fun l => (Rp.int .i64).rel w S l x.gas) ?_) h3
    first | rfl | (simp only [List.drop_drop]; rfl)
  · refine cast (congrArg (fun l => Rp.bytes.rel w S l x.raw) ?_) h4
    have e : cs.drop 4 = (cs.drop 4).take 1 := (List.take_of_length_le (by simp [hl])).symm
    refine e.symm.trans ?_
    first | rfl | (simp only [List.drop_drop]; rfl)

structure MCounts where
  submitted : Int
  refused : Int
  admitted : Int
  committed : Int
  evicted : Int
  expired : Int
  invalid : Int
  flushed : Int
  pending : Int
  deriving DecidableEq, Inhabited
def Rp.counts : Rp MCounts := Rp.via (fun x => (x.submitted, x.refused, x.admitted, x.committed, x.evicted, x.expired, x.invalid, x.flushed, x.pending)) (Rp.pair (Rp.int .i64) (Rp.pair (Rp.int .i64) (Rp.pair (Rp.int .i64) (Rp.pair (Rp.int .i64) (Rp.pair (Rp.int .i64) (Rp.pair (Rp.int .i64) (Rp.pair (Rp.int .i64) (Rp.pair (Rp.int .i64) (Rp.int .i64)))))))))
theorem Rp.counts_size : Rp.counts.size = 9 := rfl
theorem Rp.counts_fields {w : World} {S : Fp} {cs : List Value} {x : MCounts} (h : Rp.counts.rel w S cs x) :
    (Rp.int .i64).rel w S ((cs.drop 0).take 1) x.submitted ∧
    (Rp.int .i64).rel w S ((cs.drop 1).take 1) x.refused ∧
    (Rp.int .i64).rel w S ((cs.drop 2).take 1) x.admitted ∧
    (Rp.int .i64).rel w S ((cs.drop 3).take 1) x.committed ∧
    (Rp.int .i64).rel w S ((cs.drop 4).take 1) x.evicted ∧
    (Rp.int .i64).rel w S ((cs.drop 5).take 1) x.expired ∧
    (Rp.int .i64).rel w S ((cs.drop 6).take 1) x.invalid ∧
    (Rp.int .i64).rel w S ((cs.drop 7).take 1) x.flushed ∧
    (Rp.int .i64).rel w S ((cs.drop 8).take 1) x.pending := by
  have hl : cs.length = 9 := Rp.counts.len h
  have h : (Rp.pair (Rp.int .i64) (Rp.pair (Rp.int .i64) (Rp.pair (Rp.int .i64) (Rp.pair (Rp.int .i64) (Rp.pair (Rp.int .i64) (Rp.pair (Rp.int .i64) (Rp.pair (Rp.int .i64) (Rp.pair (Rp.int .i64) (Rp.int .i64))))))))).rel w S cs (x.submitted, x.refused, x.admitted, x.committed, x.evicted, x.expired, x.invalid, x.flushed, x.pending) := h
  simp only [Rp.pair_iff] at h
  obtain ⟨h0, h1, h2, h3, h4, h5, h6, h7, h8⟩ := h
  refine ⟨?_, ?_, ?_, ?_, ?_, ?_, ?_, ?_, ?_⟩
  · refine cast (congrArg (fun l => (Rp.int .i64).rel w S l x.submitted) ?_) h0
    first | rfl | (simp only [List.drop_drop]; rfl)
  · refine cast (congrArg (fun l => (Rp.int .i64).rel w S l x.refused) ?_) h1
    first | rfl | (simp only [List.drop_drop]; rfl)
  · refine cast (congrArg (fun l => (Rp.int .i64).rel w S l x.admitted) ?_) h2
    first | rfl | (simp only [List.drop_drop]; rfl)
  · refine cast (congrArg (fun l => (Rp.int .i64).rel w S l x.committed) ?_) h3
    first | rfl | (simp only [List.drop_drop]; rfl)
  · refine cast (congrArg (fun l => (Rp.int .i64).rel w S l x.evicted) ?_) h4
    first | rfl | (simp only [List.drop_drop]; rfl)
  · refine cast (congrArg (fun l => (Rp.int .i64).rel w S l x.expired) ?_) h5
    first | rfl | (simp only [List.drop_drop]; rfl)
  · refine cast (congrArg (fun l => (Rp.int .i64).rel w S l x.invalid) ?_) h6
    first | rfl | (simp only [List.drop_drop]; rfl)
  · refine cast (congrArg (fun l => (Rp.int .i64).rel w S l x.flushed) ?_) h7
    first | rfl | (simp only [List.drop_drop]; rfl)
  · refine cast (congrArg (fun l => (Rp.int .i64).rel w S l x.pending) ?_) h8
    have e : cs.drop 8 = (cs.drop 8).take 1 := (List.take_of_length_le (by simp [hl])).symm
    refine Eq.trans ?_ e
    first | rfl | (simp only [List.drop_drop]; rfl)
theorem Rp.counts_mk {w : World} {S : Fp} {cs : List Value} {x : MCounts} (hl : cs.length = 9)
    (h0 : (Rp.int .i64).rel w S ((cs.drop 0).take 1) x.submitted)
    (h1 : (Rp.int .i64).rel w S ((cs.drop 1).take 1) x.refused)
    (h2 : (Rp.int .i64).rel w S ((cs.drop 2).take 1) x.admitted)
    (h3 : (Rp.int .i64).rel w S ((cs.drop 3).take 1) x.committed)
    (h4 : (Rp.int .i64).rel w S ((cs.drop 4).take 1) x.evicted)
    (h5 : (Rp.int .i64).rel w S ((cs.drop 5).take 1) x.expired)
    (h6 : (Rp.int .i64).rel w S ((cs.drop 6).take 1) x.invalid)
    (h7 : (Rp.int .i64).rel w S ((cs.drop 7).take 1) x.flushed)
    (h8 : (Rp.int .i64).rel w S ((cs.drop 8).take 1) x.pending)
    : Rp.counts.rel w S cs x := by
  show (Rp.pair (Rp.int .i64) (Rp.pair (Rp.int .i64) (Rp.pair (Rp.int .i64) (Rp.pair (Rp.int .i64) (Rp.pair (Rp.int .i64) (Rp.pair (Rp.int .i64) (Rp.pair (Rp.int .i64) (Rp.pair (Rp.int .i64) (Rp.int .i64))))))))).rel w S cs (x.submitted, x.refused, x.admitted, x.committed, x.evicted, x.expired, x.invalid, x.flushed, x.pending)
  simp only [Rp.pair_iff]
  refine ⟨?_, ?_, ?_, ?_, ?_, ?_, ?_, ?_, ?_⟩
  · refine cast (congrArg (fun l => (Rp.int .i64).rel w S l x.submitted) ?_) h0
    first | rfl | (simp only [List.drop_drop]; rfl)
  · refine cast (congrArg (fun l => (Rp.int .i64).rel w S l x.refused) ?_) h1
    first | rfl | (simp only [List.drop_drop]; rfl)
  · refine cast (congrArg (fun l => (Rp.int .i64).rel w S l x.admitted) ?_) h2
    first | rfl | (simp only [List.drop_drop]; rfl)
  · refine cast (congrArg (fun l => (Rp.int .i64).rel w S l x.committed) ?_) h3
    first | rfl | (simp only [List.drop_drop]; rfl)
  · refine cast (congrArg (fun l => (Rp.int .i64).rel w S l x.evicted) ?_) h4
    first | rfl | (simp only [List.drop_drop]; rfl)
  · refine cast (congrArg (fun l => (Rp.int .i64).rel w S l x.expired) ?_) h5
    first | rfl | (simp only [List.drop_drop]; rfl)
  · refine cast (congrArg (fun l => (Rp.int .i64).rel w S l x.invalid) ?_) h6
    first | rfl | (simp only [List.drop_drop]; rfl)
  · refine cast (congrArg (fun l => (Rp.int .i64).rel w S l x.flushed) ?_) h7
    first | rfl | (simp only [List.drop_drop]; rfl)
  · refine cast (congrArg (fun l => (Rp.int .i64).rel w S l x.pending) ?_) h8
    have e : cs.drop 8 = (cs.drop 8).take 1 := (List.take_of_length_le (by simp [hl])).symm
    refine e.symm.trans ?_
    first | rfl | (simp only [List.drop_drop]; rfl)

structure MNetEvent where
  kind : Int
  a : Int
  b : Int
  n : Int
  raw : List Int
  deriving DecidableEq, Inhabited
def Rp.netEvent : Rp MNetEvent := Rp.via (fun x => (x.kind, x.a, x.b, x.n, x.raw)) (Rp.pair (Rp.int .i64) (Rp.pair (Rp.int .i64) (Rp.pair (Rp.int .i64) (Rp.pair (Rp.int .i64) Rp.bytes))))
theorem Rp.netEvent_size : Rp.netEvent.size = 5 := rfl
theorem Rp.netEvent_fields {w : World} {S : Fp} {cs : List Value} {x : MNetEvent} (h : Rp.netEvent.rel w S cs x) :
    (Rp.int .i64).rel w S ((cs.drop 0).take 1) x.kind ∧
    (Rp.int .i64).rel w S ((cs.drop 1).take 1) x.a ∧
    (Rp.int .i64).rel w S ((cs.drop 2).take 1) x.b ∧
    (Rp.int .i64).rel w S ((cs.drop 3).take 1) x.n ∧
    Rp.bytes.rel w S ((cs.drop 4).take 1) x.raw := by
  have hl : cs.length = 5 := Rp.netEvent.len h
  have h : (Rp.pair (Rp.int .i64) (Rp.pair (Rp.int .i64) (Rp.pair (Rp.int .i64) (Rp.pair (Rp.int .i64) Rp.bytes)))).rel w S cs (x.kind, x.a, x.b, x.n, x.raw) := h
  simp only [Rp.pair_iff] at h
  obtain ⟨h0, h1, h2, h3, h4⟩ := h
  refine ⟨?_, ?_, ?_, ?_, ?_⟩
  · refine cast (congrArg (fun l => (Rp.int .i64).rel w S l x.kind) ?_) h0
    first | rfl | (simp only [List.drop_drop]; rfl)
  · refine cast (congrArg (fun l => (Rp.int .i64).rel w S l x.a) ?_) h1
    first | rfl | (simp only [List.drop_drop]; rfl)
  · refine cast (congrArg (fun l => (Rp.int .i64).rel w S l x.b) ?_) h2
    first | rfl | (simp only [List.drop_drop]; rfl)
  · refine cast (congrArg (fun l => (Rp.int .i64).rel w S l x.n) ?_) h3
    first | rfl | (simp only [List.drop_drop]; rfl)
  · refine cast (congrArg (fun l => Rp.bytes.rel w S l x.raw) ?_) h4
    have e : cs.drop 4 = (cs.drop 4).take 1 := (List.take_of_length_le (by simp [hl])).symm
    refine Eq.trans ?_ e
    first | rfl | (simp only [List.drop_drop]; rfl)
theorem Rp.netEvent_mk {w : World} {S : Fp} {cs : List Value} {x : MNetEvent} (hl : cs.length = 5)
    (h0 : (Rp.int .i64).rel w S ((cs.drop 0).take 1) x.kind)
    (h1 : (Rp.int .i64).rel w S ((cs.drop 1).take 1) x.a)
    (h2 : (Rp.int .i64).rel w S ((cs.drop 2).take 1) x.b)
    (h3 : (Rp.int .i64).rel w S ((cs.drop 3).take 1) x.n)
    (h4 : Rp.bytes.rel w S ((cs.drop 4).take 1) x.raw)
    : Rp.netEvent.rel w S cs x := by
  show (Rp.pair (Rp.int .i64) (Rp.pair (Rp.int .i64) (Rp.pair (Rp.int .i64) (Rp.pair (Rp.int .i64) Rp.bytes)))).rel w S cs (x.kind, x.a, x.b, x.n, x.raw)
  simp only [Rp.pair_iff]
  refine ⟨?_, ?_, ?_, ?_, ?_⟩
  · refine cast (congrArg (fun l => (Rp.int .i64).rel w S l x.kind) ?_) h0
    first | rfl | (simp only [List.drop_drop]; rfl)
  · refine cast (congrArg (fun l => (Rp.int .i64).rel w S l x.a) ?_) h1
    first | rfl | (simp only [List.drop_drop]; rfl)
  · refine cast (congrArg (fun l => (Rp.int .i64).rel w S l x.b) ?_) h2
    first | rfl | (simp only [List.drop_drop]; rfl)
  · refine cast (congrArg (fun l => (Rp.int .i64).rel w S l x.n) ?_) h3
    first | rfl | (simp only [List.drop_drop]; rfl)
  · refine cast (congrArg (fun l => Rp.bytes.rel w S l x.raw) ?_) h4
    have e : cs.drop 4 = (cs.drop 4).take 1 := (List.take_of_length_le (by simp [hl])).symm
    refine e.symm.trans ?_
    first | rfl | (simp only [List.drop_drop]; rfl)

structure MLetter where
  src : Int
  dst : Int
  block : Bool
  raw : List Int
  deriving DecidableEq, Inhabited
def Rp.letter : Rp MLetter := Rp.via (fun x => (x.src, x.dst, x.block, x.raw)) (Rp.pair (Rp.int .i64) (Rp.pair (Rp.int .i64) (Rp.pair Rp.bool Rp.bytes)))
theorem Rp.letter_size : Rp.letter.size = 4 := rfl
theorem Rp.letter_fields {w : World} {S : Fp} {cs : List Value} {x : MLetter} (h : Rp.letter.rel w S cs x) :
    (Rp.int .i64).rel w S ((cs.drop 0).take 1) x.src ∧
    (Rp.int .i64).rel w S ((cs.drop 1).take 1) x.dst ∧
    Rp.bool.rel w S ((cs.drop 2).take 1) x.block ∧
    Rp.bytes.rel w S ((cs.drop 3).take 1) x.raw := by
  have hl : cs.length = 4 := Rp.letter.len h
  have h : (Rp.pair (Rp.int .i64) (Rp.pair (Rp.int .i64) (Rp.pair Rp.bool Rp.bytes))).rel w S cs (x.src, x.dst, x.block, x.raw) := h
  simp only [Rp.pair_iff] at h
  obtain ⟨h0, h1, h2, h3⟩ := h
  refine ⟨?_, ?_, ?_, ?_⟩
  · refine cast (congrArg (fun l => (Rp.int .i64).rel w S l x.src) ?_) h0
    first | rfl | (simp only [List.drop_drop]; rfl)
  · refine cast (congrArg (fun l => (Rp.int .i64).rel w S l x.dst) ?_) h1
    first | rfl | (simp only [List.drop_drop]; rfl)
  · refine cast (congrArg (fun l => Rp.bool.rel w S l x.block) ?_) h2
    first | rfl | (simp only [List.drop_drop]; rfl)
  · refine cast (congrArg (fun l => Rp.bytes.rel w S l x.raw) ?_) h3
    have e : cs.drop 3 = (cs.drop 3).take 1 := (List.take_of_length_le (by simp [hl])).symm
    refine Eq.trans ?_ e
    first | rfl | (simp only [List.drop_drop]; rfl)
theorem Rp.letter_mk {w : World} {S : Fp} {cs : List Value} {x : MLetter} (hl : cs.length = 4)
    (h0 : (Rp.int .i64).rel w S ((cs.drop 0).take 1) x.src)
    (h1 : (Rp.int .i64).rel w S ((cs.drop 1).take 1) x.dst)
    (h2 : Rp.bool.rel w S ((cs.drop 2).take 1) x.block)
    (h3 : Rp.bytes.rel w S ((cs.drop 3).take 1) x.raw)
    : Rp.letter.rel w S cs x := by
  show (Rp.pair (Rp.int .i64) (Rp.pair (Rp.int .i64) (Rp.pair Rp.bool Rp.bytes))).rel w S cs (x.src, x.dst, x.block, x.raw)
  simp only [Rp.pair_iff]
  refine ⟨?_, ?_, ?_, ?_⟩
  · refine cast (congrArg (fun l => (Rp.int .i64).rel w S l x.src) ?_) h0
    first | rfl | (simp only [List.drop_drop]; rfl)
  · refine cast (congrArg (fun l => (Rp.int .i64).rel w S l x.dst) ?_) h1
    first | rfl | (simp only [List.drop_drop]; rfl)
  · refine cast (congrArg (fun l => Rp.bool.rel w S l x.block) ?_) h2
    first | rfl | (simp only [List.drop_drop]; rfl)
  · refine cast (congrArg (fun l => Rp.bytes.rel w S l x.raw) ?_) h3
    have e : cs.drop 3 = (cs.drop 3).take 1 := (List.take_of_length_le (by simp [hl])).symm
    refine e.symm.trans ?_
    first | rfl | (simp only [List.drop_drop]; rfl)

end Go.Proofs.YtllepnadffndnaaDoor
