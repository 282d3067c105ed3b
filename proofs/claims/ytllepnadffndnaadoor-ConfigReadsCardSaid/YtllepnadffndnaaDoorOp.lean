/- The conditions of single operations, and that they suffice. -/
import Derived.Test.YtllepnadffndnaaDoorVc
namespace Go.Proofs.YtllepnadffndnaaDoor
open Go.RowKit

def nth {α : Type} : List α → Nat → Option α
  | [], _ => none
  | x :: _, 0 => some x
  | _ :: l, n + 1 => nth l n
theorem nth_eq {α : Type} : ∀ (l : List α) (n : Nat), nth l n = l[n]?
  | [], _ => by simp [nth]
  | x :: l, 0 => rfl
  | x :: l, n + 1 => by simp [nth, nth_eq l n]
def setN {α : Type} : List α → Nat → α → Option (List α)
  | [], _, _ => none
  | _ :: l, 0, v => some (v :: l)
  | x :: l, n + 1, v => match setN l n v with | some r => some (x :: r) | none => none
theorem setN_eq {α : Type} : ∀ {l : List α} {n : Nat} {v : α} {r : List α}, setN l n v = some r → n < l.length ∧ r = l.set n v
  | [], _, _, _, h => by simp [setN] at h
  | x :: l, 0, v, r, h => by simp [setN] at h; subst h; simp
  | x :: l, n + 1, v, r, h => by
    simp only [setN] at h
    split at h
    · rename_i r' hr
      obtain ⟨h1, h2⟩ := setN_eq hr
      injection h with h
      subst h; subst h2
      simp; exact h1
    · cases h
def newId : Mem → Nat
  | [] => 0
  | (j, _) :: _ => j + 1
def cellsSV : SV → List SV
  | .val (.agg ⟨l⟩) => l.map SV.val
  | v => [v]
theorem cellsSV_den (v : SV) : v.den.cells.toList = (cellsSV v).map SV.den := by
  cases v with
  | ptr i g off => rfl
  | lit b => rfl
  | val v =>
    cases v <;> try rfl
    rename_i arr
    cases arr
    simp [cellsSV, SV.den, Value.cells, Function.comp_def]
def updK : Mem → Nat → List SV → (Mem → Prop) → Prop
  | [], _, _, K => K []
  | (j, kb) :: M, i, cs, K => bif Nat.beq j i then K ((j, ⟨kb.g, kb.t, cs⟩) :: M) else updK M i cs fun r => K ((j, kb) :: r)
theorem updK_eq : ∀ {M : Mem} {i : Nat} {cs : List SV} {K : Mem → Prop}, updK M i cs K → K (M.upd i cs)
  | [], _, _, _, h => h
  | (j, kb) :: M, i, cs, K, h => by
    by_cases hj : j = i
    · subst hj
      have h' : (bif Nat.beq j j then K ((j, ⟨kb.g, kb.t, cs⟩) :: M) else updK M j cs fun r => K ((j, kb) :: r)) := h
      simp at h'
      show K (bif Nat.beq j j then _ else _)
      simpa using h'
    · have h' : (bif Nat.beq j i then K ((j, ⟨kb.g, kb.t, cs⟩) :: M) else updK M i cs fun r => K ((j, kb) :: r)) := h
      simp only [beq_ne hj, cond_false] at h'
      show K (bif Nat.beq j i then _ else _)
      simp only [beq_ne hj, cond_false]
      exact updK_eq h'

/-- Known cells as values, written out. -/
def denK : List SV → (List Value → Prop) → Prop
  | [], K => K []
  | .val v :: l, K => denK l fun r => K (v :: r)
  | .ptr _ g off :: l, K => denK l fun r => K (.pointer (some ⟨g, off, none⟩) :: r)
  | .lit b :: l, K => denK l fun r => K (.bool b :: r)
theorem denK_eq : ∀ {l : List SV} {K : List Value → Prop}, denK l K ↔ K (l.map SV.den)
  | [], _ => Iff.rfl
  | .val _ :: l, _ => denK_eq (l := l)
  | .ptr _ _ _ :: l, _ => denK_eq (l := l)
  | .lit _ :: l, _ => denK_eq (l := l)
theorem denK_val {l : List Value} {K : List Value → Prop} (h : K l) : denK (l.map SV.val) K := by
  rw [denK_eq, List.map_map]
  have e : l.map (SV.den ∘ SV.val) = l := by
    rw [show (SV.den ∘ SV.val) = id from rfl]; simp
  rw [e]; exact h
def tkS : Nat → List SV → List SV
  | 0, _ => []
  | _, [] => []
  | n + 1, x :: l => x :: tkS n l
def dpS : Nat → List SV → List SV
  | 0, l => l
  | _, [] => []
  | n + 1, _ :: l => dpS n l
theorem tkS_eq (n : Nat) (l : List SV) : tkS n l = l.take n := by
  induction n generalizing l with
  | zero => cases l <;> rfl
  | succ n ih => cases l <;> simp [tkS, ih]
theorem dpS_eq (n : Nat) (l : List SV) : dpS n l = l.drop n := by
  induction n generalizing l with
  | zero => cases l <;> rfl
  | succ n ih => cases l <;> simp [dpS, ih]
def glueS (l : List SV) : List SV → List SV
  | [] => l
  | r => l ++ r
def spliceS (cs : List SV) (off : Nat) (l : List Value) (n : Nat) : List SV := tkS off cs ++ glueS (l.map SV.val) (dpS (off + n) cs)
theorem spliceS_eq (cs : List SV) (off : Nat) (l : List Value) (n : Nat) : (spliceS cs off l n).map SV.den = (cs.map SV.den).take off ++ l ++ (cs.map SV.den).drop (off + n) := by
  have hg : ∀ (a b : List SV), glueS a b = a ++ b := by
    intro a b; cases b <;> simp [glueS]
  have e : l.map (SV.den ∘ SV.val) = l := by
    rw [show (SV.den ∘ SV.val) = id from rfl]; simp
  simp [spliceS, hg, tkS_eq, dpS_eq, List.map_append, List.map_map, e, List.map_take, List.map_drop]

/-- A composite's cells, part by part. -/
def cutBy : List Nat → List Value → List (List Value)
  | [], _ => []
  | n :: ns, z => tk n z :: cutBy ns (dp n z)
where
  tk : Nat → List Value → List Value
    | 0, _ => []
    | _, [] => []
    | n + 1, x :: l => x :: tk n l
  dp : Nat → List Value → List Value
    | 0, l => l
    | _, [] => []
    | n + 1, _ :: l => dp n l
def flat : List (List Value) → List Value
  | [] => []
  | l :: ls => app l (flat ls)
where
  app : List Value → List Value → List Value
    | [], r => r
    | x :: l, r => x :: app l r
def cellsL : Value → List Value
  | .agg ⟨l⟩ => l
  | v => [v]
def sizesOf (T : Tab) : List (Nat × TypeId) → Option (List Nat)
  | [] => some []
  | (_, t) :: fs => match Tab.find T t with
    | some d => match sizesOf T fs with | some r => some (d.size :: r) | none => none
    | none => none
def cutsOf (T : Tab) (t : TypeId) : Option (List Nat) := match Tab.find T t with
  | some (.struct fs _) => sizesOf T fs
  | some (.arr n _ es) => some (List.replicate n es)
  | _ => none
def putSegs : List (List Value) → List (Nat × Value) → Option (List (List Value))
  | segs, [] => some segs
  | segs, (i, v) :: r => match setN segs i (cellsL v) with
    | some segs' => putSegs segs' r
    | none => none
/-- The parts' sizes, where they aren't seen at once. -/
def partsFit : List Nat → List (Nat × Value) → Prop
  | _, [] => True
  | ns, (i, v) :: r => nth ns i = some (cellsL v).length ∧ partsFit ns r

inductive Seg where
  | one (v : Value)
  | many (l : List Value)
  | agg (l : List Value)
def Seg.list : Seg → List Value
  | .one v => [v]
  | .many l => l
  | .agg l => l
def flagsOf (T : Tab) : List (Nat × TypeId) → Option (List (Nat × Bool))
  | [] => some []
  | (_, t) :: fs => match Tab.find T t with
    | some d => match flagsOf T fs with | some r => some ((d.size, d.agg) :: r) | none => none
    | none => none
def sumOf : List (Nat × Bool) → Nat
  | [] => 0
  | (n, _) :: l => n + sumOf l
/-- The first n values, written out, and the rest. -/
def headK : Nat → List Value → (List Value → List Value → Prop) → Prop
  | 0, l, K => K [] l
  | _, [], K => K [] []
  | n + 1, x :: l, K => headK n l fun a b => K (x :: a) b
def cutK : List (Nat × Bool) → List Value → (List Seg → Prop) → Prop
  | [], _, K => K []
  | (n, _) :: ns, z, K => headK n z fun a b => cutK ns b fun r => K (.many a :: r)
def segOf : Bool → Value → Option Seg
  | false, v => some (.one v)
  | true, .agg ⟨l⟩ => some (.agg l)
  | true, _ => none
def putK' (ns : List (Nat × Bool)) : List Seg → List (Nat × Value) → Option (List Seg)
  | segs, [] => some segs
  | segs, (i, v) :: r => match nth ns i with
    | some (_, f) => match segOf f v with
      | some s => match setN segs i s with
        | some segs' => putK' ns segs' r
        | none => none
      | none => none
    | none => none
def partsFitK (ns : List (Nat × Bool)) : List (Nat × Value) → Prop
  | [] => True
  | (i, v) :: r => (match nth ns i with
    | some (n, false) => bif Nat.beq n 1 then cellsL v = [v] else False
    | some (n, true) => (cellsL v).length = n
    | none => False) ∧ partsFitK ns r
def appK : List Value → List Value → (List Value → Prop) → Prop
  | [], r, K => K r
  | x :: l, r, K => appK l r fun s => K (x :: s)
def flatK : List Seg → (List Value → Prop) → Prop
  | [], K => K []
  | .one v :: s, K => flatK s fun r => K (v :: r)
  | .many l :: s, K => flatK s fun r => appK l r K
  | .agg l :: s, K => flatK s fun r => K (l ++ r)

section
variable (P : Program) (T : Tab) (E : Env) (M : Mem) (H : Hist)
abbrev Cont := SV → Mem → Hist → Prop

def withV (x : Operand) (K : SV → Prop) : Prop := match ev E x with | some v => K v | none => False
def withVs : List Operand → (List Value → Prop) → Prop
  | [], K => K []
  | x :: l, K => withV E x fun v => withVs l fun r => K (v.den :: r)
def withO : Option Operand → (Option Value → Prop) → Prop
  | none, K => K none
  | some x, K => withV E x fun v => K (some v.den)

/-- An operation that only computes (it may read). -/
def pureV (s : Sem Value) (K : Cont) : Prop := ∃ v, (∀ w, A M H w → s.run P w = .ok v w) ∧ K (.val v) M H
/-- Any other. -/
def memV (s : Sem Value) (K : Cont) : Prop := ∀ w, A M H w → ∃ sv w' M' H', s.run P w = .ok sv.den w' ∧ A M' H' w' ∧ K sv M' H'
def memU (s : Sem Unit) (K : Cont) : Prop := ∀ w, A M H w → ∃ w' M' H', s.run P w = .ok () w' ∧ A M' H' w' ∧ K (.val undef) M' H'

def loadV (t : TypeId) (p : SV) (K : Cont) : Prop := match Tab.find T t with
  | none => False
  | some d => match p with
    | .ptr i g off => match M.find i with
      | none => False
      | some kb => match d.agg with
        | false => ∃ v, nth kb.cs off = some v ∧ kb.g = g ∧ K v M H
        | true => Nat.ble (off + d.size) kb.cs.length = true ∧ kb.g = g ∧ denK (tkS d.size (dpS off kb.cs)) fun l => K (.val (.agg ⟨l⟩)) M H
    | .val (.pointer (some a)) => ∃ v, (∀ w, A M H w → (loadVar t a).run P w = .ok v w) ∧ K (.val v) M H
    | _ => False

def storeV (t : TypeId) (p v : SV) (K : Cont) : Prop := match Tab.find T t with
  | none => False
  | some d => match p with
    | .ptr i g off => match M.find i with
      | none => False
      | some kb => match d.agg with
        | false => ∃ cs, setN kb.cs off v = some cs ∧ kb.g = g ∧ v.den.oneCell' = true ∧ updK M i cs fun M' => K (.val undef) M' H
        | true => match v with
          | .val (.agg ⟨l⟩) => l.length = d.size ∧ Nat.ble (off + d.size) kb.cs.length = true ∧ kb.g = g ∧ l.all (·.oneCell') = true ∧ updK M i (spliceS kb.cs off l d.size) fun M' => K (.val undef) M' H
          | _ => False
    | .val (.pointer (some ⟨b, off, none⟩)) => match d.agg with
      | false => ∃ i kb, M.find i = some kb ∧ kb.g = b ∧ ∃ cs, setN kb.cs off v = some cs ∧ v.den.oneCell' = true ∧ updK M i cs fun M' => K (.val undef) M' H
      | true => False
    | _ => False

def fieldAddrV (t : TypeId) (p : SV) (f : Nat) (K : Cont) : Prop := match Tab.find T t with
  | some (.struct fs _) => match nth fs f with
    | some (o, _) => match p with
      | .ptr i g off => K (.ptr i g (off + o)) M H
      | .val (.pointer (some ⟨b, off, none⟩)) => K (.val (.pointer (some ⟨b, off + o, none⟩))) M H
      | _ => False
    | none => False
  | _ => False

def indexAddrV (t : TypeId) (x ix : SV) (K : Cont) : Prop := match Tab.find T t with
  | some (.slice _ es) => match x, ix with
    | .val (.slice A len _), .val (.int _ n) => ∃ b o k : Nat, A = some ⟨b, o, none⟩ ∧ n = (k : Int) ∧ k < len ∧ K (.val (.pointer (some ⟨b, o + k * es, none⟩))) M H
    | _, _ => False
  | some (.arr len _ es) => match x, ix with
    | .ptr i g off, .val (.int _ n) => ∃ k : Nat, n = (k : Int) ∧ k < len ∧ K (.ptr i g (off + k * es)) M H
    | .val (.pointer (some ⟨b, off, none⟩)), .val (.int _ n) => ∃ k : Nat, n = (k : Int) ∧ k < len ∧ K (.val (.pointer (some ⟨b, off + k * es, none⟩))) M H
    | _, _ => False
  | _ => False

def nilCheckV (x : SV) (K : Cont) : Prop := match x with
  | .ptr i g off => K (.ptr i g off) M H
  | .val (.pointer (some a)) => K (.val (.pointer (some a))) M H
  | .val (.func (.func f) x y) => K (.val (.func (.func f) x y)) M H
  | .val (.iface t v) => K (.val (.iface t v)) M H
  | _ => False

def intBin (op : BinOp) (k : IntKind) (m n : Int) (K : Value → Prop) : Prop := match op with
  | .add => ∃ r, k.wrap (m + n) = r ∧ K (.int k r)
  | .sub => ∃ r, k.wrap (m - n) = r ∧ K (.int k r)
  | .mul => ∃ r, k.wrap (m * n) = r ∧ K (.int k r)
  | .quo => n ≠ 0 ∧ ∃ r, k.wrap (m.tdiv n) = r ∧ K (.int k r)
  | .rem => n ≠ 0 ∧ ∃ r, m.tmod n = r ∧ K (.int k r)
  | .eql => K (.bool (m == n))
  | .neq => K (.bool (m != n))
  | .lss => K (.bool (decide (m < n)))
  | .leq => K (.bool (decide (m ≤ n)))
  | .gtr => K (.bool (decide (n < m)))
  | .geq => K (.bool (decide (n ≤ m)))
  | .shl => 0 ≤ n ∧ ∃ r, k.wrap (m * 2 ^ (min n.toNat k.bits)) = r ∧ K (.int k r)
  | .shr => 0 ≤ n ∧ ∃ r, m.fdiv (2 ^ (min n.toNat k.bits)) = r ∧ K (.int k r)
  | .and => ∃ r, k.wrap (BitVec.ofInt k.bits m &&& BitVec.ofInt k.bits n).toNat = r ∧ K (.int k r)
  | .or => ∃ r, k.wrap (BitVec.ofInt k.bits m ||| BitVec.ofInt k.bits n).toNat = r ∧ K (.int k r)
  | .xor => ∃ r, k.wrap (BitVec.ofInt k.bits m ^^^ BitVec.ofInt k.bits n).toNat = r ∧ K (.int k r)
  | .andNot => ∃ r, k.wrap (BitVec.ofInt k.bits m &&& ~~~BitVec.ofInt k.bits n).toNat = r ∧ K (.int k r)
def strBin (op : BinOp) (s t : ByteArray) (K : Value → Prop) : Prop := match op with
  | .add => s.size + t.size ≤ 9223372036854775807 ∧ K (.string (s ++ t))
  | .eql => K (.bool (s.toList == t.toList))
  | .neq => K (.bool (!(s.toList == t.toList)))
  | .lss => K (.bool (Op.bytesLess s.toList t.toList))
  | .leq => K (.bool (Op.bytesLess s.toList t.toList || s.toList == t.toList))
  | .gtr => K (.bool (!(Op.bytesLess s.toList t.toList || s.toList == t.toList)))
  | .geq => K (.bool (!Op.bytesLess s.toList t.toList))
  | _ => False

def boolBin (op : BinOp) (s t : Bool) (K : Value → Prop) : Prop := match op with
  | .eql => K (.bool (s == t))
  | .neq => K (.bool (s != t))
  | _ => False
def kid : IntKind → Nat
  | .i8 => 0 | .i16 => 1 | .i32 => 2 | .i64 => 3 | .u8 => 4 | .u16 => 5 | .u32 => 6 | .u64 => 7
theorem kid_inj {k j : IntKind} (h : Nat.beq (kid k) (kid j) = true) : k = j := by
  cases k <;> cases j <;> first | rfl | cases h
def isShift : BinOp → Bool
  | .shl | .shr => true
  | _ => false
/-- A comparison with nil. -/
def nilCmp (t : TypeId) (yo : Operand) (x y : SV) : Option Bool := match y, Tab.find T t with
  | .val (.pointer none), some .ptr => match x with
    | .ptr _ _ _ => some false
    | .val (.pointer none) => some true
    | .val (.pointer (some _)) => some false
    | _ => none
  | .val .nilIface, some .iface => match yo with
    | .const _ => match x with
      | .val .nilIface => some true
      | .val (.iface _ _) => some false
      | _ => none
    | _ => none
  | .val (.slice none _ _), some (.slice _ _) => match x with
    | .val (.slice none _ _) => some true
    | .val (.slice (some _) _ _) => some false
    | _ => none
  | _, _ => none
def binV (op : BinOp) (t : TypeId) (xo yo : Operand) (x y : SV) (K : Cont) : Prop := match x, y with
  | .val (.int k m), .val (.int k' n) => bif isShift op || Nat.beq (kid k) (kid k') then (intBin op k m n fun v => K (.val v) M H) else False
  | .val (.string s), .val (.string u) => strBin op s u fun v => K (.val v) M H
  | .val (.bool s), .val (.bool u) => match Tab.find T t with | some .bool => boolBin op s u fun v => K (.val v) M H | _ => False
  | x, y => match nilCmp T t yo x y, op with
    | some b, .eql => K (.lit b) M H
    | some b, .neq => K (.lit (!b)) M H
    | _, _ => pureV P M H (do eqGuard op t xo yo x.den y.den; binOp op t x.den y.den) K

def unV (op : UnOp) (x : SV) (K : Cont) : Prop := match op, x with
  | .not, .val (.bool b) => K (.val (.bool (!b))) M H
  | .not, .lit b => K (.lit (!b)) M H
  | .xor, .val (.int k n) => ∃ r, k.wrap (BitVec.ofInt k.bits (if k.signed then -1 else k.max) ^^^ BitVec.ofInt k.bits n).toNat = r ∧ K (.val (.int k r)) M H
  | .neg, .val (.int k n) => ∃ r, k.wrap (0 - n) = r ∧ K (.val (.int k r)) M H
  | op, x => pureV P M H (Op.unary op x.den) K

def convV (src dst : TypeId) (x : SV) (K : Cont) : Prop := match Tab.find T src, Tab.find T dst, x with
  | some _, some (.int k), .val (.int _ n) => ∃ r, k.wrap n = r ∧ K (.val (.int k r)) M H
  | _, some (.slice ..), x => memV P M H (convert src dst x.den) K
  | _, _, x => pureV P M H (convert src dst x.den) K

def callV (f : FuncId) (args : Array Value) (K : Cont) : Prop :=
  (∀ args w, (callFunc f args).run P w = .ok (.enter f args) w) ∧ ∀ w, A M H w → Calls P f args w fun e w' => ∃ sv M' H', e = .returned sv.den ∧ A M' H' w' ∧ K sv M' H'
def callsV (ents : List FuncId) (f : SV) (args : List Value) (K : Cont) : Prop := match f with
  | .val (.func (.func f) first captured) => match ents.contains f with
    | true => ∀ w, A M H w → Calls P f ((first ++ args.toArray) ++ captured) w fun e w' => ∃ sv M' H', e = .returned sv.den ∧ A M' H' w' ∧ K sv M' H'
    | false => ∀ w, A M H w → ∃ sv w' M' H', (callFunc f ((first ++ args.toArray) ++ captured)).run P w = .ok (.value sv.den) w' ∧ A M' H' w' ∧ K sv M' H'
  | _ => False

def builtinV (b : Builtin) (ats : Array TypeId) (ty : TypeId) (args : List Value) (K : Cont) : Prop := match b, args with
  | .len, [.slice _ n _] => match (ats[0]?).bind (Tab.find T) with | some (.slice ..) => K (.val (.int .i64 n)) M H | _ => False
  | .len, [.string s] => match (ats[0]?).bind (Tab.find T) with | some .str => K (.val (.int .i64 s.size)) M H | _ => False
  | .len, args => pureV P M H (Builtin.len_ ats ty args.toArray) K
  | .append, args => memV P M H (Builtin.append_ ats ty args.toArray) K
  | .copy, args => memV P M H (Builtin.copy_ ats ty args.toArray) K
  | .delete, args => memV P M H (Builtin.delete_ ats ty args.toArray) K
  | .min, [.int k x, .int _ y] => ∃ r, (if y < x then y else x) = r ∧ K (.val (.int k r)) M H
  | .max, [.int k x, .int _ y] => ∃ r, (if y > x then y else x) = r ∧ K (.val (.int k r)) M H
  | .min, args => pureV P M H (Builtin.min_ ats ty args.toArray) K
  | .max, args => pureV P M H (Builtin.max_ ats ty args.toArray) K
  | .cap, args => pureV P M H (Builtin.cap_ ats ty args.toArray) K
  | _, _ => False

def buildV (t : TypeId) (parts : List (Nat × Value)) (K : Cont) : Prop :=
  match zeroAcc T 9 t [], cutsOf T t with
  | some z, some ns => match Nat.beq z.length ns.sum, putSegs (cutBy ns (z.map SV.den)) parts with
    | true, some segs => partsFit ns parts ∧ K (.val (.agg (flat segs).toArray)) M H
    | _, _ => False
  | _, _ => False

def buildK (t : TypeId) (parts : List (Nat × Value)) (K : Cont) : Prop :=
  match zeroAcc T 9 t [], (match Tab.find T t with | some (.struct fs _) => flagsOf T fs | some (.arr n e es) => (match Tab.find T e with | some d => some (List.replicate n (es, d.agg)) | none => none) | _ => none) with
  | some z, some ns => match Nat.beq z.length (sumOf ns) with
    | true => denK z fun zs => cutK ns zs fun segs0 => match putK' ns segs0 parts with
      | some segs => partsFitK ns parts ∧ flatK segs fun l => K (.val (.agg ⟨l⟩)) M H
      | none => False
    | false => False
  | _, _ => False

def repS : Nat → List SV → List SV
  | 0, _ => []
  | n + 1, z => z ++ repS n z
def buildSliceK (t : TypeId) (n : Nat) (parts : List (Nat × Value)) (K : Cont) : Prop :=
  match Tab.find T t with
  | some (.slice e es) => match Tab.find T e, zeroAcc T 9 e [] with
    | some d, some z => match Nat.beq z.length es, Nat.ble (n * es) 16777216, Nat.blt 0 (n * es) with
      | true, true, true => denK (repS n z) fun zs => cutK (List.replicate n (es, d.agg)) zs fun segs0 => match putK' (List.replicate n (es, d.agg)) segs0 parts with
        | some segs => partsFitK (List.replicate n (es, d.agg)) parts ∧ flatK segs fun l => ∀ g, Above M g → K (.val (.slice (some ⟨g, 0, none⟩) n n)) ((newId M, ⟨g, e, l.map SV.val⟩) :: M) H
        | none => False
      | _, _, _ => False
    | _, _ => False
  | _ => False

def boundV : Option Value → Nat → (Nat → Prop) → Prop
  | none, d, K => K d
  | some (.int _ n), _, K => ∃ k : Nat, n = (k : Int) ∧ K k
  | _, _, _ => False
/-- A part of a string or of a slice. -/
def sliceV (t : TypeId) (x : SV) (lo hi mx : Option Value) (K : Cont) : Prop := match x, mx with
  | .val (.string s), none => match Tab.find T t with
    | some .str => boundV hi s.size fun h => boundV lo 0 fun l => l ≤ h ∧ h ≤ s.size ∧ ∃ s', s.extract l h = s' ∧ K (.val (.string s')) M H
    | _ => False
  | .val (.slice A len cap), none => match Tab.find T t with
    | some (.slice _ es) => boundV hi len fun h => boundV lo 0 fun l => l ≤ h ∧ h ≤ cap ∧ ∃ v, .slice (if cap = l then A else A.map (·.add (l * es))) (h - l) (cap - l) = v ∧ K (.val v) M H
    | _ => False
  | x, mx => pureV P M H (Instr.sliceAt t x.den lo hi mx) K
/-- An element of a string or of an array's value. -/
def indexV (t : TypeId) (x ix : SV) (K : Cont) : Prop := match Tab.find T t, x, ix with
  | some .str, .val (.string s), .val (.int _ n) => ∃ (k : Nat) (c : UInt8), n = (k : Int) ∧ s.data.toList[k]? = some c ∧ K (.val (.int .u8 c.toNat)) M H
  | some (.arr len e es), .val (.agg ⟨l⟩), .val (.int _ n) => ∃ k : Nat, n = (k : Int) ∧ k < len ∧ match Tab.find T e with
    | some d => match d.agg with
      | true => ∃ l', (l.drop (k * es)).take es = l' ∧ K (.val (.agg ⟨l'⟩)) M H
      | false => ∃ v, l[k * es]? = some v ∧ K (.val v) M H
    | none => False
  | _, _, _ => pureV P M H (Instr.index t x.den ix.den) K
/-- A field of a struct's value. -/
def fieldV (t : TypeId) (x : SV) (f : Nat) (K : Cont) : Prop := match Tab.find T t, x with
  | some (.struct fs _), .val (.agg ⟨l⟩) => match nth fs f with
    | some (o, ft) => match Tab.find T ft with
      | some d => match d.agg with
        | true => ∃ l', (l.drop o).take d.size = l' ∧ K (.val (.agg ⟨l'⟩)) M H
        | false => ∃ v, nth l o = some v ∧ K (.val v) M H
      | none => False
    | none => False
  | _, _ => pureV P M H (Instr.field t x.den f) K
/-- A new slice of zeros. -/
def makeSliceV (t : TypeId) (l c : SV) (K : Cont) : Prop := match l, c with
  | .val (.int _ n), .val (.int _ m) => match Tab.find T t with
    | some (.slice e es) => match zeroAcc T 9 e [] with
      | some z => match Nat.beq z.length es, Nat.blt 0 es with
        | true, true => ∃ (k by_ : Nat), n = (k : Int) ∧ m = (k : Int) ∧ k ≤ 140737488355328 ∧ (P.info? e).map (·.bytes) = some by_ ∧ k * by_ ≤ 281474976710656 ∧
          ∀ g, Above M g → K (.val (.slice (some ⟨g, 0, none⟩) k k)) ((newId M, ⟨g, e, repS k z⟩) :: M) H
        | _, _ => False
      | none => False
    | _ => False
  | _, _ => memV P M H (Instr.makeSlice t l.den c.den) K

def opV (ents : List FuncId) (o : Oper) (K : Cont) : Prop := match o.op with
  | .move x | .assign x => withV E x fun v => K v M H
  | .pick c x y => withV E c fun v => withV E x fun x => withV E y fun y => match v with
    | .val (.bool t) => (t = true → K x M H) ∧ (t = false → K y M H)
    | .lit true => K x M H
    | .lit false => K y M H
    | _ => False
  | .alloc t => match zeroAcc T 9 t [] with
    | some z => ∀ g, Above M g → K (.ptr (newId M) g 0) ((newId M, ⟨g, t, z⟩) :: M) H
    | none => False
  | .box t x => withV E x fun v => ∀ g, Above M g → K (.ptr (newId M) g 0) ((newId M, ⟨g, t, cellsSV v⟩) :: M) H
  | .build t parts => withVs E (parts.toList.map (·.2)) fun vs => buildK T M H t ((parts.toList.map (·.1)).zip vs) K
  | .buildSlice t n parts => withVs E (parts.toList.map (·.2)) fun vs => buildSliceK T M H t n ((parts.toList.map (·.1)).zip vs) K
  | .load t x => withV E x fun p => loadV P T M H t p K
  | .store t x y => withV E x fun p => withV E y fun v => storeV T M H t p v K
  | .nilCheck x => withV E x fun v => nilCheckV M H v K
  | .binOp op t x y _ => withV E x fun u => withV E y fun v => binV P T M H op t x y u v K
  | .unOp op _ x => withV E x fun v => unV P M H op v K
  | .convert src dst x => withV E x fun v => convV P T M H src dst v K
  | .makeInterface t x => withV E x fun v => pureV P M H (Instr.makeInterface t v.den) K
  | .makeFunc fn first captured => withVs E first.toList fun xs => withVs E captured.toList fun ys => K (.val (.func fn xs.toArray ys.toArray)) M H
  | .makeMap t r => withO E r fun r => memV P M H (Instr.makeMap t r) K
  | .makeSlice t l c => withV E l fun l => withV E c fun c => makeSliceV P T M H t l c K
  | .slice t x lo hi mx => withV E x fun x => withO E lo fun lo => withO E hi fun hi => withO E mx fun mx => sliceV P T M H t x lo hi mx K
  | .fieldAddr t x f => withV E x fun p => fieldAddrV T M H t p f K
  | .field t x f => withV E x fun v => fieldV P T M H t v f K
  | .indexAddr t x ix => withV E x fun v => withV E ix fun i => indexAddrV T M H t v i K
  | .index t x ix => withV E x fun v => withV E ix fun i => indexV P T M H t v i K
  | .lookup t x ix ok => withV E x fun v => withV E ix fun i => pureV P M H (Instr.lookup t v.den i.den ok) K
  | .mapUpdate t m k x | .insert t m k x => withV E m fun m => withV E k fun k => withV E x fun x => memU P M H (Instr.mapUpdate t m.den k.den x.den) K
  | .mapEntry t m k => withV E m fun m => withV E k fun k => memV P M H (Instr.mapEntry t m.den k.den) K
  | .entryStore t m s x => withV E m fun m => withV E s fun s => withV E x fun x => memU P M H (Instr.entryStore t m.den s.den x.den) K
  | .range t x => withV E x fun x => memV P M H (Instr.range t x.den) K
  | .next it s => withV E it fun it => memV P M H (Instr.next it.den s o.type) K
  | .entry it => withV E it fun it => memV P M H (Instr.entry it.den) K
  | .typeAssert x t u ok => withV E x fun x => pureV P M H (Instr.typeAssert x.den t u ok) K
  | .extract x i => withV E x fun x => match x with
    | .val (.tuple vs) => ∃ v, vs[i]? = some v ∧ K (.val v) M H
    | _ => False
  | .call c => match c.callee with
    | .builtin b => withVs E c.args.toList fun vs => builtinV P T M H b c.argTypes o.type vs K
    | .value f => withV E f fun f => withVs E c.args.toList fun vs => callsV P M H ents f vs K
    | .invoke .. => False
  | _ => False
/-- Single cells that are known. -/
def CellsOK (C0 : List (Nat × Nat × Nat × SV)) (w : World) : Prop := ∀ c ∈ C0, w.cell? ⟨c.2.1, c.2.2.1, none⟩ = some c.2.2.2.den
def keepsC : List (Nat × Nat × Nat × SV) → Mem → Prop → Prop
  | [], _, X => X
  | (i, g, off, v) :: r, M, X => (∃ kb, M.find i = some kb ∧ kb.g = g ∧ nth kb.cs off = some v) ∧ keepsC r M X
/-- Operations that change no world, and see of it no more than the blocks of M and the worlds of H. -/
def quietV (C0 : List (Nat × Nat × Nat × SV)) (o : Oper) (K : SV → Prop) : Prop := match o.op with
  | .load t x => withV E x fun p => match C0, p with
    | _ :: _, .ptr _ g off => match Tab.find T t with
      | some d => match d.agg with
        | false => ∃ v : SV, (∀ w, CellsOK C0 w → w.cell? ⟨g, off, none⟩ = some v.den) ∧ K v
        | true => False
      | none => False
    | _, p => loadV P T M H t p fun v _ _ => K v
  | .nilCheck x => withV E x fun v => nilCheckV M H v fun v _ _ => K v
  | .convert src dst x => withV E x fun v => match Tab.find T src, Tab.find T dst, v with
    | some _, some (.int k), .val (.int _ n) => ∃ r, k.wrap n = r ∧ K (.val (.int k r))
    | _, _, _ => False
  | .indexAddr t x ix => withV E x fun v => withV E ix fun i => indexAddrV T M H t v i fun v _ _ => K v
  | .call c => match c.callee with
    | .builtin .len => withVs E c.args.toList fun vs => match vs, (c.argTypes[0]?).bind (Tab.find T) with
      | [.slice _ n _], some (.slice ..) => K (.val (.int .i64 n))
      | [.string s], some .str => K (.val (.int .i64 s.size))
      | _, _ => False
    | _ => False
  | .fieldAddr t x f => withV E x fun p => fieldAddrV T M H t p f fun v _ _ => K v
  | .slice t x lo hi mx => withV E x fun x => withO E lo fun lo => withO E hi fun hi => withO E mx fun mx => sliceV P T M H t x lo hi mx fun v _ _ => K v
  | .index t x ix => withV E x fun v => withV E ix fun i => indexV P T M H t v i fun v _ _ => K v
  | .field t x f => withV E x fun v => fieldV P T M H t v f fun v _ _ => K v
  | .extract x i => withV E x fun x => match x with
    | .val (.tuple vs) => ∃ v, vs[i]? = some v ∧ K (.val v)
    | _ => False
  | .build t parts => withVs E (parts.toList.map (·.2)) fun vs => buildK T M H t ((parts.toList.map (·.1)).zip vs) fun v _ _ => K v
  | .move x | .assign x => withV E x K
  | .pick c x y => withV E c fun v => withV E x fun x => withV E y fun y => match v with
    | .val (.bool t) => (t = true → K x) ∧ (t = false → K y)
    | .lit true => K x
    | .lit false => K y
    | _ => False
  | .binOp op t x y _ => withV E x fun u => withV E y fun v => match u, v with
    | .val (.int k m), .val (.int k' n) => bif isShift op || Nat.beq (kid k) (kid k') then (intBin op k m n fun v => K (.val v)) else False
    | .val (.string s), .val (.string u) => strBin op s u fun v => K (.val v)
    | .val (.bool s), .val (.bool u) => match Tab.find T t with | some .bool => boolBin op s u fun v => K (.val v) | _ => False
    | u, v => match nilCmp T t y u v, op with
      | some b, .eql => K (.lit b)
      | some b, .neq => K (.lit (!b))
      | _, _ => False
  | .unOp .not _ x => withV E x fun v => match v with
    | .val (.bool b) => K (.val (.bool (!b)))
    | .lit b => K (.lit (!b))
    | _ => False
  | .unOp .xor _ x => withV E x fun v => match v with
    | .val (.int k n) => ∃ r, k.wrap (BitVec.ofInt k.bits (if k.signed then -1 else k.max) ^^^ BitVec.ofInt k.bits n).toNat = r ∧ K (.val (.int k r))
    | _ => False
  | _ => False
end
end Go.Proofs.YtllepnadffndnaaDoor
