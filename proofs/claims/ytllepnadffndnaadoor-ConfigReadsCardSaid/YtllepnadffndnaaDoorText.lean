/- Texts as lists of bytes: runes, lines, words, numbers. No program is in sight. -/
import Derived.Lib.ParseIntB
namespace Go.Proofs.YtllepnadffndnaaDoor

abbrev Bs := List UInt8
def byteAt (l : Bs) (i : Nat) : UInt8 := l[i]?.getD 0
def followB (l : Bs) (i : Nat) : Bool := decide (i < l.length) && decide (128 ≤ ((byteAt l i).toNat : Int)) && decide (((byteAt l i).toNat : Int) < 192)
/-- How long the rune is that begins so; 0 if it is none. -/
def runeI (c d : Int) (f1 f2 f3 : Bool) : Int :=
  if decide (c < 128) then 1 else
  if decide (194 ≤ c) && decide (c < 224) && f1 then 2 else
  if decide (224 ≤ c) && decide (c < 240) && f1 && f2 then (if (c == 224) && decide (d < 160) || (c == 237) && decide (160 ≤ d) then 0 else 3) else
  if decide (240 ≤ c) && decide (c < 245) && f1 && f2 && f3 then (if (c == 240) && decide (d < 144) || (c == 244) && decide (144 ≤ d) then 0 else 4) else 0
def runeAt (l : Bs) (i : Nat) : Int := runeI (byteAt l i).toNat (byteAt l (i + 1)).toNat (followB l (i + 1)) (followB l (i + 2)) (followB l (i + 3))
theorem byteAt_some {l : Bs} {i : Nat} (h : i < l.length) : l[i]? = some (byteAt l i) := by
  unfold byteAt
  rw [List.getElem?_eq_getElem h]; rfl
theorem followB_lt {l : Bs} {i : Nat} (h : followB l i = true) : i < l.length := by
  unfold followB at h
  simp only [Bool.and_eq_true] at h
  exact of_decide_eq_true h.1.1
theorem byteAt_drop (l : Bs) (i j : Nat) : byteAt (l.drop i) j = byteAt l (i + j) := by
  unfold byteAt
  rw [List.getElem?_drop]
theorem followB_drop (l : Bs) (i j : Nat) : followB (l.drop i) j = followB l (i + j) := by
  unfold followB
  rw [byteAt_drop, List.length_drop]
  congr 2
  simp only [decide_eq_decide]
  omega
theorem runeAt_drop (l : Bs) (i j : Nat) : runeAt (l.drop i) j = runeAt l (i + j) := by
  unfold runeAt
  simp only [byteAt_drop, followB_drop, Nat.add_assoc]
def runeLen (l : Bs) : Nat := (runeAt l 0).toNat
theorem runeI_le (c d : Int) (f1 f2 f3 : Bool) : 0 ≤ runeI c d f1 f2 f3 ∧ runeI c d f1 f2 f3 ≤ 4 ∧ (2 ≤ runeI c d f1 f2 f3 → f1 = true) ∧ (3 ≤ runeI c d f1 f2 f3 → f2 = true) ∧ (4 ≤ runeI c d f1 f2 f3 → f3 = true) := by
  unfold runeI
  repeat' split
  all_goals simp_all
theorem runeAt_nat (l : Bs) (i : Nat) : runeAt l i = ((runeLen (l.drop i) : Nat) : Int) := by
  have h := runeAt_drop l i 0
  unfold runeLen
  rw [h]
  have := (runeI_le (byteAt l i).toNat (byteAt l (i + 1)).toNat (followB l (i + 1)) (followB l (i + 2)) (followB l (i + 3))).1
  unfold runeAt
  simp only [Nat.add_zero]
  omega
theorem runeLen_le {l : Bs} (h : l ≠ []) : runeLen l ≤ l.length := by
  obtain ⟨h0, h1, h2, h3, h4⟩ := runeI_le (byteAt l 0).toNat (byteAt l (0 + 1)).toNat (followB l (0 + 1)) (followB l (0 + 2)) (followB l (0 + 3))
  have e : ((runeLen l : Nat) : Int) = runeI (byteAt l 0).toNat (byteAt l (0 + 1)).toNat (followB l (0 + 1)) (followB l (0 + 2)) (followB l (0 + 3)) := by
    have := runeAt_nat l 0
    simp only [List.drop_zero] at this
    exact this.symm
  have hpos : 0 < l.length := List.length_pos_iff.2 h
  rcases Nat.lt_or_ge (runeLen l) 2 with h5 | h5
  · omega
  have a1 := followB_lt (h2 (by omega))
  rcases Nat.lt_or_ge (runeLen l) 3 with h6 | h6
  · omega
  have a2 := followB_lt (h3 (by omega))
  rcases Nat.lt_or_ge (runeLen l) 4 with h7 | h7
  · omega
  have a3 := followB_lt (h4 (by omega))
  omega

/-- Whether a text is valid UTF-8. -/
def validS (l : Bs) : Bool := if _h : l = [] then true else if _h2 : runeLen l = 0 then false else validS (l.drop (runeLen l))
termination_by l.length
decreasing_by
  have := runeLen_le _h
  rw [List.length_drop]
  have : 0 < l.length := List.length_pos_iff.2 _h
  omega
theorem validS_nil : validS [] = true := by unfold validS; simp
theorem validS_bad {l : Bs} (h : l ≠ []) (h2 : runeLen l = 0) : validS l = false := by unfold validS; simp [h, h2]
theorem validS_step {l : Bs} (h : l ≠ []) (h2 : runeLen l ≠ 0) : validS l = validS (l.drop (runeLen l)) := by rw [validS]; simp [h, h2]
/-- The runes of a text, up to what is none. -/
def runesOf (l : Bs) : List Bs := if _h : l = [] then [] else if _h2 : runeLen l = 0 then [] else l.take (runeLen l) :: runesOf (l.drop (runeLen l))
termination_by l.length
decreasing_by
  have := runeLen_le _h
  rw [List.length_drop]
  have : 0 < l.length := List.length_pos_iff.2 _h
  omega
theorem runesOf_nil : runesOf [] = [] := by unfold runesOf; simp
theorem runesOf_step {l : Bs} (h : l ≠ []) (h2 : runeLen l ≠ 0) : runesOf l = l.take (runeLen l) :: runesOf (l.drop (runeLen l)) := by rw [runesOf]; simp [h, h2]

def spaceB (r : Bs) : Bool := r == [9] || r == [32] || r == [194, 160] || r == [226, 128, 131] || r == [227, 128, 128]
/-- The words out of runes, behind words that were found, and the beginning of one. -/
def wordsGo : List Bs → Bs → List Bs → List Bs
  | [], w, acc => if w = [] then acc else acc ++ [w]
  | r :: rs, w, acc =>
    if r = [35] then (if w = [] then acc else acc ++ [w])
    else if spaceB r then (if w = [] then wordsGo rs [] acc else wordsGo rs [] (acc ++ [w]))
    else wordsGo rs (w ++ r) acc
def wordsOf (l : Bs) : List Bs := wordsGo (runesOf l) [] []
/-- A text, cut at its line feeds. -/
def linesOf : Bs → List Bs
  | [] => [[]]
  | c :: r => if c = 10 then [] :: linesOf r else match linesOf r with
    | h :: t => (c :: h) :: t
    | [] => [[c]]
theorem linesOf_ne : ∀ (l : Bs), linesOf l ≠ []
  | [] => by simp [linesOf]
  | c :: r => by
    unfold linesOf
    split
    · simp
    · split <;> simp

def digitB (c : UInt8) : Bool := !(decide ((c.toNat : Int) < 48) || decide (57 < (c.toNat : Int)))
def decVal (l : Bs) : Nat := l.foldl (fun a c => a * 10 + (c.toNat - 48)) 0
/-- Whether a text is a number without leading zeros, of any size. -/
def digitsB (l : Bs) : Bool := l.all digitB && (!l.isEmpty && (l.length == 1 || !(byteAt l 0 == 48)))
/-- The number, if it is less than 2^64. -/
def numberB (l : Bs) : Option Nat := if digitsB l && decide (decVal l < 18446744073709551616) then some (decVal l) else none
end Go.Proofs.YtllepnadffndnaaDoor
