/- The plain functions of the reports: counts of operations and replies, and their text. -/
import Derived.Test.YtepdhipcepmpiaaDoorData
namespace Go.Proofs.YtepdhipcepmpiaaDoor
open Go.RowKit

def tallyStep (c : MCounts) (k : Int) (r : MReply) : MCounts :=
  let c := if k = 1 ∨ k = 2 then (if r.err = 0 then { c with submitted := wrap64 (c.submitted + 1), admitted := wrap64 (c.admitted + 1) } else { c with submitted := wrap64 (c.submitted + 1), refused := wrap64 (c.refused + 1) }) else c
  { c with committed := wrap64 (c.committed + r.done.length), evicted := wrap64 (c.evicted + r.evicted.length), expired := wrap64 (c.expired + r.expired.length), invalid := wrap64 (c.invalid + r.invalid.length), flushed := wrap64 (c.flushed + r.flushed.length) }
def zeroCounts (p : Int) : MCounts := ⟨0, 0, 0, 0, 0, 0, 0, 0, p⟩
def tallyTo (os : List MOp) (rs : List MReply) (p : Int) : Nat → MCounts
  | 0 => zeroCounts p
  | n + 1 => match os[n]?, rs[n]? with
    | some o, some r => tallyStep (tallyTo os rs p n) o.kind r
    | _, _ => tallyTo os rs p n
def tally (os : List MOp) (rs : List MReply) (p : Int) : MCounts := tallyTo os rs p (min os.length rs.length)
def cntV (c : MCounts) : Array Value := #[.int .i64 c.submitted, .int .i64 c.refused, .int .i64 c.admitted, .int .i64 c.committed, .int .i64 c.evicted, .int .i64 c.expired, .int .i64 c.invalid, .int .i64 c.flushed, .int .i64 c.pending]
theorem tallyTo_succ {os : List MOp} {rs : List MReply} {p : Int} {n : Nat} {o : MOp} {r : MReply} (ho : os[n]? = some o) (hr : rs[n]? = some r) : tallyTo os rs p (n + 1) = tallyStep (tallyTo os rs p n) o.kind r := by
  simp [tallyTo, ho, hr]
theorem tallyTo_pending (os : List MOp) (rs : List MReply) (p : Int) (n : Nat) : (tallyTo os rs p n).pending = p := by
  induction n with
  | zero => rfl
  | succ n ih =>
    simp only [tallyTo]
    split
    · simp only [tallyStep]; split
      · split <;> exact ih
      · exact ih
    · exact ih
end Go.Proofs.YtepdhipcepmpiaaDoor
