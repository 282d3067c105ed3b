/- Parts of a proof, one behind the other: EV9. -/
import Derived.Test.YtmeeeigfjlbnkaaGreatW11
namespace Go.Proofs.YtmeeeigfjlbnkaaGreat
open Go.RowKit
set_option maxRecDepth 1000000 in
theorem nodeNil_ev (a b c d p : Int) (k : Nat) (l : List MV) : isT (evL memL20 3 [.st [.int .i64 a, .int .i64 b, .int .i64 c, .int .i64 d, .sl k l], .int .i64 p]) = true := by kernel_rfl
theorem nodeNil_core (x : OpX) (_ : True) (p : Int) (_ : (Lit.int .i64 p).wf = true) : SemC Tryz.prog G0 3 [opX x, .int .i64 p] (.bool true) := sem_evL (by kernel_rfl) (nodeNil_ev _ _ _ _ _ _ _)
end Go.Proofs.YtmeeeigfjlbnkaaGreat
