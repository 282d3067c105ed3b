/- utf8.ValidString, and with it the program's Parse. -/
import Derived.Test.YtllepnadffndnaaDoorParse
import Derived.Test.YtllepnadffndnaaDoorUtf
import Derived.Test.YtllepnadffndnaaDoorShelf2
namespace Go.Proofs.YtllepnadffndnaaDoor
open Go.RowKit

theorem valid_c (s : ByteArray) (w : World) (hs : s.size ≤ 4096) (hlib : LibOK w) : Calls Tryd.prog 39 #[.string s] w fun e w' => e = .returned (.bool (validS s.data.toList)) ∧ Below w.heap.size w w' := by
  have h := Any.utf8_ValidString Tryd.laysValid s w (by omega) hlib.utf8
  rw [valid_eq _ _ (Nat.le_refl _)] at h
  exact h
theorem pparse_c (s : ByteArray) (w : World) (hlib : ∀ w', Below w.heap.size w w' → LibOK w') :
    Calls Tryd.prog 19 #[.string s] w fun e w' => e = .returned (triV (parseSpec s.data.toList)) ∧ Below w.heap.size w w' := parse_c valid_c s w hlib
end Go.Proofs.YtllepnadffndnaaDoor
