/- What lists of operations, of replies and of bytes read as. -/
import Derived.Test.YtepdhipcepmpiaaDoorArgs
import Derived.Test.YtepdhipcepmpiaaDoorRepI
namespace Go.Proofs.YtepdhipcepmpiaaDoor
open Go.ChangeShapes Go.WideShapes Go.ChangeAt Go.RowKit

theorem opensErrno : Opens Tryd.prog 36 (Rp.int .i64) := Opens.int Tryd.underlying36 (by kernel_rfl)
theorem opensU64 : Opens Tryd.prog 39 (Rp.int .u64) := Opens.int Tryd.underlying39 (by kernel_rfl)
theorem opensU8 : Opens Tryd.prog 5 (Rp.int .u8) := Opens.int Tryd.underlying5 (by kernel_rfl)
theorem opensKey : Opens Tryd.prog 38 Rp.key := Opens.arr Tryd.underlying38 Tryd.underlying5 (by kernel_rfl) (by kernel_rfl)
theorem opensBytes : Opens Tryd.prog 24 Rp.bytes := Opens.slice Tryd.underlying24 (by kernel_rfl) (of_decide_eq_true (by kernel_rfl)) (by decide) opensU8
theorem opensKeys : Opens Tryd.prog 40 (Rp.slice Rp.key) := Opens.slice Tryd.underlying40 (by kernel_rfl) (of_decide_eq_true (by kernel_rfl)) (by decide) opensKey
theorem opensTxs : Opens Tryd.prog 41 (Rp.slice Rp.bytes) := Opens.slice Tryd.underlying41 (by kernel_rfl) (of_decide_eq_true (by kernel_rfl)) (by decide) opensBytes
theorem opensOp : Opens Tryd.prog 27 Rp.op :=
  Opens.op Tryd.underlying27 (by kernel_rfl) rfl rfl rfl rfl rfl opensInt opensInt opensInt opensInt opensBytes
theorem opensReply : Opens Tryd.prog 43 Rp.reply :=
  Opens.reply Tryd.underlying43 (by kernel_rfl) rfl rfl rfl rfl rfl rfl rfl rfl rfl rfl rfl opensErrno opensKey opensU64 opensKeys opensKeys opensKeys opensKeys opensKeys opensTxs opensInt opensKey
theorem opensOps : Opens Tryd.prog 22 (Rp.slice Rp.op) := Opens.slice Tryd.underlying22 (by kernel_rfl) (of_decide_eq_true (by kernel_rfl)) (by decide) opensOp
theorem opensReplies : Opens Tryd.prog 23 (Rp.slice Rp.reply) := Opens.slice Tryd.underlying23 (by kernel_rfl) (of_decide_eq_true (by kernel_rfl)) (by decide) opensReply
end Go.Proofs.YtepdhipcepmpiaaDoor
