/- What the laws' frames share: the tables that the rows list; a world that holds them; what an argument reads as. -/
import Derived.Test.YtepdhipcepmpiaaDoorCards
import Derived.Test.YtepdhipcepmpiaaDoorTie
import Derived.Test.YtepdhipcepmpiaaDoorOpens
import Derived.WalkKit
import Derived.ProofKit
import Derived.OpenShut
import Derived.Deep.DeepHandedRow
import Derived.Lib.LaidTab
import Derived.Lib.ItoaMem
namespace Go.Proofs.YtepdhipcepmpiaaDoor
open Go.ChangeShapes Go.WideShapes Go.ChangeAt Go.RowKit

theorem own : ownKnob Tryd.prog.godebug = none := by kernel_rfl
theorem laidOut : laidOutB Tryd.prog = true := by kernel_rfl
noncomputable def tabCells : DataW Unit → Array Value
  | .agg l => (l.map fun | .lit (.int k n) => Value.int k n | _ => undef).toArray
  | _ => #[]
noncomputable def lay (l : List (String × DataW Unit)) (h : Array Obj) : Array Obj := l.foldl (fun h x => h.modify ((Tryd.prog.globalNamed x.1).getD 0) fun
  | .cells _ t frozen => .cells (tabCells x.2) t frozen
  | o => o) h
/-- A world for the witness: the settled one, the listed variables holding what their initialisers lay. -/
noncomputable def laidWorld (l : List (String × DataW Unit)) (os : Os) : World :=
  { World.holding Tryd.prog os ⟨#[], #[], []⟩ with heap := lay l (World.holding Tryd.prog os ⟨#[], #[], []⟩).heap }

theorem tab_of_vars {W : World} {name : String} {k : IntKind} {zs : List Int} {g : Nat} {t e : TypeId} {n : Nat}
    (hg : Tryd.prog.globalNamed name = some g) (hty : (Tryd.prog.globals[g]?).map (·.type) = some t) (ht : Tryd.prog.underlying t = some (.array n e)) (he : Tryd.prog.underlying e = some (.int k)) (hce : Tryd.prog.cellsOf e = 1) (hct : Tryd.prog.cellsOf t = n) :
    ∀ {l : List (String × DataW Unit)} {ps : List MemPlace}, DataW.LaidVars Tryd.prog W l ps → (name, Lib.tabData k zs) ∈ l → Lib.TabIs Tryd.prog W name k zs
  | [], _, _, hm => by simp at hm
  | (n', d') :: l, ps, h, hm => by
    obtain ⟨g', t', cs, fuel, p, q, hg', ht', hvar, hd, h', _⟩ := h
    rcases List.mem_cons.1 hm with hm | hm
    · injection hm with h1 h2
      subst h1; subst h2
      obtain rfl := Option.some.inj (hg.symm.trans hg')
      obtain rfl := Option.some.inj (hty.symm.trans ht')
      unfold Lib.TabIs
      rw [hvar, ← Lib.cells_of_tab ht he hce hct hd]
    · exact tab_of_vars hg hty ht he hce hct h' hm
end Go.Proofs.YtepdhipcepmpiaaDoor
