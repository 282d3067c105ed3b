/- The seat's table of types, and the functions that have a body. Printed by gentab.py. -/
import Derived.Test.YtepdhipcepmpiaaDoorCode
import Derived.Test.YtepdhipcepmpiaaDoorProg
namespace Go.Proofs.YtepdhipcepmpiaaDoor
def tab : Tab := [(1, .other), (2, .int .i64), (3, .int .i64), (4, .bool), (5, .int .u8), (6, .int .u8), (7, .struct [(0, 2), (1, 3), (2, 4), (3, 6)] 4), (8, .struct [(0, 2), (1, 3), (2, 4), (3, 6)] 4), (9, .str), (10, .str), (11, .str), (12, .int .u64), (13, .struct [(0, 9), (1, 12)] 2), (14, .struct [(0, 9), (1, 12)] 2), (15, .ptr), (16, .ptr), (17, .ptr), (18, .struct [(0, 17)] 1), (19, .struct [(0, 17)] 1), (20, .other), (21, .int .i32), (22, .slice 27 5), (23, .slice 43 73), (24, .slice 5 1), (25, .other), (26, .struct [(0, 3), (1, 3), (2, 3), (3, 3), (4, 24)] 5), (27, .struct [(0, 3), (1, 3), (2, 3), (3, 3), (4, 24)] 5), (28, .struct [(0, 3), (1, 3), (2, 3), (3, 3), (4, 3), (5, 3), (6, 3), (7, 3), (8, 3)] 9), (29, .struct [(0, 3), (1, 3), (2, 3), (3, 3), (4, 3), (5, 3), (6, 3), (7, 3), (8, 3)] 9), (30, .other), (31, .other), (32, .other), (33, .other), (34, .other), (35, .other), (36, .int .i64), (37, .arr 32 5 1), (38, .arr 32 5 1), (39, .int .u64), (40, .slice 38 32), (41, .slice 24 1), (42, .struct [(0, 36), (1, 38), (33, 39), (34, 40), (35, 40), (36, 40), (37, 40), (38, 40), (39, 41), (40, 3), (41, 38)] 73), (43, .struct [(0, 36), (1, 38), (33, 39), (34, 40), (35, 40), (36, 40), (37, 40), (38, 40), (39, 41), (40, 3), (41, 38)] 73), (44, .arr 9 9 1), (45, .arr 9 3 1), (46, .ptr), (47, .struct [(0, 46), (1, 24)] 2), (48, .struct [(0, 46), (1, 24)] 2), (49, .other), (50, .other), (52, .other), (53, .other), (54, .other), (55, .slice 9 1), (56, .slice 3 1), (57, .ptr), (58, .other), (59, .other), (60, .other), (61, .other), (62, .arr 24 5 1), (63, .other), (64, .other), (66, .other), (67, .other), (68, .other), (69, .arr 20 39 1), (70, .int .u32), (71, .arr 65 5 1), (72, .other), (73, .int .u64), (74, .other), (75, .other), (76, .arr 64 5 1), (77, .struct [(0, 17), (1, 17), (2, 17), (3, 9)] 4), (78, .struct [(0, 17), (1, 17), (2, 17), (3, 9)] 4), (82, .other), (83, .int .u8), (84, .int .u8), (85, .other), (86, .int .i32), (87, .int .i32), (88, .struct [(0, 12), (1, 12), (2, 70), (3, 83), (4, 5), (5, 5), (6, 84), (7, 85), (8, 57), (9, 86), (10, 87)] 11), (89, .struct [(0, 12), (1, 12), (2, 70), (3, 83), (4, 5), (5, 5), (6, 84), (7, 85), (8, 57), (9, 86), (10, 87)] 11)]
def ents : List FuncId := [2, 3, 4, 5, 6, 7, 8, 9, 10, 11, 12, 13, 14, 15, 16, 17, 18, 19, 20, 22, 23, 24, 25, 26, 27, 28, 29, 30, 31, 32, 33, 56]
def entB (P : Program) (f : FuncId) : Bool := match P.funcs[f]? with | some fn => fn.body.isSome && !(fn.name == "runtime.NumGoroutine") | none => false
theorem enters_of_entB {P : Program} {f : FuncId} (h : entB P f = true) (args : Array Value) (w : World) : (callFunc f args).run P w = .ok (.enter f args) w := by
  unfold entB at h
  split at h
  · rename_i fn hf
    simp only [Bool.and_eq_true, Bool.not_eq_true'] at h
    obtain ⟨h1, h2⟩ := h
    obtain ⟨c, hc⟩ := Option.isSome_iff_exists.1 h1
    exact enters_of hf h2 hc args w
  · cases h
theorem seat : Seat Tryd.prog tab ents := ⟨⟨by kernel_rfl⟩, fun f hf => enters_of_entB (List.all_eq_true.1 (show ents.all (entB Tryd.prog) = true by kernel_rfl) f hf), by kernel_rfl⟩
end Go.Proofs.YtepdhipcepmpiaaDoor
