/- Texts of this proof. -/
import Derived.Test.YtfenhbjamohdgaaDoorS1
import Derived.Test.YtfenhbjamohdgaaDoorProg
/- part H1K -/
section
set_option linter.unusedVariables false
namespace Go.Proofs.YtfenhbjamohdgaaDoor.Vg
open Go.Vx
def tys : Tys := [(3, ⟨(.int .i64), 1, 8, [.int .i64 0], [.int .i64]⟩),
  (4, ⟨.bool, 1, 1, [.bool false], [.bool]⟩),
  (22, ⟨(.sl 3), 1, 24, [.slice none 0 0], [.sl]⟩),
  (24, ⟨(.ptr 76), 1, 8, [.pointer none], [.ptr]⟩),
  (26, ⟨.iface, 1, 16, [.nilIface], [.any]⟩),
  (30, ⟨(.agg [(0, 4), (1, 3)]), 2, 16, [.bool false, .int .i64 0], [.bool, .int .i64]⟩),
  (33, ⟨(.sl 30), 1, 24, [.slice none 0 0], [.sl]⟩),
  (39, ⟨(.ptr 30), 1, 8, [.pointer none], [.ptr]⟩),
  (41, ⟨(.sl 45), 1, 24, [.slice none 0 0], [.sl]⟩),
  (42, ⟨(.arr 8 30), 16, 128, [.bool false, .int .i64 0, .bool false, .int .i64 0, .bool false, .int .i64 0, .bool false, .int .i64 0, .bool false, .int .i64 0, .bool false, .int .i64 0, .bool false, .int .i64 0, .bool false, .int .i64 0], [.bool, .int .i64, .bool, .int .i64, .bool, .int .i64, .bool, .int .i64, .bool, .int .i64, .bool, .int .i64, .bool, .int .i64, .bool, .int .i64]⟩),
  (43, ⟨(.sl 47), 1, 24, [.slice none 0 0], [.sl]⟩),
  (45, ⟨(.agg [(0, 3), (1, 3), (2, 3), (3, 43), (4, 22)]), 5, 72, [.int .i64 0, .int .i64 0, .int .i64 0, .slice none 0 0, .slice none 0 0], [.int .i64, .int .i64, .int .i64, .sl, .sl]⟩),
  (47, ⟨(.agg [(0, 4), (1, 3)]), 2, 16, [.bool false, .int .i64 0], [.bool, .int .i64]⟩),
  (50, ⟨(.sl 39), 1, 24, [.slice none 0 0], [.sl]⟩),
  (55, ⟨(.sl 26), 1, 24, [.slice none 0 0], [.sl]⟩),
  (57, ⟨(.ptr 66), 1, 8, [.pointer none], [.ptr]⟩),
  (58, ⟨(.ptr 61), 1, 8, [.pointer none], [.ptr]⟩),
  (59, ⟨(.sl 103), 1, 24, [.slice none 0 0], [.sl]⟩),
  (61, ⟨(.agg [(0, 3), (1, 59)]), 2, 32, [.int .i64 0, .slice none 0 0], [.int .i64, .sl]⟩),
  (63, ⟨(.agg [(0, 3), (1, 3)]), 2, 16, [.int .i64 0, .int .i64 0], [.int .i64, .int .i64]⟩),
  (64, ⟨(.arr 8 63), 16, 128, [.int .i64 0, .int .i64 0, .int .i64 0, .int .i64 0, .int .i64 0, .int .i64 0, .int .i64 0, .int .i64 0, .int .i64 0, .int .i64 0, .int .i64 0, .int .i64 0, .int .i64 0, .int .i64 0, .int .i64 0, .int .i64 0], [.int .i64, .int .i64, .int .i64, .int .i64, .int .i64, .int .i64, .int .i64, .int .i64, .int .i64, .int .i64, .int .i64, .int .i64, .int .i64, .int .i64, .int .i64, .int .i64]⟩),
  (66, ⟨(.agg [(0, 24), (1, 58), (2, 42), (18, 64)]), 34, 272, [.pointer none, .pointer none, .bool false, .int .i64 0, .bool false, .int .i64 0, .bool false, .int .i64 0, .bool false, .int .i64 0, .bool false, .int .i64 0, .bool false, .int .i64 0, .bool false, .int .i64 0, .bool false, .int .i64 0, .int .i64 0, .int .i64 0, .int .i64 0, .int .i64 0, .int .i64 0, .int .i64 0, .int .i64 0, .int .i64 0, .int .i64 0, .int .i64 0, .int .i64 0, .int .i64 0, .int .i64 0, .int .i64 0, .int .i64 0, .int .i64 0], [.ptr, .ptr, .bool, .int .i64, .bool, .int .i64, .bool, .int .i64, .bool, .int .i64, .bool, .int .i64, .bool, .int .i64, .bool, .int .i64, .bool, .int .i64, .int .i64, .int .i64, .int .i64, .int .i64, .int .i64, .int .i64, .int .i64, .int .i64, .int .i64, .int .i64, .int .i64, .int .i64, .int .i64, .int .i64, .int .i64, .int .i64]⟩),
  (69, ⟨(.map 3 30), 1, 8, [.map none], [.any]⟩),
  (70, ⟨(.sl 63), 1, 24, [.slice none 0 0], [.sl]⟩),
  (74, ⟨(.sl 84), 1, 24, [.slice none 0 0], [.sl]⟩),
  (76, ⟨(.agg [(0, 74), (1, 3)]), 2, 32, [.slice none 0 0, .int .i64 0], [.sl, .int .i64]⟩),
  (78, ⟨(.ptr 80), 1, 8, [.pointer none], [.ptr]⟩),
  (80, ⟨(.agg [(0, 3), (1, 3), (2, 3), (3, 3), (4, 3)]), 5, 40, [.int .i64 0, .int .i64 0, .int .i64 0, .int .i64 0, .int .i64 0], [.int .i64, .int .i64, .int .i64, .int .i64, .int .i64]⟩),
  (84, ⟨(.agg [(0, 30), (2, 78)]), 3, 24, [.bool false, .int .i64 0, .pointer none], [.bool, .int .i64, .ptr]⟩),
  (100, ⟨(.arr 8 4), 8, 8, [.bool false, .bool false, .bool false, .bool false, .bool false, .bool false, .bool false, .bool false], [.bool, .bool, .bool, .bool, .bool, .bool, .bool, .bool]⟩),
  (103, ⟨(.agg [(0, 3), (1, 70), (2, 3), (3, 3), (4, 4)]), 5, 56, [.int .i64 0, .slice none 0 0, .int .i64 0, .int .i64 0, .bool false], [.int .i64, .sl, .int .i64, .int .i64, .bool]⟩),
  (104, ⟨.tuple [30, 4], 1, 0, [.tuple #[.agg #[.bool false, .int .i64 0], .bool false]], []⟩)]
theorem ty3 : Ty.Ok Tryd.prog 3 ⟨(.int .i64), 1, 8, [.int .i64 0], [.int .i64]⟩ := ⟨Tryd.underlying3, by kernel_rfl, by kernel_rfl, rfl⟩
theorem ty4 : Ty.Ok Tryd.prog 4 ⟨.bool, 1, 1, [.bool false], [.bool]⟩ := ⟨Tryd.underlying4, by kernel_rfl, by kernel_rfl, rfl⟩
theorem ty22 : Ty.Ok Tryd.prog 22 ⟨(.sl 3), 1, 24, [.slice none 0 0], [.sl]⟩ := ⟨Tryd.underlying22, by kernel_rfl, by kernel_rfl, rfl⟩
theorem ty24 : Ty.Ok Tryd.prog 24 ⟨(.ptr 76), 1, 8, [.pointer none], [.ptr]⟩ := ⟨Tryd.underlying24, by kernel_rfl, by kernel_rfl, rfl⟩
theorem ty26 : Ty.Ok Tryd.prog 26 ⟨.iface, 1, 16, [.nilIface], [.any]⟩ := ⟨⟨_, Tryd.underlying26⟩, by kernel_rfl, by kernel_rfl, rfl⟩
theorem ty30 : Ty.Ok Tryd.prog 30 ⟨(.agg [(0, 4), (1, 3)]), 2, 16, [.bool false, .int .i64 0], [.bool, .int .i64]⟩ := ⟨⟨_, Tryd.underlying30, rfl⟩, by kernel_rfl, by kernel_rfl, rfl⟩
theorem ty33 : Ty.Ok Tryd.prog 33 ⟨(.sl 30), 1, 24, [.slice none 0 0], [.sl]⟩ := ⟨Tryd.underlying33, by kernel_rfl, by kernel_rfl, rfl⟩
theorem ty39 : Ty.Ok Tryd.prog 39 ⟨(.ptr 30), 1, 8, [.pointer none], [.ptr]⟩ := ⟨Tryd.underlying39, by kernel_rfl, by kernel_rfl, rfl⟩
theorem ty41 : Ty.Ok Tryd.prog 41 ⟨(.sl 45), 1, 24, [.slice none 0 0], [.sl]⟩ := ⟨Tryd.underlying41, by kernel_rfl, by kernel_rfl, rfl⟩
theorem ty42 : Ty.Ok Tryd.prog 42 ⟨(.arr 8 30), 16, 128, [.bool false, .int .i64 0, .bool false, .int .i64 0, .bool false, .int .i64 0, .bool false, .int .i64 0, .bool false, .int .i64 0, .bool false, .int .i64 0, .bool false, .int .i64 0, .bool false, .int .i64 0], [.bool, .int .i64, .bool, .int .i64, .bool, .int .i64, .bool, .int .i64, .bool, .int .i64, .bool, .int .i64, .bool, .int .i64, .bool, .int .i64]⟩ := ⟨Tryd.underlying42, by kernel_rfl, by kernel_rfl, rfl⟩
theorem ty43 : Ty.Ok Tryd.prog 43 ⟨(.sl 47), 1, 24, [.slice none 0 0], [.sl]⟩ := ⟨Tryd.underlying43, by kernel_rfl, by kernel_rfl, rfl⟩
theorem ty45 : Ty.Ok Tryd.prog 45 ⟨(.agg [(0, 3), (1, 3), (2, 3), (3, 43), (4, 22)]), 5, 72, [.int .i64 0, .int .i64 0, .int .i64 0, .slice none 0 0, .slice none 0 0], [.int .i64, .int .i64, .int .i64, .sl, .sl]⟩ := ⟨⟨_, Tryd.underlying45, rfl⟩, by kernel_rfl, by kernel_rfl, rfl⟩
theorem ty47 : Ty.Ok Tryd.prog 47 ⟨(.agg [(0, 4), (1, 3)]), 2, 16, [.bool false, .int .i64 0], [.bool, .int .i64]⟩ := ⟨⟨_, Tryd.underlying47, rfl⟩, by kernel_rfl, by kernel_rfl, rfl⟩
theorem ty50 : Ty.Ok Tryd.prog 50 ⟨(.sl 39), 1, 24, [.slice none 0 0], [.sl]⟩ := ⟨Tryd.underlying50, by kernel_rfl, by kernel_rfl, rfl⟩
theorem ty55 : Ty.Ok Tryd.prog 55 ⟨(.sl 26), 1, 24, [.slice none 0 0], [.sl]⟩ := ⟨Tryd.underlying55, by kernel_rfl, by kernel_rfl, rfl⟩
theorem ty57 : Ty.Ok Tryd.prog 57 ⟨(.ptr 66), 1, 8, [.pointer none], [.ptr]⟩ := ⟨Tryd.underlying57, by kernel_rfl, by kernel_rfl, rfl⟩
theorem ty58 : Ty.Ok Tryd.prog 58 ⟨(.ptr 61), 1, 8, [.pointer none], [.ptr]⟩ := ⟨Tryd.underlying58, by kernel_rfl, by kernel_rfl, rfl⟩
theorem ty59 : Ty.Ok Tryd.prog 59 ⟨(.sl 103), 1, 24, [.slice none 0 0], [.sl]⟩ := ⟨Tryd.underlying59, by kernel_rfl, by kernel_rfl, rfl⟩
theorem ty61 : Ty.Ok Tryd.prog 61 ⟨(.agg [(0, 3), (1, 59)]), 2, 32, [.int .i64 0, .slice none 0 0], [.int .i64, .sl]⟩ := ⟨⟨_, Tryd.underlying61, rfl⟩, by kernel_rfl, by kernel_rfl, rfl⟩
theorem ty63 : Ty.Ok Tryd.prog 63 ⟨(.agg [(0, 3), (1, 3)]), 2, 16, [.int .i64 0, .int .i64 0], [.int .i64, .int .i64]⟩ := ⟨⟨_, Tryd.underlying63, rfl⟩, by kernel_rfl, by kernel_rfl, rfl⟩
theorem ty64 : Ty.Ok Tryd.prog 64 ⟨(.arr 8 63), 16, 128, [.int .i64 0, .int .i64 0, .int .i64 0, .int .i64 0, .int .i64 0, .int .i64 0, .int .i64 0, .int .i64 0, .int .i64 0, .int .i64 0, .int .i64 0, .int .i64 0, .int .i64 0, .int .i64 0, .int .i64 0, .int .i64 0], [.int .i64, .int .i64, .int .i64, .int .i64, .int .i64, .int .i64, .int .i64, .int .i64, .int .i64, .int .i64, .int .i64, .int .i64, .int .i64, .int .i64, .int .i64, .int .i64]⟩ := ⟨Tryd.underlying64, by kernel_rfl, by kernel_rfl, rfl⟩
theorem ty66 : Ty.Ok Tryd.prog 66 ⟨(.agg [(0, 24), (1, 58), (2, 42), (18, 64)]), 34, 272, [.pointer none, .pointer none, .bool false, .int .i64 0, .bool false, .int .i64 0, .bool false, .int .i64 0, .bool false, .int .i64 0, .bool false, .int .i64 0, .bool false, .int .i64 0, .bool false, .int .i64 0, .bool false, .int .i64 0, .int .i64 0, .int .i64 0, .int .i64 0, .int .i64 0, .int .i64 0, .int .i64 0, .int .i64 0, .int .i64 0, .int .i64 0, .int .i64 0, .int .i64 0, .int .i64 0, .int .i64 0, .int .i64 0, .int .i64 0, .int .i64 0], [.ptr, .ptr, .bool, .int .i64, .bool, .int .i64, .bool, .int .i64, .bool, .int .i64, .bool, .int .i64, .bool, .int .i64, .bool, .int .i64, .bool, .int .i64, .int .i64, .int .i64, .int .i64, .int .i64, .int .i64, .int .i64, .int .i64, .int .i64, .int .i64, .int .i64, .int .i64, .int .i64, .int .i64, .int .i64, .int .i64, .int .i64]⟩ := ⟨⟨_, Tryd.underlying66, rfl⟩, by kernel_rfl, by kernel_rfl, rfl⟩
theorem ty69 : Ty.Ok Tryd.prog 69 ⟨(.map 3 30), 1, 8, [.map none], [.any]⟩ := ⟨Tryd.underlying69, by kernel_rfl, by kernel_rfl, rfl⟩
theorem ty70 : Ty.Ok Tryd.prog 70 ⟨(.sl 63), 1, 24, [.slice none 0 0], [.sl]⟩ := ⟨Tryd.underlying70, by kernel_rfl, by kernel_rfl, rfl⟩
theorem ty74 : Ty.Ok Tryd.prog 74 ⟨(.sl 84), 1, 24, [.slice none 0 0], [.sl]⟩ := ⟨Tryd.underlying74, by kernel_rfl, by kernel_rfl, rfl⟩
theorem ty76 : Ty.Ok Tryd.prog 76 ⟨(.agg [(0, 74), (1, 3)]), 2, 32, [.slice none 0 0, .int .i64 0], [.sl, .int .i64]⟩ := ⟨⟨_, Tryd.underlying76, rfl⟩, by kernel_rfl, by kernel_rfl, rfl⟩
theorem ty78 : Ty.Ok Tryd.prog 78 ⟨(.ptr 80), 1, 8, [.pointer none], [.ptr]⟩ := ⟨Tryd.underlying78, by kernel_rfl, by kernel_rfl, rfl⟩
theorem ty80 : Ty.Ok Tryd.prog 80 ⟨(.agg [(0, 3), (1, 3), (2, 3), (3, 3), (4, 3)]), 5, 40, [.int .i64 0, .int .i64 0, .int .i64 0, .int .i64 0, .int .i64 0], [.int .i64, .int .i64, .int .i64, .int .i64, .int .i64]⟩ := ⟨⟨_, Tryd.underlying80, rfl⟩, by kernel_rfl, by kernel_rfl, rfl⟩
theorem ty84 : Ty.Ok Tryd.prog 84 ⟨(.agg [(0, 30), (2, 78)]), 3, 24, [.bool false, .int .i64 0, .pointer none], [.bool, .int .i64, .ptr]⟩ := ⟨⟨_, Tryd.underlying84, rfl⟩, by kernel_rfl, by kernel_rfl, rfl⟩
theorem ty100 : Ty.Ok Tryd.prog 100 ⟨(.arr 8 4), 8, 8, [.bool false, .bool false, .bool false, .bool false, .bool false, .bool false, .bool false, .bool false], [.bool, .bool, .bool, .bool, .bool, .bool, .bool, .bool]⟩ := ⟨Tryd.underlying100, by kernel_rfl, by kernel_rfl, rfl⟩
theorem ty103 : Ty.Ok Tryd.prog 103 ⟨(.agg [(0, 3), (1, 70), (2, 3), (3, 3), (4, 4)]), 5, 56, [.int .i64 0, .slice none 0 0, .int .i64 0, .int .i64 0, .bool false], [.int .i64, .sl, .int .i64, .int .i64, .bool]⟩ := ⟨⟨_, Tryd.underlying103, rfl⟩, by kernel_rfl, by kernel_rfl, rfl⟩
theorem ty104 : Ty.Ok Tryd.prog 104 ⟨.tuple [30, 4], 1, 0, [.tuple #[.agg #[.bool false, .int .i64 0], .bool false]], []⟩ := ⟨trivial, by kernel_rfl, by kernel_rfl, rfl⟩
theorem tysOk : AllOk Tryd.prog tys := ⟨ty3, ty4, ty22, ty24, ty26, ty30, ty33, ty39, ty41, ty42, ty43, ty45, ty47, ty50, ty55, ty57, ty58, ty59, ty61, ty63, ty64, ty66, ty69, ty70, ty74, ty76, ty78, ty80, ty84, ty100, ty103, ty104, trivial⟩
def fns : Fns := [(8, [4]), (9, [24, 26]), (10, [30, 26]), (11, [3, 33, 26]), (12, [3]), (13, [26]), (14, [3]), (15, [3, 26]), (16, [4, 26]), (17, [3, 26]), (18, [63]), (19, [4]), (20, [3]), (21, [4]), (22, [3]), (23, [4]), (24, [3, 3]), (25, [4]), (26, [74]), (28, [33]), (29, [4]), (30, [33, 70]), (31, [3, 3]), (32, [3]), (33, [63]), (34, [4]), (35, [])]
theorem fnOk8 : ∃ fn, Tryd.prog.funcs[8]? = some fn ∧ (fn.name == "runtime.NumGoroutine") = false ∧ fn.body.isNone = false := ⟨_, Tryd.func8, by kernel_rfl, by kernel_rfl⟩
theorem fnOk9 : ∃ fn, Tryd.prog.funcs[9]? = some fn ∧ (fn.name == "runtime.NumGoroutine") = false ∧ fn.body.isNone = false := ⟨_, Tryd.func9, by kernel_rfl, by kernel_rfl⟩
theorem fnOk10 : ∃ fn, Tryd.prog.funcs[10]? = some fn ∧ (fn.name == "runtime.NumGoroutine") = false ∧ fn.body.isNone = false := ⟨_, Tryd.func10, by kernel_rfl, by kernel_rfl⟩
theorem fnOk11 : ∃ fn, Tryd.prog.funcs[11]? = some fn ∧ (fn.name == "runtime.NumGoroutine") = false ∧ fn.body.isNone = false := ⟨_, Tryd.func11, by kernel_rfl, by kernel_rfl⟩
theorem fnOk12 : ∃ fn, Tryd.prog.funcs[12]? = some fn ∧ (fn.name == "runtime.NumGoroutine") = false ∧ fn.body.isNone = false := ⟨_, Tryd.func12, by kernel_rfl, by kernel_rfl⟩
theorem fnOk13 : ∃ fn, Tryd.prog.funcs[13]? = some fn ∧ (fn.name == "runtime.NumGoroutine") = false ∧ fn.body.isNone = false := ⟨_, Tryd.func13, by kernel_rfl, by kernel_rfl⟩
theorem fnOk14 : ∃ fn, Tryd.prog.funcs[14]? = some fn ∧ (fn.name == "runtime.NumGoroutine") = false ∧ fn.body.isNone = false := ⟨_, Tryd.func14, by kernel_rfl, by kernel_rfl⟩
theorem fnOk15 : ∃ fn, Tryd.prog.funcs[15]? = some fn ∧ (fn.name == "runtime.NumGoroutine") = false ∧ fn.body.isNone = false := ⟨_, Tryd.func15, by kernel_rfl, by kernel_rfl⟩
theorem fnOk16 : ∃ fn, Tryd.prog.funcs[16]? = some fn ∧ (fn.name == "runtime.NumGoroutine") = false ∧ fn.body.isNone = false := ⟨_, Tryd.func16, by kernel_rfl, by kernel_rfl⟩
theorem fnOk17 : ∃ fn, Tryd.prog.funcs[17]? = some fn ∧ (fn.name == "runtime.NumGoroutine") = false ∧ fn.body.isNone = false := ⟨_, Tryd.func17, by kernel_rfl, by kernel_rfl⟩
theorem fnOk18 : ∃ fn, Tryd.prog.funcs[18]? = some fn ∧ (fn.name == "runtime.NumGoroutine") = false ∧ fn.body.isNone = false := ⟨_, Tryd.func18, by kernel_rfl, by kernel_rfl⟩
theorem fnOk19 : ∃ fn, Tryd.prog.funcs[19]? = some fn ∧ (fn.name == "runtime.NumGoroutine") = false ∧ fn.body.isNone = false := ⟨_, Tryd.func19, by kernel_rfl, by kernel_rfl⟩
theorem fnOk20 : ∃ fn, Tryd.prog.funcs[20]? = some fn ∧ (fn.name == "runtime.NumGoroutine") = false ∧ fn.body.isNone = false := ⟨_, Tryd.func20, by kernel_rfl, by kernel_rfl⟩
theorem fnOk21 : ∃ fn, Tryd.prog.funcs[21]? = some fn ∧ (fn.name == "runtime.NumGoroutine") = false ∧ fn.body.isNone = false := ⟨_, Tryd.func21, by kernel_rfl, by kernel_rfl⟩
theorem fnOk22 : ∃ fn, Tryd.prog.funcs[22]? = some fn ∧ (fn.name == "runtime.NumGoroutine") = false ∧ fn.body.isNone = false := ⟨_, Tryd.func22, by kernel_rfl, by kernel_rfl⟩
theorem fnOk23 : ∃ fn, Tryd.prog.funcs[23]? = some fn ∧ (fn.name == "runtime.NumGoroutine") = false ∧ fn.body.isNone = false := ⟨_, Tryd.func23, by kernel_rfl, by kernel_rfl⟩
theorem fnOk24 : ∃ fn, Tryd.prog.funcs[24]? = some fn ∧ (fn.name == "runtime.NumGoroutine") = false ∧ fn.body.isNone = false := ⟨_, Tryd.func24, by kernel_rfl, by kernel_rfl⟩
theorem fnOk25 : ∃ fn, Tryd.prog.funcs[25]? = some fn ∧ (fn.name == "runtime.NumGoroutine") = false ∧ fn.body.isNone = false := ⟨_, Tryd.func25, by kernel_rfl, by kernel_rfl⟩
theorem fnOk26 : ∃ fn, Tryd.prog.funcs[26]? = some fn ∧ (fn.name == "runtime.NumGoroutine") = false ∧ fn.body.isNone = false := ⟨_, Tryd.func26, by kernel_rfl, by kernel_rfl⟩
theorem fnOk28 : ∃ fn, Tryd.prog.funcs[28]? = some fn ∧ (fn.name == "runtime.NumGoroutine") = false ∧ fn.body.isNone = false := ⟨_, Tryd.func28, by kernel_rfl, by kernel_rfl⟩
theorem fnOk29 : ∃ fn, Tryd.prog.funcs[29]? = some fn ∧ (fn.name == "runtime.NumGoroutine") = false ∧ fn.body.isNone = false := ⟨_, Tryd.func29, by kernel_rfl, by kernel_rfl⟩
theorem fnOk30 : ∃ fn, Tryd.prog.funcs[30]? = some fn ∧ (fn.name == "runtime.NumGoroutine") = false ∧ fn.body.isNone = false := ⟨_, Tryd.func30, by kernel_rfl, by kernel_rfl⟩
theorem fnOk31 : ∃ fn, Tryd.prog.funcs[31]? = some fn ∧ (fn.name == "runtime.NumGoroutine") = false ∧ fn.body.isNone = false := ⟨_, Tryd.func31, by kernel_rfl, by kernel_rfl⟩
theorem fnOk32 : ∃ fn, Tryd.prog.funcs[32]? = some fn ∧ (fn.name == "runtime.NumGoroutine") = false ∧ fn.body.isNone = false := ⟨_, Tryd.func32, by kernel_rfl, by kernel_rfl⟩
theorem fnOk33 : ∃ fn, Tryd.prog.funcs[33]? = some fn ∧ (fn.name == "runtime.NumGoroutine") = false ∧ fn.body.isNone = false := ⟨_, Tryd.func33, by kernel_rfl, by kernel_rfl⟩
theorem fnOk34 : ∃ fn, Tryd.prog.funcs[34]? = some fn ∧ (fn.name == "runtime.NumGoroutine") = false ∧ fn.body.isNone = false := ⟨_, Tryd.func34, by kernel_rfl, by kernel_rfl⟩
theorem fnOk35 : ∃ fn, Tryd.prog.funcs[35]? = some fn ∧ (fn.name == "runtime.NumGoroutine") = false ∧ fn.body.isNone = false := ⟨_, Tryd.func35, by kernel_rfl, by kernel_rfl⟩
theorem fnsOk : FnsOk Tryd.prog fns := ⟨fnOk8, fnOk9, fnOk10, fnOk11, fnOk12, fnOk13, fnOk14, fnOk15, fnOk16, fnOk17, fnOk18, fnOk19, fnOk20, fnOk21, fnOk22, fnOk23, fnOk24, fnOk25, fnOk26, fnOk28, fnOk29, fnOk30, fnOk31, fnOk32, fnOk33, fnOk34, fnOk35, trivial⟩
theorem follows : Tryd.prog.follows .mixedOrders = true := by kernel_rfl
/-! ### Clone: function 28 -/
def Clone.hs : Hints := ⟨[], []⟩
set_option maxRecDepth 100000 in
def Clone.W (a1 : Option Addr) (m2 c3 : Nat) (w : World) (R : Value → World → Prop) : Prop :=
 (bif (Option.isNone a1) then
 (R (.slice none 0 0) w)
 else
 (withW (World.alloc w (.cells #[] 30)) fun w4 =>
 (∃ (a5 : Option Addr) (m6 c7 : Nat) (w8 : World), Runs Tryd.prog (Builtin.append_ #[33, 33] 33 #[(.slice (some ⟨w.heap.size, 0, none⟩ : Option Addr) 0 0), (.slice a1 m2 c3)]) w4 (.slice a5 m6 c7) w8 ∧ (R (.slice a5 m6 c7) w8))))
set_option maxRecDepth 100000 in
theorem Clone.eq (a1 : Option Addr) (m2 c3 : Nat) (w : World) (R : Value → World → Prop) : Clone.W a1 m2 c3 w R = fnW Tryd.prog tys fns Clone.hs Tryd.f28 [(.slice a1 m2 c3)] w R := by kernel_rfl
theorem Clone.ok : codeOk tys Clone.hs Tryd.f28.ntmps (Tryd.f28.body.getD .skip) = true := by kernel_rfl
theorem Clone.calls {a1 m2 c3 w R} (h : Clone.W a1 m2 c3 w R) : Calls Tryd.prog 28 ([(.slice a1 m2 c3)] : List Value).toArray w fun e w' => ∃ v, e = .returned v ∧ R v w' :=
  fnW_calls tysOk fnsOk follows Tryd.func28 (by kernel_rfl) Clone.ok (by kernel_rfl) (Clone.eq a1 m2 c3 w R ▸ h)
/-! ### Reach: function 15 -/
def Reach.hs : Hints := ⟨[(2, seqO [0, 1, 2]), (11, seqO [0, 1, 2, 3, 4, 5, 6, 7, 8, 9, 10, 11, 12, 13, 14])], [(6, [(7, .int .i64), (8, .sl)]), (13, [(8, .sl), (65, .int .i64)])]⟩
set_option maxRecDepth 100000 in
def Reach.W (p0b p0o : Nat) (a1 : Option Addr) (m2 c3 : Nat) (w : World) (R : Value → World → Prop) : Prop :=
 (Calls Tryd.prog 23 #[(.pointer (some ⟨p0b, p0o, none⟩ : Option Addr)), (.slice a1 m2 c3)] w fun e5 w4 => ∃ (b6 : Bool), e5 = .returned (.bool b6) ∧ (bif (!b6) then
 (withW (World.drew w4) fun w7 =>
 (∃ (v8 : Value), World.cell? w7 ⟨1, 0, none⟩ = some v8 ∧ (R (.tuple #[(.int .i64 0), v8]) w7)))
 else
 (withW (World.alloc w4 (.map #[] 0)) fun w9 =>
 (Calls Tryd.prog 28 #[(.slice a1 m2 c3)] w9 fun e11 w10 => ∃ (a12 : Option Addr) (m13 c14 : Nat), e11 = .returned (.slice a12 m13 c14) ∧ (∃ (I15 : List Value → World → Prop) (μ16 : List Value → World → Nat), I15 [(.int .i64 0), (.slice a12 m13 c14)] w10 ∧ ∀ (j18 : Env) (q19 : List Value) (w17 : World), I15 q19 w17 → ∃ (n20 : Int) (a21 : Option Addr) (m22 c23 : Nat), q19 = [(.int .i64 n20), (.slice a21 m22 c23)] ∧
 (bif (decide ((m22 : Int) > (0 : Int))) then
 (∃ b24 f25, a21 = some ⟨b24, f25, none⟩ ∧ 0 ≤ (IntKind.i64.wrap ((m22 : Int) - 1)) ∧ (IntKind.i64.wrap ((m22 : Int) - 1)) < (m22 : Int) ∧ (∃ (b26 : Bool) (n27 : Int), cellsAt w17 b24 (f25 + ((IntKind.i64.wrap ((m22 : Int) - 1)) : Int).toNat * 2) [(.bool b26), (.int .i64 n27)] ∧ (withW (World.alloc w17 (.cells #[.bool false, .int .i64 0] 30)) fun w28 =>
 (canSt w28 w17.heap.size 0 [(.bool b26), (.int .i64 n27)] ∧ withW (setL w28 w17.heap.size 0 [(.bool b26), (.int .i64 n27)]) fun w29 =>
 (0 ≤ (IntKind.i64.wrap ((m22 : Int) - 1)) ∧ (IntKind.i64.wrap ((m22 : Int) - 1)) ≤ (c23 : Int) ∧ (∃ (b30 : Bool), World.cell? w29 ⟨w17.heap.size, 0, none⟩ = some (.bool b30) ∧ (bif (!b30) then (I15 [(.int .i64 n20), (.slice (cutA a21 0 c23 2) (((IntKind.i64.wrap ((m22 : Int) - 1)) : Int).toNat) c23)] w29 ∧ μ16 [(.int .i64 n20), (.slice (cutA a21 0 c23 2) (((IntKind.i64.wrap ((m22 : Int) - 1)) : Int).toNat) c23)] w29 < μ16 [(.int .i64 n20), (.slice a21 m22 c23)] w17) else (∃ (n31 : Int), World.cell? w29 ⟨w17.heap.size, 1, none⟩ = some (.int .i64 n31) ∧ (∃ (b32 : Bool), Runs Tryd.prog (Instr.lookup 92 (.map (some w4.heap.size)) (.int .i64 n31) false) w29 (.bool b32) w29 ∧ (bif b32 then
 (I15 [(.int .i64 n20), (.slice (cutA a21 0 c23 2) (((IntKind.i64.wrap ((m22 : Int) - 1)) : Int).toNat) c23)] w29 ∧ μ16 [(.int .i64 n20), (.slice (cutA a21 0 c23 2) (((IntKind.i64.wrap ((m22 : Int) - 1)) : Int).toNat) c23)] w29 < μ16 [(.int .i64 n20), (.slice a21 m22 c23)] w17)
 else
 (∃ (n33 : Int), World.cell? w29 ⟨w17.heap.size, 1, none⟩ = some (.int .i64 n33) ∧ (∃ w34, Runs Tryd.prog (Instr.mapUpdate 92 (.map (some w4.heap.size)) (.int .i64 n33) (.bool true)) w29 () w34 ∧ (withW (World.drew w34) fun w35 =>
 (∃ b36 f37, (some ⟨p0b, p0o, none⟩ : Option Addr) = some ⟨b36, f37, none⟩ ∧ (∃ (a38 : Option Addr) (m39 c40 : Nat), World.cell? w35 ⟨b36, f37, none⟩ = some (.slice a38 m39 c40) ∧ (∃ (n41 : Int), World.cell? w35 ⟨w17.heap.size, 1, none⟩ = some (.int .i64 n41) ∧ (∃ b42 f43, a38 = some ⟨b42, f43, none⟩ ∧ 0 ≤ n41 ∧ n41 < (m39 : Int) ∧ (∃ (p44 : Option Addr), World.cell? w35 ⟨b42, ((f43 + (n41 : Int).toNat * 3) + 2), none⟩ = some (.pointer p44) ∧ (∃ b45 f46, p44 = some ⟨b45, f46, none⟩ ∧ (∃ (n47 : Int), World.cell? w35 ⟨b45, (f46 + 1), none⟩ = some (.int .i64 n47) ∧ (∃ (n48 : Int), World.cell? w35 ⟨w17.heap.size, 1, none⟩ = some (.int .i64 n48) ∧ (Calls Tryd.prog 26 #[(.pointer (some ⟨p0b, p0o, none⟩ : Option Addr)), (.int .i64 n48)] w35 fun e50 w49 => ∃ (a51 : Option Addr) (m52 c53 : Nat), e50 = .returned (.slice a51 m52 c53) ∧ (∃ (I54 : List Value → World → Prop) (μ55 : List Value → World → Nat), I54 [(.slice (cutA a21 0 c23 2) (((IntKind.i64.wrap ((m22 : Int) - 1)) : Int).toNat) c23), (.int .i64 0)] w49 ∧ ∀ (j57 : Env) (q58 : List Value) (w56 : World), I54 q58 w56 → ∃ (a59 : Option Addr) (m60 c61 : Nat) (n62 : Int), q58 = [(.slice a59 m60 c61), (.int .i64 n62)] ∧
 (bif (decide (n62 < (m52 : Int))) then
 (∃ b63 f64, a51 = some ⟨b63, f64, none⟩ ∧ 0 ≤ n62 ∧ n62 < (m52 : Int) ∧ (∃ (b65 : Bool) (n66 : Int) (p67 : Option Addr), cellsAt w56 b63 (f64 + (n62 : Int).toNat * 3) [(.bool b65), (.int .i64 n66), (.pointer p67)] ∧ (withW (World.alloc w56 (.cells #[.bool false, .int .i64 0, .pointer none] 84)) fun w68 =>
 (canSt w68 w56.heap.size 0 [(.bool b65), (.int .i64 n66), (.pointer p67)] ∧ withW (setL w68 w56.heap.size 0 [(.bool b65), (.int .i64 n66), (.pointer p67)]) fun w69 =>
 (∃ (b70 : Bool) (n71 : Int), cellsAt w69 w56.heap.size 0 [(.bool b70), (.int .i64 n71)] ∧ (withW (World.alloc w69 (.cells #[(.bool b70), (.int .i64 n71)] 30)) fun w72 =>
 (∃ (a73 : Option Addr) (m74 c75 : Nat) (w76 : World), Runs Tryd.prog (Builtin.append_ #[33, 33] 33 #[(.slice a59 m60 c61), (.slice (some ⟨w69.heap.size, 0, none⟩ : Option Addr) 1 1)]) w72 (.slice a73 m74 c75) w76 ∧ (I54 [(.slice a73 m74 c75), (.int .i64 (IntKind.i64.wrap (n62 + 1)))] w76 ∧ μ55 [(.slice a73 m74 c75), (.int .i64 (IntKind.i64.wrap (n62 + 1)))] w76 < μ55 [(.slice a59 m60 c61), (.int .i64 n62)] w56))))))))
 else
 (I15 [(.int .i64 (IntKind.i64.wrap (n20 + n47))), (.slice a59 m60 c61)] w56 ∧ μ16 [(.int .i64 (IntKind.i64.wrap (n20 + n47))), (.slice a59 m60 c61)] w56 < μ16 [(.int .i64 n20), (.slice a21 m22 c23)] w17)))))))))))))))))))))))))
 else
 (R (.tuple #[(.int .i64 n20), .nilIface]) w17)))))))
set_option maxRecDepth 100000 in
theorem Reach.eq (p0b p0o : Nat) (a1 : Option Addr) (m2 c3 : Nat) (w : World) (R : Value → World → Prop) : Reach.W p0b p0o a1 m2 c3 w R = fnW Tryd.prog tys fns Reach.hs Tryd.f15 [(.pointer (some ⟨p0b, p0o, none⟩ : Option Addr)), (.slice a1 m2 c3)] w R := by kernel_rfl
theorem Reach.ok : codeOk tys Reach.hs Tryd.f15.ntmps (Tryd.f15.body.getD .skip) = true := by kernel_rfl
theorem Reach.calls {p0b p0o a1 m2 c3 w R} (h : Reach.W p0b p0o a1 m2 c3 w R) : Calls Tryd.prog 15 ([(.pointer (some ⟨p0b, p0o, none⟩ : Option Addr)), (.slice a1 m2 c3)] : List Value).toArray w fun e w' => ∃ v, e = .returned v ∧ R v w' :=
  fnW_calls tysOk fnsOk follows Tryd.func15 (by kernel_rfl) Reach.ok (by kernel_rfl) (Reach.eq p0b p0o a1 m2 c3 w R ▸ h)
/-! ### Same: function 16 -/
def Same.hs : Hints := ⟨[(2, seqO [0, 1, 2])], []⟩
set_option maxRecDepth 100000 in
def Same.W (p0b p0o : Nat) (b1 : Bool) (n2 : Int) (b3 : Bool) (n4 : Int) (w : World) (R : Value → World → Prop) : Prop :=
 (withW (World.alloc w (.cells #[(.bool b1), (.int .i64 n2)] 30)) fun w5 =>
 (withW (World.alloc w5 (.cells #[(.bool b3), (.int .i64 n4)] 30)) fun w6 =>
 (∃ (b7 : Bool) (n8 : Int), cellsAt w6 w.heap.size 0 [(.bool b7), (.int .i64 n8)] ∧ (Calls Tryd.prog 25 #[(.pointer (some ⟨p0b, p0o, none⟩ : Option Addr)), (.agg #[(.bool b7), (.int .i64 n8)])] w6 fun e10 w9 => ∃ (b11 : Bool), e10 = .returned (.bool b11) ∧ (bif (!b11) then (withW (World.drew w9) fun w12 =>
 (∃ (v13 : Value), World.cell? w12 ⟨1, 0, none⟩ = some v13 ∧ (R (.tuple #[(.bool false), v13]) w12))) else (∃ (b14 : Bool) (n15 : Int), cellsAt w9 w5.heap.size 0 [(.bool b14), (.int .i64 n15)] ∧ (Calls Tryd.prog 25 #[(.pointer (some ⟨p0b, p0o, none⟩ : Option Addr)), (.agg #[(.bool b14), (.int .i64 n15)])] w9 fun e17 w16 => ∃ (b18 : Bool), e17 = .returned (.bool b18) ∧ (bif (!b18) then
 (withW (World.drew w16) fun w19 =>
 (∃ (v20 : Value), World.cell? w19 ⟨1, 0, none⟩ = some v20 ∧ (R (.tuple #[(.bool false), v20]) w19)))
 else
 (∃ (b21 : Bool) (n22 : Int), cellsAt w16 w.heap.size 0 [(.bool b21), (.int .i64 n22)] ∧ (∃ (b23 : Bool) (n24 : Int), cellsAt w16 w5.heap.size 0 [(.bool b23), (.int .i64 n24)] ∧ (Calls Tryd.prog 29 #[(.pointer (some ⟨p0b, p0o, none⟩ : Option Addr)), (.agg #[(.bool b21), (.int .i64 n22)]), (.agg #[(.bool b23), (.int .i64 n24)])] w16 fun e26 w25 => ∃ (b27 : Bool), e26 = .returned (.bool b27) ∧ (R (.tuple #[(.bool b27), .nilIface]) w25))))))))))))
set_option maxRecDepth 100000 in
theorem Same.eq (p0b p0o : Nat) (b1 : Bool) (n2 : Int) (b3 : Bool) (n4 : Int) (w : World) (R : Value → World → Prop) : Same.W p0b p0o b1 n2 b3 n4 w R = fnW Tryd.prog tys fns Same.hs Tryd.f16 [(.pointer (some ⟨p0b, p0o, none⟩ : Option Addr)), (.agg #[(.bool b1), (.int .i64 n2)]), (.agg #[(.bool b3), (.int .i64 n4)])] w R := by kernel_rfl
theorem Same.ok : codeOk tys Same.hs Tryd.f16.ntmps (Tryd.f16.body.getD .skip) = true := by kernel_rfl
theorem Same.calls {p0b p0o b1 n2 b3 n4 w R} (h : Same.W p0b p0o b1 n2 b3 n4 w R) : Calls Tryd.prog 16 ([(.pointer (some ⟨p0b, p0o, none⟩ : Option Addr)), (.agg #[(.bool b1), (.int .i64 n2)]), (.agg #[(.bool b3), (.int .i64 n4)])] : List Value).toArray w fun e w' => ∃ v, e = .returned v ∧ R v w' :=
  fnW_calls tysOk fnsOk follows Tryd.func16 (by kernel_rfl) Same.ok (by kernel_rfl) (Same.eq p0b p0o b1 n2 b3 n4 w R ▸ h)
/-! ### Nodes: function 17 -/
def Nodes.hs : Hints := ⟨[(2, seqO [0, 1, 2])], []⟩
set_option maxRecDepth 100000 in
def Nodes.W (p0b p0o : Nat) (b1 : Bool) (n2 : Int) (w : World) (R : Value → World → Prop) : Prop :=
 (withW (World.alloc w (.cells #[(.bool b1), (.int .i64 n2)] 30)) fun w3 =>
 (∃ (b4 : Bool) (n5 : Int), cellsAt w3 w.heap.size 0 [(.bool b4), (.int .i64 n5)] ∧ (Calls Tryd.prog 25 #[(.pointer (some ⟨p0b, p0o, none⟩ : Option Addr)), (.agg #[(.bool b4), (.int .i64 n5)])] w3 fun e7 w6 => ∃ (b8 : Bool), e7 = .returned (.bool b8) ∧ (bif (!b8) then
 (withW (World.drew w6) fun w9 =>
 (∃ (v10 : Value), World.cell? w9 ⟨1, 0, none⟩ = some v10 ∧ (R (.tuple #[(.int .i64 0), v10]) w9)))
 else
 (∃ (b11 : Bool) (n12 : Int), cellsAt w6 w.heap.size 0 [(.bool b11), (.int .i64 n12)] ∧ (Calls Tryd.prog 24 #[(.pointer (some ⟨p0b, p0o, none⟩ : Option Addr)), (.agg #[(.bool b11), (.int .i64 n12)])] w6 fun e14 w13 => ∃ (n15 : Int) (n16 : Int), e14 = .returned (.tuple #[(.int .i64 n15), (.int .i64 n16)]) ∧ (R (.tuple #[(.int .i64 n15), .nilIface]) w13)))))))
set_option maxRecDepth 100000 in
theorem Nodes.eq (p0b p0o : Nat) (b1 : Bool) (n2 : Int) (w : World) (R : Value → World → Prop) : Nodes.W p0b p0o b1 n2 w R = fnW Tryd.prog tys fns Nodes.hs Tryd.f17 [(.pointer (some ⟨p0b, p0o, none⟩ : Option Addr)), (.agg #[(.bool b1), (.int .i64 n2)])] w R := by kernel_rfl
theorem Nodes.ok : codeOk tys Nodes.hs Tryd.f17.ntmps (Tryd.f17.body.getD .skip) = true := by kernel_rfl
theorem Nodes.calls {p0b p0o b1 n2 w R} (h : Nodes.W p0b p0o b1 n2 w R) : Calls Tryd.prog 17 ([(.pointer (some ⟨p0b, p0o, none⟩ : Option Addr)), (.agg #[(.bool b1), (.int .i64 n2)])] : List Value).toArray w fun e w' => ∃ v, e = .returned v ∧ R v w' :=
  fnW_calls tysOk fnsOk follows Tryd.func17 (by kernel_rfl) Nodes.ok (by kernel_rfl) (Nodes.eq p0b p0o b1 n2 w R ▸ h)
/-! ### same: function 29 -/
def same.hs : Hints := ⟨[(5, seqO [0, 1, 2, 3, 4, 5, 6, 7, 8, 9, 10, 11, 12, 13, 14, 15, 16, 17, 18, 19]), (6, seqO [0, 1, 2, 3, 4, 5, 6, 7, 8, 9, 10, 11, 12, 13, 14, 15, 16, 17, 18, 19, 20, 21, 22, 23, 24, 25, 26, 27, 28, 29, 30, 31, 32, 33, 34, 35, 36, 37, 38, 39, 40, 41]), (8, seqO [0, 1, 2, 4, 5, 6, 3, 7, 8, 9]), (12, seqO [0, 1, 2, 3, 4, 5, 6, 7, 8, 9, 10, 11, 12])], [(10, [(93, .int .i64)])]⟩
set_option maxRecDepth 100000 in
def same.W (p0b p0o : Nat) (b1 : Bool) (n2 : Int) (b3 : Bool) (n4 : Int) (w : World) (R : Value → World → Prop) : Prop :=
 (withW (World.alloc w (.cells #[(.bool b1), (.int .i64 n2)] 30)) fun w5 =>
 (withW (World.alloc w5 (.cells #[(.bool b3), (.int .i64 n4)] 30)) fun w6 =>
 (∃ (b7 : Bool) (n8 : Int), cellsAt w6 w.heap.size 0 [(.bool b7), (.int .i64 n8)] ∧ (∃ (b9 : Bool) (n10 : Int), cellsAt w6 w5.heap.size 0 [(.bool b9), (.int .i64 n10)] ∧ (∃ (r11 : Bool), Runs Tryd.prog (semEq .eql 30 (.tmp 12) (.tmp 13) (.agg #[(.bool b7), (.int .i64 n8)]) (.agg #[(.bool b9), (.int .i64 n10)])) w6 (.bool r11) w6 ∧ (bif r11 then
 (R (.bool true) w6)
 else
 (∃ (b12 : Bool), World.cell? w6 ⟨w.heap.size, 0, none⟩ = some (.bool b12) ∧ (bif (!b12) then (R (.bool false) w6) else (∃ (b13 : Bool), World.cell? w6 ⟨w5.heap.size, 0, none⟩ = some (.bool b13) ∧ (bif (!b13) then
 (R (.bool false) w6)
 else
 (withW (World.drew w6) fun w14 =>
 (∃ b15 f16, (some ⟨p0b, p0o, none⟩ : Option Addr) = some ⟨b15, f16, none⟩ ∧ (∃ (a17 : Option Addr) (m18 c19 : Nat), World.cell? w14 ⟨b15, f16, none⟩ = some (.slice a17 m18 c19) ∧ (∃ (n20 : Int), World.cell? w14 ⟨w.heap.size, 1, none⟩ = some (.int .i64 n20) ∧ (∃ b21 f22, a17 = some ⟨b21, f22, none⟩ ∧ 0 ≤ n20 ∧ n20 < (m18 : Int) ∧ (∃ (p23 : Option Addr), World.cell? w14 ⟨b21, ((f22 + (n20 : Int).toNat * 3) + 2), none⟩ = some (.pointer p23) ∧ (∃ b24 f25, (some ⟨p0b, p0o, none⟩ : Option Addr) = some ⟨b24, f25, none⟩ ∧ (∃ (a26 : Option Addr) (m27 c28 : Nat), World.cell? w14 ⟨b24, f25, none⟩ = some (.slice a26 m27 c28) ∧ (∃ (n29 : Int), World.cell? w14 ⟨w5.heap.size, 1, none⟩ = some (.int .i64 n29) ∧ (∃ b30 f31, a26 = some ⟨b30, f31, none⟩ ∧ 0 ≤ n29 ∧ n29 < (m27 : Int) ∧ (∃ (p32 : Option Addr), World.cell? w14 ⟨b30, ((f31 + (n29 : Int).toNat * 3) + 2), none⟩ = some (.pointer p32) ∧ (withW (World.drew w14) fun w33 =>
 (∃ b34 f35, p23 = some ⟨b34, f35, none⟩ ∧ (∃ (n36 : Int), World.cell? w33 ⟨b34, f35, none⟩ = some (.int .i64 n36) ∧ (∃ b37 f38, p32 = some ⟨b37, f38, none⟩ ∧ (∃ (n39 : Int), World.cell? w33 ⟨b37, f38, none⟩ = some (.int .i64 n39) ∧ (bif (n36 != n39) then (R (.bool false) w33) else (∃ b40 f41, p23 = some ⟨b40, f41, none⟩ ∧ (∃ (n42 : Int), World.cell? w33 ⟨b40, (f41 + 1), none⟩ = some (.int .i64 n42) ∧ (∃ b43 f44, p32 = some ⟨b43, f44, none⟩ ∧ (∃ (n45 : Int), World.cell? w33 ⟨b43, (f44 + 1), none⟩ = some (.int .i64 n45) ∧ (bif (n42 != n45) then (R (.bool false) w33) else (∃ b46 f47, p23 = some ⟨b46, f47, none⟩ ∧ (∃ (n48 : Int), World.cell? w33 ⟨b46, (f47 + 2), none⟩ = some (.int .i64 n48) ∧ (∃ b49 f50, p32 = some ⟨b49, f50, none⟩ ∧ (∃ (n51 : Int), World.cell? w33 ⟨b49, (f50 + 2), none⟩ = some (.int .i64 n51) ∧ (bif (n48 != n51) then (R (.bool false) w33) else (∃ b52 f53, p23 = some ⟨b52, f53, none⟩ ∧ (∃ (n54 : Int), World.cell? w33 ⟨b52, (f53 + 3), none⟩ = some (.int .i64 n54) ∧ (∃ b55 f56, p32 = some ⟨b55, f56, none⟩ ∧ (∃ (n57 : Int), World.cell? w33 ⟨b55, (f56 + 3), none⟩ = some (.int .i64 n57) ∧ (bif (n54 != n57) then
 (R (.bool false) w33)
 else
 (withW (World.drew w33) fun w58 =>
 (∃ (n59 : Int), World.cell? w58 ⟨w.heap.size, 1, none⟩ = some (.int .i64 n59) ∧ (∃ (n60 : Int), World.cell? w58 ⟨w5.heap.size, 1, none⟩ = some (.int .i64 n60) ∧ (Calls Tryd.prog 26 #[(.pointer (some ⟨p0b, p0o, none⟩ : Option Addr)), (.int .i64 n59)] w58 fun e62 w61 => ∃ (a63 : Option Addr) (m64 c65 : Nat), e62 = .returned (.slice a63 m64 c65) ∧ (cellsAt w61 w5.heap.size 1 [(.int .i64 n60)] ∧ (Calls Tryd.prog 26 #[(.pointer (some ⟨p0b, p0o, none⟩ : Option Addr)), (.int .i64 n60)] w61 fun e67 w66 => ∃ (a68 : Option Addr) (m69 c70 : Nat), e67 = .returned (.slice a68 m69 c70) ∧ (∃ (I71 : List Value → World → Prop) (μ72 : List Value → World → Nat), I71 [(.int .i64 0)] w66 ∧ ∀ (j74 : Env) (q75 : List Value) (w73 : World), I71 q75 w73 → ∃ (n76 : Int), q75 = [(.int .i64 n76)] ∧
 (bif (decide (n76 < (m64 : Int))) then
 (withW (World.drew w73) fun w77 =>
 (∃ b78 f79, a63 = some ⟨b78, f79, none⟩ ∧ 0 ≤ n76 ∧ n76 < (m64 : Int) ∧ (∃ (b80 : Bool) (n81 : Int), cellsAt w77 b78 (f79 + (n76 : Int).toNat * 3) [(.bool b80), (.int .i64 n81)] ∧ (∃ b82 f83, a68 = some ⟨b82, f83, none⟩ ∧ 0 ≤ n76 ∧ n76 < (m69 : Int) ∧ (∃ (b84 : Bool) (n85 : Int), cellsAt w77 b82 (f83 + (n76 : Int).toNat * 3) [(.bool b84), (.int .i64 n85)] ∧ (Calls Tryd.prog 29 #[(.pointer (some ⟨p0b, p0o, none⟩ : Option Addr)), (.agg #[(.bool b80), (.int .i64 n81)]), (.agg #[(.bool b84), (.int .i64 n85)])] w77 fun e87 w86 => ∃ (b88 : Bool), e87 = .returned (.bool b88) ∧ (bif (!b88) then
 (R (.bool false) w86)
 else
 (I71 [(.int .i64 (IntKind.i64.wrap (n76 + 1)))] w86 ∧ μ72 [(.int .i64 (IntKind.i64.wrap (n76 + 1)))] w86 < μ72 [(.int .i64 n76)] w73))))))))
 else
 (R (.bool true) w73)))))))))))))))))))))))))))))))))))))))))))))))))))
set_option maxRecDepth 100000 in
theorem same.eq (p0b p0o : Nat) (b1 : Bool) (n2 : Int) (b3 : Bool) (n4 : Int) (w : World) (R : Value → World → Prop) : same.W p0b p0o b1 n2 b3 n4 w R = fnW Tryd.prog tys fns same.hs Tryd.f29 [(.pointer (some ⟨p0b, p0o, none⟩ : Option Addr)), (.agg #[(.bool b1), (.int .i64 n2)]), (.agg #[(.bool b3), (.int .i64 n4)])] w R := by kernel_rfl
theorem same.ok : codeOk tys same.hs Tryd.f29.ntmps (Tryd.f29.body.getD .skip) = true := by kernel_rfl
theorem same.calls {p0b p0o b1 n2 b3 n4 w R} (h : same.W p0b p0o b1 n2 b3 n4 w R) : Calls Tryd.prog 29 ([(.pointer (some ⟨p0b, p0o, none⟩ : Option Addr)), (.agg #[(.bool b1), (.int .i64 n2)]), (.agg #[(.bool b3), (.int .i64 n4)])] : List Value).toArray w fun e w' => ∃ v, e = .returned v ∧ R v w' :=
  fnW_calls tysOk fnsOk follows Tryd.func29 (by kernel_rfl) same.ok (by kernel_rfl) (same.eq p0b p0o b1 n2 b3 n4 w R ▸ h)
/-! ### alike: function 21 -/
def alike.hs : Hints := ⟨[(7, seqO [0, 1, 2, 3, 4, 5, 6, 7, 8, 9, 10, 11, 12]), (8, seqO [0, 1, 2, 3, 4, 5, 6, 7, 8, 9, 10, 11, 12]), (9, seqO [0, 1, 2, 3, 4, 5, 6, 7, 8, 9, 10]), (15, seqO [0, 1, 2, 3, 4, 5, 6, 7, 8, 9, 10, 11, 12])], [(13, [(109, .int .i64)])]⟩
set_option maxRecDepth 100000 in
def alike.W (p0b p0o : Nat) (b1 : Bool) (n2 : Int) (n3 : Int) (n4 : Int) (v5 : Value) (w : World) (R : Value → World → Prop) : Prop :=
 (withW (World.alloc w (.cells #[(.bool b1), (.int .i64 n2)] 30)) fun w6 =>
 (withW (World.alloc w6 (.cells #[(.int .i64 n3), (.int .i64 n4)] 63)) fun w7 =>
 (∃ (n8 : Int), World.cell? w7 ⟨w6.heap.size, 0, none⟩ = some (.int .i64 n8) ∧ (bif (decide (n8 < (0 : Int))) then
 (∃ (b9 : Bool), World.cell? w7 ⟨w.heap.size, 0, none⟩ = some (.bool b9) ∧ (bif (!b9) then (∃ (n10 : Int), World.cell? w7 ⟨w.heap.size, 1, none⟩ = some (.int .i64 n10) ∧ (∃ (n11 : Int), World.cell? w7 ⟨w6.heap.size, 1, none⟩ = some (.int .i64 n11) ∧ (R (.bool (n10 == n11)) w7))) else (R (.bool false) w7)))
 else
 (∃ (n12 : Int), World.cell? w7 ⟨w6.heap.size, 0, none⟩ = some (.int .i64 n12) ∧ (∃ (b13 : Bool) (n14 : Int) (b15 : Bool), Runs Tryd.prog (Instr.lookup 69 v5 (.int .i64 n12) true) w7 (.tuple #[(.agg #[(.bool b13), (.int .i64 n14)]), (.bool b15)]) w7 ∧ (withW (World.alloc w7 (.cells #[.bool false, .int .i64 0] 30)) fun w16 =>
 (canSt w16 w7.heap.size 0 [(.bool b13), (.int .i64 n14)] ∧ withW (setL w16 w7.heap.size 0 [(.bool b13), (.int .i64 n14)]) fun w17 =>
 (bif b15 then
 (∃ (b18 : Bool) (n19 : Int), cellsAt w17 w7.heap.size 0 [(.bool b18), (.int .i64 n19)] ∧ (∃ (b20 : Bool) (n21 : Int), cellsAt w17 w.heap.size 0 [(.bool b20), (.int .i64 n21)] ∧ (∃ (r22 : Bool), Runs Tryd.prog (semEq .eql 30 (.tmp 39) (.tmp 40) (.agg #[(.bool b18), (.int .i64 n19)]) (.agg #[(.bool b20), (.int .i64 n21)])) w17 (.bool r22) w17 ∧ (R (.bool r22) w17))))
 else
 (∃ (n23 : Int), World.cell? w17 ⟨w6.heap.size, 0, none⟩ = some (.int .i64 n23) ∧ (∃ (b24 : Bool) (n25 : Int), cellsAt w17 w.heap.size 0 [(.bool b24), (.int .i64 n25)] ∧ (∃ w26, Runs Tryd.prog (Instr.mapUpdate 69 v5 (.int .i64 n23) (.agg #[(.bool b24), (.int .i64 n25)])) w17 () w26 ∧ (withW (World.drew w26) fun w27 =>
 (∃ b28 f29, (some ⟨p0b, p0o, none⟩ : Option Addr) = some ⟨b28, f29, none⟩ ∧ (∃ (p30 : Option Addr), World.cell? w27 ⟨b28, (f29 + 1), none⟩ = some (.pointer p30) ∧ (∃ b31 f32, p30 = some ⟨b31, f32, none⟩ ∧ (∃ (a33 : Option Addr) (m34 c35 : Nat), World.cell? w27 ⟨b31, (f32 + 1), none⟩ = some (.slice a33 m34 c35) ∧ (∃ (n36 : Int), World.cell? w27 ⟨w6.heap.size, 0, none⟩ = some (.int .i64 n36) ∧ (∃ b37 f38, a33 = some ⟨b37, f38, none⟩ ∧ 0 ≤ n36 ∧ n36 < (m34 : Int) ∧ (∃ (n39 : Int) (a40 : Option Addr) (m41 c42 : Nat) (n43 : Int) (n44 : Int) (b45 : Bool), cellsAt w27 b37 (f38 + (n36 : Int).toNat * 5) [(.int .i64 n39), (.slice a40 m41 c42), (.int .i64 n43), (.int .i64 n44), (.bool b45)] ∧ (withW (World.alloc w27 (.cells #[.int .i64 0, .slice none 0 0, .int .i64 0, .int .i64 0, .bool false] 103)) fun w46 =>
 (cellsAt w46 b37 (f38 + (n36 : Int).toNat * 5) [(.int .i64 n39), (.slice a40 m41 c42), (.int .i64 n43), (.int .i64 n44), (.bool b45)] ∧ cellsAt w46 w6.heap.size 0 [(.int .i64 n36)] ∧ cellsAt w46 b31 (f32 + 1) [(.slice a33 m34 c35)] ∧ cellsAt w46 b28 (f29 + 1) [(.pointer p30)] ∧ (canSt w46 w27.heap.size 0 [(.int .i64 n39), (.slice a40 m41 c42), (.int .i64 n43), (.int .i64 n44), (.bool b45)] ∧ withW (setL w46 w27.heap.size 0 [(.int .i64 n39), (.slice a40 m41 c42), (.int .i64 n43), (.int .i64 n44), (.bool b45)]) fun w47 =>
 (withW (World.drew w47) fun w48 =>
 (∃ b49 f50, (some ⟨p0b, p0o, none⟩ : Option Addr) = some ⟨b49, f50, none⟩ ∧ (∃ (p51 : Option Addr), World.cell? w48 ⟨b49, f50, none⟩ = some (.pointer p51) ∧ (∃ (b52 : Bool) (n53 : Int), cellsAt w48 w.heap.size 0 [(.bool b52), (.int .i64 n53)] ∧ (Calls Tryd.prog 11 #[(.pointer p51), (.agg #[(.bool b52), (.int .i64 n53)])] w48 fun e55 w54 => ∃ (n56 : Int) (a57 : Option Addr) (m58 c59 : Nat) (v60 : Value), e55 = .returned (.tuple #[(.int .i64 n56), (.slice a57 m58 c59), v60]) ∧ (withW (World.drew w54) fun w61 =>
 (∃ b62 f63, (some ⟨p0b, p0o, none⟩ : Option Addr) = some ⟨b62, f63, none⟩ ∧ (∃ (p64 : Option Addr), World.cell? w61 ⟨b62, f63, none⟩ = some (.pointer p64) ∧ (∃ (b65 : Bool) (n66 : Int), cellsAt w61 w.heap.size 0 [(.bool b65), (.int .i64 n66)] ∧ (Calls Tryd.prog 17 #[(.pointer p64), (.agg #[(.bool b65), (.int .i64 n66)])] w61 fun e68 w67 => ∃ (n69 : Int) (v70 : Value), e68 = .returned (.tuple #[(.int .i64 n69), v70]) ∧ (∃ (b71 : Bool), World.cell? w67 ⟨w.heap.size, 0, none⟩ = some (.bool b71) ∧ (bif (!b71) then (R (.bool false) w67) else (∃ r72, IsNil v60 r72 ∧ (bif (!r72) then (R (.bool false) w67) else (∃ r73, IsNil v70 r73 ∧ (bif (!r73) then (R (.bool false) w67) else (∃ (n74 : Int), World.cell? w67 ⟨w27.heap.size, 0, none⟩ = some (.int .i64 n74) ∧ (bif (n56 != n74) then (R (.bool false) w67) else (∃ (a75 : Option Addr) (m76 c77 : Nat), World.cell? w67 ⟨w27.heap.size, 1, none⟩ = some (.slice a75 m76 c77) ∧ (bif ((m58 : Int) != (m76 : Int)) then (R (.bool false) w67) else (∃ (n78 : Int), World.cell? w67 ⟨w27.heap.size, 2, none⟩ = some (.int .i64 n78) ∧ (bif (n69 != n78) then
 (R (.bool false) w67)
 else
 (∃ (I79 : List Value → World → Prop) (μ80 : List Value → World → Nat), I79 [(.int .i64 0)] w67 ∧ ∀ (j82 : Env) (q83 : List Value) (w81 : World), I79 q83 w81 → ∃ (n84 : Int), q83 = [(.int .i64 n84)] ∧
 (bif (decide (n84 < (m58 : Int))) then
 (withW (World.drew w81) fun w85 =>
 (∃ b86 f87, a57 = some ⟨b86, f87, none⟩ ∧ 0 ≤ n84 ∧ n84 < (m58 : Int) ∧ (∃ (b88 : Bool) (n89 : Int), cellsAt w85 b86 (f87 + (n84 : Int).toNat * 2) [(.bool b88), (.int .i64 n89)] ∧ (∃ (a90 : Option Addr) (m91 c92 : Nat), World.cell? w85 ⟨w27.heap.size, 1, none⟩ = some (.slice a90 m91 c92) ∧ (∃ b93 f94, a90 = some ⟨b93, f94, none⟩ ∧ 0 ≤ n84 ∧ n84 < (m91 : Int) ∧ (∃ (n95 : Int) (n96 : Int), cellsAt w85 b93 (f94 + (n84 : Int).toNat * 2) [(.int .i64 n95), (.int .i64 n96)] ∧ (Calls Tryd.prog 21 #[(.pointer (some ⟨p0b, p0o, none⟩ : Option Addr)), (.agg #[(.bool b88), (.int .i64 n89)]), (.agg #[(.int .i64 n95), (.int .i64 n96)]), v5] w85 fun e98 w97 => ∃ (b99 : Bool), e98 = .returned (.bool b99) ∧ (bif (!b99) then
 (R (.bool false) w97)
 else
 (I79 [(.int .i64 (IntKind.i64.wrap (n84 + 1)))] w97 ∧ μ80 [(.int .i64 (IntKind.i64.wrap (n84 + 1)))] w97 < μ80 [(.int .i64 n84)] w81)))))))))
 else
 (R (.bool true) w81))))))))))))))))))))))))))))))))))))))))))))))))
set_option maxRecDepth 100000 in
theorem alike.eq (p0b p0o : Nat) (b1 : Bool) (n2 : Int) (n3 : Int) (n4 : Int) (v5 : Value) (w : World) (R : Value → World → Prop) : alike.W p0b p0o b1 n2 n3 n4 v5 w R = fnW Tryd.prog tys fns alike.hs Tryd.f21 [(.pointer (some ⟨p0b, p0o, none⟩ : Option Addr)), (.agg #[(.bool b1), (.int .i64 n2)]), (.agg #[(.int .i64 n3), (.int .i64 n4)]), v5] w R := by kernel_rfl
theorem alike.ok : codeOk tys alike.hs Tryd.f21.ntmps (Tryd.f21.body.getD .skip) = true := by kernel_rfl
theorem alike.calls {p0b p0o b1 n2 n3 n4 v5 w R} (h : alike.W p0b p0o b1 n2 n3 n4 v5 w R) : Calls Tryd.prog 21 ([(.pointer (some ⟨p0b, p0o, none⟩ : Option Addr)), (.agg #[(.bool b1), (.int .i64 n2)]), (.agg #[(.int .i64 n3), (.int .i64 n4)]), v5] : List Value).toArray w fun e w' => ∃ v, e = .returned v ∧ R v w' :=
  fnW_calls tysOk fnsOk follows Tryd.func21 (by kernel_rfl) alike.ok (by kernel_rfl) (alike.eq p0b p0o b1 n2 n3 n4 v5 w R ▸ h)
/-! ### play: function 19 -/
def play.hs : Hints := ⟨[(4, (.one 0 (.one 1 (.one 2 (.one 3 (.one 4 (.one 5 (.one 6 (.alt (seqO [7, 8, 9, 10, 11, 12, 13]) (seqO [11, 7, 8, 9, 10, 12, 13])))))))))), (5, seqO [0, 1, 2, 3, 4, 5, 6, 7, 8, 9, 10, 11, 12]), (9, seqO [0, 1, 2, 3, 4, 5, 6, 7, 8, 9, 11, 12, 15, 16, 10, 13, 14, 17, 18]), (12, seqO [0, 1, 2, 3, 4, 5, 6, 7, 8, 9, 10, 11, 12, 13, 14, 15]), (13, seqO [0, 1, 2, 3, 4, 5, 6, 7, 8, 9, 10, 11, 12, 13, 14, 15, 16, 17]), (27, seqO [0, 1, 2, 3, 4, 6, 7, 10, 11, 5, 8, 9, 12, 13]), (28, (.one 0 (.one 1 (.one 2 (.one 3 (.one 4 (.one 5 (.one 6 (.one 7 (.one 8 (.one 9 (.one 10 (.one 13 (.one 14 (.one 15 (.one 16 (.one 17 (.one 18 (.one 19 (.alt ((.one 11 (.alt (seqO [12, 20, 21, 22, 23]) (seqO [20, 12, 21, 22, 23])))) (seqO [20, 11, 12, 21, 22, 23]))))))))))))))))))))), (34, seqO [0, 1, 2, 3, 4, 5, 6, 7, 8, 9, 10, 11, 12, 14, 15, 18, 19, 13, 16, 17, 20, 21])], [(17, [(116, .int .i64)]), (24, [(16, .sl), (17, .sl), (126, .int .i64)])]⟩
set_option maxRecDepth 100000 in
def play.W (p0b p0o : Nat) (n1 : Int) (n2 : Int) (n3 : Int) (a4 : Option Addr) (m5 c6 : Nat) (a7 : Option Addr) (m8 c9 : Nat) (w : World) (R : Value → World → Prop) : Prop :=
 (withW (World.alloc w (.cells #[(.int .i64 n1), (.int .i64 n2), (.int .i64 n3), (.slice a4 m5 c6), (.slice a7 m8 c9)] 45)) fun w10 =>
 (∃ (a11 : Option Addr) (m12 c13 : Nat), World.cell? w10 ⟨w.heap.size, 3, none⟩ = some (.slice a11 m12 c13) ∧ (Calls Tryd.prog 30 #[(.pointer (some ⟨p0b, p0o, none⟩ : Option Addr)), (.slice a11 m12 c13)] w10 fun e15 w14 => ∃ (a16 : Option Addr) (m17 c18 : Nat) (a19 : Option Addr) (m20 c21 : Nat), e15 = .returned (.tuple #[(.slice a16 m17 c18), (.slice a19 m20 c21)]) ∧ (∃ (n22 : Int), World.cell? w14 ⟨w.heap.size, 0, none⟩ = some (.int .i64 n22) ∧ (bif (n22 == (1 : Int)) then
 (withW (World.drew w14) fun w23 =>
 (∃ b24 f25, (some ⟨p0b, p0o, none⟩ : Option Addr) = some ⟨b24, f25, none⟩ ∧ (∃ (p26 : Option Addr), World.cell? w23 ⟨b24, f25, none⟩ = some (.pointer p26) ∧ (∃ (n27 : Int), World.cell? w23 ⟨w.heap.size, 2, none⟩ = some (.int .i64 n27) ∧ ((Calls Tryd.prog 10 #[(.pointer p26), (.int .i64 n27), (.slice a16 m17 c18)] w23 fun e29 w28 => ∃ (b30 : Bool) (n31 : Int) (v32 : Value), e29 = .returned (.tuple #[(.agg #[(.bool b30), (.int .i64 n31)]), v32]) ∧ (withW (World.alloc w28 (.cells #[.bool false, .int .i64 0] 30)) fun w33 =>
 (cellsAt w33 w.heap.size 2 [(.int .i64 n27)] ∧ cellsAt w33 b24 f25 [(.pointer p26)] ∧ (canSt w33 w28.heap.size 0 [(.bool b30), (.int .i64 n31)] ∧ withW (setL w33 w28.heap.size 0 [(.bool b30), (.int .i64 n31)]) fun w34 =>
 (withW (World.drew w34) fun w35 =>
 (∃ b36 f37, (some ⟨p0b, p0o, none⟩ : Option Addr) = some ⟨b36, f37, none⟩ ∧ (∃ (p38 : Option Addr), World.cell? w35 ⟨b36, (f37 + 1), none⟩ = some (.pointer p38) ∧ (∃ (n39 : Int), World.cell? w35 ⟨w.heap.size, 2, none⟩ = some (.int .i64 n39) ∧ (Calls Tryd.prog 31 #[(.pointer p38), (.int .i64 n39), (.slice a19 m20 c21)] w35 fun e41 w40 => ∃ (n42 : Int) (n43 : Int), e41 = .returned (.tuple #[(.int .i64 n42), (.int .i64 n43)]) ∧ (Calls Tryd.prog 32 #[v32] w40 fun e45 w44 => ∃ (n46 : Int), e45 = .returned (.int .i64 n46) ∧ (bif (n46 != n43) then
 (R (.bool false) w44)
 else
 (bif (n43 == (0 : Int)) then
 (withW (World.drew w44) fun w47 =>
 (∃ (n48 : Int), World.cell? w47 ⟨w.heap.size, 1, none⟩ = some (.int .i64 n48) ∧ (∃ (n49 : Int), World.cell? w47 ⟨w.heap.size, 1, none⟩ = some (.int .i64 n49) ∧ (∃ (b50 : Bool) (n51 : Int), cellsAt w47 w28.heap.size 0 [(.bool b50), (.int .i64 n51)] ∧ (∃ b52 f53, (some ⟨p0b, p0o, none⟩ : Option Addr) = some ⟨b52, f53, none⟩ ∧ (∃ b54 f55, (some ⟨p0b, p0o, none⟩ : Option Addr) = some ⟨b54, f55, none⟩ ∧ (Calls Tryd.prog 33 #[(.int .i64 n42)] w47 fun e57 w56 => ∃ (n58 : Int) (n59 : Int), e57 = .returned (.agg #[(.int .i64 n58), (.int .i64 n59)]) ∧ (cellsAt w56 w28.heap.size 0 [(.bool b50), (.int .i64 n51)] ∧ cellsAt w56 w.heap.size 1 [(.int .i64 n49)] ∧ cellsAt w56 w.heap.size 1 [(.int .i64 n48)] ∧ (0 ≤ (IntKind.i64.wrap ((BitVec.ofInt IntKind.i64.bits n48 &&& BitVec.ofInt IntKind.i64.bits (7 : Int))).toNat) ∧ (IntKind.i64.wrap ((BitVec.ofInt IntKind.i64.bits n48 &&& BitVec.ofInt IntKind.i64.bits (7 : Int))).toNat) < ((8 : Nat) : Int) ∧ (canSt w56 b52 ((f53 + 2) + ((IntKind.i64.wrap ((BitVec.ofInt IntKind.i64.bits n48 &&& BitVec.ofInt IntKind.i64.bits (7 : Int))).toNat) : Int).toNat * 2) [(.bool b50), (.int .i64 n51)] ∧ withW (setL w56 b52 ((f53 + 2) + ((IntKind.i64.wrap ((BitVec.ofInt IntKind.i64.bits n48 &&& BitVec.ofInt IntKind.i64.bits (7 : Int))).toNat) : Int).toNat * 2) [(.bool b50), (.int .i64 n51)]) fun w60 =>
 (cellsAt w60 w.heap.size 1 [(.int .i64 n49)] ∧ (0 ≤ (IntKind.i64.wrap ((BitVec.ofInt IntKind.i64.bits n49 &&& BitVec.ofInt IntKind.i64.bits (7 : Int))).toNat) ∧ (IntKind.i64.wrap ((BitVec.ofInt IntKind.i64.bits n49 &&& BitVec.ofInt IntKind.i64.bits (7 : Int))).toNat) < ((8 : Nat) : Int) ∧ (canSt w60 b54 ((f55 + 18) + ((IntKind.i64.wrap ((BitVec.ofInt IntKind.i64.bits n49 &&& BitVec.ofInt IntKind.i64.bits (7 : Int))).toNat) : Int).toNat * 2) [(.int .i64 n58), (.int .i64 n59)] ∧ withW (setL w60 b54 ((f55 + 18) + ((IntKind.i64.wrap ((BitVec.ofInt IntKind.i64.bits n49 &&& BitVec.ofInt IntKind.i64.bits (7 : Int))).toNat) : Int).toNat * 2) [(.int .i64 n58), (.int .i64 n59)]) fun w61 =>
 (R (.bool true) w61))))))))))))))
 else
 (R (.bool true) w44))))))))))))) ∧ (withW (World.alloc w23 (.cells #[.bool false, .int .i64 0] 30)) fun w62 =>
 (cellsAt w62 w.heap.size 2 [(.int .i64 n27)] ∧ cellsAt w62 b24 f25 [(.pointer p26)] ∧ (Calls Tryd.prog 10 #[(.pointer p26), (.int .i64 n27), (.slice a16 m17 c18)] w62 fun e64 w63 => ∃ (b65 : Bool) (n66 : Int) (v67 : Value), e64 = .returned (.tuple #[(.agg #[(.bool b65), (.int .i64 n66)]), v67]) ∧ (canSt w63 w23.heap.size 0 [(.bool b65), (.int .i64 n66)] ∧ withW (setL w63 w23.heap.size 0 [(.bool b65), (.int .i64 n66)]) fun w68 =>
 (withW (World.drew w68) fun w69 =>
 (∃ b70 f71, (some ⟨p0b, p0o, none⟩ : Option Addr) = some ⟨b70, f71, none⟩ ∧ (∃ (p72 : Option Addr), World.cell? w69 ⟨b70, (f71 + 1), none⟩ = some (.pointer p72) ∧ (∃ (n73 : Int), World.cell? w69 ⟨w.heap.size, 2, none⟩ = some (.int .i64 n73) ∧ (Calls Tryd.prog 31 #[(.pointer p72), (.int .i64 n73), (.slice a19 m20 c21)] w69 fun e75 w74 => ∃ (n76 : Int) (n77 : Int), e75 = .returned (.tuple #[(.int .i64 n76), (.int .i64 n77)]) ∧ (Calls Tryd.prog 32 #[v67] w74 fun e79 w78 => ∃ (n80 : Int), e79 = .returned (.int .i64 n80) ∧ (bif (n80 != n77) then
 (R (.bool false) w78)
 else
 (bif (n77 == (0 : Int)) then
 (withW (World.drew w78) fun w81 =>
 (∃ (n82 : Int), World.cell? w81 ⟨w.heap.size, 1, none⟩ = some (.int .i64 n82) ∧ (∃ (n83 : Int), World.cell? w81 ⟨w.heap.size, 1, none⟩ = some (.int .i64 n83) ∧ (∃ (b84 : Bool) (n85 : Int), cellsAt w81 w23.heap.size 0 [(.bool b84), (.int .i64 n85)] ∧ (∃ b86 f87, (some ⟨p0b, p0o, none⟩ : Option Addr) = some ⟨b86, f87, none⟩ ∧ (∃ b88 f89, (some ⟨p0b, p0o, none⟩ : Option Addr) = some ⟨b88, f89, none⟩ ∧ (Calls Tryd.prog 33 #[(.int .i64 n76)] w81 fun e91 w90 => ∃ (n92 : Int) (n93 : Int), e91 = .returned (.agg #[(.int .i64 n92), (.int .i64 n93)]) ∧ (cellsAt w90 w23.heap.size 0 [(.bool b84), (.int .i64 n85)] ∧ cellsAt w90 w.heap.size 1 [(.int .i64 n83)] ∧ cellsAt w90 w.heap.size 1 [(.int .i64 n82)] ∧ (0 ≤ (IntKind.i64.wrap ((BitVec.ofInt IntKind.i64.bits n82 &&& BitVec.ofInt IntKind.i64.bits (7 : Int))).toNat) ∧ (IntKind.i64.wrap ((BitVec.ofInt IntKind.i64.bits n82 &&& BitVec.ofInt IntKind.i64.bits (7 : Int))).toNat) < ((8 : Nat) : Int) ∧ (canSt w90 b86 ((f87 + 2) + ((IntKind.i64.wrap ((BitVec.ofInt IntKind.i64.bits n82 &&& BitVec.ofInt IntKind.i64.bits (7 : Int))).toNat) : Int).toNat * 2) [(.bool b84), (.int .i64 n85)] ∧ withW (setL w90 b86 ((f87 + 2) + ((IntKind.i64.wrap ((BitVec.ofInt IntKind.i64.bits n82 &&& BitVec.ofInt IntKind.i64.bits (7 : Int))).toNat) : Int).toNat * 2) [(.bool b84), (.int .i64 n85)]) fun w94 =>
 (cellsAt w94 w.heap.size 1 [(.int .i64 n83)] ∧ (0 ≤ (IntKind.i64.wrap ((BitVec.ofInt IntKind.i64.bits n83 &&& BitVec.ofInt IntKind.i64.bits (7 : Int))).toNat) ∧ (IntKind.i64.wrap ((BitVec.ofInt IntKind.i64.bits n83 &&& BitVec.ofInt IntKind.i64.bits (7 : Int))).toNat) < ((8 : Nat) : Int) ∧ (canSt w94 b88 ((f89 + 18) + ((IntKind.i64.wrap ((BitVec.ofInt IntKind.i64.bits n83 &&& BitVec.ofInt IntKind.i64.bits (7 : Int))).toNat) : Int).toNat * 2) [(.int .i64 n92), (.int .i64 n93)] ∧ withW (setL w94 b88 ((f89 + 18) + ((IntKind.i64.wrap ((BitVec.ofInt IntKind.i64.bits n83 &&& BitVec.ofInt IntKind.i64.bits (7 : Int))).toNat) : Int).toNat * 2) [(.int .i64 n92), (.int .i64 n93)]) fun w95 =>
 (R (.bool true) w95))))))))))))))
 else
 (R (.bool true) w78))))))))))))))))))
 else
 (bif (n22 == (2 : Int)) then
 (bif (decide ((m17 : Int) > (1 : Int))) then
 (withW (World.drew w14) fun w96 =>
 (∃ b97 f98, (some ⟨p0b, p0o, none⟩ : Option Addr) = some ⟨b97, f98, none⟩ ∧ (∃ (p99 : Option Addr), World.cell? w96 ⟨b97, f98, none⟩ = some (.pointer p99) ∧ (∃ b100 f101, a16 = some ⟨b100, f101, none⟩ ∧ 0 ≤ (0 : Int) ∧ (0 : Int) < (m17 : Int) ∧ (∃ (b102 : Bool) (n103 : Int), cellsAt w96 b100 (f101 + 0 * 2) [(.bool b102), (.int .i64 n103)] ∧ (∃ b104 f105, a16 = some ⟨b104, f105, none⟩ ∧ 0 ≤ (1 : Int) ∧ (1 : Int) < (m17 : Int) ∧ (∃ (b106 : Bool) (n107 : Int), cellsAt w96 b104 (f105 + 1 * 2) [(.bool b106), (.int .i64 n107)] ∧ (Calls Tryd.prog 16 #[(.pointer p99), (.agg #[(.bool b102), (.int .i64 n103)]), (.agg #[(.bool b106), (.int .i64 n107)])] w96 fun e109 w108 => ∃ (b110 : Bool) (v111 : Value), e109 = .returned (.tuple #[(.bool b110), v111]) ∧ (withW (World.drew w108) fun w112 =>
 (∃ r113, IsNil v111 r113 ∧ (bif r113 then (∃ b114 f115, (some ⟨p0b, p0o, none⟩ : Option Addr) = some ⟨b114, f115, none⟩ ∧ (∃ (p116 : Option Addr), World.cell? w112 ⟨b114, (f115 + 1), none⟩ = some (.pointer p116) ∧ (∃ b117 f118, a19 = some ⟨b117, f118, none⟩ ∧ 0 ≤ (0 : Int) ∧ (0 : Int) < (m20 : Int) ∧ (∃ (n119 : Int) (n120 : Int), cellsAt w112 b117 (f118 + 0 * 2) [(.int .i64 n119), (.int .i64 n120)] ∧ (∃ b121 f122, a19 = some ⟨b121, f122, none⟩ ∧ 0 ≤ (1 : Int) ∧ (1 : Int) < (m20 : Int) ∧ (∃ (n123 : Int) (n124 : Int), cellsAt w112 b121 (f122 + 1 * 2) [(.int .i64 n123), (.int .i64 n124)] ∧ (Calls Tryd.prog 34 #[(.pointer p116), (.agg #[(.int .i64 n119), (.int .i64 n120)]), (.agg #[(.int .i64 n123), (.int .i64 n124)])] w112 fun e126 w125 => ∃ (b127 : Bool), e126 = .returned (.bool b127) ∧ (R (.bool (b110 == b127)) w125)))))))) else (R (.bool false) w112))))))))))))
 else
 (R (.bool true) w14))
 else
 (bif (n22 == (3 : Int)) then
 (withW (World.alloc w14 (.cells #[.bool false, .bool false, .bool false, .bool false, .bool false, .bool false, .bool false, .bool false] 100)) fun w128 =>
 (∃ (a129 : Option Addr) (m130 c131 : Nat), World.cell? w128 ⟨w.heap.size, 4, none⟩ = some (.slice a129 m130 c131) ∧ (∃ (I132 : List Value → World → Prop) (μ133 : List Value → World → Nat), I132 [(.int .i64 0)] w128 ∧ ∀ (j135 : Env) (q136 : List Value) (w134 : World), I132 q136 w134 → ∃ (n137 : Int), q136 = [(.int .i64 n137)] ∧
 (bif (decide (n137 < (m130 : Int))) then
 (∃ b138 f139, a129 = some ⟨b138, f139, none⟩ ∧ 0 ≤ n137 ∧ n137 < (m130 : Int) ∧ (∃ (n140 : Int), World.cell? w134 ⟨b138, (f139 + (n137 : Int).toNat * 1), none⟩ = some (.int .i64 n140) ∧ (0 ≤ (IntKind.i64.wrap ((BitVec.ofInt IntKind.i64.bits n140 &&& BitVec.ofInt IntKind.i64.bits (7 : Int))).toNat) ∧ (IntKind.i64.wrap ((BitVec.ofInt IntKind.i64.bits n140 &&& BitVec.ofInt IntKind.i64.bits (7 : Int))).toNat) < ((8 : Nat) : Int) ∧ (canSt w134 w14.heap.size (0 + ((IntKind.i64.wrap ((BitVec.ofInt IntKind.i64.bits n140 &&& BitVec.ofInt IntKind.i64.bits (7 : Int))).toNat) : Int).toNat * 1) [(.bool true)] ∧ withW (setL w134 w14.heap.size (0 + ((IntKind.i64.wrap ((BitVec.ofInt IntKind.i64.bits n140 &&& BitVec.ofInt IntKind.i64.bits (7 : Int))).toNat) : Int).toNat * 1) [(.bool true)]) fun w141 =>
 (I132 [(.int .i64 (IntKind.i64.wrap (n137 + 1)))] w141 ∧ μ133 [(.int .i64 (IntKind.i64.wrap (n137 + 1)))] w141 < μ133 [(.int .i64 n137)] w134)))))
 else
 (withW (World.alloc w134 (.cells #[] 39)) fun w142 =>
 (withW (World.alloc w142 (.cells #[] 63)) fun w143 =>
 (∃ (I144 : List Value → World → Prop) (μ145 : List Value → World → Nat), I144 [(.slice (some ⟨w134.heap.size, 0, none⟩ : Option Addr) 0 0), (.slice (some ⟨w142.heap.size, 0, none⟩ : Option Addr) 0 0), (.int .i64 0)] w143 ∧ ∀ (j147 : Env) (q148 : List Value) (w146 : World), I144 q148 w146 → ∃ (a149 : Option Addr) (m150 c151 : Nat) (a152 : Option Addr) (m153 c154 : Nat) (n155 : Int), q148 = [(.slice a149 m150 c151), (.slice a152 m153 c154), (.int .i64 n155)] ∧
 (bif (decide (n155 < (8 : Int))) then
 (0 ≤ n155 ∧ n155 < ((8 : Nat) : Int) ∧ (∃ (b156 : Bool), World.cell? w146 ⟨w14.heap.size, (0 + (n155 : Int).toNat * 1), none⟩ = some (.bool b156) ∧ (bif (!b156) then
 (withW (World.drew w146) fun w157 =>
 (∃ b158 f159, (some ⟨p0b, p0o, none⟩ : Option Addr) = some ⟨b158, f159, none⟩ ∧ (∃ b160 f161, (some ⟨p0b, p0o, none⟩ : Option Addr) = some ⟨b160, f161, none⟩ ∧ (Calls Tryd.prog 18 #[(.int .i64 0)] w157 fun e163 w162 => ∃ (n164 : Int) (n165 : Int), e163 = .returned (.agg #[(.int .i64 n164), (.int .i64 n165)]) ∧ (0 ≤ n155 ∧ n155 < ((8 : Nat) : Int) ∧ (canSt w162 b158 ((f159 + 2) + (n155 : Int).toNat * 2) [(.bool false), (.int .i64 0)] ∧ withW (setL w162 b158 ((f159 + 2) + (n155 : Int).toNat * 2) [(.bool false), (.int .i64 0)]) fun w166 =>
 (0 ≤ n155 ∧ n155 < ((8 : Nat) : Int) ∧ (canSt w166 b160 ((f161 + 18) + (n155 : Int).toNat * 2) [(.int .i64 n164), (.int .i64 n165)] ∧ withW (setL w166 b160 ((f161 + 18) + (n155 : Int).toNat * 2) [(.int .i64 n164), (.int .i64 n165)]) fun w167 =>
 (I144 [(.slice a149 m150 c151), (.slice a152 m153 c154), (.int .i64 (IntKind.i64.wrap (n155 + 1)))] w167 ∧ μ145 [(.slice a149 m150 c151), (.slice a152 m153 c154), (.int .i64 (IntKind.i64.wrap (n155 + 1)))] w167 < μ145 [(.slice a149 m150 c151), (.slice a152 m153 c154), (.int .i64 n155)] w146)))))))))
 else
 (withW (World.drew w146) fun w168 =>
 (∃ b169 f170, (some ⟨p0b, p0o, none⟩ : Option Addr) = some ⟨b169, f170, none⟩ ∧ (0 ≤ n155 ∧ n155 < ((8 : Nat) : Int) ∧ (∃ b171 f172, (some ⟨p0b, p0o, none⟩ : Option Addr) = some ⟨b171, f172, none⟩ ∧ (0 ≤ n155 ∧ n155 < ((8 : Nat) : Int) ∧ (∃ b173 f174, (some ⟨p0b, p0o, none⟩ : Option Addr) = some ⟨b173, f174, none⟩ ∧ (0 ≤ n155 ∧ n155 < ((8 : Nat) : Int) ∧ (∃ (n175 : Int) (n176 : Int), cellsAt w168 b173 ((f174 + 18) + (n155 : Int).toNat * 2) [(.int .i64 n175), (.int .i64 n176)] ∧ ((withW (World.alloc w168 (.cells #[(.pointer (some ⟨b169, ((f170 + 2) + (n155 : Int).toNat * 2), none⟩ : Option Addr)), (.pointer (some ⟨b171, ((f172 + 2) + (n155 : Int).toNat * 2), none⟩ : Option Addr))] 39)) fun w177 =>
 (cellsAt w177 b173 ((f174 + 18) + (n155 : Int).toNat * 2) [(.int .i64 n175), (.int .i64 n176)] ∧ ((∃ (a178 : Option Addr) (m179 c180 : Nat) (w181 : World), Runs Tryd.prog (Builtin.append_ #[50, 50] 50 #[(.slice a149 m150 c151), (.slice (some ⟨w168.heap.size, 0, none⟩ : Option Addr) 2 2)]) w177 (.slice a178 m179 c180) w181 ∧ (cellsAt w181 b173 ((f174 + 18) + (n155 : Int).toNat * 2) [(.int .i64 n175), (.int .i64 n176)] ∧ (withW (World.alloc w181 (.cells #[(.int .i64 n175), (.int .i64 n176)] 63)) fun w182 =>
 (∃ (a183 : Option Addr) (m184 c185 : Nat) (w186 : World), Runs Tryd.prog (Builtin.append_ #[70, 70] 70 #[(.slice a152 m153 c154), (.slice (some ⟨w181.heap.size, 0, none⟩ : Option Addr) 1 1)]) w182 (.slice a183 m184 c185) w186 ∧ (I144 [(.slice a178 m179 c180), (.slice a183 m184 c185), (.int .i64 (IntKind.i64.wrap (n155 + 1)))] w186 ∧ μ145 [(.slice a178 m179 c180), (.slice a183 m184 c185), (.int .i64 (IntKind.i64.wrap (n155 + 1)))] w186 < μ145 [(.slice a149 m150 c151), (.slice a152 m153 c154), (.int .i64 n155)] w146))))) ∧ (withW (World.alloc w177 (.cells #[(.int .i64 n175), (.int .i64 n176)] 63)) fun w187 =>
 (∃ (a188 : Option Addr) (m189 c190 : Nat) (w191 : World), Runs Tryd.prog (Builtin.append_ #[50, 50] 50 #[(.slice a149 m150 c151), (.slice (some ⟨w168.heap.size, 0, none⟩ : Option Addr) 2 2)]) w187 (.slice a188 m189 c190) w191 ∧ (cellsAt w191 b173 ((f174 + 18) + (n155 : Int).toNat * 2) [(.int .i64 n175), (.int .i64 n176)] ∧ (∃ (a192 : Option Addr) (m193 c194 : Nat) (w195 : World), Runs Tryd.prog (Builtin.append_ #[70, 70] 70 #[(.slice a152 m153 c154), (.slice (some ⟨w177.heap.size, 0, none⟩ : Option Addr) 1 1)]) w191 (.slice a192 m193 c194) w195 ∧ (I144 [(.slice a188 m189 c190), (.slice a192 m193 c194), (.int .i64 (IntKind.i64.wrap (n155 + 1)))] w195 ∧ μ145 [(.slice a188 m189 c190), (.slice a192 m193 c194), (.int .i64 (IntKind.i64.wrap (n155 + 1)))] w195 < μ145 [(.slice a149 m150 c151), (.slice a152 m153 c154), (.int .i64 n155)] w146)))))))) ∧ (withW (World.alloc w168 (.cells #[(.int .i64 n175), (.int .i64 n176)] 63)) fun w196 =>
 (withW (World.alloc w196 (.cells #[(.pointer (some ⟨b169, ((f170 + 2) + (n155 : Int).toNat * 2), none⟩ : Option Addr)), (.pointer (some ⟨b171, ((f172 + 2) + (n155 : Int).toNat * 2), none⟩ : Option Addr))] 39)) fun w197 =>
 (cellsAt w197 b173 ((f174 + 18) + (n155 : Int).toNat * 2) [(.int .i64 n175), (.int .i64 n176)] ∧ (∃ (a198 : Option Addr) (m199 c200 : Nat) (w201 : World), Runs Tryd.prog (Builtin.append_ #[50, 50] 50 #[(.slice a149 m150 c151), (.slice (some ⟨w196.heap.size, 0, none⟩ : Option Addr) 2 2)]) w197 (.slice a198 m199 c200) w201 ∧ (cellsAt w201 b173 ((f174 + 18) + (n155 : Int).toNat * 2) [(.int .i64 n175), (.int .i64 n176)] ∧ (∃ (a202 : Option Addr) (m203 c204 : Nat) (w205 : World), Runs Tryd.prog (Builtin.append_ #[70, 70] 70 #[(.slice a152 m153 c154), (.slice (some ⟨w168.heap.size, 0, none⟩ : Option Addr) 1 1)]) w201 (.slice a202 m203 c204) w205 ∧ (I144 [(.slice a198 m199 c200), (.slice a202 m203 c204), (.int .i64 (IntKind.i64.wrap (n155 + 1)))] w205 ∧ μ145 [(.slice a198 m199 c200), (.slice a202 m203 c204), (.int .i64 (IntKind.i64.wrap (n155 + 1)))] w205 < μ145 [(.slice a149 m150 c151), (.slice a152 m153 c154), (.int .i64 n155)] w146)))))))))))))))))))
 else
 (∃ b206 f207, (some ⟨p0b, p0o, none⟩ : Option Addr) = some ⟨b206, f207, none⟩ ∧ (∃ (p208 : Option Addr), World.cell? w146 ⟨b206, f207, none⟩ = some (.pointer p208) ∧ (Calls Tryd.prog 13 #[(.pointer p208), (.slice a149 m150 c151)] w146 fun e210 w209 => ∃ (v211 : Value), e210 = .returned v211 ∧ (∃ r212, IsNil v211 r212 ∧ (bif (!r212) then
 (R (.bool false) w209)
 else
 (∃ b213 f214, (some ⟨p0b, p0o, none⟩ : Option Addr) = some ⟨b213, f214, none⟩ ∧ (∃ (p215 : Option Addr), World.cell? w209 ⟨b213, (f214 + 1), none⟩ = some (.pointer p215) ∧ (Calls Tryd.prog 35 #[(.pointer p215), (.slice a152 m153 c154)] w209 fun e217 w216 => e217 = .returned (.tuple #[]) ∧ (R (.bool true) w216)))))))))))))))))
 else
 (bif (n22 == (5 : Int)) then
 (withW (World.drew w14) fun w218 =>
 (∃ (n219 : Int), World.cell? w218 ⟨w.heap.size, 1, none⟩ = some (.int .i64 n219) ∧ (∃ (n220 : Int), World.cell? w218 ⟨w.heap.size, 1, none⟩ = some (.int .i64 n220) ∧ (∃ (n221 : Int), World.cell? w218 ⟨w.heap.size, 2, none⟩ = some (.int .i64 n221) ∧ (∃ (n222 : Int), World.cell? w218 ⟨w.heap.size, 2, none⟩ = some (.int .i64 n222) ∧ (∃ b223 f224, (some ⟨p0b, p0o, none⟩ : Option Addr) = some ⟨b223, f224, none⟩ ∧ (∃ b225 f226, (some ⟨p0b, p0o, none⟩ : Option Addr) = some ⟨b225, f226, none⟩ ∧ (Calls Tryd.prog 18 #[(.int .i64 n222)] w218 fun e228 w227 => ∃ (n229 : Int) (n230 : Int), e228 = .returned (.agg #[(.int .i64 n229), (.int .i64 n230)]) ∧ (cellsAt w227 w.heap.size 2 [(.int .i64 n221)] ∧ cellsAt w227 w.heap.size 1 [(.int .i64 n220)] ∧ cellsAt w227 w.heap.size 1 [(.int .i64 n219)] ∧ (0 ≤ (IntKind.i64.wrap ((BitVec.ofInt IntKind.i64.bits n219 &&& BitVec.ofInt IntKind.i64.bits (7 : Int))).toNat) ∧ (IntKind.i64.wrap ((BitVec.ofInt IntKind.i64.bits n219 &&& BitVec.ofInt IntKind.i64.bits (7 : Int))).toNat) < ((8 : Nat) : Int) ∧ (canSt w227 b223 ((f224 + 2) + ((IntKind.i64.wrap ((BitVec.ofInt IntKind.i64.bits n219 &&& BitVec.ofInt IntKind.i64.bits (7 : Int))).toNat) : Int).toNat * 2) [(.bool false), (.int .i64 n221)] ∧ withW (setL w227 b223 ((f224 + 2) + ((IntKind.i64.wrap ((BitVec.ofInt IntKind.i64.bits n219 &&& BitVec.ofInt IntKind.i64.bits (7 : Int))).toNat) : Int).toNat * 2) [(.bool false), (.int .i64 n221)]) fun w231 =>
 (cellsAt w231 w.heap.size 1 [(.int .i64 n220)] ∧ (0 ≤ (IntKind.i64.wrap ((BitVec.ofInt IntKind.i64.bits n220 &&& BitVec.ofInt IntKind.i64.bits (7 : Int))).toNat) ∧ (IntKind.i64.wrap ((BitVec.ofInt IntKind.i64.bits n220 &&& BitVec.ofInt IntKind.i64.bits (7 : Int))).toNat) < ((8 : Nat) : Int) ∧ (canSt w231 b225 ((f226 + 18) + ((IntKind.i64.wrap ((BitVec.ofInt IntKind.i64.bits n220 &&& BitVec.ofInt IntKind.i64.bits (7 : Int))).toNat) : Int).toNat * 2) [(.int .i64 n229), (.int .i64 n230)] ∧ withW (setL w231 b225 ((f226 + 18) + ((IntKind.i64.wrap ((BitVec.ofInt IntKind.i64.bits n220 &&& BitVec.ofInt IntKind.i64.bits (7 : Int))).toNat) : Int).toNat * 2) [(.int .i64 n229), (.int .i64 n230)]) fun w232 =>
 (R (.bool true) w232)))))))))))))))
 else
 (R (.bool true) w14)))))))))
set_option maxRecDepth 100000 in
theorem play.eq (p0b p0o : Nat) (n1 : Int) (n2 : Int) (n3 : Int) (a4 : Option Addr) (m5 c6 : Nat) (a7 : Option Addr) (m8 c9 : Nat) (w : World) (R : Value → World → Prop) : play.W p0b p0o n1 n2 n3 a4 m5 c6 a7 m8 c9 w R = fnW Tryd.prog tys fns play.hs Tryd.f19 [(.pointer (some ⟨p0b, p0o, none⟩ : Option Addr)), (.agg #[(.int .i64 n1), (.int .i64 n2), (.int .i64 n3), (.slice a4 m5 c6), (.slice a7 m8 c9)])] w R := by kernel_rfl
theorem play.ok : codeOk tys play.hs Tryd.f19.ntmps (Tryd.f19.body.getD .skip) = true := by kernel_rfl
theorem play.calls {p0b p0o n1 n2 n3 a4 m5 c6 a7 m8 c9 w R} (h : play.W p0b p0o n1 n2 n3 a4 m5 c6 a7 m8 c9 w R) : Calls Tryd.prog 19 ([(.pointer (some ⟨p0b, p0o, none⟩ : Option Addr)), (.agg #[(.int .i64 n1), (.int .i64 n2), (.int .i64 n3), (.slice a4 m5 c6), (.slice a7 m8 c9)])] : List Value).toArray w fun e w' => ∃ v, e = .returned v ∧ R v w' :=
  fnW_calls tysOk fnsOk follows Tryd.func19 (by kernel_rfl) play.ok (by kernel_rfl) (play.eq p0b p0o n1 n2 n3 a4 m5 c6 a7 m8 c9 w R ▸ h)
/-! ### pargs: function 30 -/
def pargs.hs : Hints := ⟨[(6, (.one 0 (.one 1 (.one 2 (.one 3 (.one 4 (.one 5 (.one 6 (.one 7 (.one 8 (.one 11 (.one 12 (.one 13 (.one 14 (.one 15 (.one 16 (.one 17 (.one 18 (.one 19 (.alt ((.one 9 (.alt (seqO [10, 20, 21, 22, 23]) (seqO [20, 10, 21, 22, 23])))) (seqO [20, 9, 10, 21, 22, 23]))))))))))))))))))))), (7, seqO [0, 1, 2, 3, 6, 7, 8, 4, 5, 9, 10, 11, 12, 13])], [(3, [(6, .sl), (7, .sl), (14, .int .i64)])]⟩
set_option maxRecDepth 100000 in
def pargs.W (p0b p0o : Nat) (a1 : Option Addr) (m2 c3 : Nat) (w : World) (R : Value → World → Prop) : Prop :=
 (withW (World.alloc w (.cells #[] 30)) fun w4 =>
 (withW (World.alloc w4 (.cells #[] 63)) fun w5 =>
 (∃ (I6 : List Value → World → Prop) (μ7 : List Value → World → Nat), I6 [(.slice (some ⟨w.heap.size, 0, none⟩ : Option Addr) 0 0), (.slice (some ⟨w4.heap.size, 0, none⟩ : Option Addr) 0 0), (.int .i64 0)] w5 ∧ ∀ (j9 : Env) (q10 : List Value) (w8 : World), I6 q10 w8 → ∃ (a11 : Option Addr) (m12 c13 : Nat) (a14 : Option Addr) (m15 c16 : Nat) (n17 : Int), q10 = [(.slice a11 m12 c13), (.slice a14 m15 c16), (.int .i64 n17)] ∧
 (bif (decide (n17 < (m2 : Int))) then
 (∃ b18 f19, a1 = some ⟨b18, f19, none⟩ ∧ 0 ≤ n17 ∧ n17 < (m2 : Int) ∧ (∃ (b20 : Bool) (n21 : Int), cellsAt w8 b18 (f19 + (n17 : Int).toNat * 2) [(.bool b20), (.int .i64 n21)] ∧ (withW (World.alloc w8 (.cells #[.bool false, .int .i64 0] 47)) fun w22 =>
 (canSt w22 w8.heap.size 0 [(.bool b20), (.int .i64 n21)] ∧ withW (setL w22 w8.heap.size 0 [(.bool b20), (.int .i64 n21)]) fun w23 =>
 (∃ (b24 : Bool), World.cell? w23 ⟨w8.heap.size, 0, none⟩ = some (.bool b24) ∧ (bif b24 then
 (withW (World.drew w23) fun w25 =>
 (∃ (n26 : Int), World.cell? w25 ⟨w8.heap.size, 1, none⟩ = some (.int .i64 n26) ∧ (∃ b27 f28, (some ⟨p0b, p0o, none⟩ : Option Addr) = some ⟨b27, f28, none⟩ ∧ (0 ≤ (IntKind.i64.wrap ((BitVec.ofInt IntKind.i64.bits n26 &&& BitVec.ofInt IntKind.i64.bits (7 : Int))).toNat) ∧ (IntKind.i64.wrap ((BitVec.ofInt IntKind.i64.bits n26 &&& BitVec.ofInt IntKind.i64.bits (7 : Int))).toNat) < ((8 : Nat) : Int) ∧ (∃ (b29 : Bool) (n30 : Int), cellsAt w25 b27 ((f28 + 2) + ((IntKind.i64.wrap ((BitVec.ofInt IntKind.i64.bits n26 &&& BitVec.ofInt IntKind.i64.bits (7 : Int))).toNat) : Int).toNat * 2) [(.bool b29), (.int .i64 n30)] ∧ (∃ (n31 : Int), World.cell? w25 ⟨w8.heap.size, 1, none⟩ = some (.int .i64 n31) ∧ (∃ b32 f33, (some ⟨p0b, p0o, none⟩ : Option Addr) = some ⟨b32, f33, none⟩ ∧ (0 ≤ (IntKind.i64.wrap ((BitVec.ofInt IntKind.i64.bits n31 &&& BitVec.ofInt IntKind.i64.bits (7 : Int))).toNat) ∧ (IntKind.i64.wrap ((BitVec.ofInt IntKind.i64.bits n31 &&& BitVec.ofInt IntKind.i64.bits (7 : Int))).toNat) < ((8 : Nat) : Int) ∧ (∃ (n34 : Int) (n35 : Int), cellsAt w25 b32 ((f33 + 18) + ((IntKind.i64.wrap ((BitVec.ofInt IntKind.i64.bits n31 &&& BitVec.ofInt IntKind.i64.bits (7 : Int))).toNat) : Int).toNat * 2) [(.int .i64 n34), (.int .i64 n35)] ∧ ((withW (World.alloc w25 (.cells #[(.bool b29), (.int .i64 n30)] 30)) fun w36 =>
 (cellsAt w36 b32 ((f33 + 18) + ((IntKind.i64.wrap ((BitVec.ofInt IntKind.i64.bits n31 &&& BitVec.ofInt IntKind.i64.bits (7 : Int))).toNat) : Int).toNat * 2) [(.int .i64 n34), (.int .i64 n35)] ∧ cellsAt w36 w8.heap.size 1 [(.int .i64 n31)] ∧ ((∃ (a37 : Option Addr) (m38 c39 : Nat) (w40 : World), Runs Tryd.prog (Builtin.append_ #[33, 33] 33 #[(.slice a11 m12 c13), (.slice (some ⟨w25.heap.size, 0, none⟩ : Option Addr) 1 1)]) w36 (.slice a37 m38 c39) w40 ∧ (cellsAt w40 b32 ((f33 + 18) + ((IntKind.i64.wrap ((BitVec.ofInt IntKind.i64.bits n31 &&& BitVec.ofInt IntKind.i64.bits (7 : Int))).toNat) : Int).toNat * 2) [(.int .i64 n34), (.int .i64 n35)] ∧ cellsAt w40 w8.heap.size 1 [(.int .i64 n31)] ∧ (withW (World.alloc w40 (.cells #[(.int .i64 n34), (.int .i64 n35)] 63)) fun w41 =>
 (cellsAt w41 b27 ((f28 + 2) + ((IntKind.i64.wrap ((BitVec.ofInt IntKind.i64.bits n26 &&& BitVec.ofInt IntKind.i64.bits (7 : Int))).toNat) : Int).toNat * 2) [(.bool b29), (.int .i64 n30)] ∧ cellsAt w41 w8.heap.size 1 [(.int .i64 n26)] ∧ (∃ (a42 : Option Addr) (m43 c44 : Nat) (w45 : World), Runs Tryd.prog (Builtin.append_ #[70, 70] 70 #[(.slice a14 m15 c16), (.slice (some ⟨w40.heap.size, 0, none⟩ : Option Addr) 1 1)]) w41 (.slice a42 m43 c44) w45 ∧ (I6 [(.slice a37 m38 c39), (.slice a42 m43 c44), (.int .i64 (IntKind.i64.wrap (n17 + 1)))] w45 ∧ μ7 [(.slice a37 m38 c39), (.slice a42 m43 c44), (.int .i64 (IntKind.i64.wrap (n17 + 1)))] w45 < μ7 [(.slice a11 m12 c13), (.slice a14 m15 c16), (.int .i64 n17)] w8)))))) ∧ (withW (World.alloc w36 (.cells #[(.int .i64 n34), (.int .i64 n35)] 63)) fun w46 =>
 (cellsAt w46 b27 ((f28 + 2) + ((IntKind.i64.wrap ((BitVec.ofInt IntKind.i64.bits n26 &&& BitVec.ofInt IntKind.i64.bits (7 : Int))).toNat) : Int).toNat * 2) [(.bool b29), (.int .i64 n30)] ∧ cellsAt w46 w8.heap.size 1 [(.int .i64 n26)] ∧ (∃ (a47 : Option Addr) (m48 c49 : Nat) (w50 : World), Runs Tryd.prog (Builtin.append_ #[33, 33] 33 #[(.slice a11 m12 c13), (.slice (some ⟨w25.heap.size, 0, none⟩ : Option Addr) 1 1)]) w46 (.slice a47 m48 c49) w50 ∧ (cellsAt w50 b32 ((f33 + 18) + ((IntKind.i64.wrap ((BitVec.ofInt IntKind.i64.bits n31 &&& BitVec.ofInt IntKind.i64.bits (7 : Int))).toNat) : Int).toNat * 2) [(.int .i64 n34), (.int .i64 n35)] ∧ cellsAt w50 w8.heap.size 1 [(.int .i64 n31)] ∧ (∃ (a51 : Option Addr) (m52 c53 : Nat) (w54 : World), Runs Tryd.prog (Builtin.append_ #[70, 70] 70 #[(.slice a14 m15 c16), (.slice (some ⟨w36.heap.size, 0, none⟩ : Option Addr) 1 1)]) w50 (.slice a51 m52 c53) w54 ∧ (I6 [(.slice a47 m48 c49), (.slice a51 m52 c53), (.int .i64 (IntKind.i64.wrap (n17 + 1)))] w54 ∧ μ7 [(.slice a47 m48 c49), (.slice a51 m52 c53), (.int .i64 (IntKind.i64.wrap (n17 + 1)))] w54 < μ7 [(.slice a11 m12 c13), (.slice a14 m15 c16), (.int .i64 n17)] w8))))))))) ∧ (withW (World.alloc w25 (.cells #[(.int .i64 n34), (.int .i64 n35)] 63)) fun w55 =>
 (cellsAt w55 b27 ((f28 + 2) + ((IntKind.i64.wrap ((BitVec.ofInt IntKind.i64.bits n26 &&& BitVec.ofInt IntKind.i64.bits (7 : Int))).toNat) : Int).toNat * 2) [(.bool b29), (.int .i64 n30)] ∧ cellsAt w55 w8.heap.size 1 [(.int .i64 n26)] ∧ (withW (World.alloc w55 (.cells #[(.bool b29), (.int .i64 n30)] 30)) fun w56 =>
 (cellsAt w56 b32 ((f33 + 18) + ((IntKind.i64.wrap ((BitVec.ofInt IntKind.i64.bits n31 &&& BitVec.ofInt IntKind.i64.bits (7 : Int))).toNat) : Int).toNat * 2) [(.int .i64 n34), (.int .i64 n35)] ∧ cellsAt w56 w8.heap.size 1 [(.int .i64 n31)] ∧ (∃ (a57 : Option Addr) (m58 c59 : Nat) (w60 : World), Runs Tryd.prog (Builtin.append_ #[33, 33] 33 #[(.slice a11 m12 c13), (.slice (some ⟨w55.heap.size, 0, none⟩ : Option Addr) 1 1)]) w56 (.slice a57 m58 c59) w60 ∧ (cellsAt w60 b32 ((f33 + 18) + ((IntKind.i64.wrap ((BitVec.ofInt IntKind.i64.bits n31 &&& BitVec.ofInt IntKind.i64.bits (7 : Int))).toNat) : Int).toNat * 2) [(.int .i64 n34), (.int .i64 n35)] ∧ cellsAt w60 w8.heap.size 1 [(.int .i64 n31)] ∧ (∃ (a61 : Option Addr) (m62 c63 : Nat) (w64 : World), Runs Tryd.prog (Builtin.append_ #[70, 70] 70 #[(.slice a14 m15 c16), (.slice (some ⟨w25.heap.size, 0, none⟩ : Option Addr) 1 1)]) w60 (.slice a61 m62 c63) w64 ∧ (I6 [(.slice a57 m58 c59), (.slice a61 m62 c63), (.int .i64 (IntKind.i64.wrap (n17 + 1)))] w64 ∧ μ7 [(.slice a57 m58 c59), (.slice a61 m62 c63), (.int .i64 (IntKind.i64.wrap (n17 + 1)))] w64 < μ7 [(.slice a11 m12 c13), (.slice a14 m15 c16), (.int .i64 n17)] w8))))))))))))))))))
 else
 (withW (World.drew w23) fun w65 =>
 (∃ (n66 : Int), World.cell? w65 ⟨w8.heap.size, 1, none⟩ = some (.int .i64 n66) ∧ (∃ (n67 : Int), World.cell? w65 ⟨w8.heap.size, 1, none⟩ = some (.int .i64 n67) ∧ (withW (World.alloc w65 (.cells #[(.bool false), (.int .i64 n66)] 30)) fun w68 =>
 (cellsAt w68 w8.heap.size 1 [(.int .i64 n67)] ∧ (∃ (a69 : Option Addr) (m70 c71 : Nat) (w72 : World), Runs Tryd.prog (Builtin.append_ #[33, 33] 33 #[(.slice a11 m12 c13), (.slice (some ⟨w65.heap.size, 0, none⟩ : Option Addr) 1 1)]) w68 (.slice a69 m70 c71) w72 ∧ (cellsAt w72 w8.heap.size 1 [(.int .i64 n67)] ∧ (Calls Tryd.prog 18 #[(.int .i64 n67)] w72 fun e74 w73 => ∃ (n75 : Int) (n76 : Int), e74 = .returned (.agg #[(.int .i64 n75), (.int .i64 n76)]) ∧ (withW (World.alloc w73 (.cells #[(.int .i64 n75), (.int .i64 n76)] 63)) fun w77 =>
 (∃ (a78 : Option Addr) (m79 c80 : Nat) (w81 : World), Runs Tryd.prog (Builtin.append_ #[70, 70] 70 #[(.slice a14 m15 c16), (.slice (some ⟨w73.heap.size, 0, none⟩ : Option Addr) 1 1)]) w77 (.slice a78 m79 c80) w81 ∧ (I6 [(.slice a69 m70 c71), (.slice a78 m79 c80), (.int .i64 (IntKind.i64.wrap (n17 + 1)))] w81 ∧ μ7 [(.slice a69 m70 c71), (.slice a78 m79 c80), (.int .i64 (IntKind.i64.wrap (n17 + 1)))] w81 < μ7 [(.slice a11 m12 c13), (.slice a14 m15 c16), (.int .i64 n17)] w8)))))))))))))))))
 else
 (R (.tuple #[(.slice a11 m12 c13), (.slice a14 m15 c16)]) w8)))))
set_option maxRecDepth 100000 in
theorem pargs.eq (p0b p0o : Nat) (a1 : Option Addr) (m2 c3 : Nat) (w : World) (R : Value → World → Prop) : pargs.W p0b p0o a1 m2 c3 w R = fnW Tryd.prog tys fns pargs.hs Tryd.f30 [(.pointer (some ⟨p0b, p0o, none⟩ : Option Addr)), (.slice a1 m2 c3)] w R := by kernel_rfl
theorem pargs.ok : codeOk tys pargs.hs Tryd.f30.ntmps (Tryd.f30.body.getD .skip) = true := by kernel_rfl
theorem pargs.calls {p0b p0o a1 m2 c3 w R} (h : pargs.W p0b p0o a1 m2 c3 w R) : Calls Tryd.prog 30 ([(.pointer (some ⟨p0b, p0o, none⟩ : Option Addr)), (.slice a1 m2 c3)] : List Value).toArray w fun e w' => ∃ v, e = .returned v ∧ R v w' :=
  fnW_calls tysOk fnsOk follows Tryd.func30 (by kernel_rfl) pargs.ok (by kernel_rfl) (pargs.eq p0b p0o a1 m2 c3 w R ▸ h)
/-! ### Num: function 32 -/
def Num.hs : Hints := ⟨[], [(5, [(27, .int .i64)])]⟩
set_option maxRecDepth 100000 in
def Num.W (v1 : Value) (w : World) (R : Value → World → Prop) : Prop :=
 (∃ r2, IsNil v1 r2 ∧ (bif r2 then
 (R (.int .i64 0) w)
 else
 (∃ (v3 : Value), World.cell? w ⟨3, 0, none⟩ = some v3 ∧ (∃ (v4 : Value), World.cell? w ⟨4, 0, none⟩ = some v4 ∧ (∃ (v5 : Value), World.cell? w ⟨5, 0, none⟩ = some v5 ∧ (∃ (v6 : Value), World.cell? w ⟨2, 0, none⟩ = some v6 ∧ (∃ (v7 : Value), World.cell? w ⟨6, 0, none⟩ = some v7 ∧ (∃ (v8 : Value), World.cell? w ⟨7, 0, none⟩ = some v8 ∧ (∃ (v9 : Value), World.cell? w ⟨8, 0, none⟩ = some v9 ∧ (∃ (v10 : Value), World.cell? w ⟨9, 0, none⟩ = some v10 ∧ (∃ (v11 : Value), World.cell? w ⟨10, 0, none⟩ = some v11 ∧ (∃ (v12 : Value), World.cell? w ⟨11, 0, none⟩ = some v12 ∧ (∃ (v13 : Value), World.cell? w ⟨12, 0, none⟩ = some v13 ∧ (∃ (v14 : Value), World.cell? w ⟨13, 0, none⟩ = some v14 ∧ (∃ (v15 : Value), World.cell? w ⟨14, 0, none⟩ = some v15 ∧ (∃ (v16 : Value), World.cell? w ⟨0, 0, none⟩ = some v16 ∧ (∃ (v17 : Value), World.cell? w ⟨15, 0, none⟩ = some v17 ∧ (∃ (v18 : Value), World.cell? w ⟨1, 0, none⟩ = some v18 ∧ (allOne [v3, v4, v5, v6, v7, v8, v9, v10, v11, v12, v13, v14, v15, v16, v17, v18] ∧ (withW (World.alloc w (.cells #[v3, v4, v5, v6, v7, v8, v9, v10, v11, v12, v13, v14, v15, v16, v17, v18] 26)) fun w19 =>
 (∃ (I20 : List Value → World → Prop) (μ21 : List Value → World → Nat), I20 [(.int .i64 0)] w19 ∧ ∀ (j23 : Env) (q24 : List Value) (w22 : World), I20 q24 w22 → ∃ (n25 : Int), q24 = [(.int .i64 n25)] ∧
 (bif (decide (n25 < ((16 : Nat) : Int))) then
 (∃ b26 f27, (some ⟨w.heap.size, 0, none⟩ : Option Addr) = some ⟨b26, f27, none⟩ ∧ 0 ≤ n25 ∧ n25 < ((16 : Nat) : Int) ∧ (∃ (v28 : Value), World.cell? w22 ⟨b26, (f27 + (n25 : Int).toNat * 1), none⟩ = some v28 ∧ (∃ (r29 : Bool), Runs Tryd.prog (semEq .eql 26 (.tmp 32) (.tmp 33) v1 v28) w22 (.bool r29) w22 ∧ (bif r29 then
 (R (.int .i64 (IntKind.i64.wrap (n25 + 1))) w22)
 else
 (I20 [(.int .i64 (IntKind.i64.wrap (n25 + 1)))] w22 ∧ μ21 [(.int .i64 (IntKind.i64.wrap (n25 + 1)))] w22 < μ21 [(.int .i64 n25)] w22)))))
 else
 (R (.int .i64 (-1)) w22)))))))))))))))))))))))
set_option maxRecDepth 100000 in
theorem Num.eq (v1 : Value) (w : World) (R : Value → World → Prop) : Num.W v1 w R = fnW Tryd.prog tys fns Num.hs Tryd.f32 [v1] w R := by kernel_rfl
theorem Num.ok : codeOk tys Num.hs Tryd.f32.ntmps (Tryd.f32.body.getD .skip) = true := by kernel_rfl
theorem Num.calls {v1 w R} (h : Num.W v1 w R) : Calls Tryd.prog 32 ([v1] : List Value).toArray w fun e w' => ∃ v, e = .returned v ∧ R v w' :=
  fnW_calls tysOk fnsOk follows Tryd.func32 (by kernel_rfl) Num.ok (by kernel_rfl) (Num.eq v1 w R ▸ h)
/-! ### RInt: function 18 -/
def RInt.hs : Hints := ⟨[], []⟩
set_option maxRecDepth 100000 in
def RInt.W (n1 : Int) (w : World) (R : Value → World → Prop) : Prop :=
 (withW (World.alloc w (.cells #[.int .i64 0, .int .i64 0] 63)) fun w2 =>
 (canSt w2 w.heap.size 0 [(.int .i64 (-1)), (.int .i64 n1)] ∧ withW (setL w2 w.heap.size 0 [(.int .i64 (-1)), (.int .i64 n1)]) fun w3 =>
 (∃ (n4 : Int) (n5 : Int), cellsAt w3 w.heap.size 0 [(.int .i64 n4), (.int .i64 n5)] ∧ (R (.agg #[(.int .i64 n4), (.int .i64 n5)]) w3))))
set_option maxRecDepth 100000 in
theorem RInt.eq (n1 : Int) (w : World) (R : Value → World → Prop) : RInt.W n1 w R = fnW Tryd.prog tys fns RInt.hs Tryd.f18 [(.int .i64 n1)] w R := by kernel_rfl
theorem RInt.ok : codeOk tys RInt.hs Tryd.f18.ntmps (Tryd.f18.body.getD .skip) = true := by kernel_rfl
theorem RInt.calls {n1 w R} (h : RInt.W n1 w R) : Calls Tryd.prog 18 ([(.int .i64 n1)] : List Value).toArray w fun e w' => ∃ v, e = .returned v ∧ R v w' :=
  fnW_calls tysOk fnsOk follows Tryd.func18 (by kernel_rfl) RInt.ok (by kernel_rfl) (RInt.eq n1 w R ▸ h)
/-! ### ROf: function 33 -/
def ROf.hs : Hints := ⟨[], []⟩
set_option maxRecDepth 100000 in
def ROf.W (n1 : Int) (w : World) (R : Value → World → Prop) : Prop :=
 (withW (World.alloc w (.cells #[.int .i64 0, .int .i64 0] 63)) fun w2 =>
 (canSt w2 w.heap.size 0 [(.int .i64 n1), (.int .i64 0)] ∧ withW (setL w2 w.heap.size 0 [(.int .i64 n1), (.int .i64 0)]) fun w3 =>
 (∃ (n4 : Int) (n5 : Int), cellsAt w3 w.heap.size 0 [(.int .i64 n4), (.int .i64 n5)] ∧ (R (.agg #[(.int .i64 n4), (.int .i64 n5)]) w3))))
set_option maxRecDepth 100000 in
theorem ROf.eq (n1 : Int) (w : World) (R : Value → World → Prop) : ROf.W n1 w R = fnW Tryd.prog tys fns ROf.hs Tryd.f33 [(.int .i64 n1)] w R := by kernel_rfl
theorem ROf.ok : codeOk tys ROf.hs Tryd.f33.ntmps (Tryd.f33.body.getD .skip) = true := by kernel_rfl
theorem ROf.calls {n1 w R} (h : ROf.W n1 w R) : Calls Tryd.prog 33 ([(.int .i64 n1)] : List Value).toArray w fun e w' => ∃ v, e = .returned v ∧ R v w' :=
  fnW_calls tysOk fnsOk follows Tryd.func33 (by kernel_rfl) ROf.ok (by kernel_rfl) (ROf.eq n1 w R ▸ h)
/-! ### HeapPlays: function 7 -/
def HeapPlays.hs : Hints := ⟨[(12, seqO [0, 1, 3, 4, 2, 5, 6]), (19, seqO [0, 1, 2, 3, 4, 5, 7, 8, 9, 10, 6, 11, 12, 13, 14, 15, 17, 16, 18, 19]), (26, seqO [0, 1, 2, 3, 4, 5, 6, 7, 8, 9, 10, 11, 12, 13, 14, 15])], [(10, [(48, .int .i64)]), (15, [(60, .int .i64)]), (24, [(12, .sl), (93, .int .i64)])]⟩
set_option maxRecDepth 100000 in
def HeapPlays.W (n1 : Int) (a2 : Option Addr) (m3 c4 : Nat) (w : World) (R : Value → World → Prop) : Prop :=
 (Calls Tryd.prog 8 #[] w fun e6 w5 => ∃ (b7 : Bool), e6 = .returned (.bool b7) ∧ (bif (!b7) then
 (R (.bool false) w5)
 else
 (Calls Tryd.prog 9 #[(.int .i64 n1)] w5 fun e9 w8 => ∃ (p10 : Option Addr) (v11 : Value), e9 = .returned (.tuple #[(.pointer p10), v11]) ∧ (bif (decide (n1 < (0 : Int))) then (∃ (v12 : Value), World.cell? w8 ⟨1, 0, none⟩ = some v12 ∧ (∃ (r13 : Bool), Runs Tryd.prog (semEq .eql 26 (.tmp 29) (.tmp 30) v11 v12) w8 (.bool r13) w8 ∧ (bif r13 then (R (.bool (Option.isNone p10)) w8) else (R (.bool false) w8)))) else (bif (decide (n1 > (1048576 : Int))) then
 (∃ (v14 : Value), World.cell? w8 ⟨1, 0, none⟩ = some v14 ∧ (∃ (r15 : Bool), Runs Tryd.prog (semEq .eql 26 (.tmp 29) (.tmp 30) v11 v14) w8 (.bool r15) w8 ∧ (bif r15 then (R (.bool (Option.isNone p10)) w8) else (R (.bool false) w8))))
 else
 (∃ r16, IsNil v11 r16 ∧ (bif (!r16) then (R (.bool false) w8) else (bif (Option.isNone p10) then
 (R (.bool false) w8)
 else
 (withW (World.alloc w8 (.cells #[(.int .i64 n1), (.slice none 0 0)] 61)) fun w17 =>
 (withW (World.alloc w17 (.cells #[(.pointer p10), (.pointer (some ⟨w8.heap.size, 0, none⟩ : Option Addr)), (.bool false), (.int .i64 0), (.bool false), (.int .i64 0), (.bool false), (.int .i64 0), (.bool false), (.int .i64 0), (.bool false), (.int .i64 0), (.bool false), (.int .i64 0), (.bool false), (.int .i64 0), (.bool false), (.int .i64 0), (.int .i64 0), (.int .i64 0), (.int .i64 0), (.int .i64 0), (.int .i64 0), (.int .i64 0), (.int .i64 0), (.int .i64 0), (.int .i64 0), (.int .i64 0), (.int .i64 0), (.int .i64 0), (.int .i64 0), (.int .i64 0), (.int .i64 0), (.int .i64 0)] 66)) fun w18 =>
 (∃ (I19 : List Value → World → Prop) (μ20 : List Value → World → Nat), I19 [(.int .i64 0)] w18 ∧ ∀ (j22 : Env) (q23 : List Value) (w21 : World), I19 q23 w21 → ∃ (n24 : Int), q23 = [(.int .i64 n24)] ∧
 (bif (decide (n24 < (8 : Int))) then
 (withW (World.drew w21) fun w25 =>
 (∃ b26 f27, (some ⟨w17.heap.size, 0, none⟩ : Option Addr) = some ⟨b26, f27, none⟩ ∧ (Calls Tryd.prog 18 #[(.int .i64 0)] w25 fun e29 w28 => ∃ (n30 : Int) (n31 : Int), e29 = .returned (.agg #[(.int .i64 n30), (.int .i64 n31)]) ∧ (0 ≤ n24 ∧ n24 < ((8 : Nat) : Int) ∧ (canSt w28 b26 ((f27 + 18) + (n24 : Int).toNat * 2) [(.int .i64 n30), (.int .i64 n31)] ∧ withW (setL w28 b26 ((f27 + 18) + (n24 : Int).toNat * 2) [(.int .i64 n30), (.int .i64 n31)]) fun w32 =>
 (I19 [(.int .i64 (IntKind.i64.wrap (n24 + 1)))] w32 ∧ μ20 [(.int .i64 (IntKind.i64.wrap (n24 + 1)))] w32 < μ20 [(.int .i64 n24)] w21))))))
 else
 (∃ (I33 : List Value → World → Prop) (μ34 : List Value → World → Nat), I33 [(.int .i64 0)] w21 ∧ ∀ (j36 : Env) (q37 : List Value) (w35 : World), I33 q37 w35 → ∃ (n38 : Int), q37 = [(.int .i64 n38)] ∧
 (bif (decide (n38 < (m3 : Int))) then
 (∃ b39 f40, a2 = some ⟨b39, f40, none⟩ ∧ 0 ≤ n38 ∧ n38 < (m3 : Int) ∧ (∃ (n41 : Int) (n42 : Int) (n43 : Int) (a44 : Option Addr) (m45 c46 : Nat) (a47 : Option Addr) (m48 c49 : Nat), cellsAt w35 b39 (f40 + (n38 : Int).toNat * 5) [(.int .i64 n41), (.int .i64 n42), (.int .i64 n43), (.slice a44 m45 c46), (.slice a47 m48 c49)] ∧ (withW (World.alloc w35 (.cells #[.int .i64 0, .int .i64 0, .int .i64 0, .slice none 0 0, .slice none 0 0] 45)) fun w50 =>
 (canSt w50 w35.heap.size 0 [(.int .i64 n41), (.int .i64 n42), (.int .i64 n43), (.slice a44 m45 c46), (.slice a47 m48 c49)] ∧ withW (setL w50 w35.heap.size 0 [(.int .i64 n41), (.int .i64 n42), (.int .i64 n43), (.slice a44 m45 c46), (.slice a47 m48 c49)]) fun w51 =>
 (bif (decide (n38 > (120 : Int))) then
 (R (.bool true) w51)
 else
 (∃ (a52 : Option Addr) (m53 c54 : Nat), World.cell? w51 ⟨w35.heap.size, 3, none⟩ = some (.slice a52 m53 c54) ∧ (bif (decide ((m53 : Int) > (12 : Int))) then
 (I33 [(.int .i64 (IntKind.i64.wrap (n38 + 1)))] w51 ∧ μ34 [(.int .i64 (IntKind.i64.wrap (n38 + 1)))] w51 < μ34 [(.int .i64 n38)] w35)
 else
 (withW (World.drew w51) fun w55 =>
 (∃ (n56 : Int) (n57 : Int) (n58 : Int) (a59 : Option Addr) (m60 c61 : Nat) (a62 : Option Addr) (m63 c64 : Nat), cellsAt w55 w35.heap.size 0 [(.int .i64 n56), (.int .i64 n57), (.int .i64 n58), (.slice a59 m60 c61), (.slice a62 m63 c64)] ∧ (Calls Tryd.prog 19 #[(.pointer (some ⟨w17.heap.size, 0, none⟩ : Option Addr)), (.agg #[(.int .i64 n56), (.int .i64 n57), (.int .i64 n58), (.slice a59 m60 c61), (.slice a62 m63 c64)])] w55 fun e66 w65 => ∃ (b67 : Bool), e66 = .returned (.bool b67) ∧ (bif (!b67) then (R (.bool false) w65) else (∃ b68 f69, (some ⟨w17.heap.size, 0, none⟩ : Option Addr) = some ⟨b68, f69, none⟩ ∧ (∃ (p70 : Option Addr), World.cell? w65 ⟨b68, (f69 + 1), none⟩ = some (.pointer p70) ∧ (Calls Tryd.prog 12 #[(.pointer p10)] w65 fun e72 w71 => ∃ (n73 : Int), e72 = .returned (.int .i64 n73) ∧ (cellsAt w71 b68 (f69 + 1) [(.pointer p70)] ∧ (Calls Tryd.prog 20 #[(.pointer p70)] w71 fun e75 w74 => ∃ (n76 : Int), e75 = .returned (.int .i64 n76) ∧ (bif (n73 != n76) then (R (.bool false) w74) else (Calls Tryd.prog 14 #[(.pointer p10)] w74 fun e78 w77 => ∃ (n79 : Int), e78 = .returned (.int .i64 n79) ∧ (bif (n79 != n1) then
 (R (.bool false) w77)
 else
 (withW (World.alloc w77 (.map #[] 0)) fun w80 =>
 (withW (World.alloc w80 (.cells #[] 63)) fun w81 =>
 (∃ (I82 : List Value → World → Prop) (μ83 : List Value → World → Nat), I82 [(.slice (some ⟨w80.heap.size, 0, none⟩ : Option Addr) 0 0), (.int .i64 0)] w81 ∧ ∀ (j85 : Env) (q86 : List Value) (w84 : World), I82 q86 w84 → ∃ (a87 : Option Addr) (m88 c89 : Nat) (n90 : Int), q86 = [(.slice a87 m88 c89), (.int .i64 n90)] ∧
 (bif (decide (n90 < (8 : Int))) then
 (withW (World.drew w84) fun w91 =>
 (∃ b92 f93, (some ⟨w17.heap.size, 0, none⟩ : Option Addr) = some ⟨b92, f93, none⟩ ∧ (0 ≤ n90 ∧ n90 < ((8 : Nat) : Int) ∧ (∃ (b94 : Bool) (n95 : Int), cellsAt w91 b92 ((f93 + 2) + (n90 : Int).toNat * 2) [(.bool b94), (.int .i64 n95)] ∧ (∃ b96 f97, (some ⟨w17.heap.size, 0, none⟩ : Option Addr) = some ⟨b96, f97, none⟩ ∧ (0 ≤ n90 ∧ n90 < ((8 : Nat) : Int) ∧ (∃ (n98 : Int) (n99 : Int), cellsAt w91 b96 ((f97 + 18) + (n90 : Int).toNat * 2) [(.int .i64 n98), (.int .i64 n99)] ∧ (Calls Tryd.prog 21 #[(.pointer (some ⟨w17.heap.size, 0, none⟩ : Option Addr)), (.agg #[(.bool b94), (.int .i64 n95)]), (.agg #[(.int .i64 n98), (.int .i64 n99)]), (.map (some w77.heap.size))] w91 fun e101 w100 => ∃ (b102 : Bool), e101 = .returned (.bool b102) ∧ (bif (!b102) then
 (R (.bool false) w100)
 else
 (∃ b103 f104, (some ⟨w17.heap.size, 0, none⟩ : Option Addr) = some ⟨b103, f104, none⟩ ∧ (0 ≤ n90 ∧ n90 < ((8 : Nat) : Int) ∧ (∃ (n105 : Int) (n106 : Int), cellsAt w100 b103 ((f104 + 18) + (n90 : Int).toNat * 2) [(.int .i64 n105), (.int .i64 n106)] ∧ (withW (World.alloc w100 (.cells #[(.int .i64 n105), (.int .i64 n106)] 63)) fun w107 =>
 (∃ (a108 : Option Addr) (m109 c110 : Nat) (w111 : World), Runs Tryd.prog (Builtin.append_ #[70, 70] 70 #[(.slice a87 m88 c89), (.slice (some ⟨w100.heap.size, 0, none⟩ : Option Addr) 1 1)]) w107 (.slice a108 m109 c110) w111 ∧ (I82 [(.slice a108 m109 c110), (.int .i64 (IntKind.i64.wrap (n90 + 1)))] w111 ∧ μ83 [(.slice a108 m109 c110), (.int .i64 (IntKind.i64.wrap (n90 + 1)))] w111 < μ83 [(.slice a87 m88 c89), (.int .i64 n90)] w84)))))))))))))))
 else
 (∃ b112 f113, (some ⟨w17.heap.size, 0, none⟩ : Option Addr) = some ⟨b112, f113, none⟩ ∧ (Calls Tryd.prog 15 #[(.pointer p10), (.slice (some ⟨b112, (f113 + 2), none⟩ : Option Addr) 8 8)] w84 fun e115 w114 => ∃ (n116 : Int) (v117 : Value), e115 = .returned (.tuple #[(.int .i64 n116), v117]) ∧ (∃ r118, IsNil v117 r118 ∧ (bif (!r118) then (R (.bool false) w114) else (∃ b119 f120, (some ⟨w17.heap.size, 0, none⟩ : Option Addr) = some ⟨b119, f120, none⟩ ∧ (∃ (p121 : Option Addr), World.cell? w114 ⟨b119, (f120 + 1), none⟩ = some (.pointer p121) ∧ (Calls Tryd.prog 22 #[(.pointer p121), (.slice a87 m88 c89)] w114 fun e123 w122 => ∃ (n124 : Int), e123 = .returned (.int .i64 n124) ∧ (bif (n116 != n124) then
 (R (.bool false) w122)
 else
 (I33 [(.int .i64 (IntKind.i64.wrap (n38 + 1)))] w122 ∧ μ34 [(.int .i64 (IntKind.i64.wrap (n38 + 1)))] w122 < μ34 [(.int .i64 n38)] w35))))))))))))))))))))))))))))))))
 else
 (R (.bool true) w35)))))))))))))))
set_option maxRecDepth 100000 in
theorem HeapPlays.eq (n1 : Int) (a2 : Option Addr) (m3 c4 : Nat) (w : World) (R : Value → World → Prop) : HeapPlays.W n1 a2 m3 c4 w R = fnW Tryd.prog tys fns HeapPlays.hs Tryd.f7 [(.int .i64 n1), (.slice a2 m3 c4)] w R := by kernel_rfl
theorem HeapPlays.ok : codeOk tys HeapPlays.hs Tryd.f7.ntmps (Tryd.f7.body.getD .skip) = true := by kernel_rfl
theorem HeapPlays.calls {n1 a2 m3 c4 w R} (h : HeapPlays.W n1 a2 m3 c4 w R) : Calls Tryd.prog 7 ([(.int .i64 n1), (.slice a2 m3 c4)] : List Value).toArray w fun e w' => ∃ v, e = .returned v ∧ R v w' :=
  fnW_calls tysOk fnsOk follows Tryd.func7 (by kernel_rfl) HeapPlays.ok (by kernel_rfl) (HeapPlays.eq n1 a2 m3 c4 w R ▸ h)
end Go.Proofs.YtfenhbjamohdgaaDoor.Vg
end
