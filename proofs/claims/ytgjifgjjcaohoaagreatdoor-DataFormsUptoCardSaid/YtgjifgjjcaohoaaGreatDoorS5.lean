/- Forms of functions of this seat, as the second executor has them, each tied to the model by the kernel. -/
import Derived.Test.YtgjifgjjcaohoaaGreatDoorS3
import Derived.Lib.Itoa
import Derived.Lib.ItoaNum
import Derived.Test.YtgjifgjjcaohoaaGreatDoorProg
/- part Z1A -/
section
namespace Go.Proofs.YtgjifgjjcaohoaaGreatDoor.Va
open Go.Vx Go.Av
def tys : Tys := [(3, ⟨(.int .i64), 1, 8, [.int .i64 0], [.int .i64]⟩),
  (4, ⟨.bool, 1, 1, [.bool false], [.bool]⟩),
  (5, ⟨(.int .u8), 1, 1, [.int .u8 0], [.int .u8]⟩),
  (9, ⟨.str, 1, 16, [.string (⟨#[]⟩ : ByteArray)], [.str]⟩),
  (23, ⟨(.sl 25), 1, 24, [.slice none 0 0], [.sl]⟩),
  (25, ⟨(.agg [(0, 4), (1, 3), (2, 9), (3, 23)]), 4, 56, [.bool false, .int .i64 0, .string (⟨#[]⟩ : ByteArray), .slice none 0 0], [.bool, .int .i64, .str, .sl]⟩),
  (27, ⟨.iface, 1, 16, [.nilIface], [.any]⟩),
  (37, ⟨(.sl 5), 1, 24, [.slice none 0 0], [.sl]⟩),
  (46, ⟨(.sl 48), 1, 24, [.slice none 0 0], [.sl]⟩),
  (48, ⟨(.agg [(0, 3), (1, 9), (2, 3), (3, 46)]), 4, 56, [.int .i64 0, .string (⟨#[]⟩ : ByteArray), .int .i64 0, .slice none 0 0], [.int .i64, .str, .int .i64, .sl]⟩),
  (55, ⟨(.sl 27), 1, 24, [.slice none 0 0], [.sl]⟩),
  (69, ⟨(.agg [(0, 37), (1, 3)]), 2, 32, [.slice none 0 0, .int .i64 0], [.sl, .int .i64]⟩),
  (72, ⟨(.ptr 90), 1, 8, [.pointer none], [.ptr]⟩),
  (75, ⟨(.ptr 80), 1, 8, [.pointer none], [.ptr]⟩),
  (78, ⟨(.sl 94), 1, 24, [.slice none 0 0], [.sl]⟩),
  (80, ⟨(.agg [(0, 78), (1, 3), (2, 3)]), 3, 40, [.slice none 0 0, .int .i64 0, .int .i64 0], [.sl, .int .i64, .int .i64]⟩),
  (82, ⟨(.int .u64), 1, 8, [.int .u64 0], [.int .u64]⟩),
  (87, ⟨(.agg [(0, 27)]), 1, 16, [.nilIface], [.any]⟩),
  (90, ⟨(.agg [(0, 78), (1, 3)]), 2, 32, [.slice none 0 0, .int .i64 0], [.sl, .int .i64]⟩),
  (94, ⟨(.agg [(0, 3), (1, 9), (2, 3)]), 3, 32, [.int .i64 0, .string (⟨#[]⟩ : ByteArray), .int .i64 0], [.int .i64, .str, .int .i64]⟩),
  (102, ⟨(.sl 9), 1, 24, [.slice none 0 0], [.sl]⟩),
  (107, ⟨(.sl 3), 1, 24, [.slice none 0 0], [.sl]⟩)]
theorem ty3 : Ty.Ok Tryz.prog 3 ⟨(.int .i64), 1, 8, [.int .i64 0], [.int .i64]⟩ := ⟨Tryz.underlying3, by kernel_rfl, by kernel_rfl, rfl⟩
theorem ty4 : Ty.Ok Tryz.prog 4 ⟨.bool, 1, 1, [.bool false], [.bool]⟩ := ⟨Tryz.underlying4, by kernel_rfl, by kernel_rfl, rfl⟩
theorem ty5 : Ty.Ok Tryz.prog 5 ⟨(.int .u8), 1, 1, [.int .u8 0], [.int .u8]⟩ := ⟨Tryz.underlying5, by kernel_rfl, by kernel_rfl, rfl⟩
theorem ty9 : Ty.Ok Tryz.prog 9 ⟨.str, 1, 16, [.string (⟨#[]⟩ : ByteArray)], [.str]⟩ := ⟨Tryz.underlying9, by kernel_rfl, by kernel_rfl, rfl⟩
theorem ty23 : Ty.Ok Tryz.prog 23 ⟨(.sl 25), 1, 24, [.slice none 0 0], [.sl]⟩ := ⟨Tryz.underlying23, by kernel_rfl, by kernel_rfl, rfl⟩
theorem ty25 : Ty.Ok Tryz.prog 25 ⟨(.agg [(0, 4), (1, 3), (2, 9), (3, 23)]), 4, 56, [.bool false, .int .i64 0, .string (⟨#[]⟩ : ByteArray), .slice none 0 0], [.bool, .int .i64, .str, .sl]⟩ := ⟨⟨_, Tryz.underlying25, rfl⟩, by kernel_rfl, by kernel_rfl, rfl⟩
theorem ty27 : Ty.Ok Tryz.prog 27 ⟨.iface, 1, 16, [.nilIface], [.any]⟩ := ⟨⟨_, Tryz.underlying27⟩, by kernel_rfl, by kernel_rfl, rfl⟩
theorem ty37 : Ty.Ok Tryz.prog 37 ⟨(.sl 5), 1, 24, [.slice none 0 0], [.sl]⟩ := ⟨Tryz.underlying37, by kernel_rfl, by kernel_rfl, rfl⟩
theorem ty46 : Ty.Ok Tryz.prog 46 ⟨(.sl 48), 1, 24, [.slice none 0 0], [.sl]⟩ := ⟨Tryz.underlying46, by kernel_rfl, by kernel_rfl, rfl⟩
theorem ty48 : Ty.Ok Tryz.prog 48 ⟨(.agg [(0, 3), (1, 9), (2, 3), (3, 46)]), 4, 56, [.int .i64 0, .string (⟨#[]⟩ : ByteArray), .int .i64 0, .slice none 0 0], [.int .i64, .str, .int .i64, .sl]⟩ := ⟨⟨_, Tryz.underlying48, rfl⟩, by kernel_rfl, by kernel_rfl, rfl⟩
theorem ty55 : Ty.Ok Tryz.prog 55 ⟨(.sl 27), 1, 24, [.slice none 0 0], [.sl]⟩ := ⟨Tryz.underlying55, by kernel_rfl, by kernel_rfl, rfl⟩
theorem ty69 : Ty.Ok Tryz.prog 69 ⟨(.agg [(0, 37), (1, 3)]), 2, 32, [.slice none 0 0, .int .i64 0], [.sl, .int .i64]⟩ := ⟨⟨_, Tryz.underlying69, rfl⟩, by kernel_rfl, by kernel_rfl, rfl⟩
theorem ty72 : Ty.Ok Tryz.prog 72 ⟨(.ptr 90), 1, 8, [.pointer none], [.ptr]⟩ := ⟨Tryz.underlying72, by kernel_rfl, by kernel_rfl, rfl⟩
theorem ty75 : Ty.Ok Tryz.prog 75 ⟨(.ptr 80), 1, 8, [.pointer none], [.ptr]⟩ := ⟨Tryz.underlying75, by kernel_rfl, by kernel_rfl, rfl⟩
theorem ty78 : Ty.Ok Tryz.prog 78 ⟨(.sl 94), 1, 24, [.slice none 0 0], [.sl]⟩ := ⟨Tryz.underlying78, by kernel_rfl, by kernel_rfl, rfl⟩
theorem ty80 : Ty.Ok Tryz.prog 80 ⟨(.agg [(0, 78), (1, 3), (2, 3)]), 3, 40, [.slice none 0 0, .int .i64 0, .int .i64 0], [.sl, .int .i64, .int .i64]⟩ := ⟨⟨_, Tryz.underlying80, rfl⟩, by kernel_rfl, by kernel_rfl, rfl⟩
theorem ty82 : Ty.Ok Tryz.prog 82 ⟨(.int .u64), 1, 8, [.int .u64 0], [.int .u64]⟩ := ⟨Tryz.underlying82, by kernel_rfl, by kernel_rfl, rfl⟩
theorem ty87 : Ty.Ok Tryz.prog 87 ⟨(.agg [(0, 27)]), 1, 16, [.nilIface], [.any]⟩ := ⟨⟨_, Tryz.underlying87, rfl⟩, by kernel_rfl, by kernel_rfl, rfl⟩
theorem ty90 : Ty.Ok Tryz.prog 90 ⟨(.agg [(0, 78), (1, 3)]), 2, 32, [.slice none 0 0, .int .i64 0], [.sl, .int .i64]⟩ := ⟨⟨_, Tryz.underlying90, rfl⟩, by kernel_rfl, by kernel_rfl, rfl⟩
theorem ty94 : Ty.Ok Tryz.prog 94 ⟨(.agg [(0, 3), (1, 9), (2, 3)]), 3, 32, [.int .i64 0, .string (⟨#[]⟩ : ByteArray), .int .i64 0], [.int .i64, .str, .int .i64]⟩ := ⟨⟨_, Tryz.underlying94, rfl⟩, by kernel_rfl, by kernel_rfl, rfl⟩
theorem ty102 : Ty.Ok Tryz.prog 102 ⟨(.sl 9), 1, 24, [.slice none 0 0], [.sl]⟩ := ⟨Tryz.underlying102, by kernel_rfl, by kernel_rfl, rfl⟩
theorem ty107 : Ty.Ok Tryz.prog 107 ⟨(.sl 3), 1, 24, [.slice none 0 0], [.sl]⟩ := ⟨Tryz.underlying107, by kernel_rfl, by kernel_rfl, rfl⟩
theorem tysOk : AllOk Tryz.prog tys := ⟨ty3, ty4, ty5, ty9, ty23, ty25, ty27, ty37, ty46, ty48, ty55, ty69, ty72, ty75, ty78, ty80, ty82, ty87, ty90, ty94, ty102, ty107, trivial⟩
def fns : Fns := [(5, [4]), (6, [25, 27]), (7, [25, 3]), (8, [3]), (9, [4]), (10, [9, 27]), (11, [37, 27]), (12, [37, 3]), (13, [4]), (14, [4]), (15, [3]), (16, [3]), (17, [9]), (18, [25, 27]), (19, [48, 27]), (20, [25, 4]), (21, [48, 3]), (22, [25, 4]), (23, [3]), (24, [9]), (25, [48]), (26, [37, 27]), (27, [37, 4]), (28, [3, 4]), (29, [3, 3]), (30, [9]), (31, [25, 4]), (32, [48, 27]), (33, [48]), (34, [48]), (35, [75]), (36, [48]), (37, [3]), (38, [9]), (39, [9]), (40, [37, 4]), (41, [78, 27]), (43, []), (44, []), (45, [94]), (46, [9]), (47, [46]), (48, [48]), (49, [78, 3]), (50, []), (51, [4]), (52, [9]), (53, [4]), (55, [9]), (56, [4]), (57, [4]), (58, [4]), (59, [4]), (60, []), (61, [107, 78, 4]), (62, []), (63, [4]), (64, [4]), (65, []), (70, [3]), (71, [94, 4]), (72, [4]), (73, [94, 4]), (74, [4]), (81, [3]), (82, [4]), (83, [4]), (84, [3]), (85, [4]), (86, [4]), (87, [94, 4]), (88, [4]), (89, [4]), (90, [4]), (91, [3, 4])]
theorem fnOk5 : ∃ fn, Tryz.prog.funcs[5]? = some fn ∧ (fn.name == "runtime.NumGoroutine") = false ∧ fn.body.isNone = false := ⟨_, Tryz.func5, by kernel_rfl, by kernel_rfl⟩
theorem fnOk6 : ∃ fn, Tryz.prog.funcs[6]? = some fn ∧ (fn.name == "runtime.NumGoroutine") = false ∧ fn.body.isNone = false := ⟨_, Tryz.func6, by kernel_rfl, by kernel_rfl⟩
theorem fnOk7 : ∃ fn, Tryz.prog.funcs[7]? = some fn ∧ (fn.name == "runtime.NumGoroutine") = false ∧ fn.body.isNone = false := ⟨_, Tryz.func7, by kernel_rfl, by kernel_rfl⟩
theorem fnOk8 : ∃ fn, Tryz.prog.funcs[8]? = some fn ∧ (fn.name == "runtime.NumGoroutine") = false ∧ fn.body.isNone = false := ⟨_, Tryz.func8, by kernel_rfl, by kernel_rfl⟩
theorem fnOk9 : ∃ fn, Tryz.prog.funcs[9]? = some fn ∧ (fn.name == "runtime.NumGoroutine") = false ∧ fn.body.isNone = false := ⟨_, Tryz.func9, by kernel_rfl, by kernel_rfl⟩
theorem fnOk10 : ∃ fn, Tryz.prog.funcs[10]? = some fn ∧ (fn.name == "runtime.NumGoroutine") = false ∧ fn.body.isNone = false := ⟨_, Tryz.func10, by kernel_rfl, by kernel_rfl⟩
theorem fnOk11 : ∃ fn, Tryz.prog.funcs[11]? = some fn ∧ (fn.name == "runtime.NumGoroutine") = false ∧ fn.body.isNone = false := ⟨_, Tryz.func11, by kernel_rfl, by kernel_rfl⟩
theorem fnOk12 : ∃ fn, Tryz.prog.funcs[12]? = some fn ∧ (fn.name == "runtime.NumGoroutine") = false ∧ fn.body.isNone = false := ⟨_, Tryz.func12, by kernel_rfl, by kernel_rfl⟩
theorem fnOk13 : ∃ fn, Tryz.prog.funcs[13]? = some fn ∧ (fn.name == "runtime.NumGoroutine") = false ∧ fn.body.isNone = false := ⟨_, Tryz.func13, by kernel_rfl, by kernel_rfl⟩
theorem fnOk14 : ∃ fn, Tryz.prog.funcs[14]? = some fn ∧ (fn.name == "runtime.NumGoroutine") = false ∧ fn.body.isNone = false := ⟨_, Tryz.func14, by kernel_rfl, by kernel_rfl⟩
theorem fnOk15 : ∃ fn, Tryz.prog.funcs[15]? = some fn ∧ (fn.name == "runtime.NumGoroutine") = false ∧ fn.body.isNone = false := ⟨_, Tryz.func15, by kernel_rfl, by kernel_rfl⟩
theorem fnOk16 : ∃ fn, Tryz.prog.funcs[16]? = some fn ∧ (fn.name == "runtime.NumGoroutine") = false ∧ fn.body.isNone = false := ⟨_, Tryz.func16, by kernel_rfl, by kernel_rfl⟩
theorem fnOk17 : ∃ fn, Tryz.prog.funcs[17]? = some fn ∧ (fn.name == "runtime.NumGoroutine") = false ∧ fn.body.isNone = false := ⟨_, Tryz.func17, by kernel_rfl, by kernel_rfl⟩
theorem fnOk18 : ∃ fn, Tryz.prog.funcs[18]? = some fn ∧ (fn.name == "runtime.NumGoroutine") = false ∧ fn.body.isNone = false := ⟨_, Tryz.func18, by kernel_rfl, by kernel_rfl⟩
theorem fnOk19 : ∃ fn, Tryz.prog.funcs[19]? = some fn ∧ (fn.name == "runtime.NumGoroutine") = false ∧ fn.body.isNone = false := ⟨_, Tryz.func19, by kernel_rfl, by kernel_rfl⟩
theorem fnOk20 : ∃ fn, Tryz.prog.funcs[20]? = some fn ∧ (fn.name == "runtime.NumGoroutine") = false ∧ fn.body.isNone = false := ⟨_, Tryz.func20, by kernel_rfl, by kernel_rfl⟩
theorem fnOk21 : ∃ fn, Tryz.prog.funcs[21]? = some fn ∧ (fn.name == "runtime.NumGoroutine") = false ∧ fn.body.isNone = false := ⟨_, Tryz.func21, by kernel_rfl, by kernel_rfl⟩
theorem fnOk22 : ∃ fn, Tryz.prog.funcs[22]? = some fn ∧ (fn.name == "runtime.NumGoroutine") = false ∧ fn.body.isNone = false := ⟨_, Tryz.func22, by kernel_rfl, by kernel_rfl⟩
theorem fnOk23 : ∃ fn, Tryz.prog.funcs[23]? = some fn ∧ (fn.name == "runtime.NumGoroutine") = false ∧ fn.body.isNone = false := ⟨_, Tryz.func23, by kernel_rfl, by kernel_rfl⟩
theorem fnOk24 : ∃ fn, Tryz.prog.funcs[24]? = some fn ∧ (fn.name == "runtime.NumGoroutine") = false ∧ fn.body.isNone = false := ⟨_, Tryz.func24, by kernel_rfl, by kernel_rfl⟩
theorem fnOk25 : ∃ fn, Tryz.prog.funcs[25]? = some fn ∧ (fn.name == "runtime.NumGoroutine") = false ∧ fn.body.isNone = false := ⟨_, Tryz.func25, by kernel_rfl, by kernel_rfl⟩
theorem fnOk26 : ∃ fn, Tryz.prog.funcs[26]? = some fn ∧ (fn.name == "runtime.NumGoroutine") = false ∧ fn.body.isNone = false := ⟨_, Tryz.func26, by kernel_rfl, by kernel_rfl⟩
theorem fnOk27 : ∃ fn, Tryz.prog.funcs[27]? = some fn ∧ (fn.name == "runtime.NumGoroutine") = false ∧ fn.body.isNone = false := ⟨_, Tryz.func27, by kernel_rfl, by kernel_rfl⟩
theorem fnOk28 : ∃ fn, Tryz.prog.funcs[28]? = some fn ∧ (fn.name == "runtime.NumGoroutine") = false ∧ fn.body.isNone = false := ⟨_, Tryz.func28, by kernel_rfl, by kernel_rfl⟩
theorem fnOk29 : ∃ fn, Tryz.prog.funcs[29]? = some fn ∧ (fn.name == "runtime.NumGoroutine") = false ∧ fn.body.isNone = false := ⟨_, Tryz.func29, by kernel_rfl, by kernel_rfl⟩
theorem fnOk30 : ∃ fn, Tryz.prog.funcs[30]? = some fn ∧ (fn.name == "runtime.NumGoroutine") = false ∧ fn.body.isNone = false := ⟨_, Tryz.func30, by kernel_rfl, by kernel_rfl⟩
theorem fnOk31 : ∃ fn, Tryz.prog.funcs[31]? = some fn ∧ (fn.name == "runtime.NumGoroutine") = false ∧ fn.body.isNone = false := ⟨_, Tryz.func31, by kernel_rfl, by kernel_rfl⟩
theorem fnOk32 : ∃ fn, Tryz.prog.funcs[32]? = some fn ∧ (fn.name == "runtime.NumGoroutine") = false ∧ fn.body.isNone = false := ⟨_, Tryz.func32, by kernel_rfl, by kernel_rfl⟩
theorem fnOk33 : ∃ fn, Tryz.prog.funcs[33]? = some fn ∧ (fn.name == "runtime.NumGoroutine") = false ∧ fn.body.isNone = false := ⟨_, Tryz.func33, by kernel_rfl, by kernel_rfl⟩
theorem fnOk34 : ∃ fn, Tryz.prog.funcs[34]? = some fn ∧ (fn.name == "runtime.NumGoroutine") = false ∧ fn.body.isNone = false := ⟨_, Tryz.func34, by kernel_rfl, by kernel_rfl⟩
theorem fnOk35 : ∃ fn, Tryz.prog.funcs[35]? = some fn ∧ (fn.name == "runtime.NumGoroutine") = false ∧ fn.body.isNone = false := ⟨_, Tryz.func35, by kernel_rfl, by kernel_rfl⟩
theorem fnOk36 : ∃ fn, Tryz.prog.funcs[36]? = some fn ∧ (fn.name == "runtime.NumGoroutine") = false ∧ fn.body.isNone = false := ⟨_, Tryz.func36, by kernel_rfl, by kernel_rfl⟩
theorem fnOk37 : ∃ fn, Tryz.prog.funcs[37]? = some fn ∧ (fn.name == "runtime.NumGoroutine") = false ∧ fn.body.isNone = false := ⟨_, Tryz.func37, by kernel_rfl, by kernel_rfl⟩
theorem fnOk38 : ∃ fn, Tryz.prog.funcs[38]? = some fn ∧ (fn.name == "runtime.NumGoroutine") = false ∧ fn.body.isNone = false := ⟨_, Tryz.func38, by kernel_rfl, by kernel_rfl⟩
theorem fnOk39 : ∃ fn, Tryz.prog.funcs[39]? = some fn ∧ (fn.name == "runtime.NumGoroutine") = false ∧ fn.body.isNone = false := ⟨_, Tryz.func39, by kernel_rfl, by kernel_rfl⟩
theorem fnOk40 : ∃ fn, Tryz.prog.funcs[40]? = some fn ∧ (fn.name == "runtime.NumGoroutine") = false ∧ fn.body.isNone = false := ⟨_, Tryz.func40, by kernel_rfl, by kernel_rfl⟩
theorem fnOk41 : ∃ fn, Tryz.prog.funcs[41]? = some fn ∧ (fn.name == "runtime.NumGoroutine") = false ∧ fn.body.isNone = false := ⟨_, Tryz.func41, by kernel_rfl, by kernel_rfl⟩
theorem fnOk43 : ∃ fn, Tryz.prog.funcs[43]? = some fn ∧ (fn.name == "runtime.NumGoroutine") = false ∧ fn.body.isNone = false := ⟨_, Tryz.func43, by kernel_rfl, by kernel_rfl⟩
theorem fnOk44 : ∃ fn, Tryz.prog.funcs[44]? = some fn ∧ (fn.name == "runtime.NumGoroutine") = false ∧ fn.body.isNone = false := ⟨_, Tryz.func44, by kernel_rfl, by kernel_rfl⟩
theorem fnOk45 : ∃ fn, Tryz.prog.funcs[45]? = some fn ∧ (fn.name == "runtime.NumGoroutine") = false ∧ fn.body.isNone = false := ⟨_, Tryz.func45, by kernel_rfl, by kernel_rfl⟩
theorem fnOk46 : ∃ fn, Tryz.prog.funcs[46]? = some fn ∧ (fn.name == "runtime.NumGoroutine") = false ∧ fn.body.isNone = false := ⟨_, Tryz.func46, by kernel_rfl, by kernel_rfl⟩
theorem fnOk47 : ∃ fn, Tryz.prog.funcs[47]? = some fn ∧ (fn.name == "runtime.NumGoroutine") = false ∧ fn.body.isNone = false := ⟨_, Tryz.func47, by kernel_rfl, by kernel_rfl⟩
theorem fnOk48 : ∃ fn, Tryz.prog.funcs[48]? = some fn ∧ (fn.name == "runtime.NumGoroutine") = false ∧ fn.body.isNone = false := ⟨_, Tryz.func48, by kernel_rfl, by kernel_rfl⟩
theorem fnOk49 : ∃ fn, Tryz.prog.funcs[49]? = some fn ∧ (fn.name == "runtime.NumGoroutine") = false ∧ fn.body.isNone = false := ⟨_, Tryz.func49, by kernel_rfl, by kernel_rfl⟩
theorem fnOk50 : ∃ fn, Tryz.prog.funcs[50]? = some fn ∧ (fn.name == "runtime.NumGoroutine") = false ∧ fn.body.isNone = false := ⟨_, Tryz.func50, by kernel_rfl, by kernel_rfl⟩
theorem fnOk51 : ∃ fn, Tryz.prog.funcs[51]? = some fn ∧ (fn.name == "runtime.NumGoroutine") = false ∧ fn.body.isNone = false := ⟨_, Tryz.func51, by kernel_rfl, by kernel_rfl⟩
theorem fnOk52 : ∃ fn, Tryz.prog.funcs[52]? = some fn ∧ (fn.name == "runtime.NumGoroutine") = false ∧ fn.body.isNone = false := ⟨_, Tryz.func52, by kernel_rfl, by kernel_rfl⟩
theorem fnOk53 : ∃ fn, Tryz.prog.funcs[53]? = some fn ∧ (fn.name == "runtime.NumGoroutine") = false ∧ fn.body.isNone = false := ⟨_, Tryz.func53, by kernel_rfl, by kernel_rfl⟩
theorem fnOk55 : ∃ fn, Tryz.prog.funcs[55]? = some fn ∧ (fn.name == "runtime.NumGoroutine") = false ∧ fn.body.isNone = false := ⟨_, Tryz.func55, by kernel_rfl, by kernel_rfl⟩
theorem fnOk56 : ∃ fn, Tryz.prog.funcs[56]? = some fn ∧ (fn.name == "runtime.NumGoroutine") = false ∧ fn.body.isNone = false := ⟨_, Tryz.func56, by kernel_rfl, by kernel_rfl⟩
theorem fnOk57 : ∃ fn, Tryz.prog.funcs[57]? = some fn ∧ (fn.name == "runtime.NumGoroutine") = false ∧ fn.body.isNone = false := ⟨_, Tryz.func57, by kernel_rfl, by kernel_rfl⟩
theorem fnOk58 : ∃ fn, Tryz.prog.funcs[58]? = some fn ∧ (fn.name == "runtime.NumGoroutine") = false ∧ fn.body.isNone = false := ⟨_, Tryz.func58, by kernel_rfl, by kernel_rfl⟩
theorem fnOk59 : ∃ fn, Tryz.prog.funcs[59]? = some fn ∧ (fn.name == "runtime.NumGoroutine") = false ∧ fn.body.isNone = false := ⟨_, Tryz.func59, by kernel_rfl, by kernel_rfl⟩
theorem fnOk60 : ∃ fn, Tryz.prog.funcs[60]? = some fn ∧ (fn.name == "runtime.NumGoroutine") = false ∧ fn.body.isNone = false := ⟨_, Tryz.func60, by kernel_rfl, by kernel_rfl⟩
theorem fnOk61 : ∃ fn, Tryz.prog.funcs[61]? = some fn ∧ (fn.name == "runtime.NumGoroutine") = false ∧ fn.body.isNone = false := ⟨_, Tryz.func61, by kernel_rfl, by kernel_rfl⟩
theorem fnOk62 : ∃ fn, Tryz.prog.funcs[62]? = some fn ∧ (fn.name == "runtime.NumGoroutine") = false ∧ fn.body.isNone = false := ⟨_, Tryz.func62, by kernel_rfl, by kernel_rfl⟩
theorem fnOk63 : ∃ fn, Tryz.prog.funcs[63]? = some fn ∧ (fn.name == "runtime.NumGoroutine") = false ∧ fn.body.isNone = false := ⟨_, Tryz.func63, by kernel_rfl, by kernel_rfl⟩
theorem fnOk64 : ∃ fn, Tryz.prog.funcs[64]? = some fn ∧ (fn.name == "runtime.NumGoroutine") = false ∧ fn.body.isNone = false := ⟨_, Tryz.func64, by kernel_rfl, by kernel_rfl⟩
theorem fnOk65 : ∃ fn, Tryz.prog.funcs[65]? = some fn ∧ (fn.name == "runtime.NumGoroutine") = false ∧ fn.body.isNone = false := ⟨_, Tryz.func65, by kernel_rfl, by kernel_rfl⟩
theorem fnOk70 : ∃ fn, Tryz.prog.funcs[70]? = some fn ∧ (fn.name == "runtime.NumGoroutine") = false ∧ fn.body.isNone = false := ⟨_, Tryz.func70, by kernel_rfl, by kernel_rfl⟩
theorem fnOk71 : ∃ fn, Tryz.prog.funcs[71]? = some fn ∧ (fn.name == "runtime.NumGoroutine") = false ∧ fn.body.isNone = false := ⟨_, Tryz.func71, by kernel_rfl, by kernel_rfl⟩
theorem fnOk72 : ∃ fn, Tryz.prog.funcs[72]? = some fn ∧ (fn.name == "runtime.NumGoroutine") = false ∧ fn.body.isNone = false := ⟨_, Tryz.func72, by kernel_rfl, by kernel_rfl⟩
theorem fnOk73 : ∃ fn, Tryz.prog.funcs[73]? = some fn ∧ (fn.name == "runtime.NumGoroutine") = false ∧ fn.body.isNone = false := ⟨_, Tryz.func73, by kernel_rfl, by kernel_rfl⟩
theorem fnOk74 : ∃ fn, Tryz.prog.funcs[74]? = some fn ∧ (fn.name == "runtime.NumGoroutine") = false ∧ fn.body.isNone = false := ⟨_, Tryz.func74, by kernel_rfl, by kernel_rfl⟩
theorem fnOk81 : ∃ fn, Tryz.prog.funcs[81]? = some fn ∧ (fn.name == "runtime.NumGoroutine") = false ∧ fn.body.isNone = false := ⟨_, Tryz.func81, by kernel_rfl, by kernel_rfl⟩
theorem fnOk82 : ∃ fn, Tryz.prog.funcs[82]? = some fn ∧ (fn.name == "runtime.NumGoroutine") = false ∧ fn.body.isNone = false := ⟨_, Tryz.func82, by kernel_rfl, by kernel_rfl⟩
theorem fnOk83 : ∃ fn, Tryz.prog.funcs[83]? = some fn ∧ (fn.name == "runtime.NumGoroutine") = false ∧ fn.body.isNone = false := ⟨_, Tryz.func83, by kernel_rfl, by kernel_rfl⟩
theorem fnOk84 : ∃ fn, Tryz.prog.funcs[84]? = some fn ∧ (fn.name == "runtime.NumGoroutine") = false ∧ fn.body.isNone = false := ⟨_, Tryz.func84, by kernel_rfl, by kernel_rfl⟩
theorem fnOk85 : ∃ fn, Tryz.prog.funcs[85]? = some fn ∧ (fn.name == "runtime.NumGoroutine") = false ∧ fn.body.isNone = false := ⟨_, Tryz.func85, by kernel_rfl, by kernel_rfl⟩
theorem fnOk86 : ∃ fn, Tryz.prog.funcs[86]? = some fn ∧ (fn.name == "runtime.NumGoroutine") = false ∧ fn.body.isNone = false := ⟨_, Tryz.func86, by kernel_rfl, by kernel_rfl⟩
theorem fnOk87 : ∃ fn, Tryz.prog.funcs[87]? = some fn ∧ (fn.name == "runtime.NumGoroutine") = false ∧ fn.body.isNone = false := ⟨_, Tryz.func87, by kernel_rfl, by kernel_rfl⟩
theorem fnOk88 : ∃ fn, Tryz.prog.funcs[88]? = some fn ∧ (fn.name == "runtime.NumGoroutine") = false ∧ fn.body.isNone = false := ⟨_, Tryz.func88, by kernel_rfl, by kernel_rfl⟩
theorem fnOk89 : ∃ fn, Tryz.prog.funcs[89]? = some fn ∧ (fn.name == "runtime.NumGoroutine") = false ∧ fn.body.isNone = false := ⟨_, Tryz.func89, by kernel_rfl, by kernel_rfl⟩
theorem fnOk90 : ∃ fn, Tryz.prog.funcs[90]? = some fn ∧ (fn.name == "runtime.NumGoroutine") = false ∧ fn.body.isNone = false := ⟨_, Tryz.func90, by kernel_rfl, by kernel_rfl⟩
theorem fnOk91 : ∃ fn, Tryz.prog.funcs[91]? = some fn ∧ (fn.name == "runtime.NumGoroutine") = false ∧ fn.body.isNone = false := ⟨_, Tryz.func91, by kernel_rfl, by kernel_rfl⟩
theorem fnsOk : FnsOk Tryz.prog fns := ⟨fnOk5, fnOk6, fnOk7, fnOk8, fnOk9, fnOk10, fnOk11, fnOk12, fnOk13, fnOk14, fnOk15, fnOk16, fnOk17, fnOk18, fnOk19, fnOk20, fnOk21, fnOk22, fnOk23, fnOk24, fnOk25, fnOk26, fnOk27, fnOk28, fnOk29, fnOk30, fnOk31, fnOk32, fnOk33, fnOk34, fnOk35, fnOk36, fnOk37, fnOk38, fnOk39, fnOk40, fnOk41, fnOk43, fnOk44, fnOk45, fnOk46, fnOk47, fnOk48, fnOk49, fnOk50, fnOk51, fnOk52, fnOk53, fnOk55, fnOk56, fnOk57, fnOk58, fnOk59, fnOk60, fnOk61, fnOk62, fnOk63, fnOk64, fnOk65, fnOk70, fnOk71, fnOk72, fnOk73, fnOk74, fnOk81, fnOk82, fnOk83, fnOk84, fnOk85, fnOk86, fnOk87, fnOk88, fnOk89, fnOk90, fnOk91, trivial⟩
theorem follows : Tryz.prog.follows .mixedOrders = true := by kernel_rfl
def ats : Ats := [(3, [.int .i64]), (5, [.int .u8]), (9, [.str]), (25, [.bool, .int .i64, .str, .sl 4]), (27, [.err]), (48, [.int .i64, .str, .int .i64, .sl 4]), (94, [.int .i64, .str, .int .i64])]
noncomputable abbrev ax : Ax := ⟨Tryz.prog, tys, ats, fns, [0, 1, 2, 3, 4, 5, 6, 7, 8, 9, 10, 11, 12, 13, 14, 15, 20, 21], [], [27], [(16, (Lib.pow10Tab.map fun z => Value.int .u64 z).toArray)], [5], none, [33, 34, 43, 44, 46, 47, 48, 60]⟩
theorem zero5 (w : World) : (zeroValue 5).run Tryz.prog w = .ok (.int .u8 0) w := by
  have h : ((Tryz.prog.info? 5).bind (·.zero)) = some (.int .u8 0) := by kernel_rfl
  obtain ⟨i, hi, hz⟩ := Option.bind_eq_some_iff.1 h
  simp [zeroValue, typeInfo, hi, hz]
theorem zOk : ZOk ax := by
  intro t k hk hb w
  have ht : 5 = t := by simpa [hasB] using hb
  rcases ht with rfl
  · have e : lookTy ax 5 = some .u8 := by kernel_rfl
    cases e.symm.trans hk
    exact zero5 w

theorem eqOk : EqOk ax := ⟨zOk, fun _ _ _ h => by cases h⟩
/-! ### small: function 82, augur/lex.small -/
def small.ah : AH := ⟨[], [], [], [], [], [some [.bool]], [], [], []⟩
set_option maxRecDepth 100000 in
def small.W (n1 : Int) (K : List V → Prop) : Prop :=
 (bif (decide (n1 ≥ (97 : Int))) then (K [(.bool (decide (n1 ≤ (122 : Int))))]) else (K [(.bool false)]))
set_option maxRecDepth 100000 in
theorem small.eq (n1 : Int) (K : List V → Prop) : small.W n1 K = afn ax small.ah Tryz.f82 [(.int .u8 n1)] [] (onlyV K) := by kernel_rfl
theorem small.ok : codeOk tys (hintsOf small.ah) Tryz.f82.ntmps (Tryz.f82.body.getD .skip) = true := by kernel_rfl
set_option maxHeartbeats 4000000 in
theorem small.calls {n1 K} (h : small.W n1 K) : PCalls ax 82 [(.int .u8 n1)] K :=
  afn_run (ah := small.ah) tysOk fnsOk follows eqOk Tryz.func82 (by kernel_rfl) small.ok (by kernel_rfl) (Eq.mp (small.eq n1 K) h)
/-! ### great: function 83, augur/lex.great -/
def great.ah : AH := ⟨[], [], [], [], [], [some [.bool]], [], [], []⟩
set_option maxRecDepth 100000 in
def great.W (n1 : Int) (K : List V → Prop) : Prop :=
 (bif (decide (n1 ≥ (65 : Int))) then (bif (decide (n1 ≤ (90 : Int))) then (K [(.bool true)]) else (K [(.bool (n1 == (95 : Int)))])) else (K [(.bool (n1 == (95 : Int)))]))
set_option maxRecDepth 100000 in
theorem great.eq (n1 : Int) (K : List V → Prop) : great.W n1 K = afn ax great.ah Tryz.f83 [(.int .u8 n1)] [] (onlyV K) := by kernel_rfl
theorem great.ok : codeOk tys (hintsOf great.ah) Tryz.f83.ntmps (Tryz.f83.body.getD .skip) = true := by kernel_rfl
set_option maxHeartbeats 4000000 in
theorem great.calls {n1 K} (h : great.W n1 K) : PCalls ax 83 [(.int .u8 n1)] K :=
  afn_run (ah := great.ah) tysOk fnsOk follows eqOk Tryz.func83 (by kernel_rfl) great.ok (by kernel_rfl) (Eq.mp (great.eq n1 K) h)
/-! ### digit: function 86, augur/lex.digit -/
def digit.ah : AH := ⟨[], [], [], [], [], [some [.bool]], [], [], []⟩
set_option maxRecDepth 100000 in
def digit.W (n1 : Int) (K : List V → Prop) : Prop :=
 (bif (decide (n1 ≥ (48 : Int))) then (K [(.bool (decide (n1 ≤ (57 : Int))))]) else (K [(.bool false)]))
set_option maxRecDepth 100000 in
theorem digit.eq (n1 : Int) (K : List V → Prop) : digit.W n1 K = afn ax digit.ah Tryz.f86 [(.int .u8 n1)] [] (onlyV K) := by kernel_rfl
theorem digit.ok : codeOk tys (hintsOf digit.ah) Tryz.f86.ntmps (Tryz.f86.body.getD .skip) = true := by kernel_rfl
set_option maxHeartbeats 4000000 in
theorem digit.calls {n1 K} (h : digit.W n1 K) : PCalls ax 86 [(.int .u8 n1)] K :=
  afn_run (ah := digit.ah) tysOk fnsOk follows eqOk Tryz.func86 (by kernel_rfl) digit.ok (by kernel_rfl) (Eq.mp (digit.eq n1 K) h)
/-! ### inner: function 85, augur/lex.inner -/
def inner.ah : AH := ⟨[], [], [], [(82, ⟨[some [.int .u8]], [.c (.bool)], []⟩), (83, ⟨[some [.int .u8]], [.c (.bool)], []⟩), (86, ⟨[some [.int .u8]], [.c (.bool)], []⟩)], [], [some [.bool]], [], [], []⟩
set_option maxRecDepth 100000 in
def inner.W (n1 : Int) (K : List V → Prop) : Prop :=
 (PCalls ax 82 [(.int .u8 n1)] fun r3 => ∃ (b2 : Bool), r3 = [(.bool b2)] ∧ (bif b2 then (K [(.bool true)]) else (PCalls ax 83 [(.int .u8 n1)] fun r5 => ∃ (b4 : Bool), r5 = [(.bool b4)] ∧ (bif b4 then (K [(.bool true)]) else (PCalls ax 86 [(.int .u8 n1)] fun r7 => ∃ (b6 : Bool), r7 = [(.bool b6)] ∧ (K [(.bool b6)]))))))
set_option maxRecDepth 100000 in
theorem inner.eq (n1 : Int) (K : List V → Prop) : inner.W n1 K = afn ax inner.ah Tryz.f85 [(.int .u8 n1)] [] (onlyV K) := by kernel_rfl
theorem inner.ok : codeOk tys (hintsOf inner.ah) Tryz.f85.ntmps (Tryz.f85.body.getD .skip) = true := by kernel_rfl
set_option maxHeartbeats 4000000 in
theorem inner.calls {n1 K} (h : inner.W n1 K) : PCalls ax 85 [(.int .u8 n1)] K :=
  afn_run (ah := inner.ah) tysOk fnsOk follows eqOk Tryz.func85 (by kernel_rfl) inner.ok (by kernel_rfl) (Eq.mp (inner.eq n1 K) h)
/-! ### skip: function 70, augur/lex.skip -/
def skip.ah : AH := ⟨[], [(1, ⟨[(1, [.d (.int .i64)], false)], [], [], []⟩)], [(7, ⟨[(13, [.d (.bool)], false)], [], [], []⟩)], [(81, ⟨[some [.str], some [.int .u8]], [.c (.int .i64)], []⟩)], [], [some [.int .i64]], [], [], []⟩
set_option maxRecDepth 100000 in
def skip.W (s1 : ByteArray) (n2 : Int) (K : List V → Prop) : Prop :=
 (∃ (I10 : List V → Prop) (μ11 : List V → Nat), I10 [(.int .i64 n2)] ∧ (∀ (n12 : Int), I10 [(.int .i64 n12)] →
 (bif (decide (n12 < (s1.size : Int))) then
 (0 ≤ n12 ∧ ∃ u14 : UInt8, s1[(n12 : Int).toNat]? = some u14 ∧ (∃ J15 : List V → Prop, (bif ((u14.toNat : Int) == (9 : Int)) then
 (J15 [(.bool true)])
 else
 (bif ((u14.toNat : Int) == (10 : Int)) then
 (J15 [(.bool true)])
 else
 (bif ((u14.toNat : Int) == (13 : Int)) then
 (J15 [(.bool true)])
 else
 (J15 [(.bool ((u14.toNat : Int) == (32 : Int)))])))) ∧
 (∀ (b16 : Bool), J15 [(.bool b16)] →
 (bif b16 then
 (I10 [(.int .i64 (IntKind.i64.wrap (n12 + 1)))] ∧ μ11 [(.int .i64 (IntKind.i64.wrap (n12 + 1)))] < μ11 [(.int .i64 n12)])
 else
 (bif ((u14.toNat : Int) == (37 : Int)) then
 (0 ≤ n12 ∧ n12 ≤ (s1.size : Int) ∧ (PCalls ax 81 [(.str (s1.extract (n12 : Int).toNat s1.size)), (.int .u8 10)] fun r18 => ∃ (n17 : Int), r18 = [(.int .i64 n17)] ∧ (bif (decide (n17 < (0 : Int))) then
 (K [(.int .i64 (s1.size : Int))])
 else
 (I10 [(.int .i64 (IntKind.i64.wrap (n12 + n17)))] ∧ μ11 [(.int .i64 (IntKind.i64.wrap (n12 + n17)))] < μ11 [(.int .i64 n12)]))))
 else
 (K [(.int .i64 n12)]))))))
 else
 (K [(.int .i64 n12)]))))
set_option maxRecDepth 100000 in
theorem skip.eq (s1 : ByteArray) (n2 : Int) (K : List V → Prop) : skip.W s1 n2 K = afn ax skip.ah Tryz.f70 [(.str s1), (.int .i64 n2)] [] (onlyV K) := by kernel_rfl
theorem skip.ok : codeOk tys (hintsOf skip.ah) Tryz.f70.ntmps (Tryz.f70.body.getD .skip) = true := by kernel_rfl
set_option maxHeartbeats 4000000 in
theorem skip.calls {s1 n2 K} (h : skip.W s1 n2 K) : PCalls ax 70 [(.str s1), (.int .i64 n2)] K :=
  afn_run (ah := skip.ah) tysOk fnsOk follows eqOk Tryz.func70 (by kernel_rfl) skip.ok (by kernel_rfl) (Eq.mp (skip.eq s1 n2 K) h)
/-! ### spanD: function 84, augur/lex.span -/
def spanD.ah : AH := ⟨[], [(2, ⟨[(7, [.d (.int .i64)], false)], [], [], []⟩)], [], [(86, ⟨[some [.int .u8]], [.c (.bool)], []⟩)], [], [some [.int .i64]], [], [], []⟩
set_option maxRecDepth 100000 in
def spanD.W (s1 : ByteArray) (n2 : Int) (K : List V → Prop) : Prop :=
 (∃ (I7 : List V → Prop) (μ8 : List V → Nat), I7 [(.int .i64 n2)] ∧ (∀ (n9 : Int), I7 [(.int .i64 n9)] →
 (bif (decide (n9 < (s1.size : Int))) then (0 ≤ n9 ∧ ∃ u10 : UInt8, s1[(n9 : Int).toNat]? = some u10 ∧ (PCalls ax 86 [(.int .u8 (u10.toNat : Int))] fun r12 => ∃ (b11 : Bool), r12 = [(.bool b11)] ∧ (bif b11 then
 (I7 [(.int .i64 (IntKind.i64.wrap (n9 + 1)))] ∧ μ8 [(.int .i64 (IntKind.i64.wrap (n9 + 1)))] < μ8 [(.int .i64 n9)])
 else
 (K [(.int .i64 (IntKind.i64.wrap (n9 - n2)))])))) else (K [(.int .i64 (IntKind.i64.wrap (n9 - n2)))]))))
set_option maxRecDepth 100000 in
theorem spanD.eq (s1 : ByteArray) (n2 : Int) (K : List V → Prop) : spanD.W s1 n2 K = afn ax spanD.ah Tryz.f84 [(.str s1), (.int .i64 n2), (.fn 86 [] [])] [] (onlyV K) := by kernel_rfl
theorem spanD.ok : codeOk tys (hintsOf spanD.ah) Tryz.f84.ntmps (Tryz.f84.body.getD .skip) = true := by kernel_rfl
set_option maxHeartbeats 4000000 in
theorem spanD.calls {s1 n2 K} (h : spanD.W s1 n2 K) : PCalls ax 84 [(.str s1), (.int .i64 n2), (.fn 86 [] [])] K :=
  afn_run (ah := spanD.ah) tysOk fnsOk follows eqOk Tryz.func84 (by kernel_rfl) spanD.ok (by kernel_rfl) (Eq.mp (spanD.eq s1 n2 K) h)
/-! ### spanI: function 84, augur/lex.span -/
def spanI.ah : AH := ⟨[], [(2, ⟨[(7, [.d (.int .i64)], false)], [], [], []⟩)], [], [(85, ⟨[some [.int .u8]], [.c (.bool)], []⟩)], [], [some [.int .i64]], [], [], []⟩
set_option maxRecDepth 100000 in
def spanI.W (s1 : ByteArray) (n2 : Int) (K : List V → Prop) : Prop :=
 (∃ (I7 : List V → Prop) (μ8 : List V → Nat), I7 [(.int .i64 n2)] ∧ (∀ (n9 : Int), I7 [(.int .i64 n9)] →
 (bif (decide (n9 < (s1.size : Int))) then (0 ≤ n9 ∧ ∃ u10 : UInt8, s1[(n9 : Int).toNat]? = some u10 ∧ (PCalls ax 85 [(.int .u8 (u10.toNat : Int))] fun r12 => ∃ (b11 : Bool), r12 = [(.bool b11)] ∧ (bif b11 then
 (I7 [(.int .i64 (IntKind.i64.wrap (n9 + 1)))] ∧ μ8 [(.int .i64 (IntKind.i64.wrap (n9 + 1)))] < μ8 [(.int .i64 n9)])
 else
 (K [(.int .i64 (IntKind.i64.wrap (n9 - n2)))])))) else (K [(.int .i64 (IntKind.i64.wrap (n9 - n2)))]))))
set_option maxRecDepth 100000 in
theorem spanI.eq (s1 : ByteArray) (n2 : Int) (K : List V → Prop) : spanI.W s1 n2 K = afn ax spanI.ah Tryz.f84 [(.str s1), (.int .i64 n2), (.fn 85 [] [])] [] (onlyV K) := by kernel_rfl
theorem spanI.ok : codeOk tys (hintsOf spanI.ah) Tryz.f84.ntmps (Tryz.f84.body.getD .skip) = true := by kernel_rfl
set_option maxHeartbeats 4000000 in
theorem spanI.calls {s1 n2 K} (h : spanI.W s1 n2 K) : PCalls ax 84 [(.str s1), (.int .i64 n2), (.fn 85 [] [])] K :=
  afn_run (ah := spanI.ah) tysOk fnsOk follows eqOk Tryz.func84 (by kernel_rfl) spanI.ok (by kernel_rfl) (Eq.mp (spanI.eq s1 n2 K) h)
/-! ### token: function 71, augur/lex.token -/
def token.ah : AH := ⟨[], [], [(4, ⟨[(12, [.d (.bool)], false)], [], [], []⟩), (11, ⟨[(33, [.d (.bool)], false)], [], [], []⟩)], [(81, ⟨[some [.str], some [.int .u8]], [.c (.int .i64)], []⟩), (82, ⟨[some [.int .u8]], [.c (.bool)], []⟩), (83, ⟨[some [.int .u8]], [.c (.bool)], []⟩), (84, ⟨[some [.str], some [.int .i64], none], [.c (.int .i64)], []⟩), (86, ⟨[some [.int .u8]], [.c (.bool)], []⟩), (87, ⟨[some [.str], some [.int .i64]], [.ag [.int .i64, .str, .int .i64], .c (.bool)], []⟩), (88, ⟨[some [.str], some [.str]], [.c (.bool)], []⟩)], [], [some [.int .i64, .str, .int .i64], some [.bool]], [], [], []⟩
set_option maxRecDepth 100000 in
def token.W (s1 : ByteArray) (n2 : Int) (K : List V → Prop) : Prop :=
 (0 ≤ n2 ∧ ∃ u4 : UInt8, s1[(n2 : Int).toNat]? = some u4 ∧ (∃ J9 : List V → Prop, (PCalls ax 82 [(.int .u8 (u4.toNat : Int))] fun r11 => ∃ (b10 : Bool), r11 = [(.bool b10)] ∧ (bif b10 then
 (J9 [(.bool true)])
 else
 (PCalls ax 83 [(.int .u8 (u4.toNat : Int))] fun r13 => ∃ (b12 : Bool), r13 = [(.bool b12)] ∧ (J9 [(.bool b12)])))) ∧
 (∀ (b14 : Bool), J9 [(.bool b14)] →
 (bif b14 then
 (PCalls ax 84 [(.str s1), (.int .i64 n2), (.fn 85 [] [])] fun r16 => ∃ (n15 : Int), r16 = [(.int .i64 n15)] ∧ (0 ≤ n2 ∧ n2 ≤ (IntKind.i64.wrap (n2 + n15)) ∧ (IntKind.i64.wrap (n2 + n15)) ≤ (s1.size : Int) ∧ (PCalls ax 83 [(.int .u8 (u4.toNat : Int))] fun r18 => ∃ (b17 : Bool), r18 = [(.bool b17)] ∧ (bif b17 then
 (K [(.agg [(.int .i64 2), (.str (s1.extract (n2 : Int).toNat ((IntKind.i64.wrap (n2 + n15)) : Int).toNat)), (.int .i64 0)]), (.bool (decide (((s1.extract (n2 : Int).toNat ((IntKind.i64.wrap (n2 + n15)) : Int).toNat).size : Int) ≤ (32 : Int))))])
 else
 (K [(.agg [(.int .i64 1), (.str (s1.extract (n2 : Int).toNat ((IntKind.i64.wrap (n2 + n15)) : Int).toNat)), (.int .i64 0)]), (.bool (decide (((s1.extract (n2 : Int).toNat ((IntKind.i64.wrap (n2 + n15)) : Int).toNat).size : Int) ≤ (32 : Int))))])))))
 else
 (∃ J21 : List V → Prop, (PCalls ax 86 [(.int .u8 (u4.toNat : Int))] fun r23 => ∃ (b22 : Bool), r23 = [(.bool b22)] ∧ (bif b22 then
 (J21 [(.bool true)])
 else
 (J21 [(.bool ((u4.toNat : Int) == (45 : Int)))]))) ∧
 (∀ (b24 : Bool), J21 [(.bool b24)] →
 (bif b24 then
 (PCalls ax 87 [(.str s1), (.int .i64 n2)] fun r29 => ∃ (n25 : Int) (s26 : ByteArray) (n27 : Int) (b28 : Bool), r29 = [(.agg [(.int .i64 n25), (.str s26), (.int .i64 n27)]), (.bool b28)] ∧ (K [(.agg [(.int .i64 n25), (.str s26), (.int .i64 n27)]), (.bool b28)]))
 else
 (0 ≤ n2 ∧ n2 ≤ (s1.size : Int) ∧ (PCalls ax 88 [(.str (s1.extract (n2 : Int).toNat s1.size)), (.str (⟨#[58, 45]⟩ : ByteArray))] fun r33 => ∃ (b32 : Bool), r33 = [(.bool b32)] ∧ (bif b32 then
 (K [(.agg [(.int .i64 4), (.str (⟨#[58, 45]⟩ : ByteArray)), (.int .i64 0)]), (.bool true)])
 else
 (PCalls ax 81 [(.str (⟨#[40, 41, 44, 46, 59, 124, 61]⟩ : ByteArray)), (.int .u8 (u4.toNat : Int))] fun r35 => ∃ (n34 : Int), r35 = [(.int .i64 n34)] ∧ (bif (decide (n34 ≥ (0 : Int))) then
 (0 ≤ n2 ∧ n2 ≤ (IntKind.i64.wrap (n2 + 1)) ∧ (IntKind.i64.wrap (n2 + 1)) ≤ (s1.size : Int) ∧ (K [(.agg [(.int .i64 4), (.str (s1.extract (n2 : Int).toNat ((IntKind.i64.wrap (n2 + 1)) : Int).toNat)), (.int .i64 0)]), (.bool true)]))
 else
 (K [(.agg [(.int .i64 0), (.str (⟨#[]⟩ : ByteArray)), (.int .i64 0)]), (.bool false)])))))))))))))
set_option maxRecDepth 100000 in
theorem token.eq (s1 : ByteArray) (n2 : Int) (K : List V → Prop) : token.W s1 n2 K = afn ax token.ah Tryz.f71 [(.str s1), (.int .i64 n2)] [] (onlyV K) := by kernel_rfl
theorem token.ok : codeOk tys (hintsOf token.ah) Tryz.f71.ntmps (Tryz.f71.body.getD .skip) = true := by kernel_rfl
set_option maxHeartbeats 4000000 in
theorem token.calls {s1 n2 K} (h : token.W s1 n2 K) : PCalls ax 71 [(.str s1), (.int .i64 n2)] K :=
  afn_run (ah := token.ah) tysOk fnsOk follows eqOk Tryz.func71 (by kernel_rfl) token.ok (by kernel_rfl) (Eq.mp (token.eq s1 n2 K) h)
/-! ### yield: function 57, augur/lex.Lex$1 -/
def yield.ah : AH := ⟨[], [], [], [], [], [some [.bool]], [], [], []⟩
set_option maxRecDepth 100000 in
def yield.W (_n1 : Int) (n2 : Int) (s3 : ByteArray) (n4 : Int) (L : List (List V)) (K : List V → List Ob → Prop) : Prop :=
 (((List.length L) + (List.length ([[(.int .i64 n2), (.str s3), (.int .i64 n4)]] : List (List V)))) * 32 ≤ 140737488355328 ∧ (List.length L) + (List.length ([[(.int .i64 n2), (.str s3), (.int .i64 n4)]] : List (List V))) ≤ 140737488355328 ∧ (K [(.bool true)] [(.box [(.own 2)]), .dead, (.lst 94 3 false (L ++ [[(.int .i64 n2), (.str s3), (.int .i64 n4)]]))]))
set_option maxRecDepth 100000 in
theorem yield.eq (n1 : Int) (n2 : Int) (s3 : ByteArray) (n4 : Int) (L : List (List V)) (K : List V → List Ob → Prop) : yield.W n1 n2 s3 n4 L K = afn ax yield.ah Tryz.f57 [(.int .i64 n1), (.agg [(.int .i64 n2), (.str s3), (.int .i64 n4)]), (.ptr 0 0)] [(.box [(.own 1)]), (.lst 94 3 false L)] K := by kernel_rfl
theorem yield.ok : codeOk tys (hintsOf yield.ah) Tryz.f57.ntmps (Tryz.f57.body.getD .skip) = true := by kernel_rfl
set_option maxHeartbeats 4000000 in
theorem yield.calls {n1 n2 s3 n4 L K} (h : yield.W n1 n2 s3 n4 L K) : SCalls ax 57 [(.int .i64 n1), (.agg [(.int .i64 n2), (.str s3), (.int .i64 n4)]), (.ptr 0 0)] [(.box [(.own 1)]), (.lst 94 3 false L)] K :=
  afn_run (ah := yield.ah) tysOk fnsOk follows eqOk Tryz.func57 (by kernel_rfl) yield.ok (by kernel_rfl) (Eq.mp (yield.eq n1 n2 s3 n4 L K) h)
/-! ### each: function 56, augur/lex.each -/
def each.ah : AH := ⟨[], [(2, ⟨[(5, [.d (.int .i64)], false)], [(0, [.nw 94 3 false])], [], []⟩)], [], [(57, ⟨[some [.int .i64], some [.int .i64, .str, .int .i64], none], [.c (.bool)], [.box [.l (.own 2)], .dead, .lst 94 3 false]⟩), (70, ⟨[some [.str], some [.int .i64]], [.c (.int .i64)], []⟩), (71, ⟨[some [.str], some [.int .i64]], [.ag [.int .i64, .str, .int .i64], .c (.bool)], []⟩)], [], [some [.bool]], [(0, [.nw 94 3 false])], [], []⟩
set_option maxRecDepth 100000 in
def each.W (s1 : ByteArray) (K : List V → List Ob → Prop) : Prop :=
 (PCalls ax 70 [(.str s1), (.int .i64 0)] fun r5 => ∃ (n4 : Int), r5 = [(.int .i64 n4)] ∧ (∃ (I41 : List V → Prop) (μ42 : List V → Nat), I41 [(.int .i64 n4), (.sl 3 [])] ∧ (∀ (n43 : Int) (l44 : List (List V)), I41 [(.int .i64 n43), (.sl 3 l44)] →
 (bif (decide (n43 < (s1.size : Int))) then
 (PCalls ax 71 [(.str s1), (.int .i64 n43)] fun r54 => ∃ (n50 : Int) (s51 : ByteArray) (n52 : Int) (b53 : Bool), r54 = [(.agg [(.int .i64 n50), (.str s51), (.int .i64 n52)]), (.bool b53)] ∧ (bif (!b53) then (K [(.bool false)] [(.box [(.own 1)]), (.lst 94 3 false l44)]) else (SCalls ax 57 [(.int .i64 n43), (.agg [(.int .i64 n50), (.str s51), (.int .i64 n52)]), (.ptr 0 0)] [(.box [(.own 1)]), (.lst 94 3 false l44)] fun r56 o58 => ∃ (b55 : Bool) (l57 : List (List V)), r56 = [(.bool b55)] ∧ o58 = [(.box [(.own 2)]), .dead, (.lst 94 3 false l57)] ∧ (bif (!b55) then
 (K [(.bool false)] [(.box [(.own 1)]), (.lst 94 3 false l57)])
 else
 (PCalls ax 70 [(.str s1), (.int .i64 (IntKind.i64.wrap (n43 + (s51.size : Int))))] fun r60 => ∃ (n59 : Int), r60 = [(.int .i64 n59)] ∧ (I41 [(.int .i64 n59), (.sl 3 l57)] ∧ μ42 [(.int .i64 n59), (.sl 3 l57)] < μ42 [(.int .i64 n43), (.sl 3 l44)]))))))
 else
 (K [(.bool true)] [(.box [(.own 1)]), (.lst 94 3 false l44)])))))
set_option maxRecDepth 100000 in
theorem each.eq (s1 : ByteArray) (K : List V → List Ob → Prop) : each.W s1 K = afn ax each.ah Tryz.f56 [(.str s1), (.fn 57 [] [(.ptr 0 0)])] [(.box [.nls])] K := by kernel_rfl
theorem each.ok : codeOk tys (hintsOf each.ah) Tryz.f56.ntmps (Tryz.f56.body.getD .skip) = true := by kernel_rfl
set_option maxHeartbeats 4000000 in
theorem each.calls {s1 K} (h : each.W s1 K) : SCalls ax 56 [(.str s1), (.fn 57 [] [(.ptr 0 0)])] [(.box [.nls])] K :=
  afn_run (ah := each.ah) tysOk fnsOk follows eqOk Tryz.func56 (by kernel_rfl) each.ok (by kernel_rfl) (Eq.mp (each.eq s1 K) h)
/-! ### Lex: function 41, augur/lex.Lex -/
def Lex.ah : AH := ⟨[(2, seqO [0, 1, 2]), (6, seqO [0, 1, 2])], [], [], [(56, ⟨[some [.str], none], [.c (.bool)], [.box [.l (.own 1)], .lst 94 3 false]⟩)], [], [some [.sl 3], some [.err]], [], [], []⟩
set_option maxRecDepth 100000 in
def Lex.W (s1 : ByteArray) (K : List V → Prop) : Prop :=
 (bif (decide ((s1.size : Int) > (16384 : Int))) then
 (K [(.sl 3 []), (.err (some 0))])
 else
 (SCalls ax 56 [(.str s1), (.fn 57 [] [(.ptr 0 0)])] [(.box [.nls])] fun r3 o5 => ∃ (b2 : Bool) (l4 : List (List V)), r3 = [(.bool b2)] ∧ o5 = [(.box [(.own 1)]), (.lst 94 3 false l4)] ∧ (bif (!b2) then
 (K [(.sl 3 []), (.err (some 2))])
 else
 (K [(.sl 3 l4), (.err none)]))))
set_option maxRecDepth 100000 in
theorem Lex.eq (s1 : ByteArray) (K : List V → Prop) : Lex.W s1 K = afn ax Lex.ah Tryz.f41 [(.str s1)] [] (onlyV K) := by kernel_rfl
theorem Lex.ok : codeOk tys (hintsOf Lex.ah) Tryz.f41.ntmps (Tryz.f41.body.getD .skip) = true := by kernel_rfl
set_option maxHeartbeats 4000000 in
theorem Lex.calls {s1 K} (h : Lex.W s1 K) : PCalls ax 41 [(.str s1)] K :=
  afn_run (ah := Lex.ah) tysOk fnsOk follows eqOk Tryz.func41 (by kernel_rfl) Lex.ok (by kernel_rfl) (Eq.mp (Lex.eq s1 K) h)
/-! ### rletter: function 89, augur/augurref01.letter -/
def rletter.ah : AH := ⟨[], [], [], [], [], [some [.bool]], [], [], []⟩
set_option maxRecDepth 100000 in
def rletter.W (n1 : Int) (K : List V → Prop) : Prop :=
 (bif (decide (n1 ≥ (97 : Int))) then (bif (decide (n1 ≤ (122 : Int))) then (K [(.bool true)]) else (bif (decide (n1 ≥ (65 : Int))) then (bif (decide (n1 ≤ (90 : Int))) then (K [(.bool true)]) else (K [(.bool (n1 == (95 : Int)))])) else (K [(.bool (n1 == (95 : Int)))]))) else (bif (decide (n1 ≥ (65 : Int))) then (bif (decide (n1 ≤ (90 : Int))) then (K [(.bool true)]) else (K [(.bool (n1 == (95 : Int)))])) else (K [(.bool (n1 == (95 : Int)))])))
set_option maxRecDepth 100000 in
theorem rletter.eq (n1 : Int) (K : List V → Prop) : rletter.W n1 K = afn ax rletter.ah Tryz.f89 [(.int .u8 n1)] [] (onlyV K) := by kernel_rfl
theorem rletter.ok : codeOk tys (hintsOf rletter.ah) Tryz.f89.ntmps (Tryz.f89.body.getD .skip) = true := by kernel_rfl
set_option maxHeartbeats 4000000 in
theorem rletter.calls {n1 K} (h : rletter.W n1 K) : PCalls ax 89 [(.int .u8 n1)] K :=
  afn_run (ah := rletter.ah) tysOk fnsOk follows eqOk Tryz.func89 (by kernel_rfl) rletter.ok (by kernel_rfl) (Eq.mp (rletter.eq n1 K) h)
/-! ### rdigit: function 90, augur/augurref01.digit -/
def rdigit.ah : AH := ⟨[], [], [], [], [], [some [.bool]], [], [], []⟩
set_option maxRecDepth 100000 in
def rdigit.W (n1 : Int) (K : List V → Prop) : Prop :=
 (bif (decide (n1 ≥ (48 : Int))) then (K [(.bool (decide (n1 ≤ (57 : Int))))]) else (K [(.bool false)]))
set_option maxRecDepth 100000 in
theorem rdigit.eq (n1 : Int) (K : List V → Prop) : rdigit.W n1 K = afn ax rdigit.ah Tryz.f90 [(.int .u8 n1)] [] (onlyV K) := by kernel_rfl
theorem rdigit.ok : codeOk tys (hintsOf rdigit.ah) Tryz.f90.ntmps (Tryz.f90.body.getD .skip) = true := by kernel_rfl
set_option maxHeartbeats 4000000 in
theorem rdigit.calls {n1 K} (h : rdigit.W n1 K) : PCalls ax 90 [(.int .u8 n1)] K :=
  afn_run (ah := rdigit.ah) tysOk fnsOk follows eqOk Tryz.func90 (by kernel_rfl) rdigit.ok (by kernel_rfl) (Eq.mp (rdigit.eq n1 K) h)
/-! ### RInt: function 91, augur/augurref01.Int -/
def RInt.ah : AH := ⟨[], [(8, ⟨[(5, [.d (.int .i64)], false), (6, [.d (.int .i64)], false)], [], [], []⟩)], [(4, ⟨[(4, [.d (.str)], false)], [], [], []⟩), (6, ⟨[], [], [], []⟩)], [], [], [some [.int .i64], some [.bool]], [], [], []⟩
set_option maxRecDepth 100000 in
def RInt.W (s1 : ByteArray) (K : List V → Prop) : Prop :=
 (∃ J3 : List V → Prop, (bif (decide ((s1.size : Int) > (0 : Int))) then (0 ≤ (0 : Int) ∧ ∃ u4 : UInt8, s1[0]? = some u4 ∧ (bif ((u4.toNat : Int) == (45 : Int)) then
 (0 ≤ (1 : Int) ∧ (1 : Int) ≤ (s1.size : Int) ∧ (J3 [(.str (s1.extract 1 s1.size))]))
 else
 (J3 [(.str s1)]))) else (J3 [(.str s1)])) ∧
 (∀ (s5 : ByteArray), J3 [(.str s5)] →
 (∃ J7 : List V → Prop, (bif ((s5.size : Int) == (0 : Int)) then (K [(.int .i64 0), (.bool false)]) else (bif (decide ((s5.size : Int) > (19 : Int))) then (K [(.int .i64 0), (.bool false)]) else (0 ≤ (0 : Int) ∧ ∃ u8 : UInt8, s5[0]? = some u8 ∧ (bif ((u8.toNat : Int) == (48 : Int)) then (bif (decide ((s1.size : Int) > (1 : Int))) then
 (K [(.int .i64 0), (.bool false)])
 else
 (J7 [])) else (J7 []))))) ∧
 (J7 [] →
 (∃ (I29 : List V → Prop) (μ30 : List V → Nat), I29 [(.int .i64 0), (.int .i64 0)] ∧ (∀ (n31 : Int) (n32 : Int), I29 [(.int .i64 n31), (.int .i64 n32)] →
 (bif (decide (n32 < (s5.size : Int))) then
 (0 ≤ n32 ∧ ∃ u34 : UInt8, s5[(n32 : Int).toNat]? = some u34 ∧ (0 ≤ n32 ∧ ∃ u35 : UInt8, s5[(n32 : Int).toNat]? = some u35 ∧ (bif (decide ((u35.toNat : Int) < (48 : Int))) then (K [(.int .i64 0), (.bool false)]) else (0 ≤ n32 ∧ ∃ u36 : UInt8, s5[(n32 : Int).toNat]? = some u36 ∧ (bif (decide ((u36.toNat : Int) > (57 : Int))) then (K [(.int .i64 0), (.bool false)]) else (IntKind.i64 = IntKind.i64 ∧ (10 : Int) ≠ 0 ∧ (bif (decide (n31 < (IntKind.i64.wrap (Int.tdiv (IntKind.i64.wrap ((-9223372036854775808) + (IntKind.i64.wrap (IntKind.u8.wrap ((u34.toNat : Int) - 48))))) (10 : Int))))) then
 (K [(.int .i64 0), (.bool false)])
 else
 (I29 [(.int .i64 (IntKind.i64.wrap ((IntKind.i64.wrap (10 * n31)) - (IntKind.i64.wrap (IntKind.u8.wrap ((u34.toNat : Int) - 48)))))), (.int .i64 (IntKind.i64.wrap (n32 + 1)))] ∧ μ30 [(.int .i64 (IntKind.i64.wrap ((IntKind.i64.wrap (10 * n31)) - (IntKind.i64.wrap (IntKind.u8.wrap ((u34.toNat : Int) - 48)))))), (.int .i64 (IntKind.i64.wrap (n32 + 1)))] < μ30 [(.int .i64 n31), (.int .i64 n32)]))))))))
 else
 (0 ≤ (0 : Int) ∧ ∃ u37 : UInt8, s1[0]? = some u37 ∧ (bif ((u37.toNat : Int) == (45 : Int)) then
 (K [(.int .i64 n31), (.bool true)])
 else
 (bif (n31 == (-9223372036854775808)) then
 (K [(.int .i64 0), (.bool false)])
 else
 (K [(.int .i64 (IntKind.i64.wrap (0 - n31))), (.bool true)])))))))))))
set_option maxRecDepth 100000 in
theorem RInt.eq (s1 : ByteArray) (K : List V → Prop) : RInt.W s1 K = afn ax RInt.ah Tryz.f91 [(.str s1)] [] (onlyV K) := by kernel_rfl
theorem RInt.ok : codeOk tys (hintsOf RInt.ah) Tryz.f91.ntmps (Tryz.f91.body.getD .skip) = true := by kernel_rfl
set_option maxHeartbeats 4000000 in
theorem RInt.calls {s1 K} (h : RInt.W s1 K) : PCalls ax 91 [(.str s1)] K :=
  afn_run (ah := RInt.ah) tysOk fnsOk follows eqOk Tryz.func91 (by kernel_rfl) RInt.ok (by kernel_rfl) (Eq.mp (RInt.eq s1 K) h)
/-! ### RWord: function 73, augur/augurref01.Word -/
def RWord.ah : AH := ⟨[(15, seqO [0, 1, 2, 3, 4, 5, 6, 7, 8, 9, 10, 11, 12, 13, 14, 15, 16, 17, 18, 19, 20, 21])], [(4, ⟨[(7, [.d (.int .i64)], false)], [], [], []⟩), (12, ⟨[(7, [.d (.int .i64)], false)], [], [], []⟩), (19, ⟨[(121, [.d (.int .i64)], false)], [], [], []⟩)], [(6, ⟨[(7, [.d (.int .i64)], false)], [], [], []⟩), (11, ⟨[(58, [.d (.bool)], false)], [], [], []⟩), (14, ⟨[(7, [.d (.int .i64)], false)], [], [], []⟩), (18, ⟨[], [], [], []⟩)], [(89, ⟨[some [.int .u8]], [.c (.bool)], []⟩), (90, ⟨[some [.int .u8]], [.c (.bool)], []⟩), (91, ⟨[some [.str]], [.c (.int .i64), .c (.bool)], []⟩)], [], [some [.int .i64, .str, .int .i64], some [.bool]], [], [], []⟩
set_option maxRecDepth 100000 in
def RWord.W (s1 : ByteArray) (n2 : Int) (K : List V → Prop) : Prop :=
 (0 ≤ n2 ∧ ∃ u4 : UInt8, s1[(n2 : Int).toNat]? = some u4 ∧ (PCalls ax 89 [(.int .u8 (u4.toNat : Int))] fun r46 => ∃ (b45 : Bool), r46 = [(.bool b45)] ∧ (bif b45 then
 (∃ J63 : List V → Prop, (∃ (I71 : List V → Prop) (μ72 : List V → Nat), I71 [(.int .i64 n2)] ∧ (∀ (n73 : Int), I71 [(.int .i64 n73)] →
 (bif (decide (n73 < (s1.size : Int))) then (0 ≤ n73 ∧ ∃ u74 : UInt8, s1[(n73 : Int).toNat]? = some u74 ∧ (PCalls ax 89 [(.int .u8 (u74.toNat : Int))] fun r76 => ∃ (b75 : Bool), r76 = [(.bool b75)] ∧ (bif b75 then (I71 [(.int .i64 (IntKind.i64.wrap (n73 + 1)))] ∧ μ72 [(.int .i64 (IntKind.i64.wrap (n73 + 1)))] < μ72 [(.int .i64 n73)]) else (0 ≤ n73 ∧ ∃ u77 : UInt8, s1[(n73 : Int).toNat]? = some u77 ∧ (PCalls ax 90 [(.int .u8 (u77.toNat : Int))] fun r79 => ∃ (b78 : Bool), r79 = [(.bool b78)] ∧ (bif b78 then
 (I71 [(.int .i64 (IntKind.i64.wrap (n73 + 1)))] ∧ μ72 [(.int .i64 (IntKind.i64.wrap (n73 + 1)))] < μ72 [(.int .i64 n73)])
 else
 (J63 [(.int .i64 n73)]))))))) else (J63 [(.int .i64 n73)])))) ∧
 (∀ (n80 : Int), J63 [(.int .i64 n80)] →
 (bif (decide ((u4.toNat : Int) ≥ (97 : Int))) then (bif (decide ((u4.toNat : Int) ≤ (122 : Int))) then
 (0 ≤ n2 ∧ n2 ≤ n80 ∧ n80 ≤ (s1.size : Int) ∧ (K [(.agg [(.int .i64 1), (.str (s1.extract (n2 : Int).toNat (n80 : Int).toNat)), (.int .i64 0)]), (.bool (decide ((IntKind.i64.wrap (n80 - n2)) ≤ (32 : Int))))]))
 else
 (0 ≤ n2 ∧ n2 ≤ n80 ∧ n80 ≤ (s1.size : Int) ∧ (K [(.agg [(.int .i64 2), (.str (s1.extract (n2 : Int).toNat (n80 : Int).toNat)), (.int .i64 0)]), (.bool (decide ((IntKind.i64.wrap (n80 - n2)) ≤ (32 : Int))))]))) else (0 ≤ n2 ∧ n2 ≤ n80 ∧ n80 ≤ (s1.size : Int) ∧ (K [(.agg [(.int .i64 2), (.str (s1.extract (n2 : Int).toNat (n80 : Int).toNat)), (.int .i64 0)]), (.bool (decide ((IntKind.i64.wrap (n80 - n2)) ≤ (32 : Int))))])))))
 else
 (∃ J120 : List V → Prop, (PCalls ax 90 [(.int .u8 (u4.toNat : Int))] fun r122 => ∃ (b121 : Bool), r122 = [(.bool b121)] ∧ (bif b121 then (J120 [(.bool true)]) else (J120 [(.bool ((u4.toNat : Int) == (45 : Int)))]))) ∧
 (∀ (b123 : Bool), J120 [(.bool b123)] →
 (bif b123 then
 (∃ J134 : List V → Prop, (∃ (I139 : List V → Prop) (μ140 : List V → Nat), I139 [(.int .i64 (IntKind.i64.wrap (n2 + 1)))] ∧ (∀ (n141 : Int), I139 [(.int .i64 n141)] →
 (bif (decide (n141 < (s1.size : Int))) then (0 ≤ n141 ∧ ∃ u142 : UInt8, s1[(n141 : Int).toNat]? = some u142 ∧ (PCalls ax 90 [(.int .u8 (u142.toNat : Int))] fun r144 => ∃ (b143 : Bool), r144 = [(.bool b143)] ∧ (bif b143 then
 (I139 [(.int .i64 (IntKind.i64.wrap (n141 + 1)))] ∧ μ140 [(.int .i64 (IntKind.i64.wrap (n141 + 1)))] < μ140 [(.int .i64 n141)])
 else
 (J134 [(.int .i64 n141)])))) else (J134 [(.int .i64 n141)])))) ∧
 (∀ (n145 : Int), J134 [(.int .i64 n145)] →
 (0 ≤ n2 ∧ n2 ≤ n145 ∧ n145 ≤ (s1.size : Int) ∧ (PCalls ax 91 [(.str (s1.extract (n2 : Int).toNat (n145 : Int).toNat))] fun r151 => ∃ (n149 : Int) (b150 : Bool), r151 = [(.int .i64 n149), (.bool b150)] ∧ (0 ≤ n2 ∧ n2 ≤ n145 ∧ n145 ≤ (s1.size : Int) ∧ (bif b150 then (bif (n145 == (s1.size : Int)) then (K [(.agg [(.int .i64 3), (.str (s1.extract (n2 : Int).toNat (n145 : Int).toNat)), (.int .i64 n149)]), (.bool true)]) else (0 ≤ n145 ∧ ∃ u152 : UInt8, s1[(n145 : Int).toNat]? = some u152 ∧ (PCalls ax 89 [(.int .u8 (u152.toNat : Int))] fun r154 => ∃ (b153 : Bool), r154 = [(.bool b153)] ∧ (K [(.agg [(.int .i64 3), (.str (s1.extract (n2 : Int).toNat (n145 : Int).toNat)), (.int .i64 n149)]), (.bool (!b153))])))) else (K [(.agg [(.int .i64 3), (.str (s1.extract (n2 : Int).toNat (n145 : Int).toNat)), (.int .i64 n149)]), (.bool false)])))))))
 else
 (∃ J156 : List V → Prop, (bif ((u4.toNat : Int) == (58 : Int)) then (bif (decide (n2 < (IntKind.i64.wrap ((s1.size : Int) - 1)))) then (0 ≤ (IntKind.i64.wrap (n2 + 1)) ∧ ∃ u157 : UInt8, s1[((IntKind.i64.wrap (n2 + 1)) : Int).toNat]? = some u157 ∧ (bif ((u157.toNat : Int) == (45 : Int)) then
 (K [(.agg [(.int .i64 4), (.str (⟨#[58, 45]⟩ : ByteArray)), (.int .i64 0)]), (.bool true)])
 else
 (J156 []))) else (J156 [])) else (J156 [])) ∧
 (J156 [] →
 (0 < List.length ([[(.int .u8 40)], [(.int .u8 41)], [(.int .u8 44)], [(.int .u8 46)], [(.int .u8 59)], [(.int .u8 124)], [(.int .u8 61)]] : List (List V)) ∧ (∃ (I160 : List V → Prop) (μ161 : List V → Nat), I160 [(.int .i64 0)] ∧ (∀ (n162 : Int), I160 [(.int .i64 n162)] →
 (bif (decide (n162 < (List.length ([[(.int .u8 40)], [(.int .u8 41)], [(.int .u8 44)], [(.int .u8 46)], [(.int .u8 59)], [(.int .u8 124)], [(.int .u8 61)]] : List (List V)) : Int))) then
 (0 ≤ n162 ∧ n162 < (List.length ([[(.int .u8 40)], [(.int .u8 41)], [(.int .u8 44)], [(.int .u8 46)], [(.int .u8 59)], [(.int .u8 124)], [(.int .u8 61)]] : List (List V)) : Int) ∧ (∃ (n163 : Int), List.take 1 (Av.rowAt [[(.int .u8 40)], [(.int .u8 41)], [(.int .u8 44)], [(.int .u8 46)], [(.int .u8 59)], [(.int .u8 124)], [(.int .u8 61)]] (n162 : Int).toNat) = [(.int .u8 n163)] ∧ (bif (n163 == (u4.toNat : Int)) then
 (0 ≤ n2 ∧ n2 ≤ (IntKind.i64.wrap (n2 + 1)) ∧ (IntKind.i64.wrap (n2 + 1)) ≤ (s1.size : Int) ∧ (K [(.agg [(.int .i64 4), (.str (s1.extract (n2 : Int).toNat ((IntKind.i64.wrap (n2 + 1)) : Int).toNat)), (.int .i64 0)]), (.bool true)]))
 else
 (I160 [(.int .i64 (IntKind.i64.wrap (n162 + 1)))] ∧ μ161 [(.int .i64 (IntKind.i64.wrap (n162 + 1)))] < μ161 [(.int .i64 n162)]))))
 else
 (K [(.agg [(.int .i64 0), (.str (⟨#[]⟩ : ByteArray)), (.int .i64 0)]), (.bool false)])))))))))))))
set_option maxRecDepth 100000 in
theorem RWord.eq (s1 : ByteArray) (n2 : Int) (K : List V → Prop) : RWord.W s1 n2 K = afn ax RWord.ah Tryz.f73 [(.str s1), (.int .i64 n2)] [] (onlyV K) := by kernel_rfl
theorem RWord.ok : codeOk tys (hintsOf RWord.ah) Tryz.f73.ntmps (Tryz.f73.body.getD .skip) = true := by kernel_rfl
set_option maxHeartbeats 4000000 in
theorem RWord.calls {s1 n2 K} (h : RWord.W s1 n2 K) : PCalls ax 73 [(.str s1), (.int .i64 n2)] K :=
  afn_run (ah := RWord.ah) tysOk fnsOk follows eqOk Tryz.func73 (by kernel_rfl) RWord.ok (by kernel_rfl) (Eq.mp (RWord.eq s1 n2 K) h)
/-! ### RAll: function 61, augur/augurref01.All -/
def RAll.ah : AH := ⟨[(9, (.one 0 (.one 1 (.one 4 (.one 5 (.alt ((.one 2 (.alt (seqO [3, 6, 7, 8, 9]) (seqO [6, 3, 7, 8, 9])))) (seqO [6, 2, 3, 7, 8, 9])))))))], [(4, ⟨[(5, [.nw 3 1 false], false), (6, [.nw 94 3 false], false), (7, [.d (.bool)], false), (8, [.d (.int .i64)], false)], [], [], [0, 1]⟩)], [(15, ⟨[(50, [.d (.bool)], false)], [], [], []⟩)], [(73, ⟨[some [.str], some [.int .i64]], [.ag [.int .i64, .str, .int .i64], .c (.bool)], []⟩)], [], [some [.sl 1], some [.sl 3], some [.bool]], [], [], []⟩
set_option maxRecDepth 100000 in
def RAll.W (s1 : ByteArray) (K : List V → Prop) : Prop :=
 (∃ (I36 : List V → Prop) (μ37 : List V → Nat), I36 [(.sl 1 []), (.sl 3 []), (.bool false), (.int .i64 0)] ∧ (∀ (l38 : List (List V)) (l39 : List (List V)) (b40 : Bool) (n41 : Int), I36 [(.sl 1 l38), (.sl 3 l39), (.bool b40), (.int .i64 n41)] →
 (bif (decide (n41 < (s1.size : Int))) then
 (0 ≤ n41 ∧ ∃ u43 : UInt8, s1[(n41 : Int).toNat]? = some u43 ∧ (bif b40 then
 (I36 [(.sl 1 l38), (.sl 3 l39), (.bool ((u43.toNat : Int) != (10 : Int))), (.int .i64 (IntKind.i64.wrap (n41 + 1)))] ∧ μ37 [(.sl 1 l38), (.sl 3 l39), (.bool ((u43.toNat : Int) != (10 : Int))), (.int .i64 (IntKind.i64.wrap (n41 + 1)))] < μ37 [(.sl 1 l38), (.sl 3 l39), (.bool b40), (.int .i64 n41)])
 else
 (∃ J44 : List V → Prop, (bif ((u43.toNat : Int) == (9 : Int)) then (J44 [(.bool true)]) else (bif ((u43.toNat : Int) == (10 : Int)) then (J44 [(.bool true)]) else (bif ((u43.toNat : Int) == (13 : Int)) then (J44 [(.bool true)]) else (J44 [(.bool ((u43.toNat : Int) == (32 : Int)))])))) ∧
 (∀ (b45 : Bool), J44 [(.bool b45)] →
 (bif b45 then
 (I36 [(.sl 1 l38), (.sl 3 l39), (.bool b40), (.int .i64 (IntKind.i64.wrap (n41 + 1)))] ∧ μ37 [(.sl 1 l38), (.sl 3 l39), (.bool b40), (.int .i64 (IntKind.i64.wrap (n41 + 1)))] < μ37 [(.sl 1 l38), (.sl 3 l39), (.bool b40), (.int .i64 n41)])
 else
 (bif ((u43.toNat : Int) == (37 : Int)) then
 (I36 [(.sl 1 l38), (.sl 3 l39), (.bool true), (.int .i64 (IntKind.i64.wrap (n41 + 1)))] ∧ μ37 [(.sl 1 l38), (.sl 3 l39), (.bool true), (.int .i64 (IntKind.i64.wrap (n41 + 1)))] < μ37 [(.sl 1 l38), (.sl 3 l39), (.bool b40), (.int .i64 n41)])
 else
 (PCalls ax 73 [(.str s1), (.int .i64 n41)] fun r55 => ∃ (n51 : Int) (s52 : ByteArray) (n53 : Int) (b54 : Bool), r55 = [(.agg [(.int .i64 n51), (.str s52), (.int .i64 n53)]), (.bool b54)] ∧ (bif (!b54) then
 (K [(.sl 1 l38), (.sl 3 l39), (.bool false)])
 else
 (((((List.length l38) + (List.length ([[(.int .i64 n41)]] : List (List V)))) * 8 ≤ 140737488355328 ∧ (List.length l38) + (List.length ([[(.int .i64 n41)]] : List (List V))) ≤ 140737488355328 ∧ (((List.length l39) + (List.length ([[(.int .i64 n51), (.str s52), (.int .i64 n53)]] : List (List V)))) * 32 ≤ 140737488355328 ∧ (List.length l39) + (List.length ([[(.int .i64 n51), (.str s52), (.int .i64 n53)]] : List (List V))) ≤ 140737488355328 ∧ (I36 [(.sl 1 (l38 ++ [[(.int .i64 n41)]])), (.sl 3 (l39 ++ [[(.int .i64 n51), (.str s52), (.int .i64 n53)]])), (.bool b40), (.int .i64 (IntKind.i64.wrap (n41 + (s52.size : Int))))] ∧ μ37 [(.sl 1 (l38 ++ [[(.int .i64 n41)]])), (.sl 3 (l39 ++ [[(.int .i64 n51), (.str s52), (.int .i64 n53)]])), (.bool b40), (.int .i64 (IntKind.i64.wrap (n41 + (s52.size : Int))))] < μ37 [(.sl 1 l38), (.sl 3 l39), (.bool b40), (.int .i64 n41)]))) ∧ (((List.length l38) + (List.length ([[(.int .i64 n41)]] : List (List V)))) * 8 ≤ 140737488355328 ∧ (List.length l38) + (List.length ([[(.int .i64 n41)]] : List (List V))) ≤ 140737488355328 ∧ (((List.length l39) + (List.length ([[(.int .i64 n51), (.str s52), (.int .i64 n53)]] : List (List V)))) * 32 ≤ 140737488355328 ∧ (List.length l39) + (List.length ([[(.int .i64 n51), (.str s52), (.int .i64 n53)]] : List (List V))) ≤ 140737488355328 ∧ (I36 [(.sl 1 (l38 ++ [[(.int .i64 n41)]])), (.sl 3 (l39 ++ [[(.int .i64 n51), (.str s52), (.int .i64 n53)]])), (.bool b40), (.int .i64 (IntKind.i64.wrap (n41 + (s52.size : Int))))] ∧ μ37 [(.sl 1 (l38 ++ [[(.int .i64 n41)]])), (.sl 3 (l39 ++ [[(.int .i64 n51), (.str s52), (.int .i64 n53)]])), (.bool b40), (.int .i64 (IntKind.i64.wrap (n41 + (s52.size : Int))))] < μ37 [(.sl 1 l38), (.sl 3 l39), (.bool b40), (.int .i64 n41)])))) ∧ (((List.length l38) + (List.length ([[(.int .i64 n41)]] : List (List V)))) * 8 ≤ 140737488355328 ∧ (List.length l38) + (List.length ([[(.int .i64 n41)]] : List (List V))) ≤ 140737488355328 ∧ (((List.length l39) + (List.length ([[(.int .i64 n51), (.str s52), (.int .i64 n53)]] : List (List V)))) * 32 ≤ 140737488355328 ∧ (List.length l39) + (List.length ([[(.int .i64 n51), (.str s52), (.int .i64 n53)]] : List (List V))) ≤ 140737488355328 ∧ (I36 [(.sl 1 (l38 ++ [[(.int .i64 n41)]])), (.sl 3 (l39 ++ [[(.int .i64 n51), (.str s52), (.int .i64 n53)]])), (.bool b40), (.int .i64 (IntKind.i64.wrap (n41 + (s52.size : Int))))] ∧ μ37 [(.sl 1 (l38 ++ [[(.int .i64 n41)]])), (.sl 3 (l39 ++ [[(.int .i64 n51), (.str s52), (.int .i64 n53)]])), (.bool b40), (.int .i64 (IntKind.i64.wrap (n41 + (s52.size : Int))))] < μ37 [(.sl 1 l38), (.sl 3 l39), (.bool b40), (.int .i64 n41)]))))))))))))
 else
 (K [(.sl 1 l38), (.sl 3 l39), (.bool true)]))))
set_option maxRecDepth 100000 in
theorem RAll.eq (s1 : ByteArray) (K : List V → Prop) : RAll.W s1 K = afn ax RAll.ah Tryz.f61 [(.str s1)] [] (onlyV K) := by kernel_rfl
theorem RAll.ok : codeOk tys (hintsOf RAll.ah) Tryz.f61.ntmps (Tryz.f61.body.getD .skip) = true := by kernel_rfl
set_option maxHeartbeats 4000000 in
theorem RAll.calls {s1 K} (h : RAll.W s1 K) : PCalls ax 61 [(.str s1)] K :=
  afn_run (ah := RAll.ah) tysOk fnsOk follows eqOk Tryz.func61 (by kernel_rfl) RAll.ok (by kernel_rfl) (Eq.mp (RAll.eq s1 K) h)
/-! ### RLex: function 49, augur/augurref01.Lex -/
def RLex.ah : AH := ⟨[], [], [], [(61, ⟨[some [.str]], [.c (.sl 1), .c (.sl 3), .c (.bool)], []⟩)], [], [some [.sl 3], some [.int .i64]], [], [], []⟩
set_option maxRecDepth 100000 in
def RLex.W (s1 : ByteArray) (K : List V → Prop) : Prop :=
 (bif (decide ((s1.size : Int) > (16384 : Int))) then
 (K [(.sl 3 []), (.int .i64 4)])
 else
 (PCalls ax 61 [(.str s1)] fun r5 => ∃ (l2 : List (List V)) (l3 : List (List V)) (b4 : Bool), r5 = [(.sl 1 l2), (.sl 3 l3), (.bool b4)] ∧ (bif (!b4) then
 (K [(.sl 3 []), (.int .i64 1)])
 else
 (K [(.sl 3 l3), (.int .i64 0)]))))
set_option maxRecDepth 100000 in
theorem RLex.eq (s1 : ByteArray) (K : List V → Prop) : RLex.W s1 K = afn ax RLex.ah Tryz.f49 [(.str s1)] [] (onlyV K) := by kernel_rfl
theorem RLex.ok : codeOk tys (hintsOf RLex.ah) Tryz.f49.ntmps (Tryz.f49.body.getD .skip) = true := by kernel_rfl
set_option maxHeartbeats 4000000 in
theorem RLex.calls {s1 K} (h : RLex.W s1 K) : PCalls ax 49 [(.str s1)] K :=
  afn_run (ah := RLex.ah) tysOk fnsOk follows eqOk Tryz.func49 (by kernel_rfl) RLex.ok (by kernel_rfl) (Eq.mp (RLex.eq s1 K) h)
/-! ### pterm: function 34, (*augur/parse.parser).term -/
def pterm.ah : AH := ⟨[], [], [], [(44, ⟨[none, some [.int .i64]], [], [.box [.d (.sl 3), .d (.int .i64)]]⟩), (45, ⟨[none], [.ag [.int .i64, .str, .int .i64]], [.box [.d (.sl 3), .d (.int .i64)]]⟩), (46, ⟨[none], [.c (.str)], [.box [.d (.sl 3), .d (.int .i64)]]⟩), (47, ⟨[none, none], [.c (.sl 4)], [.box [.d (.sl 3), .d (.int .i64)], .box [.l (.ptr 0 0)], .box [.d (.int .i64)]]⟩)], [], [some [.int .i64, .str, .int .i64, .sl 4]], [], [], []⟩
set_option maxRecDepth 100000 in
def pterm.W (n1 : Int) (tk : List (List V)) (pos : Int) (K : List V → List Ob → Prop) (T : Nat → List V → List Ob → Prop) : Prop :=
 (SCallsT ax 44 [(.ptr 0 0), (.int .i64 n1)] [(.box [(.sl 3 tk), (.int .i64 pos)])] (fun r11 o14 => ∃ (l12 : List (List V)) (n13 : Int), r11 = [] ∧ o14 = [(.box [(.sl 3 l12), (.int .i64 n13)])] ∧ (SCalls ax 45 [(.ptr 0 0)] [(.box [(.sl 3 l12), (.int .i64 n13)])] fun r30 o33 => ∃ (n27 : Int) (s28 : ByteArray) (n29 : Int) (l31 : List (List V)) (n32 : Int), r30 = [(.agg [(.int .i64 n27), (.str s28), (.int .i64 n29)])] ∧ o33 = [(.box [(.sl 3 l31), (.int .i64 n32)])] ∧ (bif (n27 == (2 : Int)) then
 (K [(.agg [(.int .i64 1), (.str s28), (.int .i64 0), (.sl 4 [])])] [(.box [(.sl 3 l31), (.int .i64 (IntKind.i64.wrap (n32 + 1)))])])
 else
 (bif (n27 == (3 : Int)) then
 (K [(.agg [(.int .i64 2), (.str (⟨#[]⟩ : ByteArray)), (.int .i64 n29), (.sl 4 [])])] [(.box [(.sl 3 l31), (.int .i64 (IntKind.i64.wrap (n32 + 1)))])])
 else
 (SCallsT ax 46 [(.ptr 0 0)] [(.box [(.sl 3 l31), (.int .i64 n32)])] (fun r35 o38 => ∃ (s34 : ByteArray) (l36 : List (List V)) (n37 : Int), r35 = [(.str s34)] ∧ o38 = [(.box [(.sl 3 l36), (.int .i64 n37)])] ∧ (SCallsT ax 47 [(.ptr 0 0), (.fn 48 [] [(.ptr 1 0), (.ptr 2 0)])] [(.box [(.sl 3 l36), (.int .i64 n37)]), (.box [(.ptr 0 0)]), (.box [(.int .i64 n1)])] (fun r45 o49 => ∃ (l44 : List (List V)) (l46 : List (List V)) (n47 : Int) (n48 : Int), r45 = [(.sl 4 l44)] ∧ o49 = [(.box [(.sl 3 l46), (.int .i64 n47)]), (.box [(.ptr 0 0)]), (.box [(.int .i64 n48)])] ∧ (K [(.agg [(.int .i64 3), (.str s34), (.int .i64 0), (.sl 4 l44)])] [(.box [(.sl 3 l46), (.int .i64 n47)])])) (fun t53 u54 o55 => ∃ (l50 : List (List V)) (n51 : Int) (n52 : Int), o55 = [(.box [(.sl 3 l50), (.int .i64 n51)]), (.box [(.ptr 0 0)]), (.box [(.int .i64 n52)])] ∧ (T t53 u54 [(.box [(.sl 3 l50), (.int .i64 n51)])])))) (fun t41 u42 o43 => ∃ (l39 : List (List V)) (n40 : Int), o43 = [(.box [(.sl 3 l39), (.int .i64 n40)])] ∧ (T t41 u42 [(.box [(.sl 3 l39), (.int .i64 n40)])]))))))) (fun t17 u18 o19 => ∃ (l15 : List (List V)) (n16 : Int), o19 = [(.box [(.sl 3 l15), (.int .i64 n16)])] ∧ (T t17 u18 [(.box [(.sl 3 l15), (.int .i64 n16)])])))
set_option maxRecDepth 100000 in
theorem pterm.eq (n1 : Int) (tk : List (List V)) (pos : Int) (K : List V → List Ob → Prop) (T : Nat → List V → List Ob → Prop) : pterm.W n1 tk pos K T = afn (ax.thr 1 T) pterm.ah Tryz.f34 [(.ptr 0 0), (.int .i64 n1)] [(.box [(.sl 3 tk), (.int .i64 pos)])] K := by kernel_rfl
theorem pterm.ok : codeOk tys (hintsOf pterm.ah) Tryz.f34.ntmps (Tryz.f34.body.getD .skip) = true := by kernel_rfl
set_option maxHeartbeats 4000000 in
theorem pterm.calls {n1 tk pos K T} (h : pterm.W n1 tk pos K T) : SCallsT ax 34 [(.ptr 0 0), (.int .i64 n1)] [(.box [(.sl 3 tk), (.int .i64 pos)])] K T :=
  afn_runT (ah := pterm.ah) tysOk fnsOk follows eqOk Tryz.func34 (by kernel_rfl) pterm.ok (by kernel_rfl) (Eq.mp (pterm.eq n1 tk pos K T) h)
/-! ### give: function 43, (*augur/parse.parser).give -/
def give.ah : AH := ⟨[], [], [], [], [], [], [], [], []⟩
set_option maxRecDepth 100000 in
def give.W (x1 : Option Nat) (tk : List (List V)) (pos : Int) (_K : List V → List Ob → Prop) (T : Nat → List V → List Ob → Prop) : Prop :=
 (T 87 [(.err x1)] [(.box [(.sl 3 tk), (.int .i64 pos)])])
set_option maxRecDepth 100000 in
theorem give.eq (x1 : Option Nat) (tk : List (List V)) (pos : Int) (K : List V → List Ob → Prop) (T : Nat → List V → List Ob → Prop) : give.W x1 tk pos K T = afn (ax.thr 1 T) give.ah Tryz.f43 [(.ptr 0 0), (.err x1)] [(.box [(.sl 3 tk), (.int .i64 pos)])] K := by kernel_rfl
theorem give.ok : codeOk tys (hintsOf give.ah) Tryz.f43.ntmps (Tryz.f43.body.getD .skip) = true := by kernel_rfl
set_option maxHeartbeats 4000000 in
theorem give.calls {x1 tk pos K T} (h : give.W x1 tk pos K T) : SCallsT ax 43 [(.ptr 0 0), (.err x1)] [(.box [(.sl 3 tk), (.int .i64 pos)])] K T :=
  afn_runT (ah := give.ah) tysOk fnsOk follows eqOk Tryz.func43 (by kernel_rfl) give.ok (by kernel_rfl) (Eq.mp (give.eq x1 tk pos K T) h)
/-! ### deeper: function 44, (*augur/parse.parser).deeper -/
def deeper.ah : AH := ⟨[(0, seqO [0, 1, 2, 3, 4, 5, 6, 7, 8, 9, 10, 11, 12, 13])], [], [], [(43, ⟨[none, some [.err]], [], [.box [.d (.sl 3), .d (.int .i64)]]⟩)], [], [], [], [], []⟩
set_option maxRecDepth 100000 in
def deeper.W (n1 : Int) (tk : List (List V)) (pos : Int) (K : List V → List Ob → Prop) (T : Nat → List V → List Ob → Prop) : Prop :=
 (bif (decide (n1 > (64 : Int))) then (bif (decide (pos < (List.length tk : Int))) then
 (SCallsT ax 43 [(.ptr 0 0), (.err (some 4))] [(.box [(.sl 3 tk), (.int .i64 pos)])] (fun r2 o5 => ∃ (l3 : List (List V)) (n4 : Int), r2 = [] ∧ o5 = [(.box [(.sl 3 l3), (.int .i64 n4)])] ∧ (K [] [(.box [(.sl 3 l3), (.int .i64 n4)])])) (fun t8 u9 o10 => ∃ (l6 : List (List V)) (n7 : Int), o10 = [(.box [(.sl 3 l6), (.int .i64 n7)])] ∧ (T t8 u9 [(.box [(.sl 3 l6), (.int .i64 n7)])])))
 else
 (K [] [(.box [(.sl 3 tk), (.int .i64 pos)])])) else (K [] [(.box [(.sl 3 tk), (.int .i64 pos)])]))
set_option maxRecDepth 100000 in
theorem deeper.eq (n1 : Int) (tk : List (List V)) (pos : Int) (K : List V → List Ob → Prop) (T : Nat → List V → List Ob → Prop) : deeper.W n1 tk pos K T = afn (ax.thr 1 T) deeper.ah Tryz.f44 [(.ptr 0 0), (.int .i64 n1)] [(.box [(.sl 3 tk), (.int .i64 pos)])] K := by kernel_rfl
theorem deeper.ok : codeOk tys (hintsOf deeper.ah) Tryz.f44.ntmps (Tryz.f44.body.getD .skip) = true := by kernel_rfl
set_option maxHeartbeats 4000000 in
theorem deeper.calls {n1 tk pos K T} (h : deeper.W n1 tk pos K T) : SCallsT ax 44 [(.ptr 0 0), (.int .i64 n1)] [(.box [(.sl 3 tk), (.int .i64 pos)])] K T :=
  afn_runT (ah := deeper.ah) tysOk fnsOk follows eqOk Tryz.func44 (by kernel_rfl) deeper.ok (by kernel_rfl) (Eq.mp (deeper.eq n1 tk pos K T) h)
/-! ### peek: function 45, (*augur/parse.parser).peek -/
def peek.ah : AH := ⟨[(1, seqO [0, 1, 2, 3, 4, 5, 6, 7, 8, 9]), (2, seqO [0, 1, 2, 3, 4, 5, 6, 7, 8, 9, 10])], [], [], [], [], [some [.int .i64, .str, .int .i64]], [], [], []⟩
set_option maxRecDepth 100000 in
def peek.W (tk : List (List V)) (pos : Int) (K : List V → List Ob → Prop) : Prop :=
 (bif (decide (pos < (List.length tk : Int))) then
 (0 ≤ pos ∧ pos < (List.length tk : Int) ∧ (∃ (n1 : Int) (s2 : ByteArray) (n3 : Int), List.take 3 (Av.rowAt tk (pos : Int).toNat) = [(.int .i64 n1), (.str s2), (.int .i64 n3)] ∧ (K [(.agg [(.int .i64 n1), (.str s2), (.int .i64 n3)])] [(.box [(.sl 3 tk), (.int .i64 pos)])])))
 else
 (K [(.agg [(.int .i64 0), (.str (⟨#[]⟩ : ByteArray)), (.int .i64 0)])] [(.box [(.sl 3 tk), (.int .i64 pos)])]))
set_option maxRecDepth 100000 in
theorem peek.eq (tk : List (List V)) (pos : Int) (K : List V → List Ob → Prop) : peek.W tk pos K = afn ax peek.ah Tryz.f45 [(.ptr 0 0)] [(.box [(.sl 3 tk), (.int .i64 pos)])] K := by kernel_rfl
theorem peek.ok : codeOk tys (hintsOf peek.ah) Tryz.f45.ntmps (Tryz.f45.body.getD .skip) = true := by kernel_rfl
set_option maxHeartbeats 4000000 in
theorem peek.calls {tk pos K} (h : peek.W tk pos K) : SCalls ax 45 [(.ptr 0 0)] [(.box [(.sl 3 tk), (.int .i64 pos)])] K :=
  afn_run (ah := peek.ah) tysOk fnsOk follows eqOk Tryz.func45 (by kernel_rfl) peek.ok (by kernel_rfl) (Eq.mp (peek.eq tk pos K) h)
/-! ### pname: function 46, (*augur/parse.parser).name -/
def pname.ah : AH := ⟨[], [], [], [(43, ⟨[none, some [.err]], [], [.box [.d (.sl 3), .d (.int .i64)]]⟩), (45, ⟨[none], [.ag [.int .i64, .str, .int .i64]], [.box [.d (.sl 3), .d (.int .i64)]]⟩), (58, ⟨[some [.str]], [.c (.bool)], []⟩)], [], [some [.str]], [], [], []⟩
set_option maxRecDepth 100000 in
def pname.W (tk : List (List V)) (pos : Int) (K : List V → List Ob → Prop) (T : Nat → List V → List Ob → Prop) : Prop :=
 (SCalls ax 45 [(.ptr 0 0)] [(.box [(.sl 3 tk), (.int .i64 pos)])] fun r11 o14 => ∃ (n8 : Int) (s9 : ByteArray) (n10 : Int) (l12 : List (List V)) (n13 : Int), r11 = [(.agg [(.int .i64 n8), (.str s9), (.int .i64 n10)])] ∧ o14 = [(.box [(.sl 3 l12), (.int .i64 n13)])] ∧ (bif (n8 != (1 : Int)) then (SCallsT ax 43 [(.ptr 0 0), (.err (some 3))] [(.box [(.sl 3 l12), (.int .i64 n13)])] (fun r15 o18 => ∃ (l16 : List (List V)) (n17 : Int), r15 = [] ∧ o18 = [(.box [(.sl 3 l16), (.int .i64 n17)])] ∧ (K [(.str s9)] [(.box [(.sl 3 l16), (.int .i64 (IntKind.i64.wrap (n17 + 1)))])])) (fun t21 u22 o23 => ∃ (l19 : List (List V)) (n20 : Int), o23 = [(.box [(.sl 3 l19), (.int .i64 n20)])] ∧ (T t21 u22 [(.box [(.sl 3 l19), (.int .i64 n20)])]))) else (PCalls ax 58 [(.str s9)] fun r25 => ∃ (b24 : Bool), r25 = [(.bool b24)] ∧ (bif b24 then
 (SCallsT ax 43 [(.ptr 0 0), (.err (some 3))] [(.box [(.sl 3 l12), (.int .i64 n13)])] (fun r26 o29 => ∃ (l27 : List (List V)) (n28 : Int), r26 = [] ∧ o29 = [(.box [(.sl 3 l27), (.int .i64 n28)])] ∧ (K [(.str s9)] [(.box [(.sl 3 l27), (.int .i64 (IntKind.i64.wrap (n28 + 1)))])])) (fun t32 u33 o34 => ∃ (l30 : List (List V)) (n31 : Int), o34 = [(.box [(.sl 3 l30), (.int .i64 n31)])] ∧ (T t32 u33 [(.box [(.sl 3 l30), (.int .i64 n31)])])))
 else
 (K [(.str s9)] [(.box [(.sl 3 l12), (.int .i64 (IntKind.i64.wrap (n13 + 1)))])])))))
set_option maxRecDepth 100000 in
theorem pname.eq (tk : List (List V)) (pos : Int) (K : List V → List Ob → Prop) (T : Nat → List V → List Ob → Prop) : pname.W tk pos K T = afn (ax.thr 1 T) pname.ah Tryz.f46 [(.ptr 0 0)] [(.box [(.sl 3 tk), (.int .i64 pos)])] K := by kernel_rfl
theorem pname.ok : codeOk tys (hintsOf pname.ah) Tryz.f46.ntmps (Tryz.f46.body.getD .skip) = true := by kernel_rfl
set_option maxHeartbeats 4000000 in
theorem pname.calls {tk pos K T} (h : pname.W tk pos K T) : SCallsT ax 46 [(.ptr 0 0)] [(.box [(.sl 3 tk), (.int .i64 pos)])] K T :=
  afn_runT (ah := pname.ah) tysOk fnsOk follows eqOk Tryz.func46 (by kernel_rfl) pname.ok (by kernel_rfl) (Eq.mp (pname.eq tk pos K T) h)
/-! ### row: function 47, augur/parse.row[augur/api.Term] -/
def row.ah : AH := ⟨[(4, seqO [0, 1, 2, 3, 4, 5, 6, 7, 8, 9, 10, 11, 12, 13, 14])], [(4, ⟨[(5, [.nw 48 4 false], false)], [(0, [.d (.sl 3), .d (.int .i64)]), (1, [.l (.ptr 0 0)]), (2, [.d (.int .i64)])], [], []⟩)], [], [(43, ⟨[none, some [.err]], [], [.box [.d (.sl 3), .d (.int .i64)]]⟩), (48, ⟨[none, none], [.ag [.int .i64, .str, .int .i64, .sl 4]], [.box [.l (.ptr 1 0)], .box [.d (.sl 3), .d (.int .i64)], .box [.d (.int .i64)]]⟩), (59, ⟨[none, some [.str]], [.c (.bool)], [.box [.d (.sl 3), .d (.int .i64)]]⟩), (60, ⟨[none, some [.str]], [], [.box [.d (.sl 3), .d (.int .i64)]]⟩)], [], [some [.sl 4]], [], [], []⟩
set_option maxRecDepth 100000 in
def row.W (tk : List (List V)) (pos : Int) (nest : Int) (K : List V → List Ob → Prop) (T : Nat → List V → List Ob → Prop) : Prop :=
 (SCalls ax 59 [(.ptr 0 0), (.str (⟨#[40]⟩ : ByteArray))] [(.box [(.sl 3 tk), (.int .i64 pos)])] fun r7 o10 => ∃ (b6 : Bool) (l8 : List (List V)) (n9 : Int), r7 = [(.bool b6)] ∧ o10 = [(.box [(.sl 3 l8), (.int .i64 n9)])] ∧ (bif (!b6) then
 (K [(.sl 4 [])] [(.box [(.sl 3 l8), (.int .i64 n9)]), (.box [(.ptr 0 0)]), (.box [(.int .i64 nest)])])
 else
 (∃ (I208 : List V → Prop) (μ209 : List V → Nat), I208 [(.sl 4 []), (.sl 3 l8), (.int .i64 n9), (.int .i64 nest)] ∧ (∀ (l210 : List (List V)) (l211 : List (List V)) (n212 : Int) (n213 : Int), I208 [(.sl 4 l210), (.sl 3 l211), (.int .i64 n212), (.int .i64 n213)] →
 (bif ((List.length l210 : Int) == (8 : Int)) then (bif (decide (n212 < (List.length l211 : Int))) then
 (SCallsT ax 43 [(.ptr 0 0), (.err (some 0))] [(.box [(.sl 3 l211), (.int .i64 n212)])] (fun r214 o217 => ∃ (l215 : List (List V)) (n216 : Int), r214 = [] ∧ o217 = [(.box [(.sl 3 l215), (.int .i64 n216)])] ∧ (SCallsT ax 48 [(.ptr 0 0), (.ptr 2 0)] [(.box [(.ptr 1 0)]), (.box [(.sl 3 l215), (.int .i64 n216)]), (.box [(.int .i64 n213)])] (fun r227 o231 => ∃ (n223 : Int) (s224 : ByteArray) (n225 : Int) (l226 : List (List V)) (l228 : List (List V)) (n229 : Int) (n230 : Int), r227 = [(.agg [(.int .i64 n223), (.str s224), (.int .i64 n225), (.sl 4 l226)])] ∧ o231 = [(.box [(.ptr 1 0)]), (.box [(.sl 3 l228), (.int .i64 n229)]), (.box [(.int .i64 n230)])] ∧ (((List.length l210) + (List.length ([[(.int .i64 n223), (.str s224), (.int .i64 n225), (.sl 4 l226)]] : List (List V)))) * 56 ≤ 140737488355328 ∧ (List.length l210) + (List.length ([[(.int .i64 n223), (.str s224), (.int .i64 n225), (.sl 4 l226)]] : List (List V))) ≤ 140737488355328 ∧ (SCalls ax 59 [(.ptr 0 0), (.str (⟨#[41]⟩ : ByteArray))] [(.box [(.sl 3 l228), (.int .i64 n229)])] fun r239 o242 => ∃ (b238 : Bool) (l240 : List (List V)) (n241 : Int), r239 = [(.bool b238)] ∧ o242 = [(.box [(.sl 3 l240), (.int .i64 n241)])] ∧ (bif b238 then
 (K [(.sl 4 (l210 ++ [[(.int .i64 n223), (.str s224), (.int .i64 n225), (.sl 4 l226)]]))] [(.box [(.sl 3 l240), (.int .i64 n241)]), (.box [(.ptr 0 0)]), (.box [(.int .i64 n230)])])
 else
 (SCallsT ax 60 [(.ptr 0 0), (.str (⟨#[44]⟩ : ByteArray))] [(.box [(.sl 3 l240), (.int .i64 n241)])] (fun r243 o246 => ∃ (l244 : List (List V)) (n245 : Int), r243 = [] ∧ o246 = [(.box [(.sl 3 l244), (.int .i64 n245)])] ∧ (I208 [(.sl 4 (l210 ++ [[(.int .i64 n223), (.str s224), (.int .i64 n225), (.sl 4 l226)]])), (.sl 3 l244), (.int .i64 n245), (.int .i64 n230)] ∧ μ209 [(.sl 4 (l210 ++ [[(.int .i64 n223), (.str s224), (.int .i64 n225), (.sl 4 l226)]])), (.sl 3 l244), (.int .i64 n245), (.int .i64 n230)] < μ209 [(.sl 4 l210), (.sl 3 l211), (.int .i64 n212), (.int .i64 n213)])) (fun t249 u250 o251 => ∃ (l247 : List (List V)) (n248 : Int), o251 = [(.box [(.sl 3 l247), (.int .i64 n248)])] ∧ (T t249 u250 [(.box [(.sl 3 l247), (.int .i64 n248)]), (.box [(.ptr 0 0)]), (.box [(.int .i64 n230)])]))))))) (fun t235 u236 o237 => ∃ (l232 : List (List V)) (n233 : Int) (n234 : Int), o237 = [(.box [(.ptr 1 0)]), (.box [(.sl 3 l232), (.int .i64 n233)]), (.box [(.int .i64 n234)])] ∧ (T t235 u236 [(.box [(.sl 3 l232), (.int .i64 n233)]), (.box [(.ptr 0 0)]), (.box [(.int .i64 n234)])])))) (fun t220 u221 o222 => ∃ (l218 : List (List V)) (n219 : Int), o222 = [(.box [(.sl 3 l218), (.int .i64 n219)])] ∧ (T t220 u221 [(.box [(.sl 3 l218), (.int .i64 n219)]), (.box [(.ptr 0 0)]), (.box [(.int .i64 n213)])])))
 else
 (SCallsT ax 48 [(.ptr 0 0), (.ptr 2 0)] [(.box [(.ptr 1 0)]), (.box [(.sl 3 l211), (.int .i64 n212)]), (.box [(.int .i64 n213)])] (fun r256 o260 => ∃ (n252 : Int) (s253 : ByteArray) (n254 : Int) (l255 : List (List V)) (l257 : List (List V)) (n258 : Int) (n259 : Int), r256 = [(.agg [(.int .i64 n252), (.str s253), (.int .i64 n254), (.sl 4 l255)])] ∧ o260 = [(.box [(.ptr 1 0)]), (.box [(.sl 3 l257), (.int .i64 n258)]), (.box [(.int .i64 n259)])] ∧ (((List.length l210) + (List.length ([[(.int .i64 n252), (.str s253), (.int .i64 n254), (.sl 4 l255)]] : List (List V)))) * 56 ≤ 140737488355328 ∧ (List.length l210) + (List.length ([[(.int .i64 n252), (.str s253), (.int .i64 n254), (.sl 4 l255)]] : List (List V))) ≤ 140737488355328 ∧ (SCalls ax 59 [(.ptr 0 0), (.str (⟨#[41]⟩ : ByteArray))] [(.box [(.sl 3 l257), (.int .i64 n258)])] fun r268 o271 => ∃ (b267 : Bool) (l269 : List (List V)) (n270 : Int), r268 = [(.bool b267)] ∧ o271 = [(.box [(.sl 3 l269), (.int .i64 n270)])] ∧ (bif b267 then
 (K [(.sl 4 (l210 ++ [[(.int .i64 n252), (.str s253), (.int .i64 n254), (.sl 4 l255)]]))] [(.box [(.sl 3 l269), (.int .i64 n270)]), (.box [(.ptr 0 0)]), (.box [(.int .i64 n259)])])
 else
 (SCallsT ax 60 [(.ptr 0 0), (.str (⟨#[44]⟩ : ByteArray))] [(.box [(.sl 3 l269), (.int .i64 n270)])] (fun r272 o275 => ∃ (l273 : List (List V)) (n274 : Int), r272 = [] ∧ o275 = [(.box [(.sl 3 l273), (.int .i64 n274)])] ∧ (I208 [(.sl 4 (l210 ++ [[(.int .i64 n252), (.str s253), (.int .i64 n254), (.sl 4 l255)]])), (.sl 3 l273), (.int .i64 n274), (.int .i64 n259)] ∧ μ209 [(.sl 4 (l210 ++ [[(.int .i64 n252), (.str s253), (.int .i64 n254), (.sl 4 l255)]])), (.sl 3 l273), (.int .i64 n274), (.int .i64 n259)] < μ209 [(.sl 4 l210), (.sl 3 l211), (.int .i64 n212), (.int .i64 n213)])) (fun t278 u279 o280 => ∃ (l276 : List (List V)) (n277 : Int), o280 = [(.box [(.sl 3 l276), (.int .i64 n277)])] ∧ (T t278 u279 [(.box [(.sl 3 l276), (.int .i64 n277)]), (.box [(.ptr 0 0)]), (.box [(.int .i64 n259)])]))))))) (fun t264 u265 o266 => ∃ (l261 : List (List V)) (n262 : Int) (n263 : Int), o266 = [(.box [(.ptr 1 0)]), (.box [(.sl 3 l261), (.int .i64 n262)]), (.box [(.int .i64 n263)])] ∧ (T t264 u265 [(.box [(.sl 3 l261), (.int .i64 n262)]), (.box [(.ptr 0 0)]), (.box [(.int .i64 n263)])])))) else (SCallsT ax 48 [(.ptr 0 0), (.ptr 2 0)] [(.box [(.ptr 1 0)]), (.box [(.sl 3 l211), (.int .i64 n212)]), (.box [(.int .i64 n213)])] (fun r285 o289 => ∃ (n281 : Int) (s282 : ByteArray) (n283 : Int) (l284 : List (List V)) (l286 : List (List V)) (n287 : Int) (n288 : Int), r285 = [(.agg [(.int .i64 n281), (.str s282), (.int .i64 n283), (.sl 4 l284)])] ∧ o289 = [(.box [(.ptr 1 0)]), (.box [(.sl 3 l286), (.int .i64 n287)]), (.box [(.int .i64 n288)])] ∧ (((List.length l210) + (List.length ([[(.int .i64 n281), (.str s282), (.int .i64 n283), (.sl 4 l284)]] : List (List V)))) * 56 ≤ 140737488355328 ∧ (List.length l210) + (List.length ([[(.int .i64 n281), (.str s282), (.int .i64 n283), (.sl 4 l284)]] : List (List V))) ≤ 140737488355328 ∧ (SCalls ax 59 [(.ptr 0 0), (.str (⟨#[41]⟩ : ByteArray))] [(.box [(.sl 3 l286), (.int .i64 n287)])] fun r297 o300 => ∃ (b296 : Bool) (l298 : List (List V)) (n299 : Int), r297 = [(.bool b296)] ∧ o300 = [(.box [(.sl 3 l298), (.int .i64 n299)])] ∧ (bif b296 then
 (K [(.sl 4 (l210 ++ [[(.int .i64 n281), (.str s282), (.int .i64 n283), (.sl 4 l284)]]))] [(.box [(.sl 3 l298), (.int .i64 n299)]), (.box [(.ptr 0 0)]), (.box [(.int .i64 n288)])])
 else
 (SCallsT ax 60 [(.ptr 0 0), (.str (⟨#[44]⟩ : ByteArray))] [(.box [(.sl 3 l298), (.int .i64 n299)])] (fun r301 o304 => ∃ (l302 : List (List V)) (n303 : Int), r301 = [] ∧ o304 = [(.box [(.sl 3 l302), (.int .i64 n303)])] ∧ (I208 [(.sl 4 (l210 ++ [[(.int .i64 n281), (.str s282), (.int .i64 n283), (.sl 4 l284)]])), (.sl 3 l302), (.int .i64 n303), (.int .i64 n288)] ∧ μ209 [(.sl 4 (l210 ++ [[(.int .i64 n281), (.str s282), (.int .i64 n283), (.sl 4 l284)]])), (.sl 3 l302), (.int .i64 n303), (.int .i64 n288)] < μ209 [(.sl 4 l210), (.sl 3 l211), (.int .i64 n212), (.int .i64 n213)])) (fun t307 u308 o309 => ∃ (l305 : List (List V)) (n306 : Int), o309 = [(.box [(.sl 3 l305), (.int .i64 n306)])] ∧ (T t307 u308 [(.box [(.sl 3 l305), (.int .i64 n306)]), (.box [(.ptr 0 0)]), (.box [(.int .i64 n288)])]))))))) (fun t293 u294 o295 => ∃ (l290 : List (List V)) (n291 : Int) (n292 : Int), o295 = [(.box [(.ptr 1 0)]), (.box [(.sl 3 l290), (.int .i64 n291)]), (.box [(.int .i64 n292)])] ∧ (T t293 u294 [(.box [(.sl 3 l290), (.int .i64 n291)]), (.box [(.ptr 0 0)]), (.box [(.int .i64 n292)])]))))))))
set_option maxRecDepth 100000 in
theorem row.eq (tk : List (List V)) (pos : Int) (nest : Int) (K : List V → List Ob → Prop) (T : Nat → List V → List Ob → Prop) : row.W tk pos nest K T = afn (ax.thr 3 T) row.ah Tryz.f47 [(.ptr 0 0), (.fn 48 [] [(.ptr 1 0), (.ptr 2 0)])] [(.box [(.sl 3 tk), (.int .i64 pos)]), (.box [(.ptr 0 0)]), (.box [(.int .i64 nest)])] K := by kernel_rfl
theorem row.ok : codeOk tys (hintsOf row.ah) Tryz.f47.ntmps (Tryz.f47.body.getD .skip) = true := by kernel_rfl
set_option maxHeartbeats 4000000 in
theorem row.calls {tk pos nest K T} (h : row.W tk pos nest K T) : SCallsT ax 47 [(.ptr 0 0), (.fn 48 [] [(.ptr 1 0), (.ptr 2 0)])] [(.box [(.sl 3 tk), (.int .i64 pos)]), (.box [(.ptr 0 0)]), (.box [(.int .i64 nest)])] K T :=
  afn_runT (ah := row.ah) tysOk fnsOk follows eqOk Tryz.func47 (by kernel_rfl) row.ok (by kernel_rfl) (Eq.mp (row.eq tk pos nest K T) h)
/-! ### one: function 48, (*augur/parse.parser).term$1 -/
def one.ah : AH := ⟨[], [], [], [(34, ⟨[none, some [.int .i64]], [.ag [.int .i64, .str, .int .i64, .sl 4]], [.box [.d (.sl 3), .d (.int .i64)]]⟩)], [], [some [.int .i64, .str, .int .i64, .sl 4]], [], [], []⟩
set_option maxRecDepth 100000 in
def one.W (tk : List (List V)) (pos : Int) (nest : Int) (K : List V → List Ob → Prop) (T : Nat → List V → List Ob → Prop) : Prop :=
 (SCallsT ax 34 [(.ptr 0 0), (.int .i64 (IntKind.i64.wrap (nest + 1)))] [(.box [(.sl 3 tk), (.int .i64 pos)])] (fun r5 o8 => ∃ (n1 : Int) (s2 : ByteArray) (n3 : Int) (l4 : List (List V)) (l6 : List (List V)) (n7 : Int), r5 = [(.agg [(.int .i64 n1), (.str s2), (.int .i64 n3), (.sl 4 l4)])] ∧ o8 = [(.box [(.sl 3 l6), (.int .i64 n7)])] ∧ (K [(.agg [(.int .i64 n1), (.str s2), (.int .i64 n3), (.sl 4 l4)])] [(.box [(.ptr 1 0)]), (.box [(.sl 3 l6), (.int .i64 n7)]), (.box [(.int .i64 nest)])])) (fun t11 u12 o13 => ∃ (l9 : List (List V)) (n10 : Int), o13 = [(.box [(.sl 3 l9), (.int .i64 n10)])] ∧ (T t11 u12 [(.box [(.ptr 1 0)]), (.box [(.sl 3 l9), (.int .i64 n10)]), (.box [(.int .i64 nest)])])))
set_option maxRecDepth 100000 in
theorem one.eq (tk : List (List V)) (pos : Int) (nest : Int) (K : List V → List Ob → Prop) (T : Nat → List V → List Ob → Prop) : one.W tk pos nest K T = afn (ax.thr 3 T) one.ah Tryz.f48 [(.ptr 0 0), (.ptr 2 0)] [(.box [(.ptr 1 0)]), (.box [(.sl 3 tk), (.int .i64 pos)]), (.box [(.int .i64 nest)])] K := by kernel_rfl
theorem one.ok : codeOk tys (hintsOf one.ah) Tryz.f48.ntmps (Tryz.f48.body.getD .skip) = true := by kernel_rfl
set_option maxHeartbeats 4000000 in
theorem one.calls {tk pos nest K T} (h : one.W tk pos nest K T) : SCallsT ax 48 [(.ptr 0 0), (.ptr 2 0)] [(.box [(.ptr 1 0)]), (.box [(.sl 3 tk), (.int .i64 pos)]), (.box [(.int .i64 nest)])] K T :=
  afn_runT (ah := one.ah) tysOk fnsOk follows eqOk Tryz.func48 (by kernel_rfl) one.ok (by kernel_rfl) (Eq.mp (one.eq tk pos nest K T) h)
/-! ### accept: function 59, (*augur/parse.parser).accept -/
def accept.ah : AH := ⟨[], [], [], [(72, ⟨[none, some [.str]], [.c (.bool)], [.box [.d (.sl 3), .d (.int .i64)]]⟩)], [], [some [.bool]], [], [], []⟩
set_option maxRecDepth 100000 in
def accept.W (s1 : ByteArray) (tk : List (List V)) (pos : Int) (K : List V → List Ob → Prop) : Prop :=
 (SCalls ax 72 [(.ptr 0 0), (.str s1)] [(.box [(.sl 3 tk), (.int .i64 pos)])] fun r3 o6 => ∃ (b2 : Bool) (l4 : List (List V)) (n5 : Int), r3 = [(.bool b2)] ∧ o6 = [(.box [(.sl 3 l4), (.int .i64 n5)])] ∧ (bif b2 then
 (K [(.bool true)] [(.box [(.sl 3 l4), (.int .i64 (IntKind.i64.wrap (n5 + 1)))])])
 else
 (K [(.bool false)] [(.box [(.sl 3 l4), (.int .i64 n5)])])))
set_option maxRecDepth 100000 in
theorem accept.eq (s1 : ByteArray) (tk : List (List V)) (pos : Int) (K : List V → List Ob → Prop) : accept.W s1 tk pos K = afn ax accept.ah Tryz.f59 [(.ptr 0 0), (.str s1)] [(.box [(.sl 3 tk), (.int .i64 pos)])] K := by kernel_rfl
theorem accept.ok : codeOk tys (hintsOf accept.ah) Tryz.f59.ntmps (Tryz.f59.body.getD .skip) = true := by kernel_rfl
set_option maxHeartbeats 4000000 in
theorem accept.calls {s1 tk pos K} (h : accept.W s1 tk pos K) : SCalls ax 59 [(.ptr 0 0), (.str s1)] [(.box [(.sl 3 tk), (.int .i64 pos)])] K :=
  afn_run (ah := accept.ah) tysOk fnsOk follows eqOk Tryz.func59 (by kernel_rfl) accept.ok (by kernel_rfl) (Eq.mp (accept.eq s1 tk pos K) h)
/-! ### must: function 60, (*augur/parse.parser).must -/
def must.ah : AH := ⟨[], [], [], [(43, ⟨[none, some [.err]], [], [.box [.d (.sl 3), .d (.int .i64)]]⟩), (59, ⟨[none, some [.str]], [.c (.bool)], [.box [.d (.sl 3), .d (.int .i64)]]⟩)], [], [], [], [], []⟩
set_option maxRecDepth 100000 in
def must.W (s1 : ByteArray) (tk : List (List V)) (pos : Int) (K : List V → List Ob → Prop) (T : Nat → List V → List Ob → Prop) : Prop :=
 (SCalls ax 59 [(.ptr 0 0), (.str s1)] [(.box [(.sl 3 tk), (.int .i64 pos)])] fun r3 o6 => ∃ (b2 : Bool) (l4 : List (List V)) (n5 : Int), r3 = [(.bool b2)] ∧ o6 = [(.box [(.sl 3 l4), (.int .i64 n5)])] ∧ (bif (!b2) then
 (SCallsT ax 43 [(.ptr 0 0), (.err (some 3))] [(.box [(.sl 3 l4), (.int .i64 n5)])] (fun r7 o10 => ∃ (l8 : List (List V)) (n9 : Int), r7 = [] ∧ o10 = [(.box [(.sl 3 l8), (.int .i64 n9)])] ∧ (K [] [(.box [(.sl 3 l8), (.int .i64 n9)])])) (fun t13 u14 o15 => ∃ (l11 : List (List V)) (n12 : Int), o15 = [(.box [(.sl 3 l11), (.int .i64 n12)])] ∧ (T t13 u14 [(.box [(.sl 3 l11), (.int .i64 n12)])])))
 else
 (K [] [(.box [(.sl 3 l4), (.int .i64 n5)])])))
set_option maxRecDepth 100000 in
theorem must.eq (s1 : ByteArray) (tk : List (List V)) (pos : Int) (K : List V → List Ob → Prop) (T : Nat → List V → List Ob → Prop) : must.W s1 tk pos K T = afn (ax.thr 1 T) must.ah Tryz.f60 [(.ptr 0 0), (.str s1)] [(.box [(.sl 3 tk), (.int .i64 pos)])] K := by kernel_rfl
theorem must.ok : codeOk tys (hintsOf must.ah) Tryz.f60.ntmps (Tryz.f60.body.getD .skip) = true := by kernel_rfl
set_option maxHeartbeats 4000000 in
theorem must.calls {s1 tk pos K T} (h : must.W s1 tk pos K T) : SCallsT ax 60 [(.ptr 0 0), (.str s1)] [(.box [(.sl 3 tk), (.int .i64 pos)])] K T :=
  afn_runT (ah := must.ah) tysOk fnsOk follows eqOk Tryz.func60 (by kernel_rfl) must.ok (by kernel_rfl) (Eq.mp (must.eq s1 tk pos K T) h)
/-! ### stands: function 72, (*augur/parse.parser).stands -/
def stands.ah : AH := ⟨[], [], [], [(45, ⟨[none], [.ag [.int .i64, .str, .int .i64]], [.box [.d (.sl 3), .d (.int .i64)]]⟩)], [], [some [.bool]], [], [], []⟩
set_option maxRecDepth 100000 in
def stands.W (s1 : ByteArray) (tk : List (List V)) (pos : Int) (K : List V → List Ob → Prop) : Prop :=
 (SCalls ax 45 [(.ptr 0 0)] [(.box [(.sl 3 tk), (.int .i64 pos)])] fun r12 o15 => ∃ (n9 : Int) (s10 : ByteArray) (n11 : Int) (l13 : List (List V)) (n14 : Int), r12 = [(.agg [(.int .i64 n9), (.str s10), (.int .i64 n11)])] ∧ o15 = [(.box [(.sl 3 l13), (.int .i64 n14)])] ∧ (bif (strEq s10 s1) then (bif (n9 == (4 : Int)) then (K [(.bool true)] [(.box [(.sl 3 l13), (.int .i64 n14)])]) else (K [(.bool (n9 == (1 : Int)))] [(.box [(.sl 3 l13), (.int .i64 n14)])])) else (K [(.bool false)] [(.box [(.sl 3 l13), (.int .i64 n14)])])))
set_option maxRecDepth 100000 in
theorem stands.eq (s1 : ByteArray) (tk : List (List V)) (pos : Int) (K : List V → List Ob → Prop) : stands.W s1 tk pos K = afn ax stands.ah Tryz.f72 [(.ptr 0 0), (.str s1)] [(.box [(.sl 3 tk), (.int .i64 pos)])] K := by kernel_rfl
theorem stands.ok : codeOk tys (hintsOf stands.ah) Tryz.f72.ntmps (Tryz.f72.body.getD .skip) = true := by kernel_rfl
set_option maxHeartbeats 4000000 in
theorem stands.calls {s1 tk pos K} (h : stands.W s1 tk pos K) : SCalls ax 72 [(.ptr 0 0), (.str s1)] [(.box [(.sl 3 tk), (.int .i64 pos)])] K :=
  afn_run (ah := stands.ah) tysOk fnsOk follows eqOk Tryz.func72 (by kernel_rfl) stands.ok (by kernel_rfl) (Eq.mp (stands.eq s1 tk pos K) h)
/-! ### rterm: function 36, (*augur/augurref02.Reader).Term -/
def rterm.ah : AH := ⟨[(2, seqO [0, 1, 2, 3, 4, 5, 6, 7, 8, 9, 10, 11, 12, 13, 14, 15, 16]), (4, seqO [0, 1, 2, 3, 4, 5, 6, 7, 8, 9, 10, 11, 12, 13]), (5, seqO [0, 1, 2, 3, 4, 5, 6, 7, 8, 9, 10, 11, 12, 13, 14, 15, 16]), (7, seqO [0, 1, 2, 3, 4, 5, 6, 7, 8, 9, 10, 11, 12, 13]), (10, seqO [0, 1, 2, 3, 4, 5, 6, 7, 8, 9])], [(9, ⟨[], [(0, [.d (.sl 3), .d (.int .i64), .d (.int .i64)]), (2, [.d (.int .i64), .d (.str), .d (.int .i64), .nw 48 4 false])], [], []⟩)], [(3, ⟨[(25, [.d (.bool)], false)], [(0, [.d (.sl 3), .d (.int .i64), .d (.int .i64)])], [], []⟩), (6, ⟨[(62, [.d (.bool)], false)], [(0, [.d (.sl 3), .d (.int .i64), .d (.int .i64)])], [], []⟩)], [(36, ⟨[none, some [.int .i64]], [.ag [.int .i64, .str, .int .i64, .sl 4]], [.box [.d (.sl 3), .d (.int .i64), .d (.int .i64)]]⟩), (50, ⟨[none, some [.int .i64]], [], [.box [.d (.sl 3), .d (.int .i64), .d (.int .i64)]]⟩), (51, ⟨[none], [.c (.bool)], [.box [.d (.sl 3), .d (.int .i64), .d (.int .i64)]]⟩), (52, ⟨[none, some [.int .i64]], [.c (.str)], [.box [.d (.sl 3), .d (.int .i64), .d (.int .i64)]]⟩), (53, ⟨[none, some [.int .i64]], [.c (.bool)], [.box [.d (.sl 3), .d (.int .i64), .d (.int .i64)]]⟩)], [], [some [.int .i64, .str, .int .i64, .sl 4]], [], [], []⟩
set_option maxRecDepth 100000 in
def rterm.W (n1 : Int) (tk : List (List V)) (pos : Int) (er : Int) (K : List V → List Ob → Prop) : Prop :=
 (SCalls ax 50 [(.ptr 0 0), (.int .i64 n1)] [(.box [(.sl 3 tk), (.int .i64 pos), (.int .i64 er)])] fun r7 o11 => ∃ (l8 : List (List V)) (n9 : Int) (n10 : Int), r7 = [] ∧ o11 = [(.box [(.sl 3 l8), (.int .i64 n9), (.int .i64 n10)])] ∧ (∃ J39 : List V → Prop, (SCalls ax 51 [(.ptr 0 0)] [(.box [(.sl 3 l8), (.int .i64 n9), (.int .i64 n10)])] fun r41 o45 => ∃ (b40 : Bool) (l42 : List (List V)) (n43 : Int) (n44 : Int), r41 = [(.bool b40)] ∧ o45 = [(.box [(.sl 3 l42), (.int .i64 n43), (.int .i64 n44)])] ∧ (bif (!b40) then (0 ≤ n43 ∧ n43 < (List.length l42 : Int) ∧ (∃ (n46 : Int), List.take 1 (Av.rowAt l42 (n43 : Int).toNat) = [(.int .i64 n46)] ∧ (J39 [(.bool (n46 == (3 : Int))), (.sl 3 l42), (.int .i64 n43), (.int .i64 n44)]))) else (J39 [(.bool false), (.sl 3 l42), (.int .i64 n43), (.int .i64 n44)]))) ∧
 (∀ (b47 : Bool) (l48 : List (List V)) (n49 : Int) (n50 : Int), J39 [(.bool b47), (.sl 3 l48), (.int .i64 n49), (.int .i64 n50)] →
 (bif b47 then
 (0 ≤ (IntKind.i64.wrap ((IntKind.i64.wrap (n49 + 1)) - 1)) ∧ (IntKind.i64.wrap ((IntKind.i64.wrap (n49 + 1)) - 1)) < (List.length l48 : Int) ∧ (∃ (n51 : Int), List.take 1 (List.drop 2 (Av.rowAt l48 ((IntKind.i64.wrap ((IntKind.i64.wrap (n49 + 1)) - 1)) : Int).toNat)) = [(.int .i64 n51)] ∧ (K [(.agg [(.int .i64 2), (.str (⟨#[]⟩ : ByteArray)), (.int .i64 n51), (.sl 4 [])])] [(.box [(.sl 3 l48), (.int .i64 (IntKind.i64.wrap (n49 + 1))), (.int .i64 n50)])])))
 else
 (∃ J79 : List V → Prop, (SCalls ax 51 [(.ptr 0 0)] [(.box [(.sl 3 l48), (.int .i64 n49), (.int .i64 n50)])] fun r81 o85 => ∃ (b80 : Bool) (l82 : List (List V)) (n83 : Int) (n84 : Int), r81 = [(.bool b80)] ∧ o85 = [(.box [(.sl 3 l82), (.int .i64 n83), (.int .i64 n84)])] ∧ (bif (!b80) then (0 ≤ n83 ∧ n83 < (List.length l82 : Int) ∧ (∃ (n86 : Int), List.take 1 (Av.rowAt l82 (n83 : Int).toNat) = [(.int .i64 n86)] ∧ (J79 [(.bool (n86 == (2 : Int))), (.sl 3 l82), (.int .i64 n83), (.int .i64 n84)]))) else (J79 [(.bool false), (.sl 3 l82), (.int .i64 n83), (.int .i64 n84)]))) ∧
 (∀ (b87 : Bool) (l88 : List (List V)) (n89 : Int) (n90 : Int), J79 [(.bool b87), (.sl 3 l88), (.int .i64 n89), (.int .i64 n90)] →
 (bif b87 then
 (0 ≤ (IntKind.i64.wrap ((IntKind.i64.wrap (n89 + 1)) - 1)) ∧ (IntKind.i64.wrap ((IntKind.i64.wrap (n89 + 1)) - 1)) < (List.length l88 : Int) ∧ (∃ (s91 : ByteArray), List.take 1 (List.drop 1 (Av.rowAt l88 ((IntKind.i64.wrap ((IntKind.i64.wrap (n89 + 1)) - 1)) : Int).toNat)) = [(.str s91)] ∧ (K [(.agg [(.int .i64 1), (.str s91), (.int .i64 0), (.sl 4 [])])] [(.box [(.sl 3 l88), (.int .i64 (IntKind.i64.wrap (n89 + 1))), (.int .i64 n90)])])))
 else
 (SCalls ax 52 [(.ptr 0 0), (.int .i64 1)] [(.box [(.sl 3 l88), (.int .i64 n89), (.int .i64 n90)])] fun r99 o103 => ∃ (s98 : ByteArray) (l100 : List (List V)) (n101 : Int) (n102 : Int), r99 = [(.str s98)] ∧ o103 = [(.box [(.sl 3 l100), (.int .i64 n101), (.int .i64 n102)])] ∧ (∃ (I141 : List V → Prop) (μ142 : List V → Nat), I141 [(.sl 3 l100), (.int .i64 n101), (.int .i64 n102), (.int .i64 3), (.str s98), (.int .i64 0), (.sl 4 [])] ∧ (∀ (l143 : List (List V)) (n144 : Int) (n145 : Int) (n146 : Int) (s147 : ByteArray) (n148 : Int) (l149 : List (List V)), I141 [(.sl 3 l143), (.int .i64 n144), (.int .i64 n145), (.int .i64 n146), (.str s147), (.int .i64 n148), (.sl 4 l149)] →
 (bif (n145 == (0 : Int)) then (SCalls ax 53 [(.ptr 0 0), (.int .i64 (List.length l149 : Int))] [(.box [(.sl 3 l143), (.int .i64 n144), (.int .i64 n145)])] fun r151 o155 => ∃ (b150 : Bool) (l152 : List (List V)) (n153 : Int) (n154 : Int), r151 = [(.bool b150)] ∧ o155 = [(.box [(.sl 3 l152), (.int .i64 n153), (.int .i64 n154)])] ∧ (bif b150 then
 (SCalls ax 36 [(.ptr 0 0), (.int .i64 (IntKind.i64.wrap (n1 + 1)))] [(.box [(.sl 3 l152), (.int .i64 n153), (.int .i64 n154)])] fun r160 o164 => ∃ (n156 : Int) (s157 : ByteArray) (n158 : Int) (l159 : List (List V)) (l161 : List (List V)) (n162 : Int) (n163 : Int), r160 = [(.agg [(.int .i64 n156), (.str s157), (.int .i64 n158), (.sl 4 l159)])] ∧ o164 = [(.box [(.sl 3 l161), (.int .i64 n162), (.int .i64 n163)])] ∧ (((List.length l149) + (List.length ([[(.int .i64 n156), (.str s157), (.int .i64 n158), (.sl 4 l159)]] : List (List V)))) * 56 ≤ 140737488355328 ∧ (List.length l149) + (List.length ([[(.int .i64 n156), (.str s157), (.int .i64 n158), (.sl 4 l159)]] : List (List V))) ≤ 140737488355328 ∧ (I141 [(.sl 3 l161), (.int .i64 n162), (.int .i64 n163), (.int .i64 n146), (.str s147), (.int .i64 n148), (.sl 4 (l149 ++ [[(.int .i64 n156), (.str s157), (.int .i64 n158), (.sl 4 l159)]]))] ∧ μ142 [(.sl 3 l161), (.int .i64 n162), (.int .i64 n163), (.int .i64 n146), (.str s147), (.int .i64 n148), (.sl 4 (l149 ++ [[(.int .i64 n156), (.str s157), (.int .i64 n158), (.sl 4 l159)]]))] < μ142 [(.sl 3 l143), (.int .i64 n144), (.int .i64 n145), (.int .i64 n146), (.str s147), (.int .i64 n148), (.sl 4 l149)])))
 else
 (K [(.agg [(.int .i64 n146), (.str s147), (.int .i64 n148), (.sl 4 l149)])] [(.box [(.sl 3 l152), (.int .i64 n153), (.int .i64 n154)])]))) else (K [(.agg [(.int .i64 n146), (.str s147), (.int .i64 n148), (.sl 4 l149)])] [(.box [(.sl 3 l143), (.int .i64 n144), (.int .i64 n145)])]))))))))))))
set_option maxRecDepth 100000 in
theorem rterm.eq (n1 : Int) (tk : List (List V)) (pos : Int) (er : Int) (K : List V → List Ob → Prop) : rterm.W n1 tk pos er K = afn ax rterm.ah Tryz.f36 [(.ptr 0 0), (.int .i64 n1)] [(.box [(.sl 3 tk), (.int .i64 pos), (.int .i64 er)])] K := by kernel_rfl
theorem rterm.ok : codeOk tys (hintsOf rterm.ah) Tryz.f36.ntmps (Tryz.f36.body.getD .skip) = true := by kernel_rfl
set_option maxHeartbeats 4000000 in
theorem rterm.calls {n1 tk pos er K} (h : rterm.W n1 tk pos er K) : SCalls ax 36 [(.ptr 0 0), (.int .i64 n1)] [(.box [(.sl 3 tk), (.int .i64 pos), (.int .i64 er)])] K :=
  afn_run (ah := rterm.ah) tysOk fnsOk follows eqOk Tryz.func36 (by kernel_rfl) rterm.ok (by kernel_rfl) (Eq.mp (rterm.eq n1 tk pos er K) h)
/-! ### done: function 37, (*augur/augurref02.Reader).done -/
def done.ah : AH := ⟨[(1, seqO [0, 1, 2, 3, 4, 5, 6, 7, 8, 9, 10, 11, 12, 13, 14, 15, 16])], [], [], [], [], [some [.int .i64]], [], [], []⟩
set_option maxRecDepth 100000 in
def done.W (tk : List (List V)) (pos : Int) (er : Int) (K : List V → List Ob → Prop) : Prop :=
 (bif (er == (0 : Int)) then (bif (decide (pos < (List.length tk : Int))) then
 (K [(.int .i64 2)] [(.box [(.sl 3 tk), (.int .i64 pos), (.int .i64 2)])])
 else
 (K [(.int .i64 er)] [(.box [(.sl 3 tk), (.int .i64 pos), (.int .i64 er)])])) else (K [(.int .i64 er)] [(.box [(.sl 3 tk), (.int .i64 pos), (.int .i64 er)])]))
set_option maxRecDepth 100000 in
theorem done.eq (tk : List (List V)) (pos : Int) (er : Int) (K : List V → List Ob → Prop) : done.W tk pos er K = afn ax done.ah Tryz.f37 [(.ptr 0 0)] [(.box [(.sl 3 tk), (.int .i64 pos), (.int .i64 er)])] K := by kernel_rfl
theorem done.ok : codeOk tys (hintsOf done.ah) Tryz.f37.ntmps (Tryz.f37.body.getD .skip) = true := by kernel_rfl
set_option maxHeartbeats 4000000 in
theorem done.calls {tk pos er K} (h : done.W tk pos er K) : SCalls ax 37 [(.ptr 0 0)] [(.box [(.sl 3 tk), (.int .i64 pos), (.int .i64 er)])] K :=
  afn_run (ah := done.ah) tysOk fnsOk follows eqOk Tryz.func37 (by kernel_rfl) done.ok (by kernel_rfl) (Eq.mp (done.eq tk pos er K) h)
/-! ### rnest: function 50, (*augur/augurref02.Reader).nest -/
def rnest.ah : AH := ⟨[], [], [], [(51, ⟨[none], [.c (.bool)], [.box [.d (.sl 3), .d (.int .i64), .d (.int .i64)]]⟩), (62, ⟨[none, some [.int .i64]], [], [.box [.d (.sl 3), .d (.int .i64), .d (.int .i64)]]⟩)], [], [], [], [], []⟩
set_option maxRecDepth 100000 in
def rnest.W (n1 : Int) (tk : List (List V)) (pos : Int) (er : Int) (K : List V → List Ob → Prop) : Prop :=
 (bif (decide (n1 > (64 : Int))) then (SCalls ax 51 [(.ptr 0 0)] [(.box [(.sl 3 tk), (.int .i64 pos), (.int .i64 er)])] fun r3 o7 => ∃ (b2 : Bool) (l4 : List (List V)) (n5 : Int) (n6 : Int), r3 = [(.bool b2)] ∧ o7 = [(.box [(.sl 3 l4), (.int .i64 n5), (.int .i64 n6)])] ∧ (bif (!b2) then
 (SCalls ax 62 [(.ptr 0 0), (.int .i64 3)] [(.box [(.sl 3 l4), (.int .i64 n5), (.int .i64 n6)])] fun r8 o12 => ∃ (l9 : List (List V)) (n10 : Int) (n11 : Int), r8 = [] ∧ o12 = [(.box [(.sl 3 l9), (.int .i64 n10), (.int .i64 n11)])] ∧ (K [] [(.box [(.sl 3 l9), (.int .i64 n10), (.int .i64 n11)])]))
 else
 (K [] [(.box [(.sl 3 l4), (.int .i64 n5), (.int .i64 n6)])]))) else (K [] [(.box [(.sl 3 tk), (.int .i64 pos), (.int .i64 er)])]))
set_option maxRecDepth 100000 in
theorem rnest.eq (n1 : Int) (tk : List (List V)) (pos : Int) (er : Int) (K : List V → List Ob → Prop) : rnest.W n1 tk pos er K = afn ax rnest.ah Tryz.f50 [(.ptr 0 0), (.int .i64 n1)] [(.box [(.sl 3 tk), (.int .i64 pos), (.int .i64 er)])] K := by kernel_rfl
theorem rnest.ok : codeOk tys (hintsOf rnest.ah) Tryz.f50.ntmps (Tryz.f50.body.getD .skip) = true := by kernel_rfl
set_option maxHeartbeats 4000000 in
theorem rnest.calls {n1 tk pos er K} (h : rnest.W n1 tk pos er K) : SCalls ax 50 [(.ptr 0 0), (.int .i64 n1)] [(.box [(.sl 3 tk), (.int .i64 pos), (.int .i64 er)])] K :=
  afn_run (ah := rnest.ah) tysOk fnsOk follows eqOk Tryz.func50 (by kernel_rfl) rnest.ok (by kernel_rfl) (Eq.mp (rnest.eq n1 tk pos er K) h)
/-! ### rend: function 51, (*augur/augurref02.Reader).end -/
def rend.ah : AH := ⟨[(1, seqO [0, 1, 2, 3, 4, 5, 6, 7, 8, 9, 10, 11, 12, 13, 14, 15, 16, 17])], [], [], [], [], [some [.bool]], [], [], []⟩
set_option maxRecDepth 100000 in
def rend.W (tk : List (List V)) (pos : Int) (er : Int) (K : List V → List Ob → Prop) : Prop :=
 (bif (er != (0 : Int)) then (K [(.bool true)] [(.box [(.sl 3 tk), (.int .i64 pos), (.int .i64 er)])]) else (K [(.bool (decide (pos ≥ (List.length tk : Int))))] [(.box [(.sl 3 tk), (.int .i64 pos), (.int .i64 er)])]))
set_option maxRecDepth 100000 in
theorem rend.eq (tk : List (List V)) (pos : Int) (er : Int) (K : List V → List Ob → Prop) : rend.W tk pos er K = afn ax rend.ah Tryz.f51 [(.ptr 0 0)] [(.box [(.sl 3 tk), (.int .i64 pos), (.int .i64 er)])] K := by kernel_rfl
theorem rend.ok : codeOk tys (hintsOf rend.ah) Tryz.f51.ntmps (Tryz.f51.body.getD .skip) = true := by kernel_rfl
set_option maxHeartbeats 4000000 in
theorem rend.calls {tk pos er K} (h : rend.W tk pos er K) : SCalls ax 51 [(.ptr 0 0)] [(.box [(.sl 3 tk), (.int .i64 pos), (.int .i64 er)])] K :=
  afn_run (ah := rend.ah) tysOk fnsOk follows eqOk Tryz.func51 (by kernel_rfl) rend.ok (by kernel_rfl) (Eq.mp (rend.eq tk pos er K) h)
/-! ### rword: function 52, (*augur/augurref02.Reader).word -/
def rword.ah : AH := ⟨[(1, seqO [0, 1, 2, 3, 4, 5, 6, 7, 8, 9, 10, 11, 12, 13, 14, 15, 16, 17, 18, 19, 20, 21, 22, 23, 24, 25, 26, 27, 28, 29, 30, 31, 32, 33, 34]), (5, seqO [0, 1, 2, 3, 4, 5, 6, 7, 8, 9, 10, 11, 12])], [], [(4, ⟨[], [(0, [.d (.sl 3), .d (.int .i64), .d (.int .i64)])], [], []⟩)], [(51, ⟨[none], [.c (.bool)], [.box [.d (.sl 3), .d (.int .i64), .d (.int .i64)]]⟩), (62, ⟨[none, some [.int .i64]], [], [.box [.d (.sl 3), .d (.int .i64), .d (.int .i64)]]⟩), (63, ⟨[some [.str]], [.c (.bool)], []⟩)], [], [some [.str]], [], [], []⟩
set_option maxRecDepth 100000 in
def rword.W (n1 : Int) (tk : List (List V)) (pos : Int) (er : Int) (K : List V → List Ob → Prop) : Prop :=
 (∃ J27 : List V → Prop, (SCalls ax 51 [(.ptr 0 0)] [(.box [(.sl 3 tk), (.int .i64 pos), (.int .i64 er)])] fun r29 o33 => ∃ (b28 : Bool) (l30 : List (List V)) (n31 : Int) (n32 : Int), r29 = [(.bool b28)] ∧ o33 = [(.box [(.sl 3 l30), (.int .i64 n31), (.int .i64 n32)])] ∧ (bif b28 then (SCalls ax 62 [(.ptr 0 0), (.int .i64 2)] [(.box [(.sl 3 l30), (.int .i64 n31), (.int .i64 n32)])] fun r34 o38 => ∃ (l35 : List (List V)) (n36 : Int) (n37 : Int), r34 = [] ∧ o38 = [(.box [(.sl 3 l35), (.int .i64 n36), (.int .i64 n37)])] ∧ (K [(.str (⟨#[]⟩ : ByteArray))] [(.box [(.sl 3 l35), (.int .i64 n36), (.int .i64 n37)])])) else (0 ≤ n31 ∧ n31 < (List.length l30 : Int) ∧ (∃ (n39 : Int), List.take 1 (Av.rowAt l30 (n31 : Int).toNat) = [(.int .i64 n39)] ∧ (bif (n39 != n1) then (SCalls ax 62 [(.ptr 0 0), (.int .i64 2)] [(.box [(.sl 3 l30), (.int .i64 n31), (.int .i64 n32)])] fun r40 o44 => ∃ (l41 : List (List V)) (n42 : Int) (n43 : Int), r40 = [] ∧ o44 = [(.box [(.sl 3 l41), (.int .i64 n42), (.int .i64 n43)])] ∧ (K [(.str (⟨#[]⟩ : ByteArray))] [(.box [(.sl 3 l41), (.int .i64 n42), (.int .i64 n43)])])) else (bif (n1 == (1 : Int)) then (0 ≤ n31 ∧ n31 < (List.length l30 : Int) ∧ (∃ (s45 : ByteArray), List.take 1 (List.drop 1 (Av.rowAt l30 (n31 : Int).toNat)) = [(.str s45)] ∧ (PCalls ax 63 [(.str s45)] fun r47 => ∃ (b46 : Bool), r47 = [(.bool b46)] ∧ (bif b46 then
 (SCalls ax 62 [(.ptr 0 0), (.int .i64 2)] [(.box [(.sl 3 l30), (.int .i64 n31), (.int .i64 n32)])] fun r48 o52 => ∃ (l49 : List (List V)) (n50 : Int) (n51 : Int), r48 = [] ∧ o52 = [(.box [(.sl 3 l49), (.int .i64 n50), (.int .i64 n51)])] ∧ (K [(.str (⟨#[]⟩ : ByteArray))] [(.box [(.sl 3 l49), (.int .i64 n50), (.int .i64 n51)])]))
 else
 (J27 [(.sl 3 l30), (.int .i64 n31), (.int .i64 n32)]))))) else (J27 [(.sl 3 l30), (.int .i64 n31), (.int .i64 n32)]))))))) ∧
 (∀ (l53 : List (List V)) (n54 : Int) (n55 : Int), J27 [(.sl 3 l53), (.int .i64 n54), (.int .i64 n55)] →
 (0 ≤ (IntKind.i64.wrap ((IntKind.i64.wrap (n54 + 1)) - 1)) ∧ (IntKind.i64.wrap ((IntKind.i64.wrap (n54 + 1)) - 1)) < (List.length l53 : Int) ∧ (∃ (s56 : ByteArray), List.take 1 (List.drop 1 (Av.rowAt l53 ((IntKind.i64.wrap ((IntKind.i64.wrap (n54 + 1)) - 1)) : Int).toNat)) = [(.str s56)] ∧ (K [(.str s56)] [(.box [(.sl 3 l53), (.int .i64 (IntKind.i64.wrap (n54 + 1))), (.int .i64 n55)])])))))
set_option maxRecDepth 100000 in
theorem rword.eq (n1 : Int) (tk : List (List V)) (pos : Int) (er : Int) (K : List V → List Ob → Prop) : rword.W n1 tk pos er K = afn ax rword.ah Tryz.f52 [(.ptr 0 0), (.int .i64 n1)] [(.box [(.sl 3 tk), (.int .i64 pos), (.int .i64 er)])] K := by kernel_rfl
theorem rword.ok : codeOk tys (hintsOf rword.ah) Tryz.f52.ntmps (Tryz.f52.body.getD .skip) = true := by kernel_rfl
set_option maxHeartbeats 4000000 in
theorem rword.calls {n1 tk pos er K} (h : rword.W n1 tk pos er K) : SCalls ax 52 [(.ptr 0 0), (.int .i64 n1)] [(.box [(.sl 3 tk), (.int .i64 pos), (.int .i64 er)])] K :=
  afn_run (ah := rword.ah) tysOk fnsOk follows eqOk Tryz.func52 (by kernel_rfl) rword.ok (by kernel_rfl) (Eq.mp (rword.eq n1 tk pos er K) h)
/-! ### more: function 53, (*augur/augurref02.Reader).more -/
def more.ah : AH := ⟨[], [], [(7, ⟨[], [(0, [.d (.sl 3), .d (.int .i64), .d (.int .i64)])], [], []⟩)], [(51, ⟨[none], [.c (.bool)], [.box [.d (.sl 3), .d (.int .i64), .d (.int .i64)]]⟩), (62, ⟨[none, some [.int .i64]], [], [.box [.d (.sl 3), .d (.int .i64), .d (.int .i64)]]⟩), (64, ⟨[none, some [.str]], [.c (.bool)], [.box [.d (.sl 3), .d (.int .i64), .d (.int .i64)]]⟩), (65, ⟨[none, some [.str]], [], [.box [.d (.sl 3), .d (.int .i64), .d (.int .i64)]]⟩)], [], [some [.bool]], [], [], []⟩
set_option maxRecDepth 100000 in
def more.W (n1 : Int) (tk : List (List V)) (pos : Int) (er : Int) (K : List V → List Ob → Prop) : Prop :=
 (∃ J19 : List V → Prop, (bif (n1 == (0 : Int)) then
 (SCalls ax 64 [(.ptr 0 0), (.str (⟨#[40]⟩ : ByteArray))] [(.box [(.sl 3 tk), (.int .i64 pos), (.int .i64 er)])] fun r21 o25 => ∃ (b20 : Bool) (l22 : List (List V)) (n23 : Int) (n24 : Int), r21 = [(.bool b20)] ∧ o25 = [(.box [(.sl 3 l22), (.int .i64 n23), (.int .i64 n24)])] ∧ (bif (!b20) then
 (K [(.bool false)] [(.box [(.sl 3 l22), (.int .i64 n23), (.int .i64 n24)])])
 else
 (J19 [(.sl 3 l22), (.int .i64 n23), (.int .i64 n24)])))
 else
 (SCalls ax 64 [(.ptr 0 0), (.str (⟨#[41]⟩ : ByteArray))] [(.box [(.sl 3 tk), (.int .i64 pos), (.int .i64 er)])] fun r27 o31 => ∃ (b26 : Bool) (l28 : List (List V)) (n29 : Int) (n30 : Int), r27 = [(.bool b26)] ∧ o31 = [(.box [(.sl 3 l28), (.int .i64 n29), (.int .i64 n30)])] ∧ (bif b26 then (K [(.bool false)] [(.box [(.sl 3 l28), (.int .i64 n29), (.int .i64 n30)])]) else (bif (n30 != (0 : Int)) then
 (K [(.bool false)] [(.box [(.sl 3 l28), (.int .i64 n29), (.int .i64 n30)])])
 else
 (SCalls ax 65 [(.ptr 0 0), (.str (⟨#[44]⟩ : ByteArray))] [(.box [(.sl 3 l28), (.int .i64 n29), (.int .i64 n30)])] fun r32 o36 => ∃ (l33 : List (List V)) (n34 : Int) (n35 : Int), r32 = [] ∧ o36 = [(.box [(.sl 3 l33), (.int .i64 n34), (.int .i64 n35)])] ∧ (J19 [(.sl 3 l33), (.int .i64 n34), (.int .i64 n35)])))))) ∧
 (∀ (l37 : List (List V)) (n38 : Int) (n39 : Int), J19 [(.sl 3 l37), (.int .i64 n38), (.int .i64 n39)] →
 (bif (n1 == (8 : Int)) then (SCalls ax 51 [(.ptr 0 0)] [(.box [(.sl 3 l37), (.int .i64 n38), (.int .i64 n39)])] fun r41 o45 => ∃ (b40 : Bool) (l42 : List (List V)) (n43 : Int) (n44 : Int), r41 = [(.bool b40)] ∧ o45 = [(.box [(.sl 3 l42), (.int .i64 n43), (.int .i64 n44)])] ∧ (bif (!b40) then
 (SCalls ax 62 [(.ptr 0 0), (.int .i64 4)] [(.box [(.sl 3 l42), (.int .i64 n43), (.int .i64 n44)])] fun r46 o50 => ∃ (l47 : List (List V)) (n48 : Int) (n49 : Int), r46 = [] ∧ o50 = [(.box [(.sl 3 l47), (.int .i64 n48), (.int .i64 n49)])] ∧ (K [(.bool (n49 == (0 : Int)))] [(.box [(.sl 3 l47), (.int .i64 n48), (.int .i64 n49)])]))
 else
 (K [(.bool (n44 == (0 : Int)))] [(.box [(.sl 3 l42), (.int .i64 n43), (.int .i64 n44)])]))) else (K [(.bool (n39 == (0 : Int)))] [(.box [(.sl 3 l37), (.int .i64 n38), (.int .i64 n39)])]))))
set_option maxRecDepth 100000 in
theorem more.eq (n1 : Int) (tk : List (List V)) (pos : Int) (er : Int) (K : List V → List Ob → Prop) : more.W n1 tk pos er K = afn ax more.ah Tryz.f53 [(.ptr 0 0), (.int .i64 n1)] [(.box [(.sl 3 tk), (.int .i64 pos), (.int .i64 er)])] K := by kernel_rfl
theorem more.ok : codeOk tys (hintsOf more.ah) Tryz.f53.ntmps (Tryz.f53.body.getD .skip) = true := by kernel_rfl
set_option maxHeartbeats 4000000 in
theorem more.calls {n1 tk pos er K} (h : more.W n1 tk pos er K) : SCalls ax 53 [(.ptr 0 0), (.int .i64 n1)] [(.box [(.sl 3 tk), (.int .i64 pos), (.int .i64 er)])] K :=
  afn_run (ah := more.ah) tysOk fnsOk follows eqOk Tryz.func53 (by kernel_rfl) more.ok (by kernel_rfl) (Eq.mp (more.eq n1 tk pos er K) h)
/-! ### fail: function 62, (*augur/augurref02.Reader).fail -/
def fail.ah : AH := ⟨[], [], [], [], [], [], [], [], []⟩
set_option maxRecDepth 100000 in
def fail.W (n1 : Int) (tk : List (List V)) (pos : Int) (er : Int) (K : List V → List Ob → Prop) : Prop :=
 (bif (er == (0 : Int)) then
 (K [] [(.box [(.sl 3 tk), (.int .i64 pos), (.int .i64 n1)])])
 else
 (K [] [(.box [(.sl 3 tk), (.int .i64 pos), (.int .i64 er)])]))
set_option maxRecDepth 100000 in
theorem fail.eq (n1 : Int) (tk : List (List V)) (pos : Int) (er : Int) (K : List V → List Ob → Prop) : fail.W n1 tk pos er K = afn ax fail.ah Tryz.f62 [(.ptr 0 0), (.int .i64 n1)] [(.box [(.sl 3 tk), (.int .i64 pos), (.int .i64 er)])] K := by kernel_rfl
theorem fail.ok : codeOk tys (hintsOf fail.ah) Tryz.f62.ntmps (Tryz.f62.body.getD .skip) = true := by kernel_rfl
set_option maxHeartbeats 4000000 in
theorem fail.calls {n1 tk pos er K} (h : fail.W n1 tk pos er K) : SCalls ax 62 [(.ptr 0 0), (.int .i64 n1)] [(.box [(.sl 3 tk), (.int .i64 pos), (.int .i64 er)])] K :=
  afn_run (ah := fail.ah) tysOk fnsOk follows eqOk Tryz.func62 (by kernel_rfl) fail.ok (by kernel_rfl) (Eq.mp (fail.eq n1 tk pos er K) h)
/-! ### got: function 64, (*augur/augurref02.Reader).got -/
def got.ah : AH := ⟨[], [], [], [(74, ⟨[none, some [.str]], [.c (.bool)], [.box [.d (.sl 3), .d (.int .i64), .d (.int .i64)]]⟩)], [], [some [.bool]], [], [], []⟩
set_option maxRecDepth 100000 in
def got.W (s1 : ByteArray) (tk : List (List V)) (pos : Int) (er : Int) (K : List V → List Ob → Prop) : Prop :=
 (SCalls ax 74 [(.ptr 0 0), (.str s1)] [(.box [(.sl 3 tk), (.int .i64 pos), (.int .i64 er)])] fun r3 o7 => ∃ (b2 : Bool) (l4 : List (List V)) (n5 : Int) (n6 : Int), r3 = [(.bool b2)] ∧ o7 = [(.box [(.sl 3 l4), (.int .i64 n5), (.int .i64 n6)])] ∧ (bif b2 then
 (K [(.bool true)] [(.box [(.sl 3 l4), (.int .i64 (IntKind.i64.wrap (n5 + 1))), (.int .i64 n6)])])
 else
 (K [(.bool false)] [(.box [(.sl 3 l4), (.int .i64 n5), (.int .i64 n6)])])))
set_option maxRecDepth 100000 in
theorem got.eq (s1 : ByteArray) (tk : List (List V)) (pos : Int) (er : Int) (K : List V → List Ob → Prop) : got.W s1 tk pos er K = afn ax got.ah Tryz.f64 [(.ptr 0 0), (.str s1)] [(.box [(.sl 3 tk), (.int .i64 pos), (.int .i64 er)])] K := by kernel_rfl
theorem got.ok : codeOk tys (hintsOf got.ah) Tryz.f64.ntmps (Tryz.f64.body.getD .skip) = true := by kernel_rfl
set_option maxHeartbeats 4000000 in
theorem got.calls {s1 tk pos er K} (h : got.W s1 tk pos er K) : SCalls ax 64 [(.ptr 0 0), (.str s1)] [(.box [(.sl 3 tk), (.int .i64 pos), (.int .i64 er)])] K :=
  afn_run (ah := got.ah) tysOk fnsOk follows eqOk Tryz.func64 (by kernel_rfl) got.ok (by kernel_rfl) (Eq.mp (got.eq s1 tk pos er K) h)
/-! ### need: function 65, (*augur/augurref02.Reader).need -/
def need.ah : AH := ⟨[], [], [], [(62, ⟨[none, some [.int .i64]], [], [.box [.d (.sl 3), .d (.int .i64), .d (.int .i64)]]⟩), (64, ⟨[none, some [.str]], [.c (.bool)], [.box [.d (.sl 3), .d (.int .i64), .d (.int .i64)]]⟩)], [], [], [], [], []⟩
set_option maxRecDepth 100000 in
def need.W (s1 : ByteArray) (tk : List (List V)) (pos : Int) (er : Int) (K : List V → List Ob → Prop) : Prop :=
 (bif (er == (0 : Int)) then (SCalls ax 64 [(.ptr 0 0), (.str s1)] [(.box [(.sl 3 tk), (.int .i64 pos), (.int .i64 er)])] fun r3 o7 => ∃ (b2 : Bool) (l4 : List (List V)) (n5 : Int) (n6 : Int), r3 = [(.bool b2)] ∧ o7 = [(.box [(.sl 3 l4), (.int .i64 n5), (.int .i64 n6)])] ∧ (bif (!b2) then
 (SCalls ax 62 [(.ptr 0 0), (.int .i64 2)] [(.box [(.sl 3 l4), (.int .i64 n5), (.int .i64 n6)])] fun r8 o12 => ∃ (l9 : List (List V)) (n10 : Int) (n11 : Int), r8 = [] ∧ o12 = [(.box [(.sl 3 l9), (.int .i64 n10), (.int .i64 n11)])] ∧ (K [] [(.box [(.sl 3 l9), (.int .i64 n10), (.int .i64 n11)])]))
 else
 (K [] [(.box [(.sl 3 l4), (.int .i64 n5), (.int .i64 n6)])]))) else (K [] [(.box [(.sl 3 tk), (.int .i64 pos), (.int .i64 er)])]))
set_option maxRecDepth 100000 in
theorem need.eq (s1 : ByteArray) (tk : List (List V)) (pos : Int) (er : Int) (K : List V → List Ob → Prop) : need.W s1 tk pos er K = afn ax need.ah Tryz.f65 [(.ptr 0 0), (.str s1)] [(.box [(.sl 3 tk), (.int .i64 pos), (.int .i64 er)])] K := by kernel_rfl
theorem need.ok : codeOk tys (hintsOf need.ah) Tryz.f65.ntmps (Tryz.f65.body.getD .skip) = true := by kernel_rfl
set_option maxHeartbeats 4000000 in
theorem need.calls {s1 tk pos er K} (h : need.W s1 tk pos er K) : SCalls ax 65 [(.ptr 0 0), (.str s1)] [(.box [(.sl 3 tk), (.int .i64 pos), (.int .i64 er)])] K :=
  afn_run (ah := need.ah) tysOk fnsOk follows eqOk Tryz.func65 (by kernel_rfl) need.ok (by kernel_rfl) (Eq.mp (need.eq s1 tk pos er K) h)
/-! ### ris: function 74, (*augur/augurref02.Reader).is -/
def ris.ah : AH := ⟨[(1, seqO [0, 1, 2, 3, 4, 5, 6, 7, 8, 9, 10, 11, 12, 13, 14, 15, 16, 17, 18, 19, 20, 21, 22, 23, 24, 25, 26, 27, 28, 29, 30, 31, 32, 33, 34, 35, 36, 37, 38, 39, 40, 41, 42, 43, 44, 45, 46])], [], [], [(51, ⟨[none], [.c (.bool)], [.box [.d (.sl 3), .d (.int .i64), .d (.int .i64)]]⟩)], [], [some [.bool]], [], [], []⟩
set_option maxRecDepth 100000 in
def ris.W (s1 : ByteArray) (tk : List (List V)) (pos : Int) (er : Int) (K : List V → List Ob → Prop) : Prop :=
 (SCalls ax 51 [(.ptr 0 0)] [(.box [(.sl 3 tk), (.int .i64 pos), (.int .i64 er)])] fun r3 o7 => ∃ (b2 : Bool) (l4 : List (List V)) (n5 : Int) (n6 : Int), r3 = [(.bool b2)] ∧ o7 = [(.box [(.sl 3 l4), (.int .i64 n5), (.int .i64 n6)])] ∧ (bif (!b2) then (0 ≤ n5 ∧ n5 < (List.length l4 : Int) ∧ (∃ (s8 : ByteArray), List.take 1 (List.drop 1 (Av.rowAt l4 (n5 : Int).toNat)) = [(.str s8)] ∧ (bif (strEq s8 s1) then (0 ≤ n5 ∧ n5 < (List.length l4 : Int) ∧ (∃ (n9 : Int), List.take 1 (Av.rowAt l4 (n5 : Int).toNat) = [(.int .i64 n9)] ∧ (bif (n9 == (1 : Int)) then (K [(.bool true)] [(.box [(.sl 3 l4), (.int .i64 n5), (.int .i64 n6)])]) else (0 ≤ n5 ∧ n5 < (List.length l4 : Int) ∧ (∃ (n10 : Int), List.take 1 (Av.rowAt l4 (n5 : Int).toNat) = [(.int .i64 n10)] ∧ (K [(.bool (n10 == (4 : Int)))] [(.box [(.sl 3 l4), (.int .i64 n5), (.int .i64 n6)])])))))) else (K [(.bool false)] [(.box [(.sl 3 l4), (.int .i64 n5), (.int .i64 n6)])])))) else (K [(.bool false)] [(.box [(.sl 3 l4), (.int .i64 n5), (.int .i64 n6)])])))
set_option maxRecDepth 100000 in
theorem ris.eq (s1 : ByteArray) (tk : List (List V)) (pos : Int) (er : Int) (K : List V → List Ob → Prop) : ris.W s1 tk pos er K = afn ax ris.ah Tryz.f74 [(.ptr 0 0), (.str s1)] [(.box [(.sl 3 tk), (.int .i64 pos), (.int .i64 er)])] K := by kernel_rfl
theorem ris.ok : codeOk tys (hintsOf ris.ah) Tryz.f74.ntmps (Tryz.f74.body.getD .skip) = true := by kernel_rfl
set_option maxHeartbeats 4000000 in
theorem ris.calls {s1 tk pos er K} (h : ris.W s1 tk pos er K) : SCalls ax 74 [(.ptr 0 0), (.str s1)] [(.box [(.sl 3 tk), (.int .i64 pos), (.int .i64 er)])] K :=
  afn_run (ah := ris.ah) tysOk fnsOk follows eqOk Tryz.func74 (by kernel_rfl) ris.ok (by kernel_rfl) (Eq.mp (ris.eq s1 tk pos er K) h)
/-! ### rread: function 35, augur/augurref02.read -/
def rread.ah : AH := ⟨[], [], [], [(49, ⟨[some [.str]], [.c (.sl 3), .c (.int .i64)], []⟩)], [], [none], [], [], []⟩
set_option maxRecDepth 100000 in
def rread.W (s1 : ByteArray) (K : List V → List Ob → Prop) : Prop :=
 (PCalls ax 49 [(.str s1)] fun r4 => ∃ (l2 : List (List V)) (n3 : Int), r4 = [(.sl 3 l2), (.int .i64 n3)] ∧ (K [(.ptr 0 0)] [(.box [(.sl 3 l2), (.int .i64 0), (.int .i64 n3)])]))
set_option maxRecDepth 100000 in
theorem rread.eq (s1 : ByteArray) (K : List V → List Ob → Prop) : rread.W s1 K = afn ax rread.ah Tryz.f35 [(.str s1)] [] K := by kernel_rfl
theorem rread.ok : codeOk tys (hintsOf rread.ah) Tryz.f35.ntmps (Tryz.f35.body.getD .skip) = true := by kernel_rfl
set_option maxHeartbeats 4000000 in
theorem rread.calls {s1 K} (h : rread.W s1 K) : SCalls ax 35 [(.str s1)] [] K :=
  afn_run (ah := rread.ah) tysOk fnsOk follows eqOk Tryz.func35 (by kernel_rfl) rread.ok (by kernel_rfl) (Eq.mp (rread.eq s1 K) h)
/-! ### RTerm: function 21, augur/augurref02.Term -/
def RTerm.ah : AH := ⟨[(4, seqO [0, 1, 2, 3, 4, 5, 6])], [], [], [(35, ⟨[some [.str]], [.lit (.ptr 0 0)], [.box [.d (.sl 3), .d (.int .i64), .d (.int .i64)]]⟩), (36, ⟨[none, some [.int .i64]], [.ag [.int .i64, .str, .int .i64, .sl 4]], [.box [.d (.sl 3), .d (.int .i64), .d (.int .i64)]]⟩), (37, ⟨[none], [.c (.int .i64)], [.box [.d (.sl 3), .d (.int .i64), .d (.int .i64)]]⟩)], [], [some [.int .i64, .str, .int .i64, .sl 4], some [.int .i64]], [], [], []⟩
set_option maxRecDepth 100000 in
def RTerm.W (s1 : ByteArray) (K : List V → Prop) : Prop :=
 (SCalls ax 35 [(.str s1)] [] fun r7 o11 => ∃ (l8 : List (List V)) (n9 : Int) (n10 : Int), r7 = [(.ptr 0 0)] ∧ o11 = [(.box [(.sl 3 l8), (.int .i64 n9), (.int .i64 n10)])] ∧ (SCalls ax 36 [(.ptr 0 0), (.int .i64 1)] [(.box [(.sl 3 l8), (.int .i64 n9), (.int .i64 n10)])] fun r16 o20 => ∃ (n12 : Int) (s13 : ByteArray) (n14 : Int) (l15 : List (List V)) (l17 : List (List V)) (n18 : Int) (n19 : Int), r16 = [(.agg [(.int .i64 n12), (.str s13), (.int .i64 n14), (.sl 4 l15)])] ∧ o20 = [(.box [(.sl 3 l17), (.int .i64 n18), (.int .i64 n19)])] ∧ (SCalls ax 37 [(.ptr 0 0)] [(.box [(.sl 3 l17), (.int .i64 n18), (.int .i64 n19)])] fun r22 o26 => ∃ (n21 : Int) (l23 : List (List V)) (n24 : Int) (n25 : Int), r22 = [(.int .i64 n21)] ∧ o26 = [(.box [(.sl 3 l23), (.int .i64 n24), (.int .i64 n25)])] ∧ (bif (n21 != (0 : Int)) then
 (K [(.agg [(.int .i64 0), (.str (⟨#[]⟩ : ByteArray)), (.int .i64 0), (.sl 4 [])]), (.int .i64 n25)])
 else
 (K [(.agg [(.int .i64 n12), (.str s13), (.int .i64 n14), (.sl 4 l15)]), (.int .i64 0)])))))
set_option maxRecDepth 100000 in
theorem RTerm.eq (s1 : ByteArray) (K : List V → Prop) : RTerm.W s1 K = afn ax RTerm.ah Tryz.f21 [(.str s1)] [] (onlyV K) := by kernel_rfl
theorem RTerm.ok : codeOk tys (hintsOf RTerm.ah) Tryz.f21.ntmps (Tryz.f21.body.getD .skip) = true := by kernel_rfl
set_option maxHeartbeats 4000000 in
theorem RTerm.calls {s1 K} (h : RTerm.W s1 K) : PCalls ax 21 [(.str s1)] K :=
  afn_run (ah := RTerm.ah) tysOk fnsOk follows eqOk Tryz.func21 (by kernel_rfl) RTerm.ok (by kernel_rfl) (Eq.mp (RTerm.eq s1 K) h)
/-! ### of: function 20, augur/data.of -/
def of.ah : AH := ⟨[], [(8, ⟨[(25, [.d (.int .i64)], false)], [(2, [.d (.bool), .d (.int .i64), .d (.str), .nw 25 4 false])], [], []⟩)], [], [(20, ⟨[some [.int .i64, .str, .int .i64, .sl 4]], [.ag [.bool, .int .i64, .str, .sl 4], .c (.bool)], []⟩)], [], [some [.bool, .int .i64, .str, .sl 4], some [.bool]], [], [], []⟩
set_option maxRecDepth 100000 in
def of.W (n1 : Int) (s2 : ByteArray) (n3 : Int) (l4 : List (List V)) (K : List V → Prop) : Prop :=
 (bif (n1 == (1 : Int)) then
 (K [(.agg [(.bool false), (.int .i64 0), (.str (⟨#[]⟩ : ByteArray)), (.sl 4 [])]), (.bool false)])
 else
 (bif (n1 == (2 : Int)) then
 (K [(.agg [(.bool false), (.int .i64 n3), (.str (⟨#[]⟩ : ByteArray)), (.sl 4 [])]), (.bool true)])
 else
 (∃ (I39 : List V → Prop) (μ40 : List V → Nat), I39 [(.int .i64 0), (.bool true), (.int .i64 0), (.str s2), (.sl 4 [])] ∧ (∀ (n41 : Int) (b42 : Bool) (n43 : Int) (s44 : ByteArray) (l45 : List (List V)), I39 [(.int .i64 n41), (.bool b42), (.int .i64 n43), (.str s44), (.sl 4 l45)] →
 (bif (decide (n41 < (List.length l4 : Int))) then
 (0 ≤ n41 ∧ n41 < (List.length l4 : Int) ∧ (∃ (n50 : Int) (s51 : ByteArray) (n52 : Int) (l53 : List (List V)), List.take 4 (Av.rowAt l4 (n41 : Int).toNat) = [(.int .i64 n50), (.str s51), (.int .i64 n52), (.sl 4 l53)] ∧ (PCalls ax 20 [(.agg [(.int .i64 n50), (.str s51), (.int .i64 n52), (.sl 4 l53)])] fun r59 => ∃ (b54 : Bool) (n55 : Int) (s56 : ByteArray) (l57 : List (List V)) (b58 : Bool), r59 = [(.agg [(.bool b54), (.int .i64 n55), (.str s56), (.sl 4 l57)]), (.bool b58)] ∧ (bif (!b58) then
 (K [(.agg [(.bool false), (.int .i64 0), (.str (⟨#[]⟩ : ByteArray)), (.sl 4 [])]), (.bool false)])
 else
 (((List.length l45) + (List.length ([[(.bool b54), (.int .i64 n55), (.str s56), (.sl 4 l57)]] : List (List V)))) * 56 ≤ 140737488355328 ∧ (List.length l45) + (List.length ([[(.bool b54), (.int .i64 n55), (.str s56), (.sl 4 l57)]] : List (List V))) ≤ 140737488355328 ∧ (I39 [(.int .i64 (IntKind.i64.wrap (n41 + 1))), (.bool b42), (.int .i64 n43), (.str s44), (.sl 4 (l45 ++ [[(.bool b54), (.int .i64 n55), (.str s56), (.sl 4 l57)]]))] ∧ μ40 [(.int .i64 (IntKind.i64.wrap (n41 + 1))), (.bool b42), (.int .i64 n43), (.str s44), (.sl 4 (l45 ++ [[(.bool b54), (.int .i64 n55), (.str s56), (.sl 4 l57)]]))] < μ40 [(.int .i64 n41), (.bool b42), (.int .i64 n43), (.str s44), (.sl 4 l45)]))))))
 else
 (K [(.agg [(.bool b42), (.int .i64 n43), (.str s44), (.sl 4 l45)]), (.bool true)]))))))
set_option maxRecDepth 100000 in
theorem of.eq (n1 : Int) (s2 : ByteArray) (n3 : Int) (l4 : List (List V)) (K : List V → Prop) : of.W n1 s2 n3 l4 K = afn ax of.ah Tryz.f20 [(.agg [(.int .i64 n1), (.str s2), (.int .i64 n3), (.sl 4 l4)])] [] (onlyV K) := by kernel_rfl
theorem of.ok : codeOk tys (hintsOf of.ah) Tryz.f20.ntmps (Tryz.f20.body.getD .skip) = true := by kernel_rfl
set_option maxHeartbeats 4000000 in
theorem of.calls {n1 s2 n3 l4 K} (h : of.W n1 s2 n3 l4 K) : PCalls ax 20 [(.agg [(.int .i64 n1), (.str s2), (.int .i64 n3), (.sl 4 l4)])] K :=
  afn_run (ah := of.ah) tysOk fnsOk follows eqOk Tryz.func20 (by kernel_rfl) of.ok (by kernel_rfl) (Eq.mp (of.eq n1 s2 n3 l4 K) h)
/-! ### rof: function 22, augur/augurref10.of -/
def rof.ah : AH := ⟨[], [(6, ⟨[(5, [.d (.bool)], false), (25, [.d (.int .i64)], false)], [(2, [.d (.bool), .d (.int .i64), .d (.str), .nw 25 4 false])], [], []⟩)], [], [(22, ⟨[some [.int .i64, .str, .int .i64, .sl 4]], [.ag [.bool, .int .i64, .str, .sl 4], .c (.bool)], []⟩)], [], [some [.bool, .int .i64, .str, .sl 4], some [.bool]], [], [], []⟩
set_option maxRecDepth 100000 in
def rof.W (n1 : Int) (s2 : ByteArray) (n3 : Int) (l4 : List (List V)) (K : List V → Prop) : Prop :=
 (bif (n1 == (2 : Int)) then
 (K [(.agg [(.bool false), (.int .i64 n3), (.str (⟨#[]⟩ : ByteArray)), (.sl 4 [])]), (.bool true)])
 else
 (∃ (I41 : List V → Prop) (μ42 : List V → Nat), I41 [(.bool (n1 == (3 : Int))), (.int .i64 0), (.bool true), (.int .i64 0), (.str s2), (.sl 4 [])] ∧ (∀ (b43 : Bool) (n44 : Int) (b45 : Bool) (n46 : Int) (s47 : ByteArray) (l48 : List (List V)), I41 [(.bool b43), (.int .i64 n44), (.bool b45), (.int .i64 n46), (.str s47), (.sl 4 l48)] →
 (bif (decide (n44 < (List.length l4 : Int))) then
 (0 ≤ n44 ∧ n44 < (List.length l4 : Int) ∧ (∃ (n53 : Int) (s54 : ByteArray) (n55 : Int) (l56 : List (List V)), List.take 4 (Av.rowAt l4 (n44 : Int).toNat) = [(.int .i64 n53), (.str s54), (.int .i64 n55), (.sl 4 l56)] ∧ (PCalls ax 22 [(.agg [(.int .i64 n53), (.str s54), (.int .i64 n55), (.sl 4 l56)])] fun r62 => ∃ (b57 : Bool) (n58 : Int) (s59 : ByteArray) (l60 : List (List V)) (b61 : Bool), r62 = [(.agg [(.bool b57), (.int .i64 n58), (.str s59), (.sl 4 l60)]), (.bool b61)] ∧ (bif b43 then (((List.length l48) + (List.length ([[(.bool b57), (.int .i64 n58), (.str s59), (.sl 4 l60)]] : List (List V)))) * 56 ≤ 140737488355328 ∧ (List.length l48) + (List.length ([[(.bool b57), (.int .i64 n58), (.str s59), (.sl 4 l60)]] : List (List V))) ≤ 140737488355328 ∧ (I41 [(.bool b61), (.int .i64 (IntKind.i64.wrap (n44 + 1))), (.bool b45), (.int .i64 n46), (.str s47), (.sl 4 (l48 ++ [[(.bool b57), (.int .i64 n58), (.str s59), (.sl 4 l60)]]))] ∧ μ42 [(.bool b61), (.int .i64 (IntKind.i64.wrap (n44 + 1))), (.bool b45), (.int .i64 n46), (.str s47), (.sl 4 (l48 ++ [[(.bool b57), (.int .i64 n58), (.str s59), (.sl 4 l60)]]))] < μ42 [(.bool b43), (.int .i64 n44), (.bool b45), (.int .i64 n46), (.str s47), (.sl 4 l48)])) else (((List.length l48) + (List.length ([[(.bool b57), (.int .i64 n58), (.str s59), (.sl 4 l60)]] : List (List V)))) * 56 ≤ 140737488355328 ∧ (List.length l48) + (List.length ([[(.bool b57), (.int .i64 n58), (.str s59), (.sl 4 l60)]] : List (List V))) ≤ 140737488355328 ∧ (I41 [(.bool false), (.int .i64 (IntKind.i64.wrap (n44 + 1))), (.bool b45), (.int .i64 n46), (.str s47), (.sl 4 (l48 ++ [[(.bool b57), (.int .i64 n58), (.str s59), (.sl 4 l60)]]))] ∧ μ42 [(.bool false), (.int .i64 (IntKind.i64.wrap (n44 + 1))), (.bool b45), (.int .i64 n46), (.str s47), (.sl 4 (l48 ++ [[(.bool b57), (.int .i64 n58), (.str s59), (.sl 4 l60)]]))] < μ42 [(.bool b43), (.int .i64 n44), (.bool b45), (.int .i64 n46), (.str s47), (.sl 4 l48)]))))))
 else
 (K [(.agg [(.bool b45), (.int .i64 n46), (.str s47), (.sl 4 l48)]), (.bool b43)])))))
set_option maxRecDepth 100000 in
theorem rof.eq (n1 : Int) (s2 : ByteArray) (n3 : Int) (l4 : List (List V)) (K : List V → Prop) : rof.W n1 s2 n3 l4 K = afn ax rof.ah Tryz.f22 [(.agg [(.int .i64 n1), (.str s2), (.int .i64 n3), (.sl 4 l4)])] [] (onlyV K) := by kernel_rfl
theorem rof.ok : codeOk tys (hintsOf rof.ah) Tryz.f22.ntmps (Tryz.f22.body.getD .skip) = true := by kernel_rfl
set_option maxHeartbeats 4000000 in
theorem rof.calls {n1 s2 n3 l4 K} (h : rof.W n1 s2 n3 l4 K) : PCalls ax 22 [(.agg [(.int .i64 n1), (.str s2), (.int .i64 n3), (.sl 4 l4)])] K :=
  afn_run (ah := rof.ah) tysOk fnsOk follows eqOk Tryz.func22 (by kernel_rfl) rof.ok (by kernel_rfl) (Eq.mp (rof.eq n1 s2 n3 l4 K) h)
/-! ### term: function 25, augur/data.term -/
def term.ah : AH := ⟨[(7, seqO [0, 1, 2, 3, 4, 5, 6, 7])], [(5, ⟨[(18, [.d (.int .i64)], false)], [(2, [.d (.int .i64), .d (.str), .d (.int .i64), .nw 48 4 false])], [], []⟩)], [], [(25, ⟨[some [.bool, .int .i64, .str, .sl 4]], [.ag [.int .i64, .str, .int .i64, .sl 4]], []⟩)], [], [some [.int .i64, .str, .int .i64, .sl 4]], [], [], []⟩
set_option maxRecDepth 100000 in
def term.W (b1 : Bool) (n2 : Int) (s3 : ByteArray) (l4 : List (List V)) (K : List V → Prop) : Prop :=
 (bif (!b1) then
 (K [(.agg [(.int .i64 2), (.str (⟨#[]⟩ : ByteArray)), (.int .i64 n2), (.sl 4 [])])])
 else
 (∃ (I29 : List V → Prop) (μ30 : List V → Nat), I29 [(.int .i64 0), (.int .i64 3), (.str s3), (.int .i64 0), (.sl 4 [])] ∧ (∀ (n31 : Int) (n32 : Int) (s33 : ByteArray) (n34 : Int) (l35 : List (List V)), I29 [(.int .i64 n31), (.int .i64 n32), (.str s33), (.int .i64 n34), (.sl 4 l35)] →
 (bif (decide (n31 < (List.length l4 : Int))) then
 (0 ≤ n31 ∧ n31 < (List.length l4 : Int) ∧ (∃ (b36 : Bool) (n37 : Int) (s38 : ByteArray) (l39 : List (List V)), List.take 4 (Av.rowAt l4 (n31 : Int).toNat) = [(.bool b36), (.int .i64 n37), (.str s38), (.sl 4 l39)] ∧ (PCalls ax 25 [(.agg [(.bool b36), (.int .i64 n37), (.str s38), (.sl 4 l39)])] fun r44 => ∃ (n40 : Int) (s41 : ByteArray) (n42 : Int) (l43 : List (List V)), r44 = [(.agg [(.int .i64 n40), (.str s41), (.int .i64 n42), (.sl 4 l43)])] ∧ (((List.length l35) + (List.length ([[(.int .i64 n40), (.str s41), (.int .i64 n42), (.sl 4 l43)]] : List (List V)))) * 56 ≤ 140737488355328 ∧ (List.length l35) + (List.length ([[(.int .i64 n40), (.str s41), (.int .i64 n42), (.sl 4 l43)]] : List (List V))) ≤ 140737488355328 ∧ (I29 [(.int .i64 (IntKind.i64.wrap (n31 + 1))), (.int .i64 n32), (.str s33), (.int .i64 n34), (.sl 4 (l35 ++ [[(.int .i64 n40), (.str s41), (.int .i64 n42), (.sl 4 l43)]]))] ∧ μ30 [(.int .i64 (IntKind.i64.wrap (n31 + 1))), (.int .i64 n32), (.str s33), (.int .i64 n34), (.sl 4 (l35 ++ [[(.int .i64 n40), (.str s41), (.int .i64 n42), (.sl 4 l43)]]))] < μ30 [(.int .i64 n31), (.int .i64 n32), (.str s33), (.int .i64 n34), (.sl 4 l35)])))))
 else
 (K [(.agg [(.int .i64 n32), (.str s33), (.int .i64 n34), (.sl 4 l35)])])))))
set_option maxRecDepth 100000 in
theorem term.eq (b1 : Bool) (n2 : Int) (s3 : ByteArray) (l4 : List (List V)) (K : List V → Prop) : term.W b1 n2 s3 l4 K = afn ax term.ah Tryz.f25 [(.agg [(.bool b1), (.int .i64 n2), (.str s3), (.sl 4 l4)])] [] (onlyV K) := by kernel_rfl
theorem term.ok : codeOk tys (hintsOf term.ah) Tryz.f25.ntmps (Tryz.f25.body.getD .skip) = true := by kernel_rfl
set_option maxHeartbeats 4000000 in
theorem term.calls {b1 n2 s3 l4 K} (h : term.W b1 n2 s3 l4 K) : PCalls ax 25 [(.agg [(.bool b1), (.int .i64 n2), (.str s3), (.sl 4 l4)])] K :=
  afn_run (ah := term.ah) tysOk fnsOk follows eqOk Tryz.func25 (by kernel_rfl) term.ok (by kernel_rfl) (Eq.mp (term.eq b1 n2 s3 l4 K) h)
/-! ### Good: function 13, augur/data.Good -/
def Good.ah : AH := ⟨[], [], [], [(28, ⟨[some [.bool, .int .i64, .str, .sl 4], some [.int .i64], some [.int .i64]], [.c (.int .i64), .c (.bool)], []⟩)], [], [some [.bool]], [], [], []⟩
set_option maxRecDepth 100000 in
def Good.W (b1 : Bool) (n2 : Int) (s3 : ByteArray) (l4 : List (List V)) (K : List V → Prop) : Prop :=
 (PCalls ax 28 [(.agg [(.bool b1), (.int .i64 n2), (.str s3), (.sl 4 l4)]), (.int .i64 1), (.int .i64 0)] fun r7 => ∃ (n5 : Int) (b6 : Bool), r7 = [(.int .i64 n5), (.bool b6)] ∧ (K [(.bool b6)]))
set_option maxRecDepth 100000 in
theorem Good.eq (b1 : Bool) (n2 : Int) (s3 : ByteArray) (l4 : List (List V)) (K : List V → Prop) : Good.W b1 n2 s3 l4 K = afn ax Good.ah Tryz.f13 [(.agg [(.bool b1), (.int .i64 n2), (.str s3), (.sl 4 l4)])] [] (onlyV K) := by kernel_rfl
theorem Good.ok : codeOk tys (hintsOf Good.ah) Tryz.f13.ntmps (Tryz.f13.body.getD .skip) = true := by kernel_rfl
set_option maxHeartbeats 4000000 in
theorem Good.calls {b1 n2 s3 l4 K} (h : Good.W b1 n2 s3 l4 K) : PCalls ax 13 [(.agg [(.bool b1), (.int .i64 n2), (.str s3), (.sl 4 l4)])] K :=
  afn_run (ah := Good.ah) tysOk fnsOk follows eqOk Tryz.func13 (by kernel_rfl) Good.ok (by kernel_rfl) (Eq.mp (Good.eq b1 n2 s3 l4 K) h)
/-! ### RGood: function 14, augur/augurref10.Good -/
def RGood.ah : AH := ⟨[], [], [], [(29, ⟨[some [.bool, .int .i64, .str, .sl 4], some [.int .i64]], [.c (.int .i64), .c (.int .i64)], []⟩)], [], [some [.bool]], [], [], []⟩
set_option maxRecDepth 100000 in
def RGood.W (b1 : Bool) (n2 : Int) (s3 : ByteArray) (l4 : List (List V)) (K : List V → Prop) : Prop :=
 (PCalls ax 29 [(.agg [(.bool b1), (.int .i64 n2), (.str s3), (.sl 4 l4)]), (.int .i64 1)] fun r7 => ∃ (n5 : Int) (n6 : Int), r7 = [(.int .i64 n5), (.int .i64 n6)] ∧ (bif (decide (n5 ≤ (4096 : Int))) then (K [(.bool (decide (n6 ≤ (200 : Int))))]) else (K [(.bool false)])))
set_option maxRecDepth 100000 in
theorem RGood.eq (b1 : Bool) (n2 : Int) (s3 : ByteArray) (l4 : List (List V)) (K : List V → Prop) : RGood.W b1 n2 s3 l4 K = afn ax RGood.ah Tryz.f14 [(.agg [(.bool b1), (.int .i64 n2), (.str s3), (.sl 4 l4)])] [] (onlyV K) := by kernel_rfl
theorem RGood.ok : codeOk tys (hintsOf RGood.ah) Tryz.f14.ntmps (Tryz.f14.body.getD .skip) = true := by kernel_rfl
set_option maxHeartbeats 4000000 in
theorem RGood.calls {b1 n2 s3 l4 K} (h : RGood.W b1 n2 s3 l4 K) : PCalls ax 14 [(.agg [(.bool b1), (.int .i64 n2), (.str s3), (.sl 4 l4)])] K :=
  afn_run (ah := RGood.ah) tysOk fnsOk follows eqOk Tryz.func14 (by kernel_rfl) RGood.ok (by kernel_rfl) (Eq.mp (RGood.eq b1 n2 s3 l4 K) h)
/-! ### measure: function 28, augur/data.measure -/
def measure.ah : AH := ⟨[], [(7, ⟨[(2, [.d (.int .i64)], false), (28, [.d (.int .i64)], false)], [], [], []⟩)], [], [(28, ⟨[some [.bool, .int .i64, .str, .sl 4], some [.int .i64], some [.int .i64]], [.c (.int .i64), .c (.bool)], []⟩)], [], [some [.int .i64], some [.bool]], [], [], []⟩
set_option maxRecDepth 100000 in
def measure.W (b1 : Bool) (_n2 : Int) (_s3 : ByteArray) (l4 : List (List V)) (n5 : Int) (n6 : Int) (K : List V → Prop) : Prop :=
 (bif (decide (n5 > (200 : Int))) then (K [(.int .i64 (IntKind.i64.wrap (n6 + 1))), (.bool false)]) else (bif (decide ((IntKind.i64.wrap (n6 + 1)) > (4096 : Int))) then
 (K [(.int .i64 (IntKind.i64.wrap (n6 + 1))), (.bool false)])
 else
 (bif (!b1) then
 (K [(.int .i64 (IntKind.i64.wrap (n6 + 1))), (.bool true)])
 else
 (∃ (I20 : List V → Prop) (μ21 : List V → Nat), I20 [(.int .i64 (IntKind.i64.wrap (n6 + 1))), (.int .i64 0)] ∧ (∀ (n22 : Int) (n23 : Int), I20 [(.int .i64 n22), (.int .i64 n23)] →
 (bif (decide (n23 < (List.length l4 : Int))) then
 (0 ≤ n23 ∧ n23 < (List.length l4 : Int) ∧ (∃ (b28 : Bool) (n29 : Int) (s30 : ByteArray) (l31 : List (List V)), List.take 4 (Av.rowAt l4 (n23 : Int).toNat) = [(.bool b28), (.int .i64 n29), (.str s30), (.sl 4 l31)] ∧ (PCalls ax 28 [(.agg [(.bool b28), (.int .i64 n29), (.str s30), (.sl 4 l31)]), (.int .i64 (IntKind.i64.wrap (n5 + 1))), (.int .i64 n22)] fun r34 => ∃ (n32 : Int) (b33 : Bool), r34 = [(.int .i64 n32), (.bool b33)] ∧ (bif (!b33) then
 (K [(.int .i64 n32), (.bool false)])
 else
 (I20 [(.int .i64 n32), (.int .i64 (IntKind.i64.wrap (n23 + 1)))] ∧ μ21 [(.int .i64 n32), (.int .i64 (IntKind.i64.wrap (n23 + 1)))] < μ21 [(.int .i64 n22), (.int .i64 n23)])))))
 else
 (K [(.int .i64 n22), (.bool true)])))))))
set_option maxRecDepth 100000 in
theorem measure.eq (b1 : Bool) (n2 : Int) (s3 : ByteArray) (l4 : List (List V)) (n5 : Int) (n6 : Int) (K : List V → Prop) : measure.W b1 n2 s3 l4 n5 n6 K = afn ax measure.ah Tryz.f28 [(.agg [(.bool b1), (.int .i64 n2), (.str s3), (.sl 4 l4)]), (.int .i64 n5), (.int .i64 n6)] [] (onlyV K) := by kernel_rfl
theorem measure.ok : codeOk tys (hintsOf measure.ah) Tryz.f28.ntmps (Tryz.f28.body.getD .skip) = true := by kernel_rfl
set_option maxHeartbeats 4000000 in
theorem measure.calls {b1 n2 s3 l4 n5 n6 K} (h : measure.W b1 n2 s3 l4 n5 n6 K) : PCalls ax 28 [(.agg [(.bool b1), (.int .i64 n2), (.str s3), (.sl 4 l4)]), (.int .i64 n5), (.int .i64 n6)] K :=
  afn_run (ah := measure.ah) tysOk fnsOk follows eqOk Tryz.func28 (by kernel_rfl) measure.ok (by kernel_rfl) (Eq.mp (measure.eq b1 n2 s3 l4 n5 n6 K) h)
/-! ### count: function 29, augur/augurref10.count -/
def count.ah : AH := ⟨[], [(5, ⟨[(6, [.d (.int .i64)], false), (7, [.d (.int .i64)], false), (25, [.d (.int .i64)], false)], [], [], []⟩)], [], [(29, ⟨[some [.bool, .int .i64, .str, .sl 4], some [.int .i64]], [.c (.int .i64), .c (.int .i64)], []⟩)], [], [some [.int .i64], some [.int .i64]], [], [], []⟩
set_option maxRecDepth 100000 in
def count.W (b1 : Bool) (_n2 : Int) (_s3 : ByteArray) (l4 : List (List V)) (n5 : Int) (K : List V → Prop) : Prop :=
 (bif (decide (n5 > (200 : Int))) then (K [(.int .i64 1), (.int .i64 n5)]) else (bif (!b1) then
 (K [(.int .i64 1), (.int .i64 n5)])
 else
 (∃ (I23 : List V → Prop) (μ24 : List V → Nat), I23 [(.int .i64 1), (.int .i64 n5), (.int .i64 0)] ∧ (∀ (n25 : Int) (n26 : Int) (n27 : Int), I23 [(.int .i64 n25), (.int .i64 n26), (.int .i64 n27)] →
 (bif (decide (n27 < (List.length l4 : Int))) then
 (0 ≤ n27 ∧ n27 < (List.length l4 : Int) ∧ (∃ (b32 : Bool) (n33 : Int) (s34 : ByteArray) (l35 : List (List V)), List.take 4 (Av.rowAt l4 (n27 : Int).toNat) = [(.bool b32), (.int .i64 n33), (.str s34), (.sl 4 l35)] ∧ (PCalls ax 29 [(.agg [(.bool b32), (.int .i64 n33), (.str s34), (.sl 4 l35)]), (.int .i64 (IntKind.i64.wrap (n5 + 1)))] fun r41 => ∃ (n39 : Int) (n40 : Int), r41 = [(.int .i64 n39), (.int .i64 n40)] ∧ (bif (decide (n40 > n26)) then
 (bif (decide ((IntKind.i64.wrap (n25 + n39)) > (4096 : Int))) then
 (K [(.int .i64 4097), (.int .i64 n40)])
 else
 (I23 [(.int .i64 (IntKind.i64.wrap (n25 + n39))), (.int .i64 n40), (.int .i64 (IntKind.i64.wrap (n27 + 1)))] ∧ μ24 [(.int .i64 (IntKind.i64.wrap (n25 + n39))), (.int .i64 n40), (.int .i64 (IntKind.i64.wrap (n27 + 1)))] < μ24 [(.int .i64 n25), (.int .i64 n26), (.int .i64 n27)]))
 else
 (bif (decide ((IntKind.i64.wrap (n25 + n39)) > (4096 : Int))) then
 (K [(.int .i64 4097), (.int .i64 n26)])
 else
 (I23 [(.int .i64 (IntKind.i64.wrap (n25 + n39))), (.int .i64 n26), (.int .i64 (IntKind.i64.wrap (n27 + 1)))] ∧ μ24 [(.int .i64 (IntKind.i64.wrap (n25 + n39))), (.int .i64 n26), (.int .i64 (IntKind.i64.wrap (n27 + 1)))] < μ24 [(.int .i64 n25), (.int .i64 n26), (.int .i64 n27)]))))))
 else
 (K [(.int .i64 n25), (.int .i64 n26)]))))))
set_option maxRecDepth 100000 in
theorem count.eq (b1 : Bool) (n2 : Int) (s3 : ByteArray) (l4 : List (List V)) (n5 : Int) (K : List V → Prop) : count.W b1 n2 s3 l4 n5 K = afn ax count.ah Tryz.f29 [(.agg [(.bool b1), (.int .i64 n2), (.str s3), (.sl 4 l4)]), (.int .i64 n5)] [] (onlyV K) := by kernel_rfl
theorem count.ok : codeOk tys (hintsOf count.ah) Tryz.f29.ntmps (Tryz.f29.body.getD .skip) = true := by kernel_rfl
set_option maxHeartbeats 4000000 in
theorem count.calls {b1 n2 s3 l4 n5 K} (h : count.W b1 n2 s3 l4 n5 K) : PCalls ax 29 [(.agg [(.bool b1), (.int .i64 n2), (.str s3), (.sl 4 l4)]), (.int .i64 n5)] K :=
  afn_run (ah := count.ah) tysOk fnsOk follows eqOk Tryz.func29 (by kernel_rfl) count.ok (by kernel_rfl) (Eq.mp (count.eq b1 n2 s3 l4 n5 K) h)
/-! ### Compare: function 23, augur/augurref10.Compare -/
def Compare.ah : AH := ⟨[(18, seqO [0, 1, 2, 3, 4, 5, 6, 7, 8, 9, 10, 11])], [(16, ⟨[(71, [.d (.int .i64)], false)], [], [], []⟩)], [(2, ⟨[(14, [.d (.bool)], false)], [], [], []⟩), (13, ⟨[], [], [], []⟩)], [(23, ⟨[some [.bool, .int .i64, .str, .sl 4], some [.bool, .int .i64, .str, .sl 4]], [.c (.int .i64)], []⟩)], [], [some [.int .i64]], [], [], []⟩
set_option maxRecDepth 100000 in
def Compare.W (b1 : Bool) (n2 : Int) (s3 : ByteArray) (l4 : List (List V)) (b5 : Bool) (n6 : Int) (s7 : ByteArray) (l8 : List (List V)) (K : List V → Prop) : Prop :=
 (∃ J11 : List V → Prop, (bif (!b1) then (J11 [(.bool true)]) else (J11 [(.bool (!b5))])) ∧
 (∀ (b12 : Bool), J11 [(.bool b12)] →
 (bif b12 then
 (bif b1 then
 (K [(.int .i64 1)])
 else
 (bif b5 then
 (K [(.int .i64 (-1))])
 else
 (bif (decide (n2 < n6)) then
 (K [(.int .i64 (-1))])
 else
 (bif (decide (n2 > n6)) then
 (K [(.int .i64 1)])
 else
 (K [(.int .i64 0)])))))
 else
 (∃ J13 : List V → Prop, (bif (Op.bytesLess s3.toList s7.toList) then (K [(.int .i64 (-1))]) else (bif (strEq s3 s7) then (bif (decide ((List.length l4 : Int) < (List.length l8 : Int))) then
 (K [(.int .i64 (-1))])
 else
 (J13 [])) else (J13 []))) ∧
 (J13 [] →
 (bif (!((Op.bytesLess s3.toList s7.toList) || (s3.toList == s7.toList))) then (K [(.int .i64 1)]) else (bif (decide ((List.length l4 : Int) > (List.length l8 : Int))) then
 (K [(.int .i64 1)])
 else
 (∃ (I25 : List V → Prop) (μ26 : List V → Nat), I25 [(.int .i64 0)] ∧ (∀ (n27 : Int), I25 [(.int .i64 n27)] →
 (bif (decide (n27 < (List.length l4 : Int))) then
 (0 ≤ n27 ∧ n27 < (List.length l4 : Int) ∧ (∃ (b28 : Bool) (n29 : Int) (s30 : ByteArray) (l31 : List (List V)), List.take 4 (Av.rowAt l4 (n27 : Int).toNat) = [(.bool b28), (.int .i64 n29), (.str s30), (.sl 4 l31)] ∧ (0 ≤ n27 ∧ n27 < (List.length l8 : Int) ∧ (∃ (b32 : Bool) (n33 : Int) (s34 : ByteArray) (l35 : List (List V)), List.take 4 (Av.rowAt l8 (n27 : Int).toNat) = [(.bool b32), (.int .i64 n33), (.str s34), (.sl 4 l35)] ∧ (PCalls ax 23 [(.agg [(.bool b28), (.int .i64 n29), (.str s30), (.sl 4 l31)]), (.agg [(.bool b32), (.int .i64 n33), (.str s34), (.sl 4 l35)])] fun r37 => ∃ (n36 : Int), r37 = [(.int .i64 n36)] ∧ (bif (n36 != (0 : Int)) then
 (K [(.int .i64 n36)])
 else
 (I25 [(.int .i64 (IntKind.i64.wrap (n27 + 1)))] ∧ μ26 [(.int .i64 (IntKind.i64.wrap (n27 + 1)))] < μ26 [(.int .i64 n27)])))))))
 else
 (K [(.int .i64 0)])))))))))))
set_option maxRecDepth 100000 in
theorem Compare.eq (b1 : Bool) (n2 : Int) (s3 : ByteArray) (l4 : List (List V)) (b5 : Bool) (n6 : Int) (s7 : ByteArray) (l8 : List (List V)) (K : List V → Prop) : Compare.W b1 n2 s3 l4 b5 n6 s7 l8 K = afn ax Compare.ah Tryz.f23 [(.agg [(.bool b1), (.int .i64 n2), (.str s3), (.sl 4 l4)]), (.agg [(.bool b5), (.int .i64 n6), (.str s7), (.sl 4 l8)])] [] (onlyV K) := by kernel_rfl
theorem Compare.ok : codeOk tys (hintsOf Compare.ah) Tryz.f23.ntmps (Tryz.f23.body.getD .skip) = true := by kernel_rfl
set_option maxHeartbeats 4000000 in
theorem Compare.calls {b1 n2 s3 l4 b5 n6 s7 l8 K} (h : Compare.W b1 n2 s3 l4 b5 n6 s7 l8 K) : PCalls ax 23 [(.agg [(.bool b1), (.int .i64 n2), (.str s3), (.sl 4 l4)]), (.agg [(.bool b5), (.int .i64 n6), (.str s7), (.sl 4 l8)])] K :=
  afn_run (ah := Compare.ah) tysOk fnsOk follows eqOk Tryz.func23 (by kernel_rfl) Compare.ok (by kernel_rfl) (Eq.mp (Compare.eq b1 n2 s3 l4 b5 n6 s7 l8 K) h)
/-! ### Same: function 9, augur/augurref10.Same -/
def Same.ah : AH := ⟨[], [], [], [(23, ⟨[some [.bool, .int .i64, .str, .sl 4], some [.bool, .int .i64, .str, .sl 4]], [.c (.int .i64)], []⟩)], [], [some [.bool]], [], [], []⟩
set_option maxRecDepth 100000 in
def Same.W (b1 : Bool) (n2 : Int) (s3 : ByteArray) (l4 : List (List V)) (b5 : Bool) (n6 : Int) (s7 : ByteArray) (l8 : List (List V)) (K : List V → Prop) : Prop :=
 (PCalls ax 23 [(.agg [(.bool b1), (.int .i64 n2), (.str s3), (.sl 4 l4)]), (.agg [(.bool b5), (.int .i64 n6), (.str s7), (.sl 4 l8)])] fun r10 => ∃ (n9 : Int), r10 = [(.int .i64 n9)] ∧ (K [(.bool (n9 == (0 : Int)))]))
set_option maxRecDepth 100000 in
theorem Same.eq (b1 : Bool) (n2 : Int) (s3 : ByteArray) (l4 : List (List V)) (b5 : Bool) (n6 : Int) (s7 : ByteArray) (l8 : List (List V)) (K : List V → Prop) : Same.W b1 n2 s3 l4 b5 n6 s7 l8 K = afn ax Same.ah Tryz.f9 [(.agg [(.bool b1), (.int .i64 n2), (.str s3), (.sl 4 l4)]), (.agg [(.bool b5), (.int .i64 n6), (.str s7), (.sl 4 l8)])] [] (onlyV K) := by kernel_rfl
theorem Same.ok : codeOk tys (hintsOf Same.ah) Tryz.f9.ntmps (Tryz.f9.body.getD .skip) = true := by kernel_rfl
set_option maxHeartbeats 4000000 in
theorem Same.calls {b1 n2 s3 l4 b5 n6 s7 l8 K} (h : Same.W b1 n2 s3 l4 b5 n6 s7 l8 K) : PCalls ax 9 [(.agg [(.bool b1), (.int .i64 n2), (.str s3), (.sl 4 l4)]), (.agg [(.bool b5), (.int .i64 n6), (.str s7), (.sl 4 l8)])] K :=
  afn_run (ah := Same.ah) tysOk fnsOk follows eqOk Tryz.func9 (by kernel_rfl) Same.ok (by kernel_rfl) (Eq.mp (Same.eq b1 n2 s3 l4 b5 n6 s7 l8 K) h)
/-! ### PTerm: function 24, augur/print.Term -/
def PTerm.ah : AH := ⟨[(2, seqO [0, 1, 3, 4, 2, 5, 6, 7]), (3, seqO [0, 1, 2, 3, 4, 5, 6])], [], [], [(38, ⟨[some [.int .i64]], [.c (.str)], []⟩), (39, ⟨[some [.sl 4], none], [.c (.str)], []⟩)], [], [some [.str]], [], [], []⟩
set_option maxRecDepth 100000 in
def PTerm.W (n1 : Int) (s2 : ByteArray) (n3 : Int) (l4 : List (List V)) (K : List V → Prop) : Prop :=
 (bif (n1 == (2 : Int)) then
 (PCalls ax 38 [(.int .i64 n3)] fun r6 => ∃ (s5 : ByteArray), r6 = [(.str s5)] ∧ (PCalls ax 39 [(.sl 4 l4), (.fn 24 [] [])] fun r8 => ∃ (s7 : ByteArray), r8 = [(.str s7)] ∧ (((s5.size + s7.size : Nat) : Int) ≤ IntKind.i64.max ∧ (K [(.str (s5 ++ s7))]))))
 else
 (PCalls ax 39 [(.sl 4 l4), (.fn 24 [] [])] fun r10 => ∃ (s9 : ByteArray), r10 = [(.str s9)] ∧ (((s2.size + s9.size : Nat) : Int) ≤ IntKind.i64.max ∧ (K [(.str (s2 ++ s9))]))))
set_option maxRecDepth 100000 in
theorem PTerm.eq (n1 : Int) (s2 : ByteArray) (n3 : Int) (l4 : List (List V)) (K : List V → Prop) : PTerm.W n1 s2 n3 l4 K = afn ax PTerm.ah Tryz.f24 [(.agg [(.int .i64 n1), (.str s2), (.int .i64 n3), (.sl 4 l4)])] [] (onlyV K) := by kernel_rfl
theorem PTerm.ok : codeOk tys (hintsOf PTerm.ah) Tryz.f24.ntmps (Tryz.f24.body.getD .skip) = true := by kernel_rfl
set_option maxHeartbeats 4000000 in
theorem PTerm.calls {n1 s2 n3 l4 K} (h : PTerm.W n1 s2 n3 l4 K) : PCalls ax 24 [(.agg [(.int .i64 n1), (.str s2), (.int .i64 n3), (.sl 4 l4)])] K :=
  afn_run (ah := PTerm.ah) tysOk fnsOk follows eqOk Tryz.func24 (by kernel_rfl) PTerm.ok (by kernel_rfl) (Eq.mp (PTerm.eq n1 s2 n3 l4 K) h)
/-! ### pargs: function 39, augur/print.args[augur/api.Term] -/
def pargs.ah : AH := ⟨[], [(5, ⟨[(16, [.d (.int .i64)], false)], [], [(0, 9, 1, false)], []⟩)], [], [(24, ⟨[some [.int .i64, .str, .int .i64, .sl 4]], [.c (.str)], []⟩), (55, ⟨[some [.sl 1], some [.str]], [.c (.str)], []⟩)], [], [some [.str]], [], [], []⟩
set_option maxRecDepth 100000 in
def pargs.W (l1 : List (List V)) (K : List V → Prop) : Prop :=
 (bif ((List.length l1 : Int) == (0 : Int)) then
 (K [(.str (⟨#[]⟩ : ByteArray))])
 else
 (0 ≤ (List.length l1 : Int) ∧ (List.length l1 : Int) ≤ (List.length l1 : Int) ∧ (List.length l1 : Int) ≤ 140737488355328 ∧ ((16 : Nat) : Int) * (List.length l1 : Int) ≤ 140737488355328 ∧ (∃ (I17 : List V → Prop) (μ18 : List V → Nat), I17 [(.int .i64 0), (.sl 1 (List.replicate (((List.length l1 : Int) : Int).toNat) [(.str (⟨#[]⟩ : ByteArray))]))] ∧ (∀ (n19 : Int) (l20 : List (List V)), I17 [(.int .i64 n19), (.sl 1 l20)] →
 (bif (decide (n19 < (List.length l1 : Int))) then
 (0 ≤ n19 ∧ n19 < (List.length l1 : Int) ∧ (∃ (n21 : Int) (s22 : ByteArray) (n23 : Int) (l24 : List (List V)), List.take 4 (Av.rowAt l1 (n19 : Int).toNat) = [(.int .i64 n21), (.str s22), (.int .i64 n23), (.sl 4 l24)] ∧ (PCalls ax 24 [(.agg [(.int .i64 n21), (.str s22), (.int .i64 n23), (.sl 4 l24)])] fun r26 => ∃ (s25 : ByteArray), r26 = [(.str s25)] ∧ (0 ≤ n19 ∧ n19 < (List.length l20 : Int) ∧ (((n19 : Int).toNat) < List.length l20 ∧ (I17 [(.int .i64 (IntKind.i64.wrap (n19 + 1))), (.sl 1 (List.set l20 ((n19 : Int).toNat) [(.str s25)]))] ∧ μ18 [(.int .i64 (IntKind.i64.wrap (n19 + 1))), (.sl 1 (List.set l20 ((n19 : Int).toNat) [(.str s25)]))] < μ18 [(.int .i64 n19), (.sl 1 l20)]))))))
 else
 (PCalls ax 55 [(.sl 1 l20), (.str (⟨#[44, 32]⟩ : ByteArray))] fun r28 => ∃ (s27 : ByteArray), r28 = [(.str s27)] ∧ ((((⟨#[40]⟩ : ByteArray).size + s27.size : Nat) : Int) ≤ IntKind.i64.max ∧ (((((⟨#[40]⟩ : ByteArray) ++ s27).size + (⟨#[41]⟩ : ByteArray).size : Nat) : Int) ≤ IntKind.i64.max ∧ (K [(.str (((⟨#[40]⟩ : ByteArray) ++ s27) ++ (⟨#[41]⟩ : ByteArray)))])))))))))
set_option maxRecDepth 100000 in
theorem pargs.eq (l1 : List (List V)) (K : List V → Prop) : pargs.W l1 K = afn ax pargs.ah Tryz.f39 [(.sl 4 l1), (.fn 24 [] [])] [] (onlyV K) := by kernel_rfl
theorem pargs.ok : codeOk tys (hintsOf pargs.ah) Tryz.f39.ntmps (Tryz.f39.body.getD .skip) = true := by kernel_rfl
set_option maxHeartbeats 4000000 in
theorem pargs.calls {l1 K} (h : pargs.W l1 K) : PCalls ax 39 [(.sl 4 l1), (.fn 24 [] [])] K :=
  afn_run (ah := pargs.ah) tysOk fnsOk follows eqOk Tryz.func39 (by kernel_rfl) pargs.ok (by kernel_rfl) (Eq.mp (pargs.eq l1 K) h)
/-! ### Reserved: function 58, augur/lex.Reserved -/
def Reserved.ah : AH := ⟨[], [], [], [], [], [some [.bool]], [], [], []⟩
set_option maxRecDepth 100000 in
def Reserved.W (s1 : ByteArray) (K : List V → Prop) : Prop :=
 (bif (strEq s1 (⟨#[116, 121, 112, 101]⟩ : ByteArray)) then
 (K [(.bool true)])
 else
 (bif (strEq s1 (⟨#[112, 114, 101, 100]⟩ : ByteArray)) then
 (K [(.bool true)])
 else
 (bif (strEq s1 (⟨#[109, 111, 100, 101]⟩ : ByteArray)) then
 (K [(.bool true)])
 else
 (bif (strEq s1 (⟨#[105, 115]⟩ : ByteArray)) then
 (K [(.bool true)])
 else
 (bif (strEq s1 (⟨#[100, 101, 116]⟩ : ByteArray)) then
 (K [(.bool true)])
 else
 (bif (strEq s1 (⟨#[115, 101, 109, 105, 100, 101, 116]⟩ : ByteArray)) then
 (K [(.bool true)])
 else
 (bif (strEq s1 (⟨#[109, 117, 108, 116, 105]⟩ : ByteArray)) then
 (K [(.bool true)])
 else
 (bif (strEq s1 (⟨#[110, 111, 110, 100, 101, 116]⟩ : ByteArray)) then
 (K [(.bool true)])
 else
 (bif (strEq s1 (⟨#[105, 110]⟩ : ByteArray)) then
 (K [(.bool true)])
 else
 (bif (strEq s1 (⟨#[111, 117, 116]⟩ : ByteArray)) then
 (K [(.bool true)])
 else
 (bif (strEq s1 (⟨#[116, 114, 117, 101]⟩ : ByteArray)) then
 (K [(.bool true)])
 else
 (bif (strEq s1 (⟨#[102, 97, 105, 108]⟩ : ByteArray)) then
 (K [(.bool true)])
 else
 (bif (strEq s1 (⟨#[110, 111, 116]⟩ : ByteArray)) then
 (K [(.bool true)])
 else
 (bif (strEq s1 (⟨#[116, 104, 114, 111, 119]⟩ : ByteArray)) then
 (K [(.bool true)])
 else
 (bif (strEq s1 (⟨#[116, 114, 121]⟩ : ByteArray)) then
 (K [(.bool true)])
 else
 (bif (strEq s1 (⟨#[99, 97, 116, 99, 104]⟩ : ByteArray)) then
 (K [(.bool true)])
 else
 (bif (strEq s1 (⟨#[116, 104, 101, 110]⟩ : ByteArray)) then
 (K [(.bool true)])
 else
 (bif (strEq s1 (⟨#[105, 110, 116]⟩ : ByteArray)) then
 (K [(.bool true)])
 else
 (K [(.bool false)])))))))))))))))))))
set_option maxRecDepth 100000 in
theorem Reserved.eq (s1 : ByteArray) (K : List V → Prop) : Reserved.W s1 K = afn ax Reserved.ah Tryz.f58 [(.str s1)] [] (onlyV K) := by kernel_rfl
theorem Reserved.ok : codeOk tys (hintsOf Reserved.ah) Tryz.f58.ntmps (Tryz.f58.body.getD .skip) = true := by kernel_rfl
set_option maxHeartbeats 4000000 in
theorem Reserved.calls {s1 K} (h : Reserved.W s1 K) : PCalls ax 58 [(.str s1)] K :=
  afn_run (ah := Reserved.ah) tysOk fnsOk follows eqOk Tryz.func58 (by kernel_rfl) Reserved.ok (by kernel_rfl) (Eq.mp (Reserved.eq s1 K) h)
/-! ### RReserved: function 63, augur/augurref01.Reserved -/
def RReserved.ah : AH := ⟨[], [(2, ⟨[(7, [.d (.int .i64)], false)], [], [], []⟩)], [], [], [], [some [.bool]], [], [], []⟩
set_option maxRecDepth 100000 in
def RReserved.W (s1 : ByteArray) (K : List V → Prop) : Prop :=
 (∃ (I4 : List V → Prop) (μ5 : List V → Nat), I4 [(.int .i64 0)] ∧ (∀ (n6 : Int), I4 [(.int .i64 n6)] →
 (bif (decide (n6 < (List.length ([[(.str (⟨#[116, 121, 112, 101]⟩ : ByteArray))], [(.str (⟨#[112, 114, 101, 100]⟩ : ByteArray))], [(.str (⟨#[109, 111, 100, 101]⟩ : ByteArray))], [(.str (⟨#[105, 115]⟩ : ByteArray))], [(.str (⟨#[100, 101, 116]⟩ : ByteArray))], [(.str (⟨#[115, 101, 109, 105, 100, 101, 116]⟩ : ByteArray))], [(.str (⟨#[109, 117, 108, 116, 105]⟩ : ByteArray))], [(.str (⟨#[110, 111, 110, 100, 101, 116]⟩ : ByteArray))], [(.str (⟨#[105, 110]⟩ : ByteArray))], [(.str (⟨#[111, 117, 116]⟩ : ByteArray))], [(.str (⟨#[116, 114, 117, 101]⟩ : ByteArray))], [(.str (⟨#[102, 97, 105, 108]⟩ : ByteArray))], [(.str (⟨#[110, 111, 116]⟩ : ByteArray))], [(.str (⟨#[116, 104, 114, 111, 119]⟩ : ByteArray))], [(.str (⟨#[116, 114, 121]⟩ : ByteArray))], [(.str (⟨#[99, 97, 116, 99, 104]⟩ : ByteArray))], [(.str (⟨#[116, 104, 101, 110]⟩ : ByteArray))], [(.str (⟨#[105, 110, 116]⟩ : ByteArray))]] : List (List V)) : Int))) then
 (0 ≤ n6 ∧ n6 < (List.length ([[(.str (⟨#[116, 121, 112, 101]⟩ : ByteArray))], [(.str (⟨#[112, 114, 101, 100]⟩ : ByteArray))], [(.str (⟨#[109, 111, 100, 101]⟩ : ByteArray))], [(.str (⟨#[105, 115]⟩ : ByteArray))], [(.str (⟨#[100, 101, 116]⟩ : ByteArray))], [(.str (⟨#[115, 101, 109, 105, 100, 101, 116]⟩ : ByteArray))], [(.str (⟨#[109, 117, 108, 116, 105]⟩ : ByteArray))], [(.str (⟨#[110, 111, 110, 100, 101, 116]⟩ : ByteArray))], [(.str (⟨#[105, 110]⟩ : ByteArray))], [(.str (⟨#[111, 117, 116]⟩ : ByteArray))], [(.str (⟨#[116, 114, 117, 101]⟩ : ByteArray))], [(.str (⟨#[102, 97, 105, 108]⟩ : ByteArray))], [(.str (⟨#[110, 111, 116]⟩ : ByteArray))], [(.str (⟨#[116, 104, 114, 111, 119]⟩ : ByteArray))], [(.str (⟨#[116, 114, 121]⟩ : ByteArray))], [(.str (⟨#[99, 97, 116, 99, 104]⟩ : ByteArray))], [(.str (⟨#[116, 104, 101, 110]⟩ : ByteArray))], [(.str (⟨#[105, 110, 116]⟩ : ByteArray))]] : List (List V)) : Int) ∧ (∃ (s7 : ByteArray), List.take 1 (Av.rowAt [[(.str (⟨#[116, 121, 112, 101]⟩ : ByteArray))], [(.str (⟨#[112, 114, 101, 100]⟩ : ByteArray))], [(.str (⟨#[109, 111, 100, 101]⟩ : ByteArray))], [(.str (⟨#[105, 115]⟩ : ByteArray))], [(.str (⟨#[100, 101, 116]⟩ : ByteArray))], [(.str (⟨#[115, 101, 109, 105, 100, 101, 116]⟩ : ByteArray))], [(.str (⟨#[109, 117, 108, 116, 105]⟩ : ByteArray))], [(.str (⟨#[110, 111, 110, 100, 101, 116]⟩ : ByteArray))], [(.str (⟨#[105, 110]⟩ : ByteArray))], [(.str (⟨#[111, 117, 116]⟩ : ByteArray))], [(.str (⟨#[116, 114, 117, 101]⟩ : ByteArray))], [(.str (⟨#[102, 97, 105, 108]⟩ : ByteArray))], [(.str (⟨#[110, 111, 116]⟩ : ByteArray))], [(.str (⟨#[116, 104, 114, 111, 119]⟩ : ByteArray))], [(.str (⟨#[116, 114, 121]⟩ : ByteArray))], [(.str (⟨#[99, 97, 116, 99, 104]⟩ : ByteArray))], [(.str (⟨#[116, 104, 101, 110]⟩ : ByteArray))], [(.str (⟨#[105, 110, 116]⟩ : ByteArray))]] ((n6 : Int).toNat)) = [(.str s7)] ∧ (bif (strEq s7 s1) then
 (K [(.bool true)])
 else
 (I4 [(.int .i64 (IntKind.i64.wrap (n6 + 1)))] ∧ μ5 [(.int .i64 (IntKind.i64.wrap (n6 + 1)))] < μ5 [(.int .i64 n6)]))))
 else
 (K [(.bool false)]))))
set_option maxRecDepth 100000 in
theorem RReserved.eq (s1 : ByteArray) (K : List V → Prop) : RReserved.W s1 K = afn ax RReserved.ah Tryz.f63 [(.str s1)] [] (onlyV K) := by kernel_rfl
theorem RReserved.ok : codeOk tys (hintsOf RReserved.ah) Tryz.f63.ntmps (Tryz.f63.body.getD .skip) = true := by kernel_rfl
set_option maxHeartbeats 4000000 in
theorem RReserved.calls {s1 K} (h : RReserved.W s1 K) : PCalls ax 63 [(.str s1)] K :=
  afn_run (ah := RReserved.ah) tysOk fnsOk follows eqOk Tryz.func63 (by kernel_rfl) RReserved.ok (by kernel_rfl) (Eq.mp (RReserved.eq s1 K) h)
/-! ### Read: function 6, augur/data.Read -/
def Read.ah : AH := ⟨[(6, seqO [0, 1, 2, 3]), (8, seqO [0, 1, 2, 3])], [], [], [(13, ⟨[some [.bool, .int .i64, .str, .sl 4]], [.c (.bool)], []⟩), (19, ⟨[some [.str]], [.ag [.int .i64, .str, .int .i64, .sl 4], .c (.err)], []⟩), (20, ⟨[some [.int .i64, .str, .int .i64, .sl 4]], [.ag [.bool, .int .i64, .str, .sl 4], .c (.bool)], []⟩)], [], [some [.bool, .int .i64, .str, .sl 4], some [.err]], [], [], []⟩
set_option maxRecDepth 100000 in
def Read.W (s1 : ByteArray) (K : List V → Prop) : Prop :=
 (PCalls ax 19 [(.str s1)] fun r13 => ∃ (n8 : Int) (s9 : ByteArray) (n10 : Int) (l11 : List (List V)) (x12 : Option Nat), r13 = [(.agg [(.int .i64 n8), (.str s9), (.int .i64 n10), (.sl 4 l11)]), (.err x12)] ∧ (bif (!(Option.isNone x12)) then
 (K [(.agg [(.bool false), (.int .i64 0), (.str (⟨#[]⟩ : ByteArray)), (.sl 4 [])]), (.err x12)])
 else
 (PCalls ax 20 [(.agg [(.int .i64 n8), (.str s9), (.int .i64 n10), (.sl 4 l11)])] fun r25 => ∃ (b20 : Bool) (n21 : Int) (s22 : ByteArray) (l23 : List (List V)) (b24 : Bool), r25 = [(.agg [(.bool b20), (.int .i64 n21), (.str s22), (.sl 4 l23)]), (.bool b24)] ∧ (bif (!b24) then
 (K [(.agg [(.bool false), (.int .i64 0), (.str (⟨#[]⟩ : ByteArray)), (.sl 4 [])]), (.err (some 1))])
 else
 (PCalls ax 13 [(.agg [(.bool b20), (.int .i64 n21), (.str s22), (.sl 4 l23)])] fun r27 => ∃ (b26 : Bool), r27 = [(.bool b26)] ∧ (bif (!b26) then
 (K [(.agg [(.bool false), (.int .i64 0), (.str (⟨#[]⟩ : ByteArray)), (.sl 4 [])]), (.err (some 0))])
 else
 (K [(.agg [(.bool b20), (.int .i64 n21), (.str s22), (.sl 4 l23)]), (.err none)])))))))
set_option maxRecDepth 100000 in
theorem Read.eq (s1 : ByteArray) (K : List V → Prop) : Read.W s1 K = afn ax Read.ah Tryz.f6 [(.str s1)] [] (onlyV K) := by kernel_rfl
theorem Read.ok : codeOk tys (hintsOf Read.ah) Tryz.f6.ntmps (Tryz.f6.body.getD .skip) = true := by kernel_rfl
set_option maxHeartbeats 4000000 in
theorem Read.calls {s1 K} (h : Read.W s1 K) : PCalls ax 6 [(.str s1)] K :=
  afn_run (ah := Read.ah) tysOk fnsOk follows eqOk Tryz.func6 (by kernel_rfl) Read.ok (by kernel_rfl) (Eq.mp (Read.eq s1 K) h)
/-! ### RRead: function 7, augur/augurref10.Read -/
def RRead.ah : AH := ⟨[], [], [], [(14, ⟨[some [.bool, .int .i64, .str, .sl 4]], [.c (.bool)], []⟩), (21, ⟨[some [.str]], [.ag [.int .i64, .str, .int .i64, .sl 4], .c (.int .i64)], []⟩), (22, ⟨[some [.int .i64, .str, .int .i64, .sl 4]], [.ag [.bool, .int .i64, .str, .sl 4], .c (.bool)], []⟩)], [], [some [.bool, .int .i64, .str, .sl 4], some [.int .i64]], [], [], []⟩
set_option maxRecDepth 100000 in
def RRead.W (s1 : ByteArray) (K : List V → Prop) : Prop :=
 (PCalls ax 21 [(.str s1)] fun r13 => ∃ (n8 : Int) (s9 : ByteArray) (n10 : Int) (l11 : List (List V)) (n12 : Int), r13 = [(.agg [(.int .i64 n8), (.str s9), (.int .i64 n10), (.sl 4 l11)]), (.int .i64 n12)] ∧ (bif (n12 != (0 : Int)) then
 (K [(.agg [(.bool false), (.int .i64 0), (.str (⟨#[]⟩ : ByteArray)), (.sl 4 [])]), (.int .i64 n12)])
 else
 (PCalls ax 22 [(.agg [(.int .i64 n8), (.str s9), (.int .i64 n10), (.sl 4 l11)])] fun r25 => ∃ (b20 : Bool) (n21 : Int) (s22 : ByteArray) (l23 : List (List V)) (b24 : Bool), r25 = [(.agg [(.bool b20), (.int .i64 n21), (.str s22), (.sl 4 l23)]), (.bool b24)] ∧ (bif (!b24) then
 (K [(.agg [(.bool false), (.int .i64 0), (.str (⟨#[]⟩ : ByteArray)), (.sl 4 [])]), (.int .i64 10)])
 else
 (PCalls ax 14 [(.agg [(.bool b20), (.int .i64 n21), (.str s22), (.sl 4 l23)])] fun r27 => ∃ (b26 : Bool), r27 = [(.bool b26)] ∧ (bif (!b26) then
 (K [(.agg [(.bool false), (.int .i64 0), (.str (⟨#[]⟩ : ByteArray)), (.sl 4 [])]), (.int .i64 4)])
 else
 (K [(.agg [(.bool b20), (.int .i64 n21), (.str s22), (.sl 4 l23)]), (.int .i64 0)])))))))
set_option maxRecDepth 100000 in
theorem RRead.eq (s1 : ByteArray) (K : List V → Prop) : RRead.W s1 K = afn ax RRead.ah Tryz.f7 [(.str s1)] [] (onlyV K) := by kernel_rfl
theorem RRead.ok : codeOk tys (hintsOf RRead.ah) Tryz.f7.ntmps (Tryz.f7.body.getD .skip) = true := by kernel_rfl
set_option maxHeartbeats 4000000 in
theorem RRead.calls {s1 K} (h : RRead.W s1 K) : PCalls ax 7 [(.str s1)] K :=
  afn_run (ah := RRead.ah) tysOk fnsOk follows eqOk Tryz.func7 (by kernel_rfl) RRead.ok (by kernel_rfl) (Eq.mp (RRead.eq s1 K) h)
/-! ### Text: function 10, augur/data.Text -/
def Text.ah : AH := ⟨[(2, seqO [0, 1, 2])], [], [], [(13, ⟨[some [.bool, .int .i64, .str, .sl 4]], [.c (.bool)], []⟩), (24, ⟨[some [.int .i64, .str, .int .i64, .sl 4]], [.c (.str)], []⟩), (25, ⟨[some [.bool, .int .i64, .str, .sl 4]], [.ag [.int .i64, .str, .int .i64, .sl 4]], []⟩)], [], [some [.str], some [.err]], [], [], []⟩
set_option maxRecDepth 100000 in
def Text.W (b1 : Bool) (n2 : Int) (s3 : ByteArray) (l4 : List (List V)) (K : List V → Prop) : Prop :=
 (PCalls ax 13 [(.agg [(.bool b1), (.int .i64 n2), (.str s3), (.sl 4 l4)])] fun r6 => ∃ (b5 : Bool), r6 = [(.bool b5)] ∧ (bif (!b5) then
 (K [(.str (⟨#[]⟩ : ByteArray)), (.err (some 0))])
 else
 (PCalls ax 25 [(.agg [(.bool b1), (.int .i64 n2), (.str s3), (.sl 4 l4)])] fun r11 => ∃ (n7 : Int) (s8 : ByteArray) (n9 : Int) (l10 : List (List V)), r11 = [(.agg [(.int .i64 n7), (.str s8), (.int .i64 n9), (.sl 4 l10)])] ∧ (PCalls ax 24 [(.agg [(.int .i64 n7), (.str s8), (.int .i64 n9), (.sl 4 l10)])] fun r13 => ∃ (s12 : ByteArray), r13 = [(.str s12)] ∧ (K [(.str s12), (.err none)])))))
set_option maxRecDepth 100000 in
theorem Text.eq (b1 : Bool) (n2 : Int) (s3 : ByteArray) (l4 : List (List V)) (K : List V → Prop) : Text.W b1 n2 s3 l4 K = afn ax Text.ah Tryz.f10 [(.agg [(.bool b1), (.int .i64 n2), (.str s3), (.sl 4 l4)])] [] (onlyV K) := by kernel_rfl
theorem Text.ok : codeOk tys (hintsOf Text.ah) Tryz.f10.ntmps (Tryz.f10.body.getD .skip) = true := by kernel_rfl
set_option maxHeartbeats 4000000 in
theorem Text.calls {b1 n2 s3 l4 K} (h : Text.W b1 n2 s3 l4 K) : PCalls ax 10 [(.agg [(.bool b1), (.int .i64 n2), (.str s3), (.sl 4 l4)])] K :=
  afn_run (ah := Text.ah) tysOk fnsOk follows eqOk Tryz.func10 (by kernel_rfl) Text.ok (by kernel_rfl) (Eq.mp (Text.eq b1 n2 s3 l4 K) h)
/-! ### Term: function 19, augur/parse.Term -/
def Term.ah : AH := ⟨[], [], [], [(32, ⟨[some [.str], none], [.ag [.int .i64, .str, .int .i64, .sl 4], .c (.err)], []⟩)], [], [some [.int .i64, .str, .int .i64, .sl 4], some [.err]], [], [], []⟩
set_option maxRecDepth 100000 in
def Term.W (s1 : ByteArray) (K : List V → Prop) : Prop :=
 (PCalls ax 32 [(.str s1), (.fn 33 [] [])] fun r7 => ∃ (n2 : Int) (s3 : ByteArray) (n4 : Int) (l5 : List (List V)) (x6 : Option Nat), r7 = [(.agg [(.int .i64 n2), (.str s3), (.int .i64 n4), (.sl 4 l5)]), (.err x6)] ∧ (K [(.agg [(.int .i64 n2), (.str s3), (.int .i64 n4), (.sl 4 l5)]), (.err x6)]))
set_option maxRecDepth 100000 in
theorem Term.eq (s1 : ByteArray) (K : List V → Prop) : Term.W s1 K = afn ax Term.ah Tryz.f19 [(.str s1)] [] (onlyV K) := by kernel_rfl
theorem Term.ok : codeOk tys (hintsOf Term.ah) Tryz.f19.ntmps (Tryz.f19.body.getD .skip) = true := by kernel_rfl
set_option maxHeartbeats 4000000 in
theorem Term.calls {s1 K} (h : Term.W s1 K) : PCalls ax 19 [(.str s1)] K :=
  afn_run (ah := Term.ah) tysOk fnsOk follows eqOk Tryz.func19 (by kernel_rfl) Term.ok (by kernel_rfl) (Eq.mp (Term.eq s1 K) h)
/-! ### Num: function 8, augur/augurnum.Num -/
def Num.ah : AH := ⟨[], [(5, ⟨[(27, [.d (.int .i64)], false)], [], [], []⟩)], [], [], [], [some [.int .i64]], [], [], []⟩
set_option maxRecDepth 100000 in
def Num.W (x1 : Option Nat) (K : List V → Prop) : Prop :=
 (bif (Option.isNone x1) then
 (K [(.int .i64 0)])
 else
 (∃ (I4 : List V → Prop) (μ5 : List V → Nat), I4 [(.int .i64 0)] ∧ (∀ (n6 : Int), I4 [(.int .i64 n6)] →
 (bif (decide (n6 < (List.length ([[(.err (some 2))], [(.err (some 3))], [(.err (some 4))], [(.err (some 0))], [(.err (some 5))], [(.err (some 6))], [(.err (some 7))], [(.err (some 8))], [(.err (some 9))], [(.err (some 1))], [(.err (some 10))], [(.err (some 11))], [(.err (some 12))], [(.err (some 13))], [(.err (some 14))], [(.err (some 15))]] : List (List V)) : Int))) then
 (0 ≤ n6 ∧ n6 < (List.length ([[(.err (some 2))], [(.err (some 3))], [(.err (some 4))], [(.err (some 0))], [(.err (some 5))], [(.err (some 6))], [(.err (some 7))], [(.err (some 8))], [(.err (some 9))], [(.err (some 1))], [(.err (some 10))], [(.err (some 11))], [(.err (some 12))], [(.err (some 13))], [(.err (some 14))], [(.err (some 15))]] : List (List V)) : Int) ∧ (∃ (x7 : Option Nat), List.take 1 (Av.rowAt [[(.err (some 2))], [(.err (some 3))], [(.err (some 4))], [(.err (some 0))], [(.err (some 5))], [(.err (some 6))], [(.err (some 7))], [(.err (some 8))], [(.err (some 9))], [(.err (some 1))], [(.err (some 10))], [(.err (some 11))], [(.err (some 12))], [(.err (some 13))], [(.err (some 14))], [(.err (some 15))]] ((n6 : Int).toNat)) = [(.err x7)] ∧ (ernW x1 x7 (bif (errEq x1 x7) then
 (K [(.int .i64 (IntKind.i64.wrap (n6 + 1)))])
 else
 (I4 [(.int .i64 (IntKind.i64.wrap (n6 + 1)))] ∧ μ5 [(.int .i64 (IntKind.i64.wrap (n6 + 1)))] < μ5 [(.int .i64 n6)])))))
 else
 (K [(.int .i64 (-1))])))))
set_option maxRecDepth 100000 in
theorem Num.eq (x1 : Option Nat) (K : List V → Prop) : Num.W x1 K = afn ax Num.ah Tryz.f8 [(.err x1)] [] (onlyV K) := by kernel_rfl
theorem Num.ok : codeOk tys (hintsOf Num.ah) Tryz.f8.ntmps (Tryz.f8.body.getD .skip) = true := by kernel_rfl
set_option maxHeartbeats 4000000 in
theorem Num.calls {x1 K} (h : Num.W x1 K) : PCalls ax 8 [(.err x1)] K :=
  afn_run (ah := Num.ah) tysOk fnsOk follows eqOk Tryz.func8 (by kernel_rfl) Num.ok (by kernel_rfl) (Eq.mp (Num.eq x1 K) h)
/-! ### alive: function 5, augur/augurlaw10.alive -/
def alive.ah : AH := ⟨[], [], [], [(11, ⟨[some [.bool, .int .i64, .str, .sl 4]], [.c (.sl 1), .c (.err)], []⟩)], [], [some [.bool]], [], [], []⟩
set_option maxRecDepth 100000 in
def alive.W  (K : List V → Prop) : Prop :=
 (PCalls ax 11 [(.agg [(.bool true), (.int .i64 0), (.str (⟨#[99, 111, 110, 115]⟩ : ByteArray)), (.sl 4 [[(.bool false), (.int .i64 1), (.str (⟨#[]⟩ : ByteArray)), (.sl 4 [])], [(.bool true), (.int .i64 0), (.str (⟨#[110, 105, 108]⟩ : ByteArray)), (.sl 4 [])]])])] fun r3 => ∃ (l1 : List (List V)) (x2 : Option Nat), r3 = [(.sl 1 l1), (.err x2)] ∧ (bif (Option.isNone x2) then (∃ s4 : ByteArray, l1 = rowsOf s4 ∧ (K [(.bool (strEq s4 (⟨#[1, 4, 99, 111, 110, 115, 2, 0, 1, 0, 0, 0, 0, 0, 0, 0, 1, 3, 110, 105, 108, 0]⟩ : ByteArray)))])) else (K [(.bool false)])))
set_option maxRecDepth 100000 in
theorem alive.eq  (K : List V → Prop) : alive.W  K = afn ax alive.ah Tryz.f5 [] [] (onlyV K) := by kernel_rfl
theorem alive.ok : codeOk tys (hintsOf alive.ah) Tryz.f5.ntmps (Tryz.f5.body.getD .skip) = true := by kernel_rfl
set_option maxHeartbeats 4000000 in
theorem alive.calls { K} (h : alive.W  K) : PCalls ax 5 [] K :=
  afn_run (ah := alive.ah) tysOk fnsOk follows eqOk Tryz.func5 (by kernel_rfl) alive.ok (by kernel_rfl) (Eq.mp (alive.eq  K) h)
/-! ### Reads: function 3, augur/augurlaw10.DataReads -/
def Reads.ah : AH := ⟨[], [], [], [(5, ⟨[], [.c (.bool)], []⟩), (6, ⟨[some [.str]], [.ag [.bool, .int .i64, .str, .sl 4], .c (.err)], []⟩), (7, ⟨[some [.str]], [.ag [.bool, .int .i64, .str, .sl 4], .c (.int .i64)], []⟩), (8, ⟨[some [.err]], [.c (.int .i64)], []⟩), (9, ⟨[some [.bool, .int .i64, .str, .sl 4], some [.bool, .int .i64, .str, .sl 4]], [.c (.bool)], []⟩), (10, ⟨[some [.bool, .int .i64, .str, .sl 4]], [.c (.str), .c (.err)], []⟩)], [], [some [.bool]], [], [], []⟩
set_option maxRecDepth 100000 in
def Reads.W (s1 : ByteArray) (K : List V → Prop) : Prop :=
 (PCalls ax 5 [] fun r5 => ∃ (b4 : Bool), r5 = [(.bool b4)] ∧ (bif (!b4) then
 (K [(.bool false)])
 else
 (PCalls ax 6 [(.str s1)] fun r17 => ∃ (b12 : Bool) (n13 : Int) (s14 : ByteArray) (l15 : List (List V)) (x16 : Option Nat), r17 = [(.agg [(.bool b12), (.int .i64 n13), (.str s14), (.sl 4 l15)]), (.err x16)] ∧ (PCalls ax 7 [(.str s1)] fun r29 => ∃ (b24 : Bool) (n25 : Int) (s26 : ByteArray) (l27 : List (List V)) (n28 : Int), r29 = [(.agg [(.bool b24), (.int .i64 n25), (.str s26), (.sl 4 l27)]), (.int .i64 n28)] ∧ (PCalls ax 8 [(.err x16)] fun r35 => ∃ (n34 : Int), r35 = [(.int .i64 n34)] ∧ (bif (n34 != n28) then (K [(.bool false)]) else (PCalls ax 9 [(.agg [(.bool b12), (.int .i64 n13), (.str s14), (.sl 4 l15)]), (.agg [(.bool b24), (.int .i64 n25), (.str s26), (.sl 4 l27)])] fun r37 => ∃ (b36 : Bool), r37 = [(.bool b36)] ∧ (bif (!b36) then
 (K [(.bool false)])
 else
 (bif (n28 != (0 : Int)) then
 (K [(.bool true)])
 else
 (PCalls ax 10 [(.agg [(.bool b12), (.int .i64 n13), (.str s14), (.sl 4 l15)])] fun r43 => ∃ (s41 : ByteArray) (x42 : Option Nat), r43 = [(.str s41), (.err x42)] ∧ (PCalls ax 6 [(.str s41)] fun r55 => ∃ (b50 : Bool) (n51 : Int) (s52 : ByteArray) (l53 : List (List V)) (x54 : Option Nat), r55 = [(.agg [(.bool b50), (.int .i64 n51), (.str s52), (.sl 4 l53)]), (.err x54)] ∧ (bif (Option.isNone x42) then (bif (Option.isNone x54) then (PCalls ax 9 [(.agg [(.bool b50), (.int .i64 n51), (.str s52), (.sl 4 l53)]), (.agg [(.bool b12), (.int .i64 n13), (.str s14), (.sl 4 l15)])] fun r57 => ∃ (b56 : Bool), r57 = [(.bool b56)] ∧ (bif b56 then (K [(.bool true)]) else (bif (errEq x54 (some 0)) then (K [(.bool (decide ((s41.size : Int) > (16384 : Int))))]) else (K [(.bool false)])))) else (bif (errEq x54 (some 0)) then (K [(.bool (decide ((s41.size : Int) > (16384 : Int))))]) else (K [(.bool false)]))) else (K [(.bool false)])))))))))))))
set_option maxRecDepth 100000 in
theorem Reads.eq (s1 : ByteArray) (K : List V → Prop) : Reads.W s1 K = afn ax Reads.ah Tryz.f3 [(.str s1)] [] (onlyV K) := by kernel_rfl
theorem Reads.ok : codeOk tys (hintsOf Reads.ah) Tryz.f3.ntmps (Tryz.f3.body.getD .skip) = true := by kernel_rfl
set_option maxHeartbeats 4000000 in
theorem Reads.calls {s1 K} (h : Reads.W s1 K) : PCalls ax 3 [(.str s1)] K :=
  afn_run (ah := Reads.ah) tysOk fnsOk follows eqOk Tryz.func3 (by kernel_rfl) Reads.ok (by kernel_rfl) (Eq.mp (Reads.eq s1 K) h)
/-! ### rdTerm: function 33, augur/parse.Term$1 -/
def rdTerm.ah : AH := ⟨[], [], [], [(34, ⟨[none, some [.int .i64]], [.ag [.int .i64, .str, .int .i64, .sl 4]], [.box [.d (.sl 3), .d (.int .i64)]]⟩)], [], [some [.int .i64, .str, .int .i64, .sl 4]], [], [], []⟩
set_option maxRecDepth 100000 in
def rdTerm.W (tk : List (List V)) (pos : Int) (K : List V → List Ob → Prop) (T : Nat → List V → List Ob → Prop) : Prop :=
 (SCallsT ax 34 [(.ptr 0 0), (.int .i64 1)] [(.box [(.sl 3 tk), (.int .i64 pos)])] (fun r5 o8 => ∃ (n1 : Int) (s2 : ByteArray) (n3 : Int) (l4 : List (List V)) (l6 : List (List V)) (n7 : Int), r5 = [(.agg [(.int .i64 n1), (.str s2), (.int .i64 n3), (.sl 4 l4)])] ∧ o8 = [(.box [(.sl 3 l6), (.int .i64 n7)])] ∧ (K [(.agg [(.int .i64 n1), (.str s2), (.int .i64 n3), (.sl 4 l4)])] [(.box [(.sl 3 l6), (.int .i64 n7)])])) (fun t11 u12 o13 => ∃ (l9 : List (List V)) (n10 : Int), o13 = [(.box [(.sl 3 l9), (.int .i64 n10)])] ∧ (T t11 u12 [(.box [(.sl 3 l9), (.int .i64 n10)])])))
set_option maxRecDepth 100000 in
theorem rdTerm.eq (tk : List (List V)) (pos : Int) (K : List V → List Ob → Prop) (T : Nat → List V → List Ob → Prop) : rdTerm.W tk pos K T = afn (ax.thr 1 T) rdTerm.ah Tryz.f33 [(.ptr 0 0)] [(.box [(.sl 3 tk), (.int .i64 pos)])] K := by kernel_rfl
theorem rdTerm.ok : codeOk tys (hintsOf rdTerm.ah) Tryz.f33.ntmps (Tryz.f33.body.getD .skip) = true := by kernel_rfl
set_option maxHeartbeats 4000000 in
theorem rdTerm.calls {tk pos K T} (h : rdTerm.W tk pos K T) : SCallsT ax 33 [(.ptr 0 0)] [(.box [(.sl 3 tk), (.int .i64 pos)])] K T :=
  afn_runT (ah := rdTerm.ah) tysOk fnsOk follows eqOk Tryz.func33 (by kernel_rfl) rdTerm.ok (by kernel_rfl) (Eq.mp (rdTerm.eq tk pos K T) h)
/-! ### put: function 26, augur/data.put -/
def put.ah : AH := ⟨[(9, seqO [0, 1, 2])], [(4, ⟨[(0, [.nw 5 1 false], false), (6, [.d (.int .i64)], false)], [], [], [3]⟩), (14, ⟨[(0, [.nw 5 1 false], false), (68, [.d (.int .i64)], false)], [], [], [6]⟩)], [], [(26, ⟨[none, some [.bool, .int .i64, .str, .sl 4]], [.lit (.own 1), .c (.err)], [.dead, .lst 5 1 false]⟩)], [], [some [.sl 1], some [.err]], [], [0], [.nw 5 1 false, .d (.err)]⟩
set_option maxRecDepth 100000 in
def put.W (b1 : Bool) (n2 : Int) (s3 : ByteArray) (l4 : List (List V)) (l : List (List V)) (K : List V → List Ob → Prop) : Prop :=
 (bif (!b1) then
 (((List.length l) + (List.length ([[(.int .u8 0)]] : List (List V)))) * 1 ≤ 140737488355328 ∧ (List.length l) + (List.length ([[(.int .u8 0)]] : List (List V))) ≤ 140737488355328 ∧ (∃ (I15 : List V → Prop) (μ16 : List V → Nat), I15 [(.sl 1 (l ++ [[(.int .u8 0)]])), (.int .i64 0)] ∧ (∀ (l17 : List (List V)) (n18 : Int), I15 [(.sl 1 l17), (.int .i64 n18)] →
 (bif (decide (n18 < (64 : Int))) then
 (0 ≤ n18 ∧ (((List.length l17) + (List.length ([[(.int .u8 (IntKind.u8.wrap (Int.fdiv (IntKind.u64.wrap n2) (2 ^ min (n18 : Int).toNat IntKind.u64.bits))))]] : List (List V)))) * 1 ≤ 140737488355328 ∧ (List.length l17) + (List.length ([[(.int .u8 (IntKind.u8.wrap (Int.fdiv (IntKind.u64.wrap n2) (2 ^ min (n18 : Int).toNat IntKind.u64.bits))))]] : List (List V))) ≤ 140737488355328 ∧ (I15 [(.sl 1 (l17 ++ [[(.int .u8 (IntKind.u8.wrap (Int.fdiv (IntKind.u64.wrap n2) (2 ^ min (n18 : Int).toNat IntKind.u64.bits))))]])), (.int .i64 (IntKind.i64.wrap (n18 + 8)))] ∧ μ16 [(.sl 1 (l17 ++ [[(.int .u8 (IntKind.u8.wrap (Int.fdiv (IntKind.u64.wrap n2) (2 ^ min (n18 : Int).toNat IntKind.u64.bits))))]])), (.int .i64 (IntKind.i64.wrap (n18 + 8)))] < μ16 [(.sl 1 l17), (.int .i64 n18)])))
 else
 (K [(.own 1), (.err none)] [.dead, (.lst 5 1 false l17)])))))
 else
 (bif (decide ((s3.size : Int) < (1 : Int))) then (K [(.own 1), (.err (some 1))] [.dead, (.lst 5 1 false [])]) else (bif (decide ((s3.size : Int) > (32 : Int))) then (K [(.own 1), (.err (some 1))] [.dead, (.lst 5 1 false [])]) else (bif (decide ((List.length l4 : Int) > (8 : Int))) then
 (K [(.own 1), (.err (some 1))] [.dead, (.lst 5 1 false [])])
 else
 (((List.length l) + (List.length ([[(.int .u8 1)], [(.int .u8 (IntKind.u8.wrap (s3.size : Int)))]] : List (List V)))) * 1 ≤ 140737488355328 ∧ (List.length l) + (List.length ([[(.int .u8 1)], [(.int .u8 (IntKind.u8.wrap (s3.size : Int)))]] : List (List V))) ≤ 140737488355328 ∧ (((List.length (l ++ [[(.int .u8 1)], [(.int .u8 (IntKind.u8.wrap (s3.size : Int)))]])) + (List.length (rowsOf s3))) * 1 ≤ 140737488355328 ∧ (List.length (l ++ [[(.int .u8 1)], [(.int .u8 (IntKind.u8.wrap (s3.size : Int)))]])) + (List.length (rowsOf s3)) ≤ 140737488355328 ∧ (((List.length ((l ++ [[(.int .u8 1)], [(.int .u8 (IntKind.u8.wrap (s3.size : Int)))]]) ++ (rowsOf s3))) + (List.length ([[(.int .u8 (IntKind.u8.wrap (List.length l4 : Int)))]] : List (List V)))) * 1 ≤ 140737488355328 ∧ (List.length ((l ++ [[(.int .u8 1)], [(.int .u8 (IntKind.u8.wrap (s3.size : Int)))]]) ++ (rowsOf s3))) + (List.length ([[(.int .u8 (IntKind.u8.wrap (List.length l4 : Int)))]] : List (List V))) ≤ 140737488355328 ∧ (∃ (I46 : List V → Prop) (μ47 : List V → Nat), I46 [(.sl 1 (((l ++ [[(.int .u8 1)], [(.int .u8 (IntKind.u8.wrap (s3.size : Int)))]]) ++ (rowsOf s3)) ++ [[(.int .u8 (IntKind.u8.wrap (List.length l4 : Int)))]])), (.int .i64 0)] ∧ (∀ (l48 : List (List V)) (n49 : Int), I46 [(.sl 1 l48), (.int .i64 n49)] →
 (bif (decide (n49 < (List.length l4 : Int))) then
 (0 ≤ n49 ∧ n49 < (List.length l4 : Int) ∧ (∃ (b54 : Bool) (n55 : Int) (s56 : ByteArray) (l57 : List (List V)), List.take 4 (Av.rowAt l4 (n49 : Int).toNat) = [(.bool b54), (.int .i64 n55), (.str s56), (.sl 4 l57)] ∧ (SCalls ax 26 [(.own 0), (.agg [(.bool b54), (.int .i64 n55), (.str s56), (.sl 4 l57)])] [(.lst 5 1 false l48)] fun r59 o61 => ∃ (x58 : Option Nat) (l60 : List (List V)), r59 = [(.own 1), (.err x58)] ∧ o61 = [.dead, (.lst 5 1 false l60)] ∧ (bif (!(Option.isNone x58)) then
 (K [(.own 1), (.err x58)] [.dead, (.lst 5 1 false [])])
 else
 (I46 [(.sl 1 l60), (.int .i64 (IntKind.i64.wrap (n49 + 1)))] ∧ μ47 [(.sl 1 l60), (.int .i64 (IntKind.i64.wrap (n49 + 1)))] < μ47 [(.sl 1 l48), (.int .i64 n49)])))))
 else
 (K [(.own 1), (.err none)] [.dead, (.lst 5 1 false l48)])))))))))))
set_option maxRecDepth 100000 in
theorem put.eq (b1 : Bool) (n2 : Int) (s3 : ByteArray) (l4 : List (List V)) (l : List (List V)) (K : List V → List Ob → Prop) : put.W b1 n2 s3 l4 l K = afn ax put.ah Tryz.f26 [(.own 0), (.agg [(.bool b1), (.int .i64 n2), (.str s3), (.sl 4 l4)])] [(.lst 5 1 false l)] K := by kernel_rfl
theorem put.ok : codeOk tys (hintsOf put.ah) Tryz.f26.ntmps (Tryz.f26.body.getD .skip) = true := by kernel_rfl
set_option maxHeartbeats 4000000 in
theorem put.calls {b1 n2 s3 l4 l K} (h : put.W b1 n2 s3 l4 l K) : SCalls ax 26 [(.own 0), (.agg [(.bool b1), (.int .i64 n2), (.str s3), (.sl 4 l4)])] [(.lst 5 1 false l)] K :=
  afn_run (ah := put.ah) tysOk fnsOk follows eqOk Tryz.func26 (by kernel_rfl) put.ok (by kernel_rfl) (Eq.mp (put.eq b1 n2 s3 l4 l K) h)
/-! ### put0: function 26, augur/data.put -/
def put0.ah : AH := ⟨[(9, seqO [0, 1, 2])], [(4, ⟨[(0, [.nw 5 1 false], false), (6, [.d (.int .i64)], false)], [], [], [2]⟩), (14, ⟨[(0, [.nw 5 1 false], false), (68, [.d (.int .i64)], false)], [], [], [5]⟩)], [], [(26, ⟨[none, some [.bool, .int .i64, .str, .sl 4]], [.lit (.own 1), .c (.err)], [.dead, .lst 5 1 false]⟩)], [], [some [.sl 1], some [.err]], [], [], [.nw 5 1 false, .d (.err)]⟩
set_option maxRecDepth 100000 in
def put0.W (b1 : Bool) (n2 : Int) (s3 : ByteArray) (l4 : List (List V)) (K : List V → List Ob → Prop) : Prop :=
 (bif (!b1) then
 ((List.length ([[(.int .u8 0)]] : List (List V))) * 1 ≤ 140737488355328 ∧ (List.length ([[(.int .u8 0)]] : List (List V))) ≤ 140737488355328 ∧ (∃ (I15 : List V → Prop) (μ16 : List V → Nat), I15 [(.sl 1 [[(.int .u8 0)]]), (.int .i64 0)] ∧ (∀ (l17 : List (List V)) (n18 : Int), I15 [(.sl 1 l17), (.int .i64 n18)] →
 (bif (decide (n18 < (64 : Int))) then
 (0 ≤ n18 ∧ (((List.length l17) + (List.length ([[(.int .u8 (IntKind.u8.wrap (Int.fdiv (IntKind.u64.wrap n2) (2 ^ min (n18 : Int).toNat IntKind.u64.bits))))]] : List (List V)))) * 1 ≤ 140737488355328 ∧ (List.length l17) + (List.length ([[(.int .u8 (IntKind.u8.wrap (Int.fdiv (IntKind.u64.wrap n2) (2 ^ min (n18 : Int).toNat IntKind.u64.bits))))]] : List (List V))) ≤ 140737488355328 ∧ (I15 [(.sl 1 (l17 ++ [[(.int .u8 (IntKind.u8.wrap (Int.fdiv (IntKind.u64.wrap n2) (2 ^ min (n18 : Int).toNat IntKind.u64.bits))))]])), (.int .i64 (IntKind.i64.wrap (n18 + 8)))] ∧ μ16 [(.sl 1 (l17 ++ [[(.int .u8 (IntKind.u8.wrap (Int.fdiv (IntKind.u64.wrap n2) (2 ^ min (n18 : Int).toNat IntKind.u64.bits))))]])), (.int .i64 (IntKind.i64.wrap (n18 + 8)))] < μ16 [(.sl 1 l17), (.int .i64 n18)])))
 else
 (K [(.own 0), (.err none)] [(.lst 5 1 false l17)])))))
 else
 (bif (decide ((s3.size : Int) < (1 : Int))) then (K [(.own 0), (.err (some 1))] [(.lst 5 1 false [])]) else (bif (decide ((s3.size : Int) > (32 : Int))) then (K [(.own 0), (.err (some 1))] [(.lst 5 1 false [])]) else (bif (decide ((List.length l4 : Int) > (8 : Int))) then
 (K [(.own 0), (.err (some 1))] [(.lst 5 1 false [])])
 else
 ((List.length ([[(.int .u8 1)], [(.int .u8 (IntKind.u8.wrap (s3.size : Int)))]] : List (List V))) * 1 ≤ 140737488355328 ∧ (List.length ([[(.int .u8 1)], [(.int .u8 (IntKind.u8.wrap (s3.size : Int)))]] : List (List V))) ≤ 140737488355328 ∧ (((List.length ([[(.int .u8 1)], [(.int .u8 (IntKind.u8.wrap (s3.size : Int)))]] : List (List V))) + (List.length (rowsOf s3))) * 1 ≤ 140737488355328 ∧ (List.length ([[(.int .u8 1)], [(.int .u8 (IntKind.u8.wrap (s3.size : Int)))]] : List (List V))) + (List.length (rowsOf s3)) ≤ 140737488355328 ∧ (((List.length ([[(.int .u8 1)], [(.int .u8 (IntKind.u8.wrap (s3.size : Int)))]] ++ (rowsOf s3))) + (List.length ([[(.int .u8 (IntKind.u8.wrap (List.length l4 : Int)))]] : List (List V)))) * 1 ≤ 140737488355328 ∧ (List.length ([[(.int .u8 1)], [(.int .u8 (IntKind.u8.wrap (s3.size : Int)))]] ++ (rowsOf s3))) + (List.length ([[(.int .u8 (IntKind.u8.wrap (List.length l4 : Int)))]] : List (List V))) ≤ 140737488355328 ∧ (∃ (I46 : List V → Prop) (μ47 : List V → Nat), I46 [(.sl 1 (([[(.int .u8 1)], [(.int .u8 (IntKind.u8.wrap (s3.size : Int)))]] ++ (rowsOf s3)) ++ [[(.int .u8 (IntKind.u8.wrap (List.length l4 : Int)))]])), (.int .i64 0)] ∧ (∀ (l48 : List (List V)) (n49 : Int), I46 [(.sl 1 l48), (.int .i64 n49)] →
 (bif (decide (n49 < (List.length l4 : Int))) then
 (0 ≤ n49 ∧ n49 < (List.length l4 : Int) ∧ (∃ (b54 : Bool) (n55 : Int) (s56 : ByteArray) (l57 : List (List V)), List.take 4 (Av.rowAt l4 (n49 : Int).toNat) = [(.bool b54), (.int .i64 n55), (.str s56), (.sl 4 l57)] ∧ (SCalls ax 26 [(.own 0), (.agg [(.bool b54), (.int .i64 n55), (.str s56), (.sl 4 l57)])] [(.lst 5 1 false l48)] fun r59 o61 => ∃ (x58 : Option Nat) (l60 : List (List V)), r59 = [(.own 1), (.err x58)] ∧ o61 = [.dead, (.lst 5 1 false l60)] ∧ (bif (!(Option.isNone x58)) then
 (K [(.own 0), (.err x58)] [(.lst 5 1 false [])])
 else
 (I46 [(.sl 1 l60), (.int .i64 (IntKind.i64.wrap (n49 + 1)))] ∧ μ47 [(.sl 1 l60), (.int .i64 (IntKind.i64.wrap (n49 + 1)))] < μ47 [(.sl 1 l48), (.int .i64 n49)])))))
 else
 (K [(.own 0), (.err none)] [(.lst 5 1 false l48)])))))))))))
set_option maxRecDepth 100000 in
theorem put0.eq (b1 : Bool) (n2 : Int) (s3 : ByteArray) (l4 : List (List V)) (K : List V → List Ob → Prop) : put0.W b1 n2 s3 l4 K = afn ax put0.ah Tryz.f26 [.nls, (.agg [(.bool b1), (.int .i64 n2), (.str s3), (.sl 4 l4)])] [] K := by kernel_rfl
theorem put0.ok : codeOk tys (hintsOf put0.ah) Tryz.f26.ntmps (Tryz.f26.body.getD .skip) = true := by kernel_rfl
set_option maxHeartbeats 4000000 in
theorem put0.calls {b1 n2 s3 l4 K} (h : put0.W b1 n2 s3 l4 K) : SCalls ax 26 [.nls, (.agg [(.bool b1), (.int .i64 n2), (.str s3), (.sl 4 l4)])] [] K :=
  afn_run (ah := put0.ah) tysOk fnsOk follows eqOk Tryz.func26 (by kernel_rfl) put0.ok (by kernel_rfl) (Eq.mp (put0.eq b1 n2 s3 l4 K) h)
/-! ### rput: function 27, augur/augurref10.put -/
def rput.ah : AH := ⟨[], [(5, ⟨[(4, [.nw 5 1 false], false), (5, [.d (.int .u64)], false), (6, [.d (.int .i64)], false)], [], [], [1]⟩), (15, ⟨[(7, [.nw 5 1 false], false), (66, [.d (.int .i64)], false)], [], [], [4]⟩)], [], [(27, ⟨[some [.bool, .int .i64, .str, .sl 4]], [.c (.sl 1), .c (.bool)], []⟩)], [], [some [.sl 1], some [.bool]], [], [], []⟩
set_option maxRecDepth 100000 in
def rput.W (b1 : Bool) (n2 : Int) (s3 : ByteArray) (l4 : List (List V)) (K : List V → Prop) : Prop :=
 (bif (!b1) then
 (∃ (I20 : List V → Prop) (μ21 : List V → Nat), I20 [(.sl 1 [[(.int .u8 0)]]), (.int .u64 (IntKind.u64.wrap n2)), (.int .i64 0)] ∧ (∀ (l22 : List (List V)) (n23 : Int) (n24 : Int), I20 [(.sl 1 l22), (.int .u64 n23), (.int .i64 n24)] →
 (bif (decide (n24 < (8 : Int))) then
 (IntKind.u64 = IntKind.u64 ∧ (256 : Int) ≠ 0 ∧ (((List.length l22) + (List.length ([[(.int .u8 (IntKind.u8.wrap (Int.tmod n23 (256 : Int))))]] : List (List V)))) * 1 ≤ 140737488355328 ∧ (List.length l22) + (List.length ([[(.int .u8 (IntKind.u8.wrap (Int.tmod n23 (256 : Int))))]] : List (List V))) ≤ 140737488355328 ∧ (IntKind.u64 = IntKind.u64 ∧ (256 : Int) ≠ 0 ∧ (I20 [(.sl 1 (l22 ++ [[(.int .u8 (IntKind.u8.wrap (Int.tmod n23 (256 : Int))))]])), (.int .u64 (IntKind.u64.wrap (Int.tdiv n23 (256 : Int)))), (.int .i64 (IntKind.i64.wrap (n24 + 1)))] ∧ μ21 [(.sl 1 (l22 ++ [[(.int .u8 (IntKind.u8.wrap (Int.tmod n23 (256 : Int))))]])), (.int .u64 (IntKind.u64.wrap (Int.tdiv n23 (256 : Int)))), (.int .i64 (IntKind.i64.wrap (n24 + 1)))] < μ21 [(.sl 1 l22), (.int .u64 n23), (.int .i64 n24)]))))
 else
 (K [(.sl 1 l22), (.bool true)]))))
 else
 (bif ((s3.size : Int) == (0 : Int)) then (K [(.sl 1 []), (.bool false)]) else (bif (decide ((s3.size : Int) > (32 : Int))) then (K [(.sl 1 []), (.bool false)]) else (bif (decide ((List.length l4 : Int) > (8 : Int))) then
 (K [(.sl 1 []), (.bool false)])
 else
 (((List.length ([[(.int .u8 1)], [(.int .u8 (IntKind.u8.wrap (s3.size : Int)))]] : List (List V))) + (List.length (rowsOf s3))) * 1 ≤ 140737488355328 ∧ (List.length ([[(.int .u8 1)], [(.int .u8 (IntKind.u8.wrap (s3.size : Int)))]] : List (List V))) + (List.length (rowsOf s3)) ≤ 140737488355328 ∧ (((List.length ([[(.int .u8 1)], [(.int .u8 (IntKind.u8.wrap (s3.size : Int)))]] ++ (rowsOf s3))) + (List.length ([[(.int .u8 (IntKind.u8.wrap (List.length l4 : Int)))]] : List (List V)))) * 1 ≤ 140737488355328 ∧ (List.length ([[(.int .u8 1)], [(.int .u8 (IntKind.u8.wrap (s3.size : Int)))]] ++ (rowsOf s3))) + (List.length ([[(.int .u8 (IntKind.u8.wrap (List.length l4 : Int)))]] : List (List V))) ≤ 140737488355328 ∧ (∃ (I50 : List V → Prop) (μ51 : List V → Nat), I50 [(.sl 1 (([[(.int .u8 1)], [(.int .u8 (IntKind.u8.wrap (s3.size : Int)))]] ++ (rowsOf s3)) ++ [[(.int .u8 (IntKind.u8.wrap (List.length l4 : Int)))]])), (.int .i64 0)] ∧ (∀ (l52 : List (List V)) (n53 : Int), I50 [(.sl 1 l52), (.int .i64 n53)] →
 (bif (decide (n53 < (List.length l4 : Int))) then
 (0 ≤ n53 ∧ n53 < (List.length l4 : Int) ∧ (∃ (b58 : Bool) (n59 : Int) (s60 : ByteArray) (l61 : List (List V)), List.take 4 (Av.rowAt l4 (n53 : Int).toNat) = [(.bool b58), (.int .i64 n59), (.str s60), (.sl 4 l61)] ∧ (PCalls ax 27 [(.agg [(.bool b58), (.int .i64 n59), (.str s60), (.sl 4 l61)])] fun r64 => ∃ (l62 : List (List V)) (b63 : Bool), r64 = [(.sl 1 l62), (.bool b63)] ∧ (bif (!b63) then
 (K [(.sl 1 []), (.bool false)])
 else
 (((List.length l52) + (List.length l62)) * 1 ≤ 140737488355328 ∧ (List.length l52) + (List.length l62) ≤ 140737488355328 ∧ (I50 [(.sl 1 (l52 ++ l62)), (.int .i64 (IntKind.i64.wrap (n53 + 1)))] ∧ μ51 [(.sl 1 (l52 ++ l62)), (.int .i64 (IntKind.i64.wrap (n53 + 1)))] < μ51 [(.sl 1 l52), (.int .i64 n53)]))))))
 else
 (K [(.sl 1 l52), (.bool true)]))))))))))
set_option maxRecDepth 100000 in
theorem rput.eq (b1 : Bool) (n2 : Int) (s3 : ByteArray) (l4 : List (List V)) (K : List V → Prop) : rput.W b1 n2 s3 l4 K = afn ax rput.ah Tryz.f27 [(.agg [(.bool b1), (.int .i64 n2), (.str s3), (.sl 4 l4)])] [] (onlyV K) := by kernel_rfl
theorem rput.ok : codeOk tys (hintsOf rput.ah) Tryz.f27.ntmps (Tryz.f27.body.getD .skip) = true := by kernel_rfl
set_option maxHeartbeats 4000000 in
theorem rput.calls {b1 n2 s3 l4 K} (h : rput.W b1 n2 s3 l4 K) : PCalls ax 27 [(.agg [(.bool b1), (.int .i64 n2), (.str s3), (.sl 4 l4)])] K :=
  afn_run (ah := rput.ah) tysOk fnsOk follows eqOk Tryz.func27 (by kernel_rfl) rput.ok (by kernel_rfl) (Eq.mp (rput.eq b1 n2 s3 l4 K) h)
/-! ### Encode: function 11, augur/data.Encode -/
def Encode.ah : AH := ⟨[(2, seqO [0, 1, 2])], [], [], [(13, ⟨[some [.bool, .int .i64, .str, .sl 4]], [.c (.bool)], []⟩), (26, ⟨[none, some [.bool, .int .i64, .str, .sl 4]], [.lit (.own 0), .c (.err)], [.lst 5 1 false]⟩)], [], [some [.sl 1], some [.err]], [], [], []⟩
set_option maxRecDepth 100000 in
def Encode.W (b1 : Bool) (n2 : Int) (s3 : ByteArray) (l4 : List (List V)) (K : List V → Prop) : Prop :=
 (PCalls ax 13 [(.agg [(.bool b1), (.int .i64 n2), (.str s3), (.sl 4 l4)])] fun r6 => ∃ (b5 : Bool), r6 = [(.bool b5)] ∧ (bif (!b5) then
 (K [(.sl 1 []), (.err (some 0))])
 else
 (SCalls ax 26 [.nls, (.agg [(.bool b1), (.int .i64 n2), (.str s3), (.sl 4 l4)])] [] fun r8 o10 => ∃ (x7 : Option Nat) (l9 : List (List V)), r8 = [(.own 0), (.err x7)] ∧ o10 = [(.lst 5 1 false l9)] ∧ (K [(.sl 1 l9), (.err x7)]))))
set_option maxRecDepth 100000 in
theorem Encode.eq (b1 : Bool) (n2 : Int) (s3 : ByteArray) (l4 : List (List V)) (K : List V → Prop) : Encode.W b1 n2 s3 l4 K = afn ax Encode.ah Tryz.f11 [(.agg [(.bool b1), (.int .i64 n2), (.str s3), (.sl 4 l4)])] [] (onlyV K) := by kernel_rfl
theorem Encode.ok : codeOk tys (hintsOf Encode.ah) Tryz.f11.ntmps (Tryz.f11.body.getD .skip) = true := by kernel_rfl
set_option maxHeartbeats 4000000 in
theorem Encode.calls {b1 n2 s3 l4 K} (h : Encode.W b1 n2 s3 l4 K) : PCalls ax 11 [(.agg [(.bool b1), (.int .i64 n2), (.str s3), (.sl 4 l4)])] K :=
  afn_run (ah := Encode.ah) tysOk fnsOk follows eqOk Tryz.func11 (by kernel_rfl) Encode.ok (by kernel_rfl) (Eq.mp (Encode.eq b1 n2 s3 l4 K) h)
/-! ### REncode: function 12, augur/augurref10.Encode -/
def REncode.ah : AH := ⟨[], [], [], [(14, ⟨[some [.bool, .int .i64, .str, .sl 4]], [.c (.bool)], []⟩), (27, ⟨[some [.bool, .int .i64, .str, .sl 4]], [.c (.sl 1), .c (.bool)], []⟩)], [], [some [.sl 1], some [.int .i64]], [], [], []⟩
set_option maxRecDepth 100000 in
def REncode.W (b1 : Bool) (n2 : Int) (s3 : ByteArray) (l4 : List (List V)) (K : List V → Prop) : Prop :=
 (PCalls ax 14 [(.agg [(.bool b1), (.int .i64 n2), (.str s3), (.sl 4 l4)])] fun r8 => ∃ (b7 : Bool), r8 = [(.bool b7)] ∧ (bif (!b7) then
 (K [(.sl 1 []), (.int .i64 4)])
 else
 (PCalls ax 27 [(.agg [(.bool b1), (.int .i64 n2), (.str s3), (.sl 4 l4)])] fun r11 => ∃ (l9 : List (List V)) (b10 : Bool), r11 = [(.sl 1 l9), (.bool b10)] ∧ (bif (!b10) then
 (K [(.sl 1 []), (.int .i64 10)])
 else
 (K [(.sl 1 l9), (.int .i64 0)])))))
set_option maxRecDepth 100000 in
theorem REncode.eq (b1 : Bool) (n2 : Int) (s3 : ByteArray) (l4 : List (List V)) (K : List V → Prop) : REncode.W b1 n2 s3 l4 K = afn ax REncode.ah Tryz.f12 [(.agg [(.bool b1), (.int .i64 n2), (.str s3), (.sl 4 l4)])] [] (onlyV K) := by kernel_rfl
theorem REncode.ok : codeOk tys (hintsOf REncode.ah) Tryz.f12.ntmps (Tryz.f12.body.getD .skip) = true := by kernel_rfl
set_option maxHeartbeats 4000000 in
theorem REncode.calls {b1 n2 s3 l4 K} (h : REncode.W b1 n2 s3 l4 K) : PCalls ax 12 [(.agg [(.bool b1), (.int .i64 n2), (.str s3), (.sl 4 l4)])] K :=
  afn_run (ah := REncode.ah) tysOk fnsOk follows eqOk Tryz.func12 (by kernel_rfl) REncode.ok (by kernel_rfl) (Eq.mp (REncode.eq b1 n2 s3 l4 K) h)
/-! ### Nodes: function 15, augur/data.Nodes -/
def Nodes.ah : AH := ⟨[], [(4, ⟨[(3, [.d (.int .i64)], false), (11, [.d (.int .i64)], false)], [], [], []⟩)], [], [(15, ⟨[some [.bool, .int .i64, .str, .sl 4]], [.c (.int .i64)], []⟩)], [], [some [.int .i64]], [], [], []⟩
set_option maxRecDepth 100000 in
def Nodes.W (b1 : Bool) (_n2 : Int) (_s3 : ByteArray) (l4 : List (List V)) (K : List V → Prop) : Prop :=
 (bif b1 then
 (∃ (I13 : List V → Prop) (μ14 : List V → Nat), I13 [(.int .i64 1), (.int .i64 0)] ∧ (∀ (n15 : Int) (n16 : Int), I13 [(.int .i64 n15), (.int .i64 n16)] →
 (bif (decide (n16 < (List.length l4 : Int))) then
 (0 ≤ n16 ∧ n16 < (List.length l4 : Int) ∧ (∃ (b17 : Bool) (n18 : Int) (s19 : ByteArray) (l20 : List (List V)), List.take 4 (Av.rowAt l4 (n16 : Int).toNat) = [(.bool b17), (.int .i64 n18), (.str s19), (.sl 4 l20)] ∧ (PCalls ax 15 [(.agg [(.bool b17), (.int .i64 n18), (.str s19), (.sl 4 l20)])] fun r22 => ∃ (n21 : Int), r22 = [(.int .i64 n21)] ∧ (bif (decide ((if 4097 < (IntKind.i64.wrap (n15 + n21)) then 4097 else (IntKind.i64.wrap (n15 + n21))) > (4096 : Int))) then
 (K [(.int .i64 (if 4097 < (IntKind.i64.wrap (n15 + n21)) then 4097 else (IntKind.i64.wrap (n15 + n21))))])
 else
 (I13 [(.int .i64 (if 4097 < (IntKind.i64.wrap (n15 + n21)) then 4097 else (IntKind.i64.wrap (n15 + n21)))), (.int .i64 (IntKind.i64.wrap (n16 + 1)))] ∧ μ14 [(.int .i64 (if 4097 < (IntKind.i64.wrap (n15 + n21)) then 4097 else (IntKind.i64.wrap (n15 + n21)))), (.int .i64 (IntKind.i64.wrap (n16 + 1)))] < μ14 [(.int .i64 n15), (.int .i64 n16)])))))
 else
 (K [(.int .i64 n15)]))))
 else
 (K [(.int .i64 1)]))
set_option maxRecDepth 100000 in
theorem Nodes.eq (b1 : Bool) (n2 : Int) (s3 : ByteArray) (l4 : List (List V)) (K : List V → Prop) : Nodes.W b1 n2 s3 l4 K = afn ax Nodes.ah Tryz.f15 [(.agg [(.bool b1), (.int .i64 n2), (.str s3), (.sl 4 l4)])] [] (onlyV K) := by kernel_rfl
theorem Nodes.ok : codeOk tys (hintsOf Nodes.ah) Tryz.f15.ntmps (Tryz.f15.body.getD .skip) = true := by kernel_rfl
set_option maxHeartbeats 4000000 in
theorem Nodes.calls {b1 n2 s3 l4 K} (h : Nodes.W b1 n2 s3 l4 K) : PCalls ax 15 [(.agg [(.bool b1), (.int .i64 n2), (.str s3), (.sl 4 l4)])] K :=
  afn_run (ah := Nodes.ah) tysOk fnsOk follows eqOk Tryz.func15 (by kernel_rfl) Nodes.ok (by kernel_rfl) (Eq.mp (Nodes.eq b1 n2 s3 l4 K) h)
/-! ### RNodes: function 16, augur/augurref10.Nodes -/
def RNodes.ah : AH := ⟨[], [(3, ⟨[(3, [.d (.int .i64)], false), (4, [.d (.int .i64)], false)], [], [], []⟩)], [], [(16, ⟨[some [.bool, .int .i64, .str, .sl 4]], [.c (.int .i64)], []⟩)], [], [some [.int .i64]], [], [], []⟩
set_option maxRecDepth 100000 in
def RNodes.W (b1 : Bool) (_n2 : Int) (_s3 : ByteArray) (l4 : List (List V)) (K : List V → Prop) : Prop :=
 (∃ (I13 : List V → Prop) (μ14 : List V → Nat), I13 [(.int .i64 1), (.int .i64 0)] ∧ (∀ (n15 : Int) (n16 : Int), I13 [(.int .i64 n15), (.int .i64 n16)] →
 (bif b1 then (bif (decide (n16 < (List.length l4 : Int))) then (bif (decide (n15 ≤ (4096 : Int))) then
 (0 ≤ n16 ∧ n16 < (List.length l4 : Int) ∧ (∃ (b17 : Bool) (n18 : Int) (s19 : ByteArray) (l20 : List (List V)), List.take 4 (Av.rowAt l4 (n16 : Int).toNat) = [(.bool b17), (.int .i64 n18), (.str s19), (.sl 4 l20)] ∧ (PCalls ax 16 [(.agg [(.bool b17), (.int .i64 n18), (.str s19), (.sl 4 l20)])] fun r22 => ∃ (n21 : Int), r22 = [(.int .i64 n21)] ∧ (I13 [(.int .i64 (IntKind.i64.wrap (n15 + n21))), (.int .i64 (IntKind.i64.wrap (n16 + 1)))] ∧ μ14 [(.int .i64 (IntKind.i64.wrap (n15 + n21))), (.int .i64 (IntKind.i64.wrap (n16 + 1)))] < μ14 [(.int .i64 n15), (.int .i64 n16)]))))
 else
 (bif (decide (n15 > (4096 : Int))) then
 (K [(.int .i64 4097)])
 else
 (K [(.int .i64 n15)]))) else (bif (decide (n15 > (4096 : Int))) then
 (K [(.int .i64 4097)])
 else
 (K [(.int .i64 n15)]))) else (bif (decide (n15 > (4096 : Int))) then
 (K [(.int .i64 4097)])
 else
 (K [(.int .i64 n15)])))))
set_option maxRecDepth 100000 in
theorem RNodes.eq (b1 : Bool) (n2 : Int) (s3 : ByteArray) (l4 : List (List V)) (K : List V → Prop) : RNodes.W b1 n2 s3 l4 K = afn ax RNodes.ah Tryz.f16 [(.agg [(.bool b1), (.int .i64 n2), (.str s3), (.sl 4 l4)])] [] (onlyV K) := by kernel_rfl
theorem RNodes.ok : codeOk tys (hintsOf RNodes.ah) Tryz.f16.ntmps (Tryz.f16.body.getD .skip) = true := by kernel_rfl
set_option maxHeartbeats 4000000 in
theorem RNodes.calls {b1 n2 s3 l4 K} (h : RNodes.W b1 n2 s3 l4 K) : PCalls ax 16 [(.agg [(.bool b1), (.int .i64 n2), (.str s3), (.sl 4 l4)])] K :=
  afn_run (ah := RNodes.ah) tysOk fnsOk follows eqOk Tryz.func16 (by kernel_rfl) RNodes.ok (by kernel_rfl) (Eq.mp (RNodes.eq b1 n2 s3 l4 K) h)
/-! ### RText: function 17, augur/augurref10.Text -/
def RText.ah : AH := ⟨[], [(5, ⟨[(3, [.d (.str)], false), (17, [.d (.int .i64)], false)], [], [], []⟩)], [], [(17, ⟨[some [.bool, .int .i64, .str, .sl 4]], [.c (.str)], []⟩), (30, ⟨[some [.int .i64]], [.c (.str)], []⟩)], [], [some [.str]], [], [], []⟩
set_option maxRecDepth 100000 in
def RText.W (b1 : Bool) (n2 : Int) (s3 : ByteArray) (l4 : List (List V)) (K : List V → Prop) : Prop :=
 (bif (!b1) then
 (PCalls ax 30 [(.int .i64 n2)] fun r8 => ∃ (s7 : ByteArray), r8 = [(.str s7)] ∧ (K [(.str s7)]))
 else
 (∃ (I19 : List V → Prop) (μ20 : List V → Nat), I19 [(.str s3), (.int .i64 0)] ∧ (∀ (s21 : ByteArray) (n22 : Int), I19 [(.str s21), (.int .i64 n22)] →
 (bif (decide (n22 < (List.length l4 : Int))) then
 (0 ≤ n22 ∧ n22 < (List.length l4 : Int) ∧ (∃ (b23 : Bool) (n24 : Int) (s25 : ByteArray) (l26 : List (List V)), List.take 4 (Av.rowAt l4 (n22 : Int).toNat) = [(.bool b23), (.int .i64 n24), (.str s25), (.sl 4 l26)] ∧ (bif (n22 == (0 : Int)) then
 (((s21.size + (⟨#[40]⟩ : ByteArray).size : Nat) : Int) ≤ IntKind.i64.max ∧ (PCalls ax 17 [(.agg [(.bool b23), (.int .i64 n24), (.str s25), (.sl 4 l26)])] fun r28 => ∃ (s27 : ByteArray), r28 = [(.str s27)] ∧ ((((s21 ++ (⟨#[40]⟩ : ByteArray)).size + s27.size : Nat) : Int) ≤ IntKind.i64.max ∧ (I19 [(.str ((s21 ++ (⟨#[40]⟩ : ByteArray)) ++ s27)), (.int .i64 (IntKind.i64.wrap (n22 + 1)))] ∧ μ20 [(.str ((s21 ++ (⟨#[40]⟩ : ByteArray)) ++ s27)), (.int .i64 (IntKind.i64.wrap (n22 + 1)))] < μ20 [(.str s21), (.int .i64 n22)]))))
 else
 (((s21.size + (⟨#[44, 32]⟩ : ByteArray).size : Nat) : Int) ≤ IntKind.i64.max ∧ (PCalls ax 17 [(.agg [(.bool b23), (.int .i64 n24), (.str s25), (.sl 4 l26)])] fun r30 => ∃ (s29 : ByteArray), r30 = [(.str s29)] ∧ ((((s21 ++ (⟨#[44, 32]⟩ : ByteArray)).size + s29.size : Nat) : Int) ≤ IntKind.i64.max ∧ (I19 [(.str ((s21 ++ (⟨#[44, 32]⟩ : ByteArray)) ++ s29)), (.int .i64 (IntKind.i64.wrap (n22 + 1)))] ∧ μ20 [(.str ((s21 ++ (⟨#[44, 32]⟩ : ByteArray)) ++ s29)), (.int .i64 (IntKind.i64.wrap (n22 + 1)))] < μ20 [(.str s21), (.int .i64 n22)])))))))
 else
 (bif (decide ((List.length l4 : Int) > (0 : Int))) then
 (((s21.size + (⟨#[41]⟩ : ByteArray).size : Nat) : Int) ≤ IntKind.i64.max ∧ (K [(.str (s21 ++ (⟨#[41]⟩ : ByteArray)))]))
 else
 (K [(.str s21)]))))))
set_option maxRecDepth 100000 in
theorem RText.eq (b1 : Bool) (n2 : Int) (s3 : ByteArray) (l4 : List (List V)) (K : List V → Prop) : RText.W b1 n2 s3 l4 K = afn ax RText.ah Tryz.f17 [(.agg [(.bool b1), (.int .i64 n2), (.str s3), (.sl 4 l4)])] [] (onlyV K) := by kernel_rfl
theorem RText.ok : codeOk tys (hintsOf RText.ah) Tryz.f17.ntmps (Tryz.f17.body.getD .skip) = true := by kernel_rfl
set_option maxHeartbeats 4000000 in
theorem RText.calls {b1 n2 s3 l4 K} (h : RText.W b1 n2 s3 l4 K) : PCalls ax 17 [(.agg [(.bool b1), (.int .i64 n2), (.str s3), (.sl 4 l4)])] K :=
  afn_run (ah := RText.ah) tysOk fnsOk follows eqOk Tryz.func17 (by kernel_rfl) RText.ok (by kernel_rfl) (Eq.mp (RText.eq b1 n2 s3 l4 K) h)
/-! ### decimal: function 30, augur/augurref03.Decimal -/
def decimal.ah : AH := ⟨[], [(3, ⟨[(3, [.d (.str)], false), (4, [.d (.int .i64)], false)], [], [], []⟩)], [], [], [], [some [.str]], [], [], []⟩
set_option maxRecDepth 100000 in
def decimal.W (n1 : Int) (K : List V → Prop) : Prop :=
 (∃ (I6 : List V → Prop) (μ7 : List V → Nat), I6 [(.str (⟨#[]⟩ : ByteArray)), (.int .i64 n1)] ∧ (∀ (s8 : ByteArray) (n9 : Int), I6 [(.str s8), (.int .i64 n9)] →
 (IntKind.i64 = IntKind.i64 ∧ (10 : Int) ≠ 0 ∧ (bif (decide ((Int.tmod n9 (10 : Int)) < (0 : Int))) then
 (∃ s10 : ByteArray, [[(.int .u8 (IntKind.u8.wrap (IntKind.i64.wrap (48 + (IntKind.i64.wrap (0 - (Int.tmod n9 (10 : Int))))))))]] = rowsOf s10 ∧ (((s10.size + s8.size : Nat) : Int) ≤ IntKind.i64.max ∧ (IntKind.i64 = IntKind.i64 ∧ (10 : Int) ≠ 0 ∧ (bif ((IntKind.i64.wrap (Int.tdiv n9 (10 : Int))) == (0 : Int)) then
 (bif (decide (n1 < (0 : Int))) then
 ((((⟨#[45]⟩ : ByteArray).size + (s10 ++ s8).size : Nat) : Int) ≤ IntKind.i64.max ∧ (K [(.str ((⟨#[45]⟩ : ByteArray) ++ (s10 ++ s8)))]))
 else
 (K [(.str (s10 ++ s8))]))
 else
 (I6 [(.str (s10 ++ s8)), (.int .i64 (IntKind.i64.wrap (Int.tdiv n9 (10 : Int))))] ∧ μ7 [(.str (s10 ++ s8)), (.int .i64 (IntKind.i64.wrap (Int.tdiv n9 (10 : Int))))] < μ7 [(.str s8), (.int .i64 n9)])))))
 else
 (∃ s11 : ByteArray, [[(.int .u8 (IntKind.u8.wrap (IntKind.i64.wrap (48 + (Int.tmod n9 (10 : Int))))))]] = rowsOf s11 ∧ (((s11.size + s8.size : Nat) : Int) ≤ IntKind.i64.max ∧ (IntKind.i64 = IntKind.i64 ∧ (10 : Int) ≠ 0 ∧ (bif ((IntKind.i64.wrap (Int.tdiv n9 (10 : Int))) == (0 : Int)) then
 (bif (decide (n1 < (0 : Int))) then
 ((((⟨#[45]⟩ : ByteArray).size + (s11 ++ s8).size : Nat) : Int) ≤ IntKind.i64.max ∧ (K [(.str ((⟨#[45]⟩ : ByteArray) ++ (s11 ++ s8)))]))
 else
 (K [(.str (s11 ++ s8))]))
 else
 (I6 [(.str (s11 ++ s8)), (.int .i64 (IntKind.i64.wrap (Int.tdiv n9 (10 : Int))))] ∧ μ7 [(.str (s11 ++ s8)), (.int .i64 (IntKind.i64.wrap (Int.tdiv n9 (10 : Int))))] < μ7 [(.str s8), (.int .i64 n9)])))))))))
set_option maxRecDepth 100000 in
theorem decimal.eq (n1 : Int) (K : List V → Prop) : decimal.W n1 K = afn ax decimal.ah Tryz.f30 [(.int .i64 n1)] [] (onlyV K) := by kernel_rfl
theorem decimal.ok : codeOk tys (hintsOf decimal.ah) Tryz.f30.ntmps (Tryz.f30.body.getD .skip) = true := by kernel_rfl
set_option maxHeartbeats 4000000 in
theorem decimal.calls {n1 K} (h : decimal.W n1 K) : PCalls ax 30 [(.int .i64 n1)] K :=
  afn_run (ah := decimal.ah) tysOk fnsOk follows eqOk Tryz.func30 (by kernel_rfl) decimal.ok (by kernel_rfl) (Eq.mp (decimal.eq n1 K) h)
/-! ### Decode: function 18, augur/data.Decode -/
def Decode.ah : AH := ⟨[(4, seqO [0, 1, 2, 3])], [], [], [(31, ⟨[none, some [.int .i64]], [.ag [.bool, .int .i64, .str, .sl 4], .c (.bool)], [.box [.d (.sl 1), .d (.int .i64)]]⟩)], [], [some [.bool, .int .i64, .str, .sl 4], some [.err]], [], [], []⟩
set_option maxRecDepth 100000 in
def Decode.W (l1 : List (List V)) (K : List V → Prop) : Prop :=
 (SCalls ax 31 [(.ptr 0 0), (.int .i64 1)] [(.box [(.sl 1 l1), (.int .i64 0)])] fun r16 o19 => ∃ (b11 : Bool) (n12 : Int) (s13 : ByteArray) (l14 : List (List V)) (b15 : Bool) (l17 : List (List V)) (n18 : Int), r16 = [(.agg [(.bool b11), (.int .i64 n12), (.str s13), (.sl 4 l14)]), (.bool b15)] ∧ o19 = [(.box [(.sl 1 l17), (.int .i64 n18)])] ∧ (bif (!b15) then (K [(.agg [(.bool false), (.int .i64 0), (.str (⟨#[]⟩ : ByteArray)), (.sl 4 [])]), (.err (some 10))]) else (bif (decide ((List.length l17 : Int) > (0 : Int))) then
 (K [(.agg [(.bool false), (.int .i64 0), (.str (⟨#[]⟩ : ByteArray)), (.sl 4 [])]), (.err (some 10))])
 else
 (K [(.agg [(.bool b11), (.int .i64 n12), (.str s13), (.sl 4 l14)]), (.err none)]))))
set_option maxRecDepth 100000 in
theorem Decode.eq (l1 : List (List V)) (K : List V → Prop) : Decode.W l1 K = afn ax Decode.ah Tryz.f18 [(.sl 1 l1)] [] (onlyV K) := by kernel_rfl
theorem Decode.ok : codeOk tys (hintsOf Decode.ah) Tryz.f18.ntmps (Tryz.f18.body.getD .skip) = true := by kernel_rfl
set_option maxHeartbeats 4000000 in
theorem Decode.calls {l1 K} (h : Decode.W l1 K) : PCalls ax 18 [(.sl 1 l1)] K :=
  afn_run (ah := Decode.ah) tysOk fnsOk follows eqOk Tryz.func18 (by kernel_rfl) Decode.ok (by kernel_rfl) (Eq.mp (Decode.eq l1 K) h)
/-! ### rdata: function 31, (*augur/data.reader).data -/
def rdata.ah : AH := ⟨[], [(9, ⟨[(10, [.d (.int .u64)], false), (61, [.d (.int .i64)], false)], [], [], []⟩), (25, ⟨[(131, [.d (.int .u8)], false)], [(0, [.d (.sl 1), .d (.int .i64)]), (2, [.d (.bool), .d (.int .i64), .d (.str), .nw 25 4 false])], [], []⟩)], [], [(31, ⟨[none, some [.int .i64]], [.ag [.bool, .int .i64, .str, .sl 4], .c (.bool)], [.box [.d (.sl 1), .d (.int .i64)]]⟩), (40, ⟨[none, some [.int .i64]], [.c (.sl 1), .c (.bool)], [.box [.d (.sl 1), .d (.int .i64)]]⟩)], [], [some [.bool, .int .i64, .str, .sl 4], some [.bool]], [], [], []⟩
set_option maxRecDepth 100000 in
def rdata.W (n1 : Int) (bb : List (List V)) (nn : Int) (K : List V → List Ob → Prop) : Prop :=
 (SCalls ax 40 [(.ptr 0 0), (.int .i64 1)] [(.box [(.sl 1 bb), (.int .i64 (IntKind.i64.wrap (nn + 1)))])] fun r10 o13 => ∃ (l8 : List (List V)) (b9 : Bool) (l11 : List (List V)) (n12 : Int), r10 = [(.sl 1 l8), (.bool b9)] ∧ o13 = [(.box [(.sl 1 l11), (.int .i64 n12)])] ∧ (bif (!b9) then (K [(.agg [(.bool false), (.int .i64 0), (.str (⟨#[]⟩ : ByteArray)), (.sl 4 [])]), (.bool false)] [(.box [(.sl 1 l11), (.int .i64 n12)])]) else (0 ≤ (0 : Int) ∧ (0 : Int) < (List.length l8 : Int) ∧ (∃ (n15 : Int), List.take 1 (Av.rowAt l8 0) = [(.int .u8 n15)] ∧ (bif (decide (n15 > (1 : Int))) then (K [(.agg [(.bool false), (.int .i64 0), (.str (⟨#[]⟩ : ByteArray)), (.sl 4 [])]), (.bool false)] [(.box [(.sl 1 l11), (.int .i64 n12)])]) else (bif (decide (n1 > (200 : Int))) then (K [(.agg [(.bool false), (.int .i64 0), (.str (⟨#[]⟩ : ByteArray)), (.sl 4 [])]), (.bool false)] [(.box [(.sl 1 l11), (.int .i64 n12)])]) else (bif (decide (n12 > (4096 : Int))) then
 (K [(.agg [(.bool false), (.int .i64 0), (.str (⟨#[]⟩ : ByteArray)), (.sl 4 [])]), (.bool false)] [(.box [(.sl 1 l11), (.int .i64 n12)])])
 else
 (0 ≤ (0 : Int) ∧ (0 : Int) < (List.length l8 : Int) ∧ (∃ (n39 : Int), List.take 1 (Av.rowAt l8 0) = [(.int .u8 n39)] ∧ (bif (n39 == (0 : Int)) then
 (SCalls ax 40 [(.ptr 0 0), (.int .i64 8)] [(.box [(.sl 1 l11), (.int .i64 n12)])] fun r48 o51 => ∃ (l46 : List (List V)) (b47 : Bool) (l49 : List (List V)) (n50 : Int), r48 = [(.sl 1 l46), (.bool b47)] ∧ o51 = [(.box [(.sl 1 l49), (.int .i64 n50)])] ∧ (∃ (I55 : List V → Prop) (μ56 : List V → Nat), I55 [(.int .u64 0), (.int .i64 0)] ∧ (∀ (n57 : Int) (n58 : Int), I55 [(.int .u64 n57), (.int .i64 n58)] →
 (bif (decide (n58 < (List.length l46 : Int))) then
 (0 ≤ n58 ∧ n58 < (List.length l46 : Int) ∧ (∃ (n59 : Int), List.take 1 (Av.rowAt l46 (n58 : Int).toNat) = [(.int .u8 n59)] ∧ (0 ≤ (IntKind.i64.wrap (8 * n58)) ∧ (I55 [(.int .u64 (IntKind.u64.wrap ((BitVec.ofInt IntKind.u64.bits n57 ||| BitVec.ofInt IntKind.u64.bits (IntKind.u64.wrap ((IntKind.u64.wrap n59) * 2 ^ min ((IntKind.i64.wrap (8 * n58)) : Int).toNat IntKind.u64.bits)))).toNat)), (.int .i64 (IntKind.i64.wrap (n58 + 1)))] ∧ μ56 [(.int .u64 (IntKind.u64.wrap ((BitVec.ofInt IntKind.u64.bits n57 ||| BitVec.ofInt IntKind.u64.bits (IntKind.u64.wrap ((IntKind.u64.wrap n59) * 2 ^ min ((IntKind.i64.wrap (8 * n58)) : Int).toNat IntKind.u64.bits)))).toNat)), (.int .i64 (IntKind.i64.wrap (n58 + 1)))] < μ56 [(.int .u64 n57), (.int .i64 n58)]))))
 else
 (K [(.agg [(.bool false), (.int .i64 (IntKind.i64.wrap n57)), (.str (⟨#[]⟩ : ByteArray)), (.sl 4 [])]), (.bool b47)] [(.box [(.sl 1 l49), (.int .i64 n50)])])))))
 else
 (SCalls ax 40 [(.ptr 0 0), (.int .i64 1)] [(.box [(.sl 1 l11), (.int .i64 n12)])] fun r68 o71 => ∃ (l66 : List (List V)) (b67 : Bool) (l69 : List (List V)) (n70 : Int), r68 = [(.sl 1 l66), (.bool b67)] ∧ o71 = [(.box [(.sl 1 l69), (.int .i64 n70)])] ∧ (bif (!b67) then (K [(.agg [(.bool false), (.int .i64 0), (.str (⟨#[]⟩ : ByteArray)), (.sl 4 [])]), (.bool false)] [(.box [(.sl 1 l69), (.int .i64 n70)])]) else (0 ≤ (0 : Int) ∧ (0 : Int) < (List.length l66 : Int) ∧ (∃ (n74 : Int), List.take 1 (Av.rowAt l66 0) = [(.int .u8 n74)] ∧ (bif (decide (n74 < (1 : Int))) then (K [(.agg [(.bool false), (.int .i64 0), (.str (⟨#[]⟩ : ByteArray)), (.sl 4 [])]), (.bool false)] [(.box [(.sl 1 l69), (.int .i64 n70)])]) else (0 ≤ (0 : Int) ∧ (0 : Int) < (List.length l66 : Int) ∧ (∃ (n75 : Int), List.take 1 (Av.rowAt l66 0) = [(.int .u8 n75)] ∧ (bif (decide (n75 > (32 : Int))) then
 (K [(.agg [(.bool false), (.int .i64 0), (.str (⟨#[]⟩ : ByteArray)), (.sl 4 [])]), (.bool false)] [(.box [(.sl 1 l69), (.int .i64 n70)])])
 else
 (0 ≤ (0 : Int) ∧ (0 : Int) < (List.length l66 : Int) ∧ (∃ (n83 : Int), List.take 1 (Av.rowAt l66 0) = [(.int .u8 n83)] ∧ (SCalls ax 40 [(.ptr 0 0), (.int .i64 (IntKind.i64.wrap n83))] [(.box [(.sl 1 l69), (.int .i64 n70)])] fun r86 o89 => ∃ (l84 : List (List V)) (b85 : Bool) (l87 : List (List V)) (n88 : Int), r86 = [(.sl 1 l84), (.bool b85)] ∧ o89 = [(.box [(.sl 1 l87), (.int .i64 n88)])] ∧ (bif (!b85) then
 (K [(.agg [(.bool false), (.int .i64 0), (.str (⟨#[]⟩ : ByteArray)), (.sl 4 [])]), (.bool false)] [(.box [(.sl 1 l87), (.int .i64 n88)])])
 else
 (SCalls ax 40 [(.ptr 0 0), (.int .i64 1)] [(.box [(.sl 1 l87), (.int .i64 n88)])] fun r98 o101 => ∃ (l96 : List (List V)) (b97 : Bool) (l99 : List (List V)) (n100 : Int), r98 = [(.sl 1 l96), (.bool b97)] ∧ o101 = [(.box [(.sl 1 l99), (.int .i64 n100)])] ∧ (bif (!b97) then (K [(.agg [(.bool false), (.int .i64 0), (.str (⟨#[]⟩ : ByteArray)), (.sl 4 [])]), (.bool false)] [(.box [(.sl 1 l99), (.int .i64 n100)])]) else (0 ≤ (0 : Int) ∧ (0 : Int) < (List.length l96 : Int) ∧ (∃ (n103 : Int), List.take 1 (Av.rowAt l96 0) = [(.int .u8 n103)] ∧ (bif (decide (n103 > (8 : Int))) then
 (K [(.agg [(.bool false), (.int .i64 0), (.str (⟨#[]⟩ : ByteArray)), (.sl 4 [])]), (.bool false)] [(.box [(.sl 1 l99), (.int .i64 n100)])])
 else
 (∃ s105 : ByteArray, l84 = rowsOf s105 ∧ (0 ≤ (0 : Int) ∧ (0 : Int) < (List.length l96 : Int) ∧ (∃ (n107 : Int), List.take 1 (Av.rowAt l96 0) = [(.int .u8 n107)] ∧ (∃ (I134 : List V → Prop) (μ135 : List V → Nat), I134 [(.int .u8 0), (.sl 1 l99), (.int .i64 n100), (.bool true), (.int .i64 0), (.str s105), (.sl 4 [])] ∧ (∀ (n136 : Int) (l137 : List (List V)) (n138 : Int) (b139 : Bool) (n140 : Int) (s141 : ByteArray) (l142 : List (List V)), I134 [(.int .u8 n136), (.sl 1 l137), (.int .i64 n138), (.bool b139), (.int .i64 n140), (.str s141), (.sl 4 l142)] →
 (bif (decide (n136 < n107)) then
 (SCalls ax 31 [(.ptr 0 0), (.int .i64 (IntKind.i64.wrap (n1 + 1)))] [(.box [(.sl 1 l137), (.int .i64 n138)])] fun r148 o151 => ∃ (b143 : Bool) (n144 : Int) (s145 : ByteArray) (l146 : List (List V)) (b147 : Bool) (l149 : List (List V)) (n150 : Int), r148 = [(.agg [(.bool b143), (.int .i64 n144), (.str s145), (.sl 4 l146)]), (.bool b147)] ∧ o151 = [(.box [(.sl 1 l149), (.int .i64 n150)])] ∧ (bif (!b147) then
 (K [(.agg [(.bool false), (.int .i64 0), (.str (⟨#[]⟩ : ByteArray)), (.sl 4 [])]), (.bool false)] [(.box [(.sl 1 l149), (.int .i64 n150)])])
 else
 (((List.length l142) + (List.length ([[(.bool b143), (.int .i64 n144), (.str s145), (.sl 4 l146)]] : List (List V)))) * 56 ≤ 140737488355328 ∧ (List.length l142) + (List.length ([[(.bool b143), (.int .i64 n144), (.str s145), (.sl 4 l146)]] : List (List V))) ≤ 140737488355328 ∧ (I134 [(.int .u8 (IntKind.u8.wrap (n136 + 1))), (.sl 1 l149), (.int .i64 n150), (.bool b139), (.int .i64 n140), (.str s141), (.sl 4 (l142 ++ [[(.bool b143), (.int .i64 n144), (.str s145), (.sl 4 l146)]]))] ∧ μ135 [(.int .u8 (IntKind.u8.wrap (n136 + 1))), (.sl 1 l149), (.int .i64 n150), (.bool b139), (.int .i64 n140), (.str s141), (.sl 4 (l142 ++ [[(.bool b143), (.int .i64 n144), (.str s145), (.sl 4 l146)]]))] < μ135 [(.int .u8 n136), (.sl 1 l137), (.int .i64 n138), (.bool b139), (.int .i64 n140), (.str s141), (.sl 4 l142)]))))
 else
 (K [(.agg [(.bool b139), (.int .i64 n140), (.str s141), (.sl 4 l142)]), (.bool true)] [(.box [(.sl 1 l137), (.int .i64 n138)])]))))))))))))))))))))))))))))))))))
set_option maxRecDepth 100000 in
theorem rdata.eq (n1 : Int) (bb : List (List V)) (nn : Int) (K : List V → List Ob → Prop) : rdata.W n1 bb nn K = afn ax rdata.ah Tryz.f31 [(.ptr 0 0), (.int .i64 n1)] [(.box [(.sl 1 bb), (.int .i64 nn)])] K := by kernel_rfl
theorem rdata.ok : codeOk tys (hintsOf rdata.ah) Tryz.f31.ntmps (Tryz.f31.body.getD .skip) = true := by kernel_rfl
set_option maxHeartbeats 4000000 in
theorem rdata.calls {n1 bb nn K} (h : rdata.W n1 bb nn K) : SCalls ax 31 [(.ptr 0 0), (.int .i64 n1)] [(.box [(.sl 1 bb), (.int .i64 nn)])] K :=
  afn_run (ah := rdata.ah) tysOk fnsOk follows eqOk Tryz.func31 (by kernel_rfl) rdata.ok (by kernel_rfl) (Eq.mp (rdata.eq n1 bb nn K) h)
/-! ### take: function 40, (*augur/data.reader).take -/
def take.ah : AH := ⟨[], [], [], [], [], [some [.sl 1], some [.bool]], [], [], []⟩
set_option maxRecDepth 100000 in
def take.W (n1 : Int) (bb : List (List V)) (nn : Int) (K : List V → List Ob → Prop) : Prop :=
 (bif (decide ((List.length bb : Int) < n1)) then
 (K [(.sl 1 []), (.bool false)] [(.box [(.sl 1 bb), (.int .i64 nn)])])
 else
 (0 ≤ n1 ∧ n1 ≤ n1 ∧ n1 ≤ (List.length bb : Int) ∧ (0 ≤ n1 ∧ n1 ≤ (List.length bb : Int) ∧ (K [(.sl 1 (List.take (n1 : Int).toNat bb)), (.bool true)] [(.box [(.sl 1 (List.drop (n1 : Int).toNat bb)), (.int .i64 nn)])]))))
set_option maxRecDepth 100000 in
theorem take.eq (n1 : Int) (bb : List (List V)) (nn : Int) (K : List V → List Ob → Prop) : take.W n1 bb nn K = afn ax take.ah Tryz.f40 [(.ptr 0 0), (.int .i64 n1)] [(.box [(.sl 1 bb), (.int .i64 nn)])] K := by kernel_rfl
theorem take.ok : codeOk tys (hintsOf take.ah) Tryz.f40.ntmps (Tryz.f40.body.getD .skip) = true := by kernel_rfl
set_option maxHeartbeats 4000000 in
theorem take.calls {n1 bb nn K} (h : take.W n1 bb nn K) : SCalls ax 40 [(.ptr 0 0), (.int .i64 n1)] [(.box [(.sl 1 bb), (.int .i64 nn)])] K :=
  afn_run (ah := take.ah) tysOk fnsOk follows eqOk Tryz.func40 (by kernel_rfl) take.ok (by kernel_rfl) (Eq.mp (take.eq n1 bb nn K) h)
/-! ### Forms: function 4, augur/augurlaw10.DataForms -/
def Forms.ah : AH := ⟨[(5, seqO [0, 2, 1, 3, 4, 5, 6, 8, 7, 9, 10, 11, 12, 13, 14, 15, 16, 17, 18, 19, 20, 22, 21, 23, 24])], [], [(16, ⟨[], [], [], []⟩)], [(5, ⟨[], [.c (.bool)], []⟩), (6, ⟨[some [.str]], [.ag [.bool, .int .i64, .str, .sl 4], .c (.err)], []⟩), (7, ⟨[some [.str]], [.ag [.bool, .int .i64, .str, .sl 4], .c (.int .i64)], []⟩), (8, ⟨[some [.err]], [.c (.int .i64)], []⟩), (9, ⟨[some [.bool, .int .i64, .str, .sl 4], some [.bool, .int .i64, .str, .sl 4]], [.c (.bool)], []⟩), (10, ⟨[some [.bool, .int .i64, .str, .sl 4]], [.c (.str), .c (.err)], []⟩), (11, ⟨[some [.bool, .int .i64, .str, .sl 4]], [.c (.sl 1), .c (.err)], []⟩), (12, ⟨[some [.bool, .int .i64, .str, .sl 4]], [.c (.sl 1), .c (.int .i64)], []⟩), (13, ⟨[some [.bool, .int .i64, .str, .sl 4]], [.c (.bool)], []⟩), (14, ⟨[some [.bool, .int .i64, .str, .sl 4]], [.c (.bool)], []⟩), (15, ⟨[some [.bool, .int .i64, .str, .sl 4]], [.c (.int .i64)], []⟩), (16, ⟨[some [.bool, .int .i64, .str, .sl 4]], [.c (.int .i64)], []⟩), (17, ⟨[some [.bool, .int .i64, .str, .sl 4]], [.c (.str)], []⟩), (18, ⟨[some [.sl 1]], [.ag [.bool, .int .i64, .str, .sl 4], .c (.err)], []⟩)], [], [some [.bool]], [], [], []⟩
set_option maxRecDepth 100000 in
def Forms.W (b1 : Bool) (n2 : Int) (s3 : ByteArray) (l4 : List (List V)) (K : List V → Prop) : Prop :=
 (PCalls ax 5 [] fun r8 => ∃ (b7 : Bool), r8 = [(.bool b7)] ∧ (bif (!b7) then
 (K [(.bool false)])
 else
 (PCalls ax 11 [(.agg [(.bool b1), (.int .i64 n2), (.str s3), (.sl 4 l4)])] fun r14 => ∃ (l12 : List (List V)) (x13 : Option Nat), r14 = [(.sl 1 l12), (.err x13)] ∧ (PCalls ax 12 [(.agg [(.bool b1), (.int .i64 n2), (.str s3), (.sl 4 l4)])] fun r20 => ∃ (l18 : List (List V)) (n19 : Int), r20 = [(.sl 1 l18), (.int .i64 n19)] ∧ (PCalls ax 13 [(.agg [(.bool b1), (.int .i64 n2), (.str s3), (.sl 4 l4)])] fun r34 => ∃ (b33 : Bool), r34 = [(.bool b33)] ∧ (PCalls ax 14 [(.agg [(.bool b1), (.int .i64 n2), (.str s3), (.sl 4 l4)])] fun r36 => ∃ (b35 : Bool), r36 = [(.bool b35)] ∧ (bif (!(b33 == b35)) then (K [(.bool false)]) else (PCalls ax 15 [(.agg [(.bool b1), (.int .i64 n2), (.str s3), (.sl 4 l4)])] fun r38 => ∃ (n37 : Int), r38 = [(.int .i64 n37)] ∧ (PCalls ax 16 [(.agg [(.bool b1), (.int .i64 n2), (.str s3), (.sl 4 l4)])] fun r40 => ∃ (n39 : Int), r40 = [(.int .i64 n39)] ∧ (bif (n37 != n39) then (K [(.bool false)]) else (∃ s41 : ByteArray, l12 = rowsOf s41 ∧ (∃ s42 : ByteArray, l18 = rowsOf s42 ∧ (bif (!(strEq s41 s42)) then (K [(.bool false)]) else (PCalls ax 8 [(.err x13)] fun r44 => ∃ (n43 : Int), r44 = [(.int .i64 n43)] ∧ (bif (n43 != n19) then
 (K [(.bool false)])
 else
 (PCalls ax 10 [(.agg [(.bool b1), (.int .i64 n2), (.str s3), (.sl 4 l4)])] fun r50 => ∃ (s48 : ByteArray) (x49 : Option Nat), r50 = [(.str s48), (.err x49)] ∧ (PCalls ax 14 [(.agg [(.bool b1), (.int .i64 n2), (.str s3), (.sl 4 l4)])] fun r54 => ∃ (b53 : Bool), r54 = [(.bool b53)] ∧ (bif (!b53) then
 (bif (errEq x49 (some 0)) then (K [(.bool (strEq s48 (⟨#[]⟩ : ByteArray)))]) else (K [(.bool false)]))
 else
 (bif (!(Option.isNone x49)) then (K [(.bool false)]) else (PCalls ax 17 [(.agg [(.bool b1), (.int .i64 n2), (.str s3), (.sl 4 l4)])] fun r58 => ∃ (s57 : ByteArray), r58 = [(.str s57)] ∧ (bif (!(strEq s48 s57)) then
 (K [(.bool false)])
 else
 (∃ J67 : List V → Prop, (bif (n19 == (0 : Int)) then
 (PCalls ax 18 [(.sl 1 l12)] fun r73 => ∃ (b68 : Bool) (n69 : Int) (s70 : ByteArray) (l71 : List (List V)) (x72 : Option Nat), r73 = [(.agg [(.bool b68), (.int .i64 n69), (.str s70), (.sl 4 l71)]), (.err x72)] ∧ (bif (!(Option.isNone x72)) then (K [(.bool false)]) else (PCalls ax 9 [(.agg [(.bool b68), (.int .i64 n69), (.str s70), (.sl 4 l71)]), (.agg [(.bool b1), (.int .i64 n2), (.str s3), (.sl 4 l4)])] fun r75 => ∃ (b74 : Bool), r75 = [(.bool b74)] ∧ (bif (!b74) then
 (K [(.bool false)])
 else
 (J67 [])))))
 else
 (J67 [])) ∧
 (J67 [] →
 (PCalls ax 6 [(.str s48)] fun r87 => ∃ (b82 : Bool) (n83 : Int) (s84 : ByteArray) (l85 : List (List V)) (x86 : Option Nat), r87 = [(.agg [(.bool b82), (.int .i64 n83), (.str s84), (.sl 4 l85)]), (.err x86)] ∧ (PCalls ax 7 [(.str s48)] fun r93 => ∃ (b88 : Bool) (n89 : Int) (s90 : ByteArray) (l91 : List (List V)) (n92 : Int), r93 = [(.agg [(.bool b88), (.int .i64 n89), (.str s90), (.sl 4 l91)]), (.int .i64 n92)] ∧ (PCalls ax 8 [(.err x86)] fun r95 => ∃ (n94 : Int), r95 = [(.int .i64 n94)] ∧ (bif (n94 == n92) then (PCalls ax 9 [(.agg [(.bool b82), (.int .i64 n83), (.str s84), (.sl 4 l85)]), (.agg [(.bool b88), (.int .i64 n89), (.str s90), (.sl 4 l91)])] fun r97 => ∃ (b96 : Bool), r97 = [(.bool b96)] ∧ (K [(.bool b96)])) else (K [(.bool false)]))))))))))))))))))))))))))))
set_option maxRecDepth 100000 in
theorem Forms.eq (b1 : Bool) (n2 : Int) (s3 : ByteArray) (l4 : List (List V)) (K : List V → Prop) : Forms.W b1 n2 s3 l4 K = afn ax Forms.ah Tryz.f4 [(.agg [(.bool b1), (.int .i64 n2), (.str s3), (.sl 4 l4)])] [] (onlyV K) := by kernel_rfl
theorem Forms.ok : codeOk tys (hintsOf Forms.ah) Tryz.f4.ntmps (Tryz.f4.body.getD .skip) = true := by kernel_rfl
set_option maxHeartbeats 4000000 in
theorem Forms.calls {b1 n2 s3 l4 K} (h : Forms.W b1 n2 s3 l4 K) : PCalls ax 4 [(.agg [(.bool b1), (.int .i64 n2), (.str s3), (.sl 4 l4)])] K :=
  afn_run (ah := Forms.ah) tysOk fnsOk follows eqOk Tryz.func4 (by kernel_rfl) Forms.ok (by kernel_rfl) (Eq.mp (Forms.eq b1 n2 s3 l4 K) h)
end Go.Proofs.YtgjifgjjcaohoaaGreatDoor.Va
end
