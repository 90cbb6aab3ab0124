/- Forms of functions of this seat, as the second executor has them, each tied to the model by the kernel. -/
import Derived.Test.YtdgekhanonfikaaDoorF3
import Derived.Lib.Itoa
import Derived.Lib.ItoaNum
import Derived.Test.YtdgekhanonfikaaDoorProg
/- part U1A -/
section
namespace Go.Proofs.YtdgekhanonfikaaDoor.Va
open Go.Vx Go.Av
def tys : Tys := [(3, ⟨(.int .i64), 1, 8, [.int .i64 0], [.int .i64]⟩),
  (4, ⟨.bool, 1, 1, [.bool false], [.bool]⟩),
  (5, ⟨(.int .u8), 1, 1, [.int .u8 0], [.int .u8]⟩),
  (9, ⟨.str, 1, 16, [.string (⟨#[]⟩ : ByteArray)], [.str]⟩),
  (24, ⟨(.ptr 67), 1, 8, [.pointer none], [.ptr]⟩),
  (27, ⟨(.sl 32), 1, 24, [.slice none 0 0], [.sl]⟩),
  (29, ⟨(.agg [(0, 27)]), 1, 24, [.slice none 0 0], [.sl]⟩),
  (32, ⟨(.agg [(0, 3), (1, 9), (2, 3), (3, 27)]), 4, 56, [.int .i64 0, .string (⟨#[]⟩ : ByteArray), .int .i64 0, .slice none 0 0], [.int .i64, .str, .int .i64, .sl]⟩),
  (38, ⟨.iface, 1, 16, [.nilIface], [.any]⟩),
  (54, ⟨(.sl 59), 1, 24, [.slice none 0 0], [.sl]⟩),
  (55, ⟨(.sl 9), 1, 24, [.slice none 0 0], [.sl]⟩),
  (57, ⟨(.map 9 32), 1, 8, [.map none], [.any]⟩),
  (59, ⟨(.agg [(0, 4), (1, 9), (2, 54)]), 3, 48, [.bool false, .string (⟨#[]⟩ : ByteArray), .slice none 0 0], [.bool, .str, .sl]⟩),
  (65, ⟨(.sl 69), 1, 24, [.slice none 0 0], [.sl]⟩),
  (67, ⟨(.agg [(0, 65)]), 1, 24, [.slice none 0 0], [.sl]⟩),
  (69, ⟨(.agg [(0, 32), (4, 4)]), 5, 64, [.int .i64 0, .string (⟨#[]⟩ : ByteArray), .int .i64 0, .slice none 0 0, .bool false], [.int .i64, .str, .int .i64, .sl, .bool]⟩),
  (72, ⟨.fn, 1, 8, [.nilFunc], [.any]⟩),
  (76, ⟨(.map 3 3), 1, 8, [.map none], [.any]⟩),
  (84, ⟨(.sl 3), 1, 24, [.slice none 0 0], [.sl]⟩),
  (90, ⟨(.sl 5), 1, 24, [.slice none 0 0], [.sl]⟩),
  (77, ⟨.tuple [3, 4], 1, 0, [.tuple #[.int .i64 0, .bool false]], []⟩),
  (79, ⟨.tuple [32, 4], 1, 0, [.tuple #[.agg #[.int .i64 0, .string (⟨#[]⟩ : ByteArray), .int .i64 0, .slice none 0 0], .bool false]], []⟩)]
theorem ty3 : Ty.Ok Tryd.prog 3 ⟨(.int .i64), 1, 8, [.int .i64 0], [.int .i64]⟩ := ⟨Tryd.underlying3, by kernel_rfl, by kernel_rfl, rfl⟩
theorem ty4 : Ty.Ok Tryd.prog 4 ⟨.bool, 1, 1, [.bool false], [.bool]⟩ := ⟨Tryd.underlying4, by kernel_rfl, by kernel_rfl, rfl⟩
theorem ty5 : Ty.Ok Tryd.prog 5 ⟨(.int .u8), 1, 1, [.int .u8 0], [.int .u8]⟩ := ⟨Tryd.underlying5, by kernel_rfl, by kernel_rfl, rfl⟩
theorem ty9 : Ty.Ok Tryd.prog 9 ⟨.str, 1, 16, [.string (⟨#[]⟩ : ByteArray)], [.str]⟩ := ⟨Tryd.underlying9, by kernel_rfl, by kernel_rfl, rfl⟩
theorem ty24 : Ty.Ok Tryd.prog 24 ⟨(.ptr 67), 1, 8, [.pointer none], [.ptr]⟩ := ⟨Tryd.underlying24, by kernel_rfl, by kernel_rfl, rfl⟩
theorem ty27 : Ty.Ok Tryd.prog 27 ⟨(.sl 32), 1, 24, [.slice none 0 0], [.sl]⟩ := ⟨Tryd.underlying27, by kernel_rfl, by kernel_rfl, rfl⟩
theorem ty29 : Ty.Ok Tryd.prog 29 ⟨(.agg [(0, 27)]), 1, 24, [.slice none 0 0], [.sl]⟩ := ⟨⟨_, Tryd.underlying29, rfl⟩, by kernel_rfl, by kernel_rfl, rfl⟩
theorem ty32 : Ty.Ok Tryd.prog 32 ⟨(.agg [(0, 3), (1, 9), (2, 3), (3, 27)]), 4, 56, [.int .i64 0, .string (⟨#[]⟩ : ByteArray), .int .i64 0, .slice none 0 0], [.int .i64, .str, .int .i64, .sl]⟩ := ⟨⟨_, Tryd.underlying32, rfl⟩, by kernel_rfl, by kernel_rfl, rfl⟩
theorem ty38 : Ty.Ok Tryd.prog 38 ⟨.iface, 1, 16, [.nilIface], [.any]⟩ := ⟨⟨_, Tryd.underlying38⟩, by kernel_rfl, by kernel_rfl, rfl⟩
theorem ty54 : Ty.Ok Tryd.prog 54 ⟨(.sl 59), 1, 24, [.slice none 0 0], [.sl]⟩ := ⟨Tryd.underlying54, by kernel_rfl, by kernel_rfl, rfl⟩
theorem ty55 : Ty.Ok Tryd.prog 55 ⟨(.sl 9), 1, 24, [.slice none 0 0], [.sl]⟩ := ⟨Tryd.underlying55, by kernel_rfl, by kernel_rfl, rfl⟩
theorem ty57 : Ty.Ok Tryd.prog 57 ⟨(.map 9 32), 1, 8, [.map none], [.any]⟩ := ⟨Tryd.underlying57, by kernel_rfl, by kernel_rfl, rfl⟩
theorem ty59 : Ty.Ok Tryd.prog 59 ⟨(.agg [(0, 4), (1, 9), (2, 54)]), 3, 48, [.bool false, .string (⟨#[]⟩ : ByteArray), .slice none 0 0], [.bool, .str, .sl]⟩ := ⟨⟨_, Tryd.underlying59, rfl⟩, by kernel_rfl, by kernel_rfl, rfl⟩
theorem ty65 : Ty.Ok Tryd.prog 65 ⟨(.sl 69), 1, 24, [.slice none 0 0], [.sl]⟩ := ⟨Tryd.underlying65, by kernel_rfl, by kernel_rfl, rfl⟩
theorem ty67 : Ty.Ok Tryd.prog 67 ⟨(.agg [(0, 65)]), 1, 24, [.slice none 0 0], [.sl]⟩ := ⟨⟨_, Tryd.underlying67, rfl⟩, by kernel_rfl, by kernel_rfl, rfl⟩
theorem ty69 : Ty.Ok Tryd.prog 69 ⟨(.agg [(0, 32), (4, 4)]), 5, 64, [.int .i64 0, .string (⟨#[]⟩ : ByteArray), .int .i64 0, .slice none 0 0, .bool false], [.int .i64, .str, .int .i64, .sl, .bool]⟩ := ⟨⟨_, Tryd.underlying69, rfl⟩, by kernel_rfl, by kernel_rfl, rfl⟩
theorem ty72 : Ty.Ok Tryd.prog 72 ⟨.fn, 1, 8, [.nilFunc], [.any]⟩ := ⟨⟨_, _, _, Tryd.underlying72⟩, by kernel_rfl, by kernel_rfl, rfl⟩
theorem ty76 : Ty.Ok Tryd.prog 76 ⟨(.map 3 3), 1, 8, [.map none], [.any]⟩ := ⟨Tryd.underlying76, by kernel_rfl, by kernel_rfl, rfl⟩
theorem ty84 : Ty.Ok Tryd.prog 84 ⟨(.sl 3), 1, 24, [.slice none 0 0], [.sl]⟩ := ⟨Tryd.underlying84, by kernel_rfl, by kernel_rfl, rfl⟩
theorem ty90 : Ty.Ok Tryd.prog 90 ⟨(.sl 5), 1, 24, [.slice none 0 0], [.sl]⟩ := ⟨Tryd.underlying90, by kernel_rfl, by kernel_rfl, rfl⟩
theorem ty77 : Ty.Ok Tryd.prog 77 ⟨.tuple [3, 4], 1, 0, [.tuple #[.int .i64 0, .bool false]], []⟩ := ⟨trivial, by kernel_rfl, by kernel_rfl, rfl⟩
theorem ty79 : Ty.Ok Tryd.prog 79 ⟨.tuple [32, 4], 1, 0, [.tuple #[.agg #[.int .i64 0, .string (⟨#[]⟩ : ByteArray), .int .i64 0, .slice none 0 0], .bool false]], []⟩ := ⟨trivial, by kernel_rfl, by kernel_rfl, rfl⟩
theorem tysOk : AllOk Tryd.prog tys := ⟨ty3, ty4, ty5, ty9, ty24, ty27, ty29, ty32, ty38, ty54, ty55, ty57, ty59, ty65, ty67, ty69, ty72, ty76, ty84, ty90, ty77, ty79, trivial⟩
def fns : Fns := [(8, [4]), (9, [24]), (10, [4]), (11, [32]), (14, [38]), (16, [32, 38]), (17, [32]), (19, [3]), (20, [4]), (21, [3]), (22, [4]), (23, [27]), (24, [55]), (25, [55]), (26, [32]), (27, [32]), (28, [9]), (29, [9]), (30, [4]), (31, [27]), (32, [32]), (33, [38]), (34, [38]), (35, [32]), (36, [3]), (37, [3]), (38, [32]), (39, [3]), (40, [32]), (41, [32, 3]), (42, [32]), (43, [4]), (44, [32]), (45, [9]), (46, [9]), (47, [9]), (48, [4]), (49, [27]), (50, [84]), (51, [4]), (52, [3]), (53, [32]), (54, [38]), (55, [32]), (56, [3]), (57, [3]), (62, [4]), (63, [4]), (64, [4]), (65, [4]), (66, [4]), (67, [32]), (71, [3]), (72, [4])]
theorem fnOk8 : ∃ fn, Tryd.prog.funcs[8]? = some fn ∧ (fn.name == "runtime.NumGoroutine") = false ∧ fn.body.isNone = false := ⟨_, Tryd.func8, by kernel_rfl, by kernel_rfl⟩
theorem fnOk9 : ∃ fn, Tryd.prog.funcs[9]? = some fn ∧ (fn.name == "runtime.NumGoroutine") = false ∧ fn.body.isNone = false := ⟨_, Tryd.func9, by kernel_rfl, by kernel_rfl⟩
theorem fnOk10 : ∃ fn, Tryd.prog.funcs[10]? = some fn ∧ (fn.name == "runtime.NumGoroutine") = false ∧ fn.body.isNone = false := ⟨_, Tryd.func10, by kernel_rfl, by kernel_rfl⟩
theorem fnOk11 : ∃ fn, Tryd.prog.funcs[11]? = some fn ∧ (fn.name == "runtime.NumGoroutine") = false ∧ fn.body.isNone = false := ⟨_, Tryd.func11, by kernel_rfl, by kernel_rfl⟩
theorem fnOk14 : ∃ fn, Tryd.prog.funcs[14]? = some fn ∧ (fn.name == "runtime.NumGoroutine") = false ∧ fn.body.isNone = false := ⟨_, Tryd.func14, by kernel_rfl, by kernel_rfl⟩
theorem fnOk16 : ∃ fn, Tryd.prog.funcs[16]? = some fn ∧ (fn.name == "runtime.NumGoroutine") = false ∧ fn.body.isNone = false := ⟨_, Tryd.func16, by kernel_rfl, by kernel_rfl⟩
theorem fnOk17 : ∃ fn, Tryd.prog.funcs[17]? = some fn ∧ (fn.name == "runtime.NumGoroutine") = false ∧ fn.body.isNone = false := ⟨_, Tryd.func17, by kernel_rfl, by kernel_rfl⟩
theorem fnOk19 : ∃ fn, Tryd.prog.funcs[19]? = some fn ∧ (fn.name == "runtime.NumGoroutine") = false ∧ fn.body.isNone = false := ⟨_, Tryd.func19, by kernel_rfl, by kernel_rfl⟩
theorem fnOk20 : ∃ fn, Tryd.prog.funcs[20]? = some fn ∧ (fn.name == "runtime.NumGoroutine") = false ∧ fn.body.isNone = false := ⟨_, Tryd.func20, by kernel_rfl, by kernel_rfl⟩
theorem fnOk21 : ∃ fn, Tryd.prog.funcs[21]? = some fn ∧ (fn.name == "runtime.NumGoroutine") = false ∧ fn.body.isNone = false := ⟨_, Tryd.func21, by kernel_rfl, by kernel_rfl⟩
theorem fnOk22 : ∃ fn, Tryd.prog.funcs[22]? = some fn ∧ (fn.name == "runtime.NumGoroutine") = false ∧ fn.body.isNone = false := ⟨_, Tryd.func22, by kernel_rfl, by kernel_rfl⟩
theorem fnOk23 : ∃ fn, Tryd.prog.funcs[23]? = some fn ∧ (fn.name == "runtime.NumGoroutine") = false ∧ fn.body.isNone = false := ⟨_, Tryd.func23, by kernel_rfl, by kernel_rfl⟩
theorem fnOk24 : ∃ fn, Tryd.prog.funcs[24]? = some fn ∧ (fn.name == "runtime.NumGoroutine") = false ∧ fn.body.isNone = false := ⟨_, Tryd.func24, by kernel_rfl, by kernel_rfl⟩
theorem fnOk25 : ∃ fn, Tryd.prog.funcs[25]? = some fn ∧ (fn.name == "runtime.NumGoroutine") = false ∧ fn.body.isNone = false := ⟨_, Tryd.func25, by kernel_rfl, by kernel_rfl⟩
theorem fnOk26 : ∃ fn, Tryd.prog.funcs[26]? = some fn ∧ (fn.name == "runtime.NumGoroutine") = false ∧ fn.body.isNone = false := ⟨_, Tryd.func26, by kernel_rfl, by kernel_rfl⟩
theorem fnOk27 : ∃ fn, Tryd.prog.funcs[27]? = some fn ∧ (fn.name == "runtime.NumGoroutine") = false ∧ fn.body.isNone = false := ⟨_, Tryd.func27, by kernel_rfl, by kernel_rfl⟩
theorem fnOk28 : ∃ fn, Tryd.prog.funcs[28]? = some fn ∧ (fn.name == "runtime.NumGoroutine") = false ∧ fn.body.isNone = false := ⟨_, Tryd.func28, by kernel_rfl, by kernel_rfl⟩
theorem fnOk29 : ∃ fn, Tryd.prog.funcs[29]? = some fn ∧ (fn.name == "runtime.NumGoroutine") = false ∧ fn.body.isNone = false := ⟨_, Tryd.func29, by kernel_rfl, by kernel_rfl⟩
theorem fnOk30 : ∃ fn, Tryd.prog.funcs[30]? = some fn ∧ (fn.name == "runtime.NumGoroutine") = false ∧ fn.body.isNone = false := ⟨_, Tryd.func30, by kernel_rfl, by kernel_rfl⟩
theorem fnOk31 : ∃ fn, Tryd.prog.funcs[31]? = some fn ∧ (fn.name == "runtime.NumGoroutine") = false ∧ fn.body.isNone = false := ⟨_, Tryd.func31, by kernel_rfl, by kernel_rfl⟩
theorem fnOk32 : ∃ fn, Tryd.prog.funcs[32]? = some fn ∧ (fn.name == "runtime.NumGoroutine") = false ∧ fn.body.isNone = false := ⟨_, Tryd.func32, by kernel_rfl, by kernel_rfl⟩
theorem fnOk33 : ∃ fn, Tryd.prog.funcs[33]? = some fn ∧ (fn.name == "runtime.NumGoroutine") = false ∧ fn.body.isNone = false := ⟨_, Tryd.func33, by kernel_rfl, by kernel_rfl⟩
theorem fnOk34 : ∃ fn, Tryd.prog.funcs[34]? = some fn ∧ (fn.name == "runtime.NumGoroutine") = false ∧ fn.body.isNone = false := ⟨_, Tryd.func34, by kernel_rfl, by kernel_rfl⟩
theorem fnOk35 : ∃ fn, Tryd.prog.funcs[35]? = some fn ∧ (fn.name == "runtime.NumGoroutine") = false ∧ fn.body.isNone = false := ⟨_, Tryd.func35, by kernel_rfl, by kernel_rfl⟩
theorem fnOk36 : ∃ fn, Tryd.prog.funcs[36]? = some fn ∧ (fn.name == "runtime.NumGoroutine") = false ∧ fn.body.isNone = false := ⟨_, Tryd.func36, by kernel_rfl, by kernel_rfl⟩
theorem fnOk37 : ∃ fn, Tryd.prog.funcs[37]? = some fn ∧ (fn.name == "runtime.NumGoroutine") = false ∧ fn.body.isNone = false := ⟨_, Tryd.func37, by kernel_rfl, by kernel_rfl⟩
theorem fnOk38 : ∃ fn, Tryd.prog.funcs[38]? = some fn ∧ (fn.name == "runtime.NumGoroutine") = false ∧ fn.body.isNone = false := ⟨_, Tryd.func38, by kernel_rfl, by kernel_rfl⟩
theorem fnOk39 : ∃ fn, Tryd.prog.funcs[39]? = some fn ∧ (fn.name == "runtime.NumGoroutine") = false ∧ fn.body.isNone = false := ⟨_, Tryd.func39, by kernel_rfl, by kernel_rfl⟩
theorem fnOk40 : ∃ fn, Tryd.prog.funcs[40]? = some fn ∧ (fn.name == "runtime.NumGoroutine") = false ∧ fn.body.isNone = false := ⟨_, Tryd.func40, by kernel_rfl, by kernel_rfl⟩
theorem fnOk41 : ∃ fn, Tryd.prog.funcs[41]? = some fn ∧ (fn.name == "runtime.NumGoroutine") = false ∧ fn.body.isNone = false := ⟨_, Tryd.func41, by kernel_rfl, by kernel_rfl⟩
theorem fnOk42 : ∃ fn, Tryd.prog.funcs[42]? = some fn ∧ (fn.name == "runtime.NumGoroutine") = false ∧ fn.body.isNone = false := ⟨_, Tryd.func42, by kernel_rfl, by kernel_rfl⟩
theorem fnOk43 : ∃ fn, Tryd.prog.funcs[43]? = some fn ∧ (fn.name == "runtime.NumGoroutine") = false ∧ fn.body.isNone = false := ⟨_, Tryd.func43, by kernel_rfl, by kernel_rfl⟩
theorem fnOk44 : ∃ fn, Tryd.prog.funcs[44]? = some fn ∧ (fn.name == "runtime.NumGoroutine") = false ∧ fn.body.isNone = false := ⟨_, Tryd.func44, by kernel_rfl, by kernel_rfl⟩
theorem fnOk45 : ∃ fn, Tryd.prog.funcs[45]? = some fn ∧ (fn.name == "runtime.NumGoroutine") = false ∧ fn.body.isNone = false := ⟨_, Tryd.func45, by kernel_rfl, by kernel_rfl⟩
theorem fnOk46 : ∃ fn, Tryd.prog.funcs[46]? = some fn ∧ (fn.name == "runtime.NumGoroutine") = false ∧ fn.body.isNone = false := ⟨_, Tryd.func46, by kernel_rfl, by kernel_rfl⟩
theorem fnOk47 : ∃ fn, Tryd.prog.funcs[47]? = some fn ∧ (fn.name == "runtime.NumGoroutine") = false ∧ fn.body.isNone = false := ⟨_, Tryd.func47, by kernel_rfl, by kernel_rfl⟩
theorem fnOk48 : ∃ fn, Tryd.prog.funcs[48]? = some fn ∧ (fn.name == "runtime.NumGoroutine") = false ∧ fn.body.isNone = false := ⟨_, Tryd.func48, by kernel_rfl, by kernel_rfl⟩
theorem fnOk49 : ∃ fn, Tryd.prog.funcs[49]? = some fn ∧ (fn.name == "runtime.NumGoroutine") = false ∧ fn.body.isNone = false := ⟨_, Tryd.func49, by kernel_rfl, by kernel_rfl⟩
theorem fnOk50 : ∃ fn, Tryd.prog.funcs[50]? = some fn ∧ (fn.name == "runtime.NumGoroutine") = false ∧ fn.body.isNone = false := ⟨_, Tryd.func50, by kernel_rfl, by kernel_rfl⟩
theorem fnOk51 : ∃ fn, Tryd.prog.funcs[51]? = some fn ∧ (fn.name == "runtime.NumGoroutine") = false ∧ fn.body.isNone = false := ⟨_, Tryd.func51, by kernel_rfl, by kernel_rfl⟩
theorem fnOk52 : ∃ fn, Tryd.prog.funcs[52]? = some fn ∧ (fn.name == "runtime.NumGoroutine") = false ∧ fn.body.isNone = false := ⟨_, Tryd.func52, by kernel_rfl, by kernel_rfl⟩
theorem fnOk53 : ∃ fn, Tryd.prog.funcs[53]? = some fn ∧ (fn.name == "runtime.NumGoroutine") = false ∧ fn.body.isNone = false := ⟨_, Tryd.func53, by kernel_rfl, by kernel_rfl⟩
theorem fnOk54 : ∃ fn, Tryd.prog.funcs[54]? = some fn ∧ (fn.name == "runtime.NumGoroutine") = false ∧ fn.body.isNone = false := ⟨_, Tryd.func54, by kernel_rfl, by kernel_rfl⟩
theorem fnOk55 : ∃ fn, Tryd.prog.funcs[55]? = some fn ∧ (fn.name == "runtime.NumGoroutine") = false ∧ fn.body.isNone = false := ⟨_, Tryd.func55, by kernel_rfl, by kernel_rfl⟩
theorem fnOk56 : ∃ fn, Tryd.prog.funcs[56]? = some fn ∧ (fn.name == "runtime.NumGoroutine") = false ∧ fn.body.isNone = false := ⟨_, Tryd.func56, by kernel_rfl, by kernel_rfl⟩
theorem fnOk57 : ∃ fn, Tryd.prog.funcs[57]? = some fn ∧ (fn.name == "runtime.NumGoroutine") = false ∧ fn.body.isNone = false := ⟨_, Tryd.func57, by kernel_rfl, by kernel_rfl⟩
theorem fnOk62 : ∃ fn, Tryd.prog.funcs[62]? = some fn ∧ (fn.name == "runtime.NumGoroutine") = false ∧ fn.body.isNone = false := ⟨_, Tryd.func62, by kernel_rfl, by kernel_rfl⟩
theorem fnOk63 : ∃ fn, Tryd.prog.funcs[63]? = some fn ∧ (fn.name == "runtime.NumGoroutine") = false ∧ fn.body.isNone = false := ⟨_, Tryd.func63, by kernel_rfl, by kernel_rfl⟩
theorem fnOk64 : ∃ fn, Tryd.prog.funcs[64]? = some fn ∧ (fn.name == "runtime.NumGoroutine") = false ∧ fn.body.isNone = false := ⟨_, Tryd.func64, by kernel_rfl, by kernel_rfl⟩
theorem fnOk65 : ∃ fn, Tryd.prog.funcs[65]? = some fn ∧ (fn.name == "runtime.NumGoroutine") = false ∧ fn.body.isNone = false := ⟨_, Tryd.func65, by kernel_rfl, by kernel_rfl⟩
theorem fnOk66 : ∃ fn, Tryd.prog.funcs[66]? = some fn ∧ (fn.name == "runtime.NumGoroutine") = false ∧ fn.body.isNone = false := ⟨_, Tryd.func66, by kernel_rfl, by kernel_rfl⟩
theorem fnOk67 : ∃ fn, Tryd.prog.funcs[67]? = some fn ∧ (fn.name == "runtime.NumGoroutine") = false ∧ fn.body.isNone = false := ⟨_, Tryd.func67, by kernel_rfl, by kernel_rfl⟩
theorem fnOk71 : ∃ fn, Tryd.prog.funcs[71]? = some fn ∧ (fn.name == "runtime.NumGoroutine") = false ∧ fn.body.isNone = false := ⟨_, Tryd.func71, by kernel_rfl, by kernel_rfl⟩
theorem fnOk72 : ∃ fn, Tryd.prog.funcs[72]? = some fn ∧ (fn.name == "runtime.NumGoroutine") = false ∧ fn.body.isNone = false := ⟨_, Tryd.func72, by kernel_rfl, by kernel_rfl⟩
theorem fnsOk : FnsOk Tryd.prog fns := ⟨fnOk8, fnOk9, fnOk10, fnOk11, fnOk14, fnOk16, fnOk17, fnOk19, fnOk20, fnOk21, fnOk22, fnOk23, fnOk24, fnOk25, fnOk26, fnOk27, fnOk28, fnOk29, fnOk30, fnOk31, fnOk32, fnOk33, fnOk34, fnOk35, fnOk36, fnOk37, fnOk38, fnOk39, fnOk40, fnOk41, fnOk42, fnOk43, fnOk44, fnOk45, fnOk46, fnOk47, fnOk48, fnOk49, fnOk50, fnOk51, fnOk52, fnOk53, fnOk54, fnOk55, fnOk56, fnOk57, fnOk62, fnOk63, fnOk64, fnOk65, fnOk66, fnOk67, fnOk71, fnOk72, trivial⟩
theorem follows : Tryd.prog.follows .mixedOrders = true := by kernel_rfl
def ats : Ats := [(3, [.int .i64]), (4, [.bool]), (5, [.int .u8]), (9, [.str]), (32, [.int .i64, .str, .int .i64, .sl 4]), (59, [.bool, .str, .sl 3]), (69, [.int .i64, .str, .int .i64, .sl 4, .bool])]
noncomputable abbrev ax : Ax := ⟨Tryd.prog, tys, ats, fns, [0, 1, 2], [], [38], [(16, (Lib.pow10Tab.map fun z => Value.int .u64 z).toArray)], [3]⟩
theorem zero3 (w : World) : (zeroValue 3).run Tryd.prog w = .ok (.int .i64 0) w := by
  have h : ((Tryd.prog.info? 3).bind (·.zero)) = some (.int .i64 0) := by kernel_rfl
  obtain ⟨i, hi, hz⟩ := Option.bind_eq_some_iff.1 h
  simp [zeroValue, typeInfo, hi, hz]
theorem zOk : ZOk ax := by
  intro t k hk hb w
  have ht : 3 = t := by simpa [hasB] using hb
  rcases ht with rfl
  · have e : lookTy ax 3 = some .i64 := by kernel_rfl
    cases e.symm.trans hk
    exact zero3 w

theorem eqOk : EqOk ax := ⟨zOk, fun _ _ _ h => by cases h⟩
/-! ### Free: function 17, augur/augurref06.Free -/
def Free.ah : AH := ⟨[], [], [], [], [], [some [.int .i64, .str, .int .i64, .sl 4]], [], []⟩
set_option maxRecDepth 100000 in
def Free.W (n1 : Int) (K : List V → Prop) : Prop :=
 (K [(.agg [(.int .i64 4), (.str (⟨#[]⟩ : ByteArray)), (.int .i64 n1), (.sl 4 [])])])
set_option maxRecDepth 100000 in
theorem Free.eq (n1 : Int) (K : List V → Prop) : Free.W n1 K = afn ax Free.ah Tryd.f17 [(.int .i64 n1)] [] (onlyV K) := by kernel_rfl
theorem Free.ok : codeOk tys (hintsOf Free.ah) Tryd.f17.ntmps (Tryd.f17.body.getD .skip) = true := by kernel_rfl
set_option maxHeartbeats 4000000 in
theorem Free.calls {n1 K} (h : Free.W n1 K) : PCalls ax 17 [(.int .i64 n1)] K :=
  afn_run (ah := Free.ah) tysOk fnsOk follows eqOk Tryd.func17 (by kernel_rfl) Free.ok (by kernel_rfl) (Eq.mp (Free.eq n1 K) h)
/-! ### Nodes: function 21, augur/augurref06.Nodes -/
def Nodes.ah : AH := ⟨[], [(4, ⟨[(3, [.d (.int .i64)], false), (12, [.d (.int .i64)], false)], [], [], []⟩)], [], [(21, ⟨[some [.int .i64, .str, .int .i64, .sl 4]], [.c (.int .i64)], []⟩)], [], [some [.int .i64]], [], []⟩
set_option maxRecDepth 100000 in
def Nodes.W (n1 : Int) (_s2 : ByteArray) (_n3 : Int) (l4 : List (List V)) (K : List V → Prop) : Prop :=
 (bif (n1 == (2 : Int)) then
 (∃ (I13 : List V → Prop) (μ14 : List V → Nat), I13 [(.int .i64 1), (.int .i64 0)] ∧ (∀ (n15 : Int) (n16 : Int), I13 [(.int .i64 n15), (.int .i64 n16)] →
 (bif (decide (n16 < (List.length l4 : Int))) then
 (0 ≤ n16 ∧ n16 < (List.length l4 : Int) ∧ (∃ (n17 : Int) (s18 : ByteArray) (n19 : Int) (l20 : List (List V)), List.take 4 (Av.rowAt l4 (n16 : Int).toNat) = [(.int .i64 n17), (.str s18), (.int .i64 n19), (.sl 4 l20)] ∧ (PCalls ax 21 [(.agg [(.int .i64 n17), (.str s18), (.int .i64 n19), (.sl 4 l20)])] fun r22 => ∃ (n21 : Int), r22 = [(.int .i64 n21)] ∧ (I13 [(.int .i64 (IntKind.i64.wrap (n15 + n21))), (.int .i64 (IntKind.i64.wrap (n16 + 1)))] ∧ μ14 [(.int .i64 (IntKind.i64.wrap (n15 + n21))), (.int .i64 (IntKind.i64.wrap (n16 + 1)))] < μ14 [(.int .i64 n15), (.int .i64 n16)]))))
 else
 (K [(.int .i64 n15)]))))
 else
 (K [(.int .i64 1)]))
set_option maxRecDepth 100000 in
theorem Nodes.eq (n1 : Int) (s2 : ByteArray) (n3 : Int) (l4 : List (List V)) (K : List V → Prop) : Nodes.W n1 s2 n3 l4 K = afn ax Nodes.ah Tryd.f21 [(.agg [(.int .i64 n1), (.str s2), (.int .i64 n3), (.sl 4 l4)])] [] (onlyV K) := by kernel_rfl
theorem Nodes.ok : codeOk tys (hintsOf Nodes.ah) Tryd.f21.ntmps (Tryd.f21.body.getD .skip) = true := by kernel_rfl
set_option maxHeartbeats 4000000 in
theorem Nodes.calls {n1 s2 n3 l4 K} (h : Nodes.W n1 s2 n3 l4 K) : PCalls ax 21 [(.agg [(.int .i64 n1), (.str s2), (.int .i64 n3), (.sl 4 l4)])] K :=
  afn_run (ah := Nodes.ah) tysOk fnsOk follows eqOk Tryd.func21 (by kernel_rfl) Nodes.ok (by kernel_rfl) (Eq.mp (Nodes.eq n1 s2 n3 l4 K) h)
/-! ### RSame: function 10, augur/augurref06.Same -/
def RSame.ah : AH := ⟨[], [], [], [(22, ⟨[some [.sl 4], some [.sl 4]], [.c (.bool)], []⟩)], [], [some [.bool]], [], []⟩
set_option maxRecDepth 100000 in
def RSame.W (n1 : Int) (s2 : ByteArray) (n3 : Int) (l4 : List (List V)) (n5 : Int) (s6 : ByteArray) (n7 : Int) (l8 : List (List V)) (K : List V → Prop) : Prop :=
 (bif (n1 == n5) then (bif (strEq s2 s6) then (bif (n3 == n7) then (PCalls ax 22 [(.sl 4 l4), (.sl 4 l8)] fun r10 => ∃ (b9 : Bool), r10 = [(.bool b9)] ∧ (K [(.bool b9)])) else (K [(.bool false)])) else (K [(.bool false)])) else (K [(.bool false)]))
set_option maxRecDepth 100000 in
theorem RSame.eq (n1 : Int) (s2 : ByteArray) (n3 : Int) (l4 : List (List V)) (n5 : Int) (s6 : ByteArray) (n7 : Int) (l8 : List (List V)) (K : List V → Prop) : RSame.W n1 s2 n3 l4 n5 s6 n7 l8 K = afn ax RSame.ah Tryd.f10 [(.agg [(.int .i64 n1), (.str s2), (.int .i64 n3), (.sl 4 l4)]), (.agg [(.int .i64 n5), (.str s6), (.int .i64 n7), (.sl 4 l8)])] [] (onlyV K) := by kernel_rfl
theorem RSame.ok : codeOk tys (hintsOf RSame.ah) Tryd.f10.ntmps (Tryd.f10.body.getD .skip) = true := by kernel_rfl
set_option maxHeartbeats 4000000 in
theorem RSame.calls {n1 s2 n3 l4 n5 s6 n7 l8 K} (h : RSame.W n1 s2 n3 l4 n5 s6 n7 l8 K) : PCalls ax 10 [(.agg [(.int .i64 n1), (.str s2), (.int .i64 n3), (.sl 4 l4)]), (.agg [(.int .i64 n5), (.str s6), (.int .i64 n7), (.sl 4 l8)])] K :=
  afn_run (ah := RSame.ah) tysOk fnsOk follows eqOk Tryd.func10 (by kernel_rfl) RSame.ok (by kernel_rfl) (Eq.mp (RSame.eq n1 s2 n3 l4 n5 s6 n7 l8 K) h)
/-! ### SameTypes: function 22, augur/augurref06.SameTypes -/
def SameTypes.ah : AH := ⟨[(6, seqO [0, 1, 2, 3, 4, 5, 6, 7, 8, 9])], [(4, ⟨[(13, [.d (.int .i64)], false)], [], [], []⟩)], [], [(10, ⟨[some [.int .i64, .str, .int .i64, .sl 4], some [.int .i64, .str, .int .i64, .sl 4]], [.c (.bool)], []⟩)], [], [some [.bool]], [], []⟩
set_option maxRecDepth 100000 in
def SameTypes.W (l1 : List (List V)) (l2 : List (List V)) (K : List V → Prop) : Prop :=
 (bif ((List.length l1 : Int) != (List.length l2 : Int)) then
 (K [(.bool false)])
 else
 (∃ (I14 : List V → Prop) (μ15 : List V → Nat), I14 [(.int .i64 0)] ∧ (∀ (n16 : Int), I14 [(.int .i64 n16)] →
 (bif (decide (n16 < (List.length l1 : Int))) then
 (0 ≤ n16 ∧ n16 < (List.length l1 : Int) ∧ (∃ (n17 : Int) (s18 : ByteArray) (n19 : Int) (l20 : List (List V)), List.take 4 (Av.rowAt l1 (n16 : Int).toNat) = [(.int .i64 n17), (.str s18), (.int .i64 n19), (.sl 4 l20)] ∧ (0 ≤ n16 ∧ n16 < (List.length l2 : Int) ∧ (∃ (n21 : Int) (s22 : ByteArray) (n23 : Int) (l24 : List (List V)), List.take 4 (Av.rowAt l2 (n16 : Int).toNat) = [(.int .i64 n21), (.str s22), (.int .i64 n23), (.sl 4 l24)] ∧ (PCalls ax 10 [(.agg [(.int .i64 n17), (.str s18), (.int .i64 n19), (.sl 4 l20)]), (.agg [(.int .i64 n21), (.str s22), (.int .i64 n23), (.sl 4 l24)])] fun r26 => ∃ (b25 : Bool), r26 = [(.bool b25)] ∧ (bif (!b25) then
 (K [(.bool false)])
 else
 (I14 [(.int .i64 (IntKind.i64.wrap (n16 + 1)))] ∧ μ15 [(.int .i64 (IntKind.i64.wrap (n16 + 1)))] < μ15 [(.int .i64 n16)])))))))
 else
 (K [(.bool true)])))))
set_option maxRecDepth 100000 in
theorem SameTypes.eq (l1 : List (List V)) (l2 : List (List V)) (K : List V → Prop) : SameTypes.W l1 l2 K = afn ax SameTypes.ah Tryd.f22 [(.sl 4 l1), (.sl 4 l2)] [] (onlyV K) := by kernel_rfl
theorem SameTypes.ok : codeOk tys (hintsOf SameTypes.ah) Tryd.f22.ntmps (Tryd.f22.body.getD .skip) = true := by kernel_rfl
set_option maxHeartbeats 4000000 in
theorem SameTypes.calls {l1 l2 K} (h : SameTypes.W l1 l2 K) : PCalls ax 22 [(.sl 4 l1), (.sl 4 l2)] K :=
  afn_run (ah := SameTypes.ah) tysOk fnsOk follows eqOk Tryd.func22 (by kernel_rfl) SameTypes.ok (by kernel_rfl) (Eq.mp (SameTypes.eq l1 l2 K) h)
/-! ### rclean: function 38, augur/augurref06.clean -/
def rclean.ah : AH := ⟨[(12, seqO [0, 1, 2, 3, 4, 5, 6, 7])], [(10, ⟨[(27, [.d (.int .i64)], false)], [(2, [.d (.int .i64), .d (.str), .d (.int .i64), .nw 32 4 false])], [], []⟩)], [], [(17, ⟨[some [.int .i64]], [.ag [.int .i64, .str, .int .i64, .sl 4]], []⟩), (38, ⟨[some [.int .i64, .str, .int .i64, .sl 4]], [.ag [.int .i64, .str, .int .i64, .sl 4]], []⟩)], [], [some [.int .i64, .str, .int .i64, .sl 4]], [], []⟩
set_option maxRecDepth 100000 in
def rclean.W (n1 : Int) (s2 : ByteArray) (n3 : Int) (l4 : List (List V)) (K : List V → Prop) : Prop :=
 (bif (n1 == (1 : Int)) then
 (K [(.agg [(.int .i64 1), (.str (⟨#[]⟩ : ByteArray)), (.int .i64 0), (.sl 4 [])])])
 else
 (bif (n1 == (3 : Int)) then
 (K [(.agg [(.int .i64 3), (.str s2), (.int .i64 0), (.sl 4 [])])])
 else
 (bif (n1 == (4 : Int)) then
 (PCalls ax 17 [(.int .i64 n3)] fun r14 => ∃ (n10 : Int) (s11 : ByteArray) (n12 : Int) (l13 : List (List V)), r14 = [(.agg [(.int .i64 n10), (.str s11), (.int .i64 n12), (.sl 4 l13)])] ∧ (K [(.agg [(.int .i64 n10), (.str s11), (.int .i64 n12), (.sl 4 l13)])]))
 else
 (∃ (I39 : List V → Prop) (μ40 : List V → Nat), I39 [(.int .i64 0), (.int .i64 2), (.str s2), (.int .i64 0), (.sl 4 [])] ∧ (∀ (n41 : Int) (n42 : Int) (s43 : ByteArray) (n44 : Int) (l45 : List (List V)), I39 [(.int .i64 n41), (.int .i64 n42), (.str s43), (.int .i64 n44), (.sl 4 l45)] →
 (bif (decide (n41 < (List.length l4 : Int))) then
 (0 ≤ n41 ∧ n41 < (List.length l4 : Int) ∧ (∃ (n46 : Int) (s47 : ByteArray) (n48 : Int) (l49 : List (List V)), List.take 4 (Av.rowAt l4 (n41 : Int).toNat) = [(.int .i64 n46), (.str s47), (.int .i64 n48), (.sl 4 l49)] ∧ (PCalls ax 38 [(.agg [(.int .i64 n46), (.str s47), (.int .i64 n48), (.sl 4 l49)])] fun r54 => ∃ (n50 : Int) (s51 : ByteArray) (n52 : Int) (l53 : List (List V)), r54 = [(.agg [(.int .i64 n50), (.str s51), (.int .i64 n52), (.sl 4 l53)])] ∧ (((List.length l45) + (List.length ([[(.int .i64 n50), (.str s51), (.int .i64 n52), (.sl 4 l53)]] : List (List V)))) * 56 ≤ 140737488355328 ∧ (List.length l45) + (List.length ([[(.int .i64 n50), (.str s51), (.int .i64 n52), (.sl 4 l53)]] : List (List V))) ≤ 140737488355328 ∧ (I39 [(.int .i64 (IntKind.i64.wrap (n41 + 1))), (.int .i64 n42), (.str s43), (.int .i64 n44), (.sl 4 (l45 ++ [[(.int .i64 n50), (.str s51), (.int .i64 n52), (.sl 4 l53)]]))] ∧ μ40 [(.int .i64 (IntKind.i64.wrap (n41 + 1))), (.int .i64 n42), (.str s43), (.int .i64 n44), (.sl 4 (l45 ++ [[(.int .i64 n50), (.str s51), (.int .i64 n52), (.sl 4 l53)]]))] < μ40 [(.int .i64 n41), (.int .i64 n42), (.str s43), (.int .i64 n44), (.sl 4 l45)])))))
 else
 (K [(.agg [(.int .i64 n42), (.str s43), (.int .i64 n44), (.sl 4 l45)])])))))))
set_option maxRecDepth 100000 in
theorem rclean.eq (n1 : Int) (s2 : ByteArray) (n3 : Int) (l4 : List (List V)) (K : List V → Prop) : rclean.W n1 s2 n3 l4 K = afn ax rclean.ah Tryd.f38 [(.agg [(.int .i64 n1), (.str s2), (.int .i64 n3), (.sl 4 l4)])] [] (onlyV K) := by kernel_rfl
theorem rclean.ok : codeOk tys (hintsOf rclean.ah) Tryd.f38.ntmps (Tryd.f38.body.getD .skip) = true := by kernel_rfl
set_option maxHeartbeats 4000000 in
theorem rclean.calls {n1 s2 n3 l4 K} (h : rclean.W n1 s2 n3 l4 K) : PCalls ax 38 [(.agg [(.int .i64 n1), (.str s2), (.int .i64 n3), (.sl 4 l4)])] K :=
  afn_run (ah := rclean.ah) tysOk fnsOk follows eqOk Tryd.func38 (by kernel_rfl) rclean.ok (by kernel_rfl) (Eq.mp (rclean.eq n1 s2 n3 l4 K) h)
/-! ### has: function 66, augur/augurref06.has -/
def has.ah : AH := ⟨[], [(4, ⟨[(17, [.d (.int .i64)], false)], [], [], []⟩)], [], [(66, ⟨[some [.int .i64, .str, .int .i64, .sl 4], some [.int .i64]], [.c (.bool)], []⟩)], [], [some [.bool]], [], []⟩
set_option maxRecDepth 100000 in
def has.W (n1 : Int) (_s2 : ByteArray) (n3 : Int) (l4 : List (List V)) (n5 : Int) (K : List V → Prop) : Prop :=
 (bif (n1 == (4 : Int)) then
 (K [(.bool (n3 == n5))])
 else
 (∃ (I13 : List V → Prop) (μ14 : List V → Nat), I13 [(.int .i64 0)] ∧ (∀ (n15 : Int), I13 [(.int .i64 n15)] →
 (bif (decide (n15 < (List.length l4 : Int))) then
 (0 ≤ n15 ∧ n15 < (List.length l4 : Int) ∧ (∃ (n16 : Int) (s17 : ByteArray) (n18 : Int) (l19 : List (List V)), List.take 4 (Av.rowAt l4 (n15 : Int).toNat) = [(.int .i64 n16), (.str s17), (.int .i64 n18), (.sl 4 l19)] ∧ (bif (n1 == (2 : Int)) then (PCalls ax 66 [(.agg [(.int .i64 n16), (.str s17), (.int .i64 n18), (.sl 4 l19)]), (.int .i64 n5)] fun r21 => ∃ (b20 : Bool), r21 = [(.bool b20)] ∧ (bif b20 then
 (K [(.bool true)])
 else
 (I13 [(.int .i64 (IntKind.i64.wrap (n15 + 1)))] ∧ μ14 [(.int .i64 (IntKind.i64.wrap (n15 + 1)))] < μ14 [(.int .i64 n15)]))) else (I13 [(.int .i64 (IntKind.i64.wrap (n15 + 1)))] ∧ μ14 [(.int .i64 (IntKind.i64.wrap (n15 + 1)))] < μ14 [(.int .i64 n15)]))))
 else
 (K [(.bool false)])))))
set_option maxRecDepth 100000 in
theorem has.eq (n1 : Int) (s2 : ByteArray) (n3 : Int) (l4 : List (List V)) (n5 : Int) (K : List V → Prop) : has.W n1 s2 n3 l4 n5 K = afn ax has.ah Tryd.f66 [(.agg [(.int .i64 n1), (.str s2), (.int .i64 n3), (.sl 4 l4)]), (.int .i64 n5)] [] (onlyV K) := by kernel_rfl
theorem has.ok : codeOk tys (hintsOf has.ah) Tryd.f66.ntmps (Tryd.f66.body.getD .skip) = true := by kernel_rfl
set_option maxHeartbeats 4000000 in
theorem has.calls {n1 s2 n3 l4 n5 K} (h : has.W n1 s2 n3 l4 n5 K) : PCalls ax 66 [(.agg [(.int .i64 n1), (.str s2), (.int .i64 n3), (.sl 4 l4)]), (.int .i64 n5)] K :=
  afn_run (ah := has.ah) tysOk fnsOk follows eqOk Tryd.func66 (by kernel_rfl) has.ok (by kernel_rfl) (Eq.mp (has.eq n1 s2 n3 l4 n5 K) h)
/-! ### put: function 67, augur/augurref06.put -/
def put.ah : AH := ⟨[(9, seqO [0, 1, 2, 3, 4, 5, 6, 7, 8, 9])], [(7, ⟨[(30, [.d (.int .i64)], false)], [(3, [.d (.int .i64), .d (.str), .d (.int .i64), .nw 32 4 false])], [], []⟩)], [(3, ⟨[], [], [], []⟩)], [(67, ⟨[some [.int .i64, .str, .int .i64, .sl 4], some [.int .i64], some [.int .i64, .str, .int .i64, .sl 4]], [.ag [.int .i64, .str, .int .i64, .sl 4]], []⟩)], [], [some [.int .i64, .str, .int .i64, .sl 4]], [], []⟩
set_option maxRecDepth 100000 in
def put.W (n1 : Int) (s2 : ByteArray) (n3 : Int) (l4 : List (List V)) (n5 : Int) (n6 : Int) (s7 : ByteArray) (n8 : Int) (l9 : List (List V)) (K : List V → Prop) : Prop :=
 (∃ J10 : List V → Prop, (bif (n1 == (4 : Int)) then (bif (n3 == n5) then
 (K [(.agg [(.int .i64 n6), (.str s7), (.int .i64 n8), (.sl 4 l9)])])
 else
 (J10 [])) else (J10 [])) ∧
 (J10 [] →
 (bif (n1 != (2 : Int)) then
 (K [(.agg [(.int .i64 n1), (.str s2), (.int .i64 n3), (.sl 4 l4)])])
 else
 (∃ (I35 : List V → Prop) (μ36 : List V → Nat), I35 [(.int .i64 0), (.int .i64 2), (.str s2), (.int .i64 0), (.sl 4 [])] ∧ (∀ (n37 : Int) (n38 : Int) (s39 : ByteArray) (n40 : Int) (l41 : List (List V)), I35 [(.int .i64 n37), (.int .i64 n38), (.str s39), (.int .i64 n40), (.sl 4 l41)] →
 (bif (decide (n37 < (List.length l4 : Int))) then
 (0 ≤ n37 ∧ n37 < (List.length l4 : Int) ∧ (∃ (n42 : Int) (s43 : ByteArray) (n44 : Int) (l45 : List (List V)), List.take 4 (Av.rowAt l4 (n37 : Int).toNat) = [(.int .i64 n42), (.str s43), (.int .i64 n44), (.sl 4 l45)] ∧ (PCalls ax 67 [(.agg [(.int .i64 n42), (.str s43), (.int .i64 n44), (.sl 4 l45)]), (.int .i64 n5), (.agg [(.int .i64 n6), (.str s7), (.int .i64 n8), (.sl 4 l9)])] fun r50 => ∃ (n46 : Int) (s47 : ByteArray) (n48 : Int) (l49 : List (List V)), r50 = [(.agg [(.int .i64 n46), (.str s47), (.int .i64 n48), (.sl 4 l49)])] ∧ (((List.length l41) + (List.length ([[(.int .i64 n46), (.str s47), (.int .i64 n48), (.sl 4 l49)]] : List (List V)))) * 56 ≤ 140737488355328 ∧ (List.length l41) + (List.length ([[(.int .i64 n46), (.str s47), (.int .i64 n48), (.sl 4 l49)]] : List (List V))) ≤ 140737488355328 ∧ (I35 [(.int .i64 (IntKind.i64.wrap (n37 + 1))), (.int .i64 n38), (.str s39), (.int .i64 n40), (.sl 4 (l41 ++ [[(.int .i64 n46), (.str s47), (.int .i64 n48), (.sl 4 l49)]]))] ∧ μ36 [(.int .i64 (IntKind.i64.wrap (n37 + 1))), (.int .i64 n38), (.str s39), (.int .i64 n40), (.sl 4 (l41 ++ [[(.int .i64 n46), (.str s47), (.int .i64 n48), (.sl 4 l49)]]))] < μ36 [(.int .i64 n37), (.int .i64 n38), (.str s39), (.int .i64 n40), (.sl 4 l41)])))))
 else
 (K [(.agg [(.int .i64 n38), (.str s39), (.int .i64 n40), (.sl 4 l41)])])))))))
set_option maxRecDepth 100000 in
theorem put.eq (n1 : Int) (s2 : ByteArray) (n3 : Int) (l4 : List (List V)) (n5 : Int) (n6 : Int) (s7 : ByteArray) (n8 : Int) (l9 : List (List V)) (K : List V → Prop) : put.W n1 s2 n3 l4 n5 n6 s7 n8 l9 K = afn ax put.ah Tryd.f67 [(.agg [(.int .i64 n1), (.str s2), (.int .i64 n3), (.sl 4 l4)]), (.int .i64 n5), (.agg [(.int .i64 n6), (.str s7), (.int .i64 n8), (.sl 4 l9)])] [] (onlyV K) := by kernel_rfl
theorem put.ok : codeOk tys (hintsOf put.ah) Tryd.f67.ntmps (Tryd.f67.body.getD .skip) = true := by kernel_rfl
set_option maxHeartbeats 4000000 in
theorem put.calls {n1 s2 n3 l4 n5 n6 s7 n8 l9 K} (h : put.W n1 s2 n3 l4 n5 n6 s7 n8 l9 K) : PCalls ax 67 [(.agg [(.int .i64 n1), (.str s2), (.int .i64 n3), (.sl 4 l4)]), (.int .i64 n5), (.agg [(.int .i64 n6), (.str s7), (.int .i64 n8), (.sl 4 l9)])] K :=
  afn_run (ah := put.ah) tysOk fnsOk follows eqOk Tryd.func67 (by kernel_rfl) put.ok (by kernel_rfl) (Eq.mp (put.eq n1 s2 n3 l4 n5 n6 s7 n8 l9 K) h)
/-! ### In: function 62, augur/augurnum.In -/
def In.ah : AH := ⟨[], [(2, ⟨[(9, [.d (.int .i64)], false)], [], [], []⟩)], [], [], [], [some [.bool]], [], []⟩
set_option maxRecDepth 100000 in
def In.W (l1 : List (List V)) (n2 : Int) (K : List V → Prop) : Prop :=
 (∃ (I5 : List V → Prop) (μ6 : List V → Nat), I5 [(.int .i64 0)] ∧ (∀ (n7 : Int), I5 [(.int .i64 n7)] →
 (bif (decide (n7 < (List.length l1 : Int))) then
 (0 ≤ n7 ∧ n7 < (List.length l1 : Int) ∧ (∃ (n8 : Int), List.take 1 (Av.rowAt l1 (n7 : Int).toNat) = [(.int .i64 n8)] ∧ (bif (n8 == n2) then
 (K [(.bool true)])
 else
 (I5 [(.int .i64 (IntKind.i64.wrap (n7 + 1)))] ∧ μ6 [(.int .i64 (IntKind.i64.wrap (n7 + 1)))] < μ6 [(.int .i64 n7)]))))
 else
 (K [(.bool false)]))))
set_option maxRecDepth 100000 in
theorem In.eq (l1 : List (List V)) (n2 : Int) (K : List V → Prop) : In.W l1 n2 K = afn ax In.ah Tryd.f62 [(.sl 1 l1), (.int .i64 n2)] [] (onlyV K) := by kernel_rfl
theorem In.ok : codeOk tys (hintsOf In.ah) Tryd.f62.ntmps (Tryd.f62.body.getD .skip) = true := by kernel_rfl
set_option maxHeartbeats 4000000 in
theorem In.calls {l1 n2 K} (h : In.W l1 n2 K) : PCalls ax 62 [(.sl 1 l1), (.int .i64 n2)] K :=
  afn_run (ah := In.ah) tysOk fnsOk follows eqOk Tryd.func62 (by kernel_rfl) In.ok (by kernel_rfl) (Eq.mp (In.eq l1 n2 K) h)
/-! ### clean: function 35, augur/unify.clean -/
def clean.ah : AH := ⟨[(11, seqO [0, 1, 2, 3, 4, 5, 6, 7])], [(9, ⟨[(32, [.d (.int .i64)], false)], [(2, [.d (.int .i64), .d (.str), .d (.int .i64), .nw 32 4 false])], [], []⟩)], [], [(35, ⟨[some [.int .i64, .str, .int .i64, .sl 4]], [.ag [.int .i64, .str, .int .i64, .sl 4]], []⟩)], [], [some [.int .i64, .str, .int .i64, .sl 4]], [], []⟩
set_option maxRecDepth 100000 in
def clean.W (n1 : Int) (s2 : ByteArray) (n3 : Int) (l4 : List (List V)) (K : List V → Prop) : Prop :=
 (bif (n1 == (3 : Int)) then
 (K [(.agg [(.int .i64 n1), (.str s2), (.int .i64 0), (.sl 4 [])])])
 else
 (bif (n1 == (4 : Int)) then
 (K [(.agg [(.int .i64 n1), (.str (⟨#[]⟩ : ByteArray)), (.int .i64 n3), (.sl 4 [])])])
 else
 (bif (n1 == (2 : Int)) then
 (∃ (I29 : List V → Prop) (μ30 : List V → Nat), I29 [(.int .i64 0), (.int .i64 n1), (.str s2), (.int .i64 0), (.sl 4 [])] ∧ (∀ (n31 : Int) (n32 : Int) (s33 : ByteArray) (n34 : Int) (l35 : List (List V)), I29 [(.int .i64 n31), (.int .i64 n32), (.str s33), (.int .i64 n34), (.sl 4 l35)] →
 (bif (decide (n31 < (List.length l4 : Int))) then
 (0 ≤ n31 ∧ n31 < (List.length l4 : Int) ∧ (∃ (n36 : Int) (s37 : ByteArray) (n38 : Int) (l39 : List (List V)), List.take 4 (Av.rowAt l4 (n31 : Int).toNat) = [(.int .i64 n36), (.str s37), (.int .i64 n38), (.sl 4 l39)] ∧ (PCalls ax 35 [(.agg [(.int .i64 n36), (.str s37), (.int .i64 n38), (.sl 4 l39)])] fun r44 => ∃ (n40 : Int) (s41 : ByteArray) (n42 : Int) (l43 : List (List V)), r44 = [(.agg [(.int .i64 n40), (.str s41), (.int .i64 n42), (.sl 4 l43)])] ∧ (((List.length l35) + (List.length ([[(.int .i64 n40), (.str s41), (.int .i64 n42), (.sl 4 l43)]] : List (List V)))) * 56 ≤ 140737488355328 ∧ (List.length l35) + (List.length ([[(.int .i64 n40), (.str s41), (.int .i64 n42), (.sl 4 l43)]] : List (List V))) ≤ 140737488355328 ∧ (I29 [(.int .i64 (IntKind.i64.wrap (n31 + 1))), (.int .i64 n32), (.str s33), (.int .i64 n34), (.sl 4 (l35 ++ [[(.int .i64 n40), (.str s41), (.int .i64 n42), (.sl 4 l43)]]))] ∧ μ30 [(.int .i64 (IntKind.i64.wrap (n31 + 1))), (.int .i64 n32), (.str s33), (.int .i64 n34), (.sl 4 (l35 ++ [[(.int .i64 n40), (.str s41), (.int .i64 n42), (.sl 4 l43)]]))] < μ30 [(.int .i64 n31), (.int .i64 n32), (.str s33), (.int .i64 n34), (.sl 4 l35)])))))
 else
 (K [(.agg [(.int .i64 n32), (.str s33), (.int .i64 n34), (.sl 4 l35)])]))))
 else
 (K [(.agg [(.int .i64 n1), (.str (⟨#[]⟩ : ByteArray)), (.int .i64 0), (.sl 4 [])])]))))
set_option maxRecDepth 100000 in
theorem clean.eq (n1 : Int) (s2 : ByteArray) (n3 : Int) (l4 : List (List V)) (K : List V → Prop) : clean.W n1 s2 n3 l4 K = afn ax clean.ah Tryd.f35 [(.agg [(.int .i64 n1), (.str s2), (.int .i64 n3), (.sl 4 l4)])] [] (onlyV K) := by kernel_rfl
theorem clean.ok : codeOk tys (hintsOf clean.ah) Tryd.f35.ntmps (Tryd.f35.body.getD .skip) = true := by kernel_rfl
set_option maxHeartbeats 4000000 in
theorem clean.calls {n1 s2 n3 l4 K} (h : clean.W n1 s2 n3 l4 K) : PCalls ax 35 [(.agg [(.int .i64 n1), (.str s2), (.int .i64 n3), (.sl 4 l4)])] K :=
  afn_run (ah := clean.ah) tysOk fnsOk follows eqOk Tryd.func35 (by kernel_rfl) clean.ok (by kernel_rfl) (Eq.mp (clean.eq n1 s2 n3 l4 K) h)
/-! ### raw: function 52, augur/unify.raw -/
def raw.ah : AH := ⟨[], [(4, ⟨[(3, [.d (.int .i64)], false), (12, [.d (.int .i64)], false)], [], [], []⟩)], [], [(52, ⟨[some [.int .i64, .str, .int .i64, .sl 4]], [.c (.int .i64)], []⟩)], [], [some [.int .i64]], [], []⟩
set_option maxRecDepth 100000 in
def raw.W (n1 : Int) (_s2 : ByteArray) (_n3 : Int) (l4 : List (List V)) (K : List V → Prop) : Prop :=
 (bif (n1 == (2 : Int)) then
 (∃ (I13 : List V → Prop) (μ14 : List V → Nat), I13 [(.int .i64 1), (.int .i64 0)] ∧ (∀ (n15 : Int) (n16 : Int), I13 [(.int .i64 n15), (.int .i64 n16)] →
 (bif (decide (n16 < (List.length l4 : Int))) then
 (0 ≤ n16 ∧ n16 < (List.length l4 : Int) ∧ (∃ (n17 : Int) (s18 : ByteArray) (n19 : Int) (l20 : List (List V)), List.take 4 (Av.rowAt l4 (n16 : Int).toNat) = [(.int .i64 n17), (.str s18), (.int .i64 n19), (.sl 4 l20)] ∧ (PCalls ax 52 [(.agg [(.int .i64 n17), (.str s18), (.int .i64 n19), (.sl 4 l20)])] fun r22 => ∃ (n21 : Int), r22 = [(.int .i64 n21)] ∧ (I13 [(.int .i64 (IntKind.i64.wrap (n15 + n21))), (.int .i64 (IntKind.i64.wrap (n16 + 1)))] ∧ μ14 [(.int .i64 (IntKind.i64.wrap (n15 + n21))), (.int .i64 (IntKind.i64.wrap (n16 + 1)))] < μ14 [(.int .i64 n15), (.int .i64 n16)]))))
 else
 (K [(.int .i64 n15)]))))
 else
 (K [(.int .i64 1)]))
set_option maxRecDepth 100000 in
theorem raw.eq (n1 : Int) (s2 : ByteArray) (n3 : Int) (l4 : List (List V)) (K : List V → Prop) : raw.W n1 s2 n3 l4 K = afn ax raw.ah Tryd.f52 [(.agg [(.int .i64 n1), (.str s2), (.int .i64 n3), (.sl 4 l4)])] [] (onlyV K) := by kernel_rfl
theorem raw.ok : codeOk tys (hintsOf raw.ah) Tryd.f52.ntmps (Tryd.f52.body.getD .skip) = true := by kernel_rfl
set_option maxHeartbeats 4000000 in
theorem raw.calls {n1 s2 n3 l4 K} (h : raw.W n1 s2 n3 l4 K) : PCalls ax 52 [(.agg [(.int .i64 n1), (.str s2), (.int .i64 n3), (.sl 4 l4)])] K :=
  afn_run (ah := raw.ah) tysOk fnsOk follows eqOk Tryd.func52 (by kernel_rfl) raw.ok (by kernel_rfl) (Eq.mp (raw.eq n1 s2 n3 l4 K) h)
/-! ### copied: function 44, augur/unify.copied -/
def copied.ah : AH := ⟨[], [(3, ⟨[(3, [.nw 32 4 false], false), (9, [.d (.int .i64)], false)], [], [], []⟩)], [], [(44, ⟨[some [.int .i64, .str, .int .i64, .sl 4]], [.ag [.int .i64, .str, .int .i64, .sl 4]], []⟩)], [], [some [.int .i64, .str, .int .i64, .sl 4]], [], []⟩
set_option maxRecDepth 100000 in
def copied.W (n1 : Int) (s2 : ByteArray) (n3 : Int) (l4 : List (List V)) (K : List V → Prop) : Prop :=
 (∃ (I16 : List V → Prop) (μ17 : List V → Nat), I16 [(.sl 4 []), (.int .i64 0)] ∧ (∀ (l18 : List (List V)) (n19 : Int), I16 [(.sl 4 l18), (.int .i64 n19)] →
 (bif (decide (n19 < (List.length l4 : Int))) then
 (0 ≤ n19 ∧ n19 < (List.length l4 : Int) ∧ (∃ (n20 : Int) (s21 : ByteArray) (n22 : Int) (l23 : List (List V)), List.take 4 (Av.rowAt l4 (n19 : Int).toNat) = [(.int .i64 n20), (.str s21), (.int .i64 n22), (.sl 4 l23)] ∧ (PCalls ax 44 [(.agg [(.int .i64 n20), (.str s21), (.int .i64 n22), (.sl 4 l23)])] fun r28 => ∃ (n24 : Int) (s25 : ByteArray) (n26 : Int) (l27 : List (List V)), r28 = [(.agg [(.int .i64 n24), (.str s25), (.int .i64 n26), (.sl 4 l27)])] ∧ (((List.length l18) + (List.length ([[(.int .i64 n24), (.str s25), (.int .i64 n26), (.sl 4 l27)]] : List (List V)))) * 56 ≤ 140737488355328 ∧ (List.length l18) + (List.length ([[(.int .i64 n24), (.str s25), (.int .i64 n26), (.sl 4 l27)]] : List (List V))) ≤ 140737488355328 ∧ (I16 [(.sl 4 (l18 ++ [[(.int .i64 n24), (.str s25), (.int .i64 n26), (.sl 4 l27)]])), (.int .i64 (IntKind.i64.wrap (n19 + 1)))] ∧ μ17 [(.sl 4 (l18 ++ [[(.int .i64 n24), (.str s25), (.int .i64 n26), (.sl 4 l27)]])), (.int .i64 (IntKind.i64.wrap (n19 + 1)))] < μ17 [(.sl 4 l18), (.int .i64 n19)])))))
 else
 (K [(.agg [(.int .i64 n1), (.str s2), (.int .i64 n3), (.sl 4 l18)])]))))
set_option maxRecDepth 100000 in
theorem copied.eq (n1 : Int) (s2 : ByteArray) (n3 : Int) (l4 : List (List V)) (K : List V → Prop) : copied.W n1 s2 n3 l4 K = afn ax copied.ah Tryd.f44 [(.agg [(.int .i64 n1), (.str s2), (.int .i64 n3), (.sl 4 l4)])] [] (onlyV K) := by kernel_rfl
theorem copied.ok : codeOk tys (hintsOf copied.ah) Tryd.f44.ntmps (Tryd.f44.body.getD .skip) = true := by kernel_rfl
set_option maxHeartbeats 4000000 in
theorem copied.calls {n1 s2 n3 l4 K} (h : copied.W n1 s2 n3 l4 K) : PCalls ax 44 [(.agg [(.int .i64 n1), (.str s2), (.int .i64 n3), (.sl 4 l4)])] K :=
  afn_run (ah := copied.ah) tysOk fnsOk follows eqOk Tryd.func44 (by kernel_rfl) copied.ok (by kernel_rfl) (Eq.mp (copied.eq n1 s2 n3 l4 K) h)
/-! ### RFresh: function 12, (*augur/augurref06.Table).Fresh -/
def RFresh.ah : AH := ⟨[(1, (.one 0 (.one 1 (.one 2 (.one 3 (.one 4 (.one 5 (.one 6 (.one 7 (.one 8 (.one 10 (.alt ((.one 9 (.one 11 (.one 12 (.one 13 (.one 15 (.one 16 (.alt (seqO [14, 17]) (seqO [17, 14]))))))))) ((.one 11 (.one 9 (.one 12 (.one 13 (.one 15 (.one 16 (.alt (seqO [14, 17]) (seqO [17, 14])))))))))))))))))))))], [], [], [(17, ⟨[some [.int .i64]], [.ag [.int .i64, .str, .int .i64, .sl 4]], []⟩)], [], [some [.int .i64, .str, .int .i64, .sl 4]], [], []⟩
set_option maxRecDepth 100000 in
def RFresh.W (L : List (List V)) (K : List V → List Ob → Prop) : Prop :=
 ((PCalls ax 17 [(.int .i64 (List.length L : Int))] fun r5 => ∃ (n1 : Int) (s2 : ByteArray) (n3 : Int) (l4 : List (List V)), r5 = [(.agg [(.int .i64 n1), (.str s2), (.int .i64 n3), (.sl 4 l4)])] ∧ (((List.length L) + (List.length ([[(.int .i64 0), (.str (⟨#[]⟩ : ByteArray)), (.int .i64 0), (.sl 4 [])]] : List (List V)))) * 56 ≤ 140737488355328 ∧ (List.length L) + (List.length ([[(.int .i64 0), (.str (⟨#[]⟩ : ByteArray)), (.int .i64 0), (.sl 4 [])]] : List (List V))) ≤ 140737488355328 ∧ (0 ≤ (List.length L : Int) ∧ (List.length L : Int) < (List.length (L ++ [[(.int .i64 0), (.str (⟨#[]⟩ : ByteArray)), (.int .i64 0), (.sl 4 [])]]) : Int) ∧ (((((List.length L : Int) : Int).toNat) < List.length (L ++ [[(.int .i64 0), (.str (⟨#[]⟩ : ByteArray)), (.int .i64 0), (.sl 4 [])]]) ∧ (PCalls ax 17 [(.int .i64 (IntKind.i64.wrap ((List.length (List.set (L ++ [[(.int .i64 0), (.str (⟨#[]⟩ : ByteArray)), (.int .i64 0), (.sl 4 [])]]) (((List.length L : Int) : Int).toNat) [(.int .i64 n1), (.str s2), (.int .i64 n3), (.sl 4 l4)]) : Int) - 1)))] fun r10 => ∃ (n6 : Int) (s7 : ByteArray) (n8 : Int) (l9 : List (List V)), r10 = [(.agg [(.int .i64 n6), (.str s7), (.int .i64 n8), (.sl 4 l9)])] ∧ (K [(.agg [(.int .i64 n6), (.str s7), (.int .i64 n8), (.sl 4 l9)])] [(.box [(.own 2)]), .dead, (.lst 32 4 false (List.set (L ++ [[(.int .i64 0), (.str (⟨#[]⟩ : ByteArray)), (.int .i64 0), (.sl 4 [])]]) (((List.length L : Int) : Int).toNat) [(.int .i64 n1), (.str s2), (.int .i64 n3), (.sl 4 l4)]))]))) ∧ ((((List.length L : Int) : Int).toNat) < List.length (L ++ [[(.int .i64 0), (.str (⟨#[]⟩ : ByteArray)), (.int .i64 0), (.sl 4 [])]]) ∧ (PCalls ax 17 [(.int .i64 (IntKind.i64.wrap ((List.length (List.set (L ++ [[(.int .i64 0), (.str (⟨#[]⟩ : ByteArray)), (.int .i64 0), (.sl 4 [])]]) (((List.length L : Int) : Int).toNat) [(.int .i64 n1), (.str s2), (.int .i64 n3), (.sl 4 l4)]) : Int) - 1)))] fun r15 => ∃ (n11 : Int) (s12 : ByteArray) (n13 : Int) (l14 : List (List V)), r15 = [(.agg [(.int .i64 n11), (.str s12), (.int .i64 n13), (.sl 4 l14)])] ∧ (K [(.agg [(.int .i64 n11), (.str s12), (.int .i64 n13), (.sl 4 l14)])] [(.box [(.own 2)]), .dead, (.lst 32 4 false (List.set (L ++ [[(.int .i64 0), (.str (⟨#[]⟩ : ByteArray)), (.int .i64 0), (.sl 4 [])]]) (((List.length L : Int) : Int).toNat) [(.int .i64 n1), (.str s2), (.int .i64 n3), (.sl 4 l4)]))]))))))) ∧ (PCalls ax 17 [(.int .i64 (List.length L : Int))] fun r20 => ∃ (n16 : Int) (s17 : ByteArray) (n18 : Int) (l19 : List (List V)), r20 = [(.agg [(.int .i64 n16), (.str s17), (.int .i64 n18), (.sl 4 l19)])] ∧ (((List.length L) + (List.length ([[(.int .i64 0), (.str (⟨#[]⟩ : ByteArray)), (.int .i64 0), (.sl 4 [])]] : List (List V)))) * 56 ≤ 140737488355328 ∧ (List.length L) + (List.length ([[(.int .i64 0), (.str (⟨#[]⟩ : ByteArray)), (.int .i64 0), (.sl 4 [])]] : List (List V))) ≤ 140737488355328 ∧ (0 ≤ (List.length L : Int) ∧ (List.length L : Int) < (List.length (L ++ [[(.int .i64 0), (.str (⟨#[]⟩ : ByteArray)), (.int .i64 0), (.sl 4 [])]]) : Int) ∧ (((((List.length L : Int) : Int).toNat) < List.length (L ++ [[(.int .i64 0), (.str (⟨#[]⟩ : ByteArray)), (.int .i64 0), (.sl 4 [])]]) ∧ (PCalls ax 17 [(.int .i64 (IntKind.i64.wrap ((List.length (List.set (L ++ [[(.int .i64 0), (.str (⟨#[]⟩ : ByteArray)), (.int .i64 0), (.sl 4 [])]]) (((List.length L : Int) : Int).toNat) [(.int .i64 n16), (.str s17), (.int .i64 n18), (.sl 4 l19)]) : Int) - 1)))] fun r25 => ∃ (n21 : Int) (s22 : ByteArray) (n23 : Int) (l24 : List (List V)), r25 = [(.agg [(.int .i64 n21), (.str s22), (.int .i64 n23), (.sl 4 l24)])] ∧ (K [(.agg [(.int .i64 n21), (.str s22), (.int .i64 n23), (.sl 4 l24)])] [(.box [(.own 2)]), .dead, (.lst 32 4 false (List.set (L ++ [[(.int .i64 0), (.str (⟨#[]⟩ : ByteArray)), (.int .i64 0), (.sl 4 [])]]) (((List.length L : Int) : Int).toNat) [(.int .i64 n16), (.str s17), (.int .i64 n18), (.sl 4 l19)]))]))) ∧ ((((List.length L : Int) : Int).toNat) < List.length (L ++ [[(.int .i64 0), (.str (⟨#[]⟩ : ByteArray)), (.int .i64 0), (.sl 4 [])]]) ∧ (PCalls ax 17 [(.int .i64 (IntKind.i64.wrap ((List.length (List.set (L ++ [[(.int .i64 0), (.str (⟨#[]⟩ : ByteArray)), (.int .i64 0), (.sl 4 [])]]) (((List.length L : Int) : Int).toNat) [(.int .i64 n16), (.str s17), (.int .i64 n18), (.sl 4 l19)]) : Int) - 1)))] fun r30 => ∃ (n26 : Int) (s27 : ByteArray) (n28 : Int) (l29 : List (List V)), r30 = [(.agg [(.int .i64 n26), (.str s27), (.int .i64 n28), (.sl 4 l29)])] ∧ (K [(.agg [(.int .i64 n26), (.str s27), (.int .i64 n28), (.sl 4 l29)])] [(.box [(.own 2)]), .dead, (.lst 32 4 false (List.set (L ++ [[(.int .i64 0), (.str (⟨#[]⟩ : ByteArray)), (.int .i64 0), (.sl 4 [])]]) (((List.length L : Int) : Int).toNat) [(.int .i64 n16), (.str s17), (.int .i64 n18), (.sl 4 l19)]))]))))))))
set_option maxRecDepth 100000 in
theorem RFresh.eq (L : List (List V)) (K : List V → List Ob → Prop) : RFresh.W L K = afn ax RFresh.ah Tryd.f12 [(.ptr 0 0)] [(.box [(.own 1)]), (.lst 32 4 false L)] K := by kernel_rfl
theorem RFresh.ok : codeOk tys (hintsOf RFresh.ah) Tryd.f12.ntmps (Tryd.f12.body.getD .skip) = true := by kernel_rfl
set_option maxHeartbeats 4000000 in
theorem RFresh.calls {L K} (h : RFresh.W L K) : SCalls ax 12 [(.ptr 0 0)] [(.box [(.own 1)]), (.lst 32 4 false L)] K :=
  afn_run (ah := RFresh.ah) tysOk fnsOk follows eqOk Tryd.func12 (by kernel_rfl) RFresh.ok (by kernel_rfl) (Eq.mp (RFresh.eq L K) h)
/-! ### RKnown: function 20, (*augur/augurref06.Table).Known -/
def RKnown.ah : AH := ⟨[(6, seqO [0, 1, 2, 3, 4, 5, 6, 7, 8, 9, 10, 11, 12, 13])], [(9, ⟨[(32, [.d (.int .i64)], false)], [(0, [.l (.own 1)])], [(1, 32, 4, false)], []⟩)], [(4, ⟨[(9, [.d (.bool)], false)], [], [], []⟩)], [(20, ⟨[none, some [.int .i64, .str, .int .i64, .sl 4]], [.c (.bool)], [.box [.l (.own 1)], .lst 32 4 false]⟩)], [], [some [.bool]], [], []⟩
set_option maxRecDepth 100000 in
def RKnown.W (n1 : Int) (_s2 : ByteArray) (n3 : Int) (l4 : List (List V)) (L : List (List V)) (K : List V → List Ob → Prop) : Prop :=
 (∃ J5 : List V → Prop, (bif (n1 == (1 : Int)) then
 (J5 [(.bool true)])
 else
 (J5 [(.bool (n1 == (3 : Int)))])) ∧
 (∀ (b6 : Bool), J5 [(.bool b6)] →
 (bif b6 then
 (K [(.bool true)] [(.box [(.own 1)]), (.lst 32 4 false L)])
 else
 (bif (n1 == (4 : Int)) then
 (bif (decide (n3 ≥ (0 : Int))) then (K [(.bool (decide (n3 < (List.length L : Int))))] [(.box [(.own 1)]), (.lst 32 4 false L)]) else (K [(.bool false)] [(.box [(.own 1)]), (.lst 32 4 false L)]))
 else
 (bif (n1 == (2 : Int)) then
 (∃ (I26 : List V → Prop) (μ27 : List V → Nat), I26 [(.int .i64 0), (.sl 4 L)] ∧ (∀ (n28 : Int) (l29 : List (List V)), I26 [(.int .i64 n28), (.sl 4 l29)] →
 (bif (decide (n28 < (List.length l4 : Int))) then
 (0 ≤ n28 ∧ n28 < (List.length l4 : Int) ∧ (∃ (n30 : Int) (s31 : ByteArray) (n32 : Int) (l33 : List (List V)), List.take 4 (Av.rowAt l4 (n28 : Int).toNat) = [(.int .i64 n30), (.str s31), (.int .i64 n32), (.sl 4 l33)] ∧ (SCalls ax 20 [(.ptr 0 0), (.agg [(.int .i64 n30), (.str s31), (.int .i64 n32), (.sl 4 l33)])] [(.box [(.own 1)]), (.lst 32 4 false l29)] fun r35 o37 => ∃ (b34 : Bool) (l36 : List (List V)), r35 = [(.bool b34)] ∧ o37 = [(.box [(.own 1)]), (.lst 32 4 false l36)] ∧ (bif (!b34) then
 (K [(.bool false)] [(.box [(.own 1)]), (.lst 32 4 false l36)])
 else
 (I26 [(.int .i64 (IntKind.i64.wrap (n28 + 1))), (.sl 4 l36)] ∧ μ27 [(.int .i64 (IntKind.i64.wrap (n28 + 1))), (.sl 4 l36)] < μ27 [(.int .i64 n28), (.sl 4 l29)])))))
 else
 (K [(.bool true)] [(.box [(.own 1)]), (.lst 32 4 false l29)]))))
 else
 (K [(.bool false)] [(.box [(.own 1)]), (.lst 32 4 false L)]))))))
set_option maxRecDepth 100000 in
theorem RKnown.eq (n1 : Int) (s2 : ByteArray) (n3 : Int) (l4 : List (List V)) (L : List (List V)) (K : List V → List Ob → Prop) : RKnown.W n1 s2 n3 l4 L K = afn ax RKnown.ah Tryd.f20 [(.ptr 0 0), (.agg [(.int .i64 n1), (.str s2), (.int .i64 n3), (.sl 4 l4)])] [(.box [(.own 1)]), (.lst 32 4 false L)] K := by kernel_rfl
theorem RKnown.ok : codeOk tys (hintsOf RKnown.ah) Tryd.f20.ntmps (Tryd.f20.body.getD .skip) = true := by kernel_rfl
set_option maxHeartbeats 4000000 in
theorem RKnown.calls {n1 s2 n3 l4 L K} (h : RKnown.W n1 s2 n3 l4 L K) : SCalls ax 20 [(.ptr 0 0), (.agg [(.int .i64 n1), (.str s2), (.int .i64 n3), (.sl 4 l4)])] [(.box [(.own 1)]), (.lst 32 4 false L)] K :=
  afn_run (ah := RKnown.ah) tysOk fnsOk follows eqOk Tryd.func20 (by kernel_rfl) RKnown.ok (by kernel_rfl) (Eq.mp (RKnown.eq n1 s2 n3 l4 L K) h)
/-! ### Rtake: function 36, (*augur/augurref06.Table).take -/
def Rtake.ah : AH := ⟨[], [(2, ⟨[(11, [.d (.int .i64)], false)], [(0, [.l (.own 1)])], [(1, 32, 4, false)], []⟩), (8, ⟨[(22, [.d (.int .i64)], false)], [], [], []⟩)], [], [(20, ⟨[none, some [.int .i64, .str, .int .i64, .sl 4]], [.c (.bool)], [.box [.l (.own 1)], .lst 32 4 false]⟩), (21, ⟨[some [.int .i64, .str, .int .i64, .sl 4]], [.c (.int .i64)], []⟩)], [], [some [.int .i64]], [], []⟩
set_option maxRecDepth 100000 in
def Rtake.W (l1 : List (List V)) (L : List (List V)) (K : List V → List Ob → Prop) : Prop :=
 (∃ (I52 : List V → Prop) (μ53 : List V → Nat), I52 [(.int .i64 0), (.sl 4 L)] ∧ (∀ (n54 : Int) (l55 : List (List V)), I52 [(.int .i64 n54), (.sl 4 l55)] →
 (bif (decide (n54 < (List.length l1 : Int))) then
 (0 ≤ n54 ∧ n54 < (List.length l1 : Int) ∧ (∃ (n56 : Int) (s57 : ByteArray) (n58 : Int) (l59 : List (List V)), List.take 4 (Av.rowAt l1 (n54 : Int).toNat) = [(.int .i64 n56), (.str s57), (.int .i64 n58), (.sl 4 l59)] ∧ (SCalls ax 20 [(.ptr 0 0), (.agg [(.int .i64 n56), (.str s57), (.int .i64 n58), (.sl 4 l59)])] [(.box [(.own 1)]), (.lst 32 4 false l55)] fun r61 o63 => ∃ (b60 : Bool) (l62 : List (List V)), r61 = [(.bool b60)] ∧ o63 = [(.box [(.own 1)]), (.lst 32 4 false l62)] ∧ (bif (!b60) then
 (K [(.int .i64 16)] [(.box [(.own 1)]), (.lst 32 4 false l62)])
 else
 (I52 [(.int .i64 (IntKind.i64.wrap (n54 + 1))), (.sl 4 l62)] ∧ μ53 [(.int .i64 (IntKind.i64.wrap (n54 + 1))), (.sl 4 l62)] < μ53 [(.int .i64 n54), (.sl 4 l55)])))))
 else
 (∃ (I71 : List V → Prop) (μ72 : List V → Nat), I71 [(.int .i64 0)] ∧ (∀ (n73 : Int), I71 [(.int .i64 n73)] →
 (bif (decide (n73 < (List.length l1 : Int))) then
 (0 ≤ n73 ∧ n73 < (List.length l1 : Int) ∧ (∃ (n74 : Int) (s75 : ByteArray) (n76 : Int) (l77 : List (List V)), List.take 4 (Av.rowAt l1 (n73 : Int).toNat) = [(.int .i64 n74), (.str s75), (.int .i64 n76), (.sl 4 l77)] ∧ (PCalls ax 21 [(.agg [(.int .i64 n74), (.str s75), (.int .i64 n76), (.sl 4 l77)])] fun r79 => ∃ (n78 : Int), r79 = [(.int .i64 n78)] ∧ (bif (decide (n78 > (200 : Int))) then
 (K [(.int .i64 4)] [(.box [(.own 1)]), (.lst 32 4 false l55)])
 else
 (I71 [(.int .i64 (IntKind.i64.wrap (n73 + 1)))] ∧ μ72 [(.int .i64 (IntKind.i64.wrap (n73 + 1)))] < μ72 [(.int .i64 n73)])))))
 else
 (K [(.int .i64 0)] [(.box [(.own 1)]), (.lst 32 4 false l55)])))))))
set_option maxRecDepth 100000 in
theorem Rtake.eq (l1 : List (List V)) (L : List (List V)) (K : List V → List Ob → Prop) : Rtake.W l1 L K = afn ax Rtake.ah Tryd.f36 [(.ptr 0 0), (.sl 4 l1)] [(.box [(.own 1)]), (.lst 32 4 false L)] K := by kernel_rfl
theorem Rtake.ok : codeOk tys (hintsOf Rtake.ah) Tryd.f36.ntmps (Tryd.f36.body.getD .skip) = true := by kernel_rfl
set_option maxHeartbeats 4000000 in
theorem Rtake.calls {l1 L K} (h : Rtake.W l1 L K) : SCalls ax 36 [(.ptr 0 0), (.sl 4 l1)] [(.box [(.own 1)]), (.lst 32 4 false L)] K :=
  afn_run (ah := Rtake.ah) tysOk fnsOk follows eqOk Tryd.func36 (by kernel_rfl) Rtake.ok (by kernel_rfl) (Eq.mp (Rtake.eq l1 L K) h)
/-! ### Rnow: function 41, (*augur/augurref06.Table).now -/
def Rnow.ah : AH := ⟨[(1, seqO [0, 1, 2, 3, 4, 5, 6, 7, 8, 9, 10, 11, 12, 13, 14, 15, 16, 17, 18, 19, 20, 21, 22, 23, 24, 25, 26, 27, 28]), (2, seqO [0, 1, 2, 3, 4, 5, 6, 7, 8]), (3, seqO [0, 1, 2, 3, 4, 5, 6])], [(9, ⟨[(2, [.d (.int .i64)], false), (67, [.d (.int .i64)], false)], [(0, [.l (.own 1)]), (4, [.d (.int .i64), .d (.str), .d (.int .i64), .nw 32 4 false])], [(1, 32, 4, false)], []⟩)], [(2, ⟨[(40, [.d (.bool)], false)], [], [], []⟩)], [(21, ⟨[some [.int .i64, .str, .int .i64, .sl 4]], [.c (.int .i64)], []⟩), (41, ⟨[none, some [.int .i64, .str, .int .i64, .sl 4], some [.int .i64]], [.ag [.int .i64, .str, .int .i64, .sl 4], .c (.int .i64)], [.box [.l (.own 1)], .lst 32 4 false]⟩)], [], [some [.int .i64, .str, .int .i64, .sl 4], some [.int .i64]], [], []⟩
set_option maxRecDepth 100000 in
def Rnow.W (n1 : Int) (s2 : ByteArray) (n3 : Int) (l4 : List (List V)) (n5 : Int) (L : List (List V)) (K : List V → List Ob → Prop) : Prop :=
 (∃ J20 : List V → Prop, (bif (n1 == (4 : Int)) then (0 ≤ n3 ∧ n3 < (List.length L : Int) ∧ (∃ (n21 : Int), List.take 1 (Av.rowAt L ((n3 : Int).toNat)) = [(.int .i64 n21)] ∧ (bif (n21 != (4 : Int)) then (J20 [(.bool true)]) else (0 ≤ n3 ∧ n3 < (List.length L : Int) ∧ (∃ (n22 : Int), List.take 1 (List.drop 2 (Av.rowAt L ((n3 : Int).toNat))) = [(.int .i64 n22)] ∧ (J20 [(.bool (n22 != n3))])))))) else (J20 [(.bool false)])) ∧
 (∀ (b23 : Bool), J20 [(.bool b23)] →
 (bif b23 then
 (0 ≤ n3 ∧ n3 < (List.length L : Int) ∧ (∃ (n24 : Int) (s25 : ByteArray) (n26 : Int) (l27 : List (List V)), List.take 4 (Av.rowAt L ((n3 : Int).toNat)) = [(.int .i64 n24), (.str s25), (.int .i64 n26), (.sl 4 l27)] ∧ (PCalls ax 21 [(.agg [(.int .i64 n24), (.str s25), (.int .i64 n26), (.sl 4 l27)])] fun r29 => ∃ (n28 : Int), r29 = [(.int .i64 n28)] ∧ (K [(.agg [(.int .i64 n24), (.str s25), (.int .i64 n26), (.sl 4 l27)]), (.int .i64 (IntKind.i64.wrap (n5 - n28)))] [(.box [(.own 1)]), (.lst 32 4 false L)]))))
 else
 (bif (n1 != (2 : Int)) then
 (K [(.agg [(.int .i64 n1), (.str s2), (.int .i64 n3), (.sl 4 l4)]), (.int .i64 (IntKind.i64.wrap (n5 - 1)))] [(.box [(.own 1)]), (.lst 32 4 false L)])
 else
 (∃ (I71 : List V → Prop) (μ72 : List V → Nat), I71 [(.int .i64 (IntKind.i64.wrap (n5 - 1))), (.int .i64 0), (.int .i64 2), (.str s2), (.int .i64 0), (.sl 4 []), (.sl 4 L)] ∧ (∀ (n73 : Int) (n74 : Int) (n75 : Int) (s76 : ByteArray) (n77 : Int) (l78 : List (List V)) (l79 : List (List V)), I71 [(.int .i64 n73), (.int .i64 n74), (.int .i64 n75), (.str s76), (.int .i64 n77), (.sl 4 l78), (.sl 4 l79)] →
 (bif (decide (n74 < (List.length l4 : Int))) then
 (0 ≤ n74 ∧ n74 < (List.length l4 : Int) ∧ (∃ (n84 : Int) (s85 : ByteArray) (n86 : Int) (l87 : List (List V)), List.take 4 (Av.rowAt l4 (n74 : Int).toNat) = [(.int .i64 n84), (.str s85), (.int .i64 n86), (.sl 4 l87)] ∧ (bif (decide (n73 < (0 : Int))) then
 (K [(.agg [(.int .i64 n75), (.str s76), (.int .i64 n77), (.sl 4 l78)]), (.int .i64 n73)] [(.box [(.own 1)]), (.lst 32 4 false l79)])
 else
 (SCalls ax 41 [(.ptr 0 0), (.agg [(.int .i64 n84), (.str s85), (.int .i64 n86), (.sl 4 l87)]), (.int .i64 n73)] [(.box [(.own 1)]), (.lst 32 4 false l79)] fun r93 o95 => ∃ (n88 : Int) (s89 : ByteArray) (n90 : Int) (l91 : List (List V)) (n92 : Int) (l94 : List (List V)), r93 = [(.agg [(.int .i64 n88), (.str s89), (.int .i64 n90), (.sl 4 l91)]), (.int .i64 n92)] ∧ o95 = [(.box [(.own 1)]), (.lst 32 4 false l94)] ∧ (((List.length l78) + (List.length ([[(.int .i64 n88), (.str s89), (.int .i64 n90), (.sl 4 l91)]] : List (List V)))) * 56 ≤ 140737488355328 ∧ (List.length l78) + (List.length ([[(.int .i64 n88), (.str s89), (.int .i64 n90), (.sl 4 l91)]] : List (List V))) ≤ 140737488355328 ∧ (I71 [(.int .i64 n92), (.int .i64 (IntKind.i64.wrap (n74 + 1))), (.int .i64 n75), (.str s76), (.int .i64 n77), (.sl 4 (l78 ++ [[(.int .i64 n88), (.str s89), (.int .i64 n90), (.sl 4 l91)]])), (.sl 4 l94)] ∧ μ72 [(.int .i64 n92), (.int .i64 (IntKind.i64.wrap (n74 + 1))), (.int .i64 n75), (.str s76), (.int .i64 n77), (.sl 4 (l78 ++ [[(.int .i64 n88), (.str s89), (.int .i64 n90), (.sl 4 l91)]])), (.sl 4 l94)] < μ72 [(.int .i64 n73), (.int .i64 n74), (.int .i64 n75), (.str s76), (.int .i64 n77), (.sl 4 l78), (.sl 4 l79)]))))))
 else
 (K [(.agg [(.int .i64 n75), (.str s76), (.int .i64 n77), (.sl 4 l78)]), (.int .i64 n73)] [(.box [(.own 1)]), (.lst 32 4 false l79)]))))))))
set_option maxRecDepth 100000 in
theorem Rnow.eq (n1 : Int) (s2 : ByteArray) (n3 : Int) (l4 : List (List V)) (n5 : Int) (L : List (List V)) (K : List V → List Ob → Prop) : Rnow.W n1 s2 n3 l4 n5 L K = afn ax Rnow.ah Tryd.f41 [(.ptr 0 0), (.agg [(.int .i64 n1), (.str s2), (.int .i64 n3), (.sl 4 l4)]), (.int .i64 n5)] [(.box [(.own 1)]), (.lst 32 4 false L)] K := by kernel_rfl
theorem Rnow.ok : codeOk tys (hintsOf Rnow.ah) Tryd.f41.ntmps (Tryd.f41.body.getD .skip) = true := by kernel_rfl
set_option maxHeartbeats 4000000 in
theorem Rnow.calls {n1 s2 n3 l4 n5 L K} (h : Rnow.W n1 s2 n3 l4 n5 L K) : SCalls ax 41 [(.ptr 0 0), (.agg [(.int .i64 n1), (.str s2), (.int .i64 n3), (.sl 4 l4)]), (.int .i64 n5)] [(.box [(.own 1)]), (.lst 32 4 false L)] K :=
  afn_run (ah := Rnow.ah) tysOk fnsOk follows eqOk Tryd.func41 (by kernel_rfl) Rnow.ok (by kernel_rfl) (Eq.mp (Rnow.eq n1 s2 n3 l4 n5 L K) h)
/-! ### Rhead: function 55, (*augur/augurref06.Table).head -/
def Rhead.ah : AH := ⟨[(2, seqO [0, 1, 2, 3, 4, 5, 6, 7, 8])], [], [], [], [], [some [.int .i64, .str, .int .i64, .sl 4]], [], []⟩
set_option maxRecDepth 100000 in
def Rhead.W (n1 : Int) (s2 : ByteArray) (n3 : Int) (l4 : List (List V)) (L : List (List V)) (K : List V → List Ob → Prop) : Prop :=
 (bif (n1 == (4 : Int)) then
 (0 ≤ n3 ∧ n3 < (List.length L : Int) ∧ (∃ (n5 : Int) (s6 : ByteArray) (n7 : Int) (l8 : List (List V)), List.take 4 (Av.rowAt L ((n3 : Int).toNat)) = [(.int .i64 n5), (.str s6), (.int .i64 n7), (.sl 4 l8)] ∧ (K [(.agg [(.int .i64 n5), (.str s6), (.int .i64 n7), (.sl 4 l8)])] [(.box [(.own 1)]), (.lst 32 4 false L)])))
 else
 (K [(.agg [(.int .i64 n1), (.str s2), (.int .i64 n3), (.sl 4 l4)])] [(.box [(.own 1)]), (.lst 32 4 false L)]))
set_option maxRecDepth 100000 in
theorem Rhead.eq (n1 : Int) (s2 : ByteArray) (n3 : Int) (l4 : List (List V)) (L : List (List V)) (K : List V → List Ob → Prop) : Rhead.W n1 s2 n3 l4 L K = afn ax Rhead.ah Tryd.f55 [(.ptr 0 0), (.agg [(.int .i64 n1), (.str s2), (.int .i64 n3), (.sl 4 l4)])] [(.box [(.own 1)]), (.lst 32 4 false L)] K := by kernel_rfl
theorem Rhead.ok : codeOk tys (hintsOf Rhead.ah) Tryd.f55.ntmps (Tryd.f55.body.getD .skip) = true := by kernel_rfl
set_option maxHeartbeats 4000000 in
theorem Rhead.calls {n1 s2 n3 l4 L K} (h : Rhead.W n1 s2 n3 l4 L K) : SCalls ax 55 [(.ptr 0 0), (.agg [(.int .i64 n1), (.str s2), (.int .i64 n3), (.sl 4 l4)])] [(.box [(.own 1)]), (.lst 32 4 false L)] K :=
  afn_run (ah := Rhead.ah) tysOk fnsOk follows eqOk Tryd.func55 (by kernel_rfl) Rhead.ok (by kernel_rfl) (Eq.mp (Rhead.eq n1 s2 n3 l4 L K) h)
/-! ### Rbind: function 56, (*augur/augurref06.Table).bind -/
def Rbind.ah : AH := ⟨[], [(6, ⟨[(9, [.nw 32 4 false], false), (28, [.d (.int .i64)], false)], [], [], [4]⟩)], [], [(21, ⟨[some [.int .i64, .str, .int .i64, .sl 4]], [.c (.int .i64)], []⟩), (41, ⟨[none, some [.int .i64, .str, .int .i64, .sl 4], some [.int .i64]], [.ag [.int .i64, .str, .int .i64, .sl 4], .c (.int .i64)], [.box [.l (.own 1)], .lst 32 4 false]⟩), (66, ⟨[some [.int .i64, .str, .int .i64, .sl 4], some [.int .i64]], [.c (.bool)], []⟩), (67, ⟨[some [.int .i64, .str, .int .i64, .sl 4], some [.int .i64], some [.int .i64, .str, .int .i64, .sl 4]], [.ag [.int .i64, .str, .int .i64, .sl 4]], []⟩)], [], [some [.int .i64]], [(0, [.nw 32 4 false])], [1]⟩
set_option maxRecDepth 100000 in
def Rbind.W (n1 : Int) (n2 : Int) (s3 : ByteArray) (n4 : Int) (l5 : List (List V)) (L : List (List V)) (K : List V → List Ob → Prop) : Prop :=
 (SCalls ax 41 [(.ptr 0 0), (.agg [(.int .i64 n2), (.str s3), (.int .i64 n4), (.sl 4 l5)]), (.int .i64 1073741824)] [(.box [(.own 1)]), (.lst 32 4 false L)] fun r19 o21 => ∃ (n14 : Int) (s15 : ByteArray) (n16 : Int) (l17 : List (List V)) (n18 : Int) (l20 : List (List V)), r19 = [(.agg [(.int .i64 n14), (.str s15), (.int .i64 n16), (.sl 4 l17)]), (.int .i64 n18)] ∧ o21 = [(.box [(.own 1)]), (.lst 32 4 false l20)] ∧ (PCalls ax 66 [(.agg [(.int .i64 n14), (.str s15), (.int .i64 n16), (.sl 4 l17)]), (.int .i64 n1)] fun r25 => ∃ (b24 : Bool), r25 = [(.bool b24)] ∧ (bif b24 then
 (K [(.int .i64 6)] [(.box [(.own 2)]), .dead, (.lst 32 4 false l20)])
 else
 (∃ (I59 : List V → Prop) (μ60 : List V → Nat), I59 [(.sl 4 []), (.int .i64 0)] ∧ (∀ (l61 : List (List V)) (n62 : Int), I59 [(.sl 4 l61), (.int .i64 n62)] →
 (bif (decide (n62 < (List.length l20 : Int))) then
 (0 ≤ n62 ∧ n62 < (List.length l20 : Int) ∧ (∃ (n67 : Int) (s68 : ByteArray) (n69 : Int) (l70 : List (List V)), List.take 4 (Av.rowAt l20 ((n62 : Int).toNat)) = [(.int .i64 n67), (.str s68), (.int .i64 n69), (.sl 4 l70)] ∧ (PCalls ax 67 [(.agg [(.int .i64 n67), (.str s68), (.int .i64 n69), (.sl 4 l70)]), (.int .i64 n1), (.agg [(.int .i64 n14), (.str s15), (.int .i64 n16), (.sl 4 l17)])] fun r75 => ∃ (n71 : Int) (s72 : ByteArray) (n73 : Int) (l74 : List (List V)), r75 = [(.agg [(.int .i64 n71), (.str s72), (.int .i64 n73), (.sl 4 l74)])] ∧ (PCalls ax 21 [(.agg [(.int .i64 n71), (.str s72), (.int .i64 n73), (.sl 4 l74)])] fun r77 => ∃ (n76 : Int), r77 = [(.int .i64 n76)] ∧ (bif (decide (n76 > (200 : Int))) then
 (K [(.int .i64 4)] [(.box [(.own 2)]), .dead, (.lst 32 4 false l20)])
 else
 (((List.length l61) + (List.length ([[(.int .i64 n71), (.str s72), (.int .i64 n73), (.sl 4 l74)]] : List (List V)))) * 56 ≤ 140737488355328 ∧ (List.length l61) + (List.length ([[(.int .i64 n71), (.str s72), (.int .i64 n73), (.sl 4 l74)]] : List (List V))) ≤ 140737488355328 ∧ (I59 [(.sl 4 (l61 ++ [[(.int .i64 n71), (.str s72), (.int .i64 n73), (.sl 4 l74)]])), (.int .i64 (IntKind.i64.wrap (n62 + 1)))] ∧ μ60 [(.sl 4 (l61 ++ [[(.int .i64 n71), (.str s72), (.int .i64 n73), (.sl 4 l74)]])), (.int .i64 (IntKind.i64.wrap (n62 + 1)))] < μ60 [(.sl 4 l61), (.int .i64 n62)])))))))
 else
 (K [(.int .i64 0)] [(.box [(.own 2)]), .dead, (.lst 32 4 false l61)])))))))
set_option maxRecDepth 100000 in
theorem Rbind.eq (n1 : Int) (n2 : Int) (s3 : ByteArray) (n4 : Int) (l5 : List (List V)) (L : List (List V)) (K : List V → List Ob → Prop) : Rbind.W n1 n2 s3 n4 l5 L K = afn ax Rbind.ah Tryd.f56 [(.ptr 0 0), (.int .i64 n1), (.agg [(.int .i64 n2), (.str s3), (.int .i64 n4), (.sl 4 l5)])] [(.box [(.own 1)]), (.lst 32 4 false L)] K := by kernel_rfl
theorem Rbind.ok : codeOk tys (hintsOf Rbind.ah) Tryd.f56.ntmps (Tryd.f56.body.getD .skip) = true := by kernel_rfl
set_option maxHeartbeats 4000000 in
theorem Rbind.calls {n1 n2 s3 n4 l5 L K} (h : Rbind.W n1 n2 s3 n4 l5 L K) : SCalls ax 56 [(.ptr 0 0), (.int .i64 n1), (.agg [(.int .i64 n2), (.str s3), (.int .i64 n4), (.sl 4 l5)])] [(.box [(.own 1)]), (.lst 32 4 false L)] K :=
  afn_run (ah := Rbind.ah) tysOk fnsOk follows eqOk Tryd.func56 (by kernel_rfl) Rbind.ok (by kernel_rfl) (Eq.mp (Rbind.eq n1 n2 s3 n4 l5 L K) h)
/-! ### Runify: function 37, (*augur/augurref06.Table).unify -/
def Runify.ah : AH := ⟨[(1, seqO [0, 1, 3, 4, 2, 5, 6, 7]), (13, seqO [0, 1, 2, 3, 4, 5, 6, 7, 8, 9, 10, 11, 12])], [(11, ⟨[(72, [.d (.int .i64)], false)], [(0, [.nw 32 4 false])], [], [1]⟩)], [(3, ⟨[(22, [.d (.bool)], false)], [], [], []⟩), (5, ⟨[], [], [], []⟩)], [(37, ⟨[none, some [.int .i64, .str, .int .i64, .sl 4], some [.int .i64, .str, .int .i64, .sl 4]], [.c (.int .i64)], [.box [.l (.own 2)], .dead, .lst 32 4 false]⟩), (55, ⟨[none, some [.int .i64, .str, .int .i64, .sl 4]], [.ag [.int .i64, .str, .int .i64, .sl 4]], [.box [.l (.own 1)], .lst 32 4 false]⟩), (56, ⟨[none, some [.int .i64], some [.int .i64, .str, .int .i64, .sl 4]], [.c (.int .i64)], [.box [.l (.own 2)], .dead, .lst 32 4 false]⟩)], [], [some [.int .i64]], [(0, [.nw 32 4 false])], [1]⟩
set_option maxRecDepth 100000 in
def Runify.W (n1 : Int) (s2 : ByteArray) (n3 : Int) (l4 : List (List V)) (n5 : Int) (s6 : ByteArray) (n7 : Int) (l8 : List (List V)) (L : List (List V)) (K : List V → List Ob → Prop) : Prop :=
 (SCalls ax 55 [(.ptr 0 0), (.agg [(.int .i64 n1), (.str s2), (.int .i64 n3), (.sl 4 l4)])] [(.box [(.own 1)]), (.lst 32 4 false L)] fun r27 o29 => ∃ (n23 : Int) (s24 : ByteArray) (n25 : Int) (l26 : List (List V)) (l28 : List (List V)), r27 = [(.agg [(.int .i64 n23), (.str s24), (.int .i64 n25), (.sl 4 l26)])] ∧ o29 = [(.box [(.own 1)]), (.lst 32 4 false l28)] ∧ (SCalls ax 55 [(.ptr 0 0), (.agg [(.int .i64 n5), (.str s6), (.int .i64 n7), (.sl 4 l8)])] [(.box [(.own 1)]), (.lst 32 4 false l28)] fun r34 o36 => ∃ (n30 : Int) (s31 : ByteArray) (n32 : Int) (l33 : List (List V)) (l35 : List (List V)), r34 = [(.agg [(.int .i64 n30), (.str s31), (.int .i64 n32), (.sl 4 l33)])] ∧ o36 = [(.box [(.own 1)]), (.lst 32 4 false l35)] ∧ (∃ J48 : List V → Prop, (bif (n23 == (4 : Int)) then (J48 [(.bool true)]) else (J48 [(.bool (n30 == (4 : Int)))])) ∧
 (∀ (b49 : Bool), J48 [(.bool b49)] →
 (bif b49 then
 (∃ J50 : List V → Prop, (bif (n23 == n30) then (bif (n25 == n32) then
 (K [(.int .i64 0)] [(.box [(.own 2)]), .dead, (.lst 32 4 false l35)])
 else
 (J50 [])) else (J50 [])) ∧
 (J50 [] →
 (bif (n23 == (4 : Int)) then
 (SCalls ax 56 [(.ptr 0 0), (.int .i64 n25), (.agg [(.int .i64 n30), (.str s31), (.int .i64 n32), (.sl 4 l33)])] [(.box [(.own 1)]), (.lst 32 4 false l35)] fun r52 o54 => ∃ (n51 : Int) (l53 : List (List V)), r52 = [(.int .i64 n51)] ∧ o54 = [(.box [(.own 2)]), .dead, (.lst 32 4 false l53)] ∧ (K [(.int .i64 n51)] [(.box [(.own 2)]), .dead, (.lst 32 4 false l53)]))
 else
 (SCalls ax 56 [(.ptr 0 0), (.int .i64 n32), (.agg [(.int .i64 n23), (.str s24), (.int .i64 n25), (.sl 4 l26)])] [(.box [(.own 1)]), (.lst 32 4 false l35)] fun r56 o58 => ∃ (n55 : Int) (l57 : List (List V)), r56 = [(.int .i64 n55)] ∧ o58 = [(.box [(.own 2)]), .dead, (.lst 32 4 false l57)] ∧ (K [(.int .i64 n55)] [(.box [(.own 2)]), .dead, (.lst 32 4 false l57)])))))
 else
 (bif (n23 != n30) then (K [(.int .i64 6)] [(.box [(.own 2)]), .dead, (.lst 32 4 false l35)]) else (bif (!(strEq s24 s31)) then (K [(.int .i64 6)] [(.box [(.own 2)]), .dead, (.lst 32 4 false l35)]) else (bif ((List.length l26 : Int) != (List.length l33 : Int)) then
 (K [(.int .i64 6)] [(.box [(.own 2)]), .dead, (.lst 32 4 false l35)])
 else
 (∃ (I86 : List V → Prop) (μ87 : List V → Nat), I86 [(.int .i64 0), (.sl 4 l35)] ∧ (∀ (n88 : Int) (l89 : List (List V)), I86 [(.int .i64 n88), (.sl 4 l89)] →
 (bif (decide (n88 < (List.length l26 : Int))) then
 (0 ≤ n88 ∧ n88 < (List.length l26 : Int) ∧ (∃ (n90 : Int) (s91 : ByteArray) (n92 : Int) (l93 : List (List V)), List.take 4 (Av.rowAt l26 (n88 : Int).toNat) = [(.int .i64 n90), (.str s91), (.int .i64 n92), (.sl 4 l93)] ∧ (0 ≤ n88 ∧ n88 < (List.length l33 : Int) ∧ (∃ (n94 : Int) (s95 : ByteArray) (n96 : Int) (l97 : List (List V)), List.take 4 (Av.rowAt l33 (n88 : Int).toNat) = [(.int .i64 n94), (.str s95), (.int .i64 n96), (.sl 4 l97)] ∧ (SCalls ax 37 [(.ptr 0 0), (.agg [(.int .i64 n90), (.str s91), (.int .i64 n92), (.sl 4 l93)]), (.agg [(.int .i64 n94), (.str s95), (.int .i64 n96), (.sl 4 l97)])] [(.box [(.own 1)]), (.lst 32 4 false l89)] fun r99 o101 => ∃ (n98 : Int) (l100 : List (List V)), r99 = [(.int .i64 n98)] ∧ o101 = [(.box [(.own 2)]), .dead, (.lst 32 4 false l100)] ∧ (bif (n98 != (0 : Int)) then
 (K [(.int .i64 n98)] [(.box [(.own 2)]), .dead, (.lst 32 4 false l100)])
 else
 (I86 [(.int .i64 (IntKind.i64.wrap (n88 + 1))), (.sl 4 l100)] ∧ μ87 [(.int .i64 (IntKind.i64.wrap (n88 + 1))), (.sl 4 l100)] < μ87 [(.int .i64 n88), (.sl 4 l89)])))))))
 else
 (K [(.int .i64 0)] [(.box [(.own 2)]), .dead, (.lst 32 4 false l89)]))))))))))))
set_option maxRecDepth 100000 in
theorem Runify.eq (n1 : Int) (s2 : ByteArray) (n3 : Int) (l4 : List (List V)) (n5 : Int) (s6 : ByteArray) (n7 : Int) (l8 : List (List V)) (L : List (List V)) (K : List V → List Ob → Prop) : Runify.W n1 s2 n3 l4 n5 s6 n7 l8 L K = afn ax Runify.ah Tryd.f37 [(.ptr 0 0), (.agg [(.int .i64 n1), (.str s2), (.int .i64 n3), (.sl 4 l4)]), (.agg [(.int .i64 n5), (.str s6), (.int .i64 n7), (.sl 4 l8)])] [(.box [(.own 1)]), (.lst 32 4 false L)] K := by kernel_rfl
theorem Runify.ok : codeOk tys (hintsOf Runify.ah) Tryd.f37.ntmps (Tryd.f37.body.getD .skip) = true := by kernel_rfl
set_option maxHeartbeats 4000000 in
theorem Runify.calls {n1 s2 n3 l4 n5 s6 n7 l8 L K} (h : Runify.W n1 s2 n3 l4 n5 s6 n7 l8 L K) : SCalls ax 37 [(.ptr 0 0), (.agg [(.int .i64 n1), (.str s2), (.int .i64 n3), (.sl 4 l4)]), (.agg [(.int .i64 n5), (.str s6), (.int .i64 n7), (.sl 4 l8)])] [(.box [(.own 1)]), (.lst 32 4 false L)] K :=
  afn_run (ah := Runify.ah) tysOk fnsOk follows eqOk Tryd.func37 (by kernel_rfl) Runify.ok (by kernel_rfl) (Eq.mp (Runify.eq n1 s2 n3 l4 n5 s6 n7 l8 L K) h)
/-! ### RUnify: function 15, (*augur/augurref06.Table).Unify -/
def RUnify.ah : AH := ⟨[(4, seqO [0, 1, 3, 2, 4, 5, 6])], [], [], [(36, ⟨[none, some [.sl 4]], [.c (.int .i64)], [.box [.l (.own 1)], .lst 32 4 false]⟩), (37, ⟨[none, some [.int .i64, .str, .int .i64, .sl 4], some [.int .i64, .str, .int .i64, .sl 4]], [.c (.int .i64)], [.box [.l (.own 2)], .dead, .lst 32 4 false]⟩), (38, ⟨[some [.int .i64, .str, .int .i64, .sl 4]], [.ag [.int .i64, .str, .int .i64, .sl 4]], []⟩)], [], [some [.int .i64]], [(0, [.nw 32 4 false])], [1]⟩
set_option maxRecDepth 100000 in
def RUnify.W (n1 : Int) (s2 : ByteArray) (n3 : Int) (l4 : List (List V)) (n5 : Int) (s6 : ByteArray) (n7 : Int) (l8 : List (List V)) (L : List (List V)) (K : List V → List Ob → Prop) : Prop :=
 (SCalls ax 36 [(.ptr 0 0), (.sl 4 [[(.int .i64 n1), (.str s2), (.int .i64 n3), (.sl 4 l4)], [(.int .i64 n5), (.str s6), (.int .i64 n7), (.sl 4 l8)]])] [(.box [(.own 1)]), (.lst 32 4 false L)] fun r10 o12 => ∃ (n9 : Int) (l11 : List (List V)), r10 = [(.int .i64 n9)] ∧ o12 = [(.box [(.own 1)]), (.lst 32 4 false l11)] ∧ (bif (n9 != (0 : Int)) then
 (K [(.int .i64 n9)] [(.box [(.own 2)]), .dead, (.lst 32 4 false l11)])
 else
 (PCalls ax 38 [(.agg [(.int .i64 n1), (.str s2), (.int .i64 n3), (.sl 4 l4)])] fun r17 => ∃ (n13 : Int) (s14 : ByteArray) (n15 : Int) (l16 : List (List V)), r17 = [(.agg [(.int .i64 n13), (.str s14), (.int .i64 n15), (.sl 4 l16)])] ∧ (PCalls ax 38 [(.agg [(.int .i64 n5), (.str s6), (.int .i64 n7), (.sl 4 l8)])] fun r22 => ∃ (n18 : Int) (s19 : ByteArray) (n20 : Int) (l21 : List (List V)), r22 = [(.agg [(.int .i64 n18), (.str s19), (.int .i64 n20), (.sl 4 l21)])] ∧ (SCalls ax 37 [(.ptr 0 0), (.agg [(.int .i64 n13), (.str s14), (.int .i64 n15), (.sl 4 l16)]), (.agg [(.int .i64 n18), (.str s19), (.int .i64 n20), (.sl 4 l21)])] [(.box [(.own 1)]), (.lst 32 4 false l11)] fun r24 o26 => ∃ (n23 : Int) (l25 : List (List V)), r24 = [(.int .i64 n23)] ∧ o26 = [(.box [(.own 2)]), .dead, (.lst 32 4 false l25)] ∧ (K [(.int .i64 n23)] [(.box [(.own 2)]), .dead, (.lst 32 4 false l25)]))))))
set_option maxRecDepth 100000 in
theorem RUnify.eq (n1 : Int) (s2 : ByteArray) (n3 : Int) (l4 : List (List V)) (n5 : Int) (s6 : ByteArray) (n7 : Int) (l8 : List (List V)) (L : List (List V)) (K : List V → List Ob → Prop) : RUnify.W n1 s2 n3 l4 n5 s6 n7 l8 L K = afn ax RUnify.ah Tryd.f15 [(.ptr 0 0), (.agg [(.int .i64 n1), (.str s2), (.int .i64 n3), (.sl 4 l4)]), (.agg [(.int .i64 n5), (.str s6), (.int .i64 n7), (.sl 4 l8)])] [(.box [(.own 1)]), (.lst 32 4 false L)] K := by kernel_rfl
theorem RUnify.ok : codeOk tys (hintsOf RUnify.ah) Tryd.f15.ntmps (Tryd.f15.body.getD .skip) = true := by kernel_rfl
set_option maxHeartbeats 4000000 in
theorem RUnify.calls {n1 s2 n3 l4 n5 s6 n7 l8 L K} (h : RUnify.W n1 s2 n3 l4 n5 s6 n7 l8 L K) : SCalls ax 15 [(.ptr 0 0), (.agg [(.int .i64 n1), (.str s2), (.int .i64 n3), (.sl 4 l4)]), (.agg [(.int .i64 n5), (.str s6), (.int .i64 n7), (.sl 4 l8)])] [(.box [(.own 1)]), (.lst 32 4 false L)] K :=
  afn_run (ah := RUnify.ah) tysOk fnsOk follows eqOk Tryd.func15 (by kernel_rfl) RUnify.ok (by kernel_rfl) (Eq.mp (RUnify.eq n1 s2 n3 l4 n5 s6 n7 l8 L K) h)
/-! ### RResolve: function 18, (*augur/augurref06.Table).Resolve -/
def RResolve.ah : AH := ⟨[], [], [], [(36, ⟨[none, some [.sl 4]], [.c (.int .i64)], [.box [.l (.own 1)], .lst 32 4 false]⟩), (38, ⟨[some [.int .i64, .str, .int .i64, .sl 4]], [.ag [.int .i64, .str, .int .i64, .sl 4]], []⟩), (41, ⟨[none, some [.int .i64, .str, .int .i64, .sl 4], some [.int .i64]], [.ag [.int .i64, .str, .int .i64, .sl 4], .c (.int .i64)], [.box [.l (.own 1)], .lst 32 4 false]⟩)], [], [some [.int .i64, .str, .int .i64, .sl 4], some [.int .i64]], [], []⟩
set_option maxRecDepth 100000 in
def RResolve.W (n1 : Int) (s2 : ByteArray) (n3 : Int) (l4 : List (List V)) (L : List (List V)) (K : List V → List Ob → Prop) : Prop :=
 (SCalls ax 36 [(.ptr 0 0), (.sl 4 [[(.int .i64 n1), (.str s2), (.int .i64 n3), (.sl 4 l4)]])] [(.box [(.own 1)]), (.lst 32 4 false L)] fun r10 o12 => ∃ (n9 : Int) (l11 : List (List V)), r10 = [(.int .i64 n9)] ∧ o12 = [(.box [(.own 1)]), (.lst 32 4 false l11)] ∧ (bif (n9 != (0 : Int)) then
 (K [(.agg [(.int .i64 0), (.str (⟨#[]⟩ : ByteArray)), (.int .i64 0), (.sl 4 [])]), (.int .i64 n9)] [(.box [(.own 1)]), (.lst 32 4 false l11)])
 else
 (PCalls ax 38 [(.agg [(.int .i64 n1), (.str s2), (.int .i64 n3), (.sl 4 l4)])] fun r17 => ∃ (n13 : Int) (s14 : ByteArray) (n15 : Int) (l16 : List (List V)), r17 = [(.agg [(.int .i64 n13), (.str s14), (.int .i64 n15), (.sl 4 l16)])] ∧ (SCalls ax 41 [(.ptr 0 0), (.agg [(.int .i64 n13), (.str s14), (.int .i64 n15), (.sl 4 l16)]), (.int .i64 200)] [(.box [(.own 1)]), (.lst 32 4 false l11)] fun r23 o25 => ∃ (n18 : Int) (s19 : ByteArray) (n20 : Int) (l21 : List (List V)) (n22 : Int) (l24 : List (List V)), r23 = [(.agg [(.int .i64 n18), (.str s19), (.int .i64 n20), (.sl 4 l21)]), (.int .i64 n22)] ∧ o25 = [(.box [(.own 1)]), (.lst 32 4 false l24)] ∧ (bif (decide (n22 < (0 : Int))) then
 (K [(.agg [(.int .i64 0), (.str (⟨#[]⟩ : ByteArray)), (.int .i64 0), (.sl 4 [])]), (.int .i64 4)] [(.box [(.own 1)]), (.lst 32 4 false l24)])
 else
 (K [(.agg [(.int .i64 n18), (.str s19), (.int .i64 n20), (.sl 4 l21)]), (.int .i64 0)] [(.box [(.own 1)]), (.lst 32 4 false l24)]))))))
set_option maxRecDepth 100000 in
theorem RResolve.eq (n1 : Int) (s2 : ByteArray) (n3 : Int) (l4 : List (List V)) (L : List (List V)) (K : List V → List Ob → Prop) : RResolve.W n1 s2 n3 l4 L K = afn ax RResolve.ah Tryd.f18 [(.ptr 0 0), (.agg [(.int .i64 n1), (.str s2), (.int .i64 n3), (.sl 4 l4)])] [(.box [(.own 1)]), (.lst 32 4 false L)] K := by kernel_rfl
theorem RResolve.ok : codeOk tys (hintsOf RResolve.ah) Tryd.f18.ntmps (Tryd.f18.body.getD .skip) = true := by kernel_rfl
set_option maxHeartbeats 4000000 in
theorem RResolve.calls {n1 s2 n3 l4 L K} (h : RResolve.W n1 s2 n3 l4 L K) : SCalls ax 18 [(.ptr 0 0), (.agg [(.int .i64 n1), (.str s2), (.int .i64 n3), (.sl 4 l4)])] [(.box [(.own 1)]), (.lst 32 4 false L)] K :=
  afn_run (ah := RResolve.ah) tysOk fnsOk follows eqOk Tryd.func18 (by kernel_rfl) RResolve.ok (by kernel_rfl) (Eq.mp (RResolve.eq n1 s2 n3 l4 L K) h)
/-! ### data: function 32, augur/augurlaw06.data -/
def data.ah : AH := ⟨[], [], [], [], [], [some [.int .i64, .str, .int .i64, .sl 4]], [], []⟩
set_option maxRecDepth 100000 in
def data.W (s1 : ByteArray) (l2 : List (List V)) (K : List V → Prop) : Prop :=
 (K [(.agg [(.int .i64 2), (.str s1), (.int .i64 0), (.sl 4 l2)])])
set_option maxRecDepth 100000 in
theorem data.eq (s1 : ByteArray) (l2 : List (List V)) (K : List V → Prop) : data.W s1 l2 K = afn ax data.ah Tryd.f32 [(.str s1), (.sl 4 l2)] [] (onlyV K) := by kernel_rfl
theorem data.ok : codeOk tys (hintsOf data.ah) Tryd.f32.ntmps (Tryd.f32.body.getD .skip) = true := by kernel_rfl
set_option maxHeartbeats 4000000 in
theorem data.calls {s1 l2 K} (h : data.W s1 l2 K) : PCalls ax 32 [(.str s1), (.sl 4 l2)] K :=
  afn_run (ah := data.ah) tysOk fnsOk follows eqOk Tryd.func32 (by kernel_rfl) data.ok (by kernel_rfl) (Eq.mp (data.eq s1 l2 K) h)
/-! ### alive: function 8, augur/augurlaw06.alive -/
def alive.ah : AH := ⟨[(6, seqO [0, 1, 2, 3, 4, 5, 6])], [], [(4, ⟨[], [(0, [.nw 69 5 false])], [], []⟩)], [(9, ⟨[], [.lit (.ptr 0 0)], [.box [.l .nls]]⟩), (11, ⟨[none], [.ag [.int .i64, .str, .int .i64, .sl 4]], [.box [.l (.own 2)], .dead, .lst 69 5 false]⟩), (14, ⟨[none, some [.int .i64, .str, .int .i64, .sl 4], some [.int .i64, .str, .int .i64, .sl 4]], [.c (.err)], [.box [.l (.own 1)], .lst 69 5 false]⟩), (16, ⟨[none, some [.int .i64, .str, .int .i64, .sl 4]], [.ag [.int .i64, .str, .int .i64, .sl 4], .c (.err)], [.box [.l (.own 1)], .lst 69 5 false]⟩), (19, ⟨[none], [.c (.int .i64)], [.box [.l (.own 1)], .lst 69 5 false]⟩), (32, ⟨[some [.str], some [.sl 4]], [.ag [.int .i64, .str, .int .i64, .sl 4]], []⟩)], [], [some [.bool]], [], []⟩
set_option maxRecDepth 100000 in
def alive.W  (K : List V → Prop) : Prop :=
 (SCalls ax 9 [] [] fun r3 o4 => r3 = [(.ptr 0 0)] ∧ o4 = [(.box [.nls])] ∧ (∃ J5 : List V → Prop, (J5 [(.sl 5 [])]) ∧
 (∀ (l6 : List (List V)), J5 [(.sl 5 l6)] →
 (SCalls ax 11 [(.ptr 0 0)] [(.box [(.own 1)]), (.lst 69 5 false l6)] fun r25 o27 => ∃ (n21 : Int) (s22 : ByteArray) (n23 : Int) (l24 : List (List V)) (l26 : List (List V)), r25 = [(.agg [(.int .i64 n21), (.str s22), (.int .i64 n23), (.sl 4 l24)])] ∧ o27 = [(.box [(.own 2)]), .dead, (.lst 69 5 false l26)] ∧ (SCalls ax 11 [(.ptr 0 0)] [(.box [(.own 1)]), (.lst 69 5 false l26)] fun r32 o34 => ∃ (n28 : Int) (s29 : ByteArray) (n30 : Int) (l31 : List (List V)) (l33 : List (List V)), r32 = [(.agg [(.int .i64 n28), (.str s29), (.int .i64 n30), (.sl 4 l31)])] ∧ o34 = [(.box [(.own 2)]), .dead, (.lst 69 5 false l33)] ∧ (PCalls ax 32 [(.str (⟨#[108, 105, 115, 116]⟩ : ByteArray)), (.sl 4 [[(.int .i64 n21), (.str s22), (.int .i64 n23), (.sl 4 l24)]])] fun r53 => ∃ (n49 : Int) (s50 : ByteArray) (n51 : Int) (l52 : List (List V)), r53 = [(.agg [(.int .i64 n49), (.str s50), (.int .i64 n51), (.sl 4 l52)])] ∧ (PCalls ax 32 [(.str (⟨#[108, 105, 115, 116]⟩ : ByteArray)), (.sl 4 [[(.int .i64 1), (.str (⟨#[]⟩ : ByteArray)), (.int .i64 0), (.sl 4 [])]])] fun r58 => ∃ (n54 : Int) (s55 : ByteArray) (n56 : Int) (l57 : List (List V)), r58 = [(.agg [(.int .i64 n54), (.str s55), (.int .i64 n56), (.sl 4 l57)])] ∧ (SCalls ax 14 [(.ptr 0 0), (.agg [(.int .i64 n49), (.str s50), (.int .i64 n51), (.sl 4 l52)]), (.agg [(.int .i64 n54), (.str s55), (.int .i64 n56), (.sl 4 l57)])] [(.box [(.own 1)]), (.lst 69 5 false l33)] fun r60 o62 => ∃ (x59 : Option Nat) (l61 : List (List V)), r60 = [(.err x59)] ∧ o62 = [(.box [(.own 1)]), (.lst 69 5 false l61)] ∧ (PCalls ax 32 [(.str (⟨#[108, 105, 115, 116]⟩ : ByteArray)), (.sl 4 [[(.int .i64 n28), (.str s29), (.int .i64 n30), (.sl 4 l31)]])] fun r76 => ∃ (n72 : Int) (s73 : ByteArray) (n74 : Int) (l75 : List (List V)), r76 = [(.agg [(.int .i64 n72), (.str s73), (.int .i64 n74), (.sl 4 l75)])] ∧ (SCalls ax 14 [(.ptr 0 0), (.agg [(.int .i64 n28), (.str s29), (.int .i64 n30), (.sl 4 l31)]), (.agg [(.int .i64 n72), (.str s73), (.int .i64 n74), (.sl 4 l75)])] [(.box [(.own 1)]), (.lst 69 5 false l61)] fun r78 o80 => ∃ (x77 : Option Nat) (l79 : List (List V)), r78 = [(.err x77)] ∧ o80 = [(.box [(.own 1)]), (.lst 69 5 false l79)] ∧ (SCalls ax 16 [(.ptr 0 0), (.agg [(.int .i64 n21), (.str s22), (.int .i64 n23), (.sl 4 l24)])] [(.box [(.own 1)]), (.lst 69 5 false l79)] fun r94 o96 => ∃ (n89 : Int) (s90 : ByteArray) (n91 : Int) (l92 : List (List V)) (x93 : Option Nat) (l95 : List (List V)), r94 = [(.agg [(.int .i64 n89), (.str s90), (.int .i64 n91), (.sl 4 l92)]), (.err x93)] ∧ o96 = [(.box [(.own 1)]), (.lst 69 5 false l95)] ∧ (bif (Option.isNone x59) then (bif (errEq x77 (some 2)) then (bif (Option.isNone x93) then (bif (n89 == (1 : Int)) then (SCalls ax 19 [(.ptr 0 0)] [(.box [(.own 1)]), (.lst 69 5 false l95)] fun r98 o100 => ∃ (n97 : Int) (l99 : List (List V)), r98 = [(.int .i64 n97)] ∧ o100 = [(.box [(.own 1)]), (.lst 69 5 false l99)] ∧ (K [(.bool (n97 == (2 : Int)))])) else (K [(.bool false)])) else (K [(.bool false)])) else (K [(.bool false)])) else (K [(.bool false)])))))))))))))
set_option maxRecDepth 100000 in
theorem alive.eq  (K : List V → Prop) : alive.W  K = afn ax alive.ah Tryd.f8 [] [] (onlyV K) := by kernel_rfl
theorem alive.ok : codeOk tys (hintsOf alive.ah) Tryd.f8.ntmps (Tryd.f8.body.getD .skip) = true := by kernel_rfl
set_option maxHeartbeats 4000000 in
theorem alive.calls { K} (h : alive.W  K) : PCalls ax 8 [] K :=
  afn_run (ah := alive.ah) tysOk fnsOk follows eqOk Tryd.func8 (by kernel_rfl) alive.ok (by kernel_rfl) (Eq.mp (alive.eq  K) h)
/-! ### New: function 9, augur/unify.New -/
def New.ah : AH := ⟨[], [], [], [], [], [none], [], []⟩
set_option maxRecDepth 100000 in
def New.W  (K : List V → List Ob → Prop) : Prop :=
 (K [(.ptr 0 0)] [(.box [.nls])])
set_option maxRecDepth 100000 in
theorem New.eq  (K : List V → List Ob → Prop) : New.W  K = afn ax New.ah Tryd.f9 [] [] K := by kernel_rfl
theorem New.ok : codeOk tys (hintsOf New.ah) Tryd.f9.ntmps (Tryd.f9.body.getD .skip) = true := by kernel_rfl
set_option maxHeartbeats 4000000 in
theorem New.calls { K} (h : New.W  K) : SCalls ax 9 [] [] K :=
  afn_run (ah := New.ah) tysOk fnsOk follows eqOk Tryd.func9 (by kernel_rfl) New.ok (by kernel_rfl) (Eq.mp (New.eq  K) h)
/-! ### Fresh: function 11, (*augur/unify.Table).Fresh -/
def Fresh.ah : AH := ⟨[], [], [], [], [], [some [.int .i64, .str, .int .i64, .sl 4]], [], []⟩
set_option maxRecDepth 100000 in
def Fresh.W (L : List (List V)) (K : List V → List Ob → Prop) : Prop :=
 (((List.length L) + (List.length ([[(.int .i64 0), (.str (⟨#[]⟩ : ByteArray)), (.int .i64 0), (.sl 4 []), (.bool false)]] : List (List V)))) * 64 ≤ 140737488355328 ∧ (List.length L) + (List.length ([[(.int .i64 0), (.str (⟨#[]⟩ : ByteArray)), (.int .i64 0), (.sl 4 []), (.bool false)]] : List (List V))) ≤ 140737488355328 ∧ (K [(.agg [(.int .i64 4), (.str (⟨#[]⟩ : ByteArray)), (.int .i64 (IntKind.i64.wrap ((List.length (L ++ [[(.int .i64 0), (.str (⟨#[]⟩ : ByteArray)), (.int .i64 0), (.sl 4 []), (.bool false)]]) : Int) - 1))), (.sl 4 [])])] [(.box [(.own 2)]), .dead, (.lst 69 5 false (L ++ [[(.int .i64 0), (.str (⟨#[]⟩ : ByteArray)), (.int .i64 0), (.sl 4 []), (.bool false)]]))]))
set_option maxRecDepth 100000 in
theorem Fresh.eq (L : List (List V)) (K : List V → List Ob → Prop) : Fresh.W L K = afn ax Fresh.ah Tryd.f11 [(.ptr 0 0)] [(.box [(.own 1)]), (.lst 69 5 false L)] K := by kernel_rfl
theorem Fresh.ok : codeOk tys (hintsOf Fresh.ah) Tryd.f11.ntmps (Tryd.f11.body.getD .skip) = true := by kernel_rfl
set_option maxHeartbeats 4000000 in
theorem Fresh.calls {L K} (h : Fresh.W L K) : SCalls ax 11 [(.ptr 0 0)] [(.box [(.own 1)]), (.lst 69 5 false L)] K :=
  afn_run (ah := Fresh.ah) tysOk fnsOk follows eqOk Tryd.func11 (by kernel_rfl) Fresh.ok (by kernel_rfl) (Eq.mp (Fresh.eq L K) h)
/-! ### Len: function 19, (*augur/unify.Table).Len -/
def Len.ah : AH := ⟨[], [], [], [], [], [some [.int .i64]], [], []⟩
set_option maxRecDepth 100000 in
def Len.W (L : List (List V)) (K : List V → List Ob → Prop) : Prop :=
 (K [(.int .i64 (List.length L : Int))] [(.box [(.own 1)]), (.lst 69 5 false L)])
set_option maxRecDepth 100000 in
theorem Len.eq (L : List (List V)) (K : List V → List Ob → Prop) : Len.W L K = afn ax Len.ah Tryd.f19 [(.ptr 0 0)] [(.box [(.own 1)]), (.lst 69 5 false L)] K := by kernel_rfl
theorem Len.ok : codeOk tys (hintsOf Len.ah) Tryd.f19.ntmps (Tryd.f19.body.getD .skip) = true := by kernel_rfl
set_option maxHeartbeats 4000000 in
theorem Len.calls {L K} (h : Len.W L K) : SCalls ax 19 [(.ptr 0 0)] [(.box [(.own 1)]), (.lst 69 5 false L)] K :=
  afn_run (ah := Len.ah) tysOk fnsOk follows eqOk Tryd.func19 (by kernel_rfl) Len.ok (by kernel_rfl) (Eq.mp (Len.eq L K) h)
/-! ### known: function 51, (*augur/unify.Table).known -/
def known.ah : AH := ⟨[(6, seqO [0, 1, 2, 3, 4, 5, 6, 7, 8, 9, 10, 11, 12, 13])], [], [(4, ⟨[(7, [.d (.bool)], false)], [], [], []⟩)], [(63, ⟨[some [.sl 4], none], [.c (.bool)], [.box [.l (.ptr 1 0)], .box [.l (.own 2)], .lst 69 5 false]⟩)], [], [some [.bool]], [], []⟩
set_option maxRecDepth 100000 in
def known.W (n1 : Int) (_s2 : ByteArray) (n3 : Int) (l4 : List (List V)) (L : List (List V)) (K : List V → List Ob → Prop) : Prop :=
 (∃ J5 : List V → Prop, (bif (n1 == (1 : Int)) then
 (J5 [(.bool true)])
 else
 (J5 [(.bool (n1 == (3 : Int)))])) ∧
 (∀ (b6 : Bool), J5 [(.bool b6)] →
 (bif b6 then
 (K [(.bool true)] [(.box [(.own 1)]), (.lst 69 5 false L)])
 else
 (bif (n1 == (4 : Int)) then
 (bif (decide (n3 ≥ (0 : Int))) then (K [(.bool (decide (n3 < (List.length L : Int))))] [(.box [(.own 1)]), (.lst 69 5 false L)]) else (K [(.bool false)] [(.box [(.own 1)]), (.lst 69 5 false L)]))
 else
 (bif (n1 == (2 : Int)) then
 (SCalls ax 63 [(.sl 4 l4), (.fn 64 [] [(.ptr 0 0)])] [(.box [(.ptr 1 0)]), (.box [(.own 2)]), (.lst 69 5 false L)] fun r8 o10 => ∃ (b7 : Bool) (l9 : List (List V)), r8 = [(.bool b7)] ∧ o10 = [(.box [(.ptr 1 0)]), (.box [(.own 2)]), (.lst 69 5 false l9)] ∧ (K [(.bool (!b7))] [(.box [(.own 1)]), (.lst 69 5 false l9)]))
 else
 (K [(.bool false)] [(.box [(.own 1)]), (.lst 69 5 false L)]))))))
set_option maxRecDepth 100000 in
theorem known.eq (n1 : Int) (s2 : ByteArray) (n3 : Int) (l4 : List (List V)) (L : List (List V)) (K : List V → List Ob → Prop) : known.W n1 s2 n3 l4 L K = afn ax known.ah Tryd.f51 [(.ptr 0 0), (.agg [(.int .i64 n1), (.str s2), (.int .i64 n3), (.sl 4 l4)])] [(.box [(.own 1)]), (.lst 69 5 false L)] K := by kernel_rfl
theorem known.ok : codeOk tys (hintsOf known.ah) Tryd.f51.ntmps (Tryd.f51.body.getD .skip) = true := by kernel_rfl
set_option maxHeartbeats 4000000 in
theorem known.calls {n1 s2 n3 l4 L K} (h : known.W n1 s2 n3 l4 L K) : SCalls ax 51 [(.ptr 0 0), (.agg [(.int .i64 n1), (.str s2), (.int .i64 n3), (.sl 4 l4)])] [(.box [(.own 1)]), (.lst 69 5 false L)] K :=
  afn_run (ah := known.ah) tysOk fnsOk follows eqOk Tryd.func51 (by kernel_rfl) known.ok (by kernel_rfl) (Eq.mp (known.eq n1 s2 n3 l4 L K) h)
/-! ### known1: function 64, (*augur/unify.Table).known$1 -/
def known1.ah : AH := ⟨[], [], [], [(51, ⟨[none, some [.int .i64, .str, .int .i64, .sl 4]], [.c (.bool)], [.box [.l (.own 1)], .lst 69 5 false]⟩)], [], [some [.bool]], [], []⟩
set_option maxRecDepth 100000 in
def known1.W (n1 : Int) (s2 : ByteArray) (n3 : Int) (l4 : List (List V)) (L : List (List V)) (K : List V → List Ob → Prop) : Prop :=
 (SCalls ax 51 [(.ptr 0 0), (.agg [(.int .i64 n1), (.str s2), (.int .i64 n3), (.sl 4 l4)])] [(.box [(.own 1)]), (.lst 69 5 false L)] fun r6 o8 => ∃ (b5 : Bool) (l7 : List (List V)), r6 = [(.bool b5)] ∧ o8 = [(.box [(.own 1)]), (.lst 69 5 false l7)] ∧ (K [(.bool (!b5))] [(.box [(.ptr 1 0)]), (.box [(.own 2)]), (.lst 69 5 false l7)]))
set_option maxRecDepth 100000 in
theorem known1.eq (n1 : Int) (s2 : ByteArray) (n3 : Int) (l4 : List (List V)) (L : List (List V)) (K : List V → List Ob → Prop) : known1.W n1 s2 n3 l4 L K = afn ax known1.ah Tryd.f64 [(.agg [(.int .i64 n1), (.str s2), (.int .i64 n3), (.sl 4 l4)]), (.ptr 0 0)] [(.box [(.ptr 1 0)]), (.box [(.own 2)]), (.lst 69 5 false L)] K := by kernel_rfl
theorem known1.ok : codeOk tys (hintsOf known1.ah) Tryd.f64.ntmps (Tryd.f64.body.getD .skip) = true := by kernel_rfl
set_option maxHeartbeats 4000000 in
theorem known1.calls {n1 s2 n3 l4 L K} (h : known1.W n1 s2 n3 l4 L K) : SCalls ax 64 [(.agg [(.int .i64 n1), (.str s2), (.int .i64 n3), (.sl 4 l4)]), (.ptr 0 0)] [(.box [(.ptr 1 0)]), (.box [(.own 2)]), (.lst 69 5 false L)] K :=
  afn_run (ah := known1.ah) tysOk fnsOk follows eqOk Tryd.func64 (by kernel_rfl) known1.ok (by kernel_rfl) (Eq.mp (known1.eq n1 s2 n3 l4 L K) h)
/-! ### ContainsK: function 63, slices.ContainsFunc[[]augur/api.Type,augur/api.Type] -/
def ContainsK.ah : AH := ⟨[], [], [], [(71, ⟨[some [.sl 4], none], [.c (.int .i64)], [.box [.l (.ptr 1 0)], .box [.l (.own 2)], .lst 69 5 false]⟩)], [], [some [.bool]], [], []⟩
set_option maxRecDepth 100000 in
def ContainsK.W (l1 : List (List V)) (L : List (List V)) (K : List V → List Ob → Prop) : Prop :=
 (SCalls ax 71 [(.sl 4 l1), (.fn 64 [] [(.ptr 0 0)])] [(.box [(.ptr 1 0)]), (.box [(.own 2)]), (.lst 69 5 false L)] fun r3 o5 => ∃ (n2 : Int) (l4 : List (List V)), r3 = [(.int .i64 n2)] ∧ o5 = [(.box [(.ptr 1 0)]), (.box [(.own 2)]), (.lst 69 5 false l4)] ∧ (K [(.bool (decide (n2 ≥ (0 : Int))))] [(.box [(.ptr 1 0)]), (.box [(.own 2)]), (.lst 69 5 false l4)]))
set_option maxRecDepth 100000 in
theorem ContainsK.eq (l1 : List (List V)) (L : List (List V)) (K : List V → List Ob → Prop) : ContainsK.W l1 L K = afn ax ContainsK.ah Tryd.f63 [(.sl 4 l1), (.fn 64 [] [(.ptr 0 0)])] [(.box [(.ptr 1 0)]), (.box [(.own 2)]), (.lst 69 5 false L)] K := by kernel_rfl
theorem ContainsK.ok : codeOk tys (hintsOf ContainsK.ah) Tryd.f63.ntmps (Tryd.f63.body.getD .skip) = true := by kernel_rfl
set_option maxHeartbeats 4000000 in
theorem ContainsK.calls {l1 L K} (h : ContainsK.W l1 L K) : SCalls ax 63 [(.sl 4 l1), (.fn 64 [] [(.ptr 0 0)])] [(.box [(.ptr 1 0)]), (.box [(.own 2)]), (.lst 69 5 false L)] K :=
  afn_run (ah := ContainsK.ah) tysOk fnsOk follows eqOk Tryd.func63 (by kernel_rfl) ContainsK.ok (by kernel_rfl) (Eq.mp (ContainsK.eq l1 L K) h)
/-! ### IndexK: function 71, slices.IndexFunc[[]augur/api.Type,augur/api.Type] -/
def IndexK.ah : AH := ⟨[], [(2, ⟨[(8, [.d (.int .i64)], false)], [(0, [.l (.ptr 1 0)]), (1, [.l (.own 2)])], [(2, 69, 5, false)], []⟩)], [], [(64, ⟨[some [.int .i64, .str, .int .i64, .sl 4], none], [.c (.bool)], [.box [.l (.ptr 1 0)], .box [.l (.own 2)], .lst 69 5 false]⟩)], [], [some [.int .i64]], [], []⟩
set_option maxRecDepth 100000 in
def IndexK.W (l1 : List (List V)) (L : List (List V)) (K : List V → List Ob → Prop) : Prop :=
 (∃ (I21 : List V → Prop) (μ22 : List V → Nat), I21 [(.int .i64 0), (.sl 5 L)] ∧ (∀ (n23 : Int) (l24 : List (List V)), I21 [(.int .i64 n23), (.sl 5 l24)] →
 (bif (decide (n23 < (List.length l1 : Int))) then
 (0 ≤ n23 ∧ n23 < (List.length l1 : Int) ∧ (∃ (n25 : Int) (s26 : ByteArray) (n27 : Int) (l28 : List (List V)), List.take 4 (Av.rowAt l1 (n23 : Int).toNat) = [(.int .i64 n25), (.str s26), (.int .i64 n27), (.sl 4 l28)] ∧ (SCalls ax 64 [(.agg [(.int .i64 n25), (.str s26), (.int .i64 n27), (.sl 4 l28)]), (.ptr 0 0)] [(.box [(.ptr 1 0)]), (.box [(.own 2)]), (.lst 69 5 false l24)] fun r30 o32 => ∃ (b29 : Bool) (l31 : List (List V)), r30 = [(.bool b29)] ∧ o32 = [(.box [(.ptr 1 0)]), (.box [(.own 2)]), (.lst 69 5 false l31)] ∧ (bif b29 then
 (K [(.int .i64 n23)] [(.box [(.ptr 1 0)]), (.box [(.own 2)]), (.lst 69 5 false l31)])
 else
 (I21 [(.int .i64 (IntKind.i64.wrap (n23 + 1))), (.sl 5 l31)] ∧ μ22 [(.int .i64 (IntKind.i64.wrap (n23 + 1))), (.sl 5 l31)] < μ22 [(.int .i64 n23), (.sl 5 l24)])))))
 else
 (K [(.int .i64 (-1))] [(.box [(.ptr 1 0)]), (.box [(.own 2)]), (.lst 69 5 false l24)]))))
set_option maxRecDepth 100000 in
theorem IndexK.eq (l1 : List (List V)) (L : List (List V)) (K : List V → List Ob → Prop) : IndexK.W l1 L K = afn ax IndexK.ah Tryd.f71 [(.sl 4 l1), (.fn 64 [] [(.ptr 0 0)])] [(.box [(.ptr 1 0)]), (.box [(.own 2)]), (.lst 69 5 false L)] K := by kernel_rfl
theorem IndexK.ok : codeOk tys (hintsOf IndexK.ah) Tryd.f71.ntmps (Tryd.f71.body.getD .skip) = true := by kernel_rfl
set_option maxHeartbeats 4000000 in
theorem IndexK.calls {l1 L K} (h : IndexK.W l1 L K) : SCalls ax 71 [(.sl 4 l1), (.fn 64 [] [(.ptr 0 0)])] [(.box [(.ptr 1 0)]), (.box [(.own 2)]), (.lst 69 5 false L)] K :=
  afn_run (ah := IndexK.ah) tysOk fnsOk follows eqOk Tryd.func71 (by kernel_rfl) IndexK.ok (by kernel_rfl) (Eq.mp (IndexK.eq l1 L K) h)
/-! ### ContainsW: function 63, slices.ContainsFunc[[]augur/api.Type,augur/api.Type] -/
def ContainsW.ah : AH := ⟨[], [], [], [(71, ⟨[some [.sl 4], none], [.c (.int .i64)], [.box [.l (.ptr 1 0)], .box [.l (.own 2)], .lst 69 5 false, .box [.d (.int .i64)]]⟩)], [], [some [.bool]], [], []⟩
set_option maxRecDepth 100000 in
def ContainsW.W (l1 : List (List V)) (L : List (List V)) (vv : Int) (K : List V → List Ob → Prop) : Prop :=
 (SCalls ax 71 [(.sl 4 l1), (.fn 72 [] [(.ptr 0 0), (.ptr 3 0)])] [(.box [(.ptr 1 0)]), (.box [(.own 2)]), (.lst 69 5 false L), (.box [(.int .i64 vv)])] fun r3 o6 => ∃ (n2 : Int) (l4 : List (List V)) (n5 : Int), r3 = [(.int .i64 n2)] ∧ o6 = [(.box [(.ptr 1 0)]), (.box [(.own 2)]), (.lst 69 5 false l4), (.box [(.int .i64 n5)])] ∧ (K [(.bool (decide (n2 ≥ (0 : Int))))] [(.box [(.ptr 1 0)]), (.box [(.own 2)]), (.lst 69 5 false l4), (.box [(.int .i64 n5)])]))
set_option maxRecDepth 100000 in
theorem ContainsW.eq (l1 : List (List V)) (L : List (List V)) (vv : Int) (K : List V → List Ob → Prop) : ContainsW.W l1 L vv K = afn ax ContainsW.ah Tryd.f63 [(.sl 4 l1), (.fn 72 [] [(.ptr 0 0), (.ptr 3 0)])] [(.box [(.ptr 1 0)]), (.box [(.own 2)]), (.lst 69 5 false L), (.box [(.int .i64 vv)])] K := by kernel_rfl
theorem ContainsW.ok : codeOk tys (hintsOf ContainsW.ah) Tryd.f63.ntmps (Tryd.f63.body.getD .skip) = true := by kernel_rfl
set_option maxHeartbeats 4000000 in
theorem ContainsW.calls {l1 L vv K} (h : ContainsW.W l1 L vv K) : SCalls ax 63 [(.sl 4 l1), (.fn 72 [] [(.ptr 0 0), (.ptr 3 0)])] [(.box [(.ptr 1 0)]), (.box [(.own 2)]), (.lst 69 5 false L), (.box [(.int .i64 vv)])] K :=
  afn_run (ah := ContainsW.ah) tysOk fnsOk follows eqOk Tryd.func63 (by kernel_rfl) ContainsW.ok (by kernel_rfl) (Eq.mp (ContainsW.eq l1 L vv K) h)
/-! ### IndexW: function 71, slices.IndexFunc[[]augur/api.Type,augur/api.Type] -/
def IndexW.ah : AH := ⟨[], [(2, ⟨[(8, [.d (.int .i64)], false)], [(0, [.l (.ptr 1 0)]), (1, [.l (.own 2)]), (3, [.d (.int .i64)])], [(2, 69, 5, false)], []⟩)], [], [(72, ⟨[some [.int .i64, .str, .int .i64, .sl 4], none, none], [.c (.bool)], [.box [.l (.ptr 1 0)], .box [.l (.own 2)], .lst 69 5 false, .box [.d (.int .i64)]]⟩)], [], [some [.int .i64]], [], []⟩
set_option maxRecDepth 100000 in
def IndexW.W (l1 : List (List V)) (L : List (List V)) (vv : Int) (K : List V → List Ob → Prop) : Prop :=
 (∃ (I24 : List V → Prop) (μ25 : List V → Nat), I24 [(.int .i64 0), (.int .i64 vv), (.sl 5 L)] ∧ (∀ (n26 : Int) (n27 : Int) (l28 : List (List V)), I24 [(.int .i64 n26), (.int .i64 n27), (.sl 5 l28)] →
 (bif (decide (n26 < (List.length l1 : Int))) then
 (0 ≤ n26 ∧ n26 < (List.length l1 : Int) ∧ (∃ (n29 : Int) (s30 : ByteArray) (n31 : Int) (l32 : List (List V)), List.take 4 (Av.rowAt l1 (n26 : Int).toNat) = [(.int .i64 n29), (.str s30), (.int .i64 n31), (.sl 4 l32)] ∧ (SCalls ax 72 [(.agg [(.int .i64 n29), (.str s30), (.int .i64 n31), (.sl 4 l32)]), (.ptr 0 0), (.ptr 3 0)] [(.box [(.ptr 1 0)]), (.box [(.own 2)]), (.lst 69 5 false l28), (.box [(.int .i64 n27)])] fun r34 o37 => ∃ (b33 : Bool) (l35 : List (List V)) (n36 : Int), r34 = [(.bool b33)] ∧ o37 = [(.box [(.ptr 1 0)]), (.box [(.own 2)]), (.lst 69 5 false l35), (.box [(.int .i64 n36)])] ∧ (bif b33 then
 (K [(.int .i64 n26)] [(.box [(.ptr 1 0)]), (.box [(.own 2)]), (.lst 69 5 false l35), (.box [(.int .i64 n36)])])
 else
 (I24 [(.int .i64 (IntKind.i64.wrap (n26 + 1))), (.int .i64 n36), (.sl 5 l35)] ∧ μ25 [(.int .i64 (IntKind.i64.wrap (n26 + 1))), (.int .i64 n36), (.sl 5 l35)] < μ25 [(.int .i64 n26), (.int .i64 n27), (.sl 5 l28)])))))
 else
 (K [(.int .i64 (-1))] [(.box [(.ptr 1 0)]), (.box [(.own 2)]), (.lst 69 5 false l28), (.box [(.int .i64 n27)])]))))
set_option maxRecDepth 100000 in
theorem IndexW.eq (l1 : List (List V)) (L : List (List V)) (vv : Int) (K : List V → List Ob → Prop) : IndexW.W l1 L vv K = afn ax IndexW.ah Tryd.f71 [(.sl 4 l1), (.fn 72 [] [(.ptr 0 0), (.ptr 3 0)])] [(.box [(.ptr 1 0)]), (.box [(.own 2)]), (.lst 69 5 false L), (.box [(.int .i64 vv)])] K := by kernel_rfl
theorem IndexW.ok : codeOk tys (hintsOf IndexW.ah) Tryd.f71.ntmps (Tryd.f71.body.getD .skip) = true := by kernel_rfl
set_option maxHeartbeats 4000000 in
theorem IndexW.calls {l1 L vv K} (h : IndexW.W l1 L vv K) : SCalls ax 71 [(.sl 4 l1), (.fn 72 [] [(.ptr 0 0), (.ptr 3 0)])] [(.box [(.ptr 1 0)]), (.box [(.own 2)]), (.lst 69 5 false L), (.box [(.int .i64 vv)])] K :=
  afn_run (ah := IndexW.ah) tysOk fnsOk follows eqOk Tryd.func71 (by kernel_rfl) IndexW.ok (by kernel_rfl) (Eq.mp (IndexW.eq l1 L vv K) h)
/-! ### within: function 65, (*augur/unify.Table).within -/
def within.ah : AH := ⟨[], [], [], [(53, ⟨[none, some [.int .i64, .str, .int .i64, .sl 4]], [.ag [.int .i64, .str, .int .i64, .sl 4]], [.box [.l (.own 1)], .lst 69 5 false]⟩), (63, ⟨[some [.sl 4], none], [.c (.bool)], [.box [.l (.ptr 1 0)], .box [.l (.own 2)], .lst 69 5 false, .box [.d (.int .i64)]]⟩)], [], [some [.bool]], [], []⟩
set_option maxRecDepth 100000 in
def within.W (n1 : Int) (n2 : Int) (s3 : ByteArray) (n4 : Int) (l5 : List (List V)) (L : List (List V)) (K : List V → List Ob → Prop) : Prop :=
 (SCalls ax 53 [(.ptr 0 0), (.agg [(.int .i64 n2), (.str s3), (.int .i64 n4), (.sl 4 l5)])] [(.box [(.own 1)]), (.lst 69 5 false L)] fun r17 o19 => ∃ (n13 : Int) (s14 : ByteArray) (n15 : Int) (l16 : List (List V)) (l18 : List (List V)), r17 = [(.agg [(.int .i64 n13), (.str s14), (.int .i64 n15), (.sl 4 l16)])] ∧ o19 = [(.box [(.own 1)]), (.lst 69 5 false l18)] ∧ (bif (n13 == (4 : Int)) then
 (K [(.bool (n15 == n1))] [(.box [(.own 1)]), (.lst 69 5 false l18)])
 else
 (bif (n13 == (2 : Int)) then (SCalls ax 63 [(.sl 4 l16), (.fn 72 [] [(.ptr 0 0), (.ptr 3 0)])] [(.box [(.ptr 1 0)]), (.box [(.own 2)]), (.lst 69 5 false l18), (.box [(.int .i64 n1)])] fun r21 o24 => ∃ (b20 : Bool) (l22 : List (List V)) (n23 : Int), r21 = [(.bool b20)] ∧ o24 = [(.box [(.ptr 1 0)]), (.box [(.own 2)]), (.lst 69 5 false l22), (.box [(.int .i64 n23)])] ∧ (K [(.bool b20)] [(.box [(.own 1)]), (.lst 69 5 false l22)])) else (K [(.bool false)] [(.box [(.own 1)]), (.lst 69 5 false l18)]))))
set_option maxRecDepth 100000 in
theorem within.eq (n1 : Int) (n2 : Int) (s3 : ByteArray) (n4 : Int) (l5 : List (List V)) (L : List (List V)) (K : List V → List Ob → Prop) : within.W n1 n2 s3 n4 l5 L K = afn ax within.ah Tryd.f65 [(.ptr 0 0), (.int .i64 n1), (.agg [(.int .i64 n2), (.str s3), (.int .i64 n4), (.sl 4 l5)])] [(.box [(.own 1)]), (.lst 69 5 false L)] K := by kernel_rfl
theorem within.ok : codeOk tys (hintsOf within.ah) Tryd.f65.ntmps (Tryd.f65.body.getD .skip) = true := by kernel_rfl
set_option maxHeartbeats 4000000 in
theorem within.calls {n1 n2 s3 n4 l5 L K} (h : within.W n1 n2 s3 n4 l5 L K) : SCalls ax 65 [(.ptr 0 0), (.int .i64 n1), (.agg [(.int .i64 n2), (.str s3), (.int .i64 n4), (.sl 4 l5)])] [(.box [(.own 1)]), (.lst 69 5 false L)] K :=
  afn_run (ah := within.ah) tysOk fnsOk follows eqOk Tryd.func65 (by kernel_rfl) within.ok (by kernel_rfl) (Eq.mp (within.eq n1 n2 s3 n4 l5 L K) h)
/-! ### within1: function 72, (*augur/unify.Table).within$1 -/
def within1.ah : AH := ⟨[], [], [], [(65, ⟨[none, some [.int .i64], some [.int .i64, .str, .int .i64, .sl 4]], [.c (.bool)], [.box [.l (.own 1)], .lst 69 5 false]⟩)], [], [some [.bool]], [], []⟩
set_option maxRecDepth 100000 in
def within1.W (n1 : Int) (s2 : ByteArray) (n3 : Int) (l4 : List (List V)) (L : List (List V)) (vv : Int) (K : List V → List Ob → Prop) : Prop :=
 (SCalls ax 65 [(.ptr 0 0), (.int .i64 vv), (.agg [(.int .i64 n1), (.str s2), (.int .i64 n3), (.sl 4 l4)])] [(.box [(.own 1)]), (.lst 69 5 false L)] fun r6 o8 => ∃ (b5 : Bool) (l7 : List (List V)), r6 = [(.bool b5)] ∧ o8 = [(.box [(.own 1)]), (.lst 69 5 false l7)] ∧ (K [(.bool b5)] [(.box [(.ptr 1 0)]), (.box [(.own 2)]), (.lst 69 5 false l7), (.box [(.int .i64 vv)])]))
set_option maxRecDepth 100000 in
theorem within1.eq (n1 : Int) (s2 : ByteArray) (n3 : Int) (l4 : List (List V)) (L : List (List V)) (vv : Int) (K : List V → List Ob → Prop) : within1.W n1 s2 n3 l4 L vv K = afn ax within1.ah Tryd.f72 [(.agg [(.int .i64 n1), (.str s2), (.int .i64 n3), (.sl 4 l4)]), (.ptr 0 0), (.ptr 3 0)] [(.box [(.ptr 1 0)]), (.box [(.own 2)]), (.lst 69 5 false L), (.box [(.int .i64 vv)])] K := by kernel_rfl
theorem within1.ok : codeOk tys (hintsOf within1.ah) Tryd.f72.ntmps (Tryd.f72.body.getD .skip) = true := by kernel_rfl
set_option maxHeartbeats 4000000 in
theorem within1.calls {n1 s2 n3 l4 L vv K} (h : within1.W n1 s2 n3 l4 L vv K) : SCalls ax 72 [(.agg [(.int .i64 n1), (.str s2), (.int .i64 n3), (.sl 4 l4)]), (.ptr 0 0), (.ptr 3 0)] [(.box [(.ptr 1 0)]), (.box [(.own 2)]), (.lst 69 5 false L), (.box [(.int .i64 vv)])] K :=
  afn_run (ah := within1.ah) tysOk fnsOk follows eqOk Tryd.func72 (by kernel_rfl) within1.ok (by kernel_rfl) (Eq.mp (within1.eq n1 s2 n3 l4 L vv K) h)
/-! ### take: function 33, (*augur/unify.Table).take -/
def take.ah : AH := ⟨[], [(2, ⟨[(11, [.d (.int .i64)], false)], [(0, [.l (.own 1)])], [(1, 69, 5, false)], []⟩), (8, ⟨[(23, [.d (.int .i64)], false)], [], [], []⟩)], [], [(51, ⟨[none, some [.int .i64, .str, .int .i64, .sl 4]], [.c (.bool)], [.box [.l (.own 1)], .lst 69 5 false]⟩), (52, ⟨[some [.int .i64, .str, .int .i64, .sl 4]], [.c (.int .i64)], []⟩)], [], [some [.err]], [], []⟩
set_option maxRecDepth 100000 in
def take.W (l1 : List (List V)) (L : List (List V)) (K : List V → List Ob → Prop) : Prop :=
 (∃ (I52 : List V → Prop) (μ53 : List V → Nat), I52 [(.int .i64 0), (.sl 5 L)] ∧ (∀ (n54 : Int) (l55 : List (List V)), I52 [(.int .i64 n54), (.sl 5 l55)] →
 (bif (decide (n54 < (List.length l1 : Int))) then
 (0 ≤ n54 ∧ n54 < (List.length l1 : Int) ∧ (∃ (n56 : Int) (s57 : ByteArray) (n58 : Int) (l59 : List (List V)), List.take 4 (Av.rowAt l1 (n54 : Int).toNat) = [(.int .i64 n56), (.str s57), (.int .i64 n58), (.sl 4 l59)] ∧ (SCalls ax 51 [(.ptr 0 0), (.agg [(.int .i64 n56), (.str s57), (.int .i64 n58), (.sl 4 l59)])] [(.box [(.own 1)]), (.lst 69 5 false l55)] fun r61 o63 => ∃ (b60 : Bool) (l62 : List (List V)), r61 = [(.bool b60)] ∧ o63 = [(.box [(.own 1)]), (.lst 69 5 false l62)] ∧ (bif (!b60) then
 (K [(.err (some 1))] [(.box [(.own 1)]), (.lst 69 5 false l62)])
 else
 (I52 [(.int .i64 (IntKind.i64.wrap (n54 + 1))), (.sl 5 l62)] ∧ μ53 [(.int .i64 (IntKind.i64.wrap (n54 + 1))), (.sl 5 l62)] < μ53 [(.int .i64 n54), (.sl 5 l55)])))))
 else
 (∃ (I71 : List V → Prop) (μ72 : List V → Nat), I71 [(.int .i64 0)] ∧ (∀ (n73 : Int), I71 [(.int .i64 n73)] →
 (bif (decide (n73 < (List.length l1 : Int))) then
 (0 ≤ n73 ∧ n73 < (List.length l1 : Int) ∧ (∃ (n74 : Int) (s75 : ByteArray) (n76 : Int) (l77 : List (List V)), List.take 4 (Av.rowAt l1 (n73 : Int).toNat) = [(.int .i64 n74), (.str s75), (.int .i64 n76), (.sl 4 l77)] ∧ (PCalls ax 52 [(.agg [(.int .i64 n74), (.str s75), (.int .i64 n76), (.sl 4 l77)])] fun r79 => ∃ (n78 : Int), r79 = [(.int .i64 n78)] ∧ (bif (decide (n78 > (200 : Int))) then
 (K [(.err (some 0))] [(.box [(.own 1)]), (.lst 69 5 false l55)])
 else
 (I71 [(.int .i64 (IntKind.i64.wrap (n73 + 1)))] ∧ μ72 [(.int .i64 (IntKind.i64.wrap (n73 + 1)))] < μ72 [(.int .i64 n73)])))))
 else
 (K [(.err none)] [(.box [(.own 1)]), (.lst 69 5 false l55)])))))))
set_option maxRecDepth 100000 in
theorem take.eq (l1 : List (List V)) (L : List (List V)) (K : List V → List Ob → Prop) : take.W l1 L K = afn ax take.ah Tryd.f33 [(.ptr 0 0), (.sl 4 l1)] [(.box [(.own 1)]), (.lst 69 5 false L)] K := by kernel_rfl
theorem take.ok : codeOk tys (hintsOf take.ah) Tryd.f33.ntmps (Tryd.f33.body.getD .skip) = true := by kernel_rfl
set_option maxHeartbeats 4000000 in
theorem take.calls {l1 L K} (h : take.W l1 L K) : SCalls ax 33 [(.ptr 0 0), (.sl 4 l1)] [(.box [(.own 1)]), (.lst 69 5 false L)] K :=
  afn_run (ah := take.ah) tysOk fnsOk follows eqOk Tryd.func33 (by kernel_rfl) take.ok (by kernel_rfl) (Eq.mp (take.eq l1 L K) h)
/-! ### head: function 53, (*augur/unify.Table).head -/
def head.ah : AH := ⟨[(1, seqO [0, 1, 2, 3, 4, 5, 6, 7, 8, 9, 10, 11, 12, 13]), (2, seqO [0, 1, 2, 3, 4, 5, 6, 7, 8, 9])], [(1, ⟨[], [(2, [.d (.int .i64), .d (.str), .d (.int .i64), .d (.sl 4)])], [], []⟩)], [], [], [], [some [.int .i64, .str, .int .i64, .sl 4]], [], []⟩
set_option maxRecDepth 100000 in
def head.W (n1 : Int) (s2 : ByteArray) (n3 : Int) (l4 : List (List V)) (L : List (List V)) (K : List V → List Ob → Prop) : Prop :=
 (∃ (I19 : List V → Prop) (μ20 : List V → Nat), I19 [(.int .i64 n1), (.str s2), (.int .i64 n3), (.sl 4 l4)] ∧ (∀ (n21 : Int) (s22 : ByteArray) (n23 : Int) (l24 : List (List V)), I19 [(.int .i64 n21), (.str s22), (.int .i64 n23), (.sl 4 l24)] →
 (bif (n21 == (4 : Int)) then (0 ≤ n23 ∧ n23 < (List.length L : Int) ∧ (∃ (b25 : Bool), List.take 1 (List.drop 4 (Av.rowAt L ((n23 : Int).toNat))) = [(.bool b25)] ∧ (bif b25 then
 (0 ≤ n23 ∧ n23 < (List.length L : Int) ∧ (∃ (n26 : Int) (s27 : ByteArray) (n28 : Int) (l29 : List (List V)), List.take 4 (Av.rowAt L ((n23 : Int).toNat)) = [(.int .i64 n26), (.str s27), (.int .i64 n28), (.sl 4 l29)] ∧ (I19 [(.int .i64 n26), (.str s27), (.int .i64 n28), (.sl 4 l29)] ∧ μ20 [(.int .i64 n26), (.str s27), (.int .i64 n28), (.sl 4 l29)] < μ20 [(.int .i64 n21), (.str s22), (.int .i64 n23), (.sl 4 l24)])))
 else
 (K [(.agg [(.int .i64 n21), (.str s22), (.int .i64 n23), (.sl 4 l24)])] [(.box [(.own 1)]), (.lst 69 5 false L)])))) else (K [(.agg [(.int .i64 n21), (.str s22), (.int .i64 n23), (.sl 4 l24)])] [(.box [(.own 1)]), (.lst 69 5 false L)]))))
set_option maxRecDepth 100000 in
theorem head.eq (n1 : Int) (s2 : ByteArray) (n3 : Int) (l4 : List (List V)) (L : List (List V)) (K : List V → List Ob → Prop) : head.W n1 s2 n3 l4 L K = afn ax head.ah Tryd.f53 [(.ptr 0 0), (.agg [(.int .i64 n1), (.str s2), (.int .i64 n3), (.sl 4 l4)])] [(.box [(.own 1)]), (.lst 69 5 false L)] K := by kernel_rfl
theorem head.ok : codeOk tys (hintsOf head.ah) Tryd.f53.ntmps (Tryd.f53.body.getD .skip) = true := by kernel_rfl
set_option maxHeartbeats 4000000 in
theorem head.calls {n1 s2 n3 l4 L K} (h : head.W n1 s2 n3 l4 L K) : SCalls ax 53 [(.ptr 0 0), (.agg [(.int .i64 n1), (.str s2), (.int .i64 n3), (.sl 4 l4)])] [(.box [(.own 1)]), (.lst 69 5 false L)] K :=
  afn_run (ah := head.ah) tysOk fnsOk follows eqOk Tryd.func53 (by kernel_rfl) head.ok (by kernel_rfl) (Eq.mp (head.eq n1 s2 n3 l4 L K) h)
/-! ### nodes: function 39, (*augur/unify.Table).nodes -/
def nodes.ah : AH := ⟨[(1, seqO [0, 1, 2, 3, 4, 5, 6, 7, 8, 9, 10, 11, 12, 13]), (2, seqO [0, 1, 2, 3, 4, 5, 6, 7, 8, 9])], [(1, ⟨[], [(2, [.d (.int .i64), .d (.str), .d (.int .i64), .d (.sl 4)])], [], []⟩), (7, ⟨[(2, [.d (.int .i64)], false), (41, [.d (.int .i64)], false)], [(0, [.l (.own 1)])], [(1, 69, 5, false)], []⟩)], [(3, ⟨[], [(2, [.d (.int .i64), .d (.str), .d (.int .i64), .d (.sl 4)])], [], []⟩)], [(39, ⟨[none, some [.int .i64, .str, .int .i64, .sl 4], some [.int .i64]], [.c (.int .i64)], [.box [.l (.own 1)], .lst 69 5 false]⟩)], [], [some [.int .i64]], [], []⟩
set_option maxRecDepth 100000 in
def nodes.W (n1 : Int) (s2 : ByteArray) (n3 : Int) (l4 : List (List V)) (n5 : Int) (L : List (List V)) (K : List V → List Ob → Prop) : Prop :=
 (∃ J31 : List V → Prop, (∃ (I46 : List V → Prop) (μ47 : List V → Nat), I46 [(.int .i64 n1), (.str s2), (.int .i64 n3), (.sl 4 l4)] ∧ (∀ (n48 : Int) (s49 : ByteArray) (n50 : Int) (l51 : List (List V)), I46 [(.int .i64 n48), (.str s49), (.int .i64 n50), (.sl 4 l51)] →
 (bif (n48 == (4 : Int)) then (0 ≤ n50 ∧ n50 < (List.length L : Int) ∧ (∃ (b52 : Bool), List.take 1 (List.drop 4 (Av.rowAt L ((n50 : Int).toNat))) = [(.bool b52)] ∧ (bif b52 then
 (0 ≤ n50 ∧ n50 < (List.length L : Int) ∧ (∃ (n53 : Int) (s54 : ByteArray) (n55 : Int) (l56 : List (List V)), List.take 4 (Av.rowAt L ((n50 : Int).toNat)) = [(.int .i64 n53), (.str s54), (.int .i64 n55), (.sl 4 l56)] ∧ (I46 [(.int .i64 n53), (.str s54), (.int .i64 n55), (.sl 4 l56)] ∧ μ47 [(.int .i64 n53), (.str s54), (.int .i64 n55), (.sl 4 l56)] < μ47 [(.int .i64 n48), (.str s49), (.int .i64 n50), (.sl 4 l51)])))
 else
 (J31 [(.int .i64 n48), (.str s49), (.int .i64 n50), (.sl 4 l51)])))) else (J31 [(.int .i64 n48), (.str s49), (.int .i64 n50), (.sl 4 l51)])))) ∧
 (∀ (n57 : Int) (s58 : ByteArray) (n59 : Int) (l60 : List (List V)), J31 [(.int .i64 n57), (.str s58), (.int .i64 n59), (.sl 4 l60)] →
 (bif (n57 != (2 : Int)) then
 (K [(.int .i64 (IntKind.i64.wrap (n5 - 1)))] [(.box [(.own 1)]), (.lst 69 5 false L)])
 else
 (∃ (I82 : List V → Prop) (μ83 : List V → Nat), I82 [(.int .i64 (IntKind.i64.wrap (n5 - 1))), (.int .i64 0), (.sl 5 L)] ∧ (∀ (n84 : Int) (n85 : Int) (l86 : List (List V)), I82 [(.int .i64 n84), (.int .i64 n85), (.sl 5 l86)] →
 (bif (decide (n85 < (List.length l60 : Int))) then
 (0 ≤ n85 ∧ n85 < (List.length l60 : Int) ∧ (∃ (n87 : Int) (s88 : ByteArray) (n89 : Int) (l90 : List (List V)), List.take 4 (Av.rowAt l60 (n85 : Int).toNat) = [(.int .i64 n87), (.str s88), (.int .i64 n89), (.sl 4 l90)] ∧ (bif (decide (n84 < (0 : Int))) then
 (K [(.int .i64 n84)] [(.box [(.own 1)]), (.lst 69 5 false l86)])
 else
 (SCalls ax 39 [(.ptr 0 0), (.agg [(.int .i64 n87), (.str s88), (.int .i64 n89), (.sl 4 l90)]), (.int .i64 n84)] [(.box [(.own 1)]), (.lst 69 5 false l86)] fun r92 o94 => ∃ (n91 : Int) (l93 : List (List V)), r92 = [(.int .i64 n91)] ∧ o94 = [(.box [(.own 1)]), (.lst 69 5 false l93)] ∧ (I82 [(.int .i64 n91), (.int .i64 (IntKind.i64.wrap (n85 + 1))), (.sl 5 l93)] ∧ μ83 [(.int .i64 n91), (.int .i64 (IntKind.i64.wrap (n85 + 1))), (.sl 5 l93)] < μ83 [(.int .i64 n84), (.int .i64 n85), (.sl 5 l86)])))))
 else
 (K [(.int .i64 n84)] [(.box [(.own 1)]), (.lst 69 5 false l86)])))))))
set_option maxRecDepth 100000 in
theorem nodes.eq (n1 : Int) (s2 : ByteArray) (n3 : Int) (l4 : List (List V)) (n5 : Int) (L : List (List V)) (K : List V → List Ob → Prop) : nodes.W n1 s2 n3 l4 n5 L K = afn ax nodes.ah Tryd.f39 [(.ptr 0 0), (.agg [(.int .i64 n1), (.str s2), (.int .i64 n3), (.sl 4 l4)]), (.int .i64 n5)] [(.box [(.own 1)]), (.lst 69 5 false L)] K := by kernel_rfl
theorem nodes.ok : codeOk tys (hintsOf nodes.ah) Tryd.f39.ntmps (Tryd.f39.body.getD .skip) = true := by kernel_rfl
set_option maxHeartbeats 4000000 in
theorem nodes.calls {n1 s2 n3 l4 n5 L K} (h : nodes.W n1 s2 n3 l4 n5 L K) : SCalls ax 39 [(.ptr 0 0), (.agg [(.int .i64 n1), (.str s2), (.int .i64 n3), (.sl 4 l4)]), (.int .i64 n5)] [(.box [(.own 1)]), (.lst 69 5 false L)] K :=
  afn_run (ah := nodes.ah) tysOk fnsOk follows eqOk Tryd.func39 (by kernel_rfl) nodes.ok (by kernel_rfl) (Eq.mp (nodes.eq n1 s2 n3 l4 n5 L K) h)
/-! ### resolve: function 40, (*augur/unify.Table).resolve -/
def resolve.ah : AH := ⟨[(9, seqO [0, 1, 2, 3, 4, 5, 6, 7, 8])], [(7, ⟨[(22, [.d (.int .i64)], false)], [(0, [.l (.own 1)]), (4, [.d (.int .i64), .d (.str), .d (.int .i64), .nw 32 4 false])], [(1, 69, 5, false)], []⟩)], [], [(40, ⟨[none, some [.int .i64, .str, .int .i64, .sl 4]], [.ag [.int .i64, .str, .int .i64, .sl 4]], [.box [.l (.own 1)], .lst 69 5 false]⟩), (53, ⟨[none, some [.int .i64, .str, .int .i64, .sl 4]], [.ag [.int .i64, .str, .int .i64, .sl 4]], [.box [.l (.own 1)], .lst 69 5 false]⟩)], [], [some [.int .i64, .str, .int .i64, .sl 4]], [], []⟩
set_option maxRecDepth 100000 in
def resolve.W (n1 : Int) (s2 : ByteArray) (n3 : Int) (l4 : List (List V)) (L : List (List V)) (K : List V → List Ob → Prop) : Prop :=
 (SCalls ax 53 [(.ptr 0 0), (.agg [(.int .i64 n1), (.str s2), (.int .i64 n3), (.sl 4 l4)])] [(.box [(.own 1)]), (.lst 69 5 false L)] fun r16 o18 => ∃ (n12 : Int) (s13 : ByteArray) (n14 : Int) (l15 : List (List V)) (l17 : List (List V)), r16 = [(.agg [(.int .i64 n12), (.str s13), (.int .i64 n14), (.sl 4 l15)])] ∧ o18 = [(.box [(.own 1)]), (.lst 69 5 false l17)] ∧ (bif (n12 != (2 : Int)) then
 (K [(.agg [(.int .i64 n12), (.str s13), (.int .i64 n14), (.sl 4 [])])] [(.box [(.own 1)]), (.lst 69 5 false l17)])
 else
 (∃ (I48 : List V → Prop) (μ49 : List V → Nat), I48 [(.int .i64 0), (.int .i64 2), (.str s13), (.int .i64 0), (.sl 4 []), (.sl 5 l17)] ∧ (∀ (n50 : Int) (n51 : Int) (s52 : ByteArray) (n53 : Int) (l54 : List (List V)) (l55 : List (List V)), I48 [(.int .i64 n50), (.int .i64 n51), (.str s52), (.int .i64 n53), (.sl 4 l54), (.sl 5 l55)] →
 (bif (decide (n50 < (List.length l15 : Int))) then
 (0 ≤ n50 ∧ n50 < (List.length l15 : Int) ∧ (∃ (n56 : Int) (s57 : ByteArray) (n58 : Int) (l59 : List (List V)), List.take 4 (Av.rowAt l15 (n50 : Int).toNat) = [(.int .i64 n56), (.str s57), (.int .i64 n58), (.sl 4 l59)] ∧ (SCalls ax 40 [(.ptr 0 0), (.agg [(.int .i64 n56), (.str s57), (.int .i64 n58), (.sl 4 l59)])] [(.box [(.own 1)]), (.lst 69 5 false l55)] fun r64 o66 => ∃ (n60 : Int) (s61 : ByteArray) (n62 : Int) (l63 : List (List V)) (l65 : List (List V)), r64 = [(.agg [(.int .i64 n60), (.str s61), (.int .i64 n62), (.sl 4 l63)])] ∧ o66 = [(.box [(.own 1)]), (.lst 69 5 false l65)] ∧ (((List.length l54) + (List.length ([[(.int .i64 n60), (.str s61), (.int .i64 n62), (.sl 4 l63)]] : List (List V)))) * 56 ≤ 140737488355328 ∧ (List.length l54) + (List.length ([[(.int .i64 n60), (.str s61), (.int .i64 n62), (.sl 4 l63)]] : List (List V))) ≤ 140737488355328 ∧ (I48 [(.int .i64 (IntKind.i64.wrap (n50 + 1))), (.int .i64 n51), (.str s52), (.int .i64 n53), (.sl 4 (l54 ++ [[(.int .i64 n60), (.str s61), (.int .i64 n62), (.sl 4 l63)]])), (.sl 5 l65)] ∧ μ49 [(.int .i64 (IntKind.i64.wrap (n50 + 1))), (.int .i64 n51), (.str s52), (.int .i64 n53), (.sl 4 (l54 ++ [[(.int .i64 n60), (.str s61), (.int .i64 n62), (.sl 4 l63)]])), (.sl 5 l65)] < μ49 [(.int .i64 n50), (.int .i64 n51), (.str s52), (.int .i64 n53), (.sl 4 l54), (.sl 5 l55)])))))
 else
 (K [(.agg [(.int .i64 n51), (.str s52), (.int .i64 n53), (.sl 4 l54)])] [(.box [(.own 1)]), (.lst 69 5 false l55)]))))))
set_option maxRecDepth 100000 in
theorem resolve.eq (n1 : Int) (s2 : ByteArray) (n3 : Int) (l4 : List (List V)) (L : List (List V)) (K : List V → List Ob → Prop) : resolve.W n1 s2 n3 l4 L K = afn ax resolve.ah Tryd.f40 [(.ptr 0 0), (.agg [(.int .i64 n1), (.str s2), (.int .i64 n3), (.sl 4 l4)])] [(.box [(.own 1)]), (.lst 69 5 false L)] K := by kernel_rfl
theorem resolve.ok : codeOk tys (hintsOf resolve.ah) Tryd.f40.ntmps (Tryd.f40.body.getD .skip) = true := by kernel_rfl
set_option maxHeartbeats 4000000 in
theorem resolve.calls {n1 s2 n3 l4 L K} (h : resolve.W n1 s2 n3 l4 L K) : SCalls ax 40 [(.ptr 0 0), (.agg [(.int .i64 n1), (.str s2), (.int .i64 n3), (.sl 4 l4)])] [(.box [(.own 1)]), (.lst 69 5 false L)] K :=
  afn_run (ah := resolve.ah) tysOk fnsOk follows eqOk Tryd.func40 (by kernel_rfl) resolve.ok (by kernel_rfl) (Eq.mp (resolve.eq n1 s2 n3 l4 L K) h)
/-! ### bind: function 54, (*augur/unify.Table).bind -/
def bind.ah : AH := ⟨[(3, seqO [0, 1, 2, 3, 4, 5, 6, 7, 8])], [(5, ⟨[(26, [.d (.int .i64)], false)], [(0, [.l (.own 1)])], [(1, 69, 5, false)], []⟩)], [], [(39, ⟨[none, some [.int .i64, .str, .int .i64, .sl 4], some [.int .i64]], [.c (.int .i64)], [.box [.l (.own 1)], .lst 69 5 false]⟩), (65, ⟨[none, some [.int .i64], some [.int .i64, .str, .int .i64, .sl 4]], [.c (.bool)], [.box [.l (.own 1)], .lst 69 5 false]⟩)], [], [some [.err]], [], []⟩
set_option maxRecDepth 100000 in
def bind.W (n1 : Int) (n2 : Int) (s3 : ByteArray) (n4 : Int) (l5 : List (List V)) (L : List (List V)) (K : List V → List Ob → Prop) : Prop :=
 (SCalls ax 65 [(.ptr 0 0), (.int .i64 n1), (.agg [(.int .i64 n2), (.str s3), (.int .i64 n4), (.sl 4 l5)])] [(.box [(.own 1)]), (.lst 69 5 false L)] fun r11 o13 => ∃ (b10 : Bool) (l12 : List (List V)), r11 = [(.bool b10)] ∧ o13 = [(.box [(.own 1)]), (.lst 69 5 false l12)] ∧ (bif b10 then
 (K [(.err (some 2))] [(.box [(.own 1)]), (.lst 69 5 false l12)])
 else
 (0 ≤ n1 ∧ n1 < (List.length l12 : Int) ∧ (((n1 : Int).toNat) < List.length l12 ∧ (∃ (I25 : List V → Prop) (μ26 : List V → Nat), I25 [(.int .i64 0), (.sl 5 (List.set l12 ((n1 : Int).toNat) [(.int .i64 n2), (.str s3), (.int .i64 n4), (.sl 4 l5), (.bool true)]))] ∧ (∀ (n27 : Int) (l28 : List (List V)), I25 [(.int .i64 n27), (.sl 5 l28)] →
 (bif (decide (n27 < (List.length (List.set l12 ((n1 : Int).toNat) [(.int .i64 n2), (.str s3), (.int .i64 n4), (.sl 4 l5), (.bool true)]) : Int))) then
 (SCalls ax 39 [(.ptr 0 0), (.agg [(.int .i64 4), (.str (⟨#[]⟩ : ByteArray)), (.int .i64 n27), (.sl 4 [])]), (.int .i64 200)] [(.box [(.own 1)]), (.lst 69 5 false l28)] fun r30 o32 => ∃ (n29 : Int) (l31 : List (List V)), r30 = [(.int .i64 n29)] ∧ o32 = [(.box [(.own 1)]), (.lst 69 5 false l31)] ∧ (bif (decide (n29 < (0 : Int))) then
 (0 ≤ n1 ∧ n1 < (List.length l31 : Int) ∧ (((n1 : Int).toNat) < List.length l31 ∧ (K [(.err (some 0))] [(.box [(.own 1)]), (.lst 69 5 false (List.set l31 ((n1 : Int).toNat) [(.int .i64 0), (.str (⟨#[]⟩ : ByteArray)), (.int .i64 0), (.sl 4 []), (.bool false)]))])))
 else
 (I25 [(.int .i64 (IntKind.i64.wrap (n27 + 1))), (.sl 5 l31)] ∧ μ26 [(.int .i64 (IntKind.i64.wrap (n27 + 1))), (.sl 5 l31)] < μ26 [(.int .i64 n27), (.sl 5 l28)])))
 else
 (K [(.err none)] [(.box [(.own 1)]), (.lst 69 5 false l28)]))))))))
set_option maxRecDepth 100000 in
theorem bind.eq (n1 : Int) (n2 : Int) (s3 : ByteArray) (n4 : Int) (l5 : List (List V)) (L : List (List V)) (K : List V → List Ob → Prop) : bind.W n1 n2 s3 n4 l5 L K = afn ax bind.ah Tryd.f54 [(.ptr 0 0), (.int .i64 n1), (.agg [(.int .i64 n2), (.str s3), (.int .i64 n4), (.sl 4 l5)])] [(.box [(.own 1)]), (.lst 69 5 false L)] K := by kernel_rfl
theorem bind.ok : codeOk tys (hintsOf bind.ah) Tryd.f54.ntmps (Tryd.f54.body.getD .skip) = true := by kernel_rfl
set_option maxHeartbeats 4000000 in
theorem bind.calls {n1 n2 s3 n4 l5 L K} (h : bind.W n1 n2 s3 n4 l5 L K) : SCalls ax 54 [(.ptr 0 0), (.int .i64 n1), (.agg [(.int .i64 n2), (.str s3), (.int .i64 n4), (.sl 4 l5)])] [(.box [(.own 1)]), (.lst 69 5 false L)] K :=
  afn_run (ah := bind.ah) tysOk fnsOk follows eqOk Tryd.func54 (by kernel_rfl) bind.ok (by kernel_rfl) (Eq.mp (bind.eq n1 n2 s3 n4 l5 L K) h)
/-! ### unify: function 34, (*augur/unify.Table).unify -/
def unify.ah : AH := ⟨[(1, seqO [0, 1, 3, 4, 2, 5, 6, 7]), (16, seqO [0, 1, 2, 3, 4, 5, 6, 7, 8, 9, 10, 11, 12])], [(14, ⟨[(102, [.d (.int .i64)], false)], [(0, [.l (.own 1)])], [(1, 69, 5, false)], []⟩)], [(3, ⟨[(15, [.d (.bool)], false)], [], [], []⟩), (9, ⟨[(49, [.d (.bool)], false)], [], [], []⟩), (11, ⟨[(58, [.d (.bool)], false)], [], [], []⟩), (13, ⟨[(74, [.d (.bool)], false)], [], [], []⟩)], [(34, ⟨[none, some [.int .i64, .str, .int .i64, .sl 4], some [.int .i64, .str, .int .i64, .sl 4]], [.c (.err)], [.box [.l (.own 1)], .lst 69 5 false]⟩), (53, ⟨[none, some [.int .i64, .str, .int .i64, .sl 4]], [.ag [.int .i64, .str, .int .i64, .sl 4]], [.box [.l (.own 1)], .lst 69 5 false]⟩), (54, ⟨[none, some [.int .i64], some [.int .i64, .str, .int .i64, .sl 4]], [.c (.err)], [.box [.l (.own 1)], .lst 69 5 false]⟩)], [], [some [.err]], [], []⟩
set_option maxRecDepth 100000 in
def unify.W (n1 : Int) (s2 : ByteArray) (n3 : Int) (l4 : List (List V)) (n5 : Int) (s6 : ByteArray) (n7 : Int) (l8 : List (List V)) (L : List (List V)) (K : List V → List Ob → Prop) : Prop :=
 (SCalls ax 53 [(.ptr 0 0), (.agg [(.int .i64 n1), (.str s2), (.int .i64 n3), (.sl 4 l4)])] [(.box [(.own 1)]), (.lst 69 5 false L)] fun r27 o29 => ∃ (n23 : Int) (s24 : ByteArray) (n25 : Int) (l26 : List (List V)) (l28 : List (List V)), r27 = [(.agg [(.int .i64 n23), (.str s24), (.int .i64 n25), (.sl 4 l26)])] ∧ o29 = [(.box [(.own 1)]), (.lst 69 5 false l28)] ∧ (SCalls ax 53 [(.ptr 0 0), (.agg [(.int .i64 n5), (.str s6), (.int .i64 n7), (.sl 4 l8)])] [(.box [(.own 1)]), (.lst 69 5 false l28)] fun r34 o36 => ∃ (n30 : Int) (s31 : ByteArray) (n32 : Int) (l33 : List (List V)) (l35 : List (List V)), r34 = [(.agg [(.int .i64 n30), (.str s31), (.int .i64 n32), (.sl 4 l33)])] ∧ o36 = [(.box [(.own 1)]), (.lst 69 5 false l35)] ∧ (∃ J37 : List V → Prop, (bif (n23 == (4 : Int)) then (bif (n30 == (4 : Int)) then (J37 [(.bool (n25 == n32))]) else (J37 [(.bool false)])) else (J37 [(.bool false)])) ∧
 (∀ (b38 : Bool), J37 [(.bool b38)] →
 (bif b38 then
 (K [(.err none)] [(.box [(.own 1)]), (.lst 69 5 false l35)])
 else
 (bif (n23 == (4 : Int)) then
 (SCalls ax 54 [(.ptr 0 0), (.int .i64 n25), (.agg [(.int .i64 n30), (.str s31), (.int .i64 n32), (.sl 4 l33)])] [(.box [(.own 1)]), (.lst 69 5 false l35)] fun r40 o42 => ∃ (x39 : Option Nat) (l41 : List (List V)), r40 = [(.err x39)] ∧ o42 = [(.box [(.own 1)]), (.lst 69 5 false l41)] ∧ (K [(.err x39)] [(.box [(.own 1)]), (.lst 69 5 false l41)]))
 else
 (bif (n30 == (4 : Int)) then
 (SCalls ax 54 [(.ptr 0 0), (.int .i64 n32), (.agg [(.int .i64 n23), (.str s24), (.int .i64 n25), (.sl 4 l26)])] [(.box [(.own 1)]), (.lst 69 5 false l35)] fun r44 o46 => ∃ (x43 : Option Nat) (l45 : List (List V)), r44 = [(.err x43)] ∧ o46 = [(.box [(.own 1)]), (.lst 69 5 false l45)] ∧ (K [(.err x43)] [(.box [(.own 1)]), (.lst 69 5 false l45)]))
 else
 (∃ J47 : List V → Prop, (bif (n23 == (1 : Int)) then (J47 [(.bool (n30 == (1 : Int)))]) else (J47 [(.bool false)])) ∧
 (∀ (b48 : Bool), J47 [(.bool b48)] →
 (bif b48 then
 (K [(.err none)] [(.box [(.own 1)]), (.lst 69 5 false l35)])
 else
 (∃ J49 : List V → Prop, (bif (n23 == (3 : Int)) then (bif (n30 == (3 : Int)) then (J49 [(.bool (strEq s24 s31))]) else (J49 [(.bool false)])) else (J49 [(.bool false)])) ∧
 (∀ (b50 : Bool), J49 [(.bool b50)] →
 (bif b50 then
 (K [(.err none)] [(.box [(.own 1)]), (.lst 69 5 false l35)])
 else
 (∃ J51 : List V → Prop, (bif (n23 == (2 : Int)) then (bif (n30 == (2 : Int)) then (bif (strEq s24 s31) then (J51 [(.bool ((List.length l26 : Int) == (List.length l33 : Int)))]) else (J51 [(.bool false)])) else (J51 [(.bool false)])) else (J51 [(.bool false)])) ∧
 (∀ (b52 : Bool), J51 [(.bool b52)] →
 (bif b52 then
 (∃ (I80 : List V → Prop) (μ81 : List V → Nat), I80 [(.int .i64 0), (.sl 5 l35)] ∧ (∀ (n82 : Int) (l83 : List (List V)), I80 [(.int .i64 n82), (.sl 5 l83)] →
 (bif (decide (n82 < (List.length l26 : Int))) then
 (0 ≤ n82 ∧ n82 < (List.length l26 : Int) ∧ (∃ (n84 : Int) (s85 : ByteArray) (n86 : Int) (l87 : List (List V)), List.take 4 (Av.rowAt l26 (n82 : Int).toNat) = [(.int .i64 n84), (.str s85), (.int .i64 n86), (.sl 4 l87)] ∧ (0 ≤ n82 ∧ n82 < (List.length l33 : Int) ∧ (∃ (n88 : Int) (s89 : ByteArray) (n90 : Int) (l91 : List (List V)), List.take 4 (Av.rowAt l33 (n82 : Int).toNat) = [(.int .i64 n88), (.str s89), (.int .i64 n90), (.sl 4 l91)] ∧ (SCalls ax 34 [(.ptr 0 0), (.agg [(.int .i64 n84), (.str s85), (.int .i64 n86), (.sl 4 l87)]), (.agg [(.int .i64 n88), (.str s89), (.int .i64 n90), (.sl 4 l91)])] [(.box [(.own 1)]), (.lst 69 5 false l83)] fun r93 o95 => ∃ (x92 : Option Nat) (l94 : List (List V)), r93 = [(.err x92)] ∧ o95 = [(.box [(.own 1)]), (.lst 69 5 false l94)] ∧ (bif (!(Option.isNone x92)) then
 (K [(.err x92)] [(.box [(.own 1)]), (.lst 69 5 false l94)])
 else
 (I80 [(.int .i64 (IntKind.i64.wrap (n82 + 1))), (.sl 5 l94)] ∧ μ81 [(.int .i64 (IntKind.i64.wrap (n82 + 1))), (.sl 5 l94)] < μ81 [(.int .i64 n82), (.sl 5 l83)])))))))
 else
 (K [(.err none)] [(.box [(.own 1)]), (.lst 69 5 false l83)]))))
 else
 (K [(.err (some 2))] [(.box [(.own 1)]), (.lst 69 5 false l35)])))))))))))))))))
set_option maxRecDepth 100000 in
theorem unify.eq (n1 : Int) (s2 : ByteArray) (n3 : Int) (l4 : List (List V)) (n5 : Int) (s6 : ByteArray) (n7 : Int) (l8 : List (List V)) (L : List (List V)) (K : List V → List Ob → Prop) : unify.W n1 s2 n3 l4 n5 s6 n7 l8 L K = afn ax unify.ah Tryd.f34 [(.ptr 0 0), (.agg [(.int .i64 n1), (.str s2), (.int .i64 n3), (.sl 4 l4)]), (.agg [(.int .i64 n5), (.str s6), (.int .i64 n7), (.sl 4 l8)])] [(.box [(.own 1)]), (.lst 69 5 false L)] K := by kernel_rfl
theorem unify.ok : codeOk tys (hintsOf unify.ah) Tryd.f34.ntmps (Tryd.f34.body.getD .skip) = true := by kernel_rfl
set_option maxHeartbeats 4000000 in
theorem unify.calls {n1 s2 n3 l4 n5 s6 n7 l8 L K} (h : unify.W n1 s2 n3 l4 n5 s6 n7 l8 L K) : SCalls ax 34 [(.ptr 0 0), (.agg [(.int .i64 n1), (.str s2), (.int .i64 n3), (.sl 4 l4)]), (.agg [(.int .i64 n5), (.str s6), (.int .i64 n7), (.sl 4 l8)])] [(.box [(.own 1)]), (.lst 69 5 false L)] K :=
  afn_run (ah := unify.ah) tysOk fnsOk follows eqOk Tryd.func34 (by kernel_rfl) unify.ok (by kernel_rfl) (Eq.mp (unify.eq n1 s2 n3 l4 n5 s6 n7 l8 L K) h)
/-! ### Unify: function 14, (*augur/unify.Table).Unify -/
def Unify.ah : AH := ⟨[(4, seqO [0, 1, 3, 2, 4, 5, 6])], [], [], [(33, ⟨[none, some [.sl 4]], [.c (.err)], [.box [.l (.own 1)], .lst 69 5 false]⟩), (34, ⟨[none, some [.int .i64, .str, .int .i64, .sl 4], some [.int .i64, .str, .int .i64, .sl 4]], [.c (.err)], [.box [.l (.own 1)], .lst 69 5 false]⟩), (35, ⟨[some [.int .i64, .str, .int .i64, .sl 4]], [.ag [.int .i64, .str, .int .i64, .sl 4]], []⟩)], [], [some [.err]], [], []⟩
set_option maxRecDepth 100000 in
def Unify.W (n1 : Int) (s2 : ByteArray) (n3 : Int) (l4 : List (List V)) (n5 : Int) (s6 : ByteArray) (n7 : Int) (l8 : List (List V)) (L : List (List V)) (K : List V → List Ob → Prop) : Prop :=
 (SCalls ax 33 [(.ptr 0 0), (.sl 4 [[(.int .i64 n1), (.str s2), (.int .i64 n3), (.sl 4 l4)], [(.int .i64 n5), (.str s6), (.int .i64 n7), (.sl 4 l8)]])] [(.box [(.own 1)]), (.lst 69 5 false L)] fun r10 o12 => ∃ (x9 : Option Nat) (l11 : List (List V)), r10 = [(.err x9)] ∧ o12 = [(.box [(.own 1)]), (.lst 69 5 false l11)] ∧ (bif (!(Option.isNone x9)) then
 (K [(.err x9)] [(.box [(.own 1)]), (.lst 69 5 false l11)])
 else
 (PCalls ax 35 [(.agg [(.int .i64 n1), (.str s2), (.int .i64 n3), (.sl 4 l4)])] fun r17 => ∃ (n13 : Int) (s14 : ByteArray) (n15 : Int) (l16 : List (List V)), r17 = [(.agg [(.int .i64 n13), (.str s14), (.int .i64 n15), (.sl 4 l16)])] ∧ (PCalls ax 35 [(.agg [(.int .i64 n5), (.str s6), (.int .i64 n7), (.sl 4 l8)])] fun r22 => ∃ (n18 : Int) (s19 : ByteArray) (n20 : Int) (l21 : List (List V)), r22 = [(.agg [(.int .i64 n18), (.str s19), (.int .i64 n20), (.sl 4 l21)])] ∧ (SCalls ax 34 [(.ptr 0 0), (.agg [(.int .i64 n13), (.str s14), (.int .i64 n15), (.sl 4 l16)]), (.agg [(.int .i64 n18), (.str s19), (.int .i64 n20), (.sl 4 l21)])] [(.box [(.own 1)]), (.lst 69 5 false l11)] fun r24 o26 => ∃ (x23 : Option Nat) (l25 : List (List V)), r24 = [(.err x23)] ∧ o26 = [(.box [(.own 1)]), (.lst 69 5 false l25)] ∧ (K [(.err x23)] [(.box [(.own 1)]), (.lst 69 5 false l25)]))))))
set_option maxRecDepth 100000 in
theorem Unify.eq (n1 : Int) (s2 : ByteArray) (n3 : Int) (l4 : List (List V)) (n5 : Int) (s6 : ByteArray) (n7 : Int) (l8 : List (List V)) (L : List (List V)) (K : List V → List Ob → Prop) : Unify.W n1 s2 n3 l4 n5 s6 n7 l8 L K = afn ax Unify.ah Tryd.f14 [(.ptr 0 0), (.agg [(.int .i64 n1), (.str s2), (.int .i64 n3), (.sl 4 l4)]), (.agg [(.int .i64 n5), (.str s6), (.int .i64 n7), (.sl 4 l8)])] [(.box [(.own 1)]), (.lst 69 5 false L)] K := by kernel_rfl
theorem Unify.ok : codeOk tys (hintsOf Unify.ah) Tryd.f14.ntmps (Tryd.f14.body.getD .skip) = true := by kernel_rfl
set_option maxHeartbeats 4000000 in
theorem Unify.calls {n1 s2 n3 l4 n5 s6 n7 l8 L K} (h : Unify.W n1 s2 n3 l4 n5 s6 n7 l8 L K) : SCalls ax 14 [(.ptr 0 0), (.agg [(.int .i64 n1), (.str s2), (.int .i64 n3), (.sl 4 l4)]), (.agg [(.int .i64 n5), (.str s6), (.int .i64 n7), (.sl 4 l8)])] [(.box [(.own 1)]), (.lst 69 5 false L)] K :=
  afn_run (ah := Unify.ah) tysOk fnsOk follows eqOk Tryd.func14 (by kernel_rfl) Unify.ok (by kernel_rfl) (Eq.mp (Unify.eq n1 s2 n3 l4 n5 s6 n7 l8 L K) h)
/-! ### Resolve: function 16, (*augur/unify.Table).Resolve -/
def Resolve.ah : AH := ⟨[(5, seqO [0, 1, 2, 3])], [], [], [(33, ⟨[none, some [.sl 4]], [.c (.err)], [.box [.l (.own 1)], .lst 69 5 false]⟩), (35, ⟨[some [.int .i64, .str, .int .i64, .sl 4]], [.ag [.int .i64, .str, .int .i64, .sl 4]], []⟩), (39, ⟨[none, some [.int .i64, .str, .int .i64, .sl 4], some [.int .i64]], [.c (.int .i64)], [.box [.l (.own 1)], .lst 69 5 false]⟩), (40, ⟨[none, some [.int .i64, .str, .int .i64, .sl 4]], [.ag [.int .i64, .str, .int .i64, .sl 4]], [.box [.l (.own 1)], .lst 69 5 false]⟩)], [], [some [.int .i64, .str, .int .i64, .sl 4], some [.err]], [], []⟩
set_option maxRecDepth 100000 in
def Resolve.W (n1 : Int) (s2 : ByteArray) (n3 : Int) (l4 : List (List V)) (L : List (List V)) (K : List V → List Ob → Prop) : Prop :=
 (SCalls ax 33 [(.ptr 0 0), (.sl 4 [[(.int .i64 n1), (.str s2), (.int .i64 n3), (.sl 4 l4)]])] [(.box [(.own 1)]), (.lst 69 5 false L)] fun r10 o12 => ∃ (x9 : Option Nat) (l11 : List (List V)), r10 = [(.err x9)] ∧ o12 = [(.box [(.own 1)]), (.lst 69 5 false l11)] ∧ (bif (!(Option.isNone x9)) then
 (K [(.agg [(.int .i64 0), (.str (⟨#[]⟩ : ByteArray)), (.int .i64 0), (.sl 4 [])]), (.err x9)] [(.box [(.own 1)]), (.lst 69 5 false l11)])
 else
 (SCalls ax 39 [(.ptr 0 0), (.agg [(.int .i64 n1), (.str s2), (.int .i64 n3), (.sl 4 l4)]), (.int .i64 200)] [(.box [(.own 1)]), (.lst 69 5 false l11)] fun r14 o16 => ∃ (n13 : Int) (l15 : List (List V)), r14 = [(.int .i64 n13)] ∧ o16 = [(.box [(.own 1)]), (.lst 69 5 false l15)] ∧ (bif (decide (n13 < (0 : Int))) then
 (K [(.agg [(.int .i64 0), (.str (⟨#[]⟩ : ByteArray)), (.int .i64 0), (.sl 4 [])]), (.err (some 0))] [(.box [(.own 1)]), (.lst 69 5 false l15)])
 else
 (PCalls ax 35 [(.agg [(.int .i64 n1), (.str s2), (.int .i64 n3), (.sl 4 l4)])] fun r21 => ∃ (n17 : Int) (s18 : ByteArray) (n19 : Int) (l20 : List (List V)), r21 = [(.agg [(.int .i64 n17), (.str s18), (.int .i64 n19), (.sl 4 l20)])] ∧ (SCalls ax 40 [(.ptr 0 0), (.agg [(.int .i64 n17), (.str s18), (.int .i64 n19), (.sl 4 l20)])] [(.box [(.own 1)]), (.lst 69 5 false l15)] fun r26 o28 => ∃ (n22 : Int) (s23 : ByteArray) (n24 : Int) (l25 : List (List V)) (l27 : List (List V)), r26 = [(.agg [(.int .i64 n22), (.str s23), (.int .i64 n24), (.sl 4 l25)])] ∧ o28 = [(.box [(.own 1)]), (.lst 69 5 false l27)] ∧ (K [(.agg [(.int .i64 n22), (.str s23), (.int .i64 n24), (.sl 4 l25)]), (.err none)] [(.box [(.own 1)]), (.lst 69 5 false l27)])))))))
set_option maxRecDepth 100000 in
theorem Resolve.eq (n1 : Int) (s2 : ByteArray) (n3 : Int) (l4 : List (List V)) (L : List (List V)) (K : List V → List Ob → Prop) : Resolve.W n1 s2 n3 l4 L K = afn ax Resolve.ah Tryd.f16 [(.ptr 0 0), (.agg [(.int .i64 n1), (.str s2), (.int .i64 n3), (.sl 4 l4)])] [(.box [(.own 1)]), (.lst 69 5 false L)] K := by kernel_rfl
theorem Resolve.ok : codeOk tys (hintsOf Resolve.ah) Tryd.f16.ntmps (Tryd.f16.body.getD .skip) = true := by kernel_rfl
set_option maxHeartbeats 4000000 in
theorem Resolve.calls {n1 s2 n3 l4 L K} (h : Resolve.W n1 s2 n3 l4 L K) : SCalls ax 16 [(.ptr 0 0), (.agg [(.int .i64 n1), (.str s2), (.int .i64 n3), (.sl 4 l4)])] [(.box [(.own 1)]), (.lst 69 5 false L)] K :=
  afn_run (ah := Resolve.ah) tysOk fnsOk follows eqOk Tryd.func16 (by kernel_rfl) Resolve.ok (by kernel_rfl) (Eq.mp (Resolve.eq n1 s2 n3 l4 L K) h)
/-! ### Names: function 24, augur/unify.Names -/
def Names.ah : AH := ⟨[], [(3, ⟨[(3, [.nw 9 1 true], false), (11, [.d (.int .i64)], false)], [], [], []⟩), (9, ⟨[(3, [.nw 9 1 true], false), (25, [.d (.int .i64)], false)], [], [], [0]⟩)], [(8, ⟨[(6, [.d (.sl 1)], false)], [], [], []⟩)], [(24, ⟨[some [.sl 3]], [.c (.sl 1)], []⟩), (43, ⟨[some [.sl 1], some [.str]], [.c (.bool)], []⟩)], [], [some [.sl 1]], [], []⟩
set_option maxRecDepth 100000 in
def Names.W (l1 : List (List V)) (K : List V → Prop) : Prop :=
 (∃ (I62 : List V → Prop) (μ63 : List V → Nat), I62 [(.sl 1 []), (.int .i64 0)] ∧ (∀ (l64 : List (List V)) (n65 : Int), I62 [(.sl 1 l64), (.int .i64 n65)] →
 (bif (decide (n65 < (List.length l1 : Int))) then
 (0 ≤ n65 ∧ n65 < (List.length l1 : Int) ∧ (∃ (b69 : Bool) (s70 : ByteArray) (l71 : List (List V)), List.take 3 (Av.rowAt l1 (n65 : Int).toNat) = [(.bool b69), (.str s70), (.sl 3 l71)] ∧ (PCalls ax 24 [(.sl 3 l71)] fun r75 => ∃ (l74 : List (List V)), r75 = [(.sl 1 l74)] ∧ (∃ J76 : List V → Prop, (bif b69 then
 (J76 [(.sl 1 [[(.str s70)]])])
 else
 (J76 [(.sl 1 l74)])) ∧
 (∀ (l77 : List (List V)), J76 [(.sl 1 l77)] →
 (∃ (I87 : List V → Prop) (μ88 : List V → Nat), I87 [(.sl 1 l64), (.int .i64 0)] ∧ (∀ (l89 : List (List V)) (n90 : Int), I87 [(.sl 1 l89), (.int .i64 n90)] →
 (bif (decide (n90 < (List.length l77 : Int))) then
 (0 ≤ n90 ∧ n90 < (List.length l77 : Int) ∧ (∃ (s91 : ByteArray), List.take 1 (Av.rowAt l77 (n90 : Int).toNat) = [(.str s91)] ∧ (PCalls ax 43 [(.sl 1 l89), (.str s91)] fun r93 => ∃ (b92 : Bool), r93 = [(.bool b92)] ∧ (bif (!b92) then
 (((List.length l89) + (List.length ([[(.str s91)]] : List (List V)))) * 16 ≤ 140737488355328 ∧ (List.length l89) + (List.length ([[(.str s91)]] : List (List V))) ≤ 140737488355328 ∧ (I87 [(.sl 1 (l89 ++ [[(.str s91)]])), (.int .i64 (IntKind.i64.wrap (n90 + 1)))] ∧ μ88 [(.sl 1 (l89 ++ [[(.str s91)]])), (.int .i64 (IntKind.i64.wrap (n90 + 1)))] < μ88 [(.sl 1 l89), (.int .i64 n90)]))
 else
 (I87 [(.sl 1 l89), (.int .i64 (IntKind.i64.wrap (n90 + 1)))] ∧ μ88 [(.sl 1 l89), (.int .i64 (IntKind.i64.wrap (n90 + 1)))] < μ88 [(.sl 1 l89), (.int .i64 n90)])))))
 else
 (I62 [(.sl 1 l89), (.int .i64 (IntKind.i64.wrap (n65 + 1)))] ∧ μ63 [(.sl 1 l89), (.int .i64 (IntKind.i64.wrap (n65 + 1)))] < μ63 [(.sl 1 l64), (.int .i64 n65)])))))))))
 else
 (K [(.sl 1 l64)]))))
set_option maxRecDepth 100000 in
theorem Names.eq (l1 : List (List V)) (K : List V → Prop) : Names.W l1 K = afn ax Names.ah Tryd.f24 [(.sl 3 l1)] [] (onlyV K) := by kernel_rfl
theorem Names.ok : codeOk tys (hintsOf Names.ah) Tryd.f24.ntmps (Tryd.f24.body.getD .skip) = true := by kernel_rfl
set_option maxHeartbeats 4000000 in
theorem Names.calls {l1 K} (h : Names.W l1 K) : PCalls ax 24 [(.sl 3 l1)] K :=
  afn_run (ah := Names.ah) tysOk fnsOk follows eqOk Tryd.func24 (by kernel_rfl) Names.ok (by kernel_rfl) (Eq.mp (Names.eq l1 K) h)
/-! ### RNames: function 25, augur/augurref06.Names -/
def RNames.ah : AH := ⟨[], [(3, ⟨[(3, [.nw 9 1 false], false), (15, [.d (.int .i64)], false)], [], [], [0]⟩), (11, ⟨[(6, [.nw 9 1 false], false), (35, [.d (.int .i64)], false)], [], [(1, 9, 1, true)], [2]⟩), (15, ⟨[(9, [.d (.bool)], false), (44, [.d (.int .i64)], false)], [], [], []⟩)], [], [(25, ⟨[some [.sl 3]], [.c (.sl 1)], []⟩)], [], [some [.sl 1]], [], []⟩
set_option maxRecDepth 100000 in
def RNames.W (l1 : List (List V)) (K : List V → Prop) : Prop :=
 (∃ (I52 : List V → Prop) (μ53 : List V → Nat), I52 [(.sl 1 []), (.int .i64 0)] ∧ (∀ (l54 : List (List V)) (n55 : Int), I52 [(.sl 1 l54), (.int .i64 n55)] →
 (bif (decide (n55 < (List.length l1 : Int))) then
 (0 ≤ n55 ∧ n55 < (List.length l1 : Int) ∧ (∃ (b59 : Bool) (s60 : ByteArray) (l61 : List (List V)), List.take 3 (Av.rowAt l1 (n55 : Int).toNat) = [(.bool b59), (.str s60), (.sl 3 l61)] ∧ (bif b59 then
 (((List.length l54) + (List.length ([[(.str s60)]] : List (List V)))) * 16 ≤ 140737488355328 ∧ (List.length l54) + (List.length ([[(.str s60)]] : List (List V))) ≤ 140737488355328 ∧ (I52 [(.sl 1 (l54 ++ [[(.str s60)]])), (.int .i64 (IntKind.i64.wrap (n55 + 1)))] ∧ μ53 [(.sl 1 (l54 ++ [[(.str s60)]])), (.int .i64 (IntKind.i64.wrap (n55 + 1)))] < μ53 [(.sl 1 l54), (.int .i64 n55)]))
 else
 (PCalls ax 25 [(.sl 3 l61)] fun r63 => ∃ (l62 : List (List V)), r63 = [(.sl 1 l62)] ∧ (((List.length l54) + (List.length l62)) * 16 ≤ 140737488355328 ∧ (List.length l54) + (List.length l62) ≤ 140737488355328 ∧ (I52 [(.sl 1 (l54 ++ l62)), (.int .i64 (IntKind.i64.wrap (n55 + 1)))] ∧ μ53 [(.sl 1 (l54 ++ l62)), (.int .i64 (IntKind.i64.wrap (n55 + 1)))] < μ53 [(.sl 1 l54), (.int .i64 n55)]))))))
 else
 (∃ (I88 : List V → Prop) (μ89 : List V → Nat), I88 [(.sl 1 []), (.int .i64 0), (.sl 1 l54)] ∧ (∀ (l90 : List (List V)) (n91 : Int) (l92 : List (List V)), I88 [(.sl 1 l90), (.int .i64 n91), (.sl 1 l92)] →
 (bif (decide (n91 < (List.length l54 : Int))) then
 (0 ≤ n91 ∧ n91 < (List.length l92 : Int) ∧ (∃ (s94 : ByteArray), List.take 1 (Av.rowAt l92 ((n91 : Int).toNat)) = [(.str s94)] ∧ (0 ≤ n91 ∧ n91 ≤ (List.length l92 : Int) ∧ (∃ (I98 : List V → Prop) (μ99 : List V → Nat), I98 [(.bool true), (.int .i64 0)] ∧ (∀ (b100 : Bool) (n101 : Int), I98 [(.bool b100), (.int .i64 n101)] →
 (bif (decide (n101 < (List.length (List.take (n91 : Int).toNat l92) : Int))) then
 (0 ≤ n101 ∧ n101 < (List.length (List.take (n91 : Int).toNat l92) : Int) ∧ (∃ (s102 : ByteArray), List.take 1 (Av.rowAt (List.take (n91 : Int).toNat l92) (n101 : Int).toNat) = [(.str s102)] ∧ (bif b100 then (I98 [(.bool (!(strEq s102 s94))), (.int .i64 (IntKind.i64.wrap (n101 + 1)))] ∧ μ99 [(.bool (!(strEq s102 s94))), (.int .i64 (IntKind.i64.wrap (n101 + 1)))] < μ99 [(.bool b100), (.int .i64 n101)]) else (I98 [(.bool false), (.int .i64 (IntKind.i64.wrap (n101 + 1)))] ∧ μ99 [(.bool false), (.int .i64 (IntKind.i64.wrap (n101 + 1)))] < μ99 [(.bool b100), (.int .i64 n101)]))))
 else
 (bif b100 then
 (((List.length l90) + (List.length ([[(.str s94)]] : List (List V)))) * 16 ≤ 140737488355328 ∧ (List.length l90) + (List.length ([[(.str s94)]] : List (List V))) ≤ 140737488355328 ∧ (I88 [(.sl 1 (l90 ++ [[(.str s94)]])), (.int .i64 (IntKind.i64.wrap (n91 + 1))), (.sl 1 l92)] ∧ μ89 [(.sl 1 (l90 ++ [[(.str s94)]])), (.int .i64 (IntKind.i64.wrap (n91 + 1))), (.sl 1 l92)] < μ89 [(.sl 1 l90), (.int .i64 n91), (.sl 1 l92)]))
 else
 (I88 [(.sl 1 l90), (.int .i64 (IntKind.i64.wrap (n91 + 1))), (.sl 1 l92)] ∧ μ89 [(.sl 1 l90), (.int .i64 (IntKind.i64.wrap (n91 + 1))), (.sl 1 l92)] < μ89 [(.sl 1 l90), (.int .i64 n91), (.sl 1 l92)]))))))))
 else
 (K [(.sl 1 l90)])))))))
set_option maxRecDepth 100000 in
theorem RNames.eq (l1 : List (List V)) (K : List V → Prop) : RNames.W l1 K = afn ax RNames.ah Tryd.f25 [(.sl 3 l1)] [] (onlyV K) := by kernel_rfl
theorem RNames.ok : codeOk tys (hintsOf RNames.ah) Tryd.f25.ntmps (Tryd.f25.body.getD .skip) = true := by kernel_rfl
set_option maxHeartbeats 4000000 in
theorem RNames.calls {l1 K} (h : RNames.W l1 K) : PCalls ax 25 [(.sl 3 l1)] K :=
  afn_run (ah := RNames.ah) tysOk fnsOk follows eqOk Tryd.func25 (by kernel_rfl) RNames.ok (by kernel_rfl) (Eq.mp (RNames.eq l1 K) h)
/-! ### Instance: function 26, augur/unify.Instance -/
def Instance.ah : AH := ⟨[(12, seqO [0, 1, 2, 3, 4, 5, 6, 7, 8])], [(10, ⟨[(41, [.d (.int .i64)], false)], [(3, [.d (.int .i64), .d (.str), .d (.int .i64), .nw 32 4 false])], [(0, 57, 0, true)], []⟩)], [(8, ⟨[], [], [], []⟩)], [(26, ⟨[some [.bool, .str, .sl 3], none], [.ag [.int .i64, .str, .int .i64, .sl 4]], [.lst 57 0 true]⟩), (44, ⟨[some [.int .i64, .str, .int .i64, .sl 4]], [.ag [.int .i64, .str, .int .i64, .sl 4]], []⟩)], [], [some [.int .i64, .str, .int .i64, .sl 4]], [], []⟩
set_option maxRecDepth 100000 in
def Instance.W (b1 : Bool) (s2 : ByteArray) (l3 : List (List V)) (L : List (List V)) (K : List V → List Ob → Prop) : Prop :=
 (bif b1 then
 ((∀ v14 : V, (lookS L s2) = some v14 → ∃ (n15 : Int) (s16 : ByteArray) (n17 : Int) (l18 : List (List V)), v14 = (.agg [(.int .i64 n15), (.str s16), (.int .i64 n17), (.sl 4 l18)]) ∧ (PCalls ax 44 [(.agg [(.int .i64 n15), (.str s16), (.int .i64 n17), (.sl 4 l18)])] fun r23 => ∃ (n19 : Int) (s20 : ByteArray) (n21 : Int) (l22 : List (List V)), r23 = [(.agg [(.int .i64 n19), (.str s20), (.int .i64 n21), (.sl 4 l22)])] ∧ (K [(.agg [(.int .i64 n19), (.str s20), (.int .i64 n21), (.sl 4 l22)])] [(.lst 57 0 true L)]))) ∧ ((lookS L s2) = none → (K [(.agg [(.int .i64 3), (.str s2), (.int .i64 0), (.sl 4 [])])] [(.lst 57 0 true L)])))
 else
 (∃ J24 : List V → Prop, (bif (strEq s2 (⟨#[105, 110, 116]⟩ : ByteArray)) then (bif ((List.length l3 : Int) == (0 : Int)) then
 (K [(.agg [(.int .i64 1), (.str (⟨#[]⟩ : ByteArray)), (.int .i64 0), (.sl 4 [])])] [(.lst 57 0 true L)])
 else
 (J24 [])) else (J24 [])) ∧
 (J24 [] →
 (∃ (I52 : List V → Prop) (μ53 : List V → Nat), I52 [(.int .i64 0), (.int .i64 2), (.str s2), (.int .i64 0), (.sl 4 []), (.sl 0 L)] ∧ (∀ (n54 : Int) (n55 : Int) (s56 : ByteArray) (n57 : Int) (l58 : List (List V)) (l59 : List (List V)), I52 [(.int .i64 n54), (.int .i64 n55), (.str s56), (.int .i64 n57), (.sl 4 l58), (.sl 0 l59)] →
 (bif (decide (n54 < (List.length l3 : Int))) then
 (0 ≤ n54 ∧ n54 < (List.length l3 : Int) ∧ (∃ (b60 : Bool) (s61 : ByteArray) (l62 : List (List V)), List.take 3 (Av.rowAt l3 (n54 : Int).toNat) = [(.bool b60), (.str s61), (.sl 3 l62)] ∧ (SCalls ax 26 [(.agg [(.bool b60), (.str s61), (.sl 3 l62)]), (.map 0)] [(.lst 57 0 true l59)] fun r67 o69 => ∃ (n63 : Int) (s64 : ByteArray) (n65 : Int) (l66 : List (List V)) (l68 : List (List V)), r67 = [(.agg [(.int .i64 n63), (.str s64), (.int .i64 n65), (.sl 4 l66)])] ∧ o69 = [(.lst 57 0 true l68)] ∧ (((List.length l58) + (List.length ([[(.int .i64 n63), (.str s64), (.int .i64 n65), (.sl 4 l66)]] : List (List V)))) * 56 ≤ 140737488355328 ∧ (List.length l58) + (List.length ([[(.int .i64 n63), (.str s64), (.int .i64 n65), (.sl 4 l66)]] : List (List V))) ≤ 140737488355328 ∧ (I52 [(.int .i64 (IntKind.i64.wrap (n54 + 1))), (.int .i64 n55), (.str s56), (.int .i64 n57), (.sl 4 (l58 ++ [[(.int .i64 n63), (.str s64), (.int .i64 n65), (.sl 4 l66)]])), (.sl 0 l68)] ∧ μ53 [(.int .i64 (IntKind.i64.wrap (n54 + 1))), (.int .i64 n55), (.str s56), (.int .i64 n57), (.sl 4 (l58 ++ [[(.int .i64 n63), (.str s64), (.int .i64 n65), (.sl 4 l66)]])), (.sl 0 l68)] < μ53 [(.int .i64 n54), (.int .i64 n55), (.str s56), (.int .i64 n57), (.sl 4 l58), (.sl 0 l59)])))))
 else
 (K [(.agg [(.int .i64 n55), (.str s56), (.int .i64 n57), (.sl 4 l58)])] [(.lst 57 0 true l59)])))))))
set_option maxRecDepth 100000 in
theorem Instance.eq (b1 : Bool) (s2 : ByteArray) (l3 : List (List V)) (L : List (List V)) (K : List V → List Ob → Prop) : Instance.W b1 s2 l3 L K = afn ax Instance.ah Tryd.f26 [(.agg [(.bool b1), (.str s2), (.sl 3 l3)]), (.map 0)] [(.lst 57 0 true L)] K := by kernel_rfl
theorem Instance.ok : codeOk tys (hintsOf Instance.ah) Tryd.f26.ntmps (Tryd.f26.body.getD .skip) = true := by kernel_rfl
set_option maxHeartbeats 4000000 in
theorem Instance.calls {b1 s2 l3 L K} (h : Instance.W b1 s2 l3 L K) : SCalls ax 26 [(.agg [(.bool b1), (.str s2), (.sl 3 l3)]), (.map 0)] [(.lst 57 0 true L)] K :=
  afn_run (ah := Instance.ah) tysOk fnsOk follows eqOk Tryd.func26 (by kernel_rfl) Instance.ok (by kernel_rfl) (Eq.mp (Instance.eq b1 s2 l3 L K) h)
/-! ### RInstance: function 27, augur/augurref06.Instance -/
def RInstance.ah : AH := ⟨[(15, seqO [0, 1, 2, 3, 4, 5, 6, 7, 8, 9])], [(3, ⟨[(16, [.d (.int .i64)], false)], [], [], []⟩), (13, ⟨[(49, [.d (.int .i64)], false)], [(2, [.d (.int .i64), .d (.str), .d (.int .i64), .nw 32 4 false])], [], []⟩)], [(11, ⟨[], [], [], []⟩)], [(27, ⟨[some [.bool, .str, .sl 3], some [.sl 1], some [.sl 4]], [.ag [.int .i64, .str, .int .i64, .sl 4]], []⟩)], [], [some [.int .i64, .str, .int .i64, .sl 4]], [], []⟩
set_option maxRecDepth 100000 in
def RInstance.W (b1 : Bool) (s2 : ByteArray) (l3 : List (List V)) (l4 : List (List V)) (l5 : List (List V)) (K : List V → Prop) : Prop :=
 (bif b1 then
 (∃ (I26 : List V → Prop) (μ27 : List V → Nat), I26 [(.int .i64 0)] ∧ (∀ (n28 : Int), I26 [(.int .i64 n28)] →
 (bif (decide (n28 < (List.length l4 : Int))) then
 (0 ≤ n28 ∧ n28 < (List.length l4 : Int) ∧ (∃ (s29 : ByteArray), List.take 1 (Av.rowAt l4 (n28 : Int).toNat) = [(.str s29)] ∧ (bif (strEq s29 s2) then
 (0 ≤ n28 ∧ n28 < (List.length l5 : Int) ∧ (∃ (n30 : Int) (s31 : ByteArray) (n32 : Int) (l33 : List (List V)), List.take 4 (Av.rowAt l5 (n28 : Int).toNat) = [(.int .i64 n30), (.str s31), (.int .i64 n32), (.sl 4 l33)] ∧ (K [(.agg [(.int .i64 n30), (.str s31), (.int .i64 n32), (.sl 4 l33)])])))
 else
 (I26 [(.int .i64 (IntKind.i64.wrap (n28 + 1)))] ∧ μ27 [(.int .i64 (IntKind.i64.wrap (n28 + 1)))] < μ27 [(.int .i64 n28)]))))
 else
 (K [(.agg [(.int .i64 3), (.str s2), (.int .i64 0), (.sl 4 [])])]))))
 else
 (∃ J34 : List V → Prop, (bif (strEq s2 (⟨#[105, 110, 116]⟩ : ByteArray)) then (bif ((List.length l3 : Int) == (0 : Int)) then
 (K [(.agg [(.int .i64 1), (.str (⟨#[]⟩ : ByteArray)), (.int .i64 0), (.sl 4 [])])])
 else
 (J34 [])) else (J34 [])) ∧
 (J34 [] →
 (∃ (I57 : List V → Prop) (μ58 : List V → Nat), I57 [(.int .i64 0), (.int .i64 2), (.str s2), (.int .i64 0), (.sl 4 [])] ∧ (∀ (n59 : Int) (n60 : Int) (s61 : ByteArray) (n62 : Int) (l63 : List (List V)), I57 [(.int .i64 n59), (.int .i64 n60), (.str s61), (.int .i64 n62), (.sl 4 l63)] →
 (bif (decide (n59 < (List.length l3 : Int))) then
 (0 ≤ n59 ∧ n59 < (List.length l3 : Int) ∧ (∃ (b64 : Bool) (s65 : ByteArray) (l66 : List (List V)), List.take 3 (Av.rowAt l3 (n59 : Int).toNat) = [(.bool b64), (.str s65), (.sl 3 l66)] ∧ (PCalls ax 27 [(.agg [(.bool b64), (.str s65), (.sl 3 l66)]), (.sl 1 l4), (.sl 4 l5)] fun r71 => ∃ (n67 : Int) (s68 : ByteArray) (n69 : Int) (l70 : List (List V)), r71 = [(.agg [(.int .i64 n67), (.str s68), (.int .i64 n69), (.sl 4 l70)])] ∧ (((List.length l63) + (List.length ([[(.int .i64 n67), (.str s68), (.int .i64 n69), (.sl 4 l70)]] : List (List V)))) * 56 ≤ 140737488355328 ∧ (List.length l63) + (List.length ([[(.int .i64 n67), (.str s68), (.int .i64 n69), (.sl 4 l70)]] : List (List V))) ≤ 140737488355328 ∧ (I57 [(.int .i64 (IntKind.i64.wrap (n59 + 1))), (.int .i64 n60), (.str s61), (.int .i64 n62), (.sl 4 (l63 ++ [[(.int .i64 n67), (.str s68), (.int .i64 n69), (.sl 4 l70)]]))] ∧ μ58 [(.int .i64 (IntKind.i64.wrap (n59 + 1))), (.int .i64 n60), (.str s61), (.int .i64 n62), (.sl 4 (l63 ++ [[(.int .i64 n67), (.str s68), (.int .i64 n69), (.sl 4 l70)]]))] < μ58 [(.int .i64 n59), (.int .i64 n60), (.str s61), (.int .i64 n62), (.sl 4 l63)])))))
 else
 (K [(.agg [(.int .i64 n60), (.str s61), (.int .i64 n62), (.sl 4 l63)])])))))))
set_option maxRecDepth 100000 in
theorem RInstance.eq (b1 : Bool) (s2 : ByteArray) (l3 : List (List V)) (l4 : List (List V)) (l5 : List (List V)) (K : List V → Prop) : RInstance.W b1 s2 l3 l4 l5 K = afn ax RInstance.ah Tryd.f27 [(.agg [(.bool b1), (.str s2), (.sl 3 l3)]), (.sl 1 l4), (.sl 4 l5)] [] (onlyV K) := by kernel_rfl
theorem RInstance.ok : codeOk tys (hintsOf RInstance.ah) Tryd.f27.ntmps (Tryd.f27.body.getD .skip) = true := by kernel_rfl
set_option maxHeartbeats 4000000 in
theorem RInstance.calls {b1 s2 l3 l4 l5 K} (h : RInstance.W b1 s2 l3 l4 l5 K) : PCalls ax 27 [(.agg [(.bool b1), (.str s2), (.sl 3 l3)]), (.sl 1 l4), (.sl 4 l5)] K :=
  afn_run (ah := RInstance.ah) tysOk fnsOk follows eqOk Tryd.func27 (by kernel_rfl) RInstance.ok (by kernel_rfl) (Eq.mp (RInstance.eq b1 s2 l3 l4 l5 K) h)
/-! ### Text: function 28, augur/unify.Text -/
def Text.ah : AH := ⟨[(17, seqO [0, 1, 2, 3, 4, 5, 6, 7])], [(13, ⟨[(35, [.d (.int .i64)], false)], [], [(1, 9, 1, false)], []⟩)], [], [(28, ⟨[some [.int .i64, .str, .int .i64, .sl 4]], [.c (.str)], []⟩), (45, ⟨[some [.int .i64]], [.c (.str)], []⟩), (46, ⟨[some [.sl 1], some [.str]], [.c (.str)], []⟩)], [], [some [.str]], [], []⟩
set_option maxRecDepth 100000 in
def Text.W (n1 : Int) (s2 : ByteArray) (n3 : Int) (l4 : List (List V)) (K : List V → Prop) : Prop :=
 (bif (n1 == (1 : Int)) then
 (K [(.str (⟨#[105, 110, 116]⟩ : ByteArray))])
 else
 (bif (n1 == (3 : Int)) then
 (K [(.str s2)])
 else
 (bif (n1 == (4 : Int)) then
 (PCalls ax 45 [(.int .i64 n3)] fun r6 => ∃ (s5 : ByteArray), r6 = [(.str s5)] ∧ ((((⟨#[63]⟩ : ByteArray).size + s5.size : Nat) : Int) ≤ IntKind.i64.max ∧ (K [(.str ((⟨#[63]⟩ : ByteArray) ++ s5))])))
 else
 (bif (n1 == (2 : Int)) then
 (bif ((List.length l4 : Int) == (0 : Int)) then
 (K [(.str s2)])
 else
 (0 ≤ (List.length l4 : Int) ∧ (List.length l4 : Int) ≤ (List.length l4 : Int) ∧ (List.length l4 : Int) ≤ 140737488355328 ∧ ((16 : Nat) : Int) * (List.length l4 : Int) ≤ 140737488355328 ∧ (∃ (I22 : List V → Prop) (μ23 : List V → Nat), I22 [(.int .i64 0), (.sl 1 (List.replicate (((List.length l4 : Int) : Int).toNat) [(.str (⟨#[]⟩ : ByteArray))]))] ∧ (∀ (n24 : Int) (l25 : List (List V)), I22 [(.int .i64 n24), (.sl 1 l25)] →
 (bif (decide (n24 < (List.length l4 : Int))) then
 (0 ≤ n24 ∧ n24 < (List.length l4 : Int) ∧ (∃ (n26 : Int) (s27 : ByteArray) (n28 : Int) (l29 : List (List V)), List.take 4 (Av.rowAt l4 (n24 : Int).toNat) = [(.int .i64 n26), (.str s27), (.int .i64 n28), (.sl 4 l29)] ∧ (PCalls ax 28 [(.agg [(.int .i64 n26), (.str s27), (.int .i64 n28), (.sl 4 l29)])] fun r31 => ∃ (s30 : ByteArray), r31 = [(.str s30)] ∧ (0 ≤ n24 ∧ n24 < (List.length l25 : Int) ∧ (((n24 : Int).toNat) < List.length l25 ∧ (I22 [(.int .i64 (IntKind.i64.wrap (n24 + 1))), (.sl 1 (List.set l25 ((n24 : Int).toNat) [(.str s30)]))] ∧ μ23 [(.int .i64 (IntKind.i64.wrap (n24 + 1))), (.sl 1 (List.set l25 ((n24 : Int).toNat) [(.str s30)]))] < μ23 [(.int .i64 n24), (.sl 1 l25)]))))))
 else
 (((s2.size + (⟨#[40]⟩ : ByteArray).size : Nat) : Int) ≤ IntKind.i64.max ∧ (PCalls ax 46 [(.sl 1 l25), (.str (⟨#[44, 32]⟩ : ByteArray))] fun r33 => ∃ (s32 : ByteArray), r33 = [(.str s32)] ∧ ((((s2 ++ (⟨#[40]⟩ : ByteArray)).size + s32.size : Nat) : Int) ≤ IntKind.i64.max ∧ (((((s2 ++ (⟨#[40]⟩ : ByteArray)) ++ s32).size + (⟨#[41]⟩ : ByteArray).size : Nat) : Int) ≤ IntKind.i64.max ∧ (K [(.str (((s2 ++ (⟨#[40]⟩ : ByteArray)) ++ s32) ++ (⟨#[41]⟩ : ByteArray)))]))))))))))
 else
 (K [(.str (⟨#[]⟩ : ByteArray))])))))
set_option maxRecDepth 100000 in
theorem Text.eq (n1 : Int) (s2 : ByteArray) (n3 : Int) (l4 : List (List V)) (K : List V → Prop) : Text.W n1 s2 n3 l4 K = afn ax Text.ah Tryd.f28 [(.agg [(.int .i64 n1), (.str s2), (.int .i64 n3), (.sl 4 l4)])] [] (onlyV K) := by kernel_rfl
theorem Text.ok : codeOk tys (hintsOf Text.ah) Tryd.f28.ntmps (Tryd.f28.body.getD .skip) = true := by kernel_rfl
set_option maxHeartbeats 4000000 in
theorem Text.calls {n1 s2 n3 l4 K} (h : Text.W n1 s2 n3 l4 K) : PCalls ax 28 [(.agg [(.int .i64 n1), (.str s2), (.int .i64 n3), (.sl 4 l4)])] K :=
  afn_run (ah := Text.ah) tysOk fnsOk follows eqOk Tryd.func28 (by kernel_rfl) Text.ok (by kernel_rfl) (Eq.mp (Text.eq n1 s2 n3 l4 K) h)
/-! ### RText: function 29, augur/augurref06.Text -/
def RText.ah : AH := ⟨[], [(11, ⟨[(3, [.d (.str)], false), (27, [.d (.int .i64)], false)], [], [], []⟩)], [], [(29, ⟨[some [.int .i64, .str, .int .i64, .sl 4]], [.c (.str)], []⟩), (47, ⟨[some [.int .i64]], [.c (.str)], []⟩)], [], [some [.str]], [], []⟩
set_option maxRecDepth 100000 in
def RText.W (n1 : Int) (s2 : ByteArray) (n3 : Int) (l4 : List (List V)) (K : List V → Prop) : Prop :=
 (bif (n1 == (1 : Int)) then
 (K [(.str (⟨#[105, 110, 116]⟩ : ByteArray))])
 else
 (bif (n1 == (3 : Int)) then
 (K [(.str s2)])
 else
 (bif (n1 == (4 : Int)) then
 (PCalls ax 47 [(.int .i64 n3)] fun r6 => ∃ (s5 : ByteArray), r6 = [(.str s5)] ∧ ((((⟨#[63]⟩ : ByteArray).size + s5.size : Nat) : Int) ≤ IntKind.i64.max ∧ (K [(.str ((⟨#[63]⟩ : ByteArray) ++ s5))])))
 else
 (bif (n1 == (2 : Int)) then
 (∃ (I17 : List V → Prop) (μ18 : List V → Nat), I17 [(.str s2), (.int .i64 0)] ∧ (∀ (s19 : ByteArray) (n20 : Int), I17 [(.str s19), (.int .i64 n20)] →
 (bif (decide (n20 < (List.length l4 : Int))) then
 (0 ≤ n20 ∧ n20 < (List.length l4 : Int) ∧ (∃ (n21 : Int) (s22 : ByteArray) (n23 : Int) (l24 : List (List V)), List.take 4 (Av.rowAt l4 (n20 : Int).toNat) = [(.int .i64 n21), (.str s22), (.int .i64 n23), (.sl 4 l24)] ∧ (bif (n20 == (0 : Int)) then
 (((s19.size + (⟨#[40]⟩ : ByteArray).size : Nat) : Int) ≤ IntKind.i64.max ∧ (PCalls ax 29 [(.agg [(.int .i64 n21), (.str s22), (.int .i64 n23), (.sl 4 l24)])] fun r26 => ∃ (s25 : ByteArray), r26 = [(.str s25)] ∧ ((((s19 ++ (⟨#[40]⟩ : ByteArray)).size + s25.size : Nat) : Int) ≤ IntKind.i64.max ∧ (I17 [(.str ((s19 ++ (⟨#[40]⟩ : ByteArray)) ++ s25)), (.int .i64 (IntKind.i64.wrap (n20 + 1)))] ∧ μ18 [(.str ((s19 ++ (⟨#[40]⟩ : ByteArray)) ++ s25)), (.int .i64 (IntKind.i64.wrap (n20 + 1)))] < μ18 [(.str s19), (.int .i64 n20)]))))
 else
 (((s19.size + (⟨#[44, 32]⟩ : ByteArray).size : Nat) : Int) ≤ IntKind.i64.max ∧ (PCalls ax 29 [(.agg [(.int .i64 n21), (.str s22), (.int .i64 n23), (.sl 4 l24)])] fun r28 => ∃ (s27 : ByteArray), r28 = [(.str s27)] ∧ ((((s19 ++ (⟨#[44, 32]⟩ : ByteArray)).size + s27.size : Nat) : Int) ≤ IntKind.i64.max ∧ (I17 [(.str ((s19 ++ (⟨#[44, 32]⟩ : ByteArray)) ++ s27)), (.int .i64 (IntKind.i64.wrap (n20 + 1)))] ∧ μ18 [(.str ((s19 ++ (⟨#[44, 32]⟩ : ByteArray)) ++ s27)), (.int .i64 (IntKind.i64.wrap (n20 + 1)))] < μ18 [(.str s19), (.int .i64 n20)])))))))
 else
 (bif (decide ((List.length l4 : Int) > (0 : Int))) then
 (((s19.size + (⟨#[41]⟩ : ByteArray).size : Nat) : Int) ≤ IntKind.i64.max ∧ (K [(.str (s19 ++ (⟨#[41]⟩ : ByteArray)))]))
 else
 (K [(.str s19)])))))
 else
 (K [(.str (⟨#[]⟩ : ByteArray))])))))
set_option maxRecDepth 100000 in
theorem RText.eq (n1 : Int) (s2 : ByteArray) (n3 : Int) (l4 : List (List V)) (K : List V → Prop) : RText.W n1 s2 n3 l4 K = afn ax RText.ah Tryd.f29 [(.agg [(.int .i64 n1), (.str s2), (.int .i64 n3), (.sl 4 l4)])] [] (onlyV K) := by kernel_rfl
theorem RText.ok : codeOk tys (hintsOf RText.ah) Tryd.f29.ntmps (Tryd.f29.body.getD .skip) = true := by kernel_rfl
set_option maxHeartbeats 4000000 in
theorem RText.calls {n1 s2 n3 l4 K} (h : RText.W n1 s2 n3 l4 K) : PCalls ax 29 [(.agg [(.int .i64 n1), (.str s2), (.int .i64 n3), (.sl 4 l4)])] K :=
  afn_run (ah := RText.ah) tysOk fnsOk follows eqOk Tryd.func29 (by kernel_rfl) RText.ok (by kernel_rfl) (Eq.mp (RText.eq n1 s2 n3 l4 K) h)
/-! ### Same: function 30, augur/unify.Same -/
def Same.ah : AH := ⟨[], [], [], [(48, ⟨[some [.sl 4], some [.sl 4], none], [.c (.bool)], []⟩)], [], [some [.bool]], [], []⟩
set_option maxRecDepth 100000 in
def Same.W (n1 : Int) (s2 : ByteArray) (n3 : Int) (l4 : List (List V)) (n5 : Int) (s6 : ByteArray) (n7 : Int) (l8 : List (List V)) (K : List V → Prop) : Prop :=
 (bif (n1 == n5) then (bif (strEq s2 s6) then (bif (n3 == n7) then (PCalls ax 48 [(.sl 4 l4), (.sl 4 l8), (.fn 30 [] [])] fun r10 => ∃ (b9 : Bool), r10 = [(.bool b9)] ∧ (K [(.bool b9)])) else (K [(.bool false)])) else (K [(.bool false)])) else (K [(.bool false)]))
set_option maxRecDepth 100000 in
theorem Same.eq (n1 : Int) (s2 : ByteArray) (n3 : Int) (l4 : List (List V)) (n5 : Int) (s6 : ByteArray) (n7 : Int) (l8 : List (List V)) (K : List V → Prop) : Same.W n1 s2 n3 l4 n5 s6 n7 l8 K = afn ax Same.ah Tryd.f30 [(.agg [(.int .i64 n1), (.str s2), (.int .i64 n3), (.sl 4 l4)]), (.agg [(.int .i64 n5), (.str s6), (.int .i64 n7), (.sl 4 l8)])] [] (onlyV K) := by kernel_rfl
theorem Same.ok : codeOk tys (hintsOf Same.ah) Tryd.f30.ntmps (Tryd.f30.body.getD .skip) = true := by kernel_rfl
set_option maxHeartbeats 4000000 in
theorem Same.calls {n1 s2 n3 l4 n5 s6 n7 l8 K} (h : Same.W n1 s2 n3 l4 n5 s6 n7 l8 K) : PCalls ax 30 [(.agg [(.int .i64 n1), (.str s2), (.int .i64 n3), (.sl 4 l4)]), (.agg [(.int .i64 n5), (.str s6), (.int .i64 n7), (.sl 4 l8)])] K :=
  afn_run (ah := Same.ah) tysOk fnsOk follows eqOk Tryd.func30 (by kernel_rfl) Same.ok (by kernel_rfl) (Eq.mp (Same.eq n1 s2 n3 l4 n5 s6 n7 l8 K) h)
/-! ### RPlain: function 31, augur/augurref06.Plain -/
def RPlain.ah : AH := ⟨[], [], [], [(49, ⟨[some [.sl 4], some [.sl 1]], [.c (.sl 4)], []⟩), (50, ⟨[some [.sl 4]], [.c (.sl 1)], []⟩)], [], [some [.sl 4]], [], []⟩
set_option maxRecDepth 100000 in
def RPlain.W (l1 : List (List V)) (K : List V → Prop) : Prop :=
 (PCalls ax 50 [(.sl 4 l1)] fun r3 => ∃ (l2 : List (List V)), r3 = [(.sl 1 l2)] ∧ (PCalls ax 49 [(.sl 4 l1), (.sl 1 l2)] fun r5 => ∃ (l4 : List (List V)), r5 = [(.sl 4 l4)] ∧ (K [(.sl 4 l4)])))
set_option maxRecDepth 100000 in
theorem RPlain.eq (l1 : List (List V)) (K : List V → Prop) : RPlain.W l1 K = afn ax RPlain.ah Tryd.f31 [(.sl 4 l1)] [] (onlyV K) := by kernel_rfl
theorem RPlain.ok : codeOk tys (hintsOf RPlain.ah) Tryd.f31.ntmps (Tryd.f31.body.getD .skip) = true := by kernel_rfl
set_option maxHeartbeats 4000000 in
theorem RPlain.calls {l1 K} (h : RPlain.W l1 K) : PCalls ax 31 [(.sl 4 l1)] K :=
  afn_run (ah := RPlain.ah) tysOk fnsOk follows eqOk Tryd.func31 (by kernel_rfl) RPlain.ok (by kernel_rfl) (Eq.mp (RPlain.eq l1 K) h)
/-! ### ContainsS: function 43, slices.Contains[[]string,string] -/
def ContainsS.ah : AH := ⟨[], [], [], [(57, ⟨[some [.sl 1], some [.str]], [.c (.int .i64)], []⟩)], [], [some [.bool]], [], []⟩
set_option maxRecDepth 100000 in
def ContainsS.W (l1 : List (List V)) (s2 : ByteArray) (K : List V → Prop) : Prop :=
 (PCalls ax 57 [(.sl 1 l1), (.str s2)] fun r4 => ∃ (n3 : Int), r4 = [(.int .i64 n3)] ∧ (K [(.bool (decide (n3 ≥ (0 : Int))))]))
set_option maxRecDepth 100000 in
theorem ContainsS.eq (l1 : List (List V)) (s2 : ByteArray) (K : List V → Prop) : ContainsS.W l1 s2 K = afn ax ContainsS.ah Tryd.f43 [(.sl 1 l1), (.str s2)] [] (onlyV K) := by kernel_rfl
theorem ContainsS.ok : codeOk tys (hintsOf ContainsS.ah) Tryd.f43.ntmps (Tryd.f43.body.getD .skip) = true := by kernel_rfl
set_option maxHeartbeats 4000000 in
theorem ContainsS.calls {l1 s2 K} (h : ContainsS.W l1 s2 K) : PCalls ax 43 [(.sl 1 l1), (.str s2)] K :=
  afn_run (ah := ContainsS.ah) tysOk fnsOk follows eqOk Tryd.func43 (by kernel_rfl) ContainsS.ok (by kernel_rfl) (Eq.mp (ContainsS.eq l1 s2 K) h)
/-! ### IndexS: function 57, slices.Index[[]string,string] -/
def IndexS.ah : AH := ⟨[], [(2, ⟨[(8, [.d (.int .i64)], false)], [], [], []⟩)], [], [], [], [some [.int .i64]], [], []⟩
set_option maxRecDepth 100000 in
def IndexS.W (l1 : List (List V)) (s2 : ByteArray) (K : List V → Prop) : Prop :=
 (∃ (I5 : List V → Prop) (μ6 : List V → Nat), I5 [(.int .i64 0)] ∧ (∀ (n7 : Int), I5 [(.int .i64 n7)] →
 (bif (decide (n7 < (List.length l1 : Int))) then
 (0 ≤ n7 ∧ n7 < (List.length l1 : Int) ∧ (∃ (s8 : ByteArray), List.take 1 (Av.rowAt l1 (n7 : Int).toNat) = [(.str s8)] ∧ (bif (strEq s2 s8) then
 (K [(.int .i64 n7)])
 else
 (I5 [(.int .i64 (IntKind.i64.wrap (n7 + 1)))] ∧ μ6 [(.int .i64 (IntKind.i64.wrap (n7 + 1)))] < μ6 [(.int .i64 n7)]))))
 else
 (K [(.int .i64 (-1))]))))
set_option maxRecDepth 100000 in
theorem IndexS.eq (l1 : List (List V)) (s2 : ByteArray) (K : List V → Prop) : IndexS.W l1 s2 K = afn ax IndexS.ah Tryd.f57 [(.sl 1 l1), (.str s2)] [] (onlyV K) := by kernel_rfl
theorem IndexS.ok : codeOk tys (hintsOf IndexS.ah) Tryd.f57.ntmps (Tryd.f57.body.getD .skip) = true := by kernel_rfl
set_option maxHeartbeats 4000000 in
theorem IndexS.calls {l1 s2 K} (h : IndexS.W l1 s2 K) : PCalls ax 57 [(.sl 1 l1), (.str s2)] K :=
  afn_run (ah := IndexS.ah) tysOk fnsOk follows eqOk Tryd.func57 (by kernel_rfl) IndexS.ok (by kernel_rfl) (Eq.mp (IndexS.eq l1 s2 K) h)
/-! ### Equal: function 48, slices.EqualFunc[[]augur/api.Type,[]augur/api.Type,augur/api.Type,augur/api.Type] -/
def Equal.ah : AH := ⟨[], [(4, ⟨[(17, [.d (.int .i64)], false)], [], [], []⟩)], [], [(30, ⟨[some [.int .i64, .str, .int .i64, .sl 4], some [.int .i64, .str, .int .i64, .sl 4]], [.c (.bool)], []⟩)], [], [some [.bool]], [], []⟩
set_option maxRecDepth 100000 in
def Equal.W (l1 : List (List V)) (l2 : List (List V)) (K : List V → Prop) : Prop :=
 (bif ((List.length l1 : Int) != (List.length l2 : Int)) then
 (K [(.bool false)])
 else
 (∃ (I14 : List V → Prop) (μ15 : List V → Nat), I14 [(.int .i64 0)] ∧ (∀ (n16 : Int), I14 [(.int .i64 n16)] →
 (bif (decide (n16 < (List.length l1 : Int))) then
 (0 ≤ n16 ∧ n16 < (List.length l1 : Int) ∧ (∃ (n17 : Int) (s18 : ByteArray) (n19 : Int) (l20 : List (List V)), List.take 4 (Av.rowAt l1 (n16 : Int).toNat) = [(.int .i64 n17), (.str s18), (.int .i64 n19), (.sl 4 l20)] ∧ (0 ≤ n16 ∧ n16 < (List.length l2 : Int) ∧ (∃ (n21 : Int) (s22 : ByteArray) (n23 : Int) (l24 : List (List V)), List.take 4 (Av.rowAt l2 (n16 : Int).toNat) = [(.int .i64 n21), (.str s22), (.int .i64 n23), (.sl 4 l24)] ∧ (PCalls ax 30 [(.agg [(.int .i64 n17), (.str s18), (.int .i64 n19), (.sl 4 l20)]), (.agg [(.int .i64 n21), (.str s22), (.int .i64 n23), (.sl 4 l24)])] fun r26 => ∃ (b25 : Bool), r26 = [(.bool b25)] ∧ (bif (!b25) then
 (K [(.bool false)])
 else
 (I14 [(.int .i64 (IntKind.i64.wrap (n16 + 1)))] ∧ μ15 [(.int .i64 (IntKind.i64.wrap (n16 + 1)))] < μ15 [(.int .i64 n16)])))))))
 else
 (K [(.bool true)])))))
set_option maxRecDepth 100000 in
theorem Equal.eq (l1 : List (List V)) (l2 : List (List V)) (K : List V → Prop) : Equal.W l1 l2 K = afn ax Equal.ah Tryd.f48 [(.sl 4 l1), (.sl 4 l2), (.fn 30 [] [])] [] (onlyV K) := by kernel_rfl
theorem Equal.ok : codeOk tys (hintsOf Equal.ah) Tryd.f48.ntmps (Tryd.f48.body.getD .skip) = true := by kernel_rfl
set_option maxHeartbeats 4000000 in
theorem Equal.calls {l1 l2 K} (h : Equal.W l1 l2 K) : PCalls ax 48 [(.sl 4 l1), (.sl 4 l2), (.fn 30 [] [])] K :=
  afn_run (ah := Equal.ah) tysOk fnsOk follows eqOk Tryd.func48 (by kernel_rfl) Equal.ok (by kernel_rfl) (Eq.mp (Equal.eq l1 l2 K) h)
/-! ### renumber: function 49, augur/augurref06.renumber -/
def renumber.ah : AH := ⟨[], [(3, ⟨[(5, [.nw 32 4 false], false), (13, [.d (.int .i64)], false)], [], [], [0]⟩), (7, ⟨[(22, [.d (.int .i64)], false)], [], [], []⟩)], [], [(49, ⟨[some [.sl 4], some [.sl 1]], [.c (.sl 4)], []⟩)], [], [some [.sl 4]], [], []⟩
set_option maxRecDepth 100000 in
def renumber.W (l1 : List (List V)) (l2 : List (List V)) (K : List V → Prop) : Prop :=
 (∃ (I46 : List V → Prop) (μ47 : List V → Nat), I46 [(.sl 4 []), (.int .i64 0)] ∧ (∀ (l48 : List (List V)) (n49 : Int), I46 [(.sl 4 l48), (.int .i64 n49)] →
 (bif (decide (n49 < (List.length l1 : Int))) then
 (0 ≤ n49 ∧ n49 < (List.length l1 : Int) ∧ (∃ (n54 : Int) (s55 : ByteArray) (n56 : Int) (l57 : List (List V)), List.take 4 (Av.rowAt l1 (n49 : Int).toNat) = [(.int .i64 n54), (.str s55), (.int .i64 n56), (.sl 4 l57)] ∧ (bif (n54 == (4 : Int)) then
 (∃ (I60 : List V → Prop) (μ61 : List V → Nat), I60 [(.int .i64 0)] ∧ (∀ (n62 : Int), I60 [(.int .i64 n62)] →
 (bif (decide (n62 < (List.length l2 : Int))) then
 (0 ≤ n62 ∧ n62 < (List.length l2 : Int) ∧ (∃ (n63 : Int), List.take 1 (Av.rowAt l2 (n62 : Int).toNat) = [(.int .i64 n63)] ∧ (bif (n63 == n56) then
 (PCalls ax 49 [(.sl 4 l57), (.sl 1 l2)] fun r65 => ∃ (l64 : List (List V)), r65 = [(.sl 4 l64)] ∧ (((List.length l48) + (List.length ([[(.int .i64 n54), (.str s55), (.int .i64 n62), (.sl 4 l64)]] : List (List V)))) * 56 ≤ 140737488355328 ∧ (List.length l48) + (List.length ([[(.int .i64 n54), (.str s55), (.int .i64 n62), (.sl 4 l64)]] : List (List V))) ≤ 140737488355328 ∧ (I46 [(.sl 4 (l48 ++ [[(.int .i64 n54), (.str s55), (.int .i64 n62), (.sl 4 l64)]])), (.int .i64 (IntKind.i64.wrap (n49 + 1)))] ∧ μ47 [(.sl 4 (l48 ++ [[(.int .i64 n54), (.str s55), (.int .i64 n62), (.sl 4 l64)]])), (.int .i64 (IntKind.i64.wrap (n49 + 1)))] < μ47 [(.sl 4 l48), (.int .i64 n49)])))
 else
 (I60 [(.int .i64 (IntKind.i64.wrap (n62 + 1)))] ∧ μ61 [(.int .i64 (IntKind.i64.wrap (n62 + 1)))] < μ61 [(.int .i64 n62)]))))
 else
 (PCalls ax 49 [(.sl 4 l57), (.sl 1 l2)] fun r67 => ∃ (l66 : List (List V)), r67 = [(.sl 4 l66)] ∧ (((List.length l48) + (List.length ([[(.int .i64 n54), (.str s55), (.int .i64 n56), (.sl 4 l66)]] : List (List V)))) * 56 ≤ 140737488355328 ∧ (List.length l48) + (List.length ([[(.int .i64 n54), (.str s55), (.int .i64 n56), (.sl 4 l66)]] : List (List V))) ≤ 140737488355328 ∧ (I46 [(.sl 4 (l48 ++ [[(.int .i64 n54), (.str s55), (.int .i64 n56), (.sl 4 l66)]])), (.int .i64 (IntKind.i64.wrap (n49 + 1)))] ∧ μ47 [(.sl 4 (l48 ++ [[(.int .i64 n54), (.str s55), (.int .i64 n56), (.sl 4 l66)]])), (.int .i64 (IntKind.i64.wrap (n49 + 1)))] < μ47 [(.sl 4 l48), (.int .i64 n49)]))))))
 else
 (PCalls ax 49 [(.sl 4 l57), (.sl 1 l2)] fun r69 => ∃ (l68 : List (List V)), r69 = [(.sl 4 l68)] ∧ (((List.length l48) + (List.length ([[(.int .i64 n54), (.str s55), (.int .i64 n56), (.sl 4 l68)]] : List (List V)))) * 56 ≤ 140737488355328 ∧ (List.length l48) + (List.length ([[(.int .i64 n54), (.str s55), (.int .i64 n56), (.sl 4 l68)]] : List (List V))) ≤ 140737488355328 ∧ (I46 [(.sl 4 (l48 ++ [[(.int .i64 n54), (.str s55), (.int .i64 n56), (.sl 4 l68)]])), (.int .i64 (IntKind.i64.wrap (n49 + 1)))] ∧ μ47 [(.sl 4 (l48 ++ [[(.int .i64 n54), (.str s55), (.int .i64 n56), (.sl 4 l68)]])), (.int .i64 (IntKind.i64.wrap (n49 + 1)))] < μ47 [(.sl 4 l48), (.int .i64 n49)]))))))
 else
 (K [(.sl 4 l48)]))))
set_option maxRecDepth 100000 in
theorem renumber.eq (l1 : List (List V)) (l2 : List (List V)) (K : List V → Prop) : renumber.W l1 l2 K = afn ax renumber.ah Tryd.f49 [(.sl 4 l1), (.sl 1 l2)] [] (onlyV K) := by kernel_rfl
theorem renumber.ok : codeOk tys (hintsOf renumber.ah) Tryd.f49.ntmps (Tryd.f49.body.getD .skip) = true := by kernel_rfl
set_option maxHeartbeats 4000000 in
theorem renumber.calls {l1 l2 K} (h : renumber.W l1 l2 K) : PCalls ax 49 [(.sl 4 l1), (.sl 1 l2)] K :=
  afn_run (ah := renumber.ah) tysOk fnsOk follows eqOk Tryd.func49 (by kernel_rfl) renumber.ok (by kernel_rfl) (Eq.mp (renumber.eq l1 l2 K) h)
/-! ### frees: function 50, augur/augurref06.frees -/
def frees.ah : AH := ⟨[], [(3, ⟨[(3, [.nw 3 1 true], false), (11, [.d (.int .i64)], false)], [], [], [0]⟩), (8, ⟨[(3, [.nw 3 1 true], false), (34, [.d (.int .i64)], false)], [], [], [3]⟩)], [(7, ⟨[(3, [.nw 3 1 true], false)], [], [], [1]⟩)], [(50, ⟨[some [.sl 4]], [.c (.sl 1)], []⟩), (62, ⟨[some [.sl 1], some [.int .i64]], [.c (.bool)], []⟩)], [], [some [.sl 1]], [], []⟩
set_option maxRecDepth 100000 in
def frees.W (l1 : List (List V)) (K : List V → Prop) : Prop :=
 (∃ (I73 : List V → Prop) (μ74 : List V → Nat), I73 [(.sl 1 []), (.int .i64 0)] ∧ (∀ (l75 : List (List V)) (n76 : Int), I73 [(.sl 1 l75), (.int .i64 n76)] →
 (bif (decide (n76 < (List.length l1 : Int))) then
 (0 ≤ n76 ∧ n76 < (List.length l1 : Int) ∧ (∃ (n81 : Int) (s82 : ByteArray) (n83 : Int) (l84 : List (List V)), List.take 4 (Av.rowAt l1 (n76 : Int).toNat) = [(.int .i64 n81), (.str s82), (.int .i64 n83), (.sl 4 l84)] ∧ (∃ J87 : List V → Prop, (bif (n81 == (4 : Int)) then (PCalls ax 62 [(.sl 1 l75), (.int .i64 n83)] fun r89 => ∃ (b88 : Bool), r89 = [(.bool b88)] ∧ (bif (!b88) then
 (((List.length l75) + (List.length ([[(.int .i64 n83)]] : List (List V)))) * 8 ≤ 140737488355328 ∧ (List.length l75) + (List.length ([[(.int .i64 n83)]] : List (List V))) ≤ 140737488355328 ∧ (J87 [(.sl 1 (l75 ++ [[(.int .i64 n83)]]))]))
 else
 (J87 [(.sl 1 l75)]))) else (J87 [(.sl 1 l75)])) ∧
 (∀ (l90 : List (List V)), J87 [(.sl 1 l90)] →
 (PCalls ax 50 [(.sl 4 l84)] fun r94 => ∃ (l93 : List (List V)), r94 = [(.sl 1 l93)] ∧ (∃ (I104 : List V → Prop) (μ105 : List V → Nat), I104 [(.sl 1 l90), (.int .i64 0)] ∧ (∀ (l106 : List (List V)) (n107 : Int), I104 [(.sl 1 l106), (.int .i64 n107)] →
 (bif (decide (n107 < (List.length l93 : Int))) then
 (0 ≤ n107 ∧ n107 < (List.length l93 : Int) ∧ (∃ (n108 : Int), List.take 1 (Av.rowAt l93 (n107 : Int).toNat) = [(.int .i64 n108)] ∧ (PCalls ax 62 [(.sl 1 l106), (.int .i64 n108)] fun r110 => ∃ (b109 : Bool), r110 = [(.bool b109)] ∧ (bif (!b109) then
 (((List.length l106) + (List.length ([[(.int .i64 n108)]] : List (List V)))) * 8 ≤ 140737488355328 ∧ (List.length l106) + (List.length ([[(.int .i64 n108)]] : List (List V))) ≤ 140737488355328 ∧ (I104 [(.sl 1 (l106 ++ [[(.int .i64 n108)]])), (.int .i64 (IntKind.i64.wrap (n107 + 1)))] ∧ μ105 [(.sl 1 (l106 ++ [[(.int .i64 n108)]])), (.int .i64 (IntKind.i64.wrap (n107 + 1)))] < μ105 [(.sl 1 l106), (.int .i64 n107)]))
 else
 (I104 [(.sl 1 l106), (.int .i64 (IntKind.i64.wrap (n107 + 1)))] ∧ μ105 [(.sl 1 l106), (.int .i64 (IntKind.i64.wrap (n107 + 1)))] < μ105 [(.sl 1 l106), (.int .i64 n107)])))))
 else
 (I73 [(.sl 1 l106), (.int .i64 (IntKind.i64.wrap (n76 + 1)))] ∧ μ74 [(.sl 1 l106), (.int .i64 (IntKind.i64.wrap (n76 + 1)))] < μ74 [(.sl 1 l75), (.int .i64 n76)])))))))))
 else
 (K [(.sl 1 l75)]))))
set_option maxRecDepth 100000 in
theorem frees.eq (l1 : List (List V)) (K : List V → Prop) : frees.W l1 K = afn ax frees.ah Tryd.f50 [(.sl 4 l1)] [] (onlyV K) := by kernel_rfl
theorem frees.ok : codeOk tys (hintsOf frees.ah) Tryd.f50.ntmps (Tryd.f50.body.getD .skip) = true := by kernel_rfl
set_option maxHeartbeats 4000000 in
theorem frees.calls {l1 K} (h : frees.W l1 K) : PCalls ax 50 [(.sl 4 l1)] K :=
  afn_run (ah := frees.ah) tysOk fnsOk follows eqOk Tryd.func50 (by kernel_rfl) frees.ok (by kernel_rfl) (Eq.mp (frees.eq l1 K) h)
/-! ### decimal: function 47, augur/augurref03.Decimal -/
def decimal.ah : AH := ⟨[], [(3, ⟨[(3, [.d (.str)], false), (4, [.d (.int .i64)], false)], [], [], []⟩)], [], [], [], [some [.str]], [], []⟩
set_option maxRecDepth 100000 in
def decimal.W (n1 : Int) (K : List V → Prop) : Prop :=
 (∃ (I6 : List V → Prop) (μ7 : List V → Nat), I6 [(.str (⟨#[]⟩ : ByteArray)), (.int .i64 n1)] ∧ (∀ (s8 : ByteArray) (n9 : Int), I6 [(.str s8), (.int .i64 n9)] →
 (IntKind.i64 = IntKind.i64 ∧ (10 : Int) ≠ 0 ∧ (bif (decide ((Int.tmod n9 (10 : Int)) < (0 : Int))) then
 (∃ s10 : ByteArray, [[(.int .u8 (IntKind.u8.wrap (IntKind.i64.wrap (48 + (IntKind.i64.wrap (0 - (Int.tmod n9 (10 : Int))))))))]] = rowsOf s10 ∧ (((s10.size + s8.size : Nat) : Int) ≤ IntKind.i64.max ∧ (IntKind.i64 = IntKind.i64 ∧ (10 : Int) ≠ 0 ∧ (bif ((IntKind.i64.wrap (Int.tdiv n9 (10 : Int))) == (0 : Int)) then
 (bif (decide (n1 < (0 : Int))) then
 ((((⟨#[45]⟩ : ByteArray).size + (s10 ++ s8).size : Nat) : Int) ≤ IntKind.i64.max ∧ (K [(.str ((⟨#[45]⟩ : ByteArray) ++ (s10 ++ s8)))]))
 else
 (K [(.str (s10 ++ s8))]))
 else
 (I6 [(.str (s10 ++ s8)), (.int .i64 (IntKind.i64.wrap (Int.tdiv n9 (10 : Int))))] ∧ μ7 [(.str (s10 ++ s8)), (.int .i64 (IntKind.i64.wrap (Int.tdiv n9 (10 : Int))))] < μ7 [(.str s8), (.int .i64 n9)])))))
 else
 (∃ s11 : ByteArray, [[(.int .u8 (IntKind.u8.wrap (IntKind.i64.wrap (48 + (Int.tmod n9 (10 : Int))))))]] = rowsOf s11 ∧ (((s11.size + s8.size : Nat) : Int) ≤ IntKind.i64.max ∧ (IntKind.i64 = IntKind.i64 ∧ (10 : Int) ≠ 0 ∧ (bif ((IntKind.i64.wrap (Int.tdiv n9 (10 : Int))) == (0 : Int)) then
 (bif (decide (n1 < (0 : Int))) then
 ((((⟨#[45]⟩ : ByteArray).size + (s11 ++ s8).size : Nat) : Int) ≤ IntKind.i64.max ∧ (K [(.str ((⟨#[45]⟩ : ByteArray) ++ (s11 ++ s8)))]))
 else
 (K [(.str (s11 ++ s8))]))
 else
 (I6 [(.str (s11 ++ s8)), (.int .i64 (IntKind.i64.wrap (Int.tdiv n9 (10 : Int))))] ∧ μ7 [(.str (s11 ++ s8)), (.int .i64 (IntKind.i64.wrap (Int.tdiv n9 (10 : Int))))] < μ7 [(.str s8), (.int .i64 n9)])))))))))
set_option maxRecDepth 100000 in
theorem decimal.eq (n1 : Int) (K : List V → Prop) : decimal.W n1 K = afn ax decimal.ah Tryd.f47 [(.int .i64 n1)] [] (onlyV K) := by kernel_rfl
theorem decimal.ok : codeOk tys (hintsOf decimal.ah) Tryd.f47.ntmps (Tryd.f47.body.getD .skip) = true := by kernel_rfl
set_option maxHeartbeats 4000000 in
theorem decimal.calls {n1 K} (h : decimal.W n1 K) : PCalls ax 47 [(.int .i64 n1)] K :=
  afn_run (ah := decimal.ah) tysOk fnsOk follows eqOk Tryd.func47 (by kernel_rfl) decimal.ok (by kernel_rfl) (Eq.mp (decimal.eq n1 K) h)
/-! ### Forms: function 7, augur/augurlaw06.UnifyForms -/
def Forms.ah : AH := ⟨[(12, seqO [0, 1, 2, 3, 4, 5, 6, 7, 8]), (15, seqO [0, 1, 2, 3, 4, 5, 6, 7, 8, 9]), (16, (.one 0 (.one 1 (.one 2 (.one 3 (.one 4 (.one 7 (.one 8 (.one 9 (.one 10 (.one 11 (.alt ((.one 5 (.alt (seqO [6, 12, 13, 14, 15]) (seqO [12, 6, 13, 14, 15])))) (seqO [12, 5, 6, 13, 14, 15]))))))))))))), (21, seqO [0, 1, 3, 4, 5, 2, 6, 7, 8]), (28, seqO [0, 2, 1, 3, 4, 5, 6, 7, 8, 9, 11, 12, 13, 14, 10, 15, 16, 17])], [(10, ⟨[(8, [.nw 9 1 false], false), (9, [.nw 32 4 false], false), (31, [.d (.int .i64)], false)], [], [(0, 57, 0, true)], [1, 2]⟩), (19, ⟨[(73, [.d (.int .i64)], false)], [], [(0, 57, 0, true), (3, 9, 1, true), (4, 32, 4, true)], []⟩), (25, ⟨[(89, [.d (.int .i64)], false)], [], [], []⟩)], [], [(8, ⟨[], [.c (.bool)], []⟩), (10, ⟨[some [.int .i64, .str, .int .i64, .sl 4], some [.int .i64, .str, .int .i64, .sl 4]], [.c (.bool)], []⟩), (22, ⟨[some [.sl 4], some [.sl 4]], [.c (.bool)], []⟩), (23, ⟨[some [.sl 4]], [.c (.sl 4)], []⟩), (24, ⟨[some [.sl 3]], [.c (.sl 1)], []⟩), (25, ⟨[some [.sl 3]], [.c (.sl 1)], []⟩), (26, ⟨[some [.bool, .str, .sl 3], none], [.ag [.int .i64, .str, .int .i64, .sl 4]], [.lst 57 0 true]⟩), (27, ⟨[some [.bool, .str, .sl 3], some [.sl 1], some [.sl 4]], [.ag [.int .i64, .str, .int .i64, .sl 4]], []⟩), (28, ⟨[some [.int .i64, .str, .int .i64, .sl 4]], [.c (.str)], []⟩), (29, ⟨[some [.int .i64, .str, .int .i64, .sl 4]], [.c (.str)], []⟩), (30, ⟨[some [.int .i64, .str, .int .i64, .sl 4], some [.int .i64, .str, .int .i64, .sl 4]], [.c (.bool)], []⟩), (31, ⟨[some [.sl 4]], [.c (.sl 4)], []⟩)], [], [some [.bool]], [], []⟩
set_option maxRecDepth 100000 in
def Forms.W (l1 : List (List V)) (l2 : List (List V)) (K : List V → Prop) : Prop :=
 (PCalls ax 8 [] fun r6 => ∃ (b5 : Bool), r6 = [(.bool b5)] ∧ (bif (!b5) then
 (K [(.bool false)])
 else
 (PCalls ax 24 [(.sl 3 l2)] fun r10 => ∃ (l9 : List (List V)), r10 = [(.sl 1 l9)] ∧ (PCalls ax 25 [(.sl 3 l2)] fun r14 => ∃ (l13 : List (List V)), r14 = [(.sl 1 l13)] ∧ (bif ((List.length l9 : Int) != (List.length l13 : Int)) then
 (K [(.bool false)])
 else
 (∃ (I126 : List V → Prop) (μ127 : List V → Nat), I126 [(.sl 1 []), (.sl 4 []), (.int .i64 0), (.sl 0 [])] ∧ (∀ (l128 : List (List V)) (l129 : List (List V)) (n130 : Int) (l131 : List (List V)), I126 [(.sl 1 l128), (.sl 4 l129), (.int .i64 n130), (.sl 0 l131)] →
 (bif (decide (n130 < (List.length l13 : Int))) then
 (0 ≤ n130 ∧ n130 < (List.length l9 : Int) ∧ (∃ (s134 : ByteArray), List.take 1 (Av.rowAt l9 (n130 : Int).toNat) = [(.str s134)] ∧ (0 ≤ n130 ∧ n130 < (List.length l13 : Int) ∧ (∃ (s135 : ByteArray), List.take 1 (Av.rowAt l13 (n130 : Int).toNat) = [(.str s135)] ∧ (bif (!(strEq s134 s135)) then
 (K [(.bool false)])
 else
 (bif (decide (n130 < (List.length l1 : Int))) then
 (0 ≤ n130 ∧ n130 < (List.length l13 : Int) ∧ (∃ (s141 : ByteArray), List.take 1 (Av.rowAt l13 (n130 : Int).toNat) = [(.str s141)] ∧ (0 ≤ n130 ∧ n130 < (List.length l1 : Int) ∧ (∃ (n142 : Int) (s143 : ByteArray) (n144 : Int) (l145 : List (List V)), List.take 4 (Av.rowAt l1 (n130 : Int).toNat) = [(.int .i64 n142), (.str s143), (.int .i64 n144), (.sl 4 l145)] ∧ (lookS l131 s141 = none ∧ (0 ≤ n130 ∧ n130 < (List.length l13 : Int) ∧ (∃ (s146 : ByteArray), List.take 1 (Av.rowAt l13 (n130 : Int).toNat) = [(.str s146)] ∧ (0 ≤ n130 ∧ n130 < (List.length l1 : Int) ∧ (∃ (n147 : Int) (s148 : ByteArray) (n149 : Int) (l150 : List (List V)), List.take 4 (Av.rowAt l1 (n130 : Int).toNat) = [(.int .i64 n147), (.str s148), (.int .i64 n149), (.sl 4 l150)] ∧ (((((List.length l128) + (List.length ([[(.str s146)]] : List (List V)))) * 16 ≤ 140737488355328 ∧ (List.length l128) + (List.length ([[(.str s146)]] : List (List V))) ≤ 140737488355328 ∧ (((List.length l129) + (List.length ([[(.int .i64 n147), (.str s148), (.int .i64 n149), (.sl 4 l150)]] : List (List V)))) * 56 ≤ 140737488355328 ∧ (List.length l129) + (List.length ([[(.int .i64 n147), (.str s148), (.int .i64 n149), (.sl 4 l150)]] : List (List V))) ≤ 140737488355328 ∧ (I126 [(.sl 1 (l128 ++ [[(.str s146)]])), (.sl 4 (l129 ++ [[(.int .i64 n147), (.str s148), (.int .i64 n149), (.sl 4 l150)]])), (.int .i64 (IntKind.i64.wrap (n130 + 1))), (.sl 0 (l131 ++ [[(.str s141), (.agg [(.int .i64 n142), (.str s143), (.int .i64 n144), (.sl 4 l145)])]]))] ∧ μ127 [(.sl 1 (l128 ++ [[(.str s146)]])), (.sl 4 (l129 ++ [[(.int .i64 n147), (.str s148), (.int .i64 n149), (.sl 4 l150)]])), (.int .i64 (IntKind.i64.wrap (n130 + 1))), (.sl 0 (l131 ++ [[(.str s141), (.agg [(.int .i64 n142), (.str s143), (.int .i64 n144), (.sl 4 l145)])]]))] < μ127 [(.sl 1 l128), (.sl 4 l129), (.int .i64 n130), (.sl 0 l131)]))) ∧ (((List.length l128) + (List.length ([[(.str s146)]] : List (List V)))) * 16 ≤ 140737488355328 ∧ (List.length l128) + (List.length ([[(.str s146)]] : List (List V))) ≤ 140737488355328 ∧ (((List.length l129) + (List.length ([[(.int .i64 n147), (.str s148), (.int .i64 n149), (.sl 4 l150)]] : List (List V)))) * 56 ≤ 140737488355328 ∧ (List.length l129) + (List.length ([[(.int .i64 n147), (.str s148), (.int .i64 n149), (.sl 4 l150)]] : List (List V))) ≤ 140737488355328 ∧ (I126 [(.sl 1 (l128 ++ [[(.str s146)]])), (.sl 4 (l129 ++ [[(.int .i64 n147), (.str s148), (.int .i64 n149), (.sl 4 l150)]])), (.int .i64 (IntKind.i64.wrap (n130 + 1))), (.sl 0 (l131 ++ [[(.str s141), (.agg [(.int .i64 n142), (.str s143), (.int .i64 n144), (.sl 4 l145)])]]))] ∧ μ127 [(.sl 1 (l128 ++ [[(.str s146)]])), (.sl 4 (l129 ++ [[(.int .i64 n147), (.str s148), (.int .i64 n149), (.sl 4 l150)]])), (.int .i64 (IntKind.i64.wrap (n130 + 1))), (.sl 0 (l131 ++ [[(.str s141), (.agg [(.int .i64 n142), (.str s143), (.int .i64 n144), (.sl 4 l145)])]]))] < μ127 [(.sl 1 l128), (.sl 4 l129), (.int .i64 n130), (.sl 0 l131)])))) ∧ (((List.length l128) + (List.length ([[(.str s146)]] : List (List V)))) * 16 ≤ 140737488355328 ∧ (List.length l128) + (List.length ([[(.str s146)]] : List (List V))) ≤ 140737488355328 ∧ (((List.length l129) + (List.length ([[(.int .i64 n147), (.str s148), (.int .i64 n149), (.sl 4 l150)]] : List (List V)))) * 56 ≤ 140737488355328 ∧ (List.length l129) + (List.length ([[(.int .i64 n147), (.str s148), (.int .i64 n149), (.sl 4 l150)]] : List (List V))) ≤ 140737488355328 ∧ (I126 [(.sl 1 (l128 ++ [[(.str s146)]])), (.sl 4 (l129 ++ [[(.int .i64 n147), (.str s148), (.int .i64 n149), (.sl 4 l150)]])), (.int .i64 (IntKind.i64.wrap (n130 + 1))), (.sl 0 (l131 ++ [[(.str s141), (.agg [(.int .i64 n142), (.str s143), (.int .i64 n144), (.sl 4 l145)])]]))] ∧ μ127 [(.sl 1 (l128 ++ [[(.str s146)]])), (.sl 4 (l129 ++ [[(.int .i64 n147), (.str s148), (.int .i64 n149), (.sl 4 l150)]])), (.int .i64 (IntKind.i64.wrap (n130 + 1))), (.sl 0 (l131 ++ [[(.str s141), (.agg [(.int .i64 n142), (.str s143), (.int .i64 n144), (.sl 4 l145)])]]))] < μ127 [(.sl 1 l128), (.sl 4 l129), (.int .i64 n130), (.sl 0 l131)])))))))))))))
 else
 (I126 [(.sl 1 l128), (.sl 4 l129), (.int .i64 (IntKind.i64.wrap (n130 + 1))), (.sl 0 l131)] ∧ μ127 [(.sl 1 l128), (.sl 4 l129), (.int .i64 (IntKind.i64.wrap (n130 + 1))), (.sl 0 l131)] < μ127 [(.sl 1 l128), (.sl 4 l129), (.int .i64 n130), (.sl 0 l131)])))))))
 else
 (∃ (I252 : List V → Prop) (μ253 : List V → Nat), I252 [(.int .i64 0), (.sl 0 l131), (.sl 1 l128), (.sl 4 l129)] ∧ (∀ (n254 : Int) (l255 : List (List V)) (l256 : List (List V)) (l257 : List (List V)), I252 [(.int .i64 n254), (.sl 0 l255), (.sl 1 l256), (.sl 4 l257)] →
 (bif (decide (n254 < (List.length l2 : Int))) then
 (0 ≤ n254 ∧ n254 < (List.length l2 : Int) ∧ (∃ (b258 : Bool) (s259 : ByteArray) (l260 : List (List V)), List.take 3 (Av.rowAt l2 (n254 : Int).toNat) = [(.bool b258), (.str s259), (.sl 3 l260)] ∧ (SCalls ax 26 [(.agg [(.bool b258), (.str s259), (.sl 3 l260)]), (.map 0)] [(.lst 57 0 true l255)] fun r265 o267 => ∃ (n261 : Int) (s262 : ByteArray) (n263 : Int) (l264 : List (List V)) (l266 : List (List V)), r265 = [(.agg [(.int .i64 n261), (.str s262), (.int .i64 n263), (.sl 4 l264)])] ∧ o267 = [(.lst 57 0 true l266)] ∧ (PCalls ax 27 [(.agg [(.bool b258), (.str s259), (.sl 3 l260)]), (.sl 1 l256), (.sl 4 l257)] fun r272 => ∃ (n268 : Int) (s269 : ByteArray) (n270 : Int) (l271 : List (List V)), r272 = [(.agg [(.int .i64 n268), (.str s269), (.int .i64 n270), (.sl 4 l271)])] ∧ (PCalls ax 10 [(.agg [(.int .i64 n261), (.str s262), (.int .i64 n263), (.sl 4 l264)]), (.agg [(.int .i64 n268), (.str s269), (.int .i64 n270), (.sl 4 l271)])] fun r274 => ∃ (b273 : Bool), r274 = [(.bool b273)] ∧ (bif (!b273) then
 (K [(.bool false)])
 else
 (I252 [(.int .i64 (IntKind.i64.wrap (n254 + 1))), (.sl 0 l266), (.sl 1 l256), (.sl 4 l257)] ∧ μ253 [(.int .i64 (IntKind.i64.wrap (n254 + 1))), (.sl 0 l266), (.sl 1 l256), (.sl 4 l257)] < μ253 [(.int .i64 n254), (.sl 0 l255), (.sl 1 l256), (.sl 4 l257)])))))))
 else
 (∃ (I300 : List V → Prop) (μ301 : List V → Nat), I300 [(.int .i64 0)] ∧ (∀ (n302 : Int), I300 [(.int .i64 n302)] →
 (bif (decide (n302 < (List.length l1 : Int))) then
 (0 ≤ n302 ∧ n302 < (List.length l1 : Int) ∧ (∃ (n307 : Int) (s308 : ByteArray) (n309 : Int) (l310 : List (List V)), List.take 4 (Av.rowAt l1 (n302 : Int).toNat) = [(.int .i64 n307), (.str s308), (.int .i64 n309), (.sl 4 l310)] ∧ (bif (decide (n302 > (100 : Int))) then
 (PCalls ax 23 [(.sl 4 l1)] fun r312 => ∃ (l311 : List (List V)), r312 = [(.sl 4 l311)] ∧ (PCalls ax 31 [(.sl 4 l1)] fun r314 => ∃ (l313 : List (List V)), r314 = [(.sl 4 l313)] ∧ (PCalls ax 22 [(.sl 4 l311), (.sl 4 l313)] fun r316 => ∃ (b315 : Bool), r316 = [(.bool b315)] ∧ (K [(.bool b315)]))))
 else
 (PCalls ax 28 [(.agg [(.int .i64 n307), (.str s308), (.int .i64 n309), (.sl 4 l310)])] fun r318 => ∃ (s317 : ByteArray), r318 = [(.str s317)] ∧ (PCalls ax 29 [(.agg [(.int .i64 n307), (.str s308), (.int .i64 n309), (.sl 4 l310)])] fun r320 => ∃ (s319 : ByteArray), r320 = [(.str s319)] ∧ (bif (!(strEq s317 s319)) then (K [(.bool false)]) else (0 ≤ (0 : Int) ∧ (0 : Int) < (List.length l1 : Int) ∧ (∃ (n321 : Int) (s322 : ByteArray) (n323 : Int) (l324 : List (List V)), List.take 4 (Av.rowAt l1 0) = [(.int .i64 n321), (.str s322), (.int .i64 n323), (.sl 4 l324)] ∧ (0 ≤ (0 : Int) ∧ (0 : Int) < (List.length l1 : Int) ∧ (∃ (n325 : Int) (s326 : ByteArray) (n327 : Int) (l328 : List (List V)), List.take 4 (Av.rowAt l1 0) = [(.int .i64 n325), (.str s326), (.int .i64 n327), (.sl 4 l328)] ∧ (PCalls ax 30 [(.agg [(.int .i64 n307), (.str s308), (.int .i64 n309), (.sl 4 l310)]), (.agg [(.int .i64 n321), (.str s322), (.int .i64 n323), (.sl 4 l324)])] fun r330 => ∃ (b329 : Bool), r330 = [(.bool b329)] ∧ (PCalls ax 10 [(.agg [(.int .i64 n307), (.str s308), (.int .i64 n309), (.sl 4 l310)]), (.agg [(.int .i64 n325), (.str s326), (.int .i64 n327), (.sl 4 l328)])] fun r332 => ∃ (b331 : Bool), r332 = [(.bool b331)] ∧ (bif (!(b329 == b331)) then
 (K [(.bool false)])
 else
 (I300 [(.int .i64 (IntKind.i64.wrap (n302 + 1)))] ∧ μ301 [(.int .i64 (IntKind.i64.wrap (n302 + 1)))] < μ301 [(.int .i64 n302)]))))))))))))))
 else
 (PCalls ax 23 [(.sl 4 l1)] fun r334 => ∃ (l333 : List (List V)), r334 = [(.sl 4 l333)] ∧ (PCalls ax 31 [(.sl 4 l1)] fun r336 => ∃ (l335 : List (List V)), r336 = [(.sl 4 l335)] ∧ (PCalls ax 22 [(.sl 4 l333), (.sl 4 l335)] fun r338 => ∃ (b337 : Bool), r338 = [(.bool b337)] ∧ (K [(.bool b337)]))))))))))))))))))
set_option maxRecDepth 100000 in
theorem Forms.eq (l1 : List (List V)) (l2 : List (List V)) (K : List V → Prop) : Forms.W l1 l2 K = afn ax Forms.ah Tryd.f7 [(.sl 4 l1), (.sl 3 l2)] [] (onlyV K) := by kernel_rfl
theorem Forms.ok : codeOk tys (hintsOf Forms.ah) Tryd.f7.ntmps (Tryd.f7.body.getD .skip) = true := by kernel_rfl
set_option maxHeartbeats 4000000 in
theorem Forms.calls {l1 l2 K} (h : Forms.W l1 l2 K) : PCalls ax 7 [(.sl 4 l1), (.sl 3 l2)] K :=
  afn_run (ah := Forms.ah) tysOk fnsOk follows eqOk Tryd.func7 (by kernel_rfl) Forms.ok (by kernel_rfl) (Eq.mp (Forms.eq l1 l2 K) h)
/-! ### plain: function 42, augur/unify.Plain$1 -/
def plain.ah : AH := ⟨[], [(9, ⟨[(7, [.nw 32 4 false], false), (33, [.d (.int .i64)], false)], [(0, [.l (.map 1)]), (2, [.l (.fn 42 [] [(.ptr 0 0), (.ptr 2 0)])])], [(1, 76, 0, false)], []⟩)], [(7, ⟨[], [(3, [.d (.int .i64), .d (.str), .d (.int .i64), .d (.sl 4)])], [(1, 76, 0, false)], []⟩)], [(42, ⟨[some [.int .i64, .str, .int .i64, .sl 4], none, none], [.ag [.int .i64, .str, .int .i64, .sl 4]], [.box [.l (.map 1)], .lst 76 0 false, .box [.l (.fn 42 [] [(.ptr 0 0), (.ptr 2 0)])]]⟩)], [], [some [.int .i64, .str, .int .i64, .sl 4]], [], []⟩
set_option maxRecDepth 100000 in
def plain.W (n1 : Int) (s2 : ByteArray) (n3 : Int) (l4 : List (List V)) (L : List (List V)) (K : List V → List Ob → Prop) : Prop :=
 (∃ J7 : List V → Prop, (bif (n1 == (4 : Int)) then
 ((∀ v8 : V, lookV L n3 = some v8 → ∃ n9 : Int, v8 = (.int .i64 n9) ∧ (J7 [(.int .i64 n1), (.str s2), (.int .i64 n9), (.sl 4 l4), (.sl 0 L)])) ∧ (lookV L n3 = none → (lookV L n3 = none ∧ (J7 [(.int .i64 n1), (.str s2), (.int .i64 (List.length L : Int)), (.sl 4 l4), (.sl 0 (L ++ [[(.int .i64 n3), (.int .i64 (List.length L : Int))]]))]))))
 else
 (J7 [(.int .i64 n1), (.str s2), (.int .i64 n3), (.sl 4 l4), (.sl 0 L)])) ∧
 (∀ (n10 : Int) (s11 : ByteArray) (n12 : Int) (l13 : List (List V)) (l14 : List (List V)), J7 [(.int .i64 n10), (.str s11), (.int .i64 n12), (.sl 4 l13), (.sl 0 l14)] →
 (∃ (I42 : List V → Prop) (μ43 : List V → Nat), I42 [(.sl 4 []), (.int .i64 0), (.sl 0 l14)] ∧ (∀ (l44 : List (List V)) (n45 : Int) (l46 : List (List V)), I42 [(.sl 4 l44), (.int .i64 n45), (.sl 0 l46)] →
 (bif (decide (n45 < (List.length l13 : Int))) then
 (0 ≤ n45 ∧ n45 < (List.length l13 : Int) ∧ (∃ (n47 : Int) (s48 : ByteArray) (n49 : Int) (l50 : List (List V)), List.take 4 (Av.rowAt l13 (n45 : Int).toNat) = [(.int .i64 n47), (.str s48), (.int .i64 n49), (.sl 4 l50)] ∧ (SCalls ax 42 [(.agg [(.int .i64 n47), (.str s48), (.int .i64 n49), (.sl 4 l50)]), (.ptr 0 0), (.ptr 2 0)] [(.box [(.map 1)]), (.lst 76 0 false l46), (.box [(.fn 42 [] [(.ptr 0 0), (.ptr 2 0)])])] fun r55 o57 => ∃ (n51 : Int) (s52 : ByteArray) (n53 : Int) (l54 : List (List V)) (l56 : List (List V)), r55 = [(.agg [(.int .i64 n51), (.str s52), (.int .i64 n53), (.sl 4 l54)])] ∧ o57 = [(.box [(.map 1)]), (.lst 76 0 false l56), (.box [(.fn 42 [] [(.ptr 0 0), (.ptr 2 0)])])] ∧ (((List.length l44) + (List.length ([[(.int .i64 n51), (.str s52), (.int .i64 n53), (.sl 4 l54)]] : List (List V)))) * 56 ≤ 140737488355328 ∧ (List.length l44) + (List.length ([[(.int .i64 n51), (.str s52), (.int .i64 n53), (.sl 4 l54)]] : List (List V))) ≤ 140737488355328 ∧ (I42 [(.sl 4 (l44 ++ [[(.int .i64 n51), (.str s52), (.int .i64 n53), (.sl 4 l54)]])), (.int .i64 (IntKind.i64.wrap (n45 + 1))), (.sl 0 l56)] ∧ μ43 [(.sl 4 (l44 ++ [[(.int .i64 n51), (.str s52), (.int .i64 n53), (.sl 4 l54)]])), (.int .i64 (IntKind.i64.wrap (n45 + 1))), (.sl 0 l56)] < μ43 [(.sl 4 l44), (.int .i64 n45), (.sl 0 l46)])))))
 else
 (K [(.agg [(.int .i64 n10), (.str s11), (.int .i64 n12), (.sl 4 l44)])] [(.box [(.map 1)]), (.lst 76 0 false l46), (.box [(.fn 42 [] [(.ptr 0 0), (.ptr 2 0)])])]))))))
set_option maxRecDepth 100000 in
theorem plain.eq (n1 : Int) (s2 : ByteArray) (n3 : Int) (l4 : List (List V)) (L : List (List V)) (K : List V → List Ob → Prop) : plain.W n1 s2 n3 l4 L K = afn ax plain.ah Tryd.f42 [(.agg [(.int .i64 n1), (.str s2), (.int .i64 n3), (.sl 4 l4)]), (.ptr 0 0), (.ptr 2 0)] [(.box [(.map 1)]), (.lst 76 0 false L), (.box [(.fn 42 [] [(.ptr 0 0), (.ptr 2 0)])])] K := by kernel_rfl
theorem plain.ok : codeOk tys (hintsOf plain.ah) Tryd.f42.ntmps (Tryd.f42.body.getD .skip) = true := by kernel_rfl
set_option maxHeartbeats 4000000 in
theorem plain.calls {n1 s2 n3 l4 L K} (h : plain.W n1 s2 n3 l4 L K) : SCalls ax 42 [(.agg [(.int .i64 n1), (.str s2), (.int .i64 n3), (.sl 4 l4)]), (.ptr 0 0), (.ptr 2 0)] [(.box [(.map 1)]), (.lst 76 0 false L), (.box [(.fn 42 [] [(.ptr 0 0), (.ptr 2 0)])])] K :=
  afn_run (ah := plain.ah) tysOk fnsOk follows eqOk Tryd.func42 (by kernel_rfl) plain.ok (by kernel_rfl) (Eq.mp (plain.eq n1 s2 n3 l4 L K) h)
/-! ### Plain: function 23, augur/unify.Plain -/
def Plain.ah : AH := ⟨[], [(6, ⟨[(5, [.nw 32 4 false], false), (12, [.d (.int .i64)], false)], [(1, [.l (.map 0)]), (2, [.l (.fn 42 [] [(.ptr 1 0), (.ptr 2 0)])])], [(0, 76, 0, false)], []⟩)], [], [(42, ⟨[some [.int .i64, .str, .int .i64, .sl 4], none, none], [.ag [.int .i64, .str, .int .i64, .sl 4]], [.box [.l (.map 1)], .lst 76 0 false, .box [.l (.fn 42 [] [(.ptr 0 0), (.ptr 2 0)])]]⟩)], [], [some [.sl 4]], [], []⟩
set_option maxRecDepth 100000 in
def Plain.W (l1 : List (List V)) (K : List V → Prop) : Prop :=
 (∃ (I29 : List V → Prop) (μ30 : List V → Nat), I29 [(.sl 4 []), (.int .i64 0), (.sl 0 [])] ∧ (∀ (l31 : List (List V)) (n32 : Int) (l33 : List (List V)), I29 [(.sl 4 l31), (.int .i64 n32), (.sl 0 l33)] →
 (bif (decide (n32 < (List.length l1 : Int))) then
 (0 ≤ n32 ∧ n32 < (List.length l1 : Int) ∧ (∃ (n34 : Int) (s35 : ByteArray) (n36 : Int) (l37 : List (List V)), List.take 4 (Av.rowAt l1 (n32 : Int).toNat) = [(.int .i64 n34), (.str s35), (.int .i64 n36), (.sl 4 l37)] ∧ (SCalls ax 42 [(.agg [(.int .i64 n34), (.str s35), (.int .i64 n36), (.sl 4 l37)]), (.ptr 0 0), (.ptr 2 0)] [(.box [(.map 1)]), (.lst 76 0 false l33), (.box [(.fn 42 [] [(.ptr 0 0), (.ptr 2 0)])])] fun r42 o44 => ∃ (n38 : Int) (s39 : ByteArray) (n40 : Int) (l41 : List (List V)) (l43 : List (List V)), r42 = [(.agg [(.int .i64 n38), (.str s39), (.int .i64 n40), (.sl 4 l41)])] ∧ o44 = [(.box [(.map 1)]), (.lst 76 0 false l43), (.box [(.fn 42 [] [(.ptr 0 0), (.ptr 2 0)])])] ∧ (((List.length l31) + (List.length ([[(.int .i64 n38), (.str s39), (.int .i64 n40), (.sl 4 l41)]] : List (List V)))) * 56 ≤ 140737488355328 ∧ (List.length l31) + (List.length ([[(.int .i64 n38), (.str s39), (.int .i64 n40), (.sl 4 l41)]] : List (List V))) ≤ 140737488355328 ∧ (I29 [(.sl 4 (l31 ++ [[(.int .i64 n38), (.str s39), (.int .i64 n40), (.sl 4 l41)]])), (.int .i64 (IntKind.i64.wrap (n32 + 1))), (.sl 0 l43)] ∧ μ30 [(.sl 4 (l31 ++ [[(.int .i64 n38), (.str s39), (.int .i64 n40), (.sl 4 l41)]])), (.int .i64 (IntKind.i64.wrap (n32 + 1))), (.sl 0 l43)] < μ30 [(.sl 4 l31), (.int .i64 n32), (.sl 0 l33)])))))
 else
 (K [(.sl 4 l31)]))))
set_option maxRecDepth 100000 in
theorem Plain.eq (l1 : List (List V)) (K : List V → Prop) : Plain.W l1 K = afn ax Plain.ah Tryd.f23 [(.sl 4 l1)] [] (onlyV K) := by kernel_rfl
theorem Plain.ok : codeOk tys (hintsOf Plain.ah) Tryd.f23.ntmps (Tryd.f23.body.getD .skip) = true := by kernel_rfl
set_option maxHeartbeats 4000000 in
theorem Plain.calls {l1 K} (h : Plain.W l1 K) : PCalls ax 23 [(.sl 4 l1)] K :=
  afn_run (ah := Plain.ah) tysOk fnsOk follows eqOk Tryd.func23 (by kernel_rfl) Plain.ok (by kernel_rfl) (Eq.mp (Plain.eq l1 K) h)
end Go.Proofs.YtdgekhanonfikaaDoor.Va
end
