/- Forms of functions of this seat, as the second executor has them, each tied to the model by the kernel. -/
import Derived.Test.YtahagnfdpemmaaaDoorF3
import Derived.Test.YtahagnfdpemmaaaDoorProg
/- part Y1A -/
section
namespace Go.Proofs.YtahagnfdpemmaaaDoor.Va
set_option maxRecDepth 100000
set_option maxHeartbeats 4000000
open Go.Vx Go.Av
def tys : Tys := [(3, ⟨.int .i64, 1, 8, [.int .i64 0], [.int .i64]⟩),
  (4, ⟨.bool, 1, 1, [.bool false], [.bool]⟩),
  (5, ⟨.int .u8, 1, 1, [.int .u8 0], [.int .u8]⟩),
  (9, ⟨.str, 1, 16, [.string (⟨#[]⟩ : ByteArray)], [.str]⟩),
  (22, ⟨.sl 24, 1, 24, [.slice none 0 0], [.sl]⟩),
  (24, ⟨(.agg [(0, 3), (1, 9), (2, 3), (3, 22)]), 4, 56, [.int .i64 0, .string (⟨#[]⟩ : ByteArray), .int .i64 0, .slice none 0 0], [.int .i64, .str, .int .i64, .sl]⟩),
  (26, ⟨.sl 81, 1, 24, [.slice none 0 0], [.sl]⟩),
  (27, ⟨.sl 56, 1, 24, [.slice none 0 0], [.sl]⟩),
  (28, ⟨.sl 96, 1, 24, [.slice none 0 0], [.sl]⟩),
  (30, ⟨(.agg [(0, 26), (1, 27), (2, 28)]), 3, 72, [.slice none 0 0, .slice none 0 0, .slice none 0 0], [.sl, .sl, .sl]⟩),
  (34, ⟨.sl 39, 1, 24, [.slice none 0 0], [.sl]⟩),
  (39, ⟨(.agg [(0, 4), (1, 3), (2, 9), (3, 34)]), 4, 56, [.bool false, .int .i64 0, .string (⟨#[]⟩ : ByteArray), .slice none 0 0], [.bool, .int .i64, .str, .sl]⟩),
  (41, ⟨.sl 5, 1, 24, [.slice none 0 0], [.sl]⟩),
  (43, ⟨.iface, 1, 16, [.nilIface], [.any]⟩),
  (52, ⟨(.agg [(0, 9), (1, 3)]), 2, 24, [.string (⟨#[]⟩ : ByteArray), .int .i64 0], [.str, .int .i64]⟩),
  (53, ⟨.sl 9, 1, 24, [.slice none 0 0], [.sl]⟩),
  (54, ⟨.sl 103, 1, 24, [.slice none 0 0], [.sl]⟩),
  (56, ⟨(.agg [(0, 52), (2, 9), (3, 53), (4, 54), (5, 3)]), 6, 96, [.string (⟨#[]⟩ : ByteArray), .int .i64 0, .string (⟨#[]⟩ : ByteArray), .slice none 0 0, .slice none 0 0, .int .i64 0], [.str, .int .i64, .str, .sl, .sl, .int .i64]⟩),
  (60, ⟨.fn, 1, 8, [.nilFunc], [.any]⟩),
  (62, ⟨.sl 34, 1, 24, [.slice none 0 0], [.sl]⟩),
  (69, ⟨.ptr 87, 1, 8, [.pointer none], [.ptr]⟩),
  (72, ⟨.sl 91, 1, 24, [.slice none 0 0], [.sl]⟩),
  (73, ⟨.sl 4, 1, 24, [.slice none 0 0], [.sl]⟩),
  (74, ⟨.sl 76, 1, 24, [.slice none 0 0], [.sl]⟩),
  (76, ⟨(.agg [(0, 3), (1, 9), (2, 3), (3, 74)]), 4, 56, [.int .i64 0, .string (⟨#[]⟩ : ByteArray), .int .i64 0, .slice none 0 0], [.int .i64, .str, .int .i64, .sl]⟩),
  (77, ⟨.sl 79, 1, 24, [.slice none 0 0], [.sl]⟩),
  (79, ⟨(.agg [(0, 3), (1, 76), (5, 76), (9, 9), (10, 74), (11, 77)]), 12, 184, [.int .i64 0, .int .i64 0, .string (⟨#[]⟩ : ByteArray), .int .i64 0, .slice none 0 0, .int .i64 0, .string (⟨#[]⟩ : ByteArray), .int .i64 0, .slice none 0 0, .string (⟨#[]⟩ : ByteArray), .slice none 0 0, .slice none 0 0], [.int .i64, .int .i64, .str, .int .i64, .sl, .int .i64, .str, .int .i64, .sl, .str, .sl, .sl]⟩),
  (81, ⟨(.agg [(0, 3), (1, 9), (2, 53), (3, 72), (4, 54), (5, 73), (6, 3), (7, 74), (8, 79)]), 20, 336, [.int .i64 0, .string (⟨#[]⟩ : ByteArray), .slice none 0 0, .slice none 0 0, .slice none 0 0, .slice none 0 0, .int .i64 0, .slice none 0 0, .int .i64 0, .int .i64 0, .string (⟨#[]⟩ : ByteArray), .int .i64 0, .slice none 0 0, .int .i64 0, .string (⟨#[]⟩ : ByteArray), .int .i64 0, .slice none 0 0, .string (⟨#[]⟩ : ByteArray), .slice none 0 0, .slice none 0 0], [.int .i64, .str, .sl, .sl, .sl, .sl, .int .i64, .sl, .int .i64, .int .i64, .str, .int .i64, .sl, .int .i64, .str, .int .i64, .sl, .str, .sl, .sl]⟩),
  (85, ⟨.sl 136, 1, 24, [.slice none 0 0], [.sl]⟩),
  (87, ⟨(.agg [(0, 85), (1, 3), (2, 3)]), 3, 40, [.slice none 0 0, .int .i64 0, .int .i64 0], [.sl, .int .i64, .int .i64]⟩),
  (91, ⟨(.agg [(0, 9), (1, 54)]), 2, 40, [.string (⟨#[]⟩ : ByteArray), .slice none 0 0], [.str, .sl]⟩),
  (93, ⟨.sl 98, 1, 24, [.slice none 0 0], [.sl]⟩),
  (94, ⟨.sl 3, 1, 24, [.slice none 0 0], [.sl]⟩),
  (96, ⟨(.agg [(0, 52), (2, 54), (3, 93), (4, 94)]), 5, 96, [.string (⟨#[]⟩ : ByteArray), .int .i64 0, .slice none 0 0, .slice none 0 0, .slice none 0 0], [.str, .int .i64, .sl, .sl, .sl]⟩),
  (98, ⟨(.agg [(0, 73), (1, 3)]), 2, 32, [.slice none 0 0, .int .i64 0], [.sl, .int .i64]⟩),
  (101, ⟨.map 9 24, 1, 8, [.map none], [.any]⟩),
  (103, ⟨(.agg [(0, 4), (1, 9), (2, 54)]), 3, 48, [.bool false, .string (⟨#[]⟩ : ByteArray), .slice none 0 0], [.bool, .str, .sl]⟩),
  (105, ⟨.fn, 1, 8, [.nilFunc], [.any]⟩),
  (111, ⟨.int .u64, 1, 8, [.int .u64 0], [.int .u64]⟩),
  (130, ⟨.fn, 1, 8, [.nilFunc], [.any]⟩),
  (136, ⟨(.agg [(0, 3), (1, 9), (2, 3)]), 3, 32, [.int .i64 0, .string (⟨#[]⟩ : ByteArray), .int .i64 0], [.int .i64, .str, .int .i64]⟩),
  (131, ⟨.tuple [24, 4], 1, 0, [.tuple #[.agg #[.int .i64 0, .string (⟨#[]⟩ : ByteArray), .int .i64 0, .slice none 0 0], .bool false]], []⟩)]
theorem ty3 : Ty.Ok Tryd.prog 3 ⟨.int .i64, 1, 8, [.int .i64 0], [.int .i64]⟩ := ⟨Tryd.underlying3, by kernel_rfl, by kernel_rfl, rfl⟩
theorem ty4 : Ty.Ok Tryd.prog 4 ⟨.bool, 1, 1, [.bool false], [.bool]⟩ := ⟨Tryd.underlying4, by kernel_rfl, by kernel_rfl, rfl⟩
theorem ty5 : Ty.Ok Tryd.prog 5 ⟨.int .u8, 1, 1, [.int .u8 0], [.int .u8]⟩ := ⟨Tryd.underlying5, by kernel_rfl, by kernel_rfl, rfl⟩
theorem ty9 : Ty.Ok Tryd.prog 9 ⟨.str, 1, 16, [.string (⟨#[]⟩ : ByteArray)], [.str]⟩ := ⟨Tryd.underlying9, by kernel_rfl, by kernel_rfl, rfl⟩
theorem ty22 : Ty.Ok Tryd.prog 22 ⟨.sl 24, 1, 24, [.slice none 0 0], [.sl]⟩ := ⟨Tryd.underlying22, by kernel_rfl, by kernel_rfl, rfl⟩
theorem ty24 : Ty.Ok Tryd.prog 24 ⟨(.agg [(0, 3), (1, 9), (2, 3), (3, 22)]), 4, 56, [.int .i64 0, .string (⟨#[]⟩ : ByteArray), .int .i64 0, .slice none 0 0], [.int .i64, .str, .int .i64, .sl]⟩ := ⟨⟨_, Tryd.underlying24, rfl⟩, by kernel_rfl, by kernel_rfl, rfl⟩
theorem ty26 : Ty.Ok Tryd.prog 26 ⟨.sl 81, 1, 24, [.slice none 0 0], [.sl]⟩ := ⟨Tryd.underlying26, by kernel_rfl, by kernel_rfl, rfl⟩
theorem ty27 : Ty.Ok Tryd.prog 27 ⟨.sl 56, 1, 24, [.slice none 0 0], [.sl]⟩ := ⟨Tryd.underlying27, by kernel_rfl, by kernel_rfl, rfl⟩
theorem ty28 : Ty.Ok Tryd.prog 28 ⟨.sl 96, 1, 24, [.slice none 0 0], [.sl]⟩ := ⟨Tryd.underlying28, by kernel_rfl, by kernel_rfl, rfl⟩
theorem ty30 : Ty.Ok Tryd.prog 30 ⟨(.agg [(0, 26), (1, 27), (2, 28)]), 3, 72, [.slice none 0 0, .slice none 0 0, .slice none 0 0], [.sl, .sl, .sl]⟩ := ⟨⟨_, Tryd.underlying30, rfl⟩, by kernel_rfl, by kernel_rfl, rfl⟩
theorem ty34 : Ty.Ok Tryd.prog 34 ⟨.sl 39, 1, 24, [.slice none 0 0], [.sl]⟩ := ⟨Tryd.underlying34, by kernel_rfl, by kernel_rfl, rfl⟩
theorem ty39 : Ty.Ok Tryd.prog 39 ⟨(.agg [(0, 4), (1, 3), (2, 9), (3, 34)]), 4, 56, [.bool false, .int .i64 0, .string (⟨#[]⟩ : ByteArray), .slice none 0 0], [.bool, .int .i64, .str, .sl]⟩ := ⟨⟨_, Tryd.underlying39, rfl⟩, by kernel_rfl, by kernel_rfl, rfl⟩
theorem ty41 : Ty.Ok Tryd.prog 41 ⟨.sl 5, 1, 24, [.slice none 0 0], [.sl]⟩ := ⟨Tryd.underlying41, by kernel_rfl, by kernel_rfl, rfl⟩
theorem ty43 : Ty.Ok Tryd.prog 43 ⟨.iface, 1, 16, [.nilIface], [.any]⟩ := ⟨⟨_, Tryd.underlying43⟩, by kernel_rfl, by kernel_rfl, rfl⟩
theorem ty52 : Ty.Ok Tryd.prog 52 ⟨(.agg [(0, 9), (1, 3)]), 2, 24, [.string (⟨#[]⟩ : ByteArray), .int .i64 0], [.str, .int .i64]⟩ := ⟨⟨_, Tryd.underlying52, rfl⟩, by kernel_rfl, by kernel_rfl, rfl⟩
theorem ty53 : Ty.Ok Tryd.prog 53 ⟨.sl 9, 1, 24, [.slice none 0 0], [.sl]⟩ := ⟨Tryd.underlying53, by kernel_rfl, by kernel_rfl, rfl⟩
theorem ty54 : Ty.Ok Tryd.prog 54 ⟨.sl 103, 1, 24, [.slice none 0 0], [.sl]⟩ := ⟨Tryd.underlying54, by kernel_rfl, by kernel_rfl, rfl⟩
theorem ty56 : Ty.Ok Tryd.prog 56 ⟨(.agg [(0, 52), (2, 9), (3, 53), (4, 54), (5, 3)]), 6, 96, [.string (⟨#[]⟩ : ByteArray), .int .i64 0, .string (⟨#[]⟩ : ByteArray), .slice none 0 0, .slice none 0 0, .int .i64 0], [.str, .int .i64, .str, .sl, .sl, .int .i64]⟩ := ⟨⟨_, Tryd.underlying56, rfl⟩, by kernel_rfl, by kernel_rfl, rfl⟩
theorem ty60 : Ty.Ok Tryd.prog 60 ⟨.fn, 1, 8, [.nilFunc], [.any]⟩ := ⟨⟨_, _, _, Tryd.underlying60⟩, by kernel_rfl, by kernel_rfl, rfl⟩
theorem ty62 : Ty.Ok Tryd.prog 62 ⟨.sl 34, 1, 24, [.slice none 0 0], [.sl]⟩ := ⟨Tryd.underlying62, by kernel_rfl, by kernel_rfl, rfl⟩
theorem ty69 : Ty.Ok Tryd.prog 69 ⟨.ptr 87, 1, 8, [.pointer none], [.ptr]⟩ := ⟨Tryd.underlying69, by kernel_rfl, by kernel_rfl, rfl⟩
theorem ty72 : Ty.Ok Tryd.prog 72 ⟨.sl 91, 1, 24, [.slice none 0 0], [.sl]⟩ := ⟨Tryd.underlying72, by kernel_rfl, by kernel_rfl, rfl⟩
theorem ty73 : Ty.Ok Tryd.prog 73 ⟨.sl 4, 1, 24, [.slice none 0 0], [.sl]⟩ := ⟨Tryd.underlying73, by kernel_rfl, by kernel_rfl, rfl⟩
theorem ty74 : Ty.Ok Tryd.prog 74 ⟨.sl 76, 1, 24, [.slice none 0 0], [.sl]⟩ := ⟨Tryd.underlying74, by kernel_rfl, by kernel_rfl, rfl⟩
theorem ty76 : Ty.Ok Tryd.prog 76 ⟨(.agg [(0, 3), (1, 9), (2, 3), (3, 74)]), 4, 56, [.int .i64 0, .string (⟨#[]⟩ : ByteArray), .int .i64 0, .slice none 0 0], [.int .i64, .str, .int .i64, .sl]⟩ := ⟨⟨_, Tryd.underlying76, rfl⟩, by kernel_rfl, by kernel_rfl, rfl⟩
theorem ty77 : Ty.Ok Tryd.prog 77 ⟨.sl 79, 1, 24, [.slice none 0 0], [.sl]⟩ := ⟨Tryd.underlying77, by kernel_rfl, by kernel_rfl, rfl⟩
theorem ty79 : Ty.Ok Tryd.prog 79 ⟨(.agg [(0, 3), (1, 76), (5, 76), (9, 9), (10, 74), (11, 77)]), 12, 184, [.int .i64 0, .int .i64 0, .string (⟨#[]⟩ : ByteArray), .int .i64 0, .slice none 0 0, .int .i64 0, .string (⟨#[]⟩ : ByteArray), .int .i64 0, .slice none 0 0, .string (⟨#[]⟩ : ByteArray), .slice none 0 0, .slice none 0 0], [.int .i64, .int .i64, .str, .int .i64, .sl, .int .i64, .str, .int .i64, .sl, .str, .sl, .sl]⟩ := ⟨⟨_, Tryd.underlying79, rfl⟩, by kernel_rfl, by kernel_rfl, rfl⟩
theorem ty81 : Ty.Ok Tryd.prog 81 ⟨(.agg [(0, 3), (1, 9), (2, 53), (3, 72), (4, 54), (5, 73), (6, 3), (7, 74), (8, 79)]), 20, 336, [.int .i64 0, .string (⟨#[]⟩ : ByteArray), .slice none 0 0, .slice none 0 0, .slice none 0 0, .slice none 0 0, .int .i64 0, .slice none 0 0, .int .i64 0, .int .i64 0, .string (⟨#[]⟩ : ByteArray), .int .i64 0, .slice none 0 0, .int .i64 0, .string (⟨#[]⟩ : ByteArray), .int .i64 0, .slice none 0 0, .string (⟨#[]⟩ : ByteArray), .slice none 0 0, .slice none 0 0], [.int .i64, .str, .sl, .sl, .sl, .sl, .int .i64, .sl, .int .i64, .int .i64, .str, .int .i64, .sl, .int .i64, .str, .int .i64, .sl, .str, .sl, .sl]⟩ := ⟨⟨_, Tryd.underlying81, rfl⟩, by kernel_rfl, by kernel_rfl, rfl⟩
theorem ty85 : Ty.Ok Tryd.prog 85 ⟨.sl 136, 1, 24, [.slice none 0 0], [.sl]⟩ := ⟨Tryd.underlying85, by kernel_rfl, by kernel_rfl, rfl⟩
theorem ty87 : Ty.Ok Tryd.prog 87 ⟨(.agg [(0, 85), (1, 3), (2, 3)]), 3, 40, [.slice none 0 0, .int .i64 0, .int .i64 0], [.sl, .int .i64, .int .i64]⟩ := ⟨⟨_, Tryd.underlying87, rfl⟩, by kernel_rfl, by kernel_rfl, rfl⟩
theorem ty91 : Ty.Ok Tryd.prog 91 ⟨(.agg [(0, 9), (1, 54)]), 2, 40, [.string (⟨#[]⟩ : ByteArray), .slice none 0 0], [.str, .sl]⟩ := ⟨⟨_, Tryd.underlying91, rfl⟩, by kernel_rfl, by kernel_rfl, rfl⟩
theorem ty93 : Ty.Ok Tryd.prog 93 ⟨.sl 98, 1, 24, [.slice none 0 0], [.sl]⟩ := ⟨Tryd.underlying93, by kernel_rfl, by kernel_rfl, rfl⟩
theorem ty94 : Ty.Ok Tryd.prog 94 ⟨.sl 3, 1, 24, [.slice none 0 0], [.sl]⟩ := ⟨Tryd.underlying94, by kernel_rfl, by kernel_rfl, rfl⟩
theorem ty96 : Ty.Ok Tryd.prog 96 ⟨(.agg [(0, 52), (2, 54), (3, 93), (4, 94)]), 5, 96, [.string (⟨#[]⟩ : ByteArray), .int .i64 0, .slice none 0 0, .slice none 0 0, .slice none 0 0], [.str, .int .i64, .sl, .sl, .sl]⟩ := ⟨⟨_, Tryd.underlying96, rfl⟩, by kernel_rfl, by kernel_rfl, rfl⟩
theorem ty98 : Ty.Ok Tryd.prog 98 ⟨(.agg [(0, 73), (1, 3)]), 2, 32, [.slice none 0 0, .int .i64 0], [.sl, .int .i64]⟩ := ⟨⟨_, Tryd.underlying98, rfl⟩, by kernel_rfl, by kernel_rfl, rfl⟩
theorem ty101 : Ty.Ok Tryd.prog 101 ⟨.map 9 24, 1, 8, [.map none], [.any]⟩ := ⟨Tryd.underlying101, by kernel_rfl, by kernel_rfl, rfl⟩
theorem ty103 : Ty.Ok Tryd.prog 103 ⟨(.agg [(0, 4), (1, 9), (2, 54)]), 3, 48, [.bool false, .string (⟨#[]⟩ : ByteArray), .slice none 0 0], [.bool, .str, .sl]⟩ := ⟨⟨_, Tryd.underlying103, rfl⟩, by kernel_rfl, by kernel_rfl, rfl⟩
theorem ty105 : Ty.Ok Tryd.prog 105 ⟨.fn, 1, 8, [.nilFunc], [.any]⟩ := ⟨⟨_, _, _, Tryd.underlying105⟩, by kernel_rfl, by kernel_rfl, rfl⟩
theorem ty111 : Ty.Ok Tryd.prog 111 ⟨.int .u64, 1, 8, [.int .u64 0], [.int .u64]⟩ := ⟨Tryd.underlying111, by kernel_rfl, by kernel_rfl, rfl⟩
theorem ty130 : Ty.Ok Tryd.prog 130 ⟨.fn, 1, 8, [.nilFunc], [.any]⟩ := ⟨⟨_, _, _, Tryd.underlying130⟩, by kernel_rfl, by kernel_rfl, rfl⟩
theorem ty136 : Ty.Ok Tryd.prog 136 ⟨(.agg [(0, 3), (1, 9), (2, 3)]), 3, 32, [.int .i64 0, .string (⟨#[]⟩ : ByteArray), .int .i64 0], [.int .i64, .str, .int .i64]⟩ := ⟨⟨_, Tryd.underlying136, rfl⟩, by kernel_rfl, by kernel_rfl, rfl⟩
theorem ty131 : Ty.Ok Tryd.prog 131 ⟨.tuple [24, 4], 1, 0, [.tuple #[.agg #[.int .i64 0, .string (⟨#[]⟩ : ByteArray), .int .i64 0, .slice none 0 0], .bool false]], []⟩ := ⟨trivial, by kernel_rfl, by kernel_rfl, rfl⟩
theorem tysOk : AllOk Tryd.prog tys := ⟨ty3, ty4, ty5, ty9, ty22, ty24, ty26, ty27, ty28, ty30, ty34, ty39, ty41, ty43, ty52, ty53, ty54, ty56, ty60, ty62, ty69, ty72, ty73, ty74, ty76, ty77, ty79, ty81, ty85, ty87, ty91, ty93, ty94, ty96, ty98, ty101, ty103, ty105, ty111, ty130, ty136, ty131, trivial⟩
def fns : Fns := [(4, [4]), (5, [26, 30, 4]), (6, [3]), (7, [34]), (8, [34]), (9, [4]), (10, [3]), (11, [41, 43]), (12, [26, 3]), (13, [30, 4]), (14, [27]), (15, [22, 4]), (16, [60]), (17, [27]), (18, [22, 4]), (19, [4]), (20, [3]), (21, [3]), (22, [3]), (23, [4]), (24, [41, 43]), (25, [69]), (26, [4]), (27, []), (28, [81]), (29, []), (30, [3]), (31, [28]), (32, [4]), (33, [52]), (34, [56, 4]), (35, [24]), (37, [56, 4]), (38, [24]), (39, [3]), (40, [4]), (41, [4]), (42, [3, 4]), (43, [85, 3]), (44, [4]), (45, [9]), (46, [4]), (47, [91]), (48, [103]), (49, [76]), (50, [79]), (51, [3, 3]), (52, [4]), (53, [3]), (54, [4]), (55, [4]), (56, [3]), (57, [4]), (58, [4]), (59, [4]), (60, [56, 4]), (61, [52]), (62, [24]), (63, [94, 85, 4]), (64, [4]), (65, [4]), (66, []), (67, [79]), (68, [3]), (69, [4]), (70, [136, 4]), (71, [4]), (72, [4]), (73, [3, 4])]
theorem fnOk4 : ∃ fn, Tryd.prog.funcs[4]? = some fn ∧ (fn.name == "runtime.NumGoroutine") = false ∧ fn.body.isNone = false := ⟨_, Tryd.func4, by kernel_rfl, by kernel_rfl⟩
theorem fnOk5 : ∃ fn, Tryd.prog.funcs[5]? = some fn ∧ (fn.name == "runtime.NumGoroutine") = false ∧ fn.body.isNone = false := ⟨_, Tryd.func5, by kernel_rfl, by kernel_rfl⟩
theorem fnOk6 : ∃ fn, Tryd.prog.funcs[6]? = some fn ∧ (fn.name == "runtime.NumGoroutine") = false ∧ fn.body.isNone = false := ⟨_, Tryd.func6, by kernel_rfl, by kernel_rfl⟩
theorem fnOk7 : ∃ fn, Tryd.prog.funcs[7]? = some fn ∧ (fn.name == "runtime.NumGoroutine") = false ∧ fn.body.isNone = false := ⟨_, Tryd.func7, by kernel_rfl, by kernel_rfl⟩
theorem fnOk8 : ∃ fn, Tryd.prog.funcs[8]? = some fn ∧ (fn.name == "runtime.NumGoroutine") = false ∧ fn.body.isNone = false := ⟨_, Tryd.func8, by kernel_rfl, by kernel_rfl⟩
theorem fnOk9 : ∃ fn, Tryd.prog.funcs[9]? = some fn ∧ (fn.name == "runtime.NumGoroutine") = false ∧ fn.body.isNone = false := ⟨_, Tryd.func9, by kernel_rfl, by kernel_rfl⟩
theorem fnOk10 : ∃ fn, Tryd.prog.funcs[10]? = some fn ∧ (fn.name == "runtime.NumGoroutine") = false ∧ fn.body.isNone = false := ⟨_, Tryd.func10, by kernel_rfl, by kernel_rfl⟩
theorem fnOk11 : ∃ fn, Tryd.prog.funcs[11]? = some fn ∧ (fn.name == "runtime.NumGoroutine") = false ∧ fn.body.isNone = false := ⟨_, Tryd.func11, by kernel_rfl, by kernel_rfl⟩
theorem fnOk12 : ∃ fn, Tryd.prog.funcs[12]? = some fn ∧ (fn.name == "runtime.NumGoroutine") = false ∧ fn.body.isNone = false := ⟨_, Tryd.func12, by kernel_rfl, by kernel_rfl⟩
theorem fnOk13 : ∃ fn, Tryd.prog.funcs[13]? = some fn ∧ (fn.name == "runtime.NumGoroutine") = false ∧ fn.body.isNone = false := ⟨_, Tryd.func13, by kernel_rfl, by kernel_rfl⟩
theorem fnOk14 : ∃ fn, Tryd.prog.funcs[14]? = some fn ∧ (fn.name == "runtime.NumGoroutine") = false ∧ fn.body.isNone = false := ⟨_, Tryd.func14, by kernel_rfl, by kernel_rfl⟩
theorem fnOk15 : ∃ fn, Tryd.prog.funcs[15]? = some fn ∧ (fn.name == "runtime.NumGoroutine") = false ∧ fn.body.isNone = false := ⟨_, Tryd.func15, by kernel_rfl, by kernel_rfl⟩
theorem fnOk16 : ∃ fn, Tryd.prog.funcs[16]? = some fn ∧ (fn.name == "runtime.NumGoroutine") = false ∧ fn.body.isNone = false := ⟨_, Tryd.func16, by kernel_rfl, by kernel_rfl⟩
theorem fnOk17 : ∃ fn, Tryd.prog.funcs[17]? = some fn ∧ (fn.name == "runtime.NumGoroutine") = false ∧ fn.body.isNone = false := ⟨_, Tryd.func17, by kernel_rfl, by kernel_rfl⟩
theorem fnOk18 : ∃ fn, Tryd.prog.funcs[18]? = some fn ∧ (fn.name == "runtime.NumGoroutine") = false ∧ fn.body.isNone = false := ⟨_, Tryd.func18, by kernel_rfl, by kernel_rfl⟩
theorem fnOk19 : ∃ fn, Tryd.prog.funcs[19]? = some fn ∧ (fn.name == "runtime.NumGoroutine") = false ∧ fn.body.isNone = false := ⟨_, Tryd.func19, by kernel_rfl, by kernel_rfl⟩
theorem fnOk20 : ∃ fn, Tryd.prog.funcs[20]? = some fn ∧ (fn.name == "runtime.NumGoroutine") = false ∧ fn.body.isNone = false := ⟨_, Tryd.func20, by kernel_rfl, by kernel_rfl⟩
theorem fnOk21 : ∃ fn, Tryd.prog.funcs[21]? = some fn ∧ (fn.name == "runtime.NumGoroutine") = false ∧ fn.body.isNone = false := ⟨_, Tryd.func21, by kernel_rfl, by kernel_rfl⟩
theorem fnOk22 : ∃ fn, Tryd.prog.funcs[22]? = some fn ∧ (fn.name == "runtime.NumGoroutine") = false ∧ fn.body.isNone = false := ⟨_, Tryd.func22, by kernel_rfl, by kernel_rfl⟩
theorem fnOk23 : ∃ fn, Tryd.prog.funcs[23]? = some fn ∧ (fn.name == "runtime.NumGoroutine") = false ∧ fn.body.isNone = false := ⟨_, Tryd.func23, by kernel_rfl, by kernel_rfl⟩
theorem fnOk24 : ∃ fn, Tryd.prog.funcs[24]? = some fn ∧ (fn.name == "runtime.NumGoroutine") = false ∧ fn.body.isNone = false := ⟨_, Tryd.func24, by kernel_rfl, by kernel_rfl⟩
theorem fnOk25 : ∃ fn, Tryd.prog.funcs[25]? = some fn ∧ (fn.name == "runtime.NumGoroutine") = false ∧ fn.body.isNone = false := ⟨_, Tryd.func25, by kernel_rfl, by kernel_rfl⟩
theorem fnOk26 : ∃ fn, Tryd.prog.funcs[26]? = some fn ∧ (fn.name == "runtime.NumGoroutine") = false ∧ fn.body.isNone = false := ⟨_, Tryd.func26, by kernel_rfl, by kernel_rfl⟩
theorem fnOk27 : ∃ fn, Tryd.prog.funcs[27]? = some fn ∧ (fn.name == "runtime.NumGoroutine") = false ∧ fn.body.isNone = false := ⟨_, Tryd.func27, by kernel_rfl, by kernel_rfl⟩
theorem fnOk28 : ∃ fn, Tryd.prog.funcs[28]? = some fn ∧ (fn.name == "runtime.NumGoroutine") = false ∧ fn.body.isNone = false := ⟨_, Tryd.func28, by kernel_rfl, by kernel_rfl⟩
theorem fnOk29 : ∃ fn, Tryd.prog.funcs[29]? = some fn ∧ (fn.name == "runtime.NumGoroutine") = false ∧ fn.body.isNone = false := ⟨_, Tryd.func29, by kernel_rfl, by kernel_rfl⟩
theorem fnOk30 : ∃ fn, Tryd.prog.funcs[30]? = some fn ∧ (fn.name == "runtime.NumGoroutine") = false ∧ fn.body.isNone = false := ⟨_, Tryd.func30, by kernel_rfl, by kernel_rfl⟩
theorem fnOk31 : ∃ fn, Tryd.prog.funcs[31]? = some fn ∧ (fn.name == "runtime.NumGoroutine") = false ∧ fn.body.isNone = false := ⟨_, Tryd.func31, by kernel_rfl, by kernel_rfl⟩
theorem fnOk32 : ∃ fn, Tryd.prog.funcs[32]? = some fn ∧ (fn.name == "runtime.NumGoroutine") = false ∧ fn.body.isNone = false := ⟨_, Tryd.func32, by kernel_rfl, by kernel_rfl⟩
theorem fnOk33 : ∃ fn, Tryd.prog.funcs[33]? = some fn ∧ (fn.name == "runtime.NumGoroutine") = false ∧ fn.body.isNone = false := ⟨_, Tryd.func33, by kernel_rfl, by kernel_rfl⟩
theorem fnOk34 : ∃ fn, Tryd.prog.funcs[34]? = some fn ∧ (fn.name == "runtime.NumGoroutine") = false ∧ fn.body.isNone = false := ⟨_, Tryd.func34, by kernel_rfl, by kernel_rfl⟩
theorem fnOk35 : ∃ fn, Tryd.prog.funcs[35]? = some fn ∧ (fn.name == "runtime.NumGoroutine") = false ∧ fn.body.isNone = false := ⟨_, Tryd.func35, by kernel_rfl, by kernel_rfl⟩
theorem fnOk37 : ∃ fn, Tryd.prog.funcs[37]? = some fn ∧ (fn.name == "runtime.NumGoroutine") = false ∧ fn.body.isNone = false := ⟨_, Tryd.func37, by kernel_rfl, by kernel_rfl⟩
theorem fnOk38 : ∃ fn, Tryd.prog.funcs[38]? = some fn ∧ (fn.name == "runtime.NumGoroutine") = false ∧ fn.body.isNone = false := ⟨_, Tryd.func38, by kernel_rfl, by kernel_rfl⟩
theorem fnOk39 : ∃ fn, Tryd.prog.funcs[39]? = some fn ∧ (fn.name == "runtime.NumGoroutine") = false ∧ fn.body.isNone = false := ⟨_, Tryd.func39, by kernel_rfl, by kernel_rfl⟩
theorem fnOk40 : ∃ fn, Tryd.prog.funcs[40]? = some fn ∧ (fn.name == "runtime.NumGoroutine") = false ∧ fn.body.isNone = false := ⟨_, Tryd.func40, by kernel_rfl, by kernel_rfl⟩
theorem fnOk41 : ∃ fn, Tryd.prog.funcs[41]? = some fn ∧ (fn.name == "runtime.NumGoroutine") = false ∧ fn.body.isNone = false := ⟨_, Tryd.func41, by kernel_rfl, by kernel_rfl⟩
theorem fnOk42 : ∃ fn, Tryd.prog.funcs[42]? = some fn ∧ (fn.name == "runtime.NumGoroutine") = false ∧ fn.body.isNone = false := ⟨_, Tryd.func42, by kernel_rfl, by kernel_rfl⟩
theorem fnOk43 : ∃ fn, Tryd.prog.funcs[43]? = some fn ∧ (fn.name == "runtime.NumGoroutine") = false ∧ fn.body.isNone = false := ⟨_, Tryd.func43, by kernel_rfl, by kernel_rfl⟩
theorem fnOk44 : ∃ fn, Tryd.prog.funcs[44]? = some fn ∧ (fn.name == "runtime.NumGoroutine") = false ∧ fn.body.isNone = false := ⟨_, Tryd.func44, by kernel_rfl, by kernel_rfl⟩
theorem fnOk45 : ∃ fn, Tryd.prog.funcs[45]? = some fn ∧ (fn.name == "runtime.NumGoroutine") = false ∧ fn.body.isNone = false := ⟨_, Tryd.func45, by kernel_rfl, by kernel_rfl⟩
theorem fnOk46 : ∃ fn, Tryd.prog.funcs[46]? = some fn ∧ (fn.name == "runtime.NumGoroutine") = false ∧ fn.body.isNone = false := ⟨_, Tryd.func46, by kernel_rfl, by kernel_rfl⟩
theorem fnOk47 : ∃ fn, Tryd.prog.funcs[47]? = some fn ∧ (fn.name == "runtime.NumGoroutine") = false ∧ fn.body.isNone = false := ⟨_, Tryd.func47, by kernel_rfl, by kernel_rfl⟩
theorem fnOk48 : ∃ fn, Tryd.prog.funcs[48]? = some fn ∧ (fn.name == "runtime.NumGoroutine") = false ∧ fn.body.isNone = false := ⟨_, Tryd.func48, by kernel_rfl, by kernel_rfl⟩
theorem fnOk49 : ∃ fn, Tryd.prog.funcs[49]? = some fn ∧ (fn.name == "runtime.NumGoroutine") = false ∧ fn.body.isNone = false := ⟨_, Tryd.func49, by kernel_rfl, by kernel_rfl⟩
theorem fnOk50 : ∃ fn, Tryd.prog.funcs[50]? = some fn ∧ (fn.name == "runtime.NumGoroutine") = false ∧ fn.body.isNone = false := ⟨_, Tryd.func50, by kernel_rfl, by kernel_rfl⟩
theorem fnOk51 : ∃ fn, Tryd.prog.funcs[51]? = some fn ∧ (fn.name == "runtime.NumGoroutine") = false ∧ fn.body.isNone = false := ⟨_, Tryd.func51, by kernel_rfl, by kernel_rfl⟩
theorem fnOk52 : ∃ fn, Tryd.prog.funcs[52]? = some fn ∧ (fn.name == "runtime.NumGoroutine") = false ∧ fn.body.isNone = false := ⟨_, Tryd.func52, by kernel_rfl, by kernel_rfl⟩
theorem fnOk53 : ∃ fn, Tryd.prog.funcs[53]? = some fn ∧ (fn.name == "runtime.NumGoroutine") = false ∧ fn.body.isNone = false := ⟨_, Tryd.func53, by kernel_rfl, by kernel_rfl⟩
theorem fnOk54 : ∃ fn, Tryd.prog.funcs[54]? = some fn ∧ (fn.name == "runtime.NumGoroutine") = false ∧ fn.body.isNone = false := ⟨_, Tryd.func54, by kernel_rfl, by kernel_rfl⟩
theorem fnOk55 : ∃ fn, Tryd.prog.funcs[55]? = some fn ∧ (fn.name == "runtime.NumGoroutine") = false ∧ fn.body.isNone = false := ⟨_, Tryd.func55, by kernel_rfl, by kernel_rfl⟩
theorem fnOk56 : ∃ fn, Tryd.prog.funcs[56]? = some fn ∧ (fn.name == "runtime.NumGoroutine") = false ∧ fn.body.isNone = false := ⟨_, Tryd.func56, by kernel_rfl, by kernel_rfl⟩
theorem fnOk57 : ∃ fn, Tryd.prog.funcs[57]? = some fn ∧ (fn.name == "runtime.NumGoroutine") = false ∧ fn.body.isNone = false := ⟨_, Tryd.func57, by kernel_rfl, by kernel_rfl⟩
theorem fnOk58 : ∃ fn, Tryd.prog.funcs[58]? = some fn ∧ (fn.name == "runtime.NumGoroutine") = false ∧ fn.body.isNone = false := ⟨_, Tryd.func58, by kernel_rfl, by kernel_rfl⟩
theorem fnOk59 : ∃ fn, Tryd.prog.funcs[59]? = some fn ∧ (fn.name == "runtime.NumGoroutine") = false ∧ fn.body.isNone = false := ⟨_, Tryd.func59, by kernel_rfl, by kernel_rfl⟩
theorem fnOk60 : ∃ fn, Tryd.prog.funcs[60]? = some fn ∧ (fn.name == "runtime.NumGoroutine") = false ∧ fn.body.isNone = false := ⟨_, Tryd.func60, by kernel_rfl, by kernel_rfl⟩
theorem fnOk61 : ∃ fn, Tryd.prog.funcs[61]? = some fn ∧ (fn.name == "runtime.NumGoroutine") = false ∧ fn.body.isNone = false := ⟨_, Tryd.func61, by kernel_rfl, by kernel_rfl⟩
theorem fnOk62 : ∃ fn, Tryd.prog.funcs[62]? = some fn ∧ (fn.name == "runtime.NumGoroutine") = false ∧ fn.body.isNone = false := ⟨_, Tryd.func62, by kernel_rfl, by kernel_rfl⟩
theorem fnOk63 : ∃ fn, Tryd.prog.funcs[63]? = some fn ∧ (fn.name == "runtime.NumGoroutine") = false ∧ fn.body.isNone = false := ⟨_, Tryd.func63, by kernel_rfl, by kernel_rfl⟩
theorem fnOk64 : ∃ fn, Tryd.prog.funcs[64]? = some fn ∧ (fn.name == "runtime.NumGoroutine") = false ∧ fn.body.isNone = false := ⟨_, Tryd.func64, by kernel_rfl, by kernel_rfl⟩
theorem fnOk65 : ∃ fn, Tryd.prog.funcs[65]? = some fn ∧ (fn.name == "runtime.NumGoroutine") = false ∧ fn.body.isNone = false := ⟨_, Tryd.func65, by kernel_rfl, by kernel_rfl⟩
theorem fnOk66 : ∃ fn, Tryd.prog.funcs[66]? = some fn ∧ (fn.name == "runtime.NumGoroutine") = false ∧ fn.body.isNone = false := ⟨_, Tryd.func66, by kernel_rfl, by kernel_rfl⟩
theorem fnOk67 : ∃ fn, Tryd.prog.funcs[67]? = some fn ∧ (fn.name == "runtime.NumGoroutine") = false ∧ fn.body.isNone = false := ⟨_, Tryd.func67, by kernel_rfl, by kernel_rfl⟩
theorem fnOk68 : ∃ fn, Tryd.prog.funcs[68]? = some fn ∧ (fn.name == "runtime.NumGoroutine") = false ∧ fn.body.isNone = false := ⟨_, Tryd.func68, by kernel_rfl, by kernel_rfl⟩
theorem fnOk69 : ∃ fn, Tryd.prog.funcs[69]? = some fn ∧ (fn.name == "runtime.NumGoroutine") = false ∧ fn.body.isNone = false := ⟨_, Tryd.func69, by kernel_rfl, by kernel_rfl⟩
theorem fnOk70 : ∃ fn, Tryd.prog.funcs[70]? = some fn ∧ (fn.name == "runtime.NumGoroutine") = false ∧ fn.body.isNone = false := ⟨_, Tryd.func70, by kernel_rfl, by kernel_rfl⟩
theorem fnOk71 : ∃ fn, Tryd.prog.funcs[71]? = some fn ∧ (fn.name == "runtime.NumGoroutine") = false ∧ fn.body.isNone = false := ⟨_, Tryd.func71, by kernel_rfl, by kernel_rfl⟩
theorem fnOk72 : ∃ fn, Tryd.prog.funcs[72]? = some fn ∧ (fn.name == "runtime.NumGoroutine") = false ∧ fn.body.isNone = false := ⟨_, Tryd.func72, by kernel_rfl, by kernel_rfl⟩
theorem fnOk73 : ∃ fn, Tryd.prog.funcs[73]? = some fn ∧ (fn.name == "runtime.NumGoroutine") = false ∧ fn.body.isNone = false := ⟨_, Tryd.func73, by kernel_rfl, by kernel_rfl⟩
theorem fnsOk : FnsOk Tryd.prog fns := ⟨fnOk4, fnOk5, fnOk6, fnOk7, fnOk8, fnOk9, fnOk10, fnOk11, fnOk12, fnOk13, fnOk14, fnOk15, fnOk16, fnOk17, fnOk18, fnOk19, fnOk20, fnOk21, fnOk22, fnOk23, fnOk24, fnOk25, fnOk26, fnOk27, fnOk28, fnOk29, fnOk30, fnOk31, fnOk32, fnOk33, fnOk34, fnOk35, fnOk37, fnOk38, fnOk39, fnOk40, fnOk41, fnOk42, fnOk43, fnOk44, fnOk45, fnOk46, fnOk47, fnOk48, fnOk49, fnOk50, fnOk51, fnOk52, fnOk53, fnOk54, fnOk55, fnOk56, fnOk57, fnOk58, fnOk59, fnOk60, fnOk61, fnOk62, fnOk63, fnOk64, fnOk65, fnOk66, fnOk67, fnOk68, fnOk69, fnOk70, fnOk71, fnOk72, fnOk73, trivial⟩
theorem follows : Tryd.prog.follows .mixedOrders = true := by kernel_rfl
def ats : Ats := [(3, [.int .i64]), (4, [.bool]), (5, [.int .u8]), (9, [.str]), (24, [.int .i64, .str, .int .i64, .sl 4]), (34, [.sl 4]), (39, [.bool, .int .i64, .str, .sl 4]), (52, [.str, .int .i64]), (56, [.str, .int .i64, .str, .sl 1, .sl 3, .int .i64]), (76, [.int .i64, .str, .int .i64, .sl 4]), (79, [.int .i64, .int .i64, .str, .int .i64, .sl 4, .int .i64, .str, .int .i64, .sl 4, .str, .sl 4, .sl 12]), (81, [.int .i64, .str, .sl 1, .sl 2, .sl 3, .sl 1, .int .i64, .sl 4, .int .i64, .int .i64, .str, .int .i64, .sl 4, .int .i64, .str, .int .i64, .sl 4, .str, .sl 4, .sl 12]), (91, [.str, .sl 3]), (96, [.str, .int .i64, .sl 3, .sl 2, .sl 1]), (98, [.sl 1, .int .i64]), (103, [.bool, .str, .sl 3]), (136, [.int .i64, .str, .int .i64])]
noncomputable abbrev ax : Ax := ⟨Tryd.prog, tys, ats, fns, [0, 1], [52], [43], [], [5], none, []⟩
theorem zero5 (w : World) : (zeroValue 5).run Tryd.prog w = .ok (.int .u8 0) w := by
  have h : ((Tryd.prog.info? 5).bind (·.zero)) = some (.int .u8 0) := by kernel_rfl
  obtain ⟨i, hi, hz⟩ := Option.bind_eq_some_iff.1 h
  simp [zeroValue, typeInfo, hi, hz]
theorem zOk : ZOk ax := by
  intro t k hk hb w
  have ht : 5 = t := by simpa [hasB] using hb
  rcases ht with rfl
  · have e : lookTy ax 5 = some .u8 := by kernel_rfl
    cases e.symm.trans hk
    exact zero5 w

theorem guard52 : Tryd.prog.eqGuardType Tryd.prog.depth 52 = false := by kernel_rfl
theorem held52 : Tryd.prog.stoodInHeld 52 = false := by kernel_rfl
theorem struct52 : Tryd.prog.underlying 52 = some (.struct (Tryd.prog.fieldsOf 52)) := by kernel_rfl
theorem eq52 (w : World) (a0 b0 : ByteArray) (a1 b1 : Int) : (Op.equalIn 10000 52 (.agg #[.string a0, .int .i64 a1]) (.agg #[.string b0, .int .i64 b1])).run Tryd.prog w = .ok (strEq a0 b0 && (a1 == b1)) w := by
  rw [run_equalIn_agg w _ _ _ _ struct52 held52]
  obtain ⟨g0, g1, e, n0, t0, o0, n1, t1, o1⟩ : ∃ g0 g1, (Tryd.prog.fieldsOf 52).toList = [g0, g1] ∧ g0.name = "Name" ∧ g0.type = 9 ∧ g0.offset = 0 ∧ g1.name = "Arity" ∧ g1.type = 3 ∧ g1.offset = 1 := by
    have hm : (Tryd.prog.fieldsOf 52).toList.map (fun f => (f.name, f.type, f.offset)) = [("Name", 9, 0), ("Arity", 3, 1)] := by kernel_rfl
    obtain ⟨g0, r0, e0, hf0, hr0⟩ := List.map_eq_cons_iff.1 hm
    obtain ⟨g1, r1, e1, hf1, hr1⟩ := List.map_eq_cons_iff.1 hr0
    have e9 := List.map_eq_nil_iff.1 hr1
    subst e9 e1
    simp only [Prod.mk.injEq] at hf0 hf1
    exact ⟨g0, g1, e0, hf0.1, hf0.2.1, hf0.2.2, hf1.1, hf1.2.1, hf1.2.2⟩
  rw [e]
  have p0 : ∀ (cs : Array Value) (x : ByteArray), cs[0]? = some (.string x) → (part 9 cs 0).run Tryd.prog w = .ok (.string x) w := fun cs x h => by simp [part, isAgg, run_underlying Tryd.underlying9, h]
  have p1 : ∀ (cs : Array Value) (x : Int), cs[1]? = some (.int .i64 x) → (part 3 cs 1).run Tryd.prog w = .ok (.int .i64 x) w := fun cs x h => by simp [part, isAgg, run_underlying Tryd.underlying3, h]
  simp only [Op.eqFields, n0, t0, o0, n1, t1, o1]
  simp only [if_pos (show ("Name" : String) ≠ "_" by decide), Sem.run_bind, p0 #[.string a0, .int .i64 a1] a0 rfl, p0 #[.string b0, .int .i64 b1] b0 rfl, Result.andThen_ok, run_equalIn_string w 9998 9 _ _ Tryd.underlying9, strEq_list, Sem.run_ite]
  cases h0 : (strEq a0 b0)
  · simp
  simp only [Bool.not_true, Bool.false_eq_true, if_false, Bool.true_and]
  simp only [if_pos (show ("Arity" : String) ≠ "_" by decide), p1 #[.string a0, .int .i64 a1] a1 rfl, p1 #[.string b0, .int .i64 b1] b1 rfl, Result.andThen_ok, run_equalIn_int w 9998 3 .i64 .i64 _ _ Tryd.underlying3]
  cases h1 : (a1 == b1) <;> simp

theorem eqOk : EqOk ax := by
  refine ⟨zOk, ?_⟩
  intro t az hl hb op xo yo w gs G F us vs xs ys ho hu hv hx hy
  have ht : 52 = t := by simpa [hasB] using hb
  subst ht
  have has : az = [.str, .int .i64] := (Option.some.inj ((show lookO ax.ats 52 = some [.str, .int .i64] by rfl).symm.trans hl)).symm
  subst has
  have sh : ∀ us : List V, isA [.str, .int .i64] us = true → ∃ x0 x1, us = [.str x0, .int .i64 x1] := fun us h => by
    obtain ⟨u0, r0, rfl, h0, k0⟩ := isA_cons h
    obtain ⟨x0, rfl⟩ := is_str h0
    obtain ⟨u1, r1, rfl, h1, k1⟩ := isA_cons k0
    obtain ⟨x1, rfl⟩ := is_int h1
    obtain rfl := isA_nil k1
    exact ⟨x0, x1, rfl⟩
  obtain ⟨a0, a1, rfl⟩ := sh us hu
  obtain ⟨b0, b1, rfl⟩ := sh vs hv
  obtain ⟨x0, xr0, rfl, xa0, xb0⟩ := Rl.cons_inv hx
  obtain ⟨x1, xr1, rfl, xa1, xb1⟩ := Rl.cons_inv xb0
  obtain rfl := xb1.nil_inv
  cases xa0
  cases xa1
  obtain ⟨y0, yr0, rfl, ya0, yb0⟩ := Rl.cons_inv hy
  obtain ⟨y1, yr1, rfl, ya1, yb1⟩ := Rl.cons_inv yb0
  obtain rfl := yb1.nil_inv
  cases ya0
  cases ya1
  unfold Runs semEq
  rw [Sem.run_bind, run_eqGuard_agg w _ _ _ _ _ _ guard52, Result.andThen_ok]
  cases op <;> first | (simp [isEq] at ho; done) | skip
  · rw [run_eql_struct, eq52]; rfl
  · rw [run_neq_struct, eq52]; rfl

/-! ### rterm: function 49, (*augur/augurref02.Reader).Term -/
def rterm.ah : AH := ⟨[(2, seqO [0, 1, 2, 3, 4, 5, 6, 7, 8, 9, 10, 11, 12, 13, 14, 15, 16]), (4, seqO [0, 1, 2, 3, 4, 5, 6, 7, 8, 9, 10, 11, 12, 13]), (5, seqO [0, 1, 2, 3, 4, 5, 6, 7, 8, 9, 10, 11, 12, 13, 14, 15, 16]), (7, seqO [0, 1, 2, 3, 4, 5, 6, 7, 8, 9, 10, 11, 12, 13]), (10, seqO [0, 1, 2, 3, 4, 5, 6, 7, 8, 9])], [(9, ⟨[], [(0, [.d (.sl 3), .d (.int .i64), .d (.int .i64)]), (2, [.d (.int .i64), .d (.str), .d (.int .i64), .nw 76 4 false])], [], []⟩)], [(3, ⟨[(25, [.d (.bool)], false)], [(0, [.d (.sl 3), .d (.int .i64), .d (.int .i64)])], [], []⟩), (6, ⟨[(62, [.d (.bool)], false)], [(0, [.d (.sl 3), .d (.int .i64), .d (.int .i64)])], [], []⟩)], [(26, ⟨[none], [.c (.bool)], [.box [.d (.sl 3), .d (.int .i64), .d (.int .i64)]]⟩), (45, ⟨[none, some [.int .i64]], [.c (.str)], [.box [.d (.sl 3), .d (.int .i64), .d (.int .i64)]]⟩), (46, ⟨[none, some [.int .i64]], [.c (.bool)], [.box [.d (.sl 3), .d (.int .i64), .d (.int .i64)]]⟩), (49, ⟨[none, some [.int .i64]], [.ag [.int .i64, .str, .int .i64, .sl 4]], [.box [.d (.sl 3), .d (.int .i64), .d (.int .i64)]]⟩), (66, ⟨[none, some [.int .i64]], [], [.box [.d (.sl 3), .d (.int .i64), .d (.int .i64)]]⟩)], [], [some [.int .i64, .str, .int .i64, .sl 4]], [], [], []⟩
def rterm.W (n1 : Int) (tk : List (List V)) (pos : Int) (er : Int) (K : List V → List Ob → Prop) : Prop :=
 (SCalls ax 66 [.ptr 0 0, .int .i64 n1] [.box [.sl 3 tk, .int .i64 pos, .int .i64 er]] fun r7 o11 => ∃ (l8 : List (List V)) (n9 : Int) (n10 : Int), r7 = [] ∧ o11 = [.box [.sl 3 l8, .int .i64 n9, .int .i64 n10]] ∧ (∃ J39 : List V → Prop, (SCalls ax 26 [.ptr 0 0] [.box [.sl 3 l8, .int .i64 n9, .int .i64 n10]] fun r41 o45 => ∃ (b40 : Bool) (l42 : List (List V)) (n43 : Int) (n44 : Int), r41 = [.bool b40] ∧ o45 = [.box [.sl 3 l42, .int .i64 n43, .int .i64 n44]] ∧ (bif (!b40) then (0 ≤ n43 ∧ n43 < (List.length l42 : Int) ∧ (∃ (n46 : Int), List.take 1 (Av.rowAt l42 (n43 : Int).toNat) = [.int .i64 n46] ∧ (J39 [(.bool (n46 == (3 : Int))), .sl 3 l42, .int .i64 n43, .int .i64 n44]))) else (J39 [.bool false, .sl 3 l42, .int .i64 n43, .int .i64 n44]))) ∧
 (∀ (b47 : Bool) (l48 : List (List V)) (n49 : Int) (n50 : Int), J39 [.bool b47, .sl 3 l48, .int .i64 n49, .int .i64 n50] →
 (bif b47 then
 (0 ≤ (IntKind.i64.wrap ((IntKind.i64.wrap (n49 + 1)) - 1)) ∧ (IntKind.i64.wrap ((IntKind.i64.wrap (n49 + 1)) - 1)) < (List.length l48 : Int) ∧ (∃ (n51 : Int), List.take 1 (List.drop 2 (Av.rowAt l48 ((IntKind.i64.wrap ((IntKind.i64.wrap (n49 + 1)) - 1)) : Int).toNat)) = [.int .i64 n51] ∧ (K [(.agg [.int .i64 2, (.str (⟨#[]⟩ : ByteArray)), .int .i64 n51, .sl 4 []])] [(.box [.sl 3 l48, (.int .i64 (IntKind.i64.wrap (n49 + 1))), .int .i64 n50])])))
 else
 (∃ J79 : List V → Prop, (SCalls ax 26 [.ptr 0 0] [.box [.sl 3 l48, .int .i64 n49, .int .i64 n50]] fun r81 o85 => ∃ (b80 : Bool) (l82 : List (List V)) (n83 : Int) (n84 : Int), r81 = [.bool b80] ∧ o85 = [.box [.sl 3 l82, .int .i64 n83, .int .i64 n84]] ∧ (bif (!b80) then (0 ≤ n83 ∧ n83 < (List.length l82 : Int) ∧ (∃ (n86 : Int), List.take 1 (Av.rowAt l82 (n83 : Int).toNat) = [.int .i64 n86] ∧ (J79 [(.bool (n86 == (2 : Int))), .sl 3 l82, .int .i64 n83, .int .i64 n84]))) else (J79 [.bool false, .sl 3 l82, .int .i64 n83, .int .i64 n84]))) ∧
 (∀ (b87 : Bool) (l88 : List (List V)) (n89 : Int) (n90 : Int), J79 [.bool b87, .sl 3 l88, .int .i64 n89, .int .i64 n90] →
 (bif b87 then
 (0 ≤ (IntKind.i64.wrap ((IntKind.i64.wrap (n89 + 1)) - 1)) ∧ (IntKind.i64.wrap ((IntKind.i64.wrap (n89 + 1)) - 1)) < (List.length l88 : Int) ∧ (∃ (s91 : ByteArray), List.take 1 (List.drop 1 (Av.rowAt l88 ((IntKind.i64.wrap ((IntKind.i64.wrap (n89 + 1)) - 1)) : Int).toNat)) = [.str s91] ∧ (K [.agg [.int .i64 1, .str s91, .int .i64 0, .sl 4 []]] [(.box [.sl 3 l88, (.int .i64 (IntKind.i64.wrap (n89 + 1))), .int .i64 n90])])))
 else
 (SCalls ax 45 [.ptr 0 0, .int .i64 1] [.box [.sl 3 l88, .int .i64 n89, .int .i64 n90]] fun r99 o103 => ∃ (s98 : ByteArray) (l100 : List (List V)) (n101 : Int) (n102 : Int), r99 = [.str s98] ∧ o103 = [.box [.sl 3 l100, .int .i64 n101, .int .i64 n102]] ∧ (∃ (I141 : List V → Prop) (μ142 : List V → Nat), I141 [.sl 3 l100, .int .i64 n101, .int .i64 n102, .int .i64 3, .str s98, .int .i64 0, .sl 4 []] ∧ (∀ (l143 : List (List V)) (n144 : Int) (n145 : Int) (n146 : Int) (s147 : ByteArray) (n148 : Int) (l149 : List (List V)), I141 [.sl 3 l143, .int .i64 n144, .int .i64 n145, .int .i64 n146, .str s147, .int .i64 n148, .sl 4 l149] →
 (bif (n145 == (0 : Int)) then (SCalls ax 46 [.ptr 0 0, (.int .i64 (List.length l149 : Int))] [.box [.sl 3 l143, .int .i64 n144, .int .i64 n145]] fun r151 o155 => ∃ (b150 : Bool) (l152 : List (List V)) (n153 : Int) (n154 : Int), r151 = [.bool b150] ∧ o155 = [.box [.sl 3 l152, .int .i64 n153, .int .i64 n154]] ∧ (bif b150 then
 (SCalls ax 49 [.ptr 0 0, (.int .i64 (IntKind.i64.wrap (n1 + 1)))] [.box [.sl 3 l152, .int .i64 n153, .int .i64 n154]] fun r160 o164 => ∃ (n156 : Int) (s157 : ByteArray) (n158 : Int) (l159 : List (List V)) (l161 : List (List V)) (n162 : Int) (n163 : Int), r160 = [.agg [.int .i64 n156, .str s157, .int .i64 n158, .sl 4 l159]] ∧ o164 = [.box [.sl 3 l161, .int .i64 n162, .int .i64 n163]] ∧ (((List.length l149) + (List.length ([[.int .i64 n156, .str s157, .int .i64 n158, .sl 4 l159]] : List (List V)))) * 56 ≤ 140737488355328 ∧ (List.length l149) + (List.length ([[.int .i64 n156, .str s157, .int .i64 n158, .sl 4 l159]] : List (List V))) ≤ 140737488355328 ∧ (I141 [.sl 3 l161, .int .i64 n162, .int .i64 n163, .int .i64 n146, .str s147, .int .i64 n148, (.sl 4 (l149 ++ [[.int .i64 n156, .str s157, .int .i64 n158, .sl 4 l159]]))] ∧ μ142 [.sl 3 l161, .int .i64 n162, .int .i64 n163, .int .i64 n146, .str s147, .int .i64 n148, (.sl 4 (l149 ++ [[.int .i64 n156, .str s157, .int .i64 n158, .sl 4 l159]]))] < μ142 [.sl 3 l143, .int .i64 n144, .int .i64 n145, .int .i64 n146, .str s147, .int .i64 n148, .sl 4 l149])))
 else
 (K [.agg [.int .i64 n146, .str s147, .int .i64 n148, .sl 4 l149]] [.box [.sl 3 l152, .int .i64 n153, .int .i64 n154]]))) else (K [.agg [.int .i64 n146, .str s147, .int .i64 n148, .sl 4 l149]] [.box [.sl 3 l143, .int .i64 n144, .int .i64 n145]]))))))))))))
theorem rterm.eq (n1 : Int) (tk : List (List V)) (pos : Int) (er : Int) (K : List V → List Ob → Prop) : rterm.W n1 tk pos er K = afn ax rterm.ah Tryd.f49 [.ptr 0 0, .int .i64 n1] [.box [.sl 3 tk, .int .i64 pos, .int .i64 er]] K := by kernel_rfl
theorem rterm.ok : codeOk tys (hintsOf rterm.ah) Tryd.f49.ntmps (Tryd.f49.body.getD .skip) = true := by kernel_rfl
theorem rterm.calls {n1 tk pos er K} (h : rterm.W n1 tk pos er K) : SCalls ax 49 [.ptr 0 0, .int .i64 n1] [.box [.sl 3 tk, .int .i64 pos, .int .i64 er]] K :=
  afn_run (ah := rterm.ah) tysOk fnsOk follows eqOk Tryd.func49 (by kernel_rfl) rterm.ok (by kernel_rfl) (Eq.mp (rterm.eq n1 tk pos er K) h)
/-! ### rdone: function 30, (*augur/augurref02.Reader).done -/
def rdone.ah : AH := ⟨[(1, seqO [0, 1, 2, 3, 4, 5, 6, 7, 8, 9, 10, 11, 12, 13, 14, 15, 16])], [], [], [], [], [some [.int .i64]], [], [], []⟩
def rdone.W (tk : List (List V)) (pos : Int) (er : Int) (K : List V → List Ob → Prop) : Prop :=
 (bif (er == (0 : Int)) then (bif (decide (pos < (List.length tk : Int))) then
 (K [.int .i64 2] [.box [.sl 3 tk, .int .i64 pos, .int .i64 2]])
 else
 (K [.int .i64 er] [.box [.sl 3 tk, .int .i64 pos, .int .i64 er]])) else (K [.int .i64 er] [.box [.sl 3 tk, .int .i64 pos, .int .i64 er]]))
theorem rdone.eq (tk : List (List V)) (pos : Int) (er : Int) (K : List V → List Ob → Prop) : rdone.W tk pos er K = afn ax rdone.ah Tryd.f30 [.ptr 0 0] [.box [.sl 3 tk, .int .i64 pos, .int .i64 er]] K := by kernel_rfl
theorem rdone.ok : codeOk tys (hintsOf rdone.ah) Tryd.f30.ntmps (Tryd.f30.body.getD .skip) = true := by kernel_rfl
theorem rdone.calls {tk pos er K} (h : rdone.W tk pos er K) : SCalls ax 30 [.ptr 0 0] [.box [.sl 3 tk, .int .i64 pos, .int .i64 er]] K :=
  afn_run (ah := rdone.ah) tysOk fnsOk follows eqOk Tryd.func30 (by kernel_rfl) rdone.ok (by kernel_rfl) (Eq.mp (rdone.eq tk pos er K) h)
/-! ### rnest: function 66, (*augur/augurref02.Reader).nest -/
def rnest.ah : AH := ⟨[], [], [], [(26, ⟨[none], [.c (.bool)], [.box [.d (.sl 3), .d (.int .i64), .d (.int .i64)]]⟩), (27, ⟨[none, some [.int .i64]], [], [.box [.d (.sl 3), .d (.int .i64), .d (.int .i64)]]⟩)], [], [], [], [], []⟩
def rnest.W (n1 : Int) (tk : List (List V)) (pos : Int) (er : Int) (K : List V → List Ob → Prop) : Prop :=
 (bif (decide (n1 > (64 : Int))) then (SCalls ax 26 [.ptr 0 0] [.box [.sl 3 tk, .int .i64 pos, .int .i64 er]] fun r3 o7 => ∃ (b2 : Bool) (l4 : List (List V)) (n5 : Int) (n6 : Int), r3 = [.bool b2] ∧ o7 = [.box [.sl 3 l4, .int .i64 n5, .int .i64 n6]] ∧ (bif (!b2) then
 (SCalls ax 27 [.ptr 0 0, .int .i64 3] [.box [.sl 3 l4, .int .i64 n5, .int .i64 n6]] fun r8 o12 => ∃ (l9 : List (List V)) (n10 : Int) (n11 : Int), r8 = [] ∧ o12 = [.box [.sl 3 l9, .int .i64 n10, .int .i64 n11]] ∧ (K [] [.box [.sl 3 l9, .int .i64 n10, .int .i64 n11]]))
 else
 (K [] [.box [.sl 3 l4, .int .i64 n5, .int .i64 n6]]))) else (K [] [.box [.sl 3 tk, .int .i64 pos, .int .i64 er]]))
theorem rnest.eq (n1 : Int) (tk : List (List V)) (pos : Int) (er : Int) (K : List V → List Ob → Prop) : rnest.W n1 tk pos er K = afn ax rnest.ah Tryd.f66 [.ptr 0 0, .int .i64 n1] [.box [.sl 3 tk, .int .i64 pos, .int .i64 er]] K := by kernel_rfl
theorem rnest.ok : codeOk tys (hintsOf rnest.ah) Tryd.f66.ntmps (Tryd.f66.body.getD .skip) = true := by kernel_rfl
theorem rnest.calls {n1 tk pos er K} (h : rnest.W n1 tk pos er K) : SCalls ax 66 [.ptr 0 0, .int .i64 n1] [.box [.sl 3 tk, .int .i64 pos, .int .i64 er]] K :=
  afn_run (ah := rnest.ah) tysOk fnsOk follows eqOk Tryd.func66 (by kernel_rfl) rnest.ok (by kernel_rfl) (Eq.mp (rnest.eq n1 tk pos er K) h)
/-! ### rend: function 26, (*augur/augurref02.Reader).end -/
def rend.ah : AH := ⟨[(1, seqO [0, 1, 2, 3, 4, 5, 6, 7, 8, 9, 10, 11, 12, 13, 14, 15, 16, 17])], [], [], [], [], [some [.bool]], [], [], []⟩
def rend.W (tk : List (List V)) (pos : Int) (er : Int) (K : List V → List Ob → Prop) : Prop :=
 (bif (er != (0 : Int)) then (K [.bool true] [.box [.sl 3 tk, .int .i64 pos, .int .i64 er]]) else (K [(.bool (decide (pos ≥ (List.length tk : Int))))] [.box [.sl 3 tk, .int .i64 pos, .int .i64 er]]))
theorem rend.eq (tk : List (List V)) (pos : Int) (er : Int) (K : List V → List Ob → Prop) : rend.W tk pos er K = afn ax rend.ah Tryd.f26 [.ptr 0 0] [.box [.sl 3 tk, .int .i64 pos, .int .i64 er]] K := by kernel_rfl
theorem rend.ok : codeOk tys (hintsOf rend.ah) Tryd.f26.ntmps (Tryd.f26.body.getD .skip) = true := by kernel_rfl
theorem rend.calls {tk pos er K} (h : rend.W tk pos er K) : SCalls ax 26 [.ptr 0 0] [.box [.sl 3 tk, .int .i64 pos, .int .i64 er]] K :=
  afn_run (ah := rend.ah) tysOk fnsOk follows eqOk Tryd.func26 (by kernel_rfl) rend.ok (by kernel_rfl) (Eq.mp (rend.eq tk pos er K) h)
/-! ### rword: function 45, (*augur/augurref02.Reader).word -/
def rword.ah : AH := ⟨[(1, seqO [0, 1, 2, 3, 4, 5, 6, 7, 8, 9, 10, 11, 12, 13, 14, 15, 16, 17, 18, 19, 20, 21, 22, 23, 24, 25, 26, 27, 28, 29, 30, 31, 32, 33, 34]), (5, seqO [0, 1, 2, 3, 4, 5, 6, 7, 8, 9, 10, 11, 12])], [], [(4, ⟨[], [(0, [.d (.sl 3), .d (.int .i64), .d (.int .i64)])], [], []⟩)], [(26, ⟨[none], [.c (.bool)], [.box [.d (.sl 3), .d (.int .i64), .d (.int .i64)]]⟩), (27, ⟨[none, some [.int .i64]], [], [.box [.d (.sl 3), .d (.int .i64), .d (.int .i64)]]⟩), (65, ⟨[some [.str]], [.c (.bool)], []⟩)], [], [some [.str]], [], [], []⟩
def rword.W (n1 : Int) (tk : List (List V)) (pos : Int) (er : Int) (K : List V → List Ob → Prop) : Prop :=
 (∃ J27 : List V → Prop, (SCalls ax 26 [.ptr 0 0] [.box [.sl 3 tk, .int .i64 pos, .int .i64 er]] fun r29 o33 => ∃ (b28 : Bool) (l30 : List (List V)) (n31 : Int) (n32 : Int), r29 = [.bool b28] ∧ o33 = [.box [.sl 3 l30, .int .i64 n31, .int .i64 n32]] ∧ (bif b28 then (SCalls ax 27 [.ptr 0 0, .int .i64 2] [.box [.sl 3 l30, .int .i64 n31, .int .i64 n32]] fun r34 o38 => ∃ (l35 : List (List V)) (n36 : Int) (n37 : Int), r34 = [] ∧ o38 = [.box [.sl 3 l35, .int .i64 n36, .int .i64 n37]] ∧ (K [(.str (⟨#[]⟩ : ByteArray))] [.box [.sl 3 l35, .int .i64 n36, .int .i64 n37]])) else (0 ≤ n31 ∧ n31 < (List.length l30 : Int) ∧ (∃ (n39 : Int), List.take 1 (Av.rowAt l30 (n31 : Int).toNat) = [.int .i64 n39] ∧ (bif (n39 != n1) then (SCalls ax 27 [.ptr 0 0, .int .i64 2] [.box [.sl 3 l30, .int .i64 n31, .int .i64 n32]] fun r40 o44 => ∃ (l41 : List (List V)) (n42 : Int) (n43 : Int), r40 = [] ∧ o44 = [.box [.sl 3 l41, .int .i64 n42, .int .i64 n43]] ∧ (K [(.str (⟨#[]⟩ : ByteArray))] [.box [.sl 3 l41, .int .i64 n42, .int .i64 n43]])) else (bif (n1 == (1 : Int)) then (0 ≤ n31 ∧ n31 < (List.length l30 : Int) ∧ (∃ (s45 : ByteArray), List.take 1 (List.drop 1 (Av.rowAt l30 (n31 : Int).toNat)) = [.str s45] ∧ (PCalls ax 65 [.str s45] fun r47 => ∃ (b46 : Bool), r47 = [.bool b46] ∧ (bif b46 then
 (SCalls ax 27 [.ptr 0 0, .int .i64 2] [.box [.sl 3 l30, .int .i64 n31, .int .i64 n32]] fun r48 o52 => ∃ (l49 : List (List V)) (n50 : Int) (n51 : Int), r48 = [] ∧ o52 = [.box [.sl 3 l49, .int .i64 n50, .int .i64 n51]] ∧ (K [(.str (⟨#[]⟩ : ByteArray))] [.box [.sl 3 l49, .int .i64 n50, .int .i64 n51]]))
 else
 (J27 [.sl 3 l30, .int .i64 n31, .int .i64 n32]))))) else (J27 [.sl 3 l30, .int .i64 n31, .int .i64 n32]))))))) ∧
 (∀ (l53 : List (List V)) (n54 : Int) (n55 : Int), J27 [.sl 3 l53, .int .i64 n54, .int .i64 n55] →
 (0 ≤ (IntKind.i64.wrap ((IntKind.i64.wrap (n54 + 1)) - 1)) ∧ (IntKind.i64.wrap ((IntKind.i64.wrap (n54 + 1)) - 1)) < (List.length l53 : Int) ∧ (∃ (s56 : ByteArray), List.take 1 (List.drop 1 (Av.rowAt l53 ((IntKind.i64.wrap ((IntKind.i64.wrap (n54 + 1)) - 1)) : Int).toNat)) = [.str s56] ∧ (K [.str s56] [(.box [.sl 3 l53, (.int .i64 (IntKind.i64.wrap (n54 + 1))), .int .i64 n55])])))))
theorem rword.eq (n1 : Int) (tk : List (List V)) (pos : Int) (er : Int) (K : List V → List Ob → Prop) : rword.W n1 tk pos er K = afn ax rword.ah Tryd.f45 [.ptr 0 0, .int .i64 n1] [.box [.sl 3 tk, .int .i64 pos, .int .i64 er]] K := by kernel_rfl
theorem rword.ok : codeOk tys (hintsOf rword.ah) Tryd.f45.ntmps (Tryd.f45.body.getD .skip) = true := by kernel_rfl
theorem rword.calls {n1 tk pos er K} (h : rword.W n1 tk pos er K) : SCalls ax 45 [.ptr 0 0, .int .i64 n1] [.box [.sl 3 tk, .int .i64 pos, .int .i64 er]] K :=
  afn_run (ah := rword.ah) tysOk fnsOk follows eqOk Tryd.func45 (by kernel_rfl) rword.ok (by kernel_rfl) (Eq.mp (rword.eq n1 tk pos er K) h)
/-! ### rmore: function 46, (*augur/augurref02.Reader).more -/
def rmore.ah : AH := ⟨[], [], [(7, ⟨[], [(0, [.d (.sl 3), .d (.int .i64), .d (.int .i64)])], [], []⟩)], [(26, ⟨[none], [.c (.bool)], [.box [.d (.sl 3), .d (.int .i64), .d (.int .i64)]]⟩), (27, ⟨[none, some [.int .i64]], [], [.box [.d (.sl 3), .d (.int .i64), .d (.int .i64)]]⟩), (29, ⟨[none, some [.str]], [], [.box [.d (.sl 3), .d (.int .i64), .d (.int .i64)]]⟩), (44, ⟨[none, some [.str]], [.c (.bool)], [.box [.d (.sl 3), .d (.int .i64), .d (.int .i64)]]⟩)], [], [some [.bool]], [], [], []⟩
def rmore.W (n1 : Int) (tk : List (List V)) (pos : Int) (er : Int) (K : List V → List Ob → Prop) : Prop :=
 (∃ J19 : List V → Prop, (bif (n1 == (0 : Int)) then
 (SCalls ax 44 [.ptr 0 0, (.str (⟨#[40]⟩ : ByteArray))] [.box [.sl 3 tk, .int .i64 pos, .int .i64 er]] fun r21 o25 => ∃ (b20 : Bool) (l22 : List (List V)) (n23 : Int) (n24 : Int), r21 = [.bool b20] ∧ o25 = [.box [.sl 3 l22, .int .i64 n23, .int .i64 n24]] ∧ (bif (!b20) then
 (K [.bool false] [.box [.sl 3 l22, .int .i64 n23, .int .i64 n24]])
 else
 (J19 [.sl 3 l22, .int .i64 n23, .int .i64 n24])))
 else
 (SCalls ax 44 [.ptr 0 0, (.str (⟨#[41]⟩ : ByteArray))] [.box [.sl 3 tk, .int .i64 pos, .int .i64 er]] fun r27 o31 => ∃ (b26 : Bool) (l28 : List (List V)) (n29 : Int) (n30 : Int), r27 = [.bool b26] ∧ o31 = [.box [.sl 3 l28, .int .i64 n29, .int .i64 n30]] ∧ (bif b26 then (K [.bool false] [.box [.sl 3 l28, .int .i64 n29, .int .i64 n30]]) else (bif (n30 != (0 : Int)) then
 (K [.bool false] [.box [.sl 3 l28, .int .i64 n29, .int .i64 n30]])
 else
 (SCalls ax 29 [.ptr 0 0, (.str (⟨#[44]⟩ : ByteArray))] [.box [.sl 3 l28, .int .i64 n29, .int .i64 n30]] fun r32 o36 => ∃ (l33 : List (List V)) (n34 : Int) (n35 : Int), r32 = [] ∧ o36 = [.box [.sl 3 l33, .int .i64 n34, .int .i64 n35]] ∧ (J19 [.sl 3 l33, .int .i64 n34, .int .i64 n35])))))) ∧
 (∀ (l37 : List (List V)) (n38 : Int) (n39 : Int), J19 [.sl 3 l37, .int .i64 n38, .int .i64 n39] →
 (bif (n1 == (8 : Int)) then (SCalls ax 26 [.ptr 0 0] [.box [.sl 3 l37, .int .i64 n38, .int .i64 n39]] fun r41 o45 => ∃ (b40 : Bool) (l42 : List (List V)) (n43 : Int) (n44 : Int), r41 = [.bool b40] ∧ o45 = [.box [.sl 3 l42, .int .i64 n43, .int .i64 n44]] ∧ (bif (!b40) then
 (SCalls ax 27 [.ptr 0 0, .int .i64 4] [.box [.sl 3 l42, .int .i64 n43, .int .i64 n44]] fun r46 o50 => ∃ (l47 : List (List V)) (n48 : Int) (n49 : Int), r46 = [] ∧ o50 = [.box [.sl 3 l47, .int .i64 n48, .int .i64 n49]] ∧ (K [(.bool (n49 == (0 : Int)))] [.box [.sl 3 l47, .int .i64 n48, .int .i64 n49]]))
 else
 (K [(.bool (n44 == (0 : Int)))] [.box [.sl 3 l42, .int .i64 n43, .int .i64 n44]]))) else (K [(.bool (n39 == (0 : Int)))] [.box [.sl 3 l37, .int .i64 n38, .int .i64 n39]]))))
theorem rmore.eq (n1 : Int) (tk : List (List V)) (pos : Int) (er : Int) (K : List V → List Ob → Prop) : rmore.W n1 tk pos er K = afn ax rmore.ah Tryd.f46 [.ptr 0 0, .int .i64 n1] [.box [.sl 3 tk, .int .i64 pos, .int .i64 er]] K := by kernel_rfl
theorem rmore.ok : codeOk tys (hintsOf rmore.ah) Tryd.f46.ntmps (Tryd.f46.body.getD .skip) = true := by kernel_rfl
theorem rmore.calls {n1 tk pos er K} (h : rmore.W n1 tk pos er K) : SCalls ax 46 [.ptr 0 0, .int .i64 n1] [.box [.sl 3 tk, .int .i64 pos, .int .i64 er]] K :=
  afn_run (ah := rmore.ah) tysOk fnsOk follows eqOk Tryd.func46 (by kernel_rfl) rmore.ok (by kernel_rfl) (Eq.mp (rmore.eq n1 tk pos er K) h)
/-! ### rfail: function 27, (*augur/augurref02.Reader).fail -/
def rfail.ah : AH := ⟨[], [], [], [], [], [], [], [], []⟩
def rfail.W (n1 : Int) (tk : List (List V)) (pos : Int) (er : Int) (K : List V → List Ob → Prop) : Prop :=
 (bif (er == (0 : Int)) then
 (K [] [.box [.sl 3 tk, .int .i64 pos, .int .i64 n1]])
 else
 (K [] [.box [.sl 3 tk, .int .i64 pos, .int .i64 er]]))
theorem rfail.eq (n1 : Int) (tk : List (List V)) (pos : Int) (er : Int) (K : List V → List Ob → Prop) : rfail.W n1 tk pos er K = afn ax rfail.ah Tryd.f27 [.ptr 0 0, .int .i64 n1] [.box [.sl 3 tk, .int .i64 pos, .int .i64 er]] K := by kernel_rfl
theorem rfail.ok : codeOk tys (hintsOf rfail.ah) Tryd.f27.ntmps (Tryd.f27.body.getD .skip) = true := by kernel_rfl
theorem rfail.calls {n1 tk pos er K} (h : rfail.W n1 tk pos er K) : SCalls ax 27 [.ptr 0 0, .int .i64 n1] [.box [.sl 3 tk, .int .i64 pos, .int .i64 er]] K :=
  afn_run (ah := rfail.ah) tysOk fnsOk follows eqOk Tryd.func27 (by kernel_rfl) rfail.ok (by kernel_rfl) (Eq.mp (rfail.eq n1 tk pos er K) h)
/-! ### rgot: function 44, (*augur/augurref02.Reader).got -/
def rgot.ah : AH := ⟨[], [], [], [(64, ⟨[none, some [.str]], [.c (.bool)], [.box [.d (.sl 3), .d (.int .i64), .d (.int .i64)]]⟩)], [], [some [.bool]], [], [], []⟩
def rgot.W (s1 : ByteArray) (tk : List (List V)) (pos : Int) (er : Int) (K : List V → List Ob → Prop) : Prop :=
 (SCalls ax 64 [.ptr 0 0, .str s1] [.box [.sl 3 tk, .int .i64 pos, .int .i64 er]] fun r3 o7 => ∃ (b2 : Bool) (l4 : List (List V)) (n5 : Int) (n6 : Int), r3 = [.bool b2] ∧ o7 = [.box [.sl 3 l4, .int .i64 n5, .int .i64 n6]] ∧ (bif b2 then
 (K [.bool true] [(.box [.sl 3 l4, (.int .i64 (IntKind.i64.wrap (n5 + 1))), .int .i64 n6])])
 else
 (K [.bool false] [.box [.sl 3 l4, .int .i64 n5, .int .i64 n6]])))
theorem rgot.eq (s1 : ByteArray) (tk : List (List V)) (pos : Int) (er : Int) (K : List V → List Ob → Prop) : rgot.W s1 tk pos er K = afn ax rgot.ah Tryd.f44 [.ptr 0 0, .str s1] [.box [.sl 3 tk, .int .i64 pos, .int .i64 er]] K := by kernel_rfl
theorem rgot.ok : codeOk tys (hintsOf rgot.ah) Tryd.f44.ntmps (Tryd.f44.body.getD .skip) = true := by kernel_rfl
theorem rgot.calls {s1 tk pos er K} (h : rgot.W s1 tk pos er K) : SCalls ax 44 [.ptr 0 0, .str s1] [.box [.sl 3 tk, .int .i64 pos, .int .i64 er]] K :=
  afn_run (ah := rgot.ah) tysOk fnsOk follows eqOk Tryd.func44 (by kernel_rfl) rgot.ok (by kernel_rfl) (Eq.mp (rgot.eq s1 tk pos er K) h)
/-! ### rneed: function 29, (*augur/augurref02.Reader).need -/
def rneed.ah : AH := ⟨[], [], [], [(27, ⟨[none, some [.int .i64]], [], [.box [.d (.sl 3), .d (.int .i64), .d (.int .i64)]]⟩), (44, ⟨[none, some [.str]], [.c (.bool)], [.box [.d (.sl 3), .d (.int .i64), .d (.int .i64)]]⟩)], [], [], [], [], []⟩
def rneed.W (s1 : ByteArray) (tk : List (List V)) (pos : Int) (er : Int) (K : List V → List Ob → Prop) : Prop :=
 (bif (er == (0 : Int)) then (SCalls ax 44 [.ptr 0 0, .str s1] [.box [.sl 3 tk, .int .i64 pos, .int .i64 er]] fun r3 o7 => ∃ (b2 : Bool) (l4 : List (List V)) (n5 : Int) (n6 : Int), r3 = [.bool b2] ∧ o7 = [.box [.sl 3 l4, .int .i64 n5, .int .i64 n6]] ∧ (bif (!b2) then
 (SCalls ax 27 [.ptr 0 0, .int .i64 2] [.box [.sl 3 l4, .int .i64 n5, .int .i64 n6]] fun r8 o12 => ∃ (l9 : List (List V)) (n10 : Int) (n11 : Int), r8 = [] ∧ o12 = [.box [.sl 3 l9, .int .i64 n10, .int .i64 n11]] ∧ (K [] [.box [.sl 3 l9, .int .i64 n10, .int .i64 n11]]))
 else
 (K [] [.box [.sl 3 l4, .int .i64 n5, .int .i64 n6]]))) else (K [] [.box [.sl 3 tk, .int .i64 pos, .int .i64 er]]))
theorem rneed.eq (s1 : ByteArray) (tk : List (List V)) (pos : Int) (er : Int) (K : List V → List Ob → Prop) : rneed.W s1 tk pos er K = afn ax rneed.ah Tryd.f29 [.ptr 0 0, .str s1] [.box [.sl 3 tk, .int .i64 pos, .int .i64 er]] K := by kernel_rfl
theorem rneed.ok : codeOk tys (hintsOf rneed.ah) Tryd.f29.ntmps (Tryd.f29.body.getD .skip) = true := by kernel_rfl
theorem rneed.calls {s1 tk pos er K} (h : rneed.W s1 tk pos er K) : SCalls ax 29 [.ptr 0 0, .str s1] [.box [.sl 3 tk, .int .i64 pos, .int .i64 er]] K :=
  afn_run (ah := rneed.ah) tysOk fnsOk follows eqOk Tryd.func29 (by kernel_rfl) rneed.ok (by kernel_rfl) (Eq.mp (rneed.eq s1 tk pos er K) h)
/-! ### ris: function 64, (*augur/augurref02.Reader).is -/
def ris.ah : AH := ⟨[(1, seqO [0, 1, 2, 3, 4, 5, 6, 7, 8, 9, 10, 11, 12, 13, 14, 15, 16, 17, 18, 19, 20, 21, 22, 23, 24, 25, 26, 27, 28, 29, 30, 31, 32, 33, 34, 35, 36, 37, 38, 39, 40, 41, 42, 43, 44, 45, 46])], [], [], [(26, ⟨[none], [.c (.bool)], [.box [.d (.sl 3), .d (.int .i64), .d (.int .i64)]]⟩)], [], [some [.bool]], [], [], []⟩
def ris.W (s1 : ByteArray) (tk : List (List V)) (pos : Int) (er : Int) (K : List V → List Ob → Prop) : Prop :=
 (SCalls ax 26 [.ptr 0 0] [.box [.sl 3 tk, .int .i64 pos, .int .i64 er]] fun r3 o7 => ∃ (b2 : Bool) (l4 : List (List V)) (n5 : Int) (n6 : Int), r3 = [.bool b2] ∧ o7 = [.box [.sl 3 l4, .int .i64 n5, .int .i64 n6]] ∧ (bif (!b2) then (0 ≤ n5 ∧ n5 < (List.length l4 : Int) ∧ (∃ (s8 : ByteArray), List.take 1 (List.drop 1 (Av.rowAt l4 (n5 : Int).toNat)) = [.str s8] ∧ (bif (strEq s8 s1) then (0 ≤ n5 ∧ n5 < (List.length l4 : Int) ∧ (∃ (n9 : Int), List.take 1 (Av.rowAt l4 (n5 : Int).toNat) = [.int .i64 n9] ∧ (bif (n9 == (1 : Int)) then (K [.bool true] [.box [.sl 3 l4, .int .i64 n5, .int .i64 n6]]) else (0 ≤ n5 ∧ n5 < (List.length l4 : Int) ∧ (∃ (n10 : Int), List.take 1 (Av.rowAt l4 (n5 : Int).toNat) = [.int .i64 n10] ∧ (K [(.bool (n10 == (4 : Int)))] [.box [.sl 3 l4, .int .i64 n5, .int .i64 n6]])))))) else (K [.bool false] [.box [.sl 3 l4, .int .i64 n5, .int .i64 n6]])))) else (K [.bool false] [.box [.sl 3 l4, .int .i64 n5, .int .i64 n6]])))
theorem ris.eq (s1 : ByteArray) (tk : List (List V)) (pos : Int) (er : Int) (K : List V → List Ob → Prop) : ris.W s1 tk pos er K = afn ax ris.ah Tryd.f64 [.ptr 0 0, .str s1] [.box [.sl 3 tk, .int .i64 pos, .int .i64 er]] K := by kernel_rfl
theorem ris.ok : codeOk tys (hintsOf ris.ah) Tryd.f64.ntmps (Tryd.f64.body.getD .skip) = true := by kernel_rfl
theorem ris.calls {s1 tk pos er K} (h : ris.W s1 tk pos er K) : SCalls ax 64 [.ptr 0 0, .str s1] [.box [.sl 3 tk, .int .i64 pos, .int .i64 er]] K :=
  afn_run (ah := ris.ah) tysOk fnsOk follows eqOk Tryd.func64 (by kernel_rfl) ris.ok (by kernel_rfl) (Eq.mp (ris.eq s1 tk pos er K) h)
/-! ### rread: function 25, augur/augurref02.read -/
def rread.ah : AH := ⟨[], [], [], [(43, ⟨[some [.str]], [.c (.sl 3), .c (.int .i64)], []⟩)], [], [none], [], [], []⟩
def rread.W (s1 : ByteArray) (K : List V → List Ob → Prop) : Prop :=
 (PCalls ax 43 [.str s1] fun r4 => ∃ (l2 : List (List V)) (n3 : Int), r4 = [.sl 3 l2, .int .i64 n3] ∧ (K [.ptr 0 0] [.box [.sl 3 l2, .int .i64 0, .int .i64 n3]]))
theorem rread.eq (s1 : ByteArray) (K : List V → List Ob → Prop) : rread.W s1 K = afn ax rread.ah Tryd.f25 [.str s1] [] K := by kernel_rfl
theorem rread.ok : codeOk tys (hintsOf rread.ah) Tryd.f25.ntmps (Tryd.f25.body.getD .skip) = true := by kernel_rfl
theorem rread.calls {s1 K} (h : rread.W s1 K) : SCalls ax 25 [.str s1] [] K :=
  afn_run (ah := rread.ah) tysOk fnsOk follows eqOk Tryd.func25 (by kernel_rfl) rread.ok (by kernel_rfl) (Eq.mp (rread.eq s1 K) h)
/-! ### rtype: function 48, (*augur/augurref02.Reader).Type -/
def rtype.ah : AH := ⟨[(2, seqO [0, 1, 2, 3, 4, 5, 6, 7, 8, 9, 10, 11, 12, 13, 14, 15, 16]), (4, seqO [0, 1, 2, 3, 4, 5, 6, 7, 8, 9, 10, 11, 12, 13]), (9, seqO [0, 1, 2, 3, 4, 5, 6, 7, 8, 9])], [(8, ⟨[], [(0, [.d (.sl 3), .d (.int .i64), .d (.int .i64)]), (2, [.d (.bool), .d (.str), .nw 103 3 false])], [], []⟩)], [(3, ⟨[(25, [.d (.bool)], false)], [(0, [.d (.sl 3), .d (.int .i64), .d (.int .i64)])], [], []⟩)], [(26, ⟨[none], [.c (.bool)], [.box [.d (.sl 3), .d (.int .i64), .d (.int .i64)]]⟩), (44, ⟨[none, some [.str]], [.c (.bool)], [.box [.d (.sl 3), .d (.int .i64), .d (.int .i64)]]⟩), (45, ⟨[none, some [.int .i64]], [.c (.str)], [.box [.d (.sl 3), .d (.int .i64), .d (.int .i64)]]⟩), (46, ⟨[none, some [.int .i64]], [.c (.bool)], [.box [.d (.sl 3), .d (.int .i64), .d (.int .i64)]]⟩), (48, ⟨[none, some [.int .i64]], [.ag [.bool, .str, .sl 3]], [.box [.d (.sl 3), .d (.int .i64), .d (.int .i64)]]⟩), (66, ⟨[none, some [.int .i64]], [], [.box [.d (.sl 3), .d (.int .i64), .d (.int .i64)]]⟩)], [], [some [.bool, .str, .sl 3]], [], [], []⟩
def rtype.W (n1 : Int) (tk : List (List V)) (pos : Int) (er : Int) (K : List V → List Ob → Prop) : Prop :=
 (SCalls ax 66 [.ptr 0 0, .int .i64 n1] [.box [.sl 3 tk, .int .i64 pos, .int .i64 er]] fun r7 o11 => ∃ (l8 : List (List V)) (n9 : Int) (n10 : Int), r7 = [] ∧ o11 = [.box [.sl 3 l8, .int .i64 n9, .int .i64 n10]] ∧ (∃ J39 : List V → Prop, (SCalls ax 26 [.ptr 0 0] [.box [.sl 3 l8, .int .i64 n9, .int .i64 n10]] fun r41 o45 => ∃ (b40 : Bool) (l42 : List (List V)) (n43 : Int) (n44 : Int), r41 = [.bool b40] ∧ o45 = [.box [.sl 3 l42, .int .i64 n43, .int .i64 n44]] ∧ (bif (!b40) then (0 ≤ n43 ∧ n43 < (List.length l42 : Int) ∧ (∃ (n46 : Int), List.take 1 (Av.rowAt l42 (n43 : Int).toNat) = [.int .i64 n46] ∧ (J39 [(.bool (n46 == (2 : Int))), .sl 3 l42, .int .i64 n43, .int .i64 n44]))) else (J39 [.bool false, .sl 3 l42, .int .i64 n43, .int .i64 n44]))) ∧
 (∀ (b47 : Bool) (l48 : List (List V)) (n49 : Int) (n50 : Int), J39 [.bool b47, .sl 3 l48, .int .i64 n49, .int .i64 n50] →
 (bif b47 then
 (0 ≤ (IntKind.i64.wrap ((IntKind.i64.wrap (n49 + 1)) - 1)) ∧ (IntKind.i64.wrap ((IntKind.i64.wrap (n49 + 1)) - 1)) < (List.length l48 : Int) ∧ (∃ (s51 : ByteArray), List.take 1 (List.drop 1 (Av.rowAt l48 ((IntKind.i64.wrap ((IntKind.i64.wrap (n49 + 1)) - 1)) : Int).toNat)) = [.str s51] ∧ (K [.agg [.bool true, .str s51, .sl 3 []]] [(.box [.sl 3 l48, (.int .i64 (IntKind.i64.wrap (n49 + 1))), .int .i64 n50])])))
 else
 (SCalls ax 44 [.ptr 0 0, (.str (⟨#[105, 110, 116]⟩ : ByteArray))] [.box [.sl 3 l48, .int .i64 n49, .int .i64 n50]] fun r59 o63 => ∃ (b58 : Bool) (l60 : List (List V)) (n61 : Int) (n62 : Int), r59 = [.bool b58] ∧ o63 = [.box [.sl 3 l60, .int .i64 n61, .int .i64 n62]] ∧ (bif b58 then
 (K [(.agg [.bool false, (.str (⟨#[105, 110, 116]⟩ : ByteArray)), .sl 3 []])] [.box [.sl 3 l60, .int .i64 n61, .int .i64 n62]])
 else
 (SCalls ax 45 [.ptr 0 0, .int .i64 1] [.box [.sl 3 l60, .int .i64 n61, .int .i64 n62]] fun r71 o75 => ∃ (s70 : ByteArray) (l72 : List (List V)) (n73 : Int) (n74 : Int), r71 = [.str s70] ∧ o75 = [.box [.sl 3 l72, .int .i64 n73, .int .i64 n74]] ∧ (∃ (I110 : List V → Prop) (μ111 : List V → Nat), I110 [.sl 3 l72, .int .i64 n73, .int .i64 n74, .bool false, .str s70, .sl 3 []] ∧ (∀ (l112 : List (List V)) (n113 : Int) (n114 : Int) (b115 : Bool) (s116 : ByteArray) (l117 : List (List V)), I110 [.sl 3 l112, .int .i64 n113, .int .i64 n114, .bool b115, .str s116, .sl 3 l117] →
 (bif (n114 == (0 : Int)) then (SCalls ax 46 [.ptr 0 0, (.int .i64 (List.length l117 : Int))] [.box [.sl 3 l112, .int .i64 n113, .int .i64 n114]] fun r119 o123 => ∃ (b118 : Bool) (l120 : List (List V)) (n121 : Int) (n122 : Int), r119 = [.bool b118] ∧ o123 = [.box [.sl 3 l120, .int .i64 n121, .int .i64 n122]] ∧ (bif b118 then
 (SCalls ax 48 [.ptr 0 0, (.int .i64 (IntKind.i64.wrap (n1 + 1)))] [.box [.sl 3 l120, .int .i64 n121, .int .i64 n122]] fun r127 o131 => ∃ (b124 : Bool) (s125 : ByteArray) (l126 : List (List V)) (l128 : List (List V)) (n129 : Int) (n130 : Int), r127 = [.agg [.bool b124, .str s125, .sl 3 l126]] ∧ o131 = [.box [.sl 3 l128, .int .i64 n129, .int .i64 n130]] ∧ (((List.length l117) + (List.length ([[.bool b124, .str s125, .sl 3 l126]] : List (List V)))) * 48 ≤ 140737488355328 ∧ (List.length l117) + (List.length ([[.bool b124, .str s125, .sl 3 l126]] : List (List V))) ≤ 140737488355328 ∧ (I110 [.sl 3 l128, .int .i64 n129, .int .i64 n130, .bool b115, .str s116, (.sl 3 (l117 ++ [[.bool b124, .str s125, .sl 3 l126]]))] ∧ μ111 [.sl 3 l128, .int .i64 n129, .int .i64 n130, .bool b115, .str s116, (.sl 3 (l117 ++ [[.bool b124, .str s125, .sl 3 l126]]))] < μ111 [.sl 3 l112, .int .i64 n113, .int .i64 n114, .bool b115, .str s116, .sl 3 l117])))
 else
 (K [.agg [.bool b115, .str s116, .sl 3 l117]] [.box [.sl 3 l120, .int .i64 n121, .int .i64 n122]]))) else (K [.agg [.bool b115, .str s116, .sl 3 l117]] [.box [.sl 3 l112, .int .i64 n113, .int .i64 n114]])))))))))))
theorem rtype.eq (n1 : Int) (tk : List (List V)) (pos : Int) (er : Int) (K : List V → List Ob → Prop) : rtype.W n1 tk pos er K = afn ax rtype.ah Tryd.f48 [.ptr 0 0, .int .i64 n1] [.box [.sl 3 tk, .int .i64 pos, .int .i64 er]] K := by kernel_rfl
theorem rtype.ok : codeOk tys (hintsOf rtype.ah) Tryd.f48.ntmps (Tryd.f48.body.getD .skip) = true := by kernel_rfl
theorem rtype.calls {n1 tk pos er K} (h : rtype.W n1 tk pos er K) : SCalls ax 48 [.ptr 0 0, .int .i64 n1] [.box [.sl 3 tk, .int .i64 pos, .int .i64 er]] K :=
  afn_run (ah := rtype.ah) tysOk fnsOk follows eqOk Tryd.func48 (by kernel_rfl) rtype.ok (by kernel_rfl) (Eq.mp (rtype.eq n1 tk pos er K) h)
/-! ### RReserved: function 65, augur/augurref01.Reserved -/
def RReserved.ah : AH := ⟨[], [(2, ⟨[(7, [.d (.int .i64)], false)], [], [], []⟩)], [], [], [], [some [.bool]], [], [], []⟩
def RReserved.W (s1 : ByteArray) (K : List V → Prop) : Prop :=
 (∃ (I4 : List V → Prop) (μ5 : List V → Nat), I4 [.int .i64 0] ∧ (∀ (n6 : Int), I4 [.int .i64 n6] →
 (bif (decide (n6 < (List.length ([[(.str (⟨#[116, 121, 112, 101]⟩ : ByteArray))], [(.str (⟨#[112, 114, 101, 100]⟩ : ByteArray))], [(.str (⟨#[109, 111, 100, 101]⟩ : ByteArray))], [(.str (⟨#[105, 115]⟩ : ByteArray))], [(.str (⟨#[100, 101, 116]⟩ : ByteArray))], [(.str (⟨#[115, 101, 109, 105, 100, 101, 116]⟩ : ByteArray))], [(.str (⟨#[109, 117, 108, 116, 105]⟩ : ByteArray))], [(.str (⟨#[110, 111, 110, 100, 101, 116]⟩ : ByteArray))], [(.str (⟨#[105, 110]⟩ : ByteArray))], [(.str (⟨#[111, 117, 116]⟩ : ByteArray))], [(.str (⟨#[116, 114, 117, 101]⟩ : ByteArray))], [(.str (⟨#[102, 97, 105, 108]⟩ : ByteArray))], [(.str (⟨#[110, 111, 116]⟩ : ByteArray))], [(.str (⟨#[116, 104, 114, 111, 119]⟩ : ByteArray))], [(.str (⟨#[116, 114, 121]⟩ : ByteArray))], [(.str (⟨#[99, 97, 116, 99, 104]⟩ : ByteArray))], [(.str (⟨#[116, 104, 101, 110]⟩ : ByteArray))], [(.str (⟨#[105, 110, 116]⟩ : ByteArray))]] : List (List V)) : Int))) then
 (0 ≤ n6 ∧ n6 < (List.length ([[(.str (⟨#[116, 121, 112, 101]⟩ : ByteArray))], [(.str (⟨#[112, 114, 101, 100]⟩ : ByteArray))], [(.str (⟨#[109, 111, 100, 101]⟩ : ByteArray))], [(.str (⟨#[105, 115]⟩ : ByteArray))], [(.str (⟨#[100, 101, 116]⟩ : ByteArray))], [(.str (⟨#[115, 101, 109, 105, 100, 101, 116]⟩ : ByteArray))], [(.str (⟨#[109, 117, 108, 116, 105]⟩ : ByteArray))], [(.str (⟨#[110, 111, 110, 100, 101, 116]⟩ : ByteArray))], [(.str (⟨#[105, 110]⟩ : ByteArray))], [(.str (⟨#[111, 117, 116]⟩ : ByteArray))], [(.str (⟨#[116, 114, 117, 101]⟩ : ByteArray))], [(.str (⟨#[102, 97, 105, 108]⟩ : ByteArray))], [(.str (⟨#[110, 111, 116]⟩ : ByteArray))], [(.str (⟨#[116, 104, 114, 111, 119]⟩ : ByteArray))], [(.str (⟨#[116, 114, 121]⟩ : ByteArray))], [(.str (⟨#[99, 97, 116, 99, 104]⟩ : ByteArray))], [(.str (⟨#[116, 104, 101, 110]⟩ : ByteArray))], [(.str (⟨#[105, 110, 116]⟩ : ByteArray))]] : List (List V)) : Int) ∧ (∃ (s7 : ByteArray), List.take 1 (Av.rowAt [[(.str (⟨#[116, 121, 112, 101]⟩ : ByteArray))], [(.str (⟨#[112, 114, 101, 100]⟩ : ByteArray))], [(.str (⟨#[109, 111, 100, 101]⟩ : ByteArray))], [(.str (⟨#[105, 115]⟩ : ByteArray))], [(.str (⟨#[100, 101, 116]⟩ : ByteArray))], [(.str (⟨#[115, 101, 109, 105, 100, 101, 116]⟩ : ByteArray))], [(.str (⟨#[109, 117, 108, 116, 105]⟩ : ByteArray))], [(.str (⟨#[110, 111, 110, 100, 101, 116]⟩ : ByteArray))], [(.str (⟨#[105, 110]⟩ : ByteArray))], [(.str (⟨#[111, 117, 116]⟩ : ByteArray))], [(.str (⟨#[116, 114, 117, 101]⟩ : ByteArray))], [(.str (⟨#[102, 97, 105, 108]⟩ : ByteArray))], [(.str (⟨#[110, 111, 116]⟩ : ByteArray))], [(.str (⟨#[116, 104, 114, 111, 119]⟩ : ByteArray))], [(.str (⟨#[116, 114, 121]⟩ : ByteArray))], [(.str (⟨#[99, 97, 116, 99, 104]⟩ : ByteArray))], [(.str (⟨#[116, 104, 101, 110]⟩ : ByteArray))], [(.str (⟨#[105, 110, 116]⟩ : ByteArray))]] ((n6 : Int).toNat)) = [.str s7] ∧ (bif (strEq s7 s1) then
 (K [.bool true])
 else
 (I4 [(.int .i64 (IntKind.i64.wrap (n6 + 1)))] ∧ μ5 [(.int .i64 (IntKind.i64.wrap (n6 + 1)))] < μ5 [.int .i64 n6]))))
 else
 (K [.bool false]))))
theorem RReserved.eq (s1 : ByteArray) (K : List V → Prop) : RReserved.W s1 K = afn ax RReserved.ah Tryd.f65 [.str s1] [] (onlyV K) := by kernel_rfl
theorem RReserved.ok : codeOk tys (hintsOf RReserved.ah) Tryd.f65.ntmps (Tryd.f65.body.getD .skip) = true := by kernel_rfl
theorem RReserved.calls {s1 K} (h : RReserved.W s1 K) : PCalls ax 65 [.str s1] K :=
  afn_run (ah := RReserved.ah) tysOk fnsOk follows eqOk Tryd.func65 (by kernel_rfl) RReserved.ok (by kernel_rfl) (Eq.mp (RReserved.eq s1 K) h)
/-! ### RLex: function 43, augur/augurref01.Lex -/
def RLex.ah : AH := ⟨[], [], [], [(63, ⟨[some [.str]], [.c (.sl 1), .c (.sl 3), .c (.bool)], []⟩)], [], [some [.sl 3], some [.int .i64]], [], [], []⟩
def RLex.W (s1 : ByteArray) (K : List V → Prop) : Prop :=
 (bif (decide ((s1.size : Int) > (16384 : Int))) then
 (K [.sl 3 [], .int .i64 4])
 else
 (PCalls ax 63 [.str s1] fun r5 => ∃ (l2 : List (List V)) (l3 : List (List V)) (b4 : Bool), r5 = [.sl 1 l2, .sl 3 l3, .bool b4] ∧ (bif (!b4) then
 (K [.sl 3 [], .int .i64 1])
 else
 (K [.sl 3 l3, .int .i64 0]))))
theorem RLex.eq (s1 : ByteArray) (K : List V → Prop) : RLex.W s1 K = afn ax RLex.ah Tryd.f43 [.str s1] [] (onlyV K) := by kernel_rfl
theorem RLex.ok : codeOk tys (hintsOf RLex.ah) Tryd.f43.ntmps (Tryd.f43.body.getD .skip) = true := by kernel_rfl
theorem RLex.calls {s1 K} (h : RLex.W s1 K) : PCalls ax 43 [.str s1] K :=
  afn_run (ah := RLex.ah) tysOk fnsOk follows eqOk Tryd.func43 (by kernel_rfl) RLex.ok (by kernel_rfl) (Eq.mp (RLex.eq s1 K) h)
/-! ### RAll: function 63, augur/augurref01.All -/
def RAll.ah : AH := ⟨[(9, (.one 0 (.one 1 (.one 4 (.one 5 (.alt ((.one 2 (.alt (seqO [3, 6, 7, 8, 9]) (seqO [6, 3, 7, 8, 9])))) (seqO [6, 2, 3, 7, 8, 9])))))))], [(4, ⟨[(5, [.nw 3 1 false], false), (6, [.nw 136 3 false], false), (7, [.d (.bool)], false), (8, [.d (.int .i64)], false)], [], [], [0, 1]⟩)], [(15, ⟨[(50, [.d (.bool)], false)], [], [], []⟩)], [(70, ⟨[some [.str], some [.int .i64]], [.ag [.int .i64, .str, .int .i64], .c (.bool)], []⟩)], [], [some [.sl 1], some [.sl 3], some [.bool]], [], [], []⟩
def RAll.W (s1 : ByteArray) (K : List V → Prop) : Prop :=
 (∃ (I36 : List V → Prop) (μ37 : List V → Nat), I36 [.sl 1 [], .sl 3 [], .bool false, .int .i64 0] ∧ (∀ (l38 : List (List V)) (l39 : List (List V)) (b40 : Bool) (n41 : Int), I36 [.sl 1 l38, .sl 3 l39, .bool b40, .int .i64 n41] →
 (bif (decide (n41 < (s1.size : Int))) then
 (0 ≤ n41 ∧ ∃ u43 : UInt8, s1[(n41 : Int).toNat]? = some u43 ∧ (bif b40 then
 (I36 [.sl 1 l38, .sl 3 l39, (.bool ((u43.toNat : Int) != (10 : Int))), (.int .i64 (IntKind.i64.wrap (n41 + 1)))] ∧ μ37 [.sl 1 l38, .sl 3 l39, (.bool ((u43.toNat : Int) != (10 : Int))), (.int .i64 (IntKind.i64.wrap (n41 + 1)))] < μ37 [.sl 1 l38, .sl 3 l39, .bool b40, .int .i64 n41])
 else
 (∃ J44 : List V → Prop, (bif ((u43.toNat : Int) == (9 : Int)) then (J44 [.bool true]) else (bif ((u43.toNat : Int) == (10 : Int)) then (J44 [.bool true]) else (bif ((u43.toNat : Int) == (13 : Int)) then (J44 [.bool true]) else (J44 [(.bool ((u43.toNat : Int) == (32 : Int)))])))) ∧
 (∀ (b45 : Bool), J44 [.bool b45] →
 (bif b45 then
 (I36 [.sl 1 l38, .sl 3 l39, .bool b40, (.int .i64 (IntKind.i64.wrap (n41 + 1)))] ∧ μ37 [.sl 1 l38, .sl 3 l39, .bool b40, (.int .i64 (IntKind.i64.wrap (n41 + 1)))] < μ37 [.sl 1 l38, .sl 3 l39, .bool b40, .int .i64 n41])
 else
 (bif ((u43.toNat : Int) == (37 : Int)) then
 (I36 [.sl 1 l38, .sl 3 l39, .bool true, (.int .i64 (IntKind.i64.wrap (n41 + 1)))] ∧ μ37 [.sl 1 l38, .sl 3 l39, .bool true, (.int .i64 (IntKind.i64.wrap (n41 + 1)))] < μ37 [.sl 1 l38, .sl 3 l39, .bool b40, .int .i64 n41])
 else
 (PCalls ax 70 [.str s1, .int .i64 n41] fun r55 => ∃ (n51 : Int) (s52 : ByteArray) (n53 : Int) (b54 : Bool), r55 = [.agg [.int .i64 n51, .str s52, .int .i64 n53], .bool b54] ∧ (bif (!b54) then
 (K [.sl 1 l38, .sl 3 l39, .bool false])
 else
 (((((List.length l38) + (List.length ([[.int .i64 n41]] : List (List V)))) * 8 ≤ 140737488355328 ∧ (List.length l38) + (List.length ([[.int .i64 n41]] : List (List V))) ≤ 140737488355328 ∧ (((List.length l39) + (List.length ([[.int .i64 n51, .str s52, .int .i64 n53]] : List (List V)))) * 32 ≤ 140737488355328 ∧ (List.length l39) + (List.length ([[.int .i64 n51, .str s52, .int .i64 n53]] : List (List V))) ≤ 140737488355328 ∧ (I36 [(.sl 1 (l38 ++ [[.int .i64 n41]])), (.sl 3 (l39 ++ [[.int .i64 n51, .str s52, .int .i64 n53]])), .bool b40, (.int .i64 (IntKind.i64.wrap (n41 + (s52.size : Int))))] ∧ μ37 [(.sl 1 (l38 ++ [[.int .i64 n41]])), (.sl 3 (l39 ++ [[.int .i64 n51, .str s52, .int .i64 n53]])), .bool b40, (.int .i64 (IntKind.i64.wrap (n41 + (s52.size : Int))))] < μ37 [.sl 1 l38, .sl 3 l39, .bool b40, .int .i64 n41]))) ∧ (((List.length l38) + (List.length ([[.int .i64 n41]] : List (List V)))) * 8 ≤ 140737488355328 ∧ (List.length l38) + (List.length ([[.int .i64 n41]] : List (List V))) ≤ 140737488355328 ∧ (((List.length l39) + (List.length ([[.int .i64 n51, .str s52, .int .i64 n53]] : List (List V)))) * 32 ≤ 140737488355328 ∧ (List.length l39) + (List.length ([[.int .i64 n51, .str s52, .int .i64 n53]] : List (List V))) ≤ 140737488355328 ∧ (I36 [(.sl 1 (l38 ++ [[.int .i64 n41]])), (.sl 3 (l39 ++ [[.int .i64 n51, .str s52, .int .i64 n53]])), .bool b40, (.int .i64 (IntKind.i64.wrap (n41 + (s52.size : Int))))] ∧ μ37 [(.sl 1 (l38 ++ [[.int .i64 n41]])), (.sl 3 (l39 ++ [[.int .i64 n51, .str s52, .int .i64 n53]])), .bool b40, (.int .i64 (IntKind.i64.wrap (n41 + (s52.size : Int))))] < μ37 [.sl 1 l38, .sl 3 l39, .bool b40, .int .i64 n41])))) ∧ (((List.length l38) + (List.length ([[.int .i64 n41]] : List (List V)))) * 8 ≤ 140737488355328 ∧ (List.length l38) + (List.length ([[.int .i64 n41]] : List (List V))) ≤ 140737488355328 ∧ (((List.length l39) + (List.length ([[.int .i64 n51, .str s52, .int .i64 n53]] : List (List V)))) * 32 ≤ 140737488355328 ∧ (List.length l39) + (List.length ([[.int .i64 n51, .str s52, .int .i64 n53]] : List (List V))) ≤ 140737488355328 ∧ (I36 [(.sl 1 (l38 ++ [[.int .i64 n41]])), (.sl 3 (l39 ++ [[.int .i64 n51, .str s52, .int .i64 n53]])), .bool b40, (.int .i64 (IntKind.i64.wrap (n41 + (s52.size : Int))))] ∧ μ37 [(.sl 1 (l38 ++ [[.int .i64 n41]])), (.sl 3 (l39 ++ [[.int .i64 n51, .str s52, .int .i64 n53]])), .bool b40, (.int .i64 (IntKind.i64.wrap (n41 + (s52.size : Int))))] < μ37 [.sl 1 l38, .sl 3 l39, .bool b40, .int .i64 n41]))))))))))))
 else
 (K [.sl 1 l38, .sl 3 l39, .bool true]))))
theorem RAll.eq (s1 : ByteArray) (K : List V → Prop) : RAll.W s1 K = afn ax RAll.ah Tryd.f63 [.str s1] [] (onlyV K) := by kernel_rfl
theorem RAll.ok : codeOk tys (hintsOf RAll.ah) Tryd.f63.ntmps (Tryd.f63.body.getD .skip) = true := by kernel_rfl
theorem RAll.calls {s1 K} (h : RAll.W s1 K) : PCalls ax 63 [.str s1] K :=
  afn_run (ah := RAll.ah) tysOk fnsOk follows eqOk Tryd.func63 (by kernel_rfl) RAll.ok (by kernel_rfl) (Eq.mp (RAll.eq s1 K) h)
/-! ### RWord: function 70, augur/augurref01.Word -/
def RWord.ah : AH := ⟨[(15, seqO [0, 1, 2, 3, 4, 5, 6, 7, 8, 9, 10, 11, 12, 13, 14, 15, 16, 17, 18, 19, 20, 21])], [(4, ⟨[(7, [.d (.int .i64)], false)], [], [], []⟩), (12, ⟨[(7, [.d (.int .i64)], false)], [], [], []⟩), (19, ⟨[(121, [.d (.int .i64)], false)], [], [], []⟩)], [(6, ⟨[(7, [.d (.int .i64)], false)], [], [], []⟩), (11, ⟨[(58, [.d (.bool)], false)], [], [], []⟩), (14, ⟨[(7, [.d (.int .i64)], false)], [], [], []⟩), (18, ⟨[], [], [], []⟩)], [(71, ⟨[some [.int .u8]], [.c (.bool)], []⟩), (72, ⟨[some [.int .u8]], [.c (.bool)], []⟩), (73, ⟨[some [.str]], [.c (.int .i64), .c (.bool)], []⟩)], [], [some [.int .i64, .str, .int .i64], some [.bool]], [], [], []⟩
def RWord.W (s1 : ByteArray) (n2 : Int) (K : List V → Prop) : Prop :=
 (0 ≤ n2 ∧ ∃ u4 : UInt8, s1[(n2 : Int).toNat]? = some u4 ∧ (PCalls ax 71 [(.int .u8 (u4.toNat : Int))] fun r46 => ∃ (b45 : Bool), r46 = [.bool b45] ∧ (bif b45 then
 (∃ J63 : List V → Prop, (∃ (I71 : List V → Prop) (μ72 : List V → Nat), I71 [.int .i64 n2] ∧ (∀ (n73 : Int), I71 [.int .i64 n73] →
 (bif (decide (n73 < (s1.size : Int))) then (0 ≤ n73 ∧ ∃ u74 : UInt8, s1[(n73 : Int).toNat]? = some u74 ∧ (PCalls ax 71 [(.int .u8 (u74.toNat : Int))] fun r76 => ∃ (b75 : Bool), r76 = [.bool b75] ∧ (bif b75 then (I71 [(.int .i64 (IntKind.i64.wrap (n73 + 1)))] ∧ μ72 [(.int .i64 (IntKind.i64.wrap (n73 + 1)))] < μ72 [.int .i64 n73]) else (0 ≤ n73 ∧ ∃ u77 : UInt8, s1[(n73 : Int).toNat]? = some u77 ∧ (PCalls ax 72 [(.int .u8 (u77.toNat : Int))] fun r79 => ∃ (b78 : Bool), r79 = [.bool b78] ∧ (bif b78 then
 (I71 [(.int .i64 (IntKind.i64.wrap (n73 + 1)))] ∧ μ72 [(.int .i64 (IntKind.i64.wrap (n73 + 1)))] < μ72 [.int .i64 n73])
 else
 (J63 [.int .i64 n73]))))))) else (J63 [.int .i64 n73])))) ∧
 (∀ (n80 : Int), J63 [.int .i64 n80] →
 (bif (decide ((u4.toNat : Int) ≥ (97 : Int))) then (bif (decide ((u4.toNat : Int) ≤ (122 : Int))) then
 (0 ≤ n2 ∧ n2 ≤ n80 ∧ n80 ≤ (s1.size : Int) ∧ (K [(.agg [.int .i64 1, (.str (s1.extract (n2 : Int).toNat (n80 : Int).toNat)), .int .i64 0]), (.bool (decide ((IntKind.i64.wrap (n80 - n2)) ≤ (32 : Int))))]))
 else
 (0 ≤ n2 ∧ n2 ≤ n80 ∧ n80 ≤ (s1.size : Int) ∧ (K [(.agg [.int .i64 2, (.str (s1.extract (n2 : Int).toNat (n80 : Int).toNat)), .int .i64 0]), (.bool (decide ((IntKind.i64.wrap (n80 - n2)) ≤ (32 : Int))))]))) else (0 ≤ n2 ∧ n2 ≤ n80 ∧ n80 ≤ (s1.size : Int) ∧ (K [(.agg [.int .i64 2, (.str (s1.extract (n2 : Int).toNat (n80 : Int).toNat)), .int .i64 0]), (.bool (decide ((IntKind.i64.wrap (n80 - n2)) ≤ (32 : Int))))])))))
 else
 (∃ J120 : List V → Prop, (PCalls ax 72 [(.int .u8 (u4.toNat : Int))] fun r122 => ∃ (b121 : Bool), r122 = [.bool b121] ∧ (bif b121 then (J120 [.bool true]) else (J120 [(.bool ((u4.toNat : Int) == (45 : Int)))]))) ∧
 (∀ (b123 : Bool), J120 [.bool b123] →
 (bif b123 then
 (∃ J134 : List V → Prop, (∃ (I139 : List V → Prop) (μ140 : List V → Nat), I139 [(.int .i64 (IntKind.i64.wrap (n2 + 1)))] ∧ (∀ (n141 : Int), I139 [.int .i64 n141] →
 (bif (decide (n141 < (s1.size : Int))) then (0 ≤ n141 ∧ ∃ u142 : UInt8, s1[(n141 : Int).toNat]? = some u142 ∧ (PCalls ax 72 [(.int .u8 (u142.toNat : Int))] fun r144 => ∃ (b143 : Bool), r144 = [.bool b143] ∧ (bif b143 then
 (I139 [(.int .i64 (IntKind.i64.wrap (n141 + 1)))] ∧ μ140 [(.int .i64 (IntKind.i64.wrap (n141 + 1)))] < μ140 [.int .i64 n141])
 else
 (J134 [.int .i64 n141])))) else (J134 [.int .i64 n141])))) ∧
 (∀ (n145 : Int), J134 [.int .i64 n145] →
 (0 ≤ n2 ∧ n2 ≤ n145 ∧ n145 ≤ (s1.size : Int) ∧ (PCalls ax 73 [(.str (s1.extract (n2 : Int).toNat (n145 : Int).toNat))] fun r151 => ∃ (n149 : Int) (b150 : Bool), r151 = [.int .i64 n149, .bool b150] ∧ (0 ≤ n2 ∧ n2 ≤ n145 ∧ n145 ≤ (s1.size : Int) ∧ (bif b150 then (bif (n145 == (s1.size : Int)) then (K [(.agg [.int .i64 3, (.str (s1.extract (n2 : Int).toNat (n145 : Int).toNat)), .int .i64 n149]), .bool true]) else (0 ≤ n145 ∧ ∃ u152 : UInt8, s1[(n145 : Int).toNat]? = some u152 ∧ (PCalls ax 71 [(.int .u8 (u152.toNat : Int))] fun r154 => ∃ (b153 : Bool), r154 = [.bool b153] ∧ (K [(.agg [.int .i64 3, (.str (s1.extract (n2 : Int).toNat (n145 : Int).toNat)), .int .i64 n149]), (.bool (!b153))])))) else (K [(.agg [.int .i64 3, (.str (s1.extract (n2 : Int).toNat (n145 : Int).toNat)), .int .i64 n149]), .bool false])))))))
 else
 (∃ J156 : List V → Prop, (bif ((u4.toNat : Int) == (58 : Int)) then (bif (decide (n2 < (IntKind.i64.wrap ((s1.size : Int) - 1)))) then (0 ≤ (IntKind.i64.wrap (n2 + 1)) ∧ ∃ u157 : UInt8, s1[((IntKind.i64.wrap (n2 + 1)) : Int).toNat]? = some u157 ∧ (bif ((u157.toNat : Int) == (45 : Int)) then
 (K [(.agg [.int .i64 4, (.str (⟨#[58, 45]⟩ : ByteArray)), .int .i64 0]), .bool true])
 else
 (J156 []))) else (J156 [])) else (J156 [])) ∧
 (J156 [] →
 (0 < List.length ([[.int .u8 40], [.int .u8 41], [.int .u8 44], [.int .u8 46], [.int .u8 59], [.int .u8 124], [.int .u8 61]] : List (List V)) ∧ (∃ (I160 : List V → Prop) (μ161 : List V → Nat), I160 [.int .i64 0] ∧ (∀ (n162 : Int), I160 [.int .i64 n162] →
 (bif (decide (n162 < (List.length ([[.int .u8 40], [.int .u8 41], [.int .u8 44], [.int .u8 46], [.int .u8 59], [.int .u8 124], [.int .u8 61]] : List (List V)) : Int))) then
 (0 ≤ n162 ∧ n162 < (List.length ([[.int .u8 40], [.int .u8 41], [.int .u8 44], [.int .u8 46], [.int .u8 59], [.int .u8 124], [.int .u8 61]] : List (List V)) : Int) ∧ (∃ (n163 : Int), List.take 1 (Av.rowAt [[.int .u8 40], [.int .u8 41], [.int .u8 44], [.int .u8 46], [.int .u8 59], [.int .u8 124], [.int .u8 61]] (n162 : Int).toNat) = [.int .u8 n163] ∧ (bif (n163 == (u4.toNat : Int)) then
 (0 ≤ n2 ∧ n2 ≤ (IntKind.i64.wrap (n2 + 1)) ∧ (IntKind.i64.wrap (n2 + 1)) ≤ (s1.size : Int) ∧ (K [(.agg [.int .i64 4, (.str (s1.extract (n2 : Int).toNat ((IntKind.i64.wrap (n2 + 1)) : Int).toNat)), .int .i64 0]), .bool true]))
 else
 (I160 [(.int .i64 (IntKind.i64.wrap (n162 + 1)))] ∧ μ161 [(.int .i64 (IntKind.i64.wrap (n162 + 1)))] < μ161 [.int .i64 n162]))))
 else
 (K [(.agg [.int .i64 0, (.str (⟨#[]⟩ : ByteArray)), .int .i64 0]), .bool false])))))))))))))
theorem RWord.eq (s1 : ByteArray) (n2 : Int) (K : List V → Prop) : RWord.W s1 n2 K = afn ax RWord.ah Tryd.f70 [.str s1, .int .i64 n2] [] (onlyV K) := by kernel_rfl
theorem RWord.ok : codeOk tys (hintsOf RWord.ah) Tryd.f70.ntmps (Tryd.f70.body.getD .skip) = true := by kernel_rfl
theorem RWord.calls {s1 n2 K} (h : RWord.W s1 n2 K) : PCalls ax 70 [.str s1, .int .i64 n2] K :=
  afn_run (ah := RWord.ah) tysOk fnsOk follows eqOk Tryd.func70 (by kernel_rfl) RWord.ok (by kernel_rfl) (Eq.mp (RWord.eq s1 n2 K) h)
/-! ### rletter: function 71, augur/augurref01.letter -/
def rletter.ah : AH := ⟨[], [], [], [], [], [some [.bool]], [], [], []⟩
def rletter.W (n1 : Int) (K : List V → Prop) : Prop :=
 (bif (decide (n1 ≥ (97 : Int))) then (bif (decide (n1 ≤ (122 : Int))) then (K [.bool true]) else (bif (decide (n1 ≥ (65 : Int))) then (bif (decide (n1 ≤ (90 : Int))) then (K [.bool true]) else (K [(.bool (n1 == (95 : Int)))])) else (K [(.bool (n1 == (95 : Int)))]))) else (bif (decide (n1 ≥ (65 : Int))) then (bif (decide (n1 ≤ (90 : Int))) then (K [.bool true]) else (K [(.bool (n1 == (95 : Int)))])) else (K [(.bool (n1 == (95 : Int)))])))
theorem rletter.eq (n1 : Int) (K : List V → Prop) : rletter.W n1 K = afn ax rletter.ah Tryd.f71 [.int .u8 n1] [] (onlyV K) := by kernel_rfl
theorem rletter.ok : codeOk tys (hintsOf rletter.ah) Tryd.f71.ntmps (Tryd.f71.body.getD .skip) = true := by kernel_rfl
theorem rletter.calls {n1 K} (h : rletter.W n1 K) : PCalls ax 71 [.int .u8 n1] K :=
  afn_run (ah := rletter.ah) tysOk fnsOk follows eqOk Tryd.func71 (by kernel_rfl) rletter.ok (by kernel_rfl) (Eq.mp (rletter.eq n1 K) h)
/-! ### rdigit: function 72, augur/augurref01.digit -/
def rdigit.ah : AH := ⟨[], [], [], [], [], [some [.bool]], [], [], []⟩
def rdigit.W (n1 : Int) (K : List V → Prop) : Prop :=
 (bif (decide (n1 ≥ (48 : Int))) then (K [(.bool (decide (n1 ≤ (57 : Int))))]) else (K [.bool false]))
theorem rdigit.eq (n1 : Int) (K : List V → Prop) : rdigit.W n1 K = afn ax rdigit.ah Tryd.f72 [.int .u8 n1] [] (onlyV K) := by kernel_rfl
theorem rdigit.ok : codeOk tys (hintsOf rdigit.ah) Tryd.f72.ntmps (Tryd.f72.body.getD .skip) = true := by kernel_rfl
theorem rdigit.calls {n1 K} (h : rdigit.W n1 K) : PCalls ax 72 [.int .u8 n1] K :=
  afn_run (ah := rdigit.ah) tysOk fnsOk follows eqOk Tryd.func72 (by kernel_rfl) rdigit.ok (by kernel_rfl) (Eq.mp (rdigit.eq n1 K) h)
/-! ### RInt: function 73, augur/augurref01.Int -/
def RInt.ah : AH := ⟨[], [(8, ⟨[(5, [.d (.int .i64)], false), (6, [.d (.int .i64)], false)], [], [], []⟩)], [(4, ⟨[(4, [.d (.str)], false)], [], [], []⟩), (6, ⟨[], [], [], []⟩)], [], [], [some [.int .i64], some [.bool]], [], [], []⟩
def RInt.W (s1 : ByteArray) (K : List V → Prop) : Prop :=
 (∃ J3 : List V → Prop, (bif (decide ((s1.size : Int) > (0 : Int))) then (0 ≤ (0 : Int) ∧ ∃ u4 : UInt8, s1[0]? = some u4 ∧ (bif ((u4.toNat : Int) == (45 : Int)) then
 (0 ≤ (1 : Int) ∧ (1 : Int) ≤ (s1.size : Int) ∧ (J3 [(.str (s1.extract 1 s1.size))]))
 else
 (J3 [.str s1]))) else (J3 [.str s1])) ∧
 (∀ (s5 : ByteArray), J3 [.str s5] →
 (∃ J7 : List V → Prop, (bif ((s5.size : Int) == (0 : Int)) then (K [.int .i64 0, .bool false]) else (bif (decide ((s5.size : Int) > (19 : Int))) then (K [.int .i64 0, .bool false]) else (0 ≤ (0 : Int) ∧ ∃ u8 : UInt8, s5[0]? = some u8 ∧ (bif ((u8.toNat : Int) == (48 : Int)) then (bif (decide ((s1.size : Int) > (1 : Int))) then
 (K [.int .i64 0, .bool false])
 else
 (J7 [])) else (J7 []))))) ∧
 (J7 [] →
 (∃ (I29 : List V → Prop) (μ30 : List V → Nat), I29 [.int .i64 0, .int .i64 0] ∧ (∀ (n31 : Int) (n32 : Int), I29 [.int .i64 n31, .int .i64 n32] →
 (bif (decide (n32 < (s5.size : Int))) then
 (0 ≤ n32 ∧ ∃ u34 : UInt8, s5[(n32 : Int).toNat]? = some u34 ∧ (0 ≤ n32 ∧ ∃ u35 : UInt8, s5[(n32 : Int).toNat]? = some u35 ∧ (bif (decide ((u35.toNat : Int) < (48 : Int))) then (K [.int .i64 0, .bool false]) else (0 ≤ n32 ∧ ∃ u36 : UInt8, s5[(n32 : Int).toNat]? = some u36 ∧ (bif (decide ((u36.toNat : Int) > (57 : Int))) then (K [.int .i64 0, .bool false]) else (IntKind.i64 = IntKind.i64 ∧ (10 : Int) ≠ 0 ∧ (bif (decide (n31 < (IntKind.i64.wrap (Int.tdiv (IntKind.i64.wrap ((-9223372036854775808) + (IntKind.i64.wrap (IntKind.u8.wrap ((u34.toNat : Int) - 48))))) (10 : Int))))) then
 (K [.int .i64 0, .bool false])
 else
 (I29 [(.int .i64 (IntKind.i64.wrap ((IntKind.i64.wrap (10 * n31)) - (IntKind.i64.wrap (IntKind.u8.wrap ((u34.toNat : Int) - 48)))))), (.int .i64 (IntKind.i64.wrap (n32 + 1)))] ∧ μ30 [(.int .i64 (IntKind.i64.wrap ((IntKind.i64.wrap (10 * n31)) - (IntKind.i64.wrap (IntKind.u8.wrap ((u34.toNat : Int) - 48)))))), (.int .i64 (IntKind.i64.wrap (n32 + 1)))] < μ30 [.int .i64 n31, .int .i64 n32]))))))))
 else
 (0 ≤ (0 : Int) ∧ ∃ u37 : UInt8, s1[0]? = some u37 ∧ (bif ((u37.toNat : Int) == (45 : Int)) then
 (K [.int .i64 n31, .bool true])
 else
 (bif (n31 == (-9223372036854775808)) then
 (K [.int .i64 0, .bool false])
 else
 (K [(.int .i64 (IntKind.i64.wrap (0 - n31))), .bool true])))))))))))
theorem RInt.eq (s1 : ByteArray) (K : List V → Prop) : RInt.W s1 K = afn ax RInt.ah Tryd.f73 [.str s1] [] (onlyV K) := by kernel_rfl
theorem RInt.ok : codeOk tys (hintsOf RInt.ah) Tryd.f73.ntmps (Tryd.f73.body.getD .skip) = true := by kernel_rfl
theorem RInt.calls {s1 K} (h : RInt.W s1 K) : PCalls ax 73 [.str s1] K :=
  afn_run (ah := RInt.ah) tysOk fnsOk follows eqOk Tryd.func73 (by kernel_rfl) RInt.ok (by kernel_rfl) (Eq.mp (RInt.eq s1 K) h)
/-! ### put: function 24, augur/data.put -/
def put.ah : AH := ⟨[(9, seqO [0, 1, 2])], [(4, ⟨[(0, [.nw 5 1 false], false), (6, [.d (.int .i64)], false)], [], [], [3]⟩), (14, ⟨[(0, [.nw 5 1 false], false), (68, [.d (.int .i64)], false)], [], [], [6]⟩)], [], [(24, ⟨[none, some [.bool, .int .i64, .str, .sl 4]], [.lit (.own 1), .c (.err)], [.dead, .lst 5 1 false]⟩)], [], [some [.sl 1], some [.err]], [], [0], [.nw 5 1 false, .d (.err)]⟩
def put.W (b1 : Bool) (n2 : Int) (s3 : ByteArray) (l4 : List (List V)) (l : List (List V)) (K : List V → List Ob → Prop) : Prop :=
 (bif (!b1) then
 (((List.length l) + (List.length ([[.int .u8 0]] : List (List V)))) * 1 ≤ 140737488355328 ∧ (List.length l) + (List.length ([[.int .u8 0]] : List (List V))) ≤ 140737488355328 ∧ (∃ (I15 : List V → Prop) (μ16 : List V → Nat), I15 [(.sl 1 (l ++ [[.int .u8 0]])), .int .i64 0] ∧ (∀ (l17 : List (List V)) (n18 : Int), I15 [.sl 1 l17, .int .i64 n18] →
 (bif (decide (n18 < (64 : Int))) then
 (0 ≤ n18 ∧ (((List.length l17) + (List.length ([[(.int .u8 (IntKind.u8.wrap (Int.fdiv (IntKind.u64.wrap n2) (2 ^ min (n18 : Int).toNat IntKind.u64.bits))))]] : List (List V)))) * 1 ≤ 140737488355328 ∧ (List.length l17) + (List.length ([[(.int .u8 (IntKind.u8.wrap (Int.fdiv (IntKind.u64.wrap n2) (2 ^ min (n18 : Int).toNat IntKind.u64.bits))))]] : List (List V))) ≤ 140737488355328 ∧ (I15 [(.sl 1 (l17 ++ [[(.int .u8 (IntKind.u8.wrap (Int.fdiv (IntKind.u64.wrap n2) (2 ^ min (n18 : Int).toNat IntKind.u64.bits))))]])), (.int .i64 (IntKind.i64.wrap (n18 + 8)))] ∧ μ16 [(.sl 1 (l17 ++ [[(.int .u8 (IntKind.u8.wrap (Int.fdiv (IntKind.u64.wrap n2) (2 ^ min (n18 : Int).toNat IntKind.u64.bits))))]])), (.int .i64 (IntKind.i64.wrap (n18 + 8)))] < μ16 [.sl 1 l17, .int .i64 n18])))
 else
 (K [.own 1, .err none] [.dead, .lst 5 1 false l17])))))
 else
 (bif (decide ((s3.size : Int) < (1 : Int))) then (K [.own 1, (.err (some 1))] [.dead, .lst 5 1 false []]) else (bif (decide ((s3.size : Int) > (32 : Int))) then (K [.own 1, (.err (some 1))] [.dead, .lst 5 1 false []]) else (bif (decide ((List.length l4 : Int) > (8 : Int))) then
 (K [.own 1, (.err (some 1))] [.dead, .lst 5 1 false []])
 else
 (((List.length l) + (List.length ([[.int .u8 1], [(.int .u8 (IntKind.u8.wrap (s3.size : Int)))]] : List (List V)))) * 1 ≤ 140737488355328 ∧ (List.length l) + (List.length ([[.int .u8 1], [(.int .u8 (IntKind.u8.wrap (s3.size : Int)))]] : List (List V))) ≤ 140737488355328 ∧ (((List.length (l ++ [[.int .u8 1], [(.int .u8 (IntKind.u8.wrap (s3.size : Int)))]])) + (List.length (rowsOf s3))) * 1 ≤ 140737488355328 ∧ (List.length (l ++ [[.int .u8 1], [(.int .u8 (IntKind.u8.wrap (s3.size : Int)))]])) + (List.length (rowsOf s3)) ≤ 140737488355328 ∧ (((List.length ((l ++ [[.int .u8 1], [(.int .u8 (IntKind.u8.wrap (s3.size : Int)))]]) ++ (rowsOf s3))) + (List.length ([[(.int .u8 (IntKind.u8.wrap (List.length l4 : Int)))]] : List (List V)))) * 1 ≤ 140737488355328 ∧ (List.length ((l ++ [[.int .u8 1], [(.int .u8 (IntKind.u8.wrap (s3.size : Int)))]]) ++ (rowsOf s3))) + (List.length ([[(.int .u8 (IntKind.u8.wrap (List.length l4 : Int)))]] : List (List V))) ≤ 140737488355328 ∧ (∃ (I46 : List V → Prop) (μ47 : List V → Nat), I46 [(.sl 1 (((l ++ [[.int .u8 1], [(.int .u8 (IntKind.u8.wrap (s3.size : Int)))]]) ++ (rowsOf s3)) ++ [[(.int .u8 (IntKind.u8.wrap (List.length l4 : Int)))]])), .int .i64 0] ∧ (∀ (l48 : List (List V)) (n49 : Int), I46 [.sl 1 l48, .int .i64 n49] →
 (bif (decide (n49 < (List.length l4 : Int))) then
 (0 ≤ n49 ∧ n49 < (List.length l4 : Int) ∧ (∃ (b54 : Bool) (n55 : Int) (s56 : ByteArray) (l57 : List (List V)), List.take 4 (Av.rowAt l4 (n49 : Int).toNat) = [.bool b54, .int .i64 n55, .str s56, .sl 4 l57] ∧ (SCalls ax 24 [.own 0, .agg [.bool b54, .int .i64 n55, .str s56, .sl 4 l57]] [.lst 5 1 false l48] fun r59 o61 => ∃ (x58 : Option Nat) (l60 : List (List V)), r59 = [.own 1, .err x58] ∧ o61 = [.dead, .lst 5 1 false l60] ∧ (bif (!(Option.isNone x58)) then
 (K [.own 1, .err x58] [.dead, .lst 5 1 false []])
 else
 (I46 [.sl 1 l60, (.int .i64 (IntKind.i64.wrap (n49 + 1)))] ∧ μ47 [.sl 1 l60, (.int .i64 (IntKind.i64.wrap (n49 + 1)))] < μ47 [.sl 1 l48, .int .i64 n49])))))
 else
 (K [.own 1, .err none] [.dead, .lst 5 1 false l48])))))))))))
theorem put.eq (b1 : Bool) (n2 : Int) (s3 : ByteArray) (l4 : List (List V)) (l : List (List V)) (K : List V → List Ob → Prop) : put.W b1 n2 s3 l4 l K = afn ax put.ah Tryd.f24 [.own 0, .agg [.bool b1, .int .i64 n2, .str s3, .sl 4 l4]] [.lst 5 1 false l] K := by kernel_rfl
theorem put.ok : codeOk tys (hintsOf put.ah) Tryd.f24.ntmps (Tryd.f24.body.getD .skip) = true := by kernel_rfl
theorem put.calls {b1 n2 s3 l4 l K} (h : put.W b1 n2 s3 l4 l K) : SCalls ax 24 [.own 0, .agg [.bool b1, .int .i64 n2, .str s3, .sl 4 l4]] [.lst 5 1 false l] K :=
  afn_run (ah := put.ah) tysOk fnsOk follows eqOk Tryd.func24 (by kernel_rfl) put.ok (by kernel_rfl) (Eq.mp (put.eq b1 n2 s3 l4 l K) h)
/-! ### put0: function 24, augur/data.put -/
def put0.ah : AH := ⟨[(9, seqO [0, 1, 2])], [(4, ⟨[(0, [.nw 5 1 false], false), (6, [.d (.int .i64)], false)], [], [], [2]⟩), (14, ⟨[(0, [.nw 5 1 false], false), (68, [.d (.int .i64)], false)], [], [], [5]⟩)], [], [(24, ⟨[none, some [.bool, .int .i64, .str, .sl 4]], [.lit (.own 1), .c (.err)], [.dead, .lst 5 1 false]⟩)], [], [some [.sl 1], some [.err]], [], [], [.nw 5 1 false, .d (.err)]⟩
def put0.W (b1 : Bool) (n2 : Int) (s3 : ByteArray) (l4 : List (List V)) (K : List V → List Ob → Prop) : Prop :=
 (bif (!b1) then
 ((List.length ([[.int .u8 0]] : List (List V))) * 1 ≤ 140737488355328 ∧ (List.length ([[.int .u8 0]] : List (List V))) ≤ 140737488355328 ∧ (∃ (I15 : List V → Prop) (μ16 : List V → Nat), I15 [.sl 1 [[.int .u8 0]], .int .i64 0] ∧ (∀ (l17 : List (List V)) (n18 : Int), I15 [.sl 1 l17, .int .i64 n18] →
 (bif (decide (n18 < (64 : Int))) then
 (0 ≤ n18 ∧ (((List.length l17) + (List.length ([[(.int .u8 (IntKind.u8.wrap (Int.fdiv (IntKind.u64.wrap n2) (2 ^ min (n18 : Int).toNat IntKind.u64.bits))))]] : List (List V)))) * 1 ≤ 140737488355328 ∧ (List.length l17) + (List.length ([[(.int .u8 (IntKind.u8.wrap (Int.fdiv (IntKind.u64.wrap n2) (2 ^ min (n18 : Int).toNat IntKind.u64.bits))))]] : List (List V))) ≤ 140737488355328 ∧ (I15 [(.sl 1 (l17 ++ [[(.int .u8 (IntKind.u8.wrap (Int.fdiv (IntKind.u64.wrap n2) (2 ^ min (n18 : Int).toNat IntKind.u64.bits))))]])), (.int .i64 (IntKind.i64.wrap (n18 + 8)))] ∧ μ16 [(.sl 1 (l17 ++ [[(.int .u8 (IntKind.u8.wrap (Int.fdiv (IntKind.u64.wrap n2) (2 ^ min (n18 : Int).toNat IntKind.u64.bits))))]])), (.int .i64 (IntKind.i64.wrap (n18 + 8)))] < μ16 [.sl 1 l17, .int .i64 n18])))
 else
 (K [.own 0, .err none] [.lst 5 1 false l17])))))
 else
 (bif (decide ((s3.size : Int) < (1 : Int))) then (K [.own 0, (.err (some 1))] [.lst 5 1 false []]) else (bif (decide ((s3.size : Int) > (32 : Int))) then (K [.own 0, (.err (some 1))] [.lst 5 1 false []]) else (bif (decide ((List.length l4 : Int) > (8 : Int))) then
 (K [.own 0, (.err (some 1))] [.lst 5 1 false []])
 else
 ((List.length ([[.int .u8 1], [(.int .u8 (IntKind.u8.wrap (s3.size : Int)))]] : List (List V))) * 1 ≤ 140737488355328 ∧ (List.length ([[.int .u8 1], [(.int .u8 (IntKind.u8.wrap (s3.size : Int)))]] : List (List V))) ≤ 140737488355328 ∧ (((List.length ([[.int .u8 1], [(.int .u8 (IntKind.u8.wrap (s3.size : Int)))]] : List (List V))) + (List.length (rowsOf s3))) * 1 ≤ 140737488355328 ∧ (List.length ([[.int .u8 1], [(.int .u8 (IntKind.u8.wrap (s3.size : Int)))]] : List (List V))) + (List.length (rowsOf s3)) ≤ 140737488355328 ∧ (((List.length ([[.int .u8 1], [(.int .u8 (IntKind.u8.wrap (s3.size : Int)))]] ++ (rowsOf s3))) + (List.length ([[(.int .u8 (IntKind.u8.wrap (List.length l4 : Int)))]] : List (List V)))) * 1 ≤ 140737488355328 ∧ (List.length ([[.int .u8 1], [(.int .u8 (IntKind.u8.wrap (s3.size : Int)))]] ++ (rowsOf s3))) + (List.length ([[(.int .u8 (IntKind.u8.wrap (List.length l4 : Int)))]] : List (List V))) ≤ 140737488355328 ∧ (∃ (I46 : List V → Prop) (μ47 : List V → Nat), I46 [(.sl 1 (([[.int .u8 1], [(.int .u8 (IntKind.u8.wrap (s3.size : Int)))]] ++ (rowsOf s3)) ++ [[(.int .u8 (IntKind.u8.wrap (List.length l4 : Int)))]])), .int .i64 0] ∧ (∀ (l48 : List (List V)) (n49 : Int), I46 [.sl 1 l48, .int .i64 n49] →
 (bif (decide (n49 < (List.length l4 : Int))) then
 (0 ≤ n49 ∧ n49 < (List.length l4 : Int) ∧ (∃ (b54 : Bool) (n55 : Int) (s56 : ByteArray) (l57 : List (List V)), List.take 4 (Av.rowAt l4 (n49 : Int).toNat) = [.bool b54, .int .i64 n55, .str s56, .sl 4 l57] ∧ (SCalls ax 24 [.own 0, .agg [.bool b54, .int .i64 n55, .str s56, .sl 4 l57]] [.lst 5 1 false l48] fun r59 o61 => ∃ (x58 : Option Nat) (l60 : List (List V)), r59 = [.own 1, .err x58] ∧ o61 = [.dead, .lst 5 1 false l60] ∧ (bif (!(Option.isNone x58)) then
 (K [.own 0, .err x58] [.lst 5 1 false []])
 else
 (I46 [.sl 1 l60, (.int .i64 (IntKind.i64.wrap (n49 + 1)))] ∧ μ47 [.sl 1 l60, (.int .i64 (IntKind.i64.wrap (n49 + 1)))] < μ47 [.sl 1 l48, .int .i64 n49])))))
 else
 (K [.own 0, .err none] [.lst 5 1 false l48])))))))))))
theorem put0.eq (b1 : Bool) (n2 : Int) (s3 : ByteArray) (l4 : List (List V)) (K : List V → List Ob → Prop) : put0.W b1 n2 s3 l4 K = afn ax put0.ah Tryd.f24 [.nls, .agg [.bool b1, .int .i64 n2, .str s3, .sl 4 l4]] [] K := by kernel_rfl
theorem put0.ok : codeOk tys (hintsOf put0.ah) Tryd.f24.ntmps (Tryd.f24.body.getD .skip) = true := by kernel_rfl
theorem put0.calls {b1 n2 s3 l4 K} (h : put0.W b1 n2 s3 l4 K) : SCalls ax 24 [.nls, .agg [.bool b1, .int .i64 n2, .str s3, .sl 4 l4]] [] K :=
  afn_run (ah := put0.ah) tysOk fnsOk follows eqOk Tryd.func24 (by kernel_rfl) put0.ok (by kernel_rfl) (Eq.mp (put0.eq b1 n2 s3 l4 K) h)
/-! ### Encode: function 11, augur/data.Encode -/
def Encode.ah : AH := ⟨[(2, seqO [0, 1, 2])], [], [], [(23, ⟨[some [.bool, .int .i64, .str, .sl 4]], [.c (.bool)], []⟩), (24, ⟨[none, some [.bool, .int .i64, .str, .sl 4]], [.lit (.own 0), .c (.err)], [.lst 5 1 false]⟩)], [], [some [.sl 1], some [.err]], [], [], []⟩
def Encode.W (b1 : Bool) (n2 : Int) (s3 : ByteArray) (l4 : List (List V)) (K : List V → Prop) : Prop :=
 (PCalls ax 23 [.agg [.bool b1, .int .i64 n2, .str s3, .sl 4 l4]] fun r6 => ∃ (b5 : Bool), r6 = [.bool b5] ∧ (bif (!b5) then
 (K [.sl 1 [], (.err (some 0))])
 else
 (SCalls ax 24 [.nls, .agg [.bool b1, .int .i64 n2, .str s3, .sl 4 l4]] [] fun r8 o10 => ∃ (x7 : Option Nat) (l9 : List (List V)), r8 = [.own 0, .err x7] ∧ o10 = [.lst 5 1 false l9] ∧ (K [.sl 1 l9, .err x7]))))
theorem Encode.eq (b1 : Bool) (n2 : Int) (s3 : ByteArray) (l4 : List (List V)) (K : List V → Prop) : Encode.W b1 n2 s3 l4 K = afn ax Encode.ah Tryd.f11 [.agg [.bool b1, .int .i64 n2, .str s3, .sl 4 l4]] [] (onlyV K) := by kernel_rfl
theorem Encode.ok : codeOk tys (hintsOf Encode.ah) Tryd.f11.ntmps (Tryd.f11.body.getD .skip) = true := by kernel_rfl
theorem Encode.calls {b1 n2 s3 l4 K} (h : Encode.W b1 n2 s3 l4 K) : PCalls ax 11 [.agg [.bool b1, .int .i64 n2, .str s3, .sl 4 l4]] K :=
  afn_run (ah := Encode.ah) tysOk fnsOk follows eqOk Tryd.func11 (by kernel_rfl) Encode.ok (by kernel_rfl) (Eq.mp (Encode.eq b1 n2 s3 l4 K) h)
/-! ### Good: function 23, augur/data.Good -/
def Good.ah : AH := ⟨[], [], [], [(42, ⟨[some [.bool, .int .i64, .str, .sl 4], some [.int .i64], some [.int .i64]], [.c (.int .i64), .c (.bool)], []⟩)], [], [some [.bool]], [], [], []⟩
def Good.W (b1 : Bool) (n2 : Int) (s3 : ByteArray) (l4 : List (List V)) (K : List V → Prop) : Prop :=
 (PCalls ax 42 [.agg [.bool b1, .int .i64 n2, .str s3, .sl 4 l4], .int .i64 1, .int .i64 0] fun r7 => ∃ (n5 : Int) (b6 : Bool), r7 = [.int .i64 n5, .bool b6] ∧ (K [.bool b6]))
theorem Good.eq (b1 : Bool) (n2 : Int) (s3 : ByteArray) (l4 : List (List V)) (K : List V → Prop) : Good.W b1 n2 s3 l4 K = afn ax Good.ah Tryd.f23 [.agg [.bool b1, .int .i64 n2, .str s3, .sl 4 l4]] [] (onlyV K) := by kernel_rfl
theorem Good.ok : codeOk tys (hintsOf Good.ah) Tryd.f23.ntmps (Tryd.f23.body.getD .skip) = true := by kernel_rfl
theorem Good.calls {b1 n2 s3 l4 K} (h : Good.W b1 n2 s3 l4 K) : PCalls ax 23 [.agg [.bool b1, .int .i64 n2, .str s3, .sl 4 l4]] K :=
  afn_run (ah := Good.ah) tysOk fnsOk follows eqOk Tryd.func23 (by kernel_rfl) Good.ok (by kernel_rfl) (Eq.mp (Good.eq b1 n2 s3 l4 K) h)
/-! ### measure: function 42, augur/data.measure -/
def measure.ah : AH := ⟨[], [(7, ⟨[(2, [.d (.int .i64)], false), (28, [.d (.int .i64)], false)], [], [], []⟩)], [], [(42, ⟨[some [.bool, .int .i64, .str, .sl 4], some [.int .i64], some [.int .i64]], [.c (.int .i64), .c (.bool)], []⟩)], [], [some [.int .i64], some [.bool]], [], [], []⟩
def measure.W (b1 : Bool) (_n2 : Int) (_s3 : ByteArray) (l4 : List (List V)) (n5 : Int) (n6 : Int) (K : List V → Prop) : Prop :=
 (bif (decide (n5 > (200 : Int))) then (K [(.int .i64 (IntKind.i64.wrap (n6 + 1))), .bool false]) else (bif (decide ((IntKind.i64.wrap (n6 + 1)) > (4096 : Int))) then
 (K [(.int .i64 (IntKind.i64.wrap (n6 + 1))), .bool false])
 else
 (bif (!b1) then
 (K [(.int .i64 (IntKind.i64.wrap (n6 + 1))), .bool true])
 else
 (∃ (I20 : List V → Prop) (μ21 : List V → Nat), I20 [(.int .i64 (IntKind.i64.wrap (n6 + 1))), .int .i64 0] ∧ (∀ (n22 : Int) (n23 : Int), I20 [.int .i64 n22, .int .i64 n23] →
 (bif (decide (n23 < (List.length l4 : Int))) then
 (0 ≤ n23 ∧ n23 < (List.length l4 : Int) ∧ (∃ (b28 : Bool) (n29 : Int) (s30 : ByteArray) (l31 : List (List V)), List.take 4 (Av.rowAt l4 (n23 : Int).toNat) = [.bool b28, .int .i64 n29, .str s30, .sl 4 l31] ∧ (PCalls ax 42 [.agg [.bool b28, .int .i64 n29, .str s30, .sl 4 l31], (.int .i64 (IntKind.i64.wrap (n5 + 1))), .int .i64 n22] fun r34 => ∃ (n32 : Int) (b33 : Bool), r34 = [.int .i64 n32, .bool b33] ∧ (bif (!b33) then
 (K [.int .i64 n32, .bool false])
 else
 (I20 [.int .i64 n32, (.int .i64 (IntKind.i64.wrap (n23 + 1)))] ∧ μ21 [.int .i64 n32, (.int .i64 (IntKind.i64.wrap (n23 + 1)))] < μ21 [.int .i64 n22, .int .i64 n23])))))
 else
 (K [.int .i64 n22, .bool true])))))))
theorem measure.eq (b1 : Bool) (n2 : Int) (s3 : ByteArray) (l4 : List (List V)) (n5 : Int) (n6 : Int) (K : List V → Prop) : measure.W b1 n2 s3 l4 n5 n6 K = afn ax measure.ah Tryd.f42 [.agg [.bool b1, .int .i64 n2, .str s3, .sl 4 l4], .int .i64 n5, .int .i64 n6] [] (onlyV K) := by kernel_rfl
theorem measure.ok : codeOk tys (hintsOf measure.ah) Tryd.f42.ntmps (Tryd.f42.body.getD .skip) = true := by kernel_rfl
theorem measure.calls {b1 n2 s3 l4 n5 n6 K} (h : measure.W b1 n2 s3 l4 n5 n6 K) : PCalls ax 42 [.agg [.bool b1, .int .i64 n2, .str s3, .sl 4 l4], .int .i64 n5, .int .i64 n6] K :=
  afn_run (ah := measure.ah) tysOk fnsOk follows eqOk Tryd.func42 (by kernel_rfl) measure.ok (by kernel_rfl) (Eq.mp (measure.eq b1 n2 s3 l4 n5 n6 K) h)
/-! ### alive: function 4, augur/augurlaw10.alive -/
def alive.ah : AH := ⟨[], [], [], [(11, ⟨[some [.bool, .int .i64, .str, .sl 4]], [.c (.sl 1), .c (.err)], []⟩)], [], [some [.bool]], [], [], []⟩
def alive.W  (K : List V → Prop) : Prop :=
 (PCalls ax 11 [(.agg [.bool true, .int .i64 0, (.str (⟨#[99, 111, 110, 115]⟩ : ByteArray)), (.sl 4 [[.bool false, .int .i64 1, (.str (⟨#[]⟩ : ByteArray)), .sl 4 []], [.bool true, .int .i64 0, (.str (⟨#[110, 105, 108]⟩ : ByteArray)), .sl 4 []]])])] fun r3 => ∃ (l1 : List (List V)) (x2 : Option Nat), r3 = [.sl 1 l1, .err x2] ∧ (bif (Option.isNone x2) then (∃ s4 : ByteArray, l1 = rowsOf s4 ∧ (K [(.bool (strEq s4 (⟨#[1, 4, 99, 111, 110, 115, 2, 0, 1, 0, 0, 0, 0, 0, 0, 0, 1, 3, 110, 105, 108, 0]⟩ : ByteArray)))])) else (K [.bool false])))
theorem alive.eq  (K : List V → Prop) : alive.W  K = afn ax alive.ah Tryd.f4 [] [] (onlyV K) := by kernel_rfl
theorem alive.ok : codeOk tys (hintsOf alive.ah) Tryd.f4.ntmps (Tryd.f4.body.getD .skip) = true := by kernel_rfl
theorem alive.calls { K} (h : alive.W  K) : PCalls ax 4 [] K :=
  afn_run (ah := alive.ah) tysOk fnsOk follows eqOk Tryd.func4 (by kernel_rfl) alive.ok (by kernel_rfl) (Eq.mp (alive.eq  K) h)
/-! ### heavy: function 6, augur/augurlaw10.heavy -/
def heavy.ah : AH := ⟨[], [(3, ⟨[(3, [.d (.int .i64)], false), (9, [.d (.int .i64)], false)], [], [], []⟩)], [], [(6, ⟨[some [.int .i64, .str, .int .i64, .sl 4]], [.c (.int .i64)], []⟩)], [], [some [.int .i64]], [], [], []⟩
def heavy.W (_n1 : Int) (_s2 : ByteArray) (_n3 : Int) (l4 : List (List V)) (K : List V → Prop) : Prop :=
 (∃ (I13 : List V → Prop) (μ14 : List V → Nat), I13 [.int .i64 1, .int .i64 0] ∧ (∀ (n15 : Int) (n16 : Int), I13 [.int .i64 n15, .int .i64 n16] →
 (bif (decide (n16 < (List.length l4 : Int))) then
 (0 ≤ n16 ∧ n16 < (List.length l4 : Int) ∧ (∃ (n17 : Int) (s18 : ByteArray) (n19 : Int) (l20 : List (List V)), List.take 4 (Av.rowAt l4 (n16 : Int).toNat) = [.int .i64 n17, .str s18, .int .i64 n19, .sl 4 l20] ∧ (PCalls ax 6 [.agg [.int .i64 n17, .str s18, .int .i64 n19, .sl 4 l20]] fun r22 => ∃ (n21 : Int), r22 = [.int .i64 n21] ∧ (I13 [(.int .i64 (IntKind.i64.wrap (n15 + n21))), (.int .i64 (IntKind.i64.wrap (n16 + 1)))] ∧ μ14 [(.int .i64 (IntKind.i64.wrap (n15 + n21))), (.int .i64 (IntKind.i64.wrap (n16 + 1)))] < μ14 [.int .i64 n15, .int .i64 n16]))))
 else
 (K [.int .i64 n15]))))
theorem heavy.eq (n1 : Int) (s2 : ByteArray) (n3 : Int) (l4 : List (List V)) (K : List V → Prop) : heavy.W n1 s2 n3 l4 K = afn ax heavy.ah Tryd.f6 [.agg [.int .i64 n1, .str s2, .int .i64 n3, .sl 4 l4]] [] (onlyV K) := by kernel_rfl
theorem heavy.ok : codeOk tys (hintsOf heavy.ah) Tryd.f6.ntmps (Tryd.f6.body.getD .skip) = true := by kernel_rfl
theorem heavy.calls {n1 s2 n3 l4 K} (h : heavy.W n1 s2 n3 l4 K) : PCalls ax 6 [.agg [.int .i64 n1, .str s2, .int .i64 n3, .sl 4 l4]] K :=
  afn_run (ah := heavy.ah) tysOk fnsOk follows eqOk Tryd.func6 (by kernel_rfl) heavy.ok (by kernel_rfl) (Eq.mp (heavy.eq n1 s2 n3 l4 K) h)
end Go.Proofs.YtahagnfdpemmaaaDoor.Va
end
