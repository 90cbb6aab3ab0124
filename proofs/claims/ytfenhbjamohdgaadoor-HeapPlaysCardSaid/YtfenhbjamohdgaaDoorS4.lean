/- Texts of this proof. -/
import Derived.Test.YtfenhbjamohdgaaDoorS1
import Derived.Test.YtfenhbjamohdgaaDoorProg
/- part H1F -/
section
set_option linter.unusedVariables false
namespace Go.Proofs.YtfenhbjamohdgaaDoor.Vf
open Go.Vx
def tys : Tys := [(3, ⟨(.int .i64), 1, 8, [.int .i64 0], [.int .i64]⟩),
  (4, ⟨.bool, 1, 1, [.bool false], [.bool]⟩),
  (22, ⟨(.sl 3), 1, 24, [.slice none 0 0], [.sl]⟩),
  (24, ⟨(.ptr 76), 1, 8, [.pointer none], [.ptr]⟩),
  (26, ⟨.iface, 1, 16, [.nilIface], [.any]⟩),
  (30, ⟨(.agg [(0, 4), (1, 3)]), 2, 16, [.bool false, .int .i64 0], [.bool, .int .i64]⟩),
  (33, ⟨(.sl 30), 1, 24, [.slice none 0 0], [.sl]⟩),
  (39, ⟨(.ptr 30), 1, 8, [.pointer none], [.ptr]⟩),
  (50, ⟨(.sl 39), 1, 24, [.slice none 0 0], [.sl]⟩),
  (74, ⟨(.sl 84), 1, 24, [.slice none 0 0], [.sl]⟩),
  (76, ⟨(.agg [(0, 74), (1, 3)]), 2, 32, [.slice none 0 0, .int .i64 0], [.sl, .int .i64]⟩),
  (78, ⟨(.ptr 80), 1, 8, [.pointer none], [.ptr]⟩),
  (80, ⟨(.agg [(0, 3), (1, 3), (2, 3), (3, 3), (4, 3)]), 5, 40, [.int .i64 0, .int .i64 0, .int .i64 0, .int .i64 0, .int .i64 0], [.int .i64, .int .i64, .int .i64, .int .i64, .int .i64]⟩),
  (84, ⟨(.agg [(0, 30), (2, 78)]), 3, 24, [.bool false, .int .i64 0, .pointer none], [.bool, .int .i64, .ptr]⟩),
  (85, ⟨.fn, 1, 8, [.nilFunc], [.any]⟩),
  (87, ⟨(.ptr 89), 1, 8, [.pointer none], [.ptr]⟩),
  (89, ⟨(.agg [(0, 74), (1, 74)]), 2, 48, [.slice none 0 0, .slice none 0 0], [.sl, .sl]⟩)]
theorem ty3 : Ty.Ok Tryd.prog 3 ⟨(.int .i64), 1, 8, [.int .i64 0], [.int .i64]⟩ := ⟨Tryd.underlying3, by kernel_rfl, by kernel_rfl, rfl⟩
theorem ty4 : Ty.Ok Tryd.prog 4 ⟨.bool, 1, 1, [.bool false], [.bool]⟩ := ⟨Tryd.underlying4, by kernel_rfl, by kernel_rfl, rfl⟩
theorem ty22 : Ty.Ok Tryd.prog 22 ⟨(.sl 3), 1, 24, [.slice none 0 0], [.sl]⟩ := ⟨Tryd.underlying22, by kernel_rfl, by kernel_rfl, rfl⟩
theorem ty24 : Ty.Ok Tryd.prog 24 ⟨(.ptr 76), 1, 8, [.pointer none], [.ptr]⟩ := ⟨Tryd.underlying24, by kernel_rfl, by kernel_rfl, rfl⟩
theorem ty26 : Ty.Ok Tryd.prog 26 ⟨.iface, 1, 16, [.nilIface], [.any]⟩ := ⟨⟨_, Tryd.underlying26⟩, by kernel_rfl, by kernel_rfl, rfl⟩
theorem ty30 : Ty.Ok Tryd.prog 30 ⟨(.agg [(0, 4), (1, 3)]), 2, 16, [.bool false, .int .i64 0], [.bool, .int .i64]⟩ := ⟨⟨_, Tryd.underlying30, rfl⟩, by kernel_rfl, by kernel_rfl, rfl⟩
theorem ty33 : Ty.Ok Tryd.prog 33 ⟨(.sl 30), 1, 24, [.slice none 0 0], [.sl]⟩ := ⟨Tryd.underlying33, by kernel_rfl, by kernel_rfl, rfl⟩
theorem ty39 : Ty.Ok Tryd.prog 39 ⟨(.ptr 30), 1, 8, [.pointer none], [.ptr]⟩ := ⟨Tryd.underlying39, by kernel_rfl, by kernel_rfl, rfl⟩
theorem ty50 : Ty.Ok Tryd.prog 50 ⟨(.sl 39), 1, 24, [.slice none 0 0], [.sl]⟩ := ⟨Tryd.underlying50, by kernel_rfl, by kernel_rfl, rfl⟩
theorem ty74 : Ty.Ok Tryd.prog 74 ⟨(.sl 84), 1, 24, [.slice none 0 0], [.sl]⟩ := ⟨Tryd.underlying74, by kernel_rfl, by kernel_rfl, rfl⟩
theorem ty76 : Ty.Ok Tryd.prog 76 ⟨(.agg [(0, 74), (1, 3)]), 2, 32, [.slice none 0 0, .int .i64 0], [.sl, .int .i64]⟩ := ⟨⟨_, Tryd.underlying76, rfl⟩, by kernel_rfl, by kernel_rfl, rfl⟩
theorem ty78 : Ty.Ok Tryd.prog 78 ⟨(.ptr 80), 1, 8, [.pointer none], [.ptr]⟩ := ⟨Tryd.underlying78, by kernel_rfl, by kernel_rfl, rfl⟩
theorem ty80 : Ty.Ok Tryd.prog 80 ⟨(.agg [(0, 3), (1, 3), (2, 3), (3, 3), (4, 3)]), 5, 40, [.int .i64 0, .int .i64 0, .int .i64 0, .int .i64 0, .int .i64 0], [.int .i64, .int .i64, .int .i64, .int .i64, .int .i64]⟩ := ⟨⟨_, Tryd.underlying80, rfl⟩, by kernel_rfl, by kernel_rfl, rfl⟩
theorem ty84 : Ty.Ok Tryd.prog 84 ⟨(.agg [(0, 30), (2, 78)]), 3, 24, [.bool false, .int .i64 0, .pointer none], [.bool, .int .i64, .ptr]⟩ := ⟨⟨_, Tryd.underlying84, rfl⟩, by kernel_rfl, by kernel_rfl, rfl⟩
theorem ty85 : Ty.Ok Tryd.prog 85 ⟨.fn, 1, 8, [.nilFunc], [.any]⟩ := ⟨⟨_, _, _, Tryd.underlying85⟩, by kernel_rfl, by kernel_rfl, rfl⟩
theorem ty87 : Ty.Ok Tryd.prog 87 ⟨(.ptr 89), 1, 8, [.pointer none], [.ptr]⟩ := ⟨Tryd.underlying87, by kernel_rfl, by kernel_rfl, rfl⟩
theorem ty89 : Ty.Ok Tryd.prog 89 ⟨(.agg [(0, 74), (1, 74)]), 2, 48, [.slice none 0 0, .slice none 0 0], [.sl, .sl]⟩ := ⟨⟨_, Tryd.underlying89, rfl⟩, by kernel_rfl, by kernel_rfl, rfl⟩
theorem tysOk : AllOk Tryd.prog tys := ⟨ty3, ty4, ty22, ty24, ty26, ty30, ty33, ty39, ty50, ty74, ty76, ty78, ty80, ty84, ty85, ty87, ty89, trivial⟩
def fns : Fns := [(8, [4]), (9, [24, 26]), (10, [30, 26]), (11, [3, 33, 26]), (12, [3]), (13, [26]), (14, [3]), (23, [4]), (24, [3, 3]), (25, [4]), (26, [74]), (27, [30]), (37, [4]), (38, [4]), (39, [3])]
theorem fnOk8 : ∃ fn, Tryd.prog.funcs[8]? = some fn ∧ (fn.name == "runtime.NumGoroutine") = false ∧ fn.body.isNone = false := ⟨_, Tryd.func8, by kernel_rfl, by kernel_rfl⟩
theorem fnOk9 : ∃ fn, Tryd.prog.funcs[9]? = some fn ∧ (fn.name == "runtime.NumGoroutine") = false ∧ fn.body.isNone = false := ⟨_, Tryd.func9, by kernel_rfl, by kernel_rfl⟩
theorem fnOk10 : ∃ fn, Tryd.prog.funcs[10]? = some fn ∧ (fn.name == "runtime.NumGoroutine") = false ∧ fn.body.isNone = false := ⟨_, Tryd.func10, by kernel_rfl, by kernel_rfl⟩
theorem fnOk11 : ∃ fn, Tryd.prog.funcs[11]? = some fn ∧ (fn.name == "runtime.NumGoroutine") = false ∧ fn.body.isNone = false := ⟨_, Tryd.func11, by kernel_rfl, by kernel_rfl⟩
theorem fnOk12 : ∃ fn, Tryd.prog.funcs[12]? = some fn ∧ (fn.name == "runtime.NumGoroutine") = false ∧ fn.body.isNone = false := ⟨_, Tryd.func12, by kernel_rfl, by kernel_rfl⟩
theorem fnOk13 : ∃ fn, Tryd.prog.funcs[13]? = some fn ∧ (fn.name == "runtime.NumGoroutine") = false ∧ fn.body.isNone = false := ⟨_, Tryd.func13, by kernel_rfl, by kernel_rfl⟩
theorem fnOk14 : ∃ fn, Tryd.prog.funcs[14]? = some fn ∧ (fn.name == "runtime.NumGoroutine") = false ∧ fn.body.isNone = false := ⟨_, Tryd.func14, by kernel_rfl, by kernel_rfl⟩
theorem fnOk23 : ∃ fn, Tryd.prog.funcs[23]? = some fn ∧ (fn.name == "runtime.NumGoroutine") = false ∧ fn.body.isNone = false := ⟨_, Tryd.func23, by kernel_rfl, by kernel_rfl⟩
theorem fnOk24 : ∃ fn, Tryd.prog.funcs[24]? = some fn ∧ (fn.name == "runtime.NumGoroutine") = false ∧ fn.body.isNone = false := ⟨_, Tryd.func24, by kernel_rfl, by kernel_rfl⟩
theorem fnOk25 : ∃ fn, Tryd.prog.funcs[25]? = some fn ∧ (fn.name == "runtime.NumGoroutine") = false ∧ fn.body.isNone = false := ⟨_, Tryd.func25, by kernel_rfl, by kernel_rfl⟩
theorem fnOk26 : ∃ fn, Tryd.prog.funcs[26]? = some fn ∧ (fn.name == "runtime.NumGoroutine") = false ∧ fn.body.isNone = false := ⟨_, Tryd.func26, by kernel_rfl, by kernel_rfl⟩
theorem fnOk27 : ∃ fn, Tryd.prog.funcs[27]? = some fn ∧ (fn.name == "runtime.NumGoroutine") = false ∧ fn.body.isNone = false := ⟨_, Tryd.func27, by kernel_rfl, by kernel_rfl⟩
theorem fnOk37 : ∃ fn, Tryd.prog.funcs[37]? = some fn ∧ (fn.name == "runtime.NumGoroutine") = false ∧ fn.body.isNone = false := ⟨_, Tryd.func37, by kernel_rfl, by kernel_rfl⟩
theorem fnOk38 : ∃ fn, Tryd.prog.funcs[38]? = some fn ∧ (fn.name == "runtime.NumGoroutine") = false ∧ fn.body.isNone = false := ⟨_, Tryd.func38, by kernel_rfl, by kernel_rfl⟩
theorem fnOk39 : ∃ fn, Tryd.prog.funcs[39]? = some fn ∧ (fn.name == "runtime.NumGoroutine") = false ∧ fn.body.isNone = false := ⟨_, Tryd.func39, by kernel_rfl, by kernel_rfl⟩
theorem fnsOk : FnsOk Tryd.prog fns := ⟨fnOk8, fnOk9, fnOk10, fnOk11, fnOk12, fnOk13, fnOk14, fnOk23, fnOk24, fnOk25, fnOk26, fnOk27, fnOk37, fnOk38, fnOk39, trivial⟩
theorem follows : Tryd.prog.follows .mixedOrders = true := by kernel_rfl
/-! ### New: function 9 -/
def New.hs : Hints := ⟨[(2, seqO [0, 1, 2])], []⟩
set_option maxRecDepth 100000 in
def New.W (n1 : Int) (w : World) (R : Value → World → Prop) : Prop :=
 (bif (decide (n1 < (0 : Int))) then (withW (World.drew w) fun w2 =>
 (∃ (v3 : Value), World.cell? w2 ⟨1, 0, none⟩ = some v3 ∧ (R (.tuple #[(.pointer none), v3]) w2))) else (bif (decide (n1 > (1048576 : Int))) then
 (withW (World.drew w) fun w4 =>
 (∃ (v5 : Value), World.cell? w4 ⟨1, 0, none⟩ = some v5 ∧ (R (.tuple #[(.pointer none), v5]) w4)))
 else
 (withW (World.alloc w (.cells #[(.slice none 0 0), (.int .i64 n1)] 76)) fun w6 =>
 (R (.tuple #[(.pointer (some ⟨w.heap.size, 0, none⟩ : Option Addr)), .nilIface]) w6))))
set_option maxRecDepth 100000 in
theorem New.eq (n1 : Int) (w : World) (R : Value → World → Prop) : New.W n1 w R = fnW Tryd.prog tys fns New.hs Tryd.f9 [(.int .i64 n1)] w R := by kernel_rfl
theorem New.ok : codeOk tys New.hs Tryd.f9.ntmps (Tryd.f9.body.getD .skip) = true := by kernel_rfl
theorem New.calls {n1 w R} (h : New.W n1 w R) : Calls Tryd.prog 9 ([(.int .i64 n1)] : List Value).toArray w fun e w' => ∃ v, e = .returned v ∧ R v w' :=
  fnW_calls tysOk fnsOk follows Tryd.func9 (by kernel_rfl) New.ok (by kernel_rfl) (New.eq n1 w R ▸ h)
/-! ### Alloc: function 10 -/
def Alloc.hs : Hints := ⟨[(2, seqO [0, 1, 2, 3]), (12, seqO [0, 1, 2, 3]), (13, seqO [0, 1, 2, 3, 4, 5, 6, 7, 8, 9, 10, 11, 12, 13, 14, 15]), (14, seqO [0, 1, 2, 3]), (20, seqO [0, 1, 2, 3, 4, 5, 6, 7, 8, 9, 10, 11])], [(5, [(39, .int .i64)]), (18, [(119, .int .i64)])]⟩
set_option maxRecDepth 100000 in
def Alloc.W (p0b p0o : Nat) (n1 : Int) (a2 : Option Addr) (m3 c4 : Nat) (w : World) (R : Value → World → Prop) : Prop :=
 (withW (World.alloc w (.cells #[.bool false, .int .i64 0] 30)) fun w5 =>
 (bif (decide (n1 < (0 : Int))) then (withW (World.drew w5) fun w6 =>
 (∃ (v7 : Value), World.cell? w6 ⟨1, 0, none⟩ = some v7 ∧ (canSt w6 w.heap.size 0 [(.bool false), (.int .i64 0)] ∧ withW (setL w6 w.heap.size 0 [(.bool false), (.int .i64 0)]) fun w8 =>
 (cellsAt w8 1 0 [v7] ∧ (∃ (b9 : Bool) (n10 : Int), cellsAt w8 w.heap.size 0 [(.bool b9), (.int .i64 n10)] ∧ (R (.tuple #[(.agg #[(.bool b9), (.int .i64 n10)]), v7]) w8)))))) else (bif (decide ((m3 : Int) > (8 : Int))) then (withW (World.drew w5) fun w11 =>
 (∃ (v12 : Value), World.cell? w11 ⟨1, 0, none⟩ = some v12 ∧ (canSt w11 w.heap.size 0 [(.bool false), (.int .i64 0)] ∧ withW (setL w11 w.heap.size 0 [(.bool false), (.int .i64 0)]) fun w13 =>
 (cellsAt w13 1 0 [v12] ∧ (∃ (b14 : Bool) (n15 : Int), cellsAt w13 w.heap.size 0 [(.bool b14), (.int .i64 n15)] ∧ (R (.tuple #[(.agg #[(.bool b14), (.int .i64 n15)]), v12]) w13)))))) else (Calls Tryd.prog 23 #[(.pointer (some ⟨p0b, p0o, none⟩ : Option Addr)), (.slice a2 m3 c4)] w5 fun e17 w16 => ∃ (b18 : Bool), e17 = .returned (.bool b18) ∧ (bif (!b18) then
 (withW (World.drew w16) fun w19 =>
 (∃ (v20 : Value), World.cell? w19 ⟨1, 0, none⟩ = some v20 ∧ (canSt w19 w.heap.size 0 [(.bool false), (.int .i64 0)] ∧ withW (setL w19 w.heap.size 0 [(.bool false), (.int .i64 0)]) fun w21 =>
 (cellsAt w21 1 0 [v20] ∧ (∃ (b22 : Bool) (n23 : Int), cellsAt w21 w.heap.size 0 [(.bool b22), (.int .i64 n23)] ∧ (R (.tuple #[(.agg #[(.bool b22), (.int .i64 n23)]), v20]) w21))))))
 else
 (withW (World.alloc w16 (.cells #[(.int .i64 n1), (.int .i64 (IntKind.i64.wrap (1 + (m3 : Int)))), (.int .i64 1), (.int .i64 1), (.int .i64 0)] 80)) fun w24 =>
 (∃ (I25 : List Value → World → Prop) (μ26 : List Value → World → Nat), I25 [(.int .i64 0)] w24 ∧ ∀ (j28 : Env) (q29 : List Value) (w27 : World), I25 q29 w27 → ∃ (n30 : Int), q29 = [(.int .i64 n30)] ∧
 (bif (decide (n30 < (m3 : Int))) then
 (∃ b31 f32, a2 = some ⟨b31, f32, none⟩ ∧ 0 ≤ n30 ∧ n30 < (m3 : Int) ∧ (∃ (b33 : Bool) (n34 : Int), cellsAt w27 b31 (f32 + (n30 : Int).toNat * 2) [(.bool b33), (.int .i64 n34)] ∧ (withW (World.alloc w27 (.cells #[.bool false, .int .i64 0] 30)) fun w35 =>
 (canSt w35 w27.heap.size 0 [(.bool b33), (.int .i64 n34)] ∧ withW (setL w35 w27.heap.size 0 [(.bool b33), (.int .i64 n34)]) fun w36 =>
 (∃ (b37 : Bool) (n38 : Int), cellsAt w36 w27.heap.size 0 [(.bool b37), (.int .i64 n38)] ∧ (Calls Tryd.prog 24 #[(.pointer (some ⟨p0b, p0o, none⟩ : Option Addr)), (.agg #[(.bool b37), (.int .i64 n38)])] w36 fun e40 w39 => ∃ (n41 : Int) (n42 : Int), e40 = .returned (.tuple #[(.int .i64 n41), (.int .i64 n42)]) ∧ (∃ b43 f44, (some ⟨w16.heap.size, 0, none⟩ : Option Addr) = some ⟨b43, f44, none⟩ ∧ (∃ (n45 : Int), World.cell? w39 ⟨b43, (f44 + 2), none⟩ = some (.int .i64 n45) ∧ (∃ b46 f47, (some ⟨w16.heap.size, 0, none⟩ : Option Addr) = some ⟨b46, f47, none⟩ ∧ (canSt w39 b46 (f47 + 2) [(.int .i64 (IntKind.i64.wrap (n45 + n41)))] ∧ withW (setL w39 b46 (f47 + 2) [(.int .i64 (IntKind.i64.wrap (n45 + n41)))]) fun w48 =>
 (∃ b49 f50, (some ⟨w16.heap.size, 0, none⟩ : Option Addr) = some ⟨b49, f50, none⟩ ∧ (∃ (n51 : Int), World.cell? w48 ⟨b49, (f50 + 3), none⟩ = some (.int .i64 n51) ∧ (∃ b52 f53, (some ⟨w16.heap.size, 0, none⟩ : Option Addr) = some ⟨b52, f53, none⟩ ∧ (canSt w48 b52 (f53 + 3) [(.int .i64 (if n51 < (IntKind.i64.wrap (n42 + 1)) then (IntKind.i64.wrap (n42 + 1)) else n51))] ∧ withW (setL w48 b52 (f53 + 3) [(.int .i64 (if n51 < (IntKind.i64.wrap (n42 + 1)) then (IntKind.i64.wrap (n42 + 1)) else n51))]) fun w54 =>
 (I25 [(.int .i64 (IntKind.i64.wrap (n30 + 1)))] w54 ∧ μ26 [(.int .i64 (IntKind.i64.wrap (n30 + 1)))] w54 < μ26 [(.int .i64 n30)] w27)))))))))))))))
 else
 (∃ b55 f56, (some ⟨w16.heap.size, 0, none⟩ : Option Addr) = some ⟨b55, f56, none⟩ ∧ (∃ (n57 : Int), World.cell? w27 ⟨b55, (f56 + 2), none⟩ = some (.int .i64 n57) ∧ (bif (decide (n57 > (4096 : Int))) then (withW (World.drew w27) fun w58 =>
 (∃ (v59 : Value), World.cell? w58 ⟨2, 0, none⟩ = some v59 ∧ (canSt w58 w.heap.size 0 [(.bool false), (.int .i64 0)] ∧ withW (setL w58 w.heap.size 0 [(.bool false), (.int .i64 0)]) fun w60 =>
 (cellsAt w60 2 0 [v59] ∧ (∃ (b61 : Bool) (n62 : Int), cellsAt w60 w.heap.size 0 [(.bool b61), (.int .i64 n62)] ∧ (R (.tuple #[(.agg #[(.bool b61), (.int .i64 n62)]), v59]) w60)))))) else (∃ b63 f64, (some ⟨w16.heap.size, 0, none⟩ : Option Addr) = some ⟨b63, f64, none⟩ ∧ (∃ (n65 : Int), World.cell? w27 ⟨b63, (f64 + 3), none⟩ = some (.int .i64 n65) ∧ (bif (decide (n65 > (200 : Int))) then
 (withW (World.drew w27) fun w66 =>
 (∃ (v67 : Value), World.cell? w66 ⟨2, 0, none⟩ = some v67 ∧ (canSt w66 w.heap.size 0 [(.bool false), (.int .i64 0)] ∧ withW (setL w66 w.heap.size 0 [(.bool false), (.int .i64 0)]) fun w68 =>
 (cellsAt w68 2 0 [v67] ∧ (∃ (b69 : Bool) (n70 : Int), cellsAt w68 w.heap.size 0 [(.bool b69), (.int .i64 n70)] ∧ (R (.tuple #[(.agg #[(.bool b69), (.int .i64 n70)]), v67]) w68))))))
 else
 (withW (World.drew w27) fun w71 =>
 (∃ b72 f73, (some ⟨p0b, p0o, none⟩ : Option Addr) = some ⟨b72, f73, none⟩ ∧ (∃ (a74 : Option Addr) (m75 c76 : Nat), World.cell? w71 ⟨b72, f73, none⟩ = some (.slice a74 m75 c76) ∧ (∃ b77 f78, (some ⟨w16.heap.size, 0, none⟩ : Option Addr) = some ⟨b77, f78, none⟩ ∧ (∃ (n79 : Int), World.cell? w71 ⟨b77, (f78 + 1), none⟩ = some (.int .i64 n79) ∧ (∃ b80 f81, (some ⟨p0b, p0o, none⟩ : Option Addr) = some ⟨b80, f81, none⟩ ∧ (∃ (n82 : Int), World.cell? w71 ⟨b80, (f81 + 1), none⟩ = some (.int .i64 n82) ∧ (bif (decide ((IntKind.i64.wrap ((m75 : Int) + n79)) > n82)) then
 (withW (World.drew w71) fun w83 =>
 (∃ (v84 : Value), World.cell? w83 ⟨0, 0, none⟩ = some v84 ∧ (canSt w83 w.heap.size 0 [(.bool false), (.int .i64 0)] ∧ withW (setL w83 w.heap.size 0 [(.bool false), (.int .i64 0)]) fun w85 =>
 (cellsAt w85 0 0 [v84] ∧ (∃ (b86 : Bool) (n87 : Int), cellsAt w85 w.heap.size 0 [(.bool b86), (.int .i64 n87)] ∧ (R (.tuple #[(.agg #[(.bool b86), (.int .i64 n87)]), v84]) w85))))))
 else
 (∃ b88 f89, (some ⟨p0b, p0o, none⟩ : Option Addr) = some ⟨b88, f89, none⟩ ∧ (∃ (a90 : Option Addr) (m91 c92 : Nat), World.cell? w71 ⟨b88, f89, none⟩ = some (.slice a90 m91 c92) ∧ (∃ b93 f94, (some ⟨p0b, p0o, none⟩ : Option Addr) = some ⟨b93, f94, none⟩ ∧ (∃ (a95 : Option Addr) (m96 c97 : Nat), World.cell? w71 ⟨b93, f94, none⟩ = some (.slice a95 m96 c97) ∧ (withW (World.alloc w71 (.cells #[(.bool false), (.int .i64 0), (.pointer (some ⟨w16.heap.size, 0, none⟩ : Option Addr))] 84)) fun w98 =>
 (∃ (a99 : Option Addr) (m100 c101 : Nat) (w102 : World), Runs Tryd.prog (Builtin.append_ #[74, 74] 74 #[(.slice a95 m96 c97), (.slice (some ⟨w71.heap.size, 0, none⟩ : Option Addr) 1 1)]) w98 (.slice a99 m100 c101) w102 ∧ (∃ b103 f104, (some ⟨p0b, p0o, none⟩ : Option Addr) = some ⟨b103, f104, none⟩ ∧ (canSt w102 b103 f104 [(.slice a99 m100 c101)] ∧ withW (setL w102 b103 f104 [(.slice a99 m100 c101)]) fun w105 =>
 (∃ (I106 : List Value → World → Prop) (μ107 : List Value → World → Nat), I106 [(.int .i64 0)] w105 ∧ ∀ (j109 : Env) (q110 : List Value) (w108 : World), I106 q110 w108 → ∃ (n111 : Int), q110 = [(.int .i64 n111)] ∧
 (bif (decide (n111 < (m3 : Int))) then
 (∃ b112 f113, a2 = some ⟨b112, f113, none⟩ ∧ 0 ≤ n111 ∧ n111 < (m3 : Int) ∧ (∃ (b114 : Bool) (n115 : Int), cellsAt w108 b112 (f113 + (n111 : Int).toNat * 2) [(.bool b114), (.int .i64 n115)] ∧ (withW (World.alloc w108 (.cells #[.bool false, .int .i64 0] 30)) fun w116 =>
 (canSt w116 w108.heap.size 0 [(.bool b114), (.int .i64 n115)] ∧ withW (setL w116 w108.heap.size 0 [(.bool b114), (.int .i64 n115)]) fun w117 =>
 (withW (World.drew w117) fun w118 =>
 (∃ b119 f120, (some ⟨p0b, p0o, none⟩ : Option Addr) = some ⟨b119, f120, none⟩ ∧ (∃ (a121 : Option Addr) (m122 c123 : Nat), World.cell? w118 ⟨b119, f120, none⟩ = some (.slice a121 m122 c123) ∧ (∃ (b124 : Bool) (n125 : Int), cellsAt w118 w108.heap.size 0 [(.bool b124), (.int .i64 n125)] ∧ (withW (World.alloc w118 (.cells #[(.bool b124), (.int .i64 n125), (.pointer none)] 84)) fun w126 =>
 (cellsAt w126 b119 f120 [(.slice a121 m122 c123)] ∧ (∃ (a127 : Option Addr) (m128 c129 : Nat) (w130 : World), Runs Tryd.prog (Builtin.append_ #[74, 74] 74 #[(.slice a121 m122 c123), (.slice (some ⟨w118.heap.size, 0, none⟩ : Option Addr) 1 1)]) w126 (.slice a127 m128 c129) w130 ∧ (∃ b131 f132, (some ⟨p0b, p0o, none⟩ : Option Addr) = some ⟨b131, f132, none⟩ ∧ (canSt w130 b131 f132 [(.slice a127 m128 c129)] ∧ withW (setL w130 b131 f132 [(.slice a127 m128 c129)]) fun w133 =>
 (I106 [(.int .i64 (IntKind.i64.wrap (n111 + 1)))] w133 ∧ μ107 [(.int .i64 (IntKind.i64.wrap (n111 + 1)))] w133 < μ107 [(.int .i64 n111)] w108))))))))))))))
 else
 (canSt w108 w.heap.size 0 [(.bool true), (.int .i64 (m91 : Int))] ∧ withW (setL w108 w.heap.size 0 [(.bool true), (.int .i64 (m91 : Int))]) fun w134 =>
 (∃ (b135 : Bool) (n136 : Int), cellsAt w134 w.heap.size 0 [(.bool b135), (.int .i64 n136)] ∧ (R (.tuple #[(.agg #[(.bool b135), (.int .i64 n136)]), .nilIface]) w134)))))))))))))))))))))))))))))))))))
set_option maxRecDepth 100000 in
theorem Alloc.eq (p0b p0o : Nat) (n1 : Int) (a2 : Option Addr) (m3 c4 : Nat) (w : World) (R : Value → World → Prop) : Alloc.W p0b p0o n1 a2 m3 c4 w R = fnW Tryd.prog tys fns Alloc.hs Tryd.f10 [(.pointer (some ⟨p0b, p0o, none⟩ : Option Addr)), (.int .i64 n1), (.slice a2 m3 c4)] w R := by kernel_rfl
theorem Alloc.ok : codeOk tys Alloc.hs Tryd.f10.ntmps (Tryd.f10.body.getD .skip) = true := by kernel_rfl
theorem Alloc.calls {p0b p0o n1 a2 m3 c4 w R} (h : Alloc.W p0b p0o n1 a2 m3 c4 w R) : Calls Tryd.prog 10 ([(.pointer (some ⟨p0b, p0o, none⟩ : Option Addr)), (.int .i64 n1), (.slice a2 m3 c4)] : List Value).toArray w fun e w' => ∃ v, e = .returned v ∧ R v w' :=
  fnW_calls tysOk fnsOk follows Tryd.func10 (by kernel_rfl) Alloc.ok (by kernel_rfl) (Alloc.eq p0b p0o n1 a2 m3 c4 w R ▸ h)
/-! ### Get: function 11 -/
def Get.hs : Hints := ⟨[(2, seqO [0, 1, 2, 3]), (9, seqO [0, 1, 2, 3, 4, 5, 6, 7, 8, 9, 10, 11, 12, 13, 14, 15])], [(5, [(7, .sl), (25, .int .i64)])]⟩
set_option maxRecDepth 100000 in
def Get.W (p0b p0o : Nat) (b1 : Bool) (n2 : Int) (w : World) (R : Value → World → Prop) : Prop :=
 (withW (World.alloc w (.cells #[(.bool b1), (.int .i64 n2)] 30)) fun w3 =>
 (∃ (b4 : Bool), World.cell? w3 ⟨w.heap.size, 0, none⟩ = some (.bool b4) ∧ (bif (!b4) then (withW (World.drew w3) fun w5 =>
 (∃ (v6 : Value), World.cell? w5 ⟨1, 0, none⟩ = some v6 ∧ (R (.tuple #[(.int .i64 0), (.slice none 0 0), v6]) w5))) else (∃ (b7 : Bool) (n8 : Int), cellsAt w3 w.heap.size 0 [(.bool b7), (.int .i64 n8)] ∧ (Calls Tryd.prog 25 #[(.pointer (some ⟨p0b, p0o, none⟩ : Option Addr)), (.agg #[(.bool b7), (.int .i64 n8)])] w3 fun e10 w9 => ∃ (b11 : Bool), e10 = .returned (.bool b11) ∧ (bif (!b11) then
 (withW (World.drew w9) fun w12 =>
 (∃ (v13 : Value), World.cell? w12 ⟨1, 0, none⟩ = some v13 ∧ (R (.tuple #[(.int .i64 0), (.slice none 0 0), v13]) w12)))
 else
 (∃ (n14 : Int), World.cell? w9 ⟨w.heap.size, 1, none⟩ = some (.int .i64 n14) ∧ (Calls Tryd.prog 26 #[(.pointer (some ⟨p0b, p0o, none⟩ : Option Addr)), (.int .i64 n14)] w9 fun e16 w15 => ∃ (a17 : Option Addr) (m18 c19 : Nat), e16 = .returned (.slice a17 m18 c19) ∧ (∃ (I20 : List Value → World → Prop) (μ21 : List Value → World → Nat), I20 [(.slice none 0 0), (.int .i64 0)] w15 ∧ ∀ (j23 : Env) (q24 : List Value) (w22 : World), I20 q24 w22 → ∃ (a25 : Option Addr) (m26 c27 : Nat) (n28 : Int), q24 = [(.slice a25 m26 c27), (.int .i64 n28)] ∧
 (bif (decide (n28 < (m18 : Int))) then
 (∃ b29 f30, a17 = some ⟨b29, f30, none⟩ ∧ 0 ≤ n28 ∧ n28 < (m18 : Int) ∧ (∃ (b31 : Bool) (n32 : Int) (p33 : Option Addr), cellsAt w22 b29 (f30 + (n28 : Int).toNat * 3) [(.bool b31), (.int .i64 n32), (.pointer p33)] ∧ (withW (World.alloc w22 (.cells #[.bool false, .int .i64 0, .pointer none] 84)) fun w34 =>
 (canSt w34 w22.heap.size 0 [(.bool b31), (.int .i64 n32), (.pointer p33)] ∧ withW (setL w34 w22.heap.size 0 [(.bool b31), (.int .i64 n32), (.pointer p33)]) fun w35 =>
 (∃ (b36 : Bool) (n37 : Int), cellsAt w35 w22.heap.size 0 [(.bool b36), (.int .i64 n37)] ∧ (withW (World.alloc w35 (.cells #[(.bool b36), (.int .i64 n37)] 30)) fun w38 =>
 (∃ (a39 : Option Addr) (m40 c41 : Nat) (w42 : World), Runs Tryd.prog (Builtin.append_ #[33, 33] 33 #[(.slice a25 m26 c27), (.slice (some ⟨w35.heap.size, 0, none⟩ : Option Addr) 1 1)]) w38 (.slice a39 m40 c41) w42 ∧ (I20 [(.slice a39 m40 c41), (.int .i64 (IntKind.i64.wrap (n28 + 1)))] w42 ∧ μ21 [(.slice a39 m40 c41), (.int .i64 (IntKind.i64.wrap (n28 + 1)))] w42 < μ21 [(.slice a25 m26 c27), (.int .i64 n28)] w22))))))))
 else
 (withW (World.drew w22) fun w43 =>
 (∃ b44 f45, (some ⟨p0b, p0o, none⟩ : Option Addr) = some ⟨b44, f45, none⟩ ∧ (∃ (a46 : Option Addr) (m47 c48 : Nat), World.cell? w43 ⟨b44, f45, none⟩ = some (.slice a46 m47 c48) ∧ (∃ (n49 : Int), World.cell? w43 ⟨w.heap.size, 1, none⟩ = some (.int .i64 n49) ∧ (∃ b50 f51, a46 = some ⟨b50, f51, none⟩ ∧ 0 ≤ n49 ∧ n49 < (m47 : Int) ∧ (∃ (p52 : Option Addr), World.cell? w43 ⟨b50, ((f51 + (n49 : Int).toNat * 3) + 2), none⟩ = some (.pointer p52) ∧ (∃ b53 f54, p52 = some ⟨b53, f54, none⟩ ∧ (∃ (n55 : Int), World.cell? w43 ⟨b53, f54, none⟩ = some (.int .i64 n55) ∧ (R (.tuple #[(.int .i64 n55), (.slice a25 m26 c27), .nilIface]) w43)))))))))))))))))))
set_option maxRecDepth 100000 in
theorem Get.eq (p0b p0o : Nat) (b1 : Bool) (n2 : Int) (w : World) (R : Value → World → Prop) : Get.W p0b p0o b1 n2 w R = fnW Tryd.prog tys fns Get.hs Tryd.f11 [(.pointer (some ⟨p0b, p0o, none⟩ : Option Addr)), (.agg #[(.bool b1), (.int .i64 n2)])] w R := by kernel_rfl
theorem Get.ok : codeOk tys Get.hs Tryd.f11.ntmps (Tryd.f11.body.getD .skip) = true := by kernel_rfl
theorem Get.calls {p0b p0o b1 n2 w R} (h : Get.W p0b p0o b1 n2 w R) : Calls Tryd.prog 11 ([(.pointer (some ⟨p0b, p0o, none⟩ : Option Addr)), (.agg #[(.bool b1), (.int .i64 n2)])] : List Value).toArray w fun e w' => ∃ v, e = .returned v ∧ R v w' :=
  fnW_calls tysOk fnsOk follows Tryd.func11 (by kernel_rfl) Get.ok (by kernel_rfl) (Get.eq p0b p0o b1 n2 w R ▸ h)
/-! ### Used: function 12 -/
def Used.hs : Hints := ⟨[], []⟩
set_option maxRecDepth 100000 in
def Used.W (p0b p0o : Nat) (w : World) (R : Value → World → Prop) : Prop :=
 (∃ b1 f2, (some ⟨p0b, p0o, none⟩ : Option Addr) = some ⟨b1, f2, none⟩ ∧ (∃ (a3 : Option Addr) (m4 c5 : Nat), World.cell? w ⟨b1, f2, none⟩ = some (.slice a3 m4 c5) ∧ (R (.int .i64 (m4 : Int)) w)))
set_option maxRecDepth 100000 in
theorem Used.eq (p0b p0o : Nat) (w : World) (R : Value → World → Prop) : Used.W p0b p0o w R = fnW Tryd.prog tys fns Used.hs Tryd.f12 [(.pointer (some ⟨p0b, p0o, none⟩ : Option Addr))] w R := by kernel_rfl
theorem Used.ok : codeOk tys Used.hs Tryd.f12.ntmps (Tryd.f12.body.getD .skip) = true := by kernel_rfl
theorem Used.calls {p0b p0o w R} (h : Used.W p0b p0o w R) : Calls Tryd.prog 12 ([(.pointer (some ⟨p0b, p0o, none⟩ : Option Addr))] : List Value).toArray w fun e w' => ∃ v, e = .returned v ∧ R v w' :=
  fnW_calls tysOk fnsOk follows Tryd.func12 (by kernel_rfl) Used.ok (by kernel_rfl) (Used.eq p0b p0o w R ▸ h)
/-! ### Collect: function 13 -/
def Collect.hs : Hints := ⟨[(21, seqO [0, 1, 2, 3, 4, 5, 6, 7, 8])], [(2, [(17, .int .i64)]), (10, [(42, .int .i64)]), (17, [(11, .int .i64)]), (23, [(101, .int .i64)])]⟩
set_option maxRecDepth 100000 in
def Collect.W (p0b p0o : Nat) (a1 : Option Addr) (m2 c3 : Nat) (w : World) (R : Value → World → Prop) : Prop :=
 (∃ (I4 : List Value → World → Prop) (μ5 : List Value → World → Nat), I4 [(.int .i64 0)] w ∧ ∀ (j7 : Env) (q8 : List Value) (w6 : World), I4 q8 w6 → ∃ (n9 : Int), q8 = [(.int .i64 n9)] ∧
 (bif (decide (n9 < (m2 : Int))) then
 (∃ b10 f11, a1 = some ⟨b10, f11, none⟩ ∧ 0 ≤ n9 ∧ n9 < (m2 : Int) ∧ (∃ (p12 : Option Addr), World.cell? w6 ⟨b10, (f11 + (n9 : Int).toNat * 1), none⟩ = some (.pointer p12) ∧ (bif (Option.isNone p12) then (∃ (v13 : Value), World.cell? w6 ⟨1, 0, none⟩ = some v13 ∧ (R v13 w6)) else (∃ b14 f15, p12 = some ⟨b14, f15, none⟩ ∧ (∃ (b16 : Bool) (n17 : Int), cellsAt w6 b14 f15 [(.bool b16), (.int .i64 n17)] ∧ (Calls Tryd.prog 25 #[(.pointer (some ⟨p0b, p0o, none⟩ : Option Addr)), (.agg #[(.bool b16), (.int .i64 n17)])] w6 fun e19 w18 => ∃ (b20 : Bool), e19 = .returned (.bool b20) ∧ (bif (!b20) then
 (∃ (v21 : Value), World.cell? w18 ⟨1, 0, none⟩ = some v21 ∧ (R v21 w18))
 else
 (I4 [(.int .i64 (IntKind.i64.wrap (n9 + 1)))] w18 ∧ μ5 [(.int .i64 (IntKind.i64.wrap (n9 + 1)))] w18 < μ5 [(.int .i64 n9)] w6))))))))
 else
 (∃ b22 f23, (some ⟨p0b, p0o, none⟩ : Option Addr) = some ⟨b22, f23, none⟩ ∧ (∃ (a24 : Option Addr) (m25 c26 : Nat), World.cell? w6 ⟨b22, f23, none⟩ = some (.slice a24 m25 c26) ∧ (withW (World.alloc w6 (.cells #[(.slice a24 m25 c26), (.slice none 0 0)] 89)) fun w27 =>
 (withW (World.alloc w27 (.map #[] 0)) fun w28 =>
 (∃ (I29 : List Value → World → Prop) (μ30 : List Value → World → Nat), I29 [(.int .i64 0)] w28 ∧ ∀ (j32 : Env) (q33 : List Value) (w31 : World), I29 q33 w31 → ∃ (n34 : Int), q33 = [(.int .i64 n34)] ∧
 (bif (decide (n34 < (m2 : Int))) then
 (∃ b35 f36, a1 = some ⟨b35, f36, none⟩ ∧ 0 ≤ n34 ∧ n34 < (m2 : Int) ∧ (∃ (p37 : Option Addr), World.cell? w31 ⟨b35, (f36 + (n34 : Int).toNat * 1), none⟩ = some (.pointer p37) ∧ (∃ (b38 : Bool), Runs Tryd.prog (Instr.lookup 90 (.map (some w27.heap.size)) (.pointer p37) false) w31 (.bool b38) w31 ∧ (bif (!b38) then
 (∃ b39 f40, p37 = some ⟨b39, f40, none⟩ ∧ (∃ (b41 : Bool) (n42 : Int), cellsAt w31 b39 f40 [(.bool b41), (.int .i64 n42)] ∧ (Calls Tryd.prog 27 #[(.pointer (some ⟨w6.heap.size, 0, none⟩ : Option Addr)), (.agg #[(.bool b41), (.int .i64 n42)])] w31 fun e44 w43 => ∃ (b45 : Bool) (n46 : Int), e44 = .returned (.agg #[(.bool b45), (.int .i64 n46)]) ∧ (∃ b47 f48, p37 = some ⟨b47, f48, none⟩ ∧ (canSt w43 b47 f48 [(.bool b45), (.int .i64 n46)] ∧ withW (setL w43 b47 f48 [(.bool b45), (.int .i64 n46)]) fun w49 =>
 (∃ w50, Runs Tryd.prog (Instr.mapUpdate 90 (.map (some w27.heap.size)) (.pointer p37) (.bool true)) w49 () w50 ∧ (I29 [(.int .i64 (IntKind.i64.wrap (n34 + 1)))] w50 ∧ μ30 [(.int .i64 (IntKind.i64.wrap (n34 + 1)))] w50 < μ30 [(.int .i64 n34)] w31)))))))
 else
 (I29 [(.int .i64 (IntKind.i64.wrap (n34 + 1)))] w31 ∧ μ30 [(.int .i64 (IntKind.i64.wrap (n34 + 1)))] w31 < μ30 [(.int .i64 n34)] w31)))))
 else
 (∃ (I51 : List Value → World → Prop) (μ52 : List Value → World → Nat), I51 [(.int .i64 0)] w31 ∧ ∀ (j54 : Env) (q55 : List Value) (w53 : World), I51 q55 w53 → ∃ (n56 : Int), q55 = [(.int .i64 n56)] ∧
 (∃ b57 f58, (some ⟨w6.heap.size, 0, none⟩ : Option Addr) = some ⟨b57, f58, none⟩ ∧ (∃ (a59 : Option Addr) (m60 c61 : Nat), World.cell? w53 ⟨b57, (f58 + 1), none⟩ = some (.slice a59 m60 c61) ∧ (bif (decide (n56 < (m60 : Int))) then
 (∃ b62 f63, (some ⟨w6.heap.size, 0, none⟩ : Option Addr) = some ⟨b62, f63, none⟩ ∧ (∃ (a64 : Option Addr) (m65 c66 : Nat), World.cell? w53 ⟨b62, (f63 + 1), none⟩ = some (.slice a64 m65 c66) ∧ (∃ b67 f68, a64 = some ⟨b67, f68, none⟩ ∧ 0 ≤ n56 ∧ n56 < (m65 : Int) ∧ (∃ (p69 : Option Addr), World.cell? w53 ⟨b67, ((f68 + (n56 : Int).toNat * 3) + 2), none⟩ = some (.pointer p69) ∧ (bif (Option.isNone p69) then
 (∃ b70 f71, (some ⟨w6.heap.size, 0, none⟩ : Option Addr) = some ⟨b70, f71, none⟩ ∧ (∃ (a72 : Option Addr) (m73 c74 : Nat), World.cell? w53 ⟨b70, (f71 + 1), none⟩ = some (.slice a72 m73 c74) ∧ (∃ b75 f76, a72 = some ⟨b75, f76, none⟩ ∧ 0 ≤ n56 ∧ n56 < (m73 : Int) ∧ (∃ (b77 : Bool) (n78 : Int), cellsAt w53 b75 (f76 + (n56 : Int).toNat * 3) [(.bool b77), (.int .i64 n78)] ∧ (Calls Tryd.prog 27 #[(.pointer (some ⟨w6.heap.size, 0, none⟩ : Option Addr)), (.agg #[(.bool b77), (.int .i64 n78)])] w53 fun e80 w79 => ∃ (b81 : Bool) (n82 : Int), e80 = .returned (.agg #[(.bool b81), (.int .i64 n82)]) ∧ (withW (World.alloc w79 (.cells #[.bool false, .int .i64 0] 30)) fun w83 =>
 (canSt w83 w79.heap.size 0 [(.bool b81), (.int .i64 n82)] ∧ withW (setL w83 w79.heap.size 0 [(.bool b81), (.int .i64 n82)]) fun w84 =>
 (withW (World.drew w84) fun w85 =>
 (∃ b86 f87, (some ⟨w6.heap.size, 0, none⟩ : Option Addr) = some ⟨b86, f87, none⟩ ∧ (∃ (a88 : Option Addr) (m89 c90 : Nat), World.cell? w85 ⟨b86, (f87 + 1), none⟩ = some (.slice a88 m89 c90) ∧ (∃ (b91 : Bool) (n92 : Int), cellsAt w85 w79.heap.size 0 [(.bool b91), (.int .i64 n92)] ∧ (∃ b93 f94, a88 = some ⟨b93, f94, none⟩ ∧ 0 ≤ n56 ∧ n56 < (m89 : Int) ∧ (canSt w85 b93 (f94 + (n56 : Int).toNat * 3) [(.bool b91), (.int .i64 n92)] ∧ withW (setL w85 b93 (f94 + (n56 : Int).toNat * 3) [(.bool b91), (.int .i64 n92)]) fun w95 =>
 (I51 [(.int .i64 (IntKind.i64.wrap (n56 + 1)))] w95 ∧ μ52 [(.int .i64 (IntKind.i64.wrap (n56 + 1)))] w95 < μ52 [(.int .i64 n56)] w53))))))))))))))
 else
 (I51 [(.int .i64 (IntKind.i64.wrap (n56 + 1)))] w53 ∧ μ52 [(.int .i64 (IntKind.i64.wrap (n56 + 1)))] w53 < μ52 [(.int .i64 n56)] w53))))))
 else
 (∃ b96 f97, (some ⟨w6.heap.size, 0, none⟩ : Option Addr) = some ⟨b96, f97, none⟩ ∧ (∃ (a98 : Option Addr) (m99 c100 : Nat), World.cell? w53 ⟨b96, (f97 + 1), none⟩ = some (.slice a98 m99 c100) ∧ (∃ (I101 : List Value → World → Prop) (μ102 : List Value → World → Nat), I101 [(.int .i64 0)] w53 ∧ ∀ (j104 : Env) (q105 : List Value) (w103 : World), I101 q105 w103 → ∃ (n106 : Int), q105 = [(.int .i64 n106)] ∧
 (bif (decide (n106 < (m99 : Int))) then
 (∃ b107 f108, (some ⟨w6.heap.size, 0, none⟩ : Option Addr) = some ⟨b107, f108, none⟩ ∧ (∃ (a109 : Option Addr) (m110 c111 : Nat), World.cell? w103 ⟨b107, (f108 + 1), none⟩ = some (.slice a109 m110 c111) ∧ (∃ b112 f113, a109 = some ⟨b112, f113, none⟩ ∧ 0 ≤ n106 ∧ n106 < (m110 : Int) ∧ (∃ (p114 : Option Addr), World.cell? w103 ⟨b112, ((f113 + (n106 : Int).toNat * 3) + 2), none⟩ = some (.pointer p114) ∧ (bif (!(Option.isNone p114)) then
 (∃ b115 f116, p114 = some ⟨b115, f116, none⟩ ∧ (canSt w103 b115 (f116 + 4) [(.int .i64 0)] ∧ withW (setL w103 b115 (f116 + 4) [(.int .i64 0)]) fun w117 =>
 (I101 [(.int .i64 (IntKind.i64.wrap (n106 + 1)))] w117 ∧ μ102 [(.int .i64 (IntKind.i64.wrap (n106 + 1)))] w117 < μ102 [(.int .i64 n106)] w103)))
 else
 (I101 [(.int .i64 (IntKind.i64.wrap (n106 + 1)))] w103 ∧ μ102 [(.int .i64 (IntKind.i64.wrap (n106 + 1)))] w103 < μ102 [(.int .i64 n106)] w103))))))
 else
 (∃ b118 f119, (some ⟨w6.heap.size, 0, none⟩ : Option Addr) = some ⟨b118, f119, none⟩ ∧ (∃ (a120 : Option Addr) (m121 c122 : Nat), World.cell? w103 ⟨b118, (f119 + 1), none⟩ = some (.slice a120 m121 c122) ∧ (∃ b123 f124, (some ⟨p0b, p0o, none⟩ : Option Addr) = some ⟨b123, f124, none⟩ ∧ (canSt w103 b123 f124 [(.slice a120 m121 c122)] ∧ withW (setL w103 b123 f124 [(.slice a120 m121 c122)]) fun w125 =>
 (R .nilIface w125)))))))))))))))))))))
set_option maxRecDepth 100000 in
theorem Collect.eq (p0b p0o : Nat) (a1 : Option Addr) (m2 c3 : Nat) (w : World) (R : Value → World → Prop) : Collect.W p0b p0o a1 m2 c3 w R = fnW Tryd.prog tys fns Collect.hs Tryd.f13 [(.pointer (some ⟨p0b, p0o, none⟩ : Option Addr)), (.slice a1 m2 c3)] w R := by kernel_rfl
theorem Collect.ok : codeOk tys Collect.hs Tryd.f13.ntmps (Tryd.f13.body.getD .skip) = true := by kernel_rfl
theorem Collect.calls {p0b p0o a1 m2 c3 w R} (h : Collect.W p0b p0o a1 m2 c3 w R) : Calls Tryd.prog 13 ([(.pointer (some ⟨p0b, p0o, none⟩ : Option Addr)), (.slice a1 m2 c3)] : List Value).toArray w fun e w' => ∃ v, e = .returned v ∧ R v w' :=
  fnW_calls tysOk fnsOk follows Tryd.func13 (by kernel_rfl) Collect.ok (by kernel_rfl) (Collect.eq p0b p0o a1 m2 c3 w R ▸ h)
/-! ### Cells: function 14 -/
def Cells.hs : Hints := ⟨[], []⟩
set_option maxRecDepth 100000 in
def Cells.W (p0b p0o : Nat) (w : World) (R : Value → World → Prop) : Prop :=
 (∃ b1 f2, (some ⟨p0b, p0o, none⟩ : Option Addr) = some ⟨b1, f2, none⟩ ∧ (∃ (n3 : Int), World.cell? w ⟨b1, (f2 + 1), none⟩ = some (.int .i64 n3) ∧ (R (.int .i64 n3) w)))
set_option maxRecDepth 100000 in
theorem Cells.eq (p0b p0o : Nat) (w : World) (R : Value → World → Prop) : Cells.W p0b p0o w R = fnW Tryd.prog tys fns Cells.hs Tryd.f14 [(.pointer (some ⟨p0b, p0o, none⟩ : Option Addr))] w R := by kernel_rfl
theorem Cells.ok : codeOk tys Cells.hs Tryd.f14.ntmps (Tryd.f14.body.getD .skip) = true := by kernel_rfl
theorem Cells.calls {p0b p0o w R} (h : Cells.W p0b p0o w R) : Calls Tryd.prog 14 ([(.pointer (some ⟨p0b, p0o, none⟩ : Option Addr))] : List Value).toArray w fun e w' => ∃ v, e = .returned v ∧ R v w' :=
  fnW_calls tysOk fnsOk follows Tryd.func14 (by kernel_rfl) Cells.ok (by kernel_rfl) (Cells.eq p0b p0o w R ▸ h)
/-! ### goods: function 23 -/
def goods.hs : Hints := ⟨[], []⟩
set_option maxRecDepth 100000 in
def goods.W (p0b p0o : Nat) (a1 : Option Addr) (m2 c3 : Nat) (w : World) (R : Value → World → Prop) : Prop :=
 (withW (World.alloc w (.cells #[(.pointer (some ⟨p0b, p0o, none⟩ : Option Addr))] 24)) fun w4 =>
 (Calls Tryd.prog 37 #[(.slice a1 m2 c3), (.func (.func 38) #[] #[(.pointer (some ⟨w.heap.size, 0, none⟩ : Option Addr))])] w4 fun e6 w5 => ∃ (b7 : Bool), e6 = .returned (.bool b7) ∧ (R (.bool (!b7)) w5)))
set_option maxRecDepth 100000 in
theorem goods.eq (p0b p0o : Nat) (a1 : Option Addr) (m2 c3 : Nat) (w : World) (R : Value → World → Prop) : goods.W p0b p0o a1 m2 c3 w R = fnW Tryd.prog tys fns goods.hs Tryd.f23 [(.pointer (some ⟨p0b, p0o, none⟩ : Option Addr)), (.slice a1 m2 c3)] w R := by kernel_rfl
theorem goods.ok : codeOk tys goods.hs Tryd.f23.ntmps (Tryd.f23.body.getD .skip) = true := by kernel_rfl
theorem goods.calls {p0b p0o a1 m2 c3 w R} (h : goods.W p0b p0o a1 m2 c3 w R) : Calls Tryd.prog 23 ([(.pointer (some ⟨p0b, p0o, none⟩ : Option Addr)), (.slice a1 m2 c3)] : List Value).toArray w fun e w' => ∃ v, e = .returned v ∧ R v w' :=
  fnW_calls tysOk fnsOk follows Tryd.func23 (by kernel_rfl) goods.ok (by kernel_rfl) (goods.eq p0b p0o a1 m2 c3 w R ▸ h)
/-! ### measure: function 24 -/
def measure.hs : Hints := ⟨[(3, seqO [0, 1, 2, 3, 4, 5, 6, 7, 8, 9]), (4, seqO [0, 1, 2, 3, 4, 5, 6, 7, 8, 9])], []⟩
set_option maxRecDepth 100000 in
def measure.W (p0b p0o : Nat) (b1 : Bool) (n2 : Int) (w : World) (R : Value → World → Prop) : Prop :=
 (withW (World.alloc w (.cells #[(.bool b1), (.int .i64 n2)] 30)) fun w3 =>
 (∃ (b4 : Bool), World.cell? w3 ⟨w.heap.size, 0, none⟩ = some (.bool b4) ∧ (bif (!b4) then
 (R (.tuple #[(.int .i64 1), (.int .i64 1)]) w3)
 else
 (withW (World.drew w3) fun w5 =>
 (∃ b6 f7, (some ⟨p0b, p0o, none⟩ : Option Addr) = some ⟨b6, f7, none⟩ ∧ (∃ (a8 : Option Addr) (m9 c10 : Nat), World.cell? w5 ⟨b6, f7, none⟩ = some (.slice a8 m9 c10) ∧ (∃ (n11 : Int), World.cell? w5 ⟨w.heap.size, 1, none⟩ = some (.int .i64 n11) ∧ (∃ b12 f13, a8 = some ⟨b12, f13, none⟩ ∧ 0 ≤ n11 ∧ n11 < (m9 : Int) ∧ (∃ (p14 : Option Addr), World.cell? w5 ⟨b12, ((f13 + (n11 : Int).toNat * 3) + 2), none⟩ = some (.pointer p14) ∧ (withW (World.drew w5) fun w15 =>
 (∃ b16 f17, p14 = some ⟨b16, f17, none⟩ ∧ (∃ (n18 : Int), World.cell? w15 ⟨b16, (f17 + 2), none⟩ = some (.int .i64 n18) ∧ (∃ b19 f20, p14 = some ⟨b19, f20, none⟩ ∧ (∃ (n21 : Int), World.cell? w15 ⟨b19, (f20 + 3), none⟩ = some (.int .i64 n21) ∧ (R (.tuple #[(.int .i64 n18), (.int .i64 n21)]) w15)))))))))))))))
set_option maxRecDepth 100000 in
theorem measure.eq (p0b p0o : Nat) (b1 : Bool) (n2 : Int) (w : World) (R : Value → World → Prop) : measure.W p0b p0o b1 n2 w R = fnW Tryd.prog tys fns measure.hs Tryd.f24 [(.pointer (some ⟨p0b, p0o, none⟩ : Option Addr)), (.agg #[(.bool b1), (.int .i64 n2)])] w R := by kernel_rfl
theorem measure.ok : codeOk tys measure.hs Tryd.f24.ntmps (Tryd.f24.body.getD .skip) = true := by kernel_rfl
theorem measure.calls {p0b p0o b1 n2 w R} (h : measure.W p0b p0o b1 n2 w R) : Calls Tryd.prog 24 ([(.pointer (some ⟨p0b, p0o, none⟩ : Option Addr)), (.agg #[(.bool b1), (.int .i64 n2)])] : List Value).toArray w fun e w' => ∃ v, e = .returned v ∧ R v w' :=
  fnW_calls tysOk fnsOk follows Tryd.func24 (by kernel_rfl) measure.ok (by kernel_rfl) (measure.eq p0b p0o b1 n2 w R ▸ h)
/-! ### hgood: function 25 -/
def hgood.hs : Hints := ⟨[(1, seqO [0, 1, 2, 3, 4, 5, 6, 7, 8, 9, 10, 11, 12, 13, 14, 15, 16, 17, 18, 19, 20, 21, 22, 23, 24, 25, 26, 27, 28, 29, 30])], []⟩
set_option maxRecDepth 100000 in
def hgood.W (p0b p0o : Nat) (b1 : Bool) (n2 : Int) (w : World) (R : Value → World → Prop) : Prop :=
 (withW (World.alloc w (.cells #[(.bool b1), (.int .i64 n2)] 30)) fun w3 =>
 (withW (World.drew w3) fun w4 =>
 (∃ (b5 : Bool), World.cell? w4 ⟨w.heap.size, 0, none⟩ = some (.bool b5) ∧ (bif (!b5) then (R (.bool true) w4) else (∃ (n6 : Int), World.cell? w4 ⟨w.heap.size, 1, none⟩ = some (.int .i64 n6) ∧ (bif (decide (n6 ≥ (0 : Int))) then (∃ (n7 : Int), World.cell? w4 ⟨w.heap.size, 1, none⟩ = some (.int .i64 n7) ∧ (∃ b8 f9, (some ⟨p0b, p0o, none⟩ : Option Addr) = some ⟨b8, f9, none⟩ ∧ (∃ (a10 : Option Addr) (m11 c12 : Nat), World.cell? w4 ⟨b8, f9, none⟩ = some (.slice a10 m11 c12) ∧ (bif (decide (n7 < (m11 : Int))) then (∃ b13 f14, (some ⟨p0b, p0o, none⟩ : Option Addr) = some ⟨b13, f14, none⟩ ∧ (∃ (a15 : Option Addr) (m16 c17 : Nat), World.cell? w4 ⟨b13, f14, none⟩ = some (.slice a15 m16 c17) ∧ (∃ (n18 : Int), World.cell? w4 ⟨w.heap.size, 1, none⟩ = some (.int .i64 n18) ∧ (∃ b19 f20, a15 = some ⟨b19, f20, none⟩ ∧ 0 ≤ n18 ∧ n18 < (m16 : Int) ∧ (∃ (p21 : Option Addr), World.cell? w4 ⟨b19, ((f20 + (n18 : Int).toNat * 3) + 2), none⟩ = some (.pointer p21) ∧ (R (.bool (!(Option.isNone p21))) w4)))))) else (R (.bool false) w4))))) else (R (.bool false) w4)))))))
set_option maxRecDepth 100000 in
theorem hgood.eq (p0b p0o : Nat) (b1 : Bool) (n2 : Int) (w : World) (R : Value → World → Prop) : hgood.W p0b p0o b1 n2 w R = fnW Tryd.prog tys fns hgood.hs Tryd.f25 [(.pointer (some ⟨p0b, p0o, none⟩ : Option Addr)), (.agg #[(.bool b1), (.int .i64 n2)])] w R := by kernel_rfl
theorem hgood.ok : codeOk tys hgood.hs Tryd.f25.ntmps (Tryd.f25.body.getD .skip) = true := by kernel_rfl
theorem hgood.calls {p0b p0o b1 n2 w R} (h : hgood.W p0b p0o b1 n2 w R) : Calls Tryd.prog 25 ([(.pointer (some ⟨p0b, p0o, none⟩ : Option Addr)), (.agg #[(.bool b1), (.int .i64 n2)])] : List Value).toArray w fun e w' => ∃ v, e = .returned v ∧ R v w' :=
  fnW_calls tysOk fnsOk follows Tryd.func25 (by kernel_rfl) hgood.ok (by kernel_rfl) (hgood.eq p0b p0o b1 n2 w R ▸ h)
/-! ### hargs: function 26 -/
def hargs.hs : Hints := ⟨[(1, seqO [0, 1, 2, 3, 4, 5, 6, 7, 8, 9, 10, 11, 12, 13, 14, 15, 16, 17, 18, 19, 20])], []⟩
set_option maxRecDepth 100000 in
def hargs.W (p0b p0o : Nat) (n1 : Int) (w : World) (R : Value → World → Prop) : Prop :=
 (withW (World.drew w) fun w2 =>
 (∃ b3 f4, (some ⟨p0b, p0o, none⟩ : Option Addr) = some ⟨b3, f4, none⟩ ∧ (∃ (a5 : Option Addr) (m6 c7 : Nat), World.cell? w2 ⟨b3, f4, none⟩ = some (.slice a5 m6 c7) ∧ (∃ b8 f9, (some ⟨p0b, p0o, none⟩ : Option Addr) = some ⟨b8, f9, none⟩ ∧ (∃ (a10 : Option Addr) (m11 c12 : Nat), World.cell? w2 ⟨b8, f9, none⟩ = some (.slice a10 m11 c12) ∧ (∃ b13 f14, a10 = some ⟨b13, f14, none⟩ ∧ 0 ≤ n1 ∧ n1 < (m11 : Int) ∧ (∃ (p15 : Option Addr), World.cell? w2 ⟨b13, ((f14 + (n1 : Int).toNat * 3) + 2), none⟩ = some (.pointer p15) ∧ (∃ b16 f17, p15 = some ⟨b16, f17, none⟩ ∧ (∃ (n18 : Int), World.cell? w2 ⟨b16, (f17 + 1), none⟩ = some (.int .i64 n18) ∧ (0 ≤ (IntKind.i64.wrap (n1 + 1)) ∧ (IntKind.i64.wrap (n1 + 1)) ≤ (IntKind.i64.wrap (n1 + n18)) ∧ (IntKind.i64.wrap (n1 + n18)) ≤ (c7 : Int) ∧ (R (.slice (cutA a5 (((IntKind.i64.wrap (n1 + 1)) : Int).toNat) c7 3) (((IntKind.i64.wrap (n1 + n18)) : Int).toNat - ((IntKind.i64.wrap (n1 + 1)) : Int).toNat) (c7 - ((IntKind.i64.wrap (n1 + 1)) : Int).toNat)) w2)))))))))))
set_option maxRecDepth 100000 in
theorem hargs.eq (p0b p0o : Nat) (n1 : Int) (w : World) (R : Value → World → Prop) : hargs.W p0b p0o n1 w R = fnW Tryd.prog tys fns hargs.hs Tryd.f26 [(.pointer (some ⟨p0b, p0o, none⟩ : Option Addr)), (.int .i64 n1)] w R := by kernel_rfl
theorem hargs.ok : codeOk tys hargs.hs Tryd.f26.ntmps (Tryd.f26.body.getD .skip) = true := by kernel_rfl
theorem hargs.calls {p0b p0o n1 w R} (h : hargs.W p0b p0o n1 w R) : Calls Tryd.prog 26 ([(.pointer (some ⟨p0b, p0o, none⟩ : Option Addr)), (.int .i64 n1)] : List Value).toArray w fun e w' => ∃ v, e = .returned v ∧ R v w' :=
  fnW_calls tysOk fnsOk follows Tryd.func26 (by kernel_rfl) hargs.ok (by kernel_rfl) (hargs.eq p0b p0o n1 w R ▸ h)
/-! ### move: function 27 -/
def move.hs : Hints := ⟨[(3, seqO [0, 1, 2, 3, 4, 5, 6, 7, 8, 9]), (6, seqO [0, 1, 2, 3, 4, 5, 6, 7, 8, 9, 10, 11, 12, 13, 14, 15, 16, 17, 18, 19, 20, 21, 22])], []⟩
set_option maxRecDepth 100000 in
def move.W (p0b p0o : Nat) (b1 : Bool) (n2 : Int) (w : World) (R : Value → World → Prop) : Prop :=
 (withW (World.alloc w (.cells #[(.bool b1), (.int .i64 n2)] 30)) fun w3 =>
 (withW (World.alloc w3 (.cells #[.bool false, .int .i64 0] 30)) fun w4 =>
 (∃ (b5 : Bool), World.cell? w4 ⟨w.heap.size, 0, none⟩ = some (.bool b5) ∧ (bif (!b5) then
 (∃ (b6 : Bool) (n7 : Int), cellsAt w4 w.heap.size 0 [(.bool b6), (.int .i64 n7)] ∧ (canSt w4 w3.heap.size 0 [(.bool b6), (.int .i64 n7)] ∧ withW (setL w4 w3.heap.size 0 [(.bool b6), (.int .i64 n7)]) fun w8 =>
 (∃ (b9 : Bool) (n10 : Int), cellsAt w8 w3.heap.size 0 [(.bool b9), (.int .i64 n10)] ∧ (R (.agg #[(.bool b9), (.int .i64 n10)]) w8))))
 else
 (withW (World.drew w4) fun w11 =>
 (∃ b12 f13, (some ⟨p0b, p0o, none⟩ : Option Addr) = some ⟨b12, f13, none⟩ ∧ (∃ (a14 : Option Addr) (m15 c16 : Nat), World.cell? w11 ⟨b12, f13, none⟩ = some (.slice a14 m15 c16) ∧ (∃ (n17 : Int), World.cell? w11 ⟨w.heap.size, 1, none⟩ = some (.int .i64 n17) ∧ (∃ b18 f19, a14 = some ⟨b18, f19, none⟩ ∧ 0 ≤ n17 ∧ n17 < (m15 : Int) ∧ (∃ (p20 : Option Addr), World.cell? w11 ⟨b18, ((f19 + (n17 : Int).toNat * 3) + 2), none⟩ = some (.pointer p20) ∧ (∃ b21 f22, p20 = some ⟨b21, f22, none⟩ ∧ (∃ (n23 : Int), World.cell? w11 ⟨b21, (f22 + 4), none⟩ = some (.int .i64 n23) ∧ (bif (n23 == (0 : Int)) then
 (∃ b24 f25, (some ⟨p0b, p0o, none⟩ : Option Addr) = some ⟨b24, f25, none⟩ ∧ (∃ (a26 : Option Addr) (m27 c28 : Nat), World.cell? w11 ⟨b24, (f25 + 1), none⟩ = some (.slice a26 m27 c28) ∧ (∃ b29 f30, p20 = some ⟨b29, f30, none⟩ ∧ (canSt w11 b29 (f30 + 4) [(.int .i64 (IntKind.i64.wrap ((m27 : Int) + 1)))] ∧ withW (setL w11 b29 (f30 + 4) [(.int .i64 (IntKind.i64.wrap ((m27 : Int) + 1)))]) fun w31 =>
 (withW (World.drew w31) fun w32 =>
 (∃ b33 f34, (some ⟨p0b, p0o, none⟩ : Option Addr) = some ⟨b33, f34, none⟩ ∧ (∃ (a35 : Option Addr) (m36 c37 : Nat), World.cell? w32 ⟨b33, (f34 + 1), none⟩ = some (.slice a35 m36 c37) ∧ (∃ b38 f39, (some ⟨p0b, p0o, none⟩ : Option Addr) = some ⟨b38, f39, none⟩ ∧ (∃ (a40 : Option Addr) (m41 c42 : Nat), World.cell? w32 ⟨b38, f39, none⟩ = some (.slice a40 m41 c42) ∧ (∃ (n43 : Int), World.cell? w32 ⟨w.heap.size, 1, none⟩ = some (.int .i64 n43) ∧ (∃ (n44 : Int), World.cell? w32 ⟨w.heap.size, 1, none⟩ = some (.int .i64 n44) ∧ (∃ b45 f46, p20 = some ⟨b45, f46, none⟩ ∧ (∃ (n47 : Int), World.cell? w32 ⟨b45, (f46 + 1), none⟩ = some (.int .i64 n47) ∧ (0 ≤ n43 ∧ n43 ≤ (IntKind.i64.wrap (n44 + n47)) ∧ (IntKind.i64.wrap (n44 + n47)) ≤ (c42 : Int) ∧ (∃ (a48 : Option Addr) (m49 c50 : Nat) (w51 : World), Runs Tryd.prog (Builtin.append_ #[74, 74] 74 #[(.slice a35 m36 c37), (.slice (cutA a40 ((n43 : Int).toNat) c42 3) (((IntKind.i64.wrap (n44 + n47)) : Int).toNat - (n43 : Int).toNat) (c42 - (n43 : Int).toNat))]) w32 (.slice a48 m49 c50) w51 ∧ (∃ b52 f53, (some ⟨p0b, p0o, none⟩ : Option Addr) = some ⟨b52, f53, none⟩ ∧ (canSt w51 b52 (f53 + 1) [(.slice a48 m49 c50)] ∧ withW (setL w51 b52 (f53 + 1) [(.slice a48 m49 c50)]) fun w54 =>
 (∃ b55 f56, p20 = some ⟨b55, f56, none⟩ ∧ (∃ (n57 : Int), World.cell? w54 ⟨b55, (f56 + 4), none⟩ = some (.int .i64 n57) ∧ (canSt w54 w3.heap.size 0 [(.bool true), (.int .i64 (IntKind.i64.wrap (n57 - 1)))] ∧ withW (setL w54 w3.heap.size 0 [(.bool true), (.int .i64 (IntKind.i64.wrap (n57 - 1)))]) fun w58 =>
 (∃ (b59 : Bool) (n60 : Int), cellsAt w58 w3.heap.size 0 [(.bool b59), (.int .i64 n60)] ∧ (R (.agg #[(.bool b59), (.int .i64 n60)]) w58))))))))))))))))))))))
 else
 (∃ b61 f62, p20 = some ⟨b61, f62, none⟩ ∧ (∃ (n63 : Int), World.cell? w11 ⟨b61, (f62 + 4), none⟩ = some (.int .i64 n63) ∧ (canSt w11 w3.heap.size 0 [(.bool true), (.int .i64 (IntKind.i64.wrap (n63 - 1)))] ∧ withW (setL w11 w3.heap.size 0 [(.bool true), (.int .i64 (IntKind.i64.wrap (n63 - 1)))]) fun w64 =>
 (∃ (b65 : Bool) (n66 : Int), cellsAt w64 w3.heap.size 0 [(.bool b65), (.int .i64 n66)] ∧ (R (.agg #[(.bool b65), (.int .i64 n66)]) w64))))))))))))))))))
set_option maxRecDepth 100000 in
theorem move.eq (p0b p0o : Nat) (b1 : Bool) (n2 : Int) (w : World) (R : Value → World → Prop) : move.W p0b p0o b1 n2 w R = fnW Tryd.prog tys fns move.hs Tryd.f27 [(.pointer (some ⟨p0b, p0o, none⟩ : Option Addr)), (.agg #[(.bool b1), (.int .i64 n2)])] w R := by kernel_rfl
theorem move.ok : codeOk tys move.hs Tryd.f27.ntmps (Tryd.f27.body.getD .skip) = true := by kernel_rfl
theorem move.calls {p0b p0o b1 n2 w R} (h : move.W p0b p0o b1 n2 w R) : Calls Tryd.prog 27 ([(.pointer (some ⟨p0b, p0o, none⟩ : Option Addr)), (.agg #[(.bool b1), (.int .i64 n2)])] : List Value).toArray w fun e w' => ∃ v, e = .returned v ∧ R v w' :=
  fnW_calls tysOk fnsOk follows Tryd.func27 (by kernel_rfl) move.ok (by kernel_rfl) (move.eq p0b p0o b1 n2 w R ▸ h)
/-! ### ContainsFunc: function 37 -/
def ContainsFunc.hs : Hints := ⟨[], []⟩
set_option maxRecDepth 100000 in
def ContainsFunc.W (a1 : Option Addr) (m2 c3 : Nat) (hb : Nat) (w : World) (R : Value → World → Prop) : Prop :=
 (Calls Tryd.prog 39 #[(.slice a1 m2 c3), (.func (.func 38) #[] #[(.pointer (some ⟨hb, 0, none⟩ : Option Addr))])] w fun e5 w4 => ∃ (n6 : Int), e5 = .returned (.int .i64 n6) ∧ (R (.bool (decide (n6 ≥ (0 : Int)))) w4))
set_option maxRecDepth 100000 in
theorem ContainsFunc.eq (a1 : Option Addr) (m2 c3 : Nat) (hb : Nat) (w : World) (R : Value → World → Prop) : ContainsFunc.W a1 m2 c3 hb w R = fnW Tryd.prog tys fns ContainsFunc.hs Tryd.f37 [(.slice a1 m2 c3), (.func (.func 38) #[] #[(.pointer (some ⟨hb, 0, none⟩ : Option Addr))])] w R := by kernel_rfl
theorem ContainsFunc.ok : codeOk tys ContainsFunc.hs Tryd.f37.ntmps (Tryd.f37.body.getD .skip) = true := by kernel_rfl
theorem ContainsFunc.calls {a1 m2 c3 hb w R} (h : ContainsFunc.W a1 m2 c3 hb w R) : Calls Tryd.prog 37 ([(.slice a1 m2 c3), (.func (.func 38) #[] #[(.pointer (some ⟨hb, 0, none⟩ : Option Addr))])] : List Value).toArray w fun e w' => ∃ v, e = .returned v ∧ R v w' :=
  fnW_calls tysOk fnsOk follows Tryd.func37 (by kernel_rfl) ContainsFunc.ok (by kernel_rfl) (ContainsFunc.eq a1 m2 c3 hb w R ▸ h)
/-! ### IndexFunc: function 39 -/
def IndexFunc.hs : Hints := ⟨[], [(2, [(8, .int .i64)])]⟩
set_option maxRecDepth 100000 in
def IndexFunc.W (a1 : Option Addr) (m2 c3 : Nat) (hb : Nat) (w : World) (R : Value → World → Prop) : Prop :=
 (∃ (I4 : List Value → World → Prop) (μ5 : List Value → World → Nat), I4 [(.int .i64 0)] w ∧ ∀ (j7 : Env) (q8 : List Value) (w6 : World), I4 q8 w6 → ∃ (n9 : Int), q8 = [(.int .i64 n9)] ∧
 (bif (decide (n9 < (m2 : Int))) then
 (∃ b10 f11, a1 = some ⟨b10, f11, none⟩ ∧ 0 ≤ n9 ∧ n9 < (m2 : Int) ∧ (∃ (b12 : Bool) (n13 : Int), cellsAt w6 b10 (f11 + (n9 : Int).toNat * 2) [(.bool b12), (.int .i64 n13)] ∧ (Calls Tryd.prog 38 #[(.agg #[(.bool b12), (.int .i64 n13)]), (.pointer (some ⟨hb, 0, none⟩ : Option Addr))] w6 fun e15 w14 => ∃ (b16 : Bool), e15 = .returned (.bool b16) ∧ (bif b16 then
 (R (.int .i64 n9) w14)
 else
 (I4 [(.int .i64 (IntKind.i64.wrap (n9 + 1)))] w14 ∧ μ5 [(.int .i64 (IntKind.i64.wrap (n9 + 1)))] w14 < μ5 [(.int .i64 n9)] w6)))))
 else
 (R (.int .i64 (-1)) w6)))
set_option maxRecDepth 100000 in
theorem IndexFunc.eq (a1 : Option Addr) (m2 c3 : Nat) (hb : Nat) (w : World) (R : Value → World → Prop) : IndexFunc.W a1 m2 c3 hb w R = fnW Tryd.prog tys fns IndexFunc.hs Tryd.f39 [(.slice a1 m2 c3), (.func (.func 38) #[] #[(.pointer (some ⟨hb, 0, none⟩ : Option Addr))])] w R := by kernel_rfl
theorem IndexFunc.ok : codeOk tys IndexFunc.hs Tryd.f39.ntmps (Tryd.f39.body.getD .skip) = true := by kernel_rfl
theorem IndexFunc.calls {a1 m2 c3 hb w R} (h : IndexFunc.W a1 m2 c3 hb w R) : Calls Tryd.prog 39 ([(.slice a1 m2 c3), (.func (.func 38) #[] #[(.pointer (some ⟨hb, 0, none⟩ : Option Addr))])] : List Value).toArray w fun e w' => ∃ v, e = .returned v ∧ R v w' :=
  fnW_calls tysOk fnsOk follows Tryd.func39 (by kernel_rfl) IndexFunc.ok (by kernel_rfl) (IndexFunc.eq a1 m2 c3 hb w R ▸ h)
/-! ### goodsF: function 38 -/
def goodsF.hs : Hints := ⟨[], []⟩
set_option maxRecDepth 100000 in
def goodsF.W (b1 : Bool) (n2 : Int) (hb : Nat) (w : World) (R : Value → World → Prop) : Prop :=
 (withW (World.alloc w (.cells #[(.bool b1), (.int .i64 n2)] 30)) fun w3 =>
 (∃ (p4 : Option Addr), World.cell? w3 ⟨hb, 0, none⟩ = some (.pointer p4) ∧ (∃ (b5 : Bool) (n6 : Int), cellsAt w3 w.heap.size 0 [(.bool b5), (.int .i64 n6)] ∧ (Calls Tryd.prog 25 #[(.pointer p4), (.agg #[(.bool b5), (.int .i64 n6)])] w3 fun e8 w7 => ∃ (b9 : Bool), e8 = .returned (.bool b9) ∧ (R (.bool (!b9)) w7)))))
set_option maxRecDepth 100000 in
theorem goodsF.eq (b1 : Bool) (n2 : Int) (hb : Nat) (w : World) (R : Value → World → Prop) : goodsF.W b1 n2 hb w R = fnW Tryd.prog tys fns goodsF.hs Tryd.f38 [(.agg #[(.bool b1), (.int .i64 n2)]), (.pointer (some ⟨hb, 0, none⟩ : Option Addr))] w R := by kernel_rfl
theorem goodsF.ok : codeOk tys goodsF.hs Tryd.f38.ntmps (Tryd.f38.body.getD .skip) = true := by kernel_rfl
theorem goodsF.calls {b1 n2 hb w R} (h : goodsF.W b1 n2 hb w R) : Calls Tryd.prog 38 ([(.agg #[(.bool b1), (.int .i64 n2)]), (.pointer (some ⟨hb, 0, none⟩ : Option Addr))] : List Value).toArray w fun e w' => ∃ v, e = .returned v ∧ R v w' :=
  fnW_calls tysOk fnsOk follows Tryd.func38 (by kernel_rfl) goodsF.ok (by kernel_rfl) (goodsF.eq b1 n2 hb w R ▸ h)
/-! ### alive: function 8 -/
def alive.hs : Hints := ⟨[], []⟩
set_option maxRecDepth 100000 in
def alive.W  (w : World) (R : Value → World → Prop) : Prop :=
 (Calls Tryd.prog 9 #[(.int .i64 5)] w fun e2 w1 => ∃ (p3 : Option Addr) (v4 : Value), e2 = .returned (.tuple #[(.pointer p3), v4]) ∧ (∃ r5, IsNil v4 r5 ∧ (bif (!r5) then (R (.bool false) w1) else (bif (Option.isNone p3) then
 (R (.bool false) w1)
 else
 (Calls Tryd.prog 10 #[(.pointer p3), (.int .i64 0), (.slice none 0 0)] w1 fun e7 w6 => ∃ (b8 : Bool) (n9 : Int) (v10 : Value), e7 = .returned (.tuple #[(.agg #[(.bool b8), (.int .i64 n9)]), v10]) ∧ (withW (World.alloc w6 (.cells #[.bool false, .int .i64 0] 30)) fun w11 =>
 (canSt w11 w6.heap.size 0 [(.bool b8), (.int .i64 n9)] ∧ withW (setL w11 w6.heap.size 0 [(.bool b8), (.int .i64 n9)]) fun w12 =>
 (∃ (b13 : Bool) (n14 : Int), cellsAt w12 w6.heap.size 0 [(.bool b13), (.int .i64 n14)] ∧ (withW (World.alloc w12 (.cells #[(.bool b13), (.int .i64 n14), (.bool false), (.int .i64 7)] 30)) fun w15 =>
 (Calls Tryd.prog 10 #[(.pointer p3), (.int .i64 1), (.slice (some ⟨w12.heap.size, 0, none⟩ : Option Addr) 2 2)] w15 fun e17 w16 => ∃ (b18 : Bool) (n19 : Int) (v20 : Value), e17 = .returned (.tuple #[(.agg #[(.bool b18), (.int .i64 n19)]), v20]) ∧ (withW (World.alloc w16 (.cells #[.bool false, .int .i64 0] 30)) fun w21 =>
 (canSt w21 w16.heap.size 0 [(.bool b18), (.int .i64 n19)] ∧ withW (setL w21 w16.heap.size 0 [(.bool b18), (.int .i64 n19)]) fun w22 =>
 (withW (World.alloc w22 (.cells #[(.bool false), (.int .i64 1)] 30)) fun w23 =>
 (Calls Tryd.prog 10 #[(.pointer p3), (.int .i64 0), (.slice (some ⟨w22.heap.size, 0, none⟩ : Option Addr) 1 1)] w23 fun e25 w24 => ∃ (b26 : Bool) (n27 : Int) (v28 : Value), e25 = .returned (.tuple #[(.agg #[(.bool b26), (.int .i64 n27)]), v28]) ∧ (withW (World.alloc w24 (.cells #[.bool false, .int .i64 0] 30)) fun w29 =>
 (canSt w29 w24.heap.size 0 [(.bool b26), (.int .i64 n27)] ∧ withW (setL w29 w24.heap.size 0 [(.bool b26), (.int .i64 n27)]) fun w30 =>
 (∃ (b31 : Bool) (n32 : Int), cellsAt w30 w16.heap.size 0 [(.bool b31), (.int .i64 n32)] ∧ (Calls Tryd.prog 11 #[(.pointer p3), (.agg #[(.bool b31), (.int .i64 n32)])] w30 fun e34 w33 => ∃ (n35 : Int) (a36 : Option Addr) (m37 c38 : Nat) (v39 : Value), e34 = .returned (.tuple #[(.int .i64 n35), (.slice a36 m37 c38), v39]) ∧ (∃ r40, IsNil v10 r40 ∧ (bif r40 then (∃ r41, IsNil v20 r41 ∧ (bif r41 then (∃ (v42 : Value), World.cell? w33 ⟨0, 0, none⟩ = some v42 ∧ (∃ (r43 : Bool), Runs Tryd.prog (semEq .eql 26 (.tmp 56) (.tmp 57) v28 v42) w33 (.bool r43) w33 ∧ (bif r43 then (∃ r44, IsNil v39 r44 ∧ (bif r44 then (Calls Tryd.prog 12 #[(.pointer p3)] w33 fun e46 w45 => ∃ (n47 : Int), e46 = .returned (.int .i64 n47) ∧ (bif (n47 == (4 : Int)) then (bif (n35 == (1 : Int)) then (bif ((m37 : Int) == (2 : Int)) then (∃ b48 f49, a36 = some ⟨b48, f49, none⟩ ∧ 0 ≤ (1 : Int) ∧ (1 : Int) < (m37 : Int) ∧ (∃ (b50 : Bool) (n51 : Int), cellsAt w45 b48 (f49 + 1 * 2) [(.bool b50), (.int .i64 n51)] ∧ (∃ (r52 : Bool), Runs Tryd.prog (semEq .eql 30 (.tmp 81) (.tmp 82) (.agg #[(.bool b50), (.int .i64 n51)]) (.agg #[(.bool false), (.int .i64 7)])) w45 (.bool r52) w45 ∧ (R (.bool r52) w45)))) else (R (.bool false) w45)) else (R (.bool false) w45)) else (R (.bool false) w45))) else (R (.bool false) w33))) else (R (.bool false) w33)))) else (R (.bool false) w33))) else (R (.bool false) w33)))))))))))))))))))))
set_option maxRecDepth 100000 in
theorem alive.eq  (w : World) (R : Value → World → Prop) : alive.W  w R = fnW Tryd.prog tys fns alive.hs Tryd.f8 [] w R := by kernel_rfl
theorem alive.ok : codeOk tys alive.hs Tryd.f8.ntmps (Tryd.f8.body.getD .skip) = true := by kernel_rfl
theorem alive.calls { w R} (h : alive.W  w R) : Calls Tryd.prog 8 ([] : List Value).toArray w fun e w' => ∃ v, e = .returned v ∧ R v w' :=
  fnW_calls tysOk fnsOk follows Tryd.func8 (by kernel_rfl) alive.ok (by kernel_rfl) (alive.eq  w R ▸ h)
/-! ### HeapRoom: function 3 -/
def HeapRoom.hs : Hints := ⟨[], [(9, [(7, .int .i64), (35, .int .i64)])]⟩
set_option maxRecDepth 100000 in
def HeapRoom.W (n1 : Int) (a2 : Option Addr) (m3 c4 : Nat) (w : World) (R : Value → World → Prop) : Prop :=
 (Calls Tryd.prog 8 #[] w fun e6 w5 => ∃ (b7 : Bool), e6 = .returned (.bool b7) ∧ (bif (!b7) then
 (R (.bool false) w5)
 else
 (IntKind.i64 = IntKind.i64 ∧ (200 : Int) ≠ 0 ∧ (IntKind.i64 = IntKind.i64 ∧ (200 : Int) ≠ 0 ∧ (Calls Tryd.prog 9 #[(.int .i64 (Int.tmod (IntKind.i64.wrap ((Int.tmod n1 (200 : Int)) + 200)) (200 : Int)))] w5 fun e9 w8 => ∃ (p10 : Option Addr) (v11 : Value), e9 = .returned (.tuple #[(.pointer p10), v11]) ∧ (∃ r12, IsNil v11 r12 ∧ (bif (!r12) then (R (.bool false) w8) else (bif (Option.isNone p10) then
 (R (.bool false) w8)
 else
 (∃ (I13 : List Value → World → Prop) (μ14 : List Value → World → Nat), I13 [(.int .i64 0), (.int .i64 0)] w8 ∧ ∀ (j16 : Env) (q17 : List Value) (w15 : World), I13 q17 w15 → ∃ (n18 : Int) (n19 : Int), q17 = [(.int .i64 n18), (.int .i64 n19)] ∧
 (bif (decide (n19 < (m3 : Int))) then
 (∃ b20 f21, a2 = some ⟨b20, f21, none⟩ ∧ 0 ≤ n19 ∧ n19 < (m3 : Int) ∧ (∃ (n22 : Int), World.cell? w15 ⟨b20, (f21 + (n19 : Int).toNat * 1), none⟩ = some (.int .i64 n22) ∧ (bif (decide (n19 > (100 : Int))) then
 (Calls Tryd.prog 13 #[(.pointer p10), (.slice none 0 0)] w15 fun e24 w23 => ∃ (v25 : Value), e24 = .returned v25 ∧ (∃ r26, IsNil v25 r26 ∧ (bif r26 then (Calls Tryd.prog 12 #[(.pointer p10)] w23 fun e28 w27 => ∃ (n29 : Int), e28 = .returned (.int .i64 n29) ∧ (bif (n29 == (0 : Int)) then (Calls Tryd.prog 14 #[(.pointer p10)] w27 fun e31 w30 => ∃ (n32 : Int), e31 = .returned (.int .i64 n32) ∧ (R (.bool (n32 == (Int.tmod (IntKind.i64.wrap ((Int.tmod n1 (200 : Int)) + 200)) (200 : Int)))) w30)) else (R (.bool false) w27))) else (R (.bool false) w23))))
 else
 (IntKind.i64 = IntKind.i64 ∧ (9 : Int) ≠ 0 ∧ (IntKind.i64 = IntKind.i64 ∧ (9 : Int) ≠ 0 ∧ (0 ≤ (Int.tmod (IntKind.i64.wrap ((Int.tmod n22 (9 : Int)) + 9)) (9 : Int)) ∧ (Int.tmod (IntKind.i64.wrap ((Int.tmod n22 (9 : Int)) + 9)) (9 : Int)) ≤ (Int.tmod (IntKind.i64.wrap ((Int.tmod n22 (9 : Int)) + 9)) (9 : Int)) ∧ (Int.tmod (IntKind.i64.wrap ((Int.tmod n22 (9 : Int)) + 9)) (9 : Int)) ≤ 140737488355328 ∧ ((16 : Nat) : Int) * (Int.tmod (IntKind.i64.wrap ((Int.tmod n22 (9 : Int)) + 9)) (9 : Int)) ≤ 140737488355328 ∧ withW (World.alloc w15 (.cells (zerosA [.bool false, .int .i64 0] (((Int.tmod (IntKind.i64.wrap ((Int.tmod n22 (9 : Int)) + 9)) (9 : Int)) : Int).toNat)) 30)) fun w33 =>
 (Calls Tryd.prog 10 #[(.pointer p10), (.int .i64 n19), (.slice (some ⟨w15.heap.size, 0, none⟩ : Option Addr) (((Int.tmod (IntKind.i64.wrap ((Int.tmod n22 (9 : Int)) + 9)) (9 : Int)) : Int).toNat) (((Int.tmod (IntKind.i64.wrap ((Int.tmod n22 (9 : Int)) + 9)) (9 : Int)) : Int).toNat))] w33 fun e35 w34 => ∃ (b36 : Bool) (n37 : Int) (v38 : Value), e35 = .returned (.tuple #[(.agg #[(.bool b36), (.int .i64 n37)]), v38]) ∧ (withW (World.alloc w34 (.cells #[.bool false, .int .i64 0] 30)) fun w39 =>
 (canSt w39 w34.heap.size 0 [(.bool b36), (.int .i64 n37)] ∧ withW (setL w39 w34.heap.size 0 [(.bool b36), (.int .i64 n37)]) fun w40 =>
 (∃ r41, IsNil v38 r41 ∧ (bif (!(r41 == (decide ((IntKind.i64.wrap ((IntKind.i64.wrap (n18 + 1)) + (Int.tmod (IntKind.i64.wrap ((Int.tmod n22 (9 : Int)) + 9)) (9 : Int)))) ≤ (Int.tmod (IntKind.i64.wrap ((Int.tmod n1 (200 : Int)) + 200)) (200 : Int)))))) then (R (.bool false) w40) else (∃ r42, IsNil v38 r42 ∧ (bif (!r42) then (∃ (v43 : Value), World.cell? w40 ⟨0, 0, none⟩ = some v43 ∧ (∃ (r44 : Bool), Runs Tryd.prog (semEq .neq 26 (.tmp 67) (.tmp 68) v38 v43) w40 (.bool r44) w40 ∧ (bif r44 then
 (R (.bool false) w40)
 else
 (∃ r45, IsNil v38 r45 ∧ (bif r45 then
 (∃ (b46 : Bool) (n47 : Int), cellsAt w40 w34.heap.size 0 [(.bool b46), (.int .i64 n47)] ∧ (Calls Tryd.prog 11 #[(.pointer p10), (.agg #[(.bool b46), (.int .i64 n47)])] w40 fun e49 w48 => ∃ (n50 : Int) (a51 : Option Addr) (m52 c53 : Nat) (v54 : Value), e49 = .returned (.tuple #[(.int .i64 n50), (.slice a51 m52 c53), v54]) ∧ (∃ r55, IsNil v54 r55 ∧ (bif (!r55) then (R (.bool false) w48) else (bif (n50 != n19) then (R (.bool false) w48) else (bif ((m52 : Int) != (Int.tmod (IntKind.i64.wrap ((Int.tmod n22 (9 : Int)) + 9)) (9 : Int))) then
 (R (.bool false) w48)
 else
 (Calls Tryd.prog 12 #[(.pointer p10)] w48 fun e57 w56 => ∃ (n58 : Int), e57 = .returned (.int .i64 n58) ∧ (bif (n58 != (IntKind.i64.wrap (n18 + (IntKind.i64.wrap (1 + (Int.tmod (IntKind.i64.wrap ((Int.tmod n22 (9 : Int)) + 9)) (9 : Int))))))) then
 (R (.bool false) w56)
 else
 (I13 [(.int .i64 (IntKind.i64.wrap (n18 + (IntKind.i64.wrap (1 + (Int.tmod (IntKind.i64.wrap ((Int.tmod n22 (9 : Int)) + 9)) (9 : Int))))))), (.int .i64 (IntKind.i64.wrap (n19 + 1)))] w56 ∧ μ14 [(.int .i64 (IntKind.i64.wrap (n18 + (IntKind.i64.wrap (1 + (Int.tmod (IntKind.i64.wrap ((Int.tmod n22 (9 : Int)) + 9)) (9 : Int))))))), (.int .i64 (IntKind.i64.wrap (n19 + 1)))] w56 < μ14 [(.int .i64 n18), (.int .i64 n19)] w15)))))))))
 else
 (Calls Tryd.prog 12 #[(.pointer p10)] w40 fun e60 w59 => ∃ (n61 : Int), e60 = .returned (.int .i64 n61) ∧ (bif (n61 != n18) then
 (R (.bool false) w59)
 else
 (I13 [(.int .i64 n18), (.int .i64 (IntKind.i64.wrap (n19 + 1)))] w59 ∧ μ14 [(.int .i64 n18), (.int .i64 (IntKind.i64.wrap (n19 + 1)))] w59 < μ14 [(.int .i64 n18), (.int .i64 n19)] w15)))))))) else (∃ r62, IsNil v38 r62 ∧ (bif r62 then
 (∃ (b63 : Bool) (n64 : Int), cellsAt w40 w34.heap.size 0 [(.bool b63), (.int .i64 n64)] ∧ (Calls Tryd.prog 11 #[(.pointer p10), (.agg #[(.bool b63), (.int .i64 n64)])] w40 fun e66 w65 => ∃ (n67 : Int) (a68 : Option Addr) (m69 c70 : Nat) (v71 : Value), e66 = .returned (.tuple #[(.int .i64 n67), (.slice a68 m69 c70), v71]) ∧ (∃ r72, IsNil v71 r72 ∧ (bif (!r72) then (R (.bool false) w65) else (bif (n67 != n19) then (R (.bool false) w65) else (bif ((m69 : Int) != (Int.tmod (IntKind.i64.wrap ((Int.tmod n22 (9 : Int)) + 9)) (9 : Int))) then
 (R (.bool false) w65)
 else
 (Calls Tryd.prog 12 #[(.pointer p10)] w65 fun e74 w73 => ∃ (n75 : Int), e74 = .returned (.int .i64 n75) ∧ (bif (n75 != (IntKind.i64.wrap (n18 + (IntKind.i64.wrap (1 + (Int.tmod (IntKind.i64.wrap ((Int.tmod n22 (9 : Int)) + 9)) (9 : Int))))))) then
 (R (.bool false) w73)
 else
 (I13 [(.int .i64 (IntKind.i64.wrap (n18 + (IntKind.i64.wrap (1 + (Int.tmod (IntKind.i64.wrap ((Int.tmod n22 (9 : Int)) + 9)) (9 : Int))))))), (.int .i64 (IntKind.i64.wrap (n19 + 1)))] w73 ∧ μ14 [(.int .i64 (IntKind.i64.wrap (n18 + (IntKind.i64.wrap (1 + (Int.tmod (IntKind.i64.wrap ((Int.tmod n22 (9 : Int)) + 9)) (9 : Int))))))), (.int .i64 (IntKind.i64.wrap (n19 + 1)))] w73 < μ14 [(.int .i64 n18), (.int .i64 n19)] w15)))))))))
 else
 (Calls Tryd.prog 12 #[(.pointer p10)] w40 fun e77 w76 => ∃ (n78 : Int), e77 = .returned (.int .i64 n78) ∧ (bif (n78 != n18) then
 (R (.bool false) w76)
 else
 (I13 [(.int .i64 n18), (.int .i64 (IntKind.i64.wrap (n19 + 1)))] w76 ∧ μ14 [(.int .i64 n18), (.int .i64 (IntKind.i64.wrap (n19 + 1)))] w76 < μ14 [(.int .i64 n18), (.int .i64 n19)] w15))))))))))))))))))
 else
 (Calls Tryd.prog 13 #[(.pointer p10), (.slice none 0 0)] w15 fun e80 w79 => ∃ (v81 : Value), e80 = .returned v81 ∧ (∃ r82, IsNil v81 r82 ∧ (bif r82 then (Calls Tryd.prog 12 #[(.pointer p10)] w79 fun e84 w83 => ∃ (n85 : Int), e84 = .returned (.int .i64 n85) ∧ (bif (n85 == (0 : Int)) then (Calls Tryd.prog 14 #[(.pointer p10)] w83 fun e87 w86 => ∃ (n88 : Int), e87 = .returned (.int .i64 n88) ∧ (R (.bool (n88 == (Int.tmod (IntKind.i64.wrap ((Int.tmod n1 (200 : Int)) + 200)) (200 : Int)))) w86)) else (R (.bool false) w83))) else (R (.bool false) w79))))))))))))))
set_option maxRecDepth 100000 in
theorem HeapRoom.eq (n1 : Int) (a2 : Option Addr) (m3 c4 : Nat) (w : World) (R : Value → World → Prop) : HeapRoom.W n1 a2 m3 c4 w R = fnW Tryd.prog tys fns HeapRoom.hs Tryd.f3 [(.int .i64 n1), (.slice a2 m3 c4)] w R := by kernel_rfl
theorem HeapRoom.ok : codeOk tys HeapRoom.hs Tryd.f3.ntmps (Tryd.f3.body.getD .skip) = true := by kernel_rfl
theorem HeapRoom.calls {n1 a2 m3 c4 w R} (h : HeapRoom.W n1 a2 m3 c4 w R) : Calls Tryd.prog 3 ([(.int .i64 n1), (.slice a2 m3 c4)] : List Value).toArray w fun e w' => ∃ v, e = .returned v ∧ R v w' :=
  fnW_calls tysOk fnsOk follows Tryd.func3 (by kernel_rfl) HeapRoom.ok (by kernel_rfl) (HeapRoom.eq n1 a2 m3 c4 w R ▸ h)
/-! ### HeapLists: function 4 -/
def HeapLists.hs : Hints := ⟨[], [(12, [(49, .int .i64)]), (25, [(11, .int .i64)])]⟩
set_option maxRecDepth 100000 in
def HeapLists.W (n1 : Int) (n2 : Int) (w : World) (R : Value → World → Prop) : Prop :=
 (Calls Tryd.prog 8 #[] w fun e4 w3 => ∃ (b5 : Bool), e4 = .returned (.bool b5) ∧ (bif (!b5) then
 (R (.bool false) w3)
 else
 (IntKind.i64 = IntKind.i64 ∧ (199 : Int) ≠ 0 ∧ (IntKind.i64 = IntKind.i64 ∧ (199 : Int) ≠ 0 ∧ (IntKind.i64 = IntKind.i64 ∧ (20 : Int) ≠ 0 ∧ (IntKind.i64 = IntKind.i64 ∧ (20 : Int) ≠ 0 ∧ (Calls Tryd.prog 9 #[(.int .i64 (IntKind.i64.wrap ((IntKind.i64.wrap (3 * (Int.tmod (IntKind.i64.wrap ((Int.tmod n1 (199 : Int)) + 199)) (199 : Int)))) + 40)))] w3 fun e7 w6 => ∃ (p8 : Option Addr) (v9 : Value), e7 = .returned (.tuple #[(.pointer p8), v9]) ∧ (∃ r10, IsNil v9 r10 ∧ (bif (!r10) then (R (.bool false) w6) else (bif (Option.isNone p8) then
 (R (.bool false) w6)
 else
 (Calls Tryd.prog 10 #[(.pointer p8), (.int .i64 0), (.slice none 0 0)] w6 fun e12 w11 => ∃ (b13 : Bool) (n14 : Int) (v15 : Value), e12 = .returned (.tuple #[(.agg #[(.bool b13), (.int .i64 n14)]), v15]) ∧ (withW (World.alloc w11 (.cells #[.bool false, .int .i64 0] 30)) fun w16 =>
 (canSt w16 w11.heap.size 0 [(.bool b13), (.int .i64 n14)] ∧ withW (setL w16 w11.heap.size 0 [(.bool b13), (.int .i64 n14)]) fun w17 =>
 (∃ r18, IsNil v15 r18 ∧ (bif (!r18) then
 (R (.bool false) w17)
 else
 (∃ (I19 : List Value → World → Prop) (μ20 : List Value → World → Nat), I19 [(.int .i64 0)] w17 ∧ ∀ (j22 : Env) (q23 : List Value) (w21 : World), I19 q23 w21 → ∃ (n24 : Int), q23 = [(.int .i64 n24)] ∧
 (bif (decide (n24 < (Int.tmod (IntKind.i64.wrap ((Int.tmod n1 (199 : Int)) + 199)) (199 : Int)))) then
 (withW (World.alloc w21 (.cells #[(.bool false), (.int .i64 n24)] 30)) fun w25 =>
 (Calls Tryd.prog 10 #[(.pointer p8), (.int .i64 7), (.slice (some ⟨w21.heap.size, 0, none⟩ : Option Addr) 1 1)] w25 fun e27 w26 => ∃ (b28 : Bool) (n29 : Int) (v30 : Value), e27 = .returned (.tuple #[(.agg #[(.bool b28), (.int .i64 n29)]), v30]) ∧ (withW (World.alloc w26 (.cells #[.bool false, .int .i64 0] 30)) fun w31 =>
 (canSt w31 w26.heap.size 0 [(.bool b28), (.int .i64 n29)] ∧ withW (setL w31 w26.heap.size 0 [(.bool b28), (.int .i64 n29)]) fun w32 =>
 (∃ r33, IsNil v30 r33 ∧ (bif (!r33) then
 (R (.bool false) w32)
 else
 (∃ (b34 : Bool) (n35 : Int), cellsAt w32 w11.heap.size 0 [(.bool b34), (.int .i64 n35)] ∧ (withW (World.alloc w32 (.cells #[(.bool false), (.int .i64 n24), (.bool b34), (.int .i64 n35)] 30)) fun w36 =>
 (Calls Tryd.prog 10 #[(.pointer p8), (.int .i64 1), (.slice (some ⟨w32.heap.size, 0, none⟩ : Option Addr) 2 2)] w36 fun e38 w37 => ∃ (b39 : Bool) (n40 : Int) (v41 : Value), e38 = .returned (.tuple #[(.agg #[(.bool b39), (.int .i64 n40)]), v41]) ∧ (canSt w37 w11.heap.size 0 [(.bool b39), (.int .i64 n40)] ∧ withW (setL w37 w11.heap.size 0 [(.bool b39), (.int .i64 n40)]) fun w42 =>
 (∃ r43, IsNil v41 r43 ∧ (bif (!r43) then
 (R (.bool false) w42)
 else
 (IntKind.i64 = IntKind.i64 ∧ (IntKind.i64.wrap (1 + (Int.tmod (IntKind.i64.wrap ((Int.tmod n2 (20 : Int)) + 20)) (20 : Int)))) ≠ 0 ∧ (bif ((Int.tmod n24 (IntKind.i64.wrap (1 + (Int.tmod (IntKind.i64.wrap ((Int.tmod n2 (20 : Int)) + 20)) (20 : Int))))) == (0 : Int)) then (withW (World.alloc w42 (.cells #[(.pointer (some ⟨w11.heap.size, 0, none⟩ : Option Addr))] 39)) fun w44 =>
 (Calls Tryd.prog 13 #[(.pointer p8), (.slice (some ⟨w42.heap.size, 0, none⟩ : Option Addr) 1 1)] w44 fun e46 w45 => ∃ (v47 : Value), e46 = .returned v47 ∧ (∃ r48, IsNil v47 r48 ∧ (bif (!r48) then (R (.bool false) w45) else (Calls Tryd.prog 12 #[(.pointer p8)] w45 fun e50 w49 => ∃ (n51 : Int), e50 = .returned (.int .i64 n51) ∧ (bif (n51 != (IntKind.i64.wrap ((IntKind.i64.wrap (3 * (IntKind.i64.wrap (n24 + 1)))) + 1))) then
 (R (.bool false) w49)
 else
 (I19 [(.int .i64 (IntKind.i64.wrap (n24 + 1)))] w49 ∧ μ20 [(.int .i64 (IntKind.i64.wrap (n24 + 1)))] w49 < μ20 [(.int .i64 n24)] w21))))))) else (Calls Tryd.prog 12 #[(.pointer p8)] w42 fun e53 w52 => ∃ (n54 : Int), e53 = .returned (.int .i64 n54) ∧ (Calls Tryd.prog 14 #[(.pointer p8)] w52 fun e56 w55 => ∃ (n57 : Int), e56 = .returned (.int .i64 n57) ∧ (bif (decide ((IntKind.i64.wrap (n54 + 8)) > n57)) then
 (withW (World.alloc w55 (.cells #[(.pointer (some ⟨w11.heap.size, 0, none⟩ : Option Addr))] 39)) fun w58 =>
 (Calls Tryd.prog 13 #[(.pointer p8), (.slice (some ⟨w55.heap.size, 0, none⟩ : Option Addr) 1 1)] w58 fun e60 w59 => ∃ (v61 : Value), e60 = .returned v61 ∧ (∃ r62, IsNil v61 r62 ∧ (bif (!r62) then (R (.bool false) w59) else (Calls Tryd.prog 12 #[(.pointer p8)] w59 fun e64 w63 => ∃ (n65 : Int), e64 = .returned (.int .i64 n65) ∧ (bif (n65 != (IntKind.i64.wrap ((IntKind.i64.wrap (3 * (IntKind.i64.wrap (n24 + 1)))) + 1))) then
 (R (.bool false) w63)
 else
 (I19 [(.int .i64 (IntKind.i64.wrap (n24 + 1)))] w63 ∧ μ20 [(.int .i64 (IntKind.i64.wrap (n24 + 1)))] w63 < μ20 [(.int .i64 n24)] w21)))))))
 else
 (I19 [(.int .i64 (IntKind.i64.wrap (n24 + 1)))] w55 ∧ μ20 [(.int .i64 (IntKind.i64.wrap (n24 + 1)))] w55 < μ20 [(.int .i64 n24)] w21))))))))))))))))))
 else
 (∃ (I66 : List Value → World → Prop) (μ67 : List Value → World → Nat), I66 [(.int .i64 (IntKind.i64.wrap ((Int.tmod (IntKind.i64.wrap ((Int.tmod n1 (199 : Int)) + 199)) (199 : Int)) - 1)))] w21 ∧ ∀ (j69 : Env) (q70 : List Value) (w68 : World), I66 q70 w68 → ∃ (n71 : Int), q70 = [(.int .i64 n71)] ∧
 (bif (decide (n71 ≥ (0 : Int))) then
 (∃ (b72 : Bool) (n73 : Int), cellsAt w68 w11.heap.size 0 [(.bool b72), (.int .i64 n73)] ∧ (Calls Tryd.prog 11 #[(.pointer p8), (.agg #[(.bool b72), (.int .i64 n73)])] w68 fun e75 w74 => ∃ (n76 : Int) (a77 : Option Addr) (m78 c79 : Nat) (v80 : Value), e75 = .returned (.tuple #[(.int .i64 n76), (.slice a77 m78 c79), v80]) ∧ (∃ r81, IsNil v80 r81 ∧ (bif (!r81) then (R (.bool false) w74) else (bif (n76 != (1 : Int)) then (R (.bool false) w74) else (bif ((m78 : Int) != (2 : Int)) then (R (.bool false) w74) else (∃ b82 f83, a77 = some ⟨b82, f83, none⟩ ∧ 0 ≤ (0 : Int) ∧ (0 : Int) < (m78 : Int) ∧ (∃ (b84 : Bool) (n85 : Int), cellsAt w74 b82 (f83 + 0 * 2) [(.bool b84), (.int .i64 n85)] ∧ (∃ (r86 : Bool), Runs Tryd.prog (semEq .neq 30 (.tmp 126) (.tmp 128) (.agg #[(.bool b84), (.int .i64 n85)]) (.agg #[(.bool false), (.int .i64 n71)])) w74 (.bool r86) w74 ∧ (bif r86 then
 (R (.bool false) w74)
 else
 (∃ b87 f88, a77 = some ⟨b87, f88, none⟩ ∧ 0 ≤ (1 : Int) ∧ (1 : Int) < (m78 : Int) ∧ (∃ (b89 : Bool) (n90 : Int), cellsAt w74 b87 (f88 + 1 * 2) [(.bool b89), (.int .i64 n90)] ∧ (canSt w74 w11.heap.size 0 [(.bool b89), (.int .i64 n90)] ∧ withW (setL w74 w11.heap.size 0 [(.bool b89), (.int .i64 n90)]) fun w91 =>
 (I66 [(.int .i64 (IntKind.i64.wrap (n71 - 1)))] w91 ∧ μ67 [(.int .i64 (IntKind.i64.wrap (n71 - 1)))] w91 < μ67 [(.int .i64 n71)] w68))))))))))))))
 else
 (∃ (b92 : Bool) (n93 : Int), cellsAt w68 w11.heap.size 0 [(.bool b92), (.int .i64 n93)] ∧ (Calls Tryd.prog 11 #[(.pointer p8), (.agg #[(.bool b92), (.int .i64 n93)])] w68 fun e95 w94 => ∃ (n96 : Int) (a97 : Option Addr) (m98 c99 : Nat) (v100 : Value), e95 = .returned (.tuple #[(.int .i64 n96), (.slice a97 m98 c99), v100]) ∧ (∃ r101, IsNil v100 r101 ∧ (bif r101 then (bif (n96 == (0 : Int)) then (R (.bool ((m98 : Int) == (0 : Int))) w94) else (R (.bool false) w94)) else (R (.bool false) w94))))))))))))))))))))))))
set_option maxRecDepth 100000 in
theorem HeapLists.eq (n1 : Int) (n2 : Int) (w : World) (R : Value → World → Prop) : HeapLists.W n1 n2 w R = fnW Tryd.prog tys fns HeapLists.hs Tryd.f4 [(.int .i64 n1), (.int .i64 n2)] w R := by kernel_rfl
theorem HeapLists.ok : codeOk tys HeapLists.hs Tryd.f4.ntmps (Tryd.f4.body.getD .skip) = true := by kernel_rfl
theorem HeapLists.calls {n1 n2 w R} (h : HeapLists.W n1 n2 w R) : Calls Tryd.prog 4 ([(.int .i64 n1), (.int .i64 n2)] : List Value).toArray w fun e w' => ∃ v, e = .returned v ∧ R v w' :=
  fnW_calls tysOk fnsOk follows Tryd.func4 (by kernel_rfl) HeapLists.ok (by kernel_rfl) (HeapLists.eq n1 n2 w R ▸ h)
end Go.Proofs.YtfenhbjamohdgaaDoor.Vf
end
