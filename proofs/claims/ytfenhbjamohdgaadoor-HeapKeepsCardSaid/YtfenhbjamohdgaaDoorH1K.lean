/- Forms of the functions of this seat, as the executor has them, each tied to the model by the kernel. -/
import Derived.Test.YtfenhbjamohdgaaDoorVxG
import Derived.Test.YtfenhbjamohdgaaDoorProg
set_option linter.unusedVariables false
namespace Go.Proofs.YtfenhbjamohdgaaDoor.Vg
open Go.Vx
def tys : Tys := [(3, ⟨(.int .i64), 1, 8, [.int .i64 0], [.int .i64]⟩),
  (4, ⟨.bool, 1, 1, [.bool false], [.bool]⟩),
  (22, ⟨(.sl 3), 1, 24, [.slice none 0 0], [.sl]⟩),
  (24, ⟨(.ptr 76), 1, 8, [.pointer none], [.ptr]⟩),
  (26, ⟨.iface, 1, 16, [.nilIface], [.any]⟩),
  (30, ⟨(.agg [(0, 4), (1, 3)]), 2, 16, [.bool false, .int .i64 0], [.bool, .int .i64]⟩),
  (33, ⟨(.sl 30), 1, 24, [.slice none 0 0], [.sl]⟩),
  (39, ⟨(.ptr 30), 1, 8, [.pointer none], [.ptr]⟩),
  (41, ⟨(.sl 45), 1, 24, [.slice none 0 0], [.sl]⟩),
  (42, ⟨(.arr 8 30), 16, 128, [.bool false, .int .i64 0, .bool false, .int .i64 0, .bool false, .int .i64 0, .bool false, .int .i64 0, .bool false, .int .i64 0, .bool false, .int .i64 0, .bool false, .int .i64 0, .bool false, .int .i64 0], [.bool, .int .i64, .bool, .int .i64, .bool, .int .i64, .bool, .int .i64, .bool, .int .i64, .bool, .int .i64, .bool, .int .i64, .bool, .int .i64]⟩),
  (43, ⟨(.sl 47), 1, 24, [.slice none 0 0], [.sl]⟩),
  (45, ⟨(.agg [(0, 3), (1, 3), (2, 3), (3, 43), (4, 22)]), 5, 72, [.int .i64 0, .int .i64 0, .int .i64 0, .slice none 0 0, .slice none 0 0], [.int .i64, .int .i64, .int .i64, .sl, .sl]⟩),
  (47, ⟨(.agg [(0, 4), (1, 3)]), 2, 16, [.bool false, .int .i64 0], [.bool, .int .i64]⟩),
  (50, ⟨(.sl 39), 1, 24, [.slice none 0 0], [.sl]⟩),
  (74, ⟨(.sl 84), 1, 24, [.slice none 0 0], [.sl]⟩),
  (76, ⟨(.agg [(0, 74), (1, 3)]), 2, 32, [.slice none 0 0, .int .i64 0], [.sl, .int .i64]⟩),
  (78, ⟨(.ptr 80), 1, 8, [.pointer none], [.ptr]⟩),
  (80, ⟨(.agg [(0, 3), (1, 3), (2, 3), (3, 3), (4, 3)]), 5, 40, [.int .i64 0, .int .i64 0, .int .i64 0, .int .i64 0, .int .i64 0], [.int .i64, .int .i64, .int .i64, .int .i64, .int .i64]⟩),
  (84, ⟨(.agg [(0, 30), (2, 78)]), 3, 24, [.bool false, .int .i64 0, .pointer none], [.bool, .int .i64, .ptr]⟩)]
theorem ty3 : Ty.Ok Tryd.prog 3 ⟨(.int .i64), 1, 8, [.int .i64 0], [.int .i64]⟩ := ⟨Tryd.underlying3, by kernel_rfl, by kernel_rfl, rfl⟩
theorem ty4 : Ty.Ok Tryd.prog 4 ⟨.bool, 1, 1, [.bool false], [.bool]⟩ := ⟨Tryd.underlying4, by kernel_rfl, by kernel_rfl, rfl⟩
theorem ty22 : Ty.Ok Tryd.prog 22 ⟨(.sl 3), 1, 24, [.slice none 0 0], [.sl]⟩ := ⟨Tryd.underlying22, by kernel_rfl, by kernel_rfl, rfl⟩
theorem ty24 : Ty.Ok Tryd.prog 24 ⟨(.ptr 76), 1, 8, [.pointer none], [.ptr]⟩ := ⟨Tryd.underlying24, by kernel_rfl, by kernel_rfl, rfl⟩
theorem ty26 : Ty.Ok Tryd.prog 26 ⟨.iface, 1, 16, [.nilIface], [.any]⟩ := ⟨⟨_, Tryd.underlying26⟩, by kernel_rfl, by kernel_rfl, rfl⟩
theorem ty30 : Ty.Ok Tryd.prog 30 ⟨(.agg [(0, 4), (1, 3)]), 2, 16, [.bool false, .int .i64 0], [.bool, .int .i64]⟩ := ⟨⟨_, Tryd.underlying30, rfl⟩, by kernel_rfl, by kernel_rfl, rfl⟩
theorem ty33 : Ty.Ok Tryd.prog 33 ⟨(.sl 30), 1, 24, [.slice none 0 0], [.sl]⟩ := ⟨Tryd.underlying33, by kernel_rfl, by kernel_rfl, rfl⟩
theorem ty39 : Ty.Ok Tryd.prog 39 ⟨(.ptr 30), 1, 8, [.pointer none], [.ptr]⟩ := ⟨Tryd.underlying39, by kernel_rfl, by kernel_rfl, rfl⟩
theorem ty41 : Ty.Ok Tryd.prog 41 ⟨(.sl 45), 1, 24, [.slice none 0 0], [.sl]⟩ := ⟨Tryd.underlying41, by kernel_rfl, by kernel_rfl, rfl⟩
theorem ty42 : Ty.Ok Tryd.prog 42 ⟨(.arr 8 30), 16, 128, [.bool false, .int .i64 0, .bool false, .int .i64 0, .bool false, .int .i64 0, .bool false, .int .i64 0, .bool false, .int .i64 0, .bool false, .int .i64 0, .bool false, .int .i64 0, .bool false, .int .i64 0], [.bool, .int .i64, .bool, .int .i64, .bool, .int .i64, .bool, .int .i64, .bool, .int .i64, .bool, .int .i64, .bool, .int .i64, .bool, .int .i64]⟩ := ⟨Tryd.underlying42, by kernel_rfl, by kernel_rfl, rfl⟩
theorem ty43 : Ty.Ok Tryd.prog 43 ⟨(.sl 47), 1, 24, [.slice none 0 0], [.sl]⟩ := ⟨Tryd.underlying43, by kernel_rfl, by kernel_rfl, rfl⟩
theorem ty45 : Ty.Ok Tryd.prog 45 ⟨(.agg [(0, 3), (1, 3), (2, 3), (3, 43), (4, 22)]), 5, 72, [.int .i64 0, .int .i64 0, .int .i64 0, .slice none 0 0, .slice none 0 0], [.int .i64, .int .i64, .int .i64, .sl, .sl]⟩ := ⟨⟨_, Tryd.underlying45, rfl⟩, by kernel_rfl, by kernel_rfl, rfl⟩
theorem ty47 : Ty.Ok Tryd.prog 47 ⟨(.agg [(0, 4), (1, 3)]), 2, 16, [.bool false, .int .i64 0], [.bool, .int .i64]⟩ := ⟨⟨_, Tryd.underlying47, rfl⟩, by kernel_rfl, by kernel_rfl, rfl⟩
theorem ty50 : Ty.Ok Tryd.prog 50 ⟨(.sl 39), 1, 24, [.slice none 0 0], [.sl]⟩ := ⟨Tryd.underlying50, by kernel_rfl, by kernel_rfl, rfl⟩
theorem ty74 : Ty.Ok Tryd.prog 74 ⟨(.sl 84), 1, 24, [.slice none 0 0], [.sl]⟩ := ⟨Tryd.underlying74, by kernel_rfl, by kernel_rfl, rfl⟩
theorem ty76 : Ty.Ok Tryd.prog 76 ⟨(.agg [(0, 74), (1, 3)]), 2, 32, [.slice none 0 0, .int .i64 0], [.sl, .int .i64]⟩ := ⟨⟨_, Tryd.underlying76, rfl⟩, by kernel_rfl, by kernel_rfl, rfl⟩
theorem ty78 : Ty.Ok Tryd.prog 78 ⟨(.ptr 80), 1, 8, [.pointer none], [.ptr]⟩ := ⟨Tryd.underlying78, by kernel_rfl, by kernel_rfl, rfl⟩
theorem ty80 : Ty.Ok Tryd.prog 80 ⟨(.agg [(0, 3), (1, 3), (2, 3), (3, 3), (4, 3)]), 5, 40, [.int .i64 0, .int .i64 0, .int .i64 0, .int .i64 0, .int .i64 0], [.int .i64, .int .i64, .int .i64, .int .i64, .int .i64]⟩ := ⟨⟨_, Tryd.underlying80, rfl⟩, by kernel_rfl, by kernel_rfl, rfl⟩
theorem ty84 : Ty.Ok Tryd.prog 84 ⟨(.agg [(0, 30), (2, 78)]), 3, 24, [.bool false, .int .i64 0, .pointer none], [.bool, .int .i64, .ptr]⟩ := ⟨⟨_, Tryd.underlying84, rfl⟩, by kernel_rfl, by kernel_rfl, rfl⟩
theorem tysOk : AllOk Tryd.prog tys := ⟨ty3, ty4, ty22, ty24, ty26, ty30, ty33, ty39, ty41, ty42, ty43, ty45, ty47, ty50, ty74, ty76, ty78, ty80, ty84, trivial⟩
def fns : Fns := [(8, [4]), (9, [24, 26]), (10, [30, 26]), (12, [3]), (13, [26]), (15, [3, 26]), (23, [4]), (26, [74]), (28, [33])]
theorem fnOk8 : ∃ fn, Tryd.prog.funcs[8]? = some fn ∧ (fn.name == "runtime.NumGoroutine") = false ∧ fn.body.isNone = false := ⟨_, Tryd.func8, by kernel_rfl, by kernel_rfl⟩
theorem fnOk9 : ∃ fn, Tryd.prog.funcs[9]? = some fn ∧ (fn.name == "runtime.NumGoroutine") = false ∧ fn.body.isNone = false := ⟨_, Tryd.func9, by kernel_rfl, by kernel_rfl⟩
theorem fnOk10 : ∃ fn, Tryd.prog.funcs[10]? = some fn ∧ (fn.name == "runtime.NumGoroutine") = false ∧ fn.body.isNone = false := ⟨_, Tryd.func10, by kernel_rfl, by kernel_rfl⟩
theorem fnOk12 : ∃ fn, Tryd.prog.funcs[12]? = some fn ∧ (fn.name == "runtime.NumGoroutine") = false ∧ fn.body.isNone = false := ⟨_, Tryd.func12, by kernel_rfl, by kernel_rfl⟩
theorem fnOk13 : ∃ fn, Tryd.prog.funcs[13]? = some fn ∧ (fn.name == "runtime.NumGoroutine") = false ∧ fn.body.isNone = false := ⟨_, Tryd.func13, by kernel_rfl, by kernel_rfl⟩
theorem fnOk15 : ∃ fn, Tryd.prog.funcs[15]? = some fn ∧ (fn.name == "runtime.NumGoroutine") = false ∧ fn.body.isNone = false := ⟨_, Tryd.func15, by kernel_rfl, by kernel_rfl⟩
theorem fnOk23 : ∃ fn, Tryd.prog.funcs[23]? = some fn ∧ (fn.name == "runtime.NumGoroutine") = false ∧ fn.body.isNone = false := ⟨_, Tryd.func23, by kernel_rfl, by kernel_rfl⟩
theorem fnOk26 : ∃ fn, Tryd.prog.funcs[26]? = some fn ∧ (fn.name == "runtime.NumGoroutine") = false ∧ fn.body.isNone = false := ⟨_, Tryd.func26, by kernel_rfl, by kernel_rfl⟩
theorem fnOk28 : ∃ fn, Tryd.prog.funcs[28]? = some fn ∧ (fn.name == "runtime.NumGoroutine") = false ∧ fn.body.isNone = false := ⟨_, Tryd.func28, by kernel_rfl, by kernel_rfl⟩
theorem fnsOk : FnsOk Tryd.prog fns := ⟨fnOk8, fnOk9, fnOk10, fnOk12, fnOk13, fnOk15, fnOk23, fnOk26, fnOk28, trivial⟩
theorem follows : Tryd.prog.follows .mixedOrders = true := by kernel_rfl
/-! ### Reach: function 15 -/
def Reach.hs : Hints := ⟨[(2, [0, 1, 2]), (11, [0, 1, 2, 3, 4, 5, 6, 7, 8, 9, 10, 11, 12, 13, 14])], [(6, [(7, .int .i64), (8, .sl)]), (13, [(8, .sl), (65, .int .i64)])]⟩
set_option maxRecDepth 100000 in
def Reach.W (p0b p0o : Nat) (a1 : Option Addr) (m2 c3 : Nat) (w : World) (R : Value → World → Prop) : Prop :=
 (Calls Tryd.prog 23 #[(.pointer (some ⟨p0b, p0o, none⟩ : Option Addr)), (.slice a1 m2 c3)] w fun e5 w4 => ∃ (b6 : Bool), e5 = .returned (.bool b6) ∧ (bif (!b6) then
 (withW (World.drew w4) fun w7 =>
 (∃ (v8 : Value), World.cell? w7 ⟨1, 0, none⟩ = some v8 ∧ (R (.tuple #[(.int .i64 0), v8]) w7)))
 else
 (withW (World.alloc w4 (.map #[] 0)) fun w9 =>
 (Calls Tryd.prog 28 #[(.slice a1 m2 c3)] w9 fun e11 w10 => ∃ (a12 : Option Addr) (m13 c14 : Nat), e11 = .returned (.slice a12 m13 c14) ∧ (∃ (I15 : List Value → World → Prop) (μ16 : List Value → World → Nat), I15 [(.int .i64 0), (.slice a12 m13 c14)] w10 ∧ ∀ (j18 : Env) (q19 : List Value) (w17 : World), I15 q19 w17 → ∃ (n20 : Int) (a21 : Option Addr) (m22 c23 : Nat), q19 = [(.int .i64 n20), (.slice a21 m22 c23)] ∧
 (bif (decide ((m22 : Int) > (0 : Int))) then
 (∃ b24 f25, a21 = some ⟨b24, f25, none⟩ ∧ 0 ≤ (IntKind.i64.wrap ((m22 : Int) - 1)) ∧ (IntKind.i64.wrap ((m22 : Int) - 1)) < (m22 : Int) ∧ (∃ (b26 : Bool) (n27 : Int), cellsAt w17 b24 (f25 + ((IntKind.i64.wrap ((m22 : Int) - 1)) : Int).toNat * 2) [(.bool b26), (.int .i64 n27)] ∧ (withW (World.alloc w17 (.cells #[.bool false, .int .i64 0] 30)) fun w28 =>
 (canSt w28 w17.heap.size 0 [(.bool b26), (.int .i64 n27)] ∧ withW (setL w28 w17.heap.size 0 [(.bool b26), (.int .i64 n27)]) fun w29 =>
 (0 ≤ (IntKind.i64.wrap ((m22 : Int) - 1)) ∧ (IntKind.i64.wrap ((m22 : Int) - 1)) ≤ (c23 : Int) ∧ (∃ (b30 : Bool), World.cell? w29 ⟨w17.heap.size, 0, none⟩ = some (.bool b30) ∧ (bif (!b30) then (I15 [(.int .i64 n20), (.slice (cutA a21 0 c23 2) (((IntKind.i64.wrap ((m22 : Int) - 1)) : Int).toNat) c23)] w29 ∧ μ16 [(.int .i64 n20), (.slice (cutA a21 0 c23 2) (((IntKind.i64.wrap ((m22 : Int) - 1)) : Int).toNat) c23)] w29 < μ16 [(.int .i64 n20), (.slice a21 m22 c23)] w17) else (∃ (n31 : Int), World.cell? w29 ⟨w17.heap.size, 1, none⟩ = some (.int .i64 n31) ∧ (∃ (b32 : Bool), Runs Tryd.prog (Instr.lookup 92 (.map (some w4.heap.size)) (.int .i64 n31) false) w29 (.bool b32) w29 ∧ (bif b32 then
 (I15 [(.int .i64 n20), (.slice (cutA a21 0 c23 2) (((IntKind.i64.wrap ((m22 : Int) - 1)) : Int).toNat) c23)] w29 ∧ μ16 [(.int .i64 n20), (.slice (cutA a21 0 c23 2) (((IntKind.i64.wrap ((m22 : Int) - 1)) : Int).toNat) c23)] w29 < μ16 [(.int .i64 n20), (.slice a21 m22 c23)] w17)
 else
 (∃ (n33 : Int), World.cell? w29 ⟨w17.heap.size, 1, none⟩ = some (.int .i64 n33) ∧ (∃ w34, Runs Tryd.prog (Instr.mapUpdate 92 (.map (some w4.heap.size)) (.int .i64 n33) (.bool true)) w29 () w34 ∧ (withW (World.drew w34) fun w35 =>
 (∃ b36 f37, (some ⟨p0b, p0o, none⟩ : Option Addr) = some ⟨b36, f37, none⟩ ∧ (∃ (a38 : Option Addr) (m39 c40 : Nat), World.cell? w35 ⟨b36, f37, none⟩ = some (.slice a38 m39 c40) ∧ (∃ (n41 : Int), World.cell? w35 ⟨w17.heap.size, 1, none⟩ = some (.int .i64 n41) ∧ (∃ b42 f43, a38 = some ⟨b42, f43, none⟩ ∧ 0 ≤ n41 ∧ n41 < (m39 : Int) ∧ (∃ (p44 : Option Addr), World.cell? w35 ⟨b42, ((f43 + (n41 : Int).toNat * 3) + 2), none⟩ = some (.pointer p44) ∧ (∃ b45 f46, p44 = some ⟨b45, f46, none⟩ ∧ (∃ (n47 : Int), World.cell? w35 ⟨b45, (f46 + 1), none⟩ = some (.int .i64 n47) ∧ (∃ (n48 : Int), World.cell? w35 ⟨w17.heap.size, 1, none⟩ = some (.int .i64 n48) ∧ (Calls Tryd.prog 26 #[(.pointer (some ⟨p0b, p0o, none⟩ : Option Addr)), (.int .i64 n48)] w35 fun e50 w49 => ∃ (a51 : Option Addr) (m52 c53 : Nat), e50 = .returned (.slice a51 m52 c53) ∧ (∃ (I54 : List Value → World → Prop) (μ55 : List Value → World → Nat), I54 [(.slice (cutA a21 0 c23 2) (((IntKind.i64.wrap ((m22 : Int) - 1)) : Int).toNat) c23), (.int .i64 0)] w49 ∧ ∀ (j57 : Env) (q58 : List Value) (w56 : World), I54 q58 w56 → ∃ (a59 : Option Addr) (m60 c61 : Nat) (n62 : Int), q58 = [(.slice a59 m60 c61), (.int .i64 n62)] ∧
 (bif (decide (n62 < (m52 : Int))) then
 (∃ b63 f64, a51 = some ⟨b63, f64, none⟩ ∧ 0 ≤ n62 ∧ n62 < (m52 : Int) ∧ (∃ (b65 : Bool) (n66 : Int) (p67 : Option Addr), cellsAt w56 b63 (f64 + (n62 : Int).toNat * 3) [(.bool b65), (.int .i64 n66), (.pointer p67)] ∧ (withW (World.alloc w56 (.cells #[.bool false, .int .i64 0, .pointer none] 84)) fun w68 =>
 (canSt w68 w56.heap.size 0 [(.bool b65), (.int .i64 n66), (.pointer p67)] ∧ withW (setL w68 w56.heap.size 0 [(.bool b65), (.int .i64 n66), (.pointer p67)]) fun w69 =>
 (∃ (b70 : Bool) (n71 : Int), cellsAt w69 w56.heap.size 0 [(.bool b70), (.int .i64 n71)] ∧ (withW (World.alloc w69 (.cells #[(.bool b70), (.int .i64 n71)] 30)) fun w72 =>
 (∃ (a73 : Option Addr) (m74 c75 : Nat) (w76 : World), Runs Tryd.prog (Builtin.append_ #[33, 33] 33 #[(.slice a59 m60 c61), (.slice (some ⟨w69.heap.size, 0, none⟩ : Option Addr) 1 1)]) w72 (.slice a73 m74 c75) w76 ∧ (I54 [(.slice a73 m74 c75), (.int .i64 (IntKind.i64.wrap (n62 + 1)))] w76 ∧ μ55 [(.slice a73 m74 c75), (.int .i64 (IntKind.i64.wrap (n62 + 1)))] w76 < μ55 [(.slice a59 m60 c61), (.int .i64 n62)] w56))))))))
 else
 (I15 [(.int .i64 (IntKind.i64.wrap (n20 + n47))), (.slice a59 m60 c61)] w56 ∧ μ16 [(.int .i64 (IntKind.i64.wrap (n20 + n47))), (.slice a59 m60 c61)] w56 < μ16 [(.int .i64 n20), (.slice a21 m22 c23)] w17)))))))))))))))))))))))))
 else
 (R (.tuple #[(.int .i64 n20), .nilIface]) w17)))))))
set_option maxRecDepth 100000 in
theorem Reach.eq (p0b p0o : Nat) (a1 : Option Addr) (m2 c3 : Nat) (w : World) (R : Value → World → Prop) : Reach.W p0b p0o a1 m2 c3 w R = fnW Tryd.prog tys fns Reach.hs Tryd.f15 [(.pointer (some ⟨p0b, p0o, none⟩ : Option Addr)), (.slice a1 m2 c3)] w R := by kernel_rfl
theorem Reach.ok : codeOk tys Reach.hs Tryd.f15.ntmps (Tryd.f15.body.getD .skip) = true := by kernel_rfl
theorem Reach.calls {p0b p0o a1 m2 c3 w R} (h : Reach.W p0b p0o a1 m2 c3 w R) : Calls Tryd.prog 15 ([(.pointer (some ⟨p0b, p0o, none⟩ : Option Addr)), (.slice a1 m2 c3)] : List Value).toArray w fun e w' => ∃ v, e = .returned v ∧ R v w' :=
  fnW_calls tysOk fnsOk follows Tryd.func15 (by kernel_rfl) Reach.ok (by kernel_rfl) (Reach.eq p0b p0o a1 m2 c3 w R ▸ h)
/-! ### Clone: function 28 -/
def Clone.hs : Hints := ⟨[], []⟩
set_option maxRecDepth 100000 in
def Clone.W (a1 : Option Addr) (m2 c3 : Nat) (w : World) (R : Value → World → Prop) : Prop :=
 (bif (Option.isNone a1) then
 (R (.slice none 0 0) w)
 else
 (withW (World.alloc w (.cells #[] 30)) fun w4 =>
 (∃ (a5 : Option Addr) (m6 c7 : Nat) (w8 : World), Runs Tryd.prog (Builtin.append_ #[33, 33] 33 #[(.slice (some ⟨w.heap.size, 0, none⟩ : Option Addr) 0 0), (.slice a1 m2 c3)]) w4 (.slice a5 m6 c7) w8 ∧ (R (.slice a5 m6 c7) w8))))
set_option maxRecDepth 100000 in
theorem Clone.eq (a1 : Option Addr) (m2 c3 : Nat) (w : World) (R : Value → World → Prop) : Clone.W a1 m2 c3 w R = fnW Tryd.prog tys fns Clone.hs Tryd.f28 [(.slice a1 m2 c3)] w R := by kernel_rfl
theorem Clone.ok : codeOk tys Clone.hs Tryd.f28.ntmps (Tryd.f28.body.getD .skip) = true := by kernel_rfl
theorem Clone.calls {a1 m2 c3 w R} (h : Clone.W a1 m2 c3 w R) : Calls Tryd.prog 28 ([(.slice a1 m2 c3)] : List Value).toArray w fun e w' => ∃ v, e = .returned v ∧ R v w' :=
  fnW_calls tysOk fnsOk follows Tryd.func28 (by kernel_rfl) Clone.ok (by kernel_rfl) (Clone.eq a1 m2 c3 w R ▸ h)
/-! ### HeapKeeps: function 5 -/
def HeapKeeps.hs : Hints := ⟨[], [(8, [(41, .int .i64)]), (13, [(10, .sl), (58, .int .i64)]), (25, [(15, .sl), (98, .int .i64)]), (33, [(20, .sl), (122, .int .i64)])]⟩
set_option maxRecDepth 100000 in
def HeapKeeps.W (a1 : Option Addr) (m2 c3 : Nat) (a4 : Option Addr) (m5 c6 : Nat) (w : World) (R : Value → World → Prop) : Prop :=
 (Calls Tryd.prog 8 #[] w fun e8 w7 => ∃ (b9 : Bool), e8 = .returned (.bool b9) ∧ (bif (!b9) then
 (R (.bool false) w7)
 else
 (Calls Tryd.prog 9 #[(.int .i64 5000)] w7 fun e11 w10 => ∃ (p12 : Option Addr) (v13 : Value), e11 = .returned (.tuple #[(.pointer p12), v13]) ∧ (∃ r14, IsNil v13 r14 ∧ (bif (!r14) then (R (.bool false) w10) else (bif (Option.isNone p12) then
 (R (.bool false) w10)
 else
 (withW (World.alloc w10 (.cells #[.bool false, .int .i64 0, .bool false, .int .i64 0, .bool false, .int .i64 0, .bool false, .int .i64 0, .bool false, .int .i64 0, .bool false, .int .i64 0, .bool false, .int .i64 0, .bool false, .int .i64 0] 42)) fun w15 =>
 (∃ (I16 : List Value → World → Prop) (μ17 : List Value → World → Nat), I16 [(.int .i64 0)] w15 ∧ ∀ (j19 : Env) (q20 : List Value) (w18 : World), I16 q20 w18 → ∃ (n21 : Int), q20 = [(.int .i64 n21)] ∧
 (bif (decide (n21 < (m2 : Int))) then
 (∃ b22 f23, a1 = some ⟨b22, f23, none⟩ ∧ 0 ≤ n21 ∧ n21 < (m2 : Int) ∧ (∃ (n24 : Int) (n25 : Int) (n26 : Int) (a27 : Option Addr) (m28 c29 : Nat) (a30 : Option Addr) (m31 c32 : Nat), cellsAt w18 b22 (f23 + (n21 : Int).toNat * 5) [(.int .i64 n24), (.int .i64 n25), (.int .i64 n26), (.slice a27 m28 c29), (.slice a30 m31 c32)] ∧ (withW (World.alloc w18 (.cells #[.int .i64 0, .int .i64 0, .int .i64 0, .slice none 0 0, .slice none 0 0] 45)) fun w33 =>
 (canSt w33 w18.heap.size 0 [(.int .i64 n24), (.int .i64 n25), (.int .i64 n26), (.slice a27 m28 c29), (.slice a30 m31 c32)] ∧ withW (setL w33 w18.heap.size 0 [(.int .i64 n24), (.int .i64 n25), (.int .i64 n26), (.slice a27 m28 c29), (.slice a30 m31 c32)]) fun w34 =>
 (bif (decide (n21 > (200 : Int))) then (withW (World.alloc w34 (.cells #[] 30)) fun w35 =>
 (∃ (I36 : List Value → World → Prop) (μ37 : List Value → World → Nat), I36 [(.slice (some ⟨w34.heap.size, 0, none⟩ : Option Addr) 0 0), (.int .i64 0)] w35 ∧ ∀ (j39 : Env) (q40 : List Value) (w38 : World), I36 q40 w38 → ∃ (a41 : Option Addr) (m42 c43 : Nat) (n44 : Int), q40 = [(.slice a41 m42 c43), (.int .i64 n44)] ∧
 (bif (decide (n44 < (m5 : Int))) then
 (∃ b45 f46, a4 = some ⟨b45, f46, none⟩ ∧ 0 ≤ n44 ∧ n44 < (m5 : Int) ∧ (∃ (n47 : Int), World.cell? w38 ⟨b45, (f46 + (n44 : Int).toNat * 1), none⟩ = some (.int .i64 n47) ∧ (bif (decide (n44 < (20 : Int))) then
 (0 ≤ (IntKind.i64.wrap ((BitVec.ofInt IntKind.i64.bits n47 &&& BitVec.ofInt IntKind.i64.bits (7 : Int))).toNat) ∧ (IntKind.i64.wrap ((BitVec.ofInt IntKind.i64.bits n47 &&& BitVec.ofInt IntKind.i64.bits (7 : Int))).toNat) < ((8 : Nat) : Int) ∧ (∃ (b48 : Bool) (n49 : Int), cellsAt w38 w10.heap.size (0 + ((IntKind.i64.wrap ((BitVec.ofInt IntKind.i64.bits n47 &&& BitVec.ofInt IntKind.i64.bits (7 : Int))).toNat) : Int).toNat * 2) [(.bool b48), (.int .i64 n49)] ∧ (withW (World.alloc w38 (.cells #[(.bool b48), (.int .i64 n49)] 30)) fun w50 =>
 (∃ (a51 : Option Addr) (m52 c53 : Nat) (w54 : World), Runs Tryd.prog (Builtin.append_ #[33, 33] 33 #[(.slice a41 m42 c43), (.slice (some ⟨w38.heap.size, 0, none⟩ : Option Addr) 1 1)]) w50 (.slice a51 m52 c53) w54 ∧ (I36 [(.slice a51 m52 c53), (.int .i64 (IntKind.i64.wrap (n44 + 1)))] w54 ∧ μ37 [(.slice a51 m52 c53), (.int .i64 (IntKind.i64.wrap (n44 + 1)))] w54 < μ37 [(.slice a41 m42 c43), (.int .i64 n44)] w38)))))
 else
 (I36 [(.slice a41 m42 c43), (.int .i64 (IntKind.i64.wrap (n44 + 1)))] w38 ∧ μ37 [(.slice a41 m42 c43), (.int .i64 (IntKind.i64.wrap (n44 + 1)))] w38 < μ37 [(.slice a41 m42 c43), (.int .i64 n44)] w38))))
 else
 (Calls Tryd.prog 15 #[(.pointer p12), (.slice a41 m42 c43)] w38 fun e56 w55 => ∃ (n57 : Int) (v58 : Value), e56 = .returned (.tuple #[(.int .i64 n57), v58]) ∧ (withW (World.alloc w55 (.cells #[] 39)) fun w59 =>
 (∃ (I60 : List Value → World → Prop) (μ61 : List Value → World → Nat), I60 [(.slice (some ⟨w55.heap.size, 0, none⟩ : Option Addr) 0 0), (.int .i64 0)] w59 ∧ ∀ (j63 : Env) (q64 : List Value) (w62 : World), I60 q64 w62 → ∃ (a65 : Option Addr) (m66 c67 : Nat) (n68 : Int), q64 = [(.slice a65 m66 c67), (.int .i64 n68)] ∧
 (bif (decide (n68 < (m42 : Int))) then
 (∃ b69 f70, a41 = some ⟨b69, f70, none⟩ ∧ 0 ≤ n68 ∧ n68 < (m42 : Int) ∧ (withW (World.alloc w62 (.cells #[(.pointer (some ⟨b69, (f70 + (n68 : Int).toNat * 2), none⟩ : Option Addr))] 39)) fun w71 =>
 (∃ (a72 : Option Addr) (m73 c74 : Nat) (w75 : World), Runs Tryd.prog (Builtin.append_ #[50, 50] 50 #[(.slice a65 m66 c67), (.slice (some ⟨w62.heap.size, 0, none⟩ : Option Addr) 1 1)]) w71 (.slice a72 m73 c74) w75 ∧ (I60 [(.slice a72 m73 c74), (.int .i64 (IntKind.i64.wrap (n68 + 1)))] w75 ∧ μ61 [(.slice a72 m73 c74), (.int .i64 (IntKind.i64.wrap (n68 + 1)))] w75 < μ61 [(.slice a65 m66 c67), (.int .i64 n68)] w62))))
 else
 (Calls Tryd.prog 13 #[(.pointer p12), (.slice a65 m66 c67)] w62 fun e77 w76 => ∃ (v78 : Value), e77 = .returned v78 ∧ (Calls Tryd.prog 12 #[(.pointer p12)] w76 fun e80 w79 => ∃ (n81 : Int), e80 = .returned (.int .i64 n81) ∧ (Calls Tryd.prog 13 #[(.pointer p12), (.slice a65 m66 c67)] w79 fun e83 w82 => ∃ (v84 : Value), e83 = .returned v84 ∧ (Calls Tryd.prog 15 #[(.pointer p12), (.slice a41 m42 c43)] w82 fun e86 w85 => ∃ (n87 : Int) (v88 : Value), e86 = .returned (.tuple #[(.int .i64 n87), v88]) ∧ (∃ r89, IsNil v58 r89 ∧ (bif r89 then (∃ r90, IsNil v78 r90 ∧ (bif r90 then (∃ r91, IsNil v84 r91 ∧ (bif r91 then (∃ r92, IsNil v88 r92 ∧ (bif r92 then (bif (n81 == n57) then (Calls Tryd.prog 12 #[(.pointer p12)] w85 fun e94 w93 => ∃ (n95 : Int), e94 = .returned (.int .i64 n95) ∧ (bif (n95 == n57) then (R (.bool (n87 == n57)) w93) else (R (.bool false) w93))) else (R (.bool false) w85)) else (R (.bool false) w85))) else (R (.bool false) w85))) else (R (.bool false) w85))) else (R (.bool false) w85)))))))))))))) else (∃ (a96 : Option Addr) (m97 c98 : Nat), World.cell? w34 ⟨w18.heap.size, 3, none⟩ = some (.slice a96 m97 c98) ∧ (bif (decide ((m97 : Int) > (8 : Int))) then
 (withW (World.alloc w34 (.cells #[] 30)) fun w99 =>
 (∃ (I100 : List Value → World → Prop) (μ101 : List Value → World → Nat), I100 [(.slice (some ⟨w34.heap.size, 0, none⟩ : Option Addr) 0 0), (.int .i64 0)] w99 ∧ ∀ (j103 : Env) (q104 : List Value) (w102 : World), I100 q104 w102 → ∃ (a105 : Option Addr) (m106 c107 : Nat) (n108 : Int), q104 = [(.slice a105 m106 c107), (.int .i64 n108)] ∧
 (bif (decide (n108 < (m5 : Int))) then
 (∃ b109 f110, a4 = some ⟨b109, f110, none⟩ ∧ 0 ≤ n108 ∧ n108 < (m5 : Int) ∧ (∃ (n111 : Int), World.cell? w102 ⟨b109, (f110 + (n108 : Int).toNat * 1), none⟩ = some (.int .i64 n111) ∧ (bif (decide (n108 < (20 : Int))) then
 (0 ≤ (IntKind.i64.wrap ((BitVec.ofInt IntKind.i64.bits n111 &&& BitVec.ofInt IntKind.i64.bits (7 : Int))).toNat) ∧ (IntKind.i64.wrap ((BitVec.ofInt IntKind.i64.bits n111 &&& BitVec.ofInt IntKind.i64.bits (7 : Int))).toNat) < ((8 : Nat) : Int) ∧ (∃ (b112 : Bool) (n113 : Int), cellsAt w102 w10.heap.size (0 + ((IntKind.i64.wrap ((BitVec.ofInt IntKind.i64.bits n111 &&& BitVec.ofInt IntKind.i64.bits (7 : Int))).toNat) : Int).toNat * 2) [(.bool b112), (.int .i64 n113)] ∧ (withW (World.alloc w102 (.cells #[(.bool b112), (.int .i64 n113)] 30)) fun w114 =>
 (∃ (a115 : Option Addr) (m116 c117 : Nat) (w118 : World), Runs Tryd.prog (Builtin.append_ #[33, 33] 33 #[(.slice a105 m106 c107), (.slice (some ⟨w102.heap.size, 0, none⟩ : Option Addr) 1 1)]) w114 (.slice a115 m116 c117) w118 ∧ (I100 [(.slice a115 m116 c117), (.int .i64 (IntKind.i64.wrap (n108 + 1)))] w118 ∧ μ101 [(.slice a115 m116 c117), (.int .i64 (IntKind.i64.wrap (n108 + 1)))] w118 < μ101 [(.slice a105 m106 c107), (.int .i64 n108)] w102)))))
 else
 (I100 [(.slice a105 m106 c107), (.int .i64 (IntKind.i64.wrap (n108 + 1)))] w102 ∧ μ101 [(.slice a105 m106 c107), (.int .i64 (IntKind.i64.wrap (n108 + 1)))] w102 < μ101 [(.slice a105 m106 c107), (.int .i64 n108)] w102))))
 else
 (Calls Tryd.prog 15 #[(.pointer p12), (.slice a105 m106 c107)] w102 fun e120 w119 => ∃ (n121 : Int) (v122 : Value), e120 = .returned (.tuple #[(.int .i64 n121), v122]) ∧ (withW (World.alloc w119 (.cells #[] 39)) fun w123 =>
 (∃ (I124 : List Value → World → Prop) (μ125 : List Value → World → Nat), I124 [(.slice (some ⟨w119.heap.size, 0, none⟩ : Option Addr) 0 0), (.int .i64 0)] w123 ∧ ∀ (j127 : Env) (q128 : List Value) (w126 : World), I124 q128 w126 → ∃ (a129 : Option Addr) (m130 c131 : Nat) (n132 : Int), q128 = [(.slice a129 m130 c131), (.int .i64 n132)] ∧
 (bif (decide (n132 < (m106 : Int))) then
 (∃ b133 f134, a105 = some ⟨b133, f134, none⟩ ∧ 0 ≤ n132 ∧ n132 < (m106 : Int) ∧ (withW (World.alloc w126 (.cells #[(.pointer (some ⟨b133, (f134 + (n132 : Int).toNat * 2), none⟩ : Option Addr))] 39)) fun w135 =>
 (∃ (a136 : Option Addr) (m137 c138 : Nat) (w139 : World), Runs Tryd.prog (Builtin.append_ #[50, 50] 50 #[(.slice a129 m130 c131), (.slice (some ⟨w126.heap.size, 0, none⟩ : Option Addr) 1 1)]) w135 (.slice a136 m137 c138) w139 ∧ (I124 [(.slice a136 m137 c138), (.int .i64 (IntKind.i64.wrap (n132 + 1)))] w139 ∧ μ125 [(.slice a136 m137 c138), (.int .i64 (IntKind.i64.wrap (n132 + 1)))] w139 < μ125 [(.slice a129 m130 c131), (.int .i64 n132)] w126))))
 else
 (Calls Tryd.prog 13 #[(.pointer p12), (.slice a129 m130 c131)] w126 fun e141 w140 => ∃ (v142 : Value), e141 = .returned v142 ∧ (Calls Tryd.prog 12 #[(.pointer p12)] w140 fun e144 w143 => ∃ (n145 : Int), e144 = .returned (.int .i64 n145) ∧ (Calls Tryd.prog 13 #[(.pointer p12), (.slice a129 m130 c131)] w143 fun e147 w146 => ∃ (v148 : Value), e147 = .returned v148 ∧ (Calls Tryd.prog 15 #[(.pointer p12), (.slice a105 m106 c107)] w146 fun e150 w149 => ∃ (n151 : Int) (v152 : Value), e150 = .returned (.tuple #[(.int .i64 n151), v152]) ∧ (∃ r153, IsNil v122 r153 ∧ (bif r153 then (∃ r154, IsNil v142 r154 ∧ (bif r154 then (∃ r155, IsNil v148 r155 ∧ (bif r155 then (∃ r156, IsNil v152 r156 ∧ (bif r156 then (bif (n145 == n121) then (Calls Tryd.prog 12 #[(.pointer p12)] w149 fun e158 w157 => ∃ (n159 : Int), e158 = .returned (.int .i64 n159) ∧ (bif (n159 == n121) then (R (.bool (n151 == n121)) w157) else (R (.bool false) w157))) else (R (.bool false) w149)) else (R (.bool false) w149))) else (R (.bool false) w149))) else (R (.bool false) w149))) else (R (.bool false) w149))))))))))))))
 else
 (withW (World.alloc w34 (.cells #[] 30)) fun w160 =>
 (∃ (a161 : Option Addr) (m162 c163 : Nat), World.cell? w160 ⟨w18.heap.size, 3, none⟩ = some (.slice a161 m162 c163) ∧ (∃ (I164 : List Value → World → Prop) (μ165 : List Value → World → Nat), I164 [(.slice (some ⟨w34.heap.size, 0, none⟩ : Option Addr) 0 0), (.int .i64 0)] w160 ∧ ∀ (j167 : Env) (q168 : List Value) (w166 : World), I164 q168 w166 → ∃ (a169 : Option Addr) (m170 c171 : Nat) (n172 : Int), q168 = [(.slice a169 m170 c171), (.int .i64 n172)] ∧
 (bif (decide (n172 < (m162 : Int))) then
 (∃ b173 f174, a161 = some ⟨b173, f174, none⟩ ∧ 0 ≤ n172 ∧ n172 < (m162 : Int) ∧ (∃ (b175 : Bool) (n176 : Int), cellsAt w166 b173 (f174 + (n172 : Int).toNat * 2) [(.bool b175), (.int .i64 n176)] ∧ (withW (World.alloc w166 (.cells #[.bool false, .int .i64 0] 47)) fun w177 =>
 (canSt w177 w166.heap.size 0 [(.bool b175), (.int .i64 n176)] ∧ withW (setL w177 w166.heap.size 0 [(.bool b175), (.int .i64 n176)]) fun w178 =>
 (∃ (b179 : Bool), World.cell? w178 ⟨w166.heap.size, 0, none⟩ = some (.bool b179) ∧ (bif b179 then
 (∃ (n180 : Int), World.cell? w178 ⟨w166.heap.size, 1, none⟩ = some (.int .i64 n180) ∧ (0 ≤ (IntKind.i64.wrap ((BitVec.ofInt IntKind.i64.bits n180 &&& BitVec.ofInt IntKind.i64.bits (7 : Int))).toNat) ∧ (IntKind.i64.wrap ((BitVec.ofInt IntKind.i64.bits n180 &&& BitVec.ofInt IntKind.i64.bits (7 : Int))).toNat) < ((8 : Nat) : Int) ∧ (∃ (b181 : Bool) (n182 : Int), cellsAt w178 w10.heap.size (0 + ((IntKind.i64.wrap ((BitVec.ofInt IntKind.i64.bits n180 &&& BitVec.ofInt IntKind.i64.bits (7 : Int))).toNat) : Int).toNat * 2) [(.bool b181), (.int .i64 n182)] ∧ (withW (World.alloc w178 (.cells #[(.bool b181), (.int .i64 n182)] 30)) fun w183 =>
 (∃ (a184 : Option Addr) (m185 c186 : Nat) (w187 : World), Runs Tryd.prog (Builtin.append_ #[33, 33] 33 #[(.slice a169 m170 c171), (.slice (some ⟨w178.heap.size, 0, none⟩ : Option Addr) 1 1)]) w183 (.slice a184 m185 c186) w187 ∧ (I164 [(.slice a184 m185 c186), (.int .i64 (IntKind.i64.wrap (n172 + 1)))] w187 ∧ μ165 [(.slice a184 m185 c186), (.int .i64 (IntKind.i64.wrap (n172 + 1)))] w187 < μ165 [(.slice a169 m170 c171), (.int .i64 n172)] w166))))))
 else
 (∃ (n188 : Int), World.cell? w178 ⟨w166.heap.size, 1, none⟩ = some (.int .i64 n188) ∧ (withW (World.alloc w178 (.cells #[(.bool false), (.int .i64 n188)] 30)) fun w189 =>
 (∃ (a190 : Option Addr) (m191 c192 : Nat) (w193 : World), Runs Tryd.prog (Builtin.append_ #[33, 33] 33 #[(.slice a169 m170 c171), (.slice (some ⟨w178.heap.size, 0, none⟩ : Option Addr) 1 1)]) w189 (.slice a190 m191 c192) w193 ∧ (I164 [(.slice a190 m191 c192), (.int .i64 (IntKind.i64.wrap (n172 + 1)))] w193 ∧ μ165 [(.slice a190 m191 c192), (.int .i64 (IntKind.i64.wrap (n172 + 1)))] w193 < μ165 [(.slice a169 m170 c171), (.int .i64 n172)] w166))))))))))
 else
 (∃ (n194 : Int), World.cell? w166 ⟨w18.heap.size, 2, none⟩ = some (.int .i64 n194) ∧ (Calls Tryd.prog 10 #[(.pointer p12), (.int .i64 n194), (.slice a169 m170 c171)] w166 fun e196 w195 => ∃ (b197 : Bool) (n198 : Int) (v199 : Value), e196 = .returned (.tuple #[(.agg #[(.bool b197), (.int .i64 n198)]), v199]) ∧ (withW (World.alloc w195 (.cells #[.bool false, .int .i64 0] 30)) fun w200 =>
 (canSt w200 w195.heap.size 0 [(.bool b197), (.int .i64 n198)] ∧ withW (setL w200 w195.heap.size 0 [(.bool b197), (.int .i64 n198)]) fun w201 =>
 (∃ r202, IsNil v199 r202 ∧ (bif r202 then
 (∃ (n203 : Int), World.cell? w201 ⟨w18.heap.size, 1, none⟩ = some (.int .i64 n203) ∧ (∃ (b204 : Bool) (n205 : Int), cellsAt w201 w195.heap.size 0 [(.bool b204), (.int .i64 n205)] ∧ (0 ≤ (IntKind.i64.wrap ((BitVec.ofInt IntKind.i64.bits n203 &&& BitVec.ofInt IntKind.i64.bits (7 : Int))).toNat) ∧ (IntKind.i64.wrap ((BitVec.ofInt IntKind.i64.bits n203 &&& BitVec.ofInt IntKind.i64.bits (7 : Int))).toNat) < ((8 : Nat) : Int) ∧ (canSt w201 w10.heap.size (0 + ((IntKind.i64.wrap ((BitVec.ofInt IntKind.i64.bits n203 &&& BitVec.ofInt IntKind.i64.bits (7 : Int))).toNat) : Int).toNat * 2) [(.bool b204), (.int .i64 n205)] ∧ withW (setL w201 w10.heap.size (0 + ((IntKind.i64.wrap ((BitVec.ofInt IntKind.i64.bits n203 &&& BitVec.ofInt IntKind.i64.bits (7 : Int))).toNat) : Int).toNat * 2) [(.bool b204), (.int .i64 n205)]) fun w206 =>
 (I16 [(.int .i64 (IntKind.i64.wrap (n21 + 1)))] w206 ∧ μ17 [(.int .i64 (IntKind.i64.wrap (n21 + 1)))] w206 < μ17 [(.int .i64 n21)] w18)))))
 else
 (I16 [(.int .i64 (IntKind.i64.wrap (n21 + 1)))] w201 ∧ μ17 [(.int .i64 (IntKind.i64.wrap (n21 + 1)))] w201 < μ17 [(.int .i64 n21)] w18))))))))))))))))))
 else
 (withW (World.alloc w18 (.cells #[] 30)) fun w207 =>
 (∃ (I208 : List Value → World → Prop) (μ209 : List Value → World → Nat), I208 [(.slice (some ⟨w18.heap.size, 0, none⟩ : Option Addr) 0 0), (.int .i64 0)] w207 ∧ ∀ (j211 : Env) (q212 : List Value) (w210 : World), I208 q212 w210 → ∃ (a213 : Option Addr) (m214 c215 : Nat) (n216 : Int), q212 = [(.slice a213 m214 c215), (.int .i64 n216)] ∧
 (bif (decide (n216 < (m5 : Int))) then
 (∃ b217 f218, a4 = some ⟨b217, f218, none⟩ ∧ 0 ≤ n216 ∧ n216 < (m5 : Int) ∧ (∃ (n219 : Int), World.cell? w210 ⟨b217, (f218 + (n216 : Int).toNat * 1), none⟩ = some (.int .i64 n219) ∧ (bif (decide (n216 < (20 : Int))) then
 (0 ≤ (IntKind.i64.wrap ((BitVec.ofInt IntKind.i64.bits n219 &&& BitVec.ofInt IntKind.i64.bits (7 : Int))).toNat) ∧ (IntKind.i64.wrap ((BitVec.ofInt IntKind.i64.bits n219 &&& BitVec.ofInt IntKind.i64.bits (7 : Int))).toNat) < ((8 : Nat) : Int) ∧ (∃ (b220 : Bool) (n221 : Int), cellsAt w210 w10.heap.size (0 + ((IntKind.i64.wrap ((BitVec.ofInt IntKind.i64.bits n219 &&& BitVec.ofInt IntKind.i64.bits (7 : Int))).toNat) : Int).toNat * 2) [(.bool b220), (.int .i64 n221)] ∧ (withW (World.alloc w210 (.cells #[(.bool b220), (.int .i64 n221)] 30)) fun w222 =>
 (∃ (a223 : Option Addr) (m224 c225 : Nat) (w226 : World), Runs Tryd.prog (Builtin.append_ #[33, 33] 33 #[(.slice a213 m214 c215), (.slice (some ⟨w210.heap.size, 0, none⟩ : Option Addr) 1 1)]) w222 (.slice a223 m224 c225) w226 ∧ (I208 [(.slice a223 m224 c225), (.int .i64 (IntKind.i64.wrap (n216 + 1)))] w226 ∧ μ209 [(.slice a223 m224 c225), (.int .i64 (IntKind.i64.wrap (n216 + 1)))] w226 < μ209 [(.slice a213 m214 c215), (.int .i64 n216)] w210)))))
 else
 (I208 [(.slice a213 m214 c215), (.int .i64 (IntKind.i64.wrap (n216 + 1)))] w210 ∧ μ209 [(.slice a213 m214 c215), (.int .i64 (IntKind.i64.wrap (n216 + 1)))] w210 < μ209 [(.slice a213 m214 c215), (.int .i64 n216)] w210))))
 else
 (Calls Tryd.prog 15 #[(.pointer p12), (.slice a213 m214 c215)] w210 fun e228 w227 => ∃ (n229 : Int) (v230 : Value), e228 = .returned (.tuple #[(.int .i64 n229), v230]) ∧ (withW (World.alloc w227 (.cells #[] 39)) fun w231 =>
 (∃ (I232 : List Value → World → Prop) (μ233 : List Value → World → Nat), I232 [(.slice (some ⟨w227.heap.size, 0, none⟩ : Option Addr) 0 0), (.int .i64 0)] w231 ∧ ∀ (j235 : Env) (q236 : List Value) (w234 : World), I232 q236 w234 → ∃ (a237 : Option Addr) (m238 c239 : Nat) (n240 : Int), q236 = [(.slice a237 m238 c239), (.int .i64 n240)] ∧
 (bif (decide (n240 < (m214 : Int))) then
 (∃ b241 f242, a213 = some ⟨b241, f242, none⟩ ∧ 0 ≤ n240 ∧ n240 < (m214 : Int) ∧ (withW (World.alloc w234 (.cells #[(.pointer (some ⟨b241, (f242 + (n240 : Int).toNat * 2), none⟩ : Option Addr))] 39)) fun w243 =>
 (∃ (a244 : Option Addr) (m245 c246 : Nat) (w247 : World), Runs Tryd.prog (Builtin.append_ #[50, 50] 50 #[(.slice a237 m238 c239), (.slice (some ⟨w234.heap.size, 0, none⟩ : Option Addr) 1 1)]) w243 (.slice a244 m245 c246) w247 ∧ (I232 [(.slice a244 m245 c246), (.int .i64 (IntKind.i64.wrap (n240 + 1)))] w247 ∧ μ233 [(.slice a244 m245 c246), (.int .i64 (IntKind.i64.wrap (n240 + 1)))] w247 < μ233 [(.slice a237 m238 c239), (.int .i64 n240)] w234))))
 else
 (Calls Tryd.prog 13 #[(.pointer p12), (.slice a237 m238 c239)] w234 fun e249 w248 => ∃ (v250 : Value), e249 = .returned v250 ∧ (Calls Tryd.prog 12 #[(.pointer p12)] w248 fun e252 w251 => ∃ (n253 : Int), e252 = .returned (.int .i64 n253) ∧ (Calls Tryd.prog 13 #[(.pointer p12), (.slice a237 m238 c239)] w251 fun e255 w254 => ∃ (v256 : Value), e255 = .returned v256 ∧ (Calls Tryd.prog 15 #[(.pointer p12), (.slice a213 m214 c215)] w254 fun e258 w257 => ∃ (n259 : Int) (v260 : Value), e258 = .returned (.tuple #[(.int .i64 n259), v260]) ∧ (∃ r261, IsNil v230 r261 ∧ (bif r261 then (∃ r262, IsNil v250 r262 ∧ (bif r262 then (∃ r263, IsNil v256 r263 ∧ (bif r263 then (∃ r264, IsNil v260 r264 ∧ (bif r264 then (bif (n253 == n229) then (Calls Tryd.prog 12 #[(.pointer p12)] w257 fun e266 w265 => ∃ (n267 : Int), e266 = .returned (.int .i64 n267) ∧ (bif (n267 == n229) then (R (.bool (n259 == n229)) w265) else (R (.bool false) w265))) else (R (.bool false) w257)) else (R (.bool false) w257))) else (R (.bool false) w257))) else (R (.bool false) w257))) else (R (.bool false) w257)))))))))))))))))))))))
set_option maxRecDepth 100000 in
theorem HeapKeeps.eq (a1 : Option Addr) (m2 c3 : Nat) (a4 : Option Addr) (m5 c6 : Nat) (w : World) (R : Value → World → Prop) : HeapKeeps.W a1 m2 c3 a4 m5 c6 w R = fnW Tryd.prog tys fns HeapKeeps.hs Tryd.f5 [(.slice a1 m2 c3), (.slice a4 m5 c6)] w R := by kernel_rfl
theorem HeapKeeps.ok : codeOk tys HeapKeeps.hs Tryd.f5.ntmps (Tryd.f5.body.getD .skip) = true := by kernel_rfl
theorem HeapKeeps.calls {a1 m2 c3 a4 m5 c6 w R} (h : HeapKeeps.W a1 m2 c3 a4 m5 c6 w R) : Calls Tryd.prog 5 ([(.slice a1 m2 c3), (.slice a4 m5 c6)] : List Value).toArray w fun e w' => ∃ v, e = .returned v ∧ R v w' :=
  fnW_calls tysOk fnsOk follows Tryd.func5 (by kernel_rfl) HeapKeeps.ok (by kernel_rfl) (HeapKeeps.eq a1 m2 c3 a4 m5 c6 w R ▸ h)
end Go.Proofs.YtfenhbjamohdgaaDoor.Vg
