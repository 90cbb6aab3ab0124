/- Texts of this proof. -/
import Derived.Test.YtfenhbjamohdgaaDoorS1
import Derived.Test.YtfenhbjamohdgaaDoorProg
/- part H1L -/
section
set_option linter.unusedVariables false
namespace Go.Proofs.YtfenhbjamohdgaaDoor.Vh
open Go.Vx
def tys : Tys := [(3, ⟨(.int .i64), 1, 8, [.int .i64 0], [.int .i64]⟩),
  (4, ⟨.bool, 1, 1, [.bool false], [.bool]⟩),
  (24, ⟨(.ptr 76), 1, 8, [.pointer none], [.ptr]⟩),
  (26, ⟨.iface, 1, 16, [.nilIface], [.any]⟩),
  (30, ⟨(.agg [(0, 4), (1, 3)]), 2, 16, [.bool false, .int .i64 0], [.bool, .int .i64]⟩),
  (33, ⟨(.sl 30), 1, 24, [.slice none 0 0], [.sl]⟩),
  (39, ⟨(.ptr 30), 1, 8, [.pointer none], [.ptr]⟩),
  (50, ⟨(.sl 39), 1, 24, [.slice none 0 0], [.sl]⟩),
  (55, ⟨(.sl 26), 1, 24, [.slice none 0 0], [.sl]⟩),
  (74, ⟨(.sl 84), 1, 24, [.slice none 0 0], [.sl]⟩),
  (76, ⟨(.agg [(0, 74), (1, 3)]), 2, 32, [.slice none 0 0, .int .i64 0], [.sl, .int .i64]⟩),
  (78, ⟨(.ptr 80), 1, 8, [.pointer none], [.ptr]⟩),
  (80, ⟨(.agg [(0, 3), (1, 3), (2, 3), (3, 3), (4, 3)]), 5, 40, [.int .i64 0, .int .i64 0, .int .i64 0, .int .i64 0, .int .i64 0], [.int .i64, .int .i64, .int .i64, .int .i64, .int .i64]⟩),
  (84, ⟨(.agg [(0, 30), (2, 78)]), 3, 24, [.bool false, .int .i64 0, .pointer none], [.bool, .int .i64, .ptr]⟩)]
theorem ty3 : Ty.Ok Tryd.prog 3 ⟨(.int .i64), 1, 8, [.int .i64 0], [.int .i64]⟩ := ⟨Tryd.underlying3, by kernel_rfl, by kernel_rfl, rfl⟩
theorem ty4 : Ty.Ok Tryd.prog 4 ⟨.bool, 1, 1, [.bool false], [.bool]⟩ := ⟨Tryd.underlying4, by kernel_rfl, by kernel_rfl, rfl⟩
theorem ty24 : Ty.Ok Tryd.prog 24 ⟨(.ptr 76), 1, 8, [.pointer none], [.ptr]⟩ := ⟨Tryd.underlying24, by kernel_rfl, by kernel_rfl, rfl⟩
theorem ty26 : Ty.Ok Tryd.prog 26 ⟨.iface, 1, 16, [.nilIface], [.any]⟩ := ⟨⟨_, Tryd.underlying26⟩, by kernel_rfl, by kernel_rfl, rfl⟩
theorem ty30 : Ty.Ok Tryd.prog 30 ⟨(.agg [(0, 4), (1, 3)]), 2, 16, [.bool false, .int .i64 0], [.bool, .int .i64]⟩ := ⟨⟨_, Tryd.underlying30, rfl⟩, by kernel_rfl, by kernel_rfl, rfl⟩
theorem ty33 : Ty.Ok Tryd.prog 33 ⟨(.sl 30), 1, 24, [.slice none 0 0], [.sl]⟩ := ⟨Tryd.underlying33, by kernel_rfl, by kernel_rfl, rfl⟩
theorem ty39 : Ty.Ok Tryd.prog 39 ⟨(.ptr 30), 1, 8, [.pointer none], [.ptr]⟩ := ⟨Tryd.underlying39, by kernel_rfl, by kernel_rfl, rfl⟩
theorem ty50 : Ty.Ok Tryd.prog 50 ⟨(.sl 39), 1, 24, [.slice none 0 0], [.sl]⟩ := ⟨Tryd.underlying50, by kernel_rfl, by kernel_rfl, rfl⟩
theorem ty55 : Ty.Ok Tryd.prog 55 ⟨(.sl 26), 1, 24, [.slice none 0 0], [.sl]⟩ := ⟨Tryd.underlying55, by kernel_rfl, by kernel_rfl, rfl⟩
theorem ty74 : Ty.Ok Tryd.prog 74 ⟨(.sl 84), 1, 24, [.slice none 0 0], [.sl]⟩ := ⟨Tryd.underlying74, by kernel_rfl, by kernel_rfl, rfl⟩
theorem ty76 : Ty.Ok Tryd.prog 76 ⟨(.agg [(0, 74), (1, 3)]), 2, 32, [.slice none 0 0, .int .i64 0], [.sl, .int .i64]⟩ := ⟨⟨_, Tryd.underlying76, rfl⟩, by kernel_rfl, by kernel_rfl, rfl⟩
theorem ty78 : Ty.Ok Tryd.prog 78 ⟨(.ptr 80), 1, 8, [.pointer none], [.ptr]⟩ := ⟨Tryd.underlying78, by kernel_rfl, by kernel_rfl, rfl⟩
theorem ty80 : Ty.Ok Tryd.prog 80 ⟨(.agg [(0, 3), (1, 3), (2, 3), (3, 3), (4, 3)]), 5, 40, [.int .i64 0, .int .i64 0, .int .i64 0, .int .i64 0, .int .i64 0], [.int .i64, .int .i64, .int .i64, .int .i64, .int .i64]⟩ := ⟨⟨_, Tryd.underlying80, rfl⟩, by kernel_rfl, by kernel_rfl, rfl⟩
theorem ty84 : Ty.Ok Tryd.prog 84 ⟨(.agg [(0, 30), (2, 78)]), 3, 24, [.bool false, .int .i64 0, .pointer none], [.bool, .int .i64, .ptr]⟩ := ⟨⟨_, Tryd.underlying84, rfl⟩, by kernel_rfl, by kernel_rfl, rfl⟩
theorem tysOk : AllOk Tryd.prog tys := ⟨ty3, ty4, ty24, ty26, ty30, ty33, ty39, ty50, ty55, ty74, ty76, ty78, ty80, ty84, trivial⟩
def fns : Fns := [(8, [4]), (9, [24, 26]), (10, [30, 26]), (11, [3, 33, 26]), (12, [3]), (13, [26]), (15, [3, 26]), (16, [4, 26]), (17, [3, 26]), (23, [4]), (24, [3, 3]), (25, [4]), (26, [74]), (28, [33]), (29, [4])]
theorem fnOk8 : ∃ fn, Tryd.prog.funcs[8]? = some fn ∧ (fn.name == "runtime.NumGoroutine") = false ∧ fn.body.isNone = false := ⟨_, Tryd.func8, by kernel_rfl, by kernel_rfl⟩
theorem fnOk9 : ∃ fn, Tryd.prog.funcs[9]? = some fn ∧ (fn.name == "runtime.NumGoroutine") = false ∧ fn.body.isNone = false := ⟨_, Tryd.func9, by kernel_rfl, by kernel_rfl⟩
theorem fnOk10 : ∃ fn, Tryd.prog.funcs[10]? = some fn ∧ (fn.name == "runtime.NumGoroutine") = false ∧ fn.body.isNone = false := ⟨_, Tryd.func10, by kernel_rfl, by kernel_rfl⟩
theorem fnOk11 : ∃ fn, Tryd.prog.funcs[11]? = some fn ∧ (fn.name == "runtime.NumGoroutine") = false ∧ fn.body.isNone = false := ⟨_, Tryd.func11, by kernel_rfl, by kernel_rfl⟩
theorem fnOk12 : ∃ fn, Tryd.prog.funcs[12]? = some fn ∧ (fn.name == "runtime.NumGoroutine") = false ∧ fn.body.isNone = false := ⟨_, Tryd.func12, by kernel_rfl, by kernel_rfl⟩
theorem fnOk13 : ∃ fn, Tryd.prog.funcs[13]? = some fn ∧ (fn.name == "runtime.NumGoroutine") = false ∧ fn.body.isNone = false := ⟨_, Tryd.func13, by kernel_rfl, by kernel_rfl⟩
theorem fnOk15 : ∃ fn, Tryd.prog.funcs[15]? = some fn ∧ (fn.name == "runtime.NumGoroutine") = false ∧ fn.body.isNone = false := ⟨_, Tryd.func15, by kernel_rfl, by kernel_rfl⟩
theorem fnOk16 : ∃ fn, Tryd.prog.funcs[16]? = some fn ∧ (fn.name == "runtime.NumGoroutine") = false ∧ fn.body.isNone = false := ⟨_, Tryd.func16, by kernel_rfl, by kernel_rfl⟩
theorem fnOk17 : ∃ fn, Tryd.prog.funcs[17]? = some fn ∧ (fn.name == "runtime.NumGoroutine") = false ∧ fn.body.isNone = false := ⟨_, Tryd.func17, by kernel_rfl, by kernel_rfl⟩
theorem fnOk23 : ∃ fn, Tryd.prog.funcs[23]? = some fn ∧ (fn.name == "runtime.NumGoroutine") = false ∧ fn.body.isNone = false := ⟨_, Tryd.func23, by kernel_rfl, by kernel_rfl⟩
theorem fnOk24 : ∃ fn, Tryd.prog.funcs[24]? = some fn ∧ (fn.name == "runtime.NumGoroutine") = false ∧ fn.body.isNone = false := ⟨_, Tryd.func24, by kernel_rfl, by kernel_rfl⟩
theorem fnOk25 : ∃ fn, Tryd.prog.funcs[25]? = some fn ∧ (fn.name == "runtime.NumGoroutine") = false ∧ fn.body.isNone = false := ⟨_, Tryd.func25, by kernel_rfl, by kernel_rfl⟩
theorem fnOk26 : ∃ fn, Tryd.prog.funcs[26]? = some fn ∧ (fn.name == "runtime.NumGoroutine") = false ∧ fn.body.isNone = false := ⟨_, Tryd.func26, by kernel_rfl, by kernel_rfl⟩
theorem fnOk28 : ∃ fn, Tryd.prog.funcs[28]? = some fn ∧ (fn.name == "runtime.NumGoroutine") = false ∧ fn.body.isNone = false := ⟨_, Tryd.func28, by kernel_rfl, by kernel_rfl⟩
theorem fnOk29 : ∃ fn, Tryd.prog.funcs[29]? = some fn ∧ (fn.name == "runtime.NumGoroutine") = false ∧ fn.body.isNone = false := ⟨_, Tryd.func29, by kernel_rfl, by kernel_rfl⟩
theorem fnsOk : FnsOk Tryd.prog fns := ⟨fnOk8, fnOk9, fnOk10, fnOk11, fnOk12, fnOk13, fnOk15, fnOk16, fnOk17, fnOk23, fnOk24, fnOk25, fnOk26, fnOk28, fnOk29, trivial⟩
theorem follows : Tryd.prog.follows .mixedOrders = true := by kernel_rfl
/-! ### HeapStrange: function 6 -/
def HeapStrange.hs : Hints := ⟨[], [(21, [(123, .int .i64)])]⟩
set_option maxRecDepth 100000 in
def HeapStrange.W (n1 : Int) (w : World) (R : Value → World → Prop) : Prop :=
 (Calls Tryd.prog 8 #[] w fun e3 w2 => ∃ (b4 : Bool), e3 = .returned (.bool b4) ∧ (bif (!b4) then
 (R (.bool false) w2)
 else
 (Calls Tryd.prog 9 #[(.int .i64 50)] w2 fun e6 w5 => ∃ (p7 : Option Addr) (v8 : Value), e6 = .returned (.tuple #[(.pointer p7), v8]) ∧ (∃ r9, IsNil v8 r9 ∧ (bif (!r9) then (R (.bool false) w5) else (bif (Option.isNone p7) then
 (R (.bool false) w5)
 else
 (Calls Tryd.prog 10 #[(.pointer p7), (.int .i64 3), (.slice none 0 0)] w5 fun e11 w10 => ∃ (b12 : Bool) (n13 : Int) (v14 : Value), e11 = .returned (.tuple #[(.agg #[(.bool b12), (.int .i64 n13)]), v14]) ∧ (withW (World.alloc w10 (.cells #[.bool false, .int .i64 0] 30)) fun w15 =>
 (canSt w15 w10.heap.size 0 [(.bool b12), (.int .i64 n13)] ∧ withW (setL w15 w10.heap.size 0 [(.bool b12), (.int .i64 n13)]) fun w16 =>
 (withW (World.alloc w16 (.cells #[.bool false, .int .i64 0] 30)) fun w17 =>
 (canSt w17 w16.heap.size 0 [(.bool true), (.int .i64 n1)] ∧ withW (setL w17 w16.heap.size 0 [(.bool true), (.int .i64 n1)]) fun w18 =>
 (∃ r19, IsNil v14 r19 ∧ (bif (!r19) then (∃ r20, IsNil v14 r20 ∧ (R (.bool r20) w18)) else (∃ (b21 : Bool) (n22 : Int), cellsAt w18 w16.heap.size 0 [(.bool b21), (.int .i64 n22)] ∧ (∃ (b23 : Bool) (n24 : Int), cellsAt w18 w10.heap.size 0 [(.bool b23), (.int .i64 n24)] ∧ (∃ (r25 : Bool), Runs Tryd.prog (semEq .eql 30 (.tmp 51) (.tmp 52) (.agg #[(.bool b21), (.int .i64 n22)]) (.agg #[(.bool b23), (.int .i64 n24)])) w18 (.bool r25) w18 ∧ (bif r25 then
 (∃ r26, IsNil v14 r26 ∧ (R (.bool r26) w18))
 else
 (∃ (b27 : Bool) (n28 : Int), cellsAt w18 w10.heap.size 0 [(.bool b27), (.int .i64 n28)] ∧ (∃ (b29 : Bool) (n30 : Int), cellsAt w18 w16.heap.size 0 [(.bool b29), (.int .i64 n30)] ∧ (withW (World.alloc w18 (.cells #[(.bool b27), (.int .i64 n28), (.bool b29), (.int .i64 n30)] 30)) fun w31 =>
 (Calls Tryd.prog 10 #[(.pointer p7), (.int .i64 1), (.slice (some ⟨w18.heap.size, 0, none⟩ : Option Addr) 2 2)] w31 fun e33 w32 => ∃ (b34 : Bool) (n35 : Int) (v36 : Value), e33 = .returned (.tuple #[(.agg #[(.bool b34), (.int .i64 n35)]), v36]) ∧ (withW (World.alloc w32 (.cells #[.bool false, .int .i64 0] 30)) fun w37 =>
 (canSt w37 w32.heap.size 0 [(.bool b34), (.int .i64 n35)] ∧ withW (setL w37 w32.heap.size 0 [(.bool b34), (.int .i64 n35)]) fun w38 =>
 (∃ (b39 : Bool) (n40 : Int), cellsAt w38 w16.heap.size 0 [(.bool b39), (.int .i64 n40)] ∧ (Calls Tryd.prog 11 #[(.pointer p7), (.agg #[(.bool b39), (.int .i64 n40)])] w38 fun e42 w41 => ∃ (n43 : Int) (a44 : Option Addr) (m45 c46 : Nat) (v47 : Value), e42 = .returned (.tuple #[(.int .i64 n43), (.slice a44 m45 c46), v47]) ∧ (∃ (b48 : Bool) (n49 : Int), cellsAt w41 w10.heap.size 0 [(.bool b48), (.int .i64 n49)] ∧ (∃ (b50 : Bool) (n51 : Int), cellsAt w41 w16.heap.size 0 [(.bool b50), (.int .i64 n51)] ∧ (Calls Tryd.prog 16 #[(.pointer p7), (.agg #[(.bool b48), (.int .i64 n49)]), (.agg #[(.bool b50), (.int .i64 n51)])] w41 fun e53 w52 => ∃ (b54 : Bool) (v55 : Value), e53 = .returned (.tuple #[(.bool b54), v55]) ∧ (∃ (b56 : Bool) (n57 : Int), cellsAt w52 w16.heap.size 0 [(.bool b56), (.int .i64 n57)] ∧ (withW (World.alloc w52 (.cells #[.bool false, .int .i64 0] 30)) fun w58 =>
 (canSt w58 w52.heap.size 0 [(.bool b56), (.int .i64 n57)] ∧ withW (setL w58 w52.heap.size 0 [(.bool b56), (.int .i64 n57)]) fun w59 =>
 (withW (World.alloc w59 (.cells #[(.pointer (some ⟨w10.heap.size, 0, none⟩ : Option Addr)), (.pointer (some ⟨w52.heap.size, 0, none⟩ : Option Addr))] 39)) fun w60 =>
 (Calls Tryd.prog 13 #[(.pointer p7), (.slice (some ⟨w59.heap.size, 0, none⟩ : Option Addr) 2 2)] w60 fun e62 w61 => ∃ (v63 : Value), e62 = .returned v63 ∧ (withW (World.alloc w61 (.cells #[(.pointer none)] 39)) fun w64 =>
 (Calls Tryd.prog 13 #[(.pointer p7), (.slice (some ⟨w61.heap.size, 0, none⟩ : Option Addr) 1 1)] w64 fun e66 w65 => ∃ (v67 : Value), e66 = .returned v67 ∧ (∃ (b68 : Bool) (n69 : Int), cellsAt w65 w16.heap.size 0 [(.bool b68), (.int .i64 n69)] ∧ (withW (World.alloc w65 (.cells #[(.bool b68), (.int .i64 n69)] 30)) fun w70 =>
 (Calls Tryd.prog 15 #[(.pointer p7), (.slice (some ⟨w65.heap.size, 0, none⟩ : Option Addr) 1 1)] w70 fun e72 w71 => ∃ (n73 : Int) (v74 : Value), e72 = .returned (.tuple #[(.int .i64 n73), v74]) ∧ (∃ (b75 : Bool) (n76 : Int), cellsAt w71 w16.heap.size 0 [(.bool b75), (.int .i64 n76)] ∧ (Calls Tryd.prog 17 #[(.pointer p7), (.agg #[(.bool b75), (.int .i64 n76)])] w71 fun e78 w77 => ∃ (n79 : Int) (v80 : Value), e78 = .returned (.tuple #[(.int .i64 n79), v80]) ∧ (Calls Tryd.prog 11 #[(.pointer p7), (.agg #[(.bool false), (.int .i64 n1)])] w77 fun e82 w81 => ∃ (n83 : Int) (a84 : Option Addr) (m85 c86 : Nat) (v87 : Value), e82 = .returned (.tuple #[(.int .i64 n83), (.slice a84 m85 c86), v87]) ∧ (Calls Tryd.prog 10 #[(.pointer p7), (.int .i64 (-1)), (.slice none 0 0)] w81 fun e89 w88 => ∃ (b90 : Bool) (n91 : Int) (v92 : Value), e89 = .returned (.tuple #[(.agg #[(.bool b90), (.int .i64 n91)]), v92]) ∧ (withW (World.alloc w88 (.cells #[.bool false, .int .i64 0] 30)) fun w93 =>
 (canSt w93 w88.heap.size 0 [(.bool b90), (.int .i64 n91)] ∧ withW (setL w93 w88.heap.size 0 [(.bool b90), (.int .i64 n91)]) fun w94 =>
 (allOne [v36, v47, v55, v63, v67, v74, v80, v87, v92] ∧ (withW (World.alloc w94 (.cells #[v36, v47, v55, v63, v67, v74, v80, v87, v92] 26)) fun w95 =>
 (∃ (I96 : List Value → World → Prop) (μ97 : List Value → World → Nat), I96 [(.int .i64 0)] w95 ∧ ∀ (j99 : Env) (q100 : List Value) (w98 : World), I96 q100 w98 → ∃ (n101 : Int), q100 = [(.int .i64 n101)] ∧
 (bif (decide (n101 < ((9 : Nat) : Int))) then
 (∃ b102 f103, (some ⟨w94.heap.size, 0, none⟩ : Option Addr) = some ⟨b102, f103, none⟩ ∧ 0 ≤ n101 ∧ n101 < ((9 : Nat) : Int) ∧ (∃ (v104 : Value), World.cell? w98 ⟨b102, (f103 + (n101 : Int).toNat * 1), none⟩ = some v104 ∧ (∃ (v105 : Value), World.cell? w98 ⟨1, 0, none⟩ = some v105 ∧ (∃ (r106 : Bool), Runs Tryd.prog (semEq .neq 26 (.tmp 127) (.tmp 128) v104 v105) w98 (.bool r106) w98 ∧ (bif r106 then
 (R (.bool false) w98)
 else
 (I96 [(.int .i64 (IntKind.i64.wrap (n101 + 1)))] w98 ∧ μ97 [(.int .i64 (IntKind.i64.wrap (n101 + 1)))] w98 < μ97 [(.int .i64 n101)] w98))))))
 else
 (Calls Tryd.prog 12 #[(.pointer p7)] w98 fun e108 w107 => ∃ (n109 : Int), e108 = .returned (.int .i64 n109) ∧ (bif (n109 == (1 : Int)) then (∃ (b110 : Bool) (n111 : Int), cellsAt w107 w52.heap.size 0 [(.bool b110), (.int .i64 n111)] ∧ (∃ (b112 : Bool) (n113 : Int), cellsAt w107 w16.heap.size 0 [(.bool b112), (.int .i64 n113)] ∧ (∃ (r114 : Bool), Runs Tryd.prog (semEq .eql 30 (.tmp 135) (.tmp 136) (.agg #[(.bool b110), (.int .i64 n111)]) (.agg #[(.bool b112), (.int .i64 n113)])) w107 (.bool r114) w107 ∧ (R (.bool r114) w107)))) else (R (.bool false) w107)))))))))))))))))))))))))))))))))))))))))))))))))))
set_option maxRecDepth 100000 in
theorem HeapStrange.eq (n1 : Int) (w : World) (R : Value → World → Prop) : HeapStrange.W n1 w R = fnW Tryd.prog tys fns HeapStrange.hs Tryd.f6 [(.int .i64 n1)] w R := by kernel_rfl
theorem HeapStrange.ok : codeOk tys HeapStrange.hs Tryd.f6.ntmps (Tryd.f6.body.getD .skip) = true := by kernel_rfl
theorem HeapStrange.calls {n1 w R} (h : HeapStrange.W n1 w R) : Calls Tryd.prog 6 ([(.int .i64 n1)] : List Value).toArray w fun e w' => ∃ v, e = .returned v ∧ R v w' :=
  fnW_calls tysOk fnsOk follows Tryd.func6 (by kernel_rfl) HeapStrange.ok (by kernel_rfl) (HeapStrange.eq n1 w R ▸ h)
/-! ### Reach: function 15 -/
def Reach.hs : Hints := ⟨[(2, seqO [0, 1, 2]), (11, seqO [0, 1, 2, 3, 4, 5, 6, 7, 8, 9, 10, 11, 12, 13, 14])], [(6, [(7, .int .i64), (8, .sl)]), (13, [(8, .sl), (65, .int .i64)])]⟩
set_option maxRecDepth 100000 in
def Reach.W (p0b p0o : Nat) (a1 : Option Addr) (m2 c3 : Nat) (w : World) (R : Value → World → Prop) : Prop :=
 (Calls Tryd.prog 23 #[(.pointer (some ⟨p0b, p0o, none⟩ : Option Addr)), (.slice a1 m2 c3)] w fun e5 w4 => ∃ (b6 : Bool), e5 = .returned (.bool b6) ∧ (bif (!b6) then
 (withW (World.drew w4) fun w7 =>
 (∃ (v8 : Value), World.cell? w7 ⟨1, 0, none⟩ = some v8 ∧ (R (.tuple #[(.int .i64 0), v8]) w7)))
 else
 (withW (World.alloc w4 (.map #[] 0)) fun w9 =>
 (Calls Tryd.prog 28 #[(.slice a1 m2 c3)] w9 fun e11 w10 => ∃ (a12 : Option Addr) (m13 c14 : Nat), e11 = .returned (.slice a12 m13 c14) ∧ (∃ (I15 : List Value → World → Prop) (μ16 : List Value → World → Nat), I15 [(.int .i64 0), (.slice a12 m13 c14)] w10 ∧ ∀ (j18 : Env) (q19 : List Value) (w17 : World), I15 q19 w17 → ∃ (n20 : Int) (a21 : Option Addr) (m22 c23 : Nat), q19 = [(.int .i64 n20), (.slice a21 m22 c23)] ∧
 (bif (decide ((m22 : Int) > (0 : Int))) then
 (∃ b24 f25, a21 = some ⟨b24, f25, none⟩ ∧ 0 ≤ (IntKind.i64.wrap ((m22 : Int) - 1)) ∧ (IntKind.i64.wrap ((m22 : Int) - 1)) < (m22 : Int) ∧ (∃ (b26 : Bool) (n27 : Int), cellsAt w17 b24 (f25 + ((IntKind.i64.wrap ((m22 : Int) - 1)) : Int).toNat * 2) [(.bool b26), (.int .i64 n27)] ∧ (withW (World.alloc w17 (.cells #[.bool false, .int .i64 0] 30)) fun w28 =>
 (canSt w28 w17.heap.size 0 [(.bool b26), (.int .i64 n27)] ∧ withW (setL w28 w17.heap.size 0 [(.bool b26), (.int .i64 n27)]) fun w29 =>
 (0 ≤ (IntKind.i64.wrap ((m22 : Int) - 1)) ∧ (IntKind.i64.wrap ((m22 : Int) - 1)) ≤ (c23 : Int) ∧ (∃ (b30 : Bool), World.cell? w29 ⟨w17.heap.size, 0, none⟩ = some (.bool b30) ∧ (bif (!b30) then (I15 [(.int .i64 n20), (.slice (cutA a21 0 c23 2) (((IntKind.i64.wrap ((m22 : Int) - 1)) : Int).toNat) c23)] w29 ∧ μ16 [(.int .i64 n20), (.slice (cutA a21 0 c23 2) (((IntKind.i64.wrap ((m22 : Int) - 1)) : Int).toNat) c23)] w29 < μ16 [(.int .i64 n20), (.slice a21 m22 c23)] w17) else (∃ (n31 : Int), World.cell? w29 ⟨w17.heap.size, 1, none⟩ = some (.int .i64 n31) ∧ (∃ (b32 : Bool), Runs Tryd.prog (Instr.lookup 92 (.map (some w4.heap.size)) (.int .i64 n31) false) w29 (.bool b32) w29 ∧ (bif b32 then
 (I15 [(.int .i64 n20), (.slice (cutA a21 0 c23 2) (((IntKind.i64.wrap ((m22 : Int) - 1)) : Int).toNat) c23)] w29 ∧ μ16 [(.int .i64 n20), (.slice (cutA a21 0 c23 2) (((IntKind.i64.wrap ((m22 : Int) - 1)) : Int).toNat) c23)] w29 < μ16 [(.int .i64 n20), (.slice a21 m22 c23)] w17)
 else
 (∃ (n33 : Int), World.cell? w29 ⟨w17.heap.size, 1, none⟩ = some (.int .i64 n33) ∧ (∃ w34, Runs Tryd.prog (Instr.mapUpdate 92 (.map (some w4.heap.size)) (.int .i64 n33) (.bool true)) w29 () w34 ∧ (withW (World.drew w34) fun w35 =>
 (∃ b36 f37, (some ⟨p0b, p0o, none⟩ : Option Addr) = some ⟨b36, f37, none⟩ ∧ (∃ (a38 : Option Addr) (m39 c40 : Nat), World.cell? w35 ⟨b36, f37, none⟩ = some (.slice a38 m39 c40) ∧ (∃ (n41 : Int), World.cell? w35 ⟨w17.heap.size, 1, none⟩ = some (.int .i64 n41) ∧ (∃ b42 f43, a38 = some ⟨b42, f43, none⟩ ∧ 0 ≤ n41 ∧ n41 < (m39 : Int) ∧ (∃ (p44 : Option Addr), World.cell? w35 ⟨b42, ((f43 + (n41 : Int).toNat * 3) + 2), none⟩ = some (.pointer p44) ∧ (∃ b45 f46, p44 = some ⟨b45, f46, none⟩ ∧ (∃ (n47 : Int), World.cell? w35 ⟨b45, (f46 + 1), none⟩ = some (.int .i64 n47) ∧ (∃ (n48 : Int), World.cell? w35 ⟨w17.heap.size, 1, none⟩ = some (.int .i64 n48) ∧ (Calls Tryd.prog 26 #[(.pointer (some ⟨p0b, p0o, none⟩ : Option Addr)), (.int .i64 n48)] w35 fun e50 w49 => ∃ (a51 : Option Addr) (m52 c53 : Nat), e50 = .returned (.slice a51 m52 c53) ∧ (∃ (I54 : List Value → World → Prop) (μ55 : List Value → World → Nat), I54 [(.slice (cutA a21 0 c23 2) (((IntKind.i64.wrap ((m22 : Int) - 1)) : Int).toNat) c23), (.int .i64 0)] w49 ∧ ∀ (j57 : Env) (q58 : List Value) (w56 : World), I54 q58 w56 → ∃ (a59 : Option Addr) (m60 c61 : Nat) (n62 : Int), q58 = [(.slice a59 m60 c61), (.int .i64 n62)] ∧
 (bif (decide (n62 < (m52 : Int))) then
 (∃ b63 f64, a51 = some ⟨b63, f64, none⟩ ∧ 0 ≤ n62 ∧ n62 < (m52 : Int) ∧ (∃ (b65 : Bool) (n66 : Int) (p67 : Option Addr), cellsAt w56 b63 (f64 + (n62 : Int).toNat * 3) [(.bool b65), (.int .i64 n66), (.pointer p67)] ∧ (withW (World.alloc w56 (.cells #[.bool false, .int .i64 0, .pointer none] 84)) fun w68 =>
 (canSt w68 w56.heap.size 0 [(.bool b65), (.int .i64 n66), (.pointer p67)] ∧ withW (setL w68 w56.heap.size 0 [(.bool b65), (.int .i64 n66), (.pointer p67)]) fun w69 =>
 (∃ (b70 : Bool) (n71 : Int), cellsAt w69 w56.heap.size 0 [(.bool b70), (.int .i64 n71)] ∧ (withW (World.alloc w69 (.cells #[(.bool b70), (.int .i64 n71)] 30)) fun w72 =>
 (∃ (a73 : Option Addr) (m74 c75 : Nat) (w76 : World), Runs Tryd.prog (Builtin.append_ #[33, 33] 33 #[(.slice a59 m60 c61), (.slice (some ⟨w69.heap.size, 0, none⟩ : Option Addr) 1 1)]) w72 (.slice a73 m74 c75) w76 ∧ (I54 [(.slice a73 m74 c75), (.int .i64 (IntKind.i64.wrap (n62 + 1)))] w76 ∧ μ55 [(.slice a73 m74 c75), (.int .i64 (IntKind.i64.wrap (n62 + 1)))] w76 < μ55 [(.slice a59 m60 c61), (.int .i64 n62)] w56))))))))
 else
 (I15 [(.int .i64 (IntKind.i64.wrap (n20 + n47))), (.slice a59 m60 c61)] w56 ∧ μ16 [(.int .i64 (IntKind.i64.wrap (n20 + n47))), (.slice a59 m60 c61)] w56 < μ16 [(.int .i64 n20), (.slice a21 m22 c23)] w17)))))))))))))))))))))))))
 else
 (R (.tuple #[(.int .i64 n20), .nilIface]) w17)))))))
set_option maxRecDepth 100000 in
theorem Reach.eq (p0b p0o : Nat) (a1 : Option Addr) (m2 c3 : Nat) (w : World) (R : Value → World → Prop) : Reach.W p0b p0o a1 m2 c3 w R = fnW Tryd.prog tys fns Reach.hs Tryd.f15 [(.pointer (some ⟨p0b, p0o, none⟩ : Option Addr)), (.slice a1 m2 c3)] w R := by kernel_rfl
theorem Reach.ok : codeOk tys Reach.hs Tryd.f15.ntmps (Tryd.f15.body.getD .skip) = true := by kernel_rfl
theorem Reach.calls {p0b p0o a1 m2 c3 w R} (h : Reach.W p0b p0o a1 m2 c3 w R) : Calls Tryd.prog 15 ([(.pointer (some ⟨p0b, p0o, none⟩ : Option Addr)), (.slice a1 m2 c3)] : List Value).toArray w fun e w' => ∃ v, e = .returned v ∧ R v w' :=
  fnW_calls tysOk fnsOk follows Tryd.func15 (by kernel_rfl) Reach.ok (by kernel_rfl) (Reach.eq p0b p0o a1 m2 c3 w R ▸ h)
/-! ### Same: function 16 -/
def Same.hs : Hints := ⟨[(2, seqO [0, 1, 2])], []⟩
set_option maxRecDepth 100000 in
def Same.W (p0b p0o : Nat) (b1 : Bool) (n2 : Int) (b3 : Bool) (n4 : Int) (w : World) (R : Value → World → Prop) : Prop :=
 (withW (World.alloc w (.cells #[(.bool b1), (.int .i64 n2)] 30)) fun w5 =>
 (withW (World.alloc w5 (.cells #[(.bool b3), (.int .i64 n4)] 30)) fun w6 =>
 (∃ (b7 : Bool) (n8 : Int), cellsAt w6 w.heap.size 0 [(.bool b7), (.int .i64 n8)] ∧ (Calls Tryd.prog 25 #[(.pointer (some ⟨p0b, p0o, none⟩ : Option Addr)), (.agg #[(.bool b7), (.int .i64 n8)])] w6 fun e10 w9 => ∃ (b11 : Bool), e10 = .returned (.bool b11) ∧ (bif (!b11) then (withW (World.drew w9) fun w12 =>
 (∃ (v13 : Value), World.cell? w12 ⟨1, 0, none⟩ = some v13 ∧ (R (.tuple #[(.bool false), v13]) w12))) else (∃ (b14 : Bool) (n15 : Int), cellsAt w9 w5.heap.size 0 [(.bool b14), (.int .i64 n15)] ∧ (Calls Tryd.prog 25 #[(.pointer (some ⟨p0b, p0o, none⟩ : Option Addr)), (.agg #[(.bool b14), (.int .i64 n15)])] w9 fun e17 w16 => ∃ (b18 : Bool), e17 = .returned (.bool b18) ∧ (bif (!b18) then
 (withW (World.drew w16) fun w19 =>
 (∃ (v20 : Value), World.cell? w19 ⟨1, 0, none⟩ = some v20 ∧ (R (.tuple #[(.bool false), v20]) w19)))
 else
 (∃ (b21 : Bool) (n22 : Int), cellsAt w16 w.heap.size 0 [(.bool b21), (.int .i64 n22)] ∧ (∃ (b23 : Bool) (n24 : Int), cellsAt w16 w5.heap.size 0 [(.bool b23), (.int .i64 n24)] ∧ (Calls Tryd.prog 29 #[(.pointer (some ⟨p0b, p0o, none⟩ : Option Addr)), (.agg #[(.bool b21), (.int .i64 n22)]), (.agg #[(.bool b23), (.int .i64 n24)])] w16 fun e26 w25 => ∃ (b27 : Bool), e26 = .returned (.bool b27) ∧ (R (.tuple #[(.bool b27), .nilIface]) w25))))))))))))
set_option maxRecDepth 100000 in
theorem Same.eq (p0b p0o : Nat) (b1 : Bool) (n2 : Int) (b3 : Bool) (n4 : Int) (w : World) (R : Value → World → Prop) : Same.W p0b p0o b1 n2 b3 n4 w R = fnW Tryd.prog tys fns Same.hs Tryd.f16 [(.pointer (some ⟨p0b, p0o, none⟩ : Option Addr)), (.agg #[(.bool b1), (.int .i64 n2)]), (.agg #[(.bool b3), (.int .i64 n4)])] w R := by kernel_rfl
theorem Same.ok : codeOk tys Same.hs Tryd.f16.ntmps (Tryd.f16.body.getD .skip) = true := by kernel_rfl
theorem Same.calls {p0b p0o b1 n2 b3 n4 w R} (h : Same.W p0b p0o b1 n2 b3 n4 w R) : Calls Tryd.prog 16 ([(.pointer (some ⟨p0b, p0o, none⟩ : Option Addr)), (.agg #[(.bool b1), (.int .i64 n2)]), (.agg #[(.bool b3), (.int .i64 n4)])] : List Value).toArray w fun e w' => ∃ v, e = .returned v ∧ R v w' :=
  fnW_calls tysOk fnsOk follows Tryd.func16 (by kernel_rfl) Same.ok (by kernel_rfl) (Same.eq p0b p0o b1 n2 b3 n4 w R ▸ h)
/-! ### Nodes: function 17 -/
def Nodes.hs : Hints := ⟨[(2, seqO [0, 1, 2])], []⟩
set_option maxRecDepth 100000 in
def Nodes.W (p0b p0o : Nat) (b1 : Bool) (n2 : Int) (w : World) (R : Value → World → Prop) : Prop :=
 (withW (World.alloc w (.cells #[(.bool b1), (.int .i64 n2)] 30)) fun w3 =>
 (∃ (b4 : Bool) (n5 : Int), cellsAt w3 w.heap.size 0 [(.bool b4), (.int .i64 n5)] ∧ (Calls Tryd.prog 25 #[(.pointer (some ⟨p0b, p0o, none⟩ : Option Addr)), (.agg #[(.bool b4), (.int .i64 n5)])] w3 fun e7 w6 => ∃ (b8 : Bool), e7 = .returned (.bool b8) ∧ (bif (!b8) then
 (withW (World.drew w6) fun w9 =>
 (∃ (v10 : Value), World.cell? w9 ⟨1, 0, none⟩ = some v10 ∧ (R (.tuple #[(.int .i64 0), v10]) w9)))
 else
 (∃ (b11 : Bool) (n12 : Int), cellsAt w6 w.heap.size 0 [(.bool b11), (.int .i64 n12)] ∧ (Calls Tryd.prog 24 #[(.pointer (some ⟨p0b, p0o, none⟩ : Option Addr)), (.agg #[(.bool b11), (.int .i64 n12)])] w6 fun e14 w13 => ∃ (n15 : Int) (n16 : Int), e14 = .returned (.tuple #[(.int .i64 n15), (.int .i64 n16)]) ∧ (R (.tuple #[(.int .i64 n15), .nilIface]) w13)))))))
set_option maxRecDepth 100000 in
theorem Nodes.eq (p0b p0o : Nat) (b1 : Bool) (n2 : Int) (w : World) (R : Value → World → Prop) : Nodes.W p0b p0o b1 n2 w R = fnW Tryd.prog tys fns Nodes.hs Tryd.f17 [(.pointer (some ⟨p0b, p0o, none⟩ : Option Addr)), (.agg #[(.bool b1), (.int .i64 n2)])] w R := by kernel_rfl
theorem Nodes.ok : codeOk tys Nodes.hs Tryd.f17.ntmps (Tryd.f17.body.getD .skip) = true := by kernel_rfl
theorem Nodes.calls {p0b p0o b1 n2 w R} (h : Nodes.W p0b p0o b1 n2 w R) : Calls Tryd.prog 17 ([(.pointer (some ⟨p0b, p0o, none⟩ : Option Addr)), (.agg #[(.bool b1), (.int .i64 n2)])] : List Value).toArray w fun e w' => ∃ v, e = .returned v ∧ R v w' :=
  fnW_calls tysOk fnsOk follows Tryd.func17 (by kernel_rfl) Nodes.ok (by kernel_rfl) (Nodes.eq p0b p0o b1 n2 w R ▸ h)
end Go.Proofs.YtfenhbjamohdgaaDoor.Vh
end
