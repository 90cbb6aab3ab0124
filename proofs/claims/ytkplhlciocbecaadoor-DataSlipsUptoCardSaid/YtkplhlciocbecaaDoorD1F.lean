/- Forms of the functions of this seat, as the executor has them, each tied to the model by the kernel. -/
import Derived.Test.YtkplhlciocbecaaDoorVxG
import Derived.Test.YtkplhlciocbecaaDoorProg
set_option linter.unusedVariables false
namespace Go.Proofs.YtkplhlciocbecaaDoor.Vf
open Go.Vx
def tys : Tys := [(3, ⟨(.int .i64), 1, 8, [.int .i64 0], [.int .i64]⟩),
  (4, ⟨.bool, 1, 1, [.bool false], [.bool]⟩),
  (5, ⟨(.int .u8), 1, 1, [.int .u8 0], [.int .u8]⟩),
  (9, ⟨.str, 1, 16, [.string (⟨#[]⟩ : ByteArray)], [.str]⟩),
  (22, ⟨(.sl 24), 1, 24, [.slice none 0 0], [.sl]⟩),
  (24, ⟨(.agg [(0, 4), (1, 3), (2, 9), (3, 22)]), 4, 56, [.bool false, .int .i64 0, .string (⟨#[]⟩ : ByteArray), .slice none 0 0], [.bool, .int .i64, .str, .sl]⟩),
  (30, ⟨(.sl 5), 1, 24, [.slice none 0 0], [.sl]⟩),
  (33, ⟨.iface, 1, 16, [.nilIface], [.any]⟩),
  (59, ⟨(.sl 3), 1, 24, [.slice none 0 0], [.sl]⟩),
  (63, ⟨(.int .u64), 1, 8, [.int .u64 0], [.int .u64]⟩)]
theorem ty3 : Ty.Ok Tryd.prog 3 ⟨(.int .i64), 1, 8, [.int .i64 0], [.int .i64]⟩ := ⟨Tryd.underlying3, by kernel_rfl, by kernel_rfl, rfl⟩
theorem ty4 : Ty.Ok Tryd.prog 4 ⟨.bool, 1, 1, [.bool false], [.bool]⟩ := ⟨Tryd.underlying4, by kernel_rfl, by kernel_rfl, rfl⟩
theorem ty5 : Ty.Ok Tryd.prog 5 ⟨(.int .u8), 1, 1, [.int .u8 0], [.int .u8]⟩ := ⟨Tryd.underlying5, by kernel_rfl, by kernel_rfl, rfl⟩
theorem ty9 : Ty.Ok Tryd.prog 9 ⟨.str, 1, 16, [.string (⟨#[]⟩ : ByteArray)], [.str]⟩ := ⟨Tryd.underlying9, by kernel_rfl, by kernel_rfl, rfl⟩
theorem ty22 : Ty.Ok Tryd.prog 22 ⟨(.sl 24), 1, 24, [.slice none 0 0], [.sl]⟩ := ⟨Tryd.underlying22, by kernel_rfl, by kernel_rfl, rfl⟩
theorem ty24 : Ty.Ok Tryd.prog 24 ⟨(.agg [(0, 4), (1, 3), (2, 9), (3, 22)]), 4, 56, [.bool false, .int .i64 0, .string (⟨#[]⟩ : ByteArray), .slice none 0 0], [.bool, .int .i64, .str, .sl]⟩ := ⟨⟨_, Tryd.underlying24, rfl⟩, by kernel_rfl, by kernel_rfl, rfl⟩
theorem ty30 : Ty.Ok Tryd.prog 30 ⟨(.sl 5), 1, 24, [.slice none 0 0], [.sl]⟩ := ⟨Tryd.underlying30, by kernel_rfl, by kernel_rfl, rfl⟩
theorem ty33 : Ty.Ok Tryd.prog 33 ⟨.iface, 1, 16, [.nilIface], [.any]⟩ := ⟨⟨_, Tryd.underlying33⟩, by kernel_rfl, by kernel_rfl, rfl⟩
theorem ty59 : Ty.Ok Tryd.prog 59 ⟨(.sl 3), 1, 24, [.slice none 0 0], [.sl]⟩ := ⟨Tryd.underlying59, by kernel_rfl, by kernel_rfl, rfl⟩
theorem ty63 : Ty.Ok Tryd.prog 63 ⟨(.int .u64), 1, 8, [.int .u64 0], [.int .u64]⟩ := ⟨Tryd.underlying63, by kernel_rfl, by kernel_rfl, rfl⟩
theorem tysOk : AllOk Tryd.prog tys := ⟨ty3, ty4, ty5, ty9, ty22, ty24, ty30, ty33, ty59, ty63, trivial⟩
def fns : Fns := [(7, [4]), (8, [4]), (9, [3]), (10, [4]), (11, [3]), (12, [3]), (18, [30, 33]), (19, [3, 3]), (20, [3, 4]), (21, [3]), (22, [3]), (23, [3]), (26, [30, 33]), (27, [4]), (28, [4])]
theorem fnOk7 : ∃ fn, Tryd.prog.funcs[7]? = some fn ∧ (fn.name == "runtime.NumGoroutine") = false ∧ fn.body.isNone = false := ⟨_, Tryd.func7, by kernel_rfl, by kernel_rfl⟩
theorem fnOk8 : ∃ fn, Tryd.prog.funcs[8]? = some fn ∧ (fn.name == "runtime.NumGoroutine") = false ∧ fn.body.isNone = false := ⟨_, Tryd.func8, by kernel_rfl, by kernel_rfl⟩
theorem fnOk9 : ∃ fn, Tryd.prog.funcs[9]? = some fn ∧ (fn.name == "runtime.NumGoroutine") = false ∧ fn.body.isNone = false := ⟨_, Tryd.func9, by kernel_rfl, by kernel_rfl⟩
theorem fnOk10 : ∃ fn, Tryd.prog.funcs[10]? = some fn ∧ (fn.name == "runtime.NumGoroutine") = false ∧ fn.body.isNone = false := ⟨_, Tryd.func10, by kernel_rfl, by kernel_rfl⟩
theorem fnOk11 : ∃ fn, Tryd.prog.funcs[11]? = some fn ∧ (fn.name == "runtime.NumGoroutine") = false ∧ fn.body.isNone = false := ⟨_, Tryd.func11, by kernel_rfl, by kernel_rfl⟩
theorem fnOk12 : ∃ fn, Tryd.prog.funcs[12]? = some fn ∧ (fn.name == "runtime.NumGoroutine") = false ∧ fn.body.isNone = false := ⟨_, Tryd.func12, by kernel_rfl, by kernel_rfl⟩
theorem fnOk18 : ∃ fn, Tryd.prog.funcs[18]? = some fn ∧ (fn.name == "runtime.NumGoroutine") = false ∧ fn.body.isNone = false := ⟨_, Tryd.func18, by kernel_rfl, by kernel_rfl⟩
theorem fnOk19 : ∃ fn, Tryd.prog.funcs[19]? = some fn ∧ (fn.name == "runtime.NumGoroutine") = false ∧ fn.body.isNone = false := ⟨_, Tryd.func19, by kernel_rfl, by kernel_rfl⟩
theorem fnOk20 : ∃ fn, Tryd.prog.funcs[20]? = some fn ∧ (fn.name == "runtime.NumGoroutine") = false ∧ fn.body.isNone = false := ⟨_, Tryd.func20, by kernel_rfl, by kernel_rfl⟩
theorem fnOk21 : ∃ fn, Tryd.prog.funcs[21]? = some fn ∧ (fn.name == "runtime.NumGoroutine") = false ∧ fn.body.isNone = false := ⟨_, Tryd.func21, by kernel_rfl, by kernel_rfl⟩
theorem fnOk22 : ∃ fn, Tryd.prog.funcs[22]? = some fn ∧ (fn.name == "runtime.NumGoroutine") = false ∧ fn.body.isNone = false := ⟨_, Tryd.func22, by kernel_rfl, by kernel_rfl⟩
theorem fnOk23 : ∃ fn, Tryd.prog.funcs[23]? = some fn ∧ (fn.name == "runtime.NumGoroutine") = false ∧ fn.body.isNone = false := ⟨_, Tryd.func23, by kernel_rfl, by kernel_rfl⟩
theorem fnOk26 : ∃ fn, Tryd.prog.funcs[26]? = some fn ∧ (fn.name == "runtime.NumGoroutine") = false ∧ fn.body.isNone = false := ⟨_, Tryd.func26, by kernel_rfl, by kernel_rfl⟩
theorem fnOk27 : ∃ fn, Tryd.prog.funcs[27]? = some fn ∧ (fn.name == "runtime.NumGoroutine") = false ∧ fn.body.isNone = false := ⟨_, Tryd.func27, by kernel_rfl, by kernel_rfl⟩
theorem fnOk28 : ∃ fn, Tryd.prog.funcs[28]? = some fn ∧ (fn.name == "runtime.NumGoroutine") = false ∧ fn.body.isNone = false := ⟨_, Tryd.func28, by kernel_rfl, by kernel_rfl⟩
theorem fnsOk : FnsOk Tryd.prog fns := ⟨fnOk7, fnOk8, fnOk9, fnOk10, fnOk11, fnOk12, fnOk18, fnOk19, fnOk20, fnOk21, fnOk22, fnOk23, fnOk26, fnOk27, fnOk28, trivial⟩
theorem follows : Tryd.prog.follows .mixedOrders = true := by kernel_rfl
/-! ### put: function 26 -/
def put.hs : Hints := ⟨[(9, [0, 1, 2])], [(4, [(0, .sl), (6, .int .i64)]), (14, [(0, .sl), (68, .int .i64)])]⟩
set_option maxRecDepth 100000 in
def put.W (a1 : Option Addr) (m2 c3 : Nat) (b4 : Bool) (n5 : Int) (s6 : ByteArray) (a7 : Option Addr) (m8 c9 : Nat) (w : World) (R : Value → World → Prop) : Prop :=
 (withW (World.alloc w (.cells #[(.bool b4), (.int .i64 n5), (.string s6), (.slice a7 m8 c9)] 24)) fun w10 =>
 (∃ (b11 : Bool), World.cell? w10 ⟨w.heap.size, 0, none⟩ = some (.bool b11) ∧ (bif (!b11) then
 (withW (World.alloc w10 (.cells #[(.int .u8 0)] 5)) fun w12 =>
 (∃ (a13 : Option Addr) (m14 c15 : Nat) (w16 : World), Runs Tryd.prog (Builtin.append_ #[30, 30] 30 #[(.slice a1 m2 c3), (.slice (some ⟨w10.heap.size, 0, none⟩ : Option Addr) 1 1)]) w12 (.slice a13 m14 c15) w16 ∧ (∃ (I17 : List Value → World → Prop) (μ18 : List Value → World → Nat), I17 [(.slice a13 m14 c15), (.int .i64 0)] w16 ∧ ∀ (j20 : Env) (q21 : List Value) (w19 : World), I17 q21 w19 → ∃ (a22 : Option Addr) (m23 c24 : Nat) (n25 : Int), q21 = [(.slice a22 m23 c24), (.int .i64 n25)] ∧
 (bif (decide (n25 < (64 : Int))) then
 (∃ (n26 : Int), World.cell? w19 ⟨w.heap.size, 1, none⟩ = some (.int .i64 n26) ∧ (0 ≤ n25 ∧ (withW (World.alloc w19 (.cells #[(.int .u8 (IntKind.u8.wrap (Int.fdiv (IntKind.u64.wrap n26) (2 ^ min (n25 : Int).toNat IntKind.u64.bits))))] 5)) fun w27 =>
 (∃ (a28 : Option Addr) (m29 c30 : Nat) (w31 : World), Runs Tryd.prog (Builtin.append_ #[30, 30] 30 #[(.slice a22 m23 c24), (.slice (some ⟨w19.heap.size, 0, none⟩ : Option Addr) 1 1)]) w27 (.slice a28 m29 c30) w31 ∧ (I17 [(.slice a28 m29 c30), (.int .i64 (IntKind.i64.wrap (n25 + 8)))] w31 ∧ μ18 [(.slice a28 m29 c30), (.int .i64 (IntKind.i64.wrap (n25 + 8)))] w31 < μ18 [(.slice a22 m23 c24), (.int .i64 n25)] w19)))))
 else
 (R (.tuple #[(.slice a22 m23 c24), .nilIface]) w19)))))
 else
 (∃ (s32 : ByteArray), World.cell? w10 ⟨w.heap.size, 2, none⟩ = some (.string s32) ∧ (bif (decide ((s32.size : Int) < (1 : Int))) then (withW (World.drew w10) fun w33 =>
 (∃ (v34 : Value), World.cell? w33 ⟨2, 0, none⟩ = some v34 ∧ (R (.tuple #[(.slice none 0 0), v34]) w33))) else (∃ (s35 : ByteArray), World.cell? w10 ⟨w.heap.size, 2, none⟩ = some (.string s35) ∧ (bif (decide ((s35.size : Int) > (32 : Int))) then (withW (World.drew w10) fun w36 =>
 (∃ (v37 : Value), World.cell? w36 ⟨2, 0, none⟩ = some v37 ∧ (R (.tuple #[(.slice none 0 0), v37]) w36))) else (∃ (a38 : Option Addr) (m39 c40 : Nat), World.cell? w10 ⟨w.heap.size, 3, none⟩ = some (.slice a38 m39 c40) ∧ (bif (decide ((m39 : Int) > (8 : Int))) then
 (withW (World.drew w10) fun w41 =>
 (∃ (v42 : Value), World.cell? w41 ⟨2, 0, none⟩ = some v42 ∧ (R (.tuple #[(.slice none 0 0), v42]) w41)))
 else
 (∃ (s43 : ByteArray), World.cell? w10 ⟨w.heap.size, 2, none⟩ = some (.string s43) ∧ (withW (World.alloc w10 (.cells #[(.int .u8 1), (.int .u8 (IntKind.u8.wrap (s43.size : Int)))] 5)) fun w44 =>
 (∃ (a45 : Option Addr) (m46 c47 : Nat) (w48 : World), Runs Tryd.prog (Builtin.append_ #[30, 30] 30 #[(.slice a1 m2 c3), (.slice (some ⟨w10.heap.size, 0, none⟩ : Option Addr) 2 2)]) w44 (.slice a45 m46 c47) w48 ∧ (∃ (s49 : ByteArray), World.cell? w48 ⟨w.heap.size, 2, none⟩ = some (.string s49) ∧ (∃ (a50 : Option Addr) (m51 c52 : Nat) (w53 : World), Runs Tryd.prog (Builtin.append_ #[30, 9] 30 #[(.slice a45 m46 c47), (.string s49)]) w48 (.slice a50 m51 c52) w53 ∧ (∃ (a54 : Option Addr) (m55 c56 : Nat), World.cell? w53 ⟨w.heap.size, 3, none⟩ = some (.slice a54 m55 c56) ∧ (withW (World.alloc w53 (.cells #[(.int .u8 (IntKind.u8.wrap (m55 : Int)))] 5)) fun w57 =>
 (∃ (a58 : Option Addr) (m59 c60 : Nat) (w61 : World), Runs Tryd.prog (Builtin.append_ #[30, 30] 30 #[(.slice a50 m51 c52), (.slice (some ⟨w53.heap.size, 0, none⟩ : Option Addr) 1 1)]) w57 (.slice a58 m59 c60) w61 ∧ (∃ (a62 : Option Addr) (m63 c64 : Nat), World.cell? w61 ⟨w.heap.size, 3, none⟩ = some (.slice a62 m63 c64) ∧ (∃ (I65 : List Value → World → Prop) (μ66 : List Value → World → Nat), I65 [(.slice a58 m59 c60), (.int .i64 0)] w61 ∧ ∀ (j68 : Env) (q69 : List Value) (w67 : World), I65 q69 w67 → ∃ (a70 : Option Addr) (m71 c72 : Nat) (n73 : Int), q69 = [(.slice a70 m71 c72), (.int .i64 n73)] ∧
 (bif (decide (n73 < (m63 : Int))) then
 (∃ b74 f75, a62 = some ⟨b74, f75, none⟩ ∧ 0 ≤ n73 ∧ n73 < (m63 : Int) ∧ (∃ (b76 : Bool) (n77 : Int) (s78 : ByteArray) (a79 : Option Addr) (m80 c81 : Nat), cellsAt w67 b74 (f75 + (n73 : Int).toNat * 4) [(.bool b76), (.int .i64 n77), (.string s78), (.slice a79 m80 c81)] ∧ (withW (World.alloc w67 (.cells #[.bool false, .int .i64 0, .string (⟨#[]⟩ : ByteArray), .slice none 0 0] 24)) fun w82 =>
 (canSt w82 w67.heap.size 0 [(.bool b76), (.int .i64 n77), (.string s78), (.slice a79 m80 c81)] ∧ withW (setL w82 w67.heap.size 0 [(.bool b76), (.int .i64 n77), (.string s78), (.slice a79 m80 c81)]) fun w83 =>
 (∃ (b84 : Bool) (n85 : Int) (s86 : ByteArray) (a87 : Option Addr) (m88 c89 : Nat), cellsAt w83 w67.heap.size 0 [(.bool b84), (.int .i64 n85), (.string s86), (.slice a87 m88 c89)] ∧ (Calls Tryd.prog 26 #[(.slice a70 m71 c72), (.agg #[(.bool b84), (.int .i64 n85), (.string s86), (.slice a87 m88 c89)])] w83 fun e91 w90 => ∃ (a92 : Option Addr) (m93 c94 : Nat) (v95 : Value), e91 = .returned (.tuple #[(.slice a92 m93 c94), v95]) ∧ (∃ r96, IsNil v95 r96 ∧ (bif (!r96) then
 (R (.tuple #[(.slice none 0 0), v95]) w90)
 else
 (I65 [(.slice a92 m93 c94), (.int .i64 (IntKind.i64.wrap (n73 + 1)))] w90 ∧ μ66 [(.slice a92 m93 c94), (.int .i64 (IntKind.i64.wrap (n73 + 1)))] w90 < μ66 [(.slice a70 m71 c72), (.int .i64 n73)] w67)))))))))
 else
 (R (.tuple #[(.slice a70 m71 c72), .nilIface]) w67)))))))))))))))))))))
set_option maxRecDepth 100000 in
theorem put.eq (a1 : Option Addr) (m2 c3 : Nat) (b4 : Bool) (n5 : Int) (s6 : ByteArray) (a7 : Option Addr) (m8 c9 : Nat) (w : World) (R : Value → World → Prop) : put.W a1 m2 c3 b4 n5 s6 a7 m8 c9 w R = fnW Tryd.prog tys fns put.hs Tryd.f26 [(.slice a1 m2 c3), (.agg #[(.bool b4), (.int .i64 n5), (.string s6), (.slice a7 m8 c9)])] w R := by kernel_rfl
theorem put.ok : codeOk tys put.hs Tryd.f26.ntmps (Tryd.f26.body.getD .skip) = true := by kernel_rfl
theorem put.calls {a1 m2 c3 b4 n5 s6 a7 m8 c9 w R} (h : put.W a1 m2 c3 b4 n5 s6 a7 m8 c9 w R) : Calls Tryd.prog 26 ([(.slice a1 m2 c3), (.agg #[(.bool b4), (.int .i64 n5), (.string s6), (.slice a7 m8 c9)])] : List Value).toArray w fun e w' => ∃ v, e = .returned v ∧ R v w' :=
  fnW_calls tysOk fnsOk follows Tryd.func26 (by kernel_rfl) put.ok (by kernel_rfl) (put.eq a1 m2 c3 b4 n5 s6 a7 m8 c9 w R ▸ h)
/-! ### Encode: function 18 -/
def Encode.hs : Hints := ⟨[(2, [0, 1, 2])], []⟩
set_option maxRecDepth 100000 in
def Encode.W (b1 : Bool) (n2 : Int) (s3 : ByteArray) (a4 : Option Addr) (m5 c6 : Nat) (w : World) (R : Value → World → Prop) : Prop :=
 (withW (World.alloc w (.cells #[(.bool b1), (.int .i64 n2), (.string s3), (.slice a4 m5 c6)] 24)) fun w7 =>
 (∃ (b8 : Bool) (n9 : Int) (s10 : ByteArray) (a11 : Option Addr) (m12 c13 : Nat), cellsAt w7 w.heap.size 0 [(.bool b8), (.int .i64 n9), (.string s10), (.slice a11 m12 c13)] ∧ (Calls Tryd.prog 10 #[(.agg #[(.bool b8), (.int .i64 n9), (.string s10), (.slice a11 m12 c13)])] w7 fun e15 w14 => ∃ (b16 : Bool), e15 = .returned (.bool b16) ∧ (bif (!b16) then
 (withW (World.drew w14) fun w17 =>
 (∃ (v18 : Value), World.cell? w17 ⟨1, 0, none⟩ = some v18 ∧ (R (.tuple #[(.slice none 0 0), v18]) w17)))
 else
 (∃ (b19 : Bool) (n20 : Int) (s21 : ByteArray) (a22 : Option Addr) (m23 c24 : Nat), cellsAt w14 w.heap.size 0 [(.bool b19), (.int .i64 n20), (.string s21), (.slice a22 m23 c24)] ∧ (Calls Tryd.prog 26 #[(.slice none 0 0), (.agg #[(.bool b19), (.int .i64 n20), (.string s21), (.slice a22 m23 c24)])] w14 fun e26 w25 => ∃ (a27 : Option Addr) (m28 c29 : Nat) (v30 : Value), e26 = .returned (.tuple #[(.slice a27 m28 c29), v30]) ∧ (R (.tuple #[(.slice a27 m28 c29), v30]) w25)))))))
set_option maxRecDepth 100000 in
theorem Encode.eq (b1 : Bool) (n2 : Int) (s3 : ByteArray) (a4 : Option Addr) (m5 c6 : Nat) (w : World) (R : Value → World → Prop) : Encode.W b1 n2 s3 a4 m5 c6 w R = fnW Tryd.prog tys fns Encode.hs Tryd.f18 [(.agg #[(.bool b1), (.int .i64 n2), (.string s3), (.slice a4 m5 c6)])] w R := by kernel_rfl
theorem Encode.ok : codeOk tys Encode.hs Tryd.f18.ntmps (Tryd.f18.body.getD .skip) = true := by kernel_rfl
theorem Encode.calls {b1 n2 s3 a4 m5 c6 w R} (h : Encode.W b1 n2 s3 a4 m5 c6 w R) : Calls Tryd.prog 18 ([(.agg #[(.bool b1), (.int .i64 n2), (.string s3), (.slice a4 m5 c6)])] : List Value).toArray w fun e w' => ∃ v, e = .returned v ∧ R v w' :=
  fnW_calls tysOk fnsOk follows Tryd.func18 (by kernel_rfl) Encode.ok (by kernel_rfl) (Encode.eq b1 n2 s3 a4 m5 c6 w R ▸ h)
/-! ### alive: function 7 -/
def alive.hs : Hints := ⟨[], []⟩
set_option maxRecDepth 100000 in
def alive.W  (w : World) (R : Value → World → Prop) : Prop :=
 (withW (World.alloc w (.cells #[(.bool false), (.int .i64 1), (.string (⟨#[]⟩ : ByteArray)), (.slice none 0 0), (.bool true), (.int .i64 0), (.string (⟨#[110, 105, 108]⟩ : ByteArray)), (.slice none 0 0)] 24)) fun w1 =>
 (Calls Tryd.prog 18 #[(.agg #[(.bool true), (.int .i64 0), (.string (⟨#[99, 111, 110, 115]⟩ : ByteArray)), (.slice (some ⟨w.heap.size, 0, none⟩ : Option Addr) 2 2)])] w1 fun e3 w2 => ∃ (a4 : Option Addr) (m5 c6 : Nat) (v7 : Value), e3 = .returned (.tuple #[(.slice a4 m5 c6), v7]) ∧ (∃ r8, IsNil v7 r8 ∧ (bif r8 then (∃ (s9 : ByteArray), Runs Tryd.prog (convert 30 9 (.slice a4 m5 c6)) w2 (.string s9) w2 ∧ (R (.bool (s9.toList == (⟨#[1, 4, 99, 111, 110, 115, 2, 0, 1, 0, 0, 0, 0, 0, 0, 0, 1, 3, 110, 105, 108, 0]⟩ : ByteArray).toList)) w2)) else (R (.bool false) w2)))))
set_option maxRecDepth 100000 in
theorem alive.eq  (w : World) (R : Value → World → Prop) : alive.W  w R = fnW Tryd.prog tys fns alive.hs Tryd.f7 [] w R := by kernel_rfl
theorem alive.ok : codeOk tys alive.hs Tryd.f7.ntmps (Tryd.f7.body.getD .skip) = true := by kernel_rfl
theorem alive.calls { w R} (h : alive.W  w R) : Calls Tryd.prog 7 ([] : List Value).toArray w fun e w' => ∃ v, e = .returned v ∧ R v w' :=
  fnW_calls tysOk fnsOk follows Tryd.func7 (by kernel_rfl) alive.ok (by kernel_rfl) (alive.eq  w R ▸ h)
/-! ### refGood: function 8 -/
def refGood.hs : Hints := ⟨[], []⟩
set_option maxRecDepth 100000 in
def refGood.W (b1 : Bool) (n2 : Int) (s3 : ByteArray) (a4 : Option Addr) (m5 c6 : Nat) (w : World) (R : Value → World → Prop) : Prop :=
 (withW (World.alloc w (.cells #[(.bool b1), (.int .i64 n2), (.string s3), (.slice a4 m5 c6)] 24)) fun w7 =>
 (∃ (b8 : Bool) (n9 : Int) (s10 : ByteArray) (a11 : Option Addr) (m12 c13 : Nat), cellsAt w7 w.heap.size 0 [(.bool b8), (.int .i64 n9), (.string s10), (.slice a11 m12 c13)] ∧ (Calls Tryd.prog 19 #[(.agg #[(.bool b8), (.int .i64 n9), (.string s10), (.slice a11 m12 c13)]), (.int .i64 1)] w7 fun e15 w14 => ∃ (n16 : Int) (n17 : Int), e15 = .returned (.tuple #[(.int .i64 n16), (.int .i64 n17)]) ∧ (bif (decide (n16 ≤ (4096 : Int))) then (R (.bool (decide (n17 ≤ (200 : Int)))) w14) else (R (.bool false) w14)))))
set_option maxRecDepth 100000 in
theorem refGood.eq (b1 : Bool) (n2 : Int) (s3 : ByteArray) (a4 : Option Addr) (m5 c6 : Nat) (w : World) (R : Value → World → Prop) : refGood.W b1 n2 s3 a4 m5 c6 w R = fnW Tryd.prog tys fns refGood.hs Tryd.f8 [(.agg #[(.bool b1), (.int .i64 n2), (.string s3), (.slice a4 m5 c6)])] w R := by kernel_rfl
theorem refGood.ok : codeOk tys refGood.hs Tryd.f8.ntmps (Tryd.f8.body.getD .skip) = true := by kernel_rfl
theorem refGood.calls {b1 n2 s3 a4 m5 c6 w R} (h : refGood.W b1 n2 s3 a4 m5 c6 w R) : Calls Tryd.prog 8 ([(.agg #[(.bool b1), (.int .i64 n2), (.string s3), (.slice a4 m5 c6)])] : List Value).toArray w fun e w' => ∃ v, e = .returned v ∧ R v w' :=
  fnW_calls tysOk fnsOk follows Tryd.func8 (by kernel_rfl) refGood.ok (by kernel_rfl) (refGood.eq b1 n2 s3 a4 m5 c6 w R ▸ h)
/-! ### count: function 19 -/
def count.hs : Hints := ⟨[], [(5, [(6, .int .i64), (7, .int .i64), (25, .int .i64)])]⟩
set_option maxRecDepth 100000 in
def count.W (b1 : Bool) (n2 : Int) (s3 : ByteArray) (a4 : Option Addr) (m5 c6 : Nat) (n7 : Int) (w : World) (R : Value → World → Prop) : Prop :=
 (withW (World.alloc w (.cells #[(.bool b1), (.int .i64 n2), (.string s3), (.slice a4 m5 c6)] 24)) fun w8 =>
 (bif (decide (n7 > (200 : Int))) then (R (.tuple #[(.int .i64 1), (.int .i64 n7)]) w8) else (∃ (b9 : Bool), World.cell? w8 ⟨w.heap.size, 0, none⟩ = some (.bool b9) ∧ (bif (!b9) then
 (R (.tuple #[(.int .i64 1), (.int .i64 n7)]) w8)
 else
 (∃ (a10 : Option Addr) (m11 c12 : Nat), World.cell? w8 ⟨w.heap.size, 3, none⟩ = some (.slice a10 m11 c12) ∧ (∃ (I13 : List Value → World → Prop) (μ14 : List Value → World → Nat), I13 [(.int .i64 1), (.int .i64 n7), (.int .i64 0)] w8 ∧ ∀ (j16 : Env) (q17 : List Value) (w15 : World), I13 q17 w15 → ∃ (n18 : Int) (n19 : Int) (n20 : Int), q17 = [(.int .i64 n18), (.int .i64 n19), (.int .i64 n20)] ∧
 (bif (decide (n20 < (m11 : Int))) then
 (∃ b21 f22, a10 = some ⟨b21, f22, none⟩ ∧ 0 ≤ n20 ∧ n20 < (m11 : Int) ∧ (∃ (b23 : Bool) (n24 : Int) (s25 : ByteArray) (a26 : Option Addr) (m27 c28 : Nat), cellsAt w15 b21 (f22 + (n20 : Int).toNat * 4) [(.bool b23), (.int .i64 n24), (.string s25), (.slice a26 m27 c28)] ∧ (withW (World.alloc w15 (.cells #[.bool false, .int .i64 0, .string (⟨#[]⟩ : ByteArray), .slice none 0 0] 24)) fun w29 =>
 (canSt w29 w15.heap.size 0 [(.bool b23), (.int .i64 n24), (.string s25), (.slice a26 m27 c28)] ∧ withW (setL w29 w15.heap.size 0 [(.bool b23), (.int .i64 n24), (.string s25), (.slice a26 m27 c28)]) fun w30 =>
 (∃ (b31 : Bool) (n32 : Int) (s33 : ByteArray) (a34 : Option Addr) (m35 c36 : Nat), cellsAt w30 w15.heap.size 0 [(.bool b31), (.int .i64 n32), (.string s33), (.slice a34 m35 c36)] ∧ (Calls Tryd.prog 19 #[(.agg #[(.bool b31), (.int .i64 n32), (.string s33), (.slice a34 m35 c36)]), (.int .i64 (IntKind.i64.wrap (n7 + 1)))] w30 fun e38 w37 => ∃ (n39 : Int) (n40 : Int), e38 = .returned (.tuple #[(.int .i64 n39), (.int .i64 n40)]) ∧ (bif (decide (n40 > n19)) then
 (bif (decide ((IntKind.i64.wrap (n18 + n39)) > (4096 : Int))) then
 (R (.tuple #[(.int .i64 4097), (.int .i64 n40)]) w37)
 else
 (I13 [(.int .i64 (IntKind.i64.wrap (n18 + n39))), (.int .i64 n40), (.int .i64 (IntKind.i64.wrap (n20 + 1)))] w37 ∧ μ14 [(.int .i64 (IntKind.i64.wrap (n18 + n39))), (.int .i64 n40), (.int .i64 (IntKind.i64.wrap (n20 + 1)))] w37 < μ14 [(.int .i64 n18), (.int .i64 n19), (.int .i64 n20)] w15))
 else
 (bif (decide ((IntKind.i64.wrap (n18 + n39)) > (4096 : Int))) then
 (R (.tuple #[(.int .i64 4097), (.int .i64 n19)]) w37)
 else
 (I13 [(.int .i64 (IntKind.i64.wrap (n18 + n39))), (.int .i64 n19), (.int .i64 (IntKind.i64.wrap (n20 + 1)))] w37 ∧ μ14 [(.int .i64 (IntKind.i64.wrap (n18 + n39))), (.int .i64 n19), (.int .i64 (IntKind.i64.wrap (n20 + 1)))] w37 < μ14 [(.int .i64 n18), (.int .i64 n19), (.int .i64 n20)] w15)))))))))
 else
 (R (.tuple #[(.int .i64 n18), (.int .i64 n19)]) w15))))))))
set_option maxRecDepth 100000 in
theorem count.eq (b1 : Bool) (n2 : Int) (s3 : ByteArray) (a4 : Option Addr) (m5 c6 : Nat) (n7 : Int) (w : World) (R : Value → World → Prop) : count.W b1 n2 s3 a4 m5 c6 n7 w R = fnW Tryd.prog tys fns count.hs Tryd.f19 [(.agg #[(.bool b1), (.int .i64 n2), (.string s3), (.slice a4 m5 c6)]), (.int .i64 n7)] w R := by kernel_rfl
theorem count.ok : codeOk tys count.hs Tryd.f19.ntmps (Tryd.f19.body.getD .skip) = true := by kernel_rfl
theorem count.calls {b1 n2 s3 a4 m5 c6 n7 w R} (h : count.W b1 n2 s3 a4 m5 c6 n7 w R) : Calls Tryd.prog 19 ([(.agg #[(.bool b1), (.int .i64 n2), (.string s3), (.slice a4 m5 c6)]), (.int .i64 n7)] : List Value).toArray w fun e w' => ∃ v, e = .returned v ∧ R v w' :=
  fnW_calls tysOk fnsOk follows Tryd.func19 (by kernel_rfl) count.ok (by kernel_rfl) (count.eq b1 n2 s3 a4 m5 c6 n7 w R ▸ h)
/-! ### measure: function 20 -/
def measure.hs : Hints := ⟨[], [(7, [(2, .int .i64), (28, .int .i64)])]⟩
set_option maxRecDepth 100000 in
def measure.W (b1 : Bool) (n2 : Int) (s3 : ByteArray) (a4 : Option Addr) (m5 c6 : Nat) (n7 : Int) (n8 : Int) (w : World) (R : Value → World → Prop) : Prop :=
 (withW (World.alloc w (.cells #[(.bool b1), (.int .i64 n2), (.string s3), (.slice a4 m5 c6)] 24)) fun w9 =>
 (bif (decide (n7 > (200 : Int))) then (R (.tuple #[(.int .i64 (IntKind.i64.wrap (n8 + 1))), (.bool false)]) w9) else (bif (decide ((IntKind.i64.wrap (n8 + 1)) > (4096 : Int))) then
 (R (.tuple #[(.int .i64 (IntKind.i64.wrap (n8 + 1))), (.bool false)]) w9)
 else
 (∃ (b10 : Bool), World.cell? w9 ⟨w.heap.size, 0, none⟩ = some (.bool b10) ∧ (bif (!b10) then
 (R (.tuple #[(.int .i64 (IntKind.i64.wrap (n8 + 1))), (.bool true)]) w9)
 else
 (∃ (a11 : Option Addr) (m12 c13 : Nat), World.cell? w9 ⟨w.heap.size, 3, none⟩ = some (.slice a11 m12 c13) ∧ (∃ (I14 : List Value → World → Prop) (μ15 : List Value → World → Nat), I14 [(.int .i64 (IntKind.i64.wrap (n8 + 1))), (.int .i64 0)] w9 ∧ ∀ (j17 : Env) (q18 : List Value) (w16 : World), I14 q18 w16 → ∃ (n19 : Int) (n20 : Int), q18 = [(.int .i64 n19), (.int .i64 n20)] ∧
 (bif (decide (n20 < (m12 : Int))) then
 (∃ b21 f22, a11 = some ⟨b21, f22, none⟩ ∧ 0 ≤ n20 ∧ n20 < (m12 : Int) ∧ (∃ (b23 : Bool) (n24 : Int) (s25 : ByteArray) (a26 : Option Addr) (m27 c28 : Nat), cellsAt w16 b21 (f22 + (n20 : Int).toNat * 4) [(.bool b23), (.int .i64 n24), (.string s25), (.slice a26 m27 c28)] ∧ (withW (World.alloc w16 (.cells #[.bool false, .int .i64 0, .string (⟨#[]⟩ : ByteArray), .slice none 0 0] 24)) fun w29 =>
 (canSt w29 w16.heap.size 0 [(.bool b23), (.int .i64 n24), (.string s25), (.slice a26 m27 c28)] ∧ withW (setL w29 w16.heap.size 0 [(.bool b23), (.int .i64 n24), (.string s25), (.slice a26 m27 c28)]) fun w30 =>
 (∃ (b31 : Bool) (n32 : Int) (s33 : ByteArray) (a34 : Option Addr) (m35 c36 : Nat), cellsAt w30 w16.heap.size 0 [(.bool b31), (.int .i64 n32), (.string s33), (.slice a34 m35 c36)] ∧ (Calls Tryd.prog 20 #[(.agg #[(.bool b31), (.int .i64 n32), (.string s33), (.slice a34 m35 c36)]), (.int .i64 (IntKind.i64.wrap (n7 + 1))), (.int .i64 n19)] w30 fun e38 w37 => ∃ (n39 : Int) (b40 : Bool), e38 = .returned (.tuple #[(.int .i64 n39), (.bool b40)]) ∧ (bif (!b40) then
 (R (.tuple #[(.int .i64 n39), (.bool false)]) w37)
 else
 (I14 [(.int .i64 n39), (.int .i64 (IntKind.i64.wrap (n20 + 1)))] w37 ∧ μ15 [(.int .i64 n39), (.int .i64 (IntKind.i64.wrap (n20 + 1)))] w37 < μ15 [(.int .i64 n19), (.int .i64 n20)] w16))))))))
 else
 (R (.tuple #[(.int .i64 n19), (.bool true)]) w16)))))))))
set_option maxRecDepth 100000 in
theorem measure.eq (b1 : Bool) (n2 : Int) (s3 : ByteArray) (a4 : Option Addr) (m5 c6 : Nat) (n7 : Int) (n8 : Int) (w : World) (R : Value → World → Prop) : measure.W b1 n2 s3 a4 m5 c6 n7 n8 w R = fnW Tryd.prog tys fns measure.hs Tryd.f20 [(.agg #[(.bool b1), (.int .i64 n2), (.string s3), (.slice a4 m5 c6)]), (.int .i64 n7), (.int .i64 n8)] w R := by kernel_rfl
theorem measure.ok : codeOk tys measure.hs Tryd.f20.ntmps (Tryd.f20.body.getD .skip) = true := by kernel_rfl
theorem measure.calls {b1 n2 s3 a4 m5 c6 n7 n8 w R} (h : measure.W b1 n2 s3 a4 m5 c6 n7 n8 w R) : Calls Tryd.prog 20 ([(.agg #[(.bool b1), (.int .i64 n2), (.string s3), (.slice a4 m5 c6)]), (.int .i64 n7), (.int .i64 n8)] : List Value).toArray w fun e w' => ∃ v, e = .returned v ∧ R v w' :=
  fnW_calls tysOk fnsOk follows Tryd.func20 (by kernel_rfl) measure.ok (by kernel_rfl) (measure.eq b1 n2 s3 a4 m5 c6 n7 n8 w R ▸ h)
/-! ### Good: function 10 -/
def Good.hs : Hints := ⟨[], []⟩
set_option maxRecDepth 100000 in
def Good.W (b1 : Bool) (n2 : Int) (s3 : ByteArray) (a4 : Option Addr) (m5 c6 : Nat) (w : World) (R : Value → World → Prop) : Prop :=
 (withW (World.alloc w (.cells #[(.bool b1), (.int .i64 n2), (.string s3), (.slice a4 m5 c6)] 24)) fun w7 =>
 (∃ (b8 : Bool) (n9 : Int) (s10 : ByteArray) (a11 : Option Addr) (m12 c13 : Nat), cellsAt w7 w.heap.size 0 [(.bool b8), (.int .i64 n9), (.string s10), (.slice a11 m12 c13)] ∧ (Calls Tryd.prog 20 #[(.agg #[(.bool b8), (.int .i64 n9), (.string s10), (.slice a11 m12 c13)]), (.int .i64 1), (.int .i64 0)] w7 fun e15 w14 => ∃ (n16 : Int) (b17 : Bool), e15 = .returned (.tuple #[(.int .i64 n16), (.bool b17)]) ∧ (R (.bool b17) w14))))
set_option maxRecDepth 100000 in
theorem Good.eq (b1 : Bool) (n2 : Int) (s3 : ByteArray) (a4 : Option Addr) (m5 c6 : Nat) (w : World) (R : Value → World → Prop) : Good.W b1 n2 s3 a4 m5 c6 w R = fnW Tryd.prog tys fns Good.hs Tryd.f10 [(.agg #[(.bool b1), (.int .i64 n2), (.string s3), (.slice a4 m5 c6)])] w R := by kernel_rfl
theorem Good.ok : codeOk tys Good.hs Tryd.f10.ntmps (Tryd.f10.body.getD .skip) = true := by kernel_rfl
theorem Good.calls {b1 n2 s3 a4 m5 c6 w R} (h : Good.W b1 n2 s3 a4 m5 c6 w R) : Calls Tryd.prog 10 ([(.agg #[(.bool b1), (.int .i64 n2), (.string s3), (.slice a4 m5 c6)])] : List Value).toArray w fun e w' => ∃ v, e = .returned v ∧ R v w' :=
  fnW_calls tysOk fnsOk follows Tryd.func10 (by kernel_rfl) Good.ok (by kernel_rfl) (Good.eq b1 n2 s3 a4 m5 c6 w R ▸ h)
/-! ### Nodes: function 9 -/
def Nodes.hs : Hints := ⟨[], [(4, [(3, .int .i64), (11, .int .i64)])]⟩
set_option maxRecDepth 100000 in
def Nodes.W (b1 : Bool) (n2 : Int) (s3 : ByteArray) (a4 : Option Addr) (m5 c6 : Nat) (w : World) (R : Value → World → Prop) : Prop :=
 (withW (World.alloc w (.cells #[(.bool b1), (.int .i64 n2), (.string s3), (.slice a4 m5 c6)] 24)) fun w7 =>
 (∃ (b8 : Bool), World.cell? w7 ⟨w.heap.size, 0, none⟩ = some (.bool b8) ∧ (bif b8 then
 (∃ (a9 : Option Addr) (m10 c11 : Nat), World.cell? w7 ⟨w.heap.size, 3, none⟩ = some (.slice a9 m10 c11) ∧ (∃ (I12 : List Value → World → Prop) (μ13 : List Value → World → Nat), I12 [(.int .i64 1), (.int .i64 0)] w7 ∧ ∀ (j15 : Env) (q16 : List Value) (w14 : World), I12 q16 w14 → ∃ (n17 : Int) (n18 : Int), q16 = [(.int .i64 n17), (.int .i64 n18)] ∧
 (bif (decide (n18 < (m10 : Int))) then
 (∃ b19 f20, a9 = some ⟨b19, f20, none⟩ ∧ 0 ≤ n18 ∧ n18 < (m10 : Int) ∧ (∃ (b21 : Bool) (n22 : Int) (s23 : ByteArray) (a24 : Option Addr) (m25 c26 : Nat), cellsAt w14 b19 (f20 + (n18 : Int).toNat * 4) [(.bool b21), (.int .i64 n22), (.string s23), (.slice a24 m25 c26)] ∧ (withW (World.alloc w14 (.cells #[.bool false, .int .i64 0, .string (⟨#[]⟩ : ByteArray), .slice none 0 0] 24)) fun w27 =>
 (canSt w27 w14.heap.size 0 [(.bool b21), (.int .i64 n22), (.string s23), (.slice a24 m25 c26)] ∧ withW (setL w27 w14.heap.size 0 [(.bool b21), (.int .i64 n22), (.string s23), (.slice a24 m25 c26)]) fun w28 =>
 (∃ (b29 : Bool) (n30 : Int) (s31 : ByteArray) (a32 : Option Addr) (m33 c34 : Nat), cellsAt w28 w14.heap.size 0 [(.bool b29), (.int .i64 n30), (.string s31), (.slice a32 m33 c34)] ∧ (Calls Tryd.prog 9 #[(.agg #[(.bool b29), (.int .i64 n30), (.string s31), (.slice a32 m33 c34)])] w28 fun e36 w35 => ∃ (n37 : Int), e36 = .returned (.int .i64 n37) ∧ (bif (decide ((if 4097 < (IntKind.i64.wrap (n17 + n37)) then 4097 else (IntKind.i64.wrap (n17 + n37))) > (4096 : Int))) then
 (R (.int .i64 (if 4097 < (IntKind.i64.wrap (n17 + n37)) then 4097 else (IntKind.i64.wrap (n17 + n37)))) w35)
 else
 (I12 [(.int .i64 (if 4097 < (IntKind.i64.wrap (n17 + n37)) then 4097 else (IntKind.i64.wrap (n17 + n37)))), (.int .i64 (IntKind.i64.wrap (n18 + 1)))] w35 ∧ μ13 [(.int .i64 (if 4097 < (IntKind.i64.wrap (n17 + n37)) then 4097 else (IntKind.i64.wrap (n17 + n37)))), (.int .i64 (IntKind.i64.wrap (n18 + 1)))] w35 < μ13 [(.int .i64 n17), (.int .i64 n18)] w14))))))))
 else
 (R (.int .i64 n17) w14))))
 else
 (R (.int .i64 1) w7))))
set_option maxRecDepth 100000 in
theorem Nodes.eq (b1 : Bool) (n2 : Int) (s3 : ByteArray) (a4 : Option Addr) (m5 c6 : Nat) (w : World) (R : Value → World → Prop) : Nodes.W b1 n2 s3 a4 m5 c6 w R = fnW Tryd.prog tys fns Nodes.hs Tryd.f9 [(.agg #[(.bool b1), (.int .i64 n2), (.string s3), (.slice a4 m5 c6)])] w R := by kernel_rfl
theorem Nodes.ok : codeOk tys Nodes.hs Tryd.f9.ntmps (Tryd.f9.body.getD .skip) = true := by kernel_rfl
theorem Nodes.calls {b1 n2 s3 a4 m5 c6 w R} (h : Nodes.W b1 n2 s3 a4 m5 c6 w R) : Calls Tryd.prog 9 ([(.agg #[(.bool b1), (.int .i64 n2), (.string s3), (.slice a4 m5 c6)])] : List Value).toArray w fun e w' => ∃ v, e = .returned v ∧ R v w' :=
  fnW_calls tysOk fnsOk follows Tryd.func9 (by kernel_rfl) Nodes.ok (by kernel_rfl) (Nodes.eq b1 n2 s3 a4 m5 c6 w R ▸ h)
/-! ### DataSizes: function 3 -/
def DataSizes.hs : Hints := ⟨[], [(7, [(3, .int .i64), (22, .int .i64)])]⟩
set_option maxRecDepth 100000 in
def DataSizes.W (b1 : Bool) (n2 : Int) (s3 : ByteArray) (a4 : Option Addr) (m5 c6 : Nat) (w : World) (R : Value → World → Prop) : Prop :=
 (withW (World.alloc w (.cells #[(.bool b1), (.int .i64 n2), (.string s3), (.slice a4 m5 c6)] 24)) fun w7 =>
 (Calls Tryd.prog 7 #[] w7 fun e9 w8 => ∃ (b10 : Bool), e9 = .returned (.bool b10) ∧ (bif (!b10) then
 (R (.bool false) w8)
 else
 (∃ (b11 : Bool) (n12 : Int) (s13 : ByteArray) (a14 : Option Addr) (m15 c16 : Nat), cellsAt w8 w.heap.size 0 [(.bool b11), (.int .i64 n12), (.string s13), (.slice a14 m15 c16)] ∧ (Calls Tryd.prog 8 #[(.agg #[(.bool b11), (.int .i64 n12), (.string s13), (.slice a14 m15 c16)])] w8 fun e18 w17 => ∃ (b19 : Bool), e18 = .returned (.bool b19) ∧ (bif (!b19) then (∃ (b20 : Bool) (n21 : Int) (s22 : ByteArray) (a23 : Option Addr) (m24 c25 : Nat), cellsAt w17 w.heap.size 0 [(.bool b20), (.int .i64 n21), (.string s22), (.slice a23 m24 c25)] ∧ (Calls Tryd.prog 9 #[(.agg #[(.bool b20), (.int .i64 n21), (.string s22), (.slice a23 m24 c25)])] w17 fun e27 w26 => ∃ (n28 : Int), e27 = .returned (.int .i64 n28) ∧ (R (.bool (decide (n28 ≥ (1 : Int)))) w26))) else (∃ (b29 : Bool), World.cell? w17 ⟨w.heap.size, 0, none⟩ = some (.bool b29) ∧ (bif (!b29) then
 (∃ (b30 : Bool) (n31 : Int) (s32 : ByteArray) (a33 : Option Addr) (m34 c35 : Nat), cellsAt w17 w.heap.size 0 [(.bool b30), (.int .i64 n31), (.string s32), (.slice a33 m34 c35)] ∧ (Calls Tryd.prog 9 #[(.agg #[(.bool b30), (.int .i64 n31), (.string s32), (.slice a33 m34 c35)])] w17 fun e37 w36 => ∃ (n38 : Int), e37 = .returned (.int .i64 n38) ∧ (R (.bool (decide (n38 ≥ (1 : Int)))) w36)))
 else
 (∃ (a39 : Option Addr) (m40 c41 : Nat), World.cell? w17 ⟨w.heap.size, 3, none⟩ = some (.slice a39 m40 c41) ∧ (∃ (I42 : List Value → World → Prop) (μ43 : List Value → World → Nat), I42 [(.int .i64 1), (.int .i64 0)] w17 ∧ ∀ (j45 : Env) (q46 : List Value) (w44 : World), I42 q46 w44 → ∃ (n47 : Int) (n48 : Int), q46 = [(.int .i64 n47), (.int .i64 n48)] ∧
 (bif (decide (n48 < (m40 : Int))) then
 (∃ b49 f50, a39 = some ⟨b49, f50, none⟩ ∧ 0 ≤ n48 ∧ n48 < (m40 : Int) ∧ (∃ (b51 : Bool) (n52 : Int) (s53 : ByteArray) (a54 : Option Addr) (m55 c56 : Nat), cellsAt w44 b49 (f50 + (n48 : Int).toNat * 4) [(.bool b51), (.int .i64 n52), (.string s53), (.slice a54 m55 c56)] ∧ (withW (World.alloc w44 (.cells #[.bool false, .int .i64 0, .string (⟨#[]⟩ : ByteArray), .slice none 0 0] 24)) fun w57 =>
 (canSt w57 w44.heap.size 0 [(.bool b51), (.int .i64 n52), (.string s53), (.slice a54 m55 c56)] ∧ withW (setL w57 w44.heap.size 0 [(.bool b51), (.int .i64 n52), (.string s53), (.slice a54 m55 c56)]) fun w58 =>
 (∃ (b59 : Bool) (n60 : Int) (s61 : ByteArray) (a62 : Option Addr) (m63 c64 : Nat), cellsAt w58 w44.heap.size 0 [(.bool b59), (.int .i64 n60), (.string s61), (.slice a62 m63 c64)] ∧ (Calls Tryd.prog 9 #[(.agg #[(.bool b59), (.int .i64 n60), (.string s61), (.slice a62 m63 c64)])] w58 fun e66 w65 => ∃ (n67 : Int), e66 = .returned (.int .i64 n67) ∧ (I42 [(.int .i64 (IntKind.i64.wrap (n47 + n67))), (.int .i64 (IntKind.i64.wrap (n48 + 1)))] w65 ∧ μ43 [(.int .i64 (IntKind.i64.wrap (n47 + n67))), (.int .i64 (IntKind.i64.wrap (n48 + 1)))] w65 < μ43 [(.int .i64 n47), (.int .i64 n48)] w44)))))))
 else
 (∃ (b68 : Bool) (n69 : Int) (s70 : ByteArray) (a71 : Option Addr) (m72 c73 : Nat), cellsAt w44 w.heap.size 0 [(.bool b68), (.int .i64 n69), (.string s70), (.slice a71 m72 c73)] ∧ (Calls Tryd.prog 9 #[(.agg #[(.bool b68), (.int .i64 n69), (.string s70), (.slice a71 m72 c73)])] w44 fun e75 w74 => ∃ (n76 : Int), e75 = .returned (.int .i64 n76) ∧ (bif (n76 == n47) then (∃ (b77 : Bool) (n78 : Int) (s79 : ByteArray) (a80 : Option Addr) (m81 c82 : Nat), cellsAt w74 w.heap.size 0 [(.bool b77), (.int .i64 n78), (.string s79), (.slice a80 m81 c82)] ∧ (Calls Tryd.prog 10 #[(.agg #[(.bool b77), (.int .i64 n78), (.string s79), (.slice a80 m81 c82)])] w74 fun e84 w83 => ∃ (b85 : Bool), e84 = .returned (.bool b85) ∧ (R (.bool b85) w83))) else (R (.bool false) w74)))))))))))))))
set_option maxRecDepth 100000 in
theorem DataSizes.eq (b1 : Bool) (n2 : Int) (s3 : ByteArray) (a4 : Option Addr) (m5 c6 : Nat) (w : World) (R : Value → World → Prop) : DataSizes.W b1 n2 s3 a4 m5 c6 w R = fnW Tryd.prog tys fns DataSizes.hs Tryd.f3 [(.agg #[(.bool b1), (.int .i64 n2), (.string s3), (.slice a4 m5 c6)])] w R := by kernel_rfl
theorem DataSizes.ok : codeOk tys DataSizes.hs Tryd.f3.ntmps (Tryd.f3.body.getD .skip) = true := by kernel_rfl
theorem DataSizes.calls {b1 n2 s3 a4 m5 c6 w R} (h : DataSizes.W b1 n2 s3 a4 m5 c6 w R) : Calls Tryd.prog 3 ([(.agg #[(.bool b1), (.int .i64 n2), (.string s3), (.slice a4 m5 c6)])] : List Value).toArray w fun e w' => ∃ v, e = .returned v ∧ R v w' :=
  fnW_calls tysOk fnsOk follows Tryd.func3 (by kernel_rfl) DataSizes.ok (by kernel_rfl) (DataSizes.eq b1 n2 s3 a4 m5 c6 w R ▸ h)
/-! ### Compare: function 11 -/
def Compare.hs : Hints := ⟨[(7, [0, 1, 2, 3, 5, 6, 7, 8, 9, 10, 4, 11, 12, 13, 14]), (13, [0, 1, 2, 3, 4, 5, 6, 7, 8, 9, 10, 11])], [(11, [(50, .int .i64)])]⟩
set_option maxRecDepth 100000 in
def Compare.W (b1 : Bool) (n2 : Int) (s3 : ByteArray) (a4 : Option Addr) (m5 c6 : Nat) (b7 : Bool) (n8 : Int) (s9 : ByteArray) (a10 : Option Addr) (m11 c12 : Nat) (w : World) (R : Value → World → Prop) : Prop :=
 (withW (World.alloc w (.cells #[(.bool b1), (.int .i64 n2), (.string s3), (.slice a4 m5 c6)] 24)) fun w13 =>
 (withW (World.alloc w13 (.cells #[(.bool b7), (.int .i64 n8), (.string s9), (.slice a10 m11 c12)] 24)) fun w14 =>
 (∃ (b15 : Bool), World.cell? w14 ⟨w.heap.size, 0, none⟩ = some (.bool b15) ∧ (bif (!b15) then (∃ (b16 : Bool), World.cell? w14 ⟨w13.heap.size, 0, none⟩ = some (.bool b16) ∧ (bif (!b16) then
 (∃ (n17 : Int), World.cell? w14 ⟨w.heap.size, 1, none⟩ = some (.int .i64 n17) ∧ (∃ (n18 : Int), World.cell? w14 ⟨w13.heap.size, 1, none⟩ = some (.int .i64 n18) ∧ (Calls Tryd.prog 21 #[(.int .i64 n17), (.int .i64 n18)] w14 fun e20 w19 => ∃ (n21 : Int), e20 = .returned (.int .i64 n21) ∧ (R (.int .i64 n21) w19))))
 else
 (∃ (b22 : Bool), World.cell? w14 ⟨w.heap.size, 0, none⟩ = some (.bool b22) ∧ (bif (!b22) then
 (R (.int .i64 (-1)) w14)
 else
 (∃ (b23 : Bool), World.cell? w14 ⟨w13.heap.size, 0, none⟩ = some (.bool b23) ∧ (bif (!b23) then
 (R (.int .i64 1) w14)
 else
 (withW (World.drew w14) fun w24 =>
 (∃ (s25 : ByteArray), World.cell? w24 ⟨w.heap.size, 2, none⟩ = some (.string s25) ∧ (∃ (s26 : ByteArray), World.cell? w24 ⟨w13.heap.size, 2, none⟩ = some (.string s26) ∧ (∃ (a27 : Option Addr) (m28 c29 : Nat), World.cell? w24 ⟨w.heap.size, 3, none⟩ = some (.slice a27 m28 c29) ∧ (∃ (a30 : Option Addr) (m31 c32 : Nat), World.cell? w24 ⟨w13.heap.size, 3, none⟩ = some (.slice a30 m31 c32) ∧ (Calls Tryd.prog 23 #[(.string s25), (.string s26)] w24 fun e34 w33 => ∃ (n35 : Int), e34 = .returned (.int .i64 n35) ∧ (cellsAt w33 w13.heap.size 3 [(.slice a30 m31 c32)] ∧ cellsAt w33 w.heap.size 3 [(.slice a27 m28 c29)] ∧ (Calls Tryd.prog 21 #[(.int .i64 (m28 : Int)), (.int .i64 (m31 : Int))] w33 fun e37 w36 => ∃ (n38 : Int), e37 = .returned (.int .i64 n38) ∧ (withW (World.alloc w36 (.cells #[(.int .i64 n35), (.int .i64 n38)] 3)) fun w39 =>
 (Calls Tryd.prog 22 #[(.slice (some ⟨w36.heap.size, 0, none⟩ : Option Addr) 2 2)] w39 fun e41 w40 => ∃ (n42 : Int), e41 = .returned (.int .i64 n42) ∧ (bif (n42 != (0 : Int)) then
 (R (.int .i64 n42) w40)
 else
 (∃ (a43 : Option Addr) (m44 c45 : Nat), World.cell? w40 ⟨w.heap.size, 3, none⟩ = some (.slice a43 m44 c45) ∧ (∃ (I46 : List Value → World → Prop) (μ47 : List Value → World → Nat), I46 [(.int .i64 0)] w40 ∧ ∀ (j49 : Env) (q50 : List Value) (w48 : World), I46 q50 w48 → ∃ (n51 : Int), q50 = [(.int .i64 n51)] ∧
 (bif (decide (n51 < (m44 : Int))) then
 (withW (World.drew w48) fun w52 =>
 (∃ (a53 : Option Addr) (m54 c55 : Nat), World.cell? w52 ⟨w.heap.size, 3, none⟩ = some (.slice a53 m54 c55) ∧ (∃ b56 f57, a53 = some ⟨b56, f57, none⟩ ∧ 0 ≤ n51 ∧ n51 < (m54 : Int) ∧ (∃ (b58 : Bool) (n59 : Int) (s60 : ByteArray) (a61 : Option Addr) (m62 c63 : Nat), cellsAt w52 b56 (f57 + (n51 : Int).toNat * 4) [(.bool b58), (.int .i64 n59), (.string s60), (.slice a61 m62 c63)] ∧ (∃ (a64 : Option Addr) (m65 c66 : Nat), World.cell? w52 ⟨w13.heap.size, 3, none⟩ = some (.slice a64 m65 c66) ∧ (∃ b67 f68, a64 = some ⟨b67, f68, none⟩ ∧ 0 ≤ n51 ∧ n51 < (m65 : Int) ∧ (∃ (b69 : Bool) (n70 : Int) (s71 : ByteArray) (a72 : Option Addr) (m73 c74 : Nat), cellsAt w52 b67 (f68 + (n51 : Int).toNat * 4) [(.bool b69), (.int .i64 n70), (.string s71), (.slice a72 m73 c74)] ∧ (Calls Tryd.prog 11 #[(.agg #[(.bool b58), (.int .i64 n59), (.string s60), (.slice a61 m62 c63)]), (.agg #[(.bool b69), (.int .i64 n70), (.string s71), (.slice a72 m73 c74)])] w52 fun e76 w75 => ∃ (n77 : Int), e76 = .returned (.int .i64 n77) ∧ (bif (n77 != (0 : Int)) then
 (R (.int .i64 n77) w75)
 else
 (I46 [(.int .i64 (IntKind.i64.wrap (n51 + 1)))] w75 ∧ μ47 [(.int .i64 (IntKind.i64.wrap (n51 + 1)))] w75 < μ47 [(.int .i64 n51)] w48))))))))))
 else
 (R (.int .i64 0) w48))))))))))))))))))))) else (∃ (b78 : Bool), World.cell? w14 ⟨w.heap.size, 0, none⟩ = some (.bool b78) ∧ (bif (!b78) then
 (R (.int .i64 (-1)) w14)
 else
 (∃ (b79 : Bool), World.cell? w14 ⟨w13.heap.size, 0, none⟩ = some (.bool b79) ∧ (bif (!b79) then
 (R (.int .i64 1) w14)
 else
 (withW (World.drew w14) fun w80 =>
 (∃ (s81 : ByteArray), World.cell? w80 ⟨w.heap.size, 2, none⟩ = some (.string s81) ∧ (∃ (s82 : ByteArray), World.cell? w80 ⟨w13.heap.size, 2, none⟩ = some (.string s82) ∧ (∃ (a83 : Option Addr) (m84 c85 : Nat), World.cell? w80 ⟨w.heap.size, 3, none⟩ = some (.slice a83 m84 c85) ∧ (∃ (a86 : Option Addr) (m87 c88 : Nat), World.cell? w80 ⟨w13.heap.size, 3, none⟩ = some (.slice a86 m87 c88) ∧ (Calls Tryd.prog 23 #[(.string s81), (.string s82)] w80 fun e90 w89 => ∃ (n91 : Int), e90 = .returned (.int .i64 n91) ∧ (cellsAt w89 w13.heap.size 3 [(.slice a86 m87 c88)] ∧ cellsAt w89 w.heap.size 3 [(.slice a83 m84 c85)] ∧ (Calls Tryd.prog 21 #[(.int .i64 (m84 : Int)), (.int .i64 (m87 : Int))] w89 fun e93 w92 => ∃ (n94 : Int), e93 = .returned (.int .i64 n94) ∧ (withW (World.alloc w92 (.cells #[(.int .i64 n91), (.int .i64 n94)] 3)) fun w95 =>
 (Calls Tryd.prog 22 #[(.slice (some ⟨w92.heap.size, 0, none⟩ : Option Addr) 2 2)] w95 fun e97 w96 => ∃ (n98 : Int), e97 = .returned (.int .i64 n98) ∧ (bif (n98 != (0 : Int)) then
 (R (.int .i64 n98) w96)
 else
 (∃ (a99 : Option Addr) (m100 c101 : Nat), World.cell? w96 ⟨w.heap.size, 3, none⟩ = some (.slice a99 m100 c101) ∧ (∃ (I102 : List Value → World → Prop) (μ103 : List Value → World → Nat), I102 [(.int .i64 0)] w96 ∧ ∀ (j105 : Env) (q106 : List Value) (w104 : World), I102 q106 w104 → ∃ (n107 : Int), q106 = [(.int .i64 n107)] ∧
 (bif (decide (n107 < (m100 : Int))) then
 (withW (World.drew w104) fun w108 =>
 (∃ (a109 : Option Addr) (m110 c111 : Nat), World.cell? w108 ⟨w.heap.size, 3, none⟩ = some (.slice a109 m110 c111) ∧ (∃ b112 f113, a109 = some ⟨b112, f113, none⟩ ∧ 0 ≤ n107 ∧ n107 < (m110 : Int) ∧ (∃ (b114 : Bool) (n115 : Int) (s116 : ByteArray) (a117 : Option Addr) (m118 c119 : Nat), cellsAt w108 b112 (f113 + (n107 : Int).toNat * 4) [(.bool b114), (.int .i64 n115), (.string s116), (.slice a117 m118 c119)] ∧ (∃ (a120 : Option Addr) (m121 c122 : Nat), World.cell? w108 ⟨w13.heap.size, 3, none⟩ = some (.slice a120 m121 c122) ∧ (∃ b123 f124, a120 = some ⟨b123, f124, none⟩ ∧ 0 ≤ n107 ∧ n107 < (m121 : Int) ∧ (∃ (b125 : Bool) (n126 : Int) (s127 : ByteArray) (a128 : Option Addr) (m129 c130 : Nat), cellsAt w108 b123 (f124 + (n107 : Int).toNat * 4) [(.bool b125), (.int .i64 n126), (.string s127), (.slice a128 m129 c130)] ∧ (Calls Tryd.prog 11 #[(.agg #[(.bool b114), (.int .i64 n115), (.string s116), (.slice a117 m118 c119)]), (.agg #[(.bool b125), (.int .i64 n126), (.string s127), (.slice a128 m129 c130)])] w108 fun e132 w131 => ∃ (n133 : Int), e132 = .returned (.int .i64 n133) ∧ (bif (n133 != (0 : Int)) then
 (R (.int .i64 n133) w131)
 else
 (I102 [(.int .i64 (IntKind.i64.wrap (n107 + 1)))] w131 ∧ μ103 [(.int .i64 (IntKind.i64.wrap (n107 + 1)))] w131 < μ103 [(.int .i64 n107)] w104))))))))))
 else
 (R (.int .i64 0) w104)))))))))))))))))))))))
set_option maxRecDepth 100000 in
theorem Compare.eq (b1 : Bool) (n2 : Int) (s3 : ByteArray) (a4 : Option Addr) (m5 c6 : Nat) (b7 : Bool) (n8 : Int) (s9 : ByteArray) (a10 : Option Addr) (m11 c12 : Nat) (w : World) (R : Value → World → Prop) : Compare.W b1 n2 s3 a4 m5 c6 b7 n8 s9 a10 m11 c12 w R = fnW Tryd.prog tys fns Compare.hs Tryd.f11 [(.agg #[(.bool b1), (.int .i64 n2), (.string s3), (.slice a4 m5 c6)]), (.agg #[(.bool b7), (.int .i64 n8), (.string s9), (.slice a10 m11 c12)])] w R := by kernel_rfl
theorem Compare.ok : codeOk tys Compare.hs Tryd.f11.ntmps (Tryd.f11.body.getD .skip) = true := by kernel_rfl
theorem Compare.calls {b1 n2 s3 a4 m5 c6 b7 n8 s9 a10 m11 c12 w R} (h : Compare.W b1 n2 s3 a4 m5 c6 b7 n8 s9 a10 m11 c12 w R) : Calls Tryd.prog 11 ([(.agg #[(.bool b1), (.int .i64 n2), (.string s3), (.slice a4 m5 c6)]), (.agg #[(.bool b7), (.int .i64 n8), (.string s9), (.slice a10 m11 c12)])] : List Value).toArray w fun e w' => ∃ v, e = .returned v ∧ R v w' :=
  fnW_calls tysOk fnsOk follows Tryd.func11 (by kernel_rfl) Compare.ok (by kernel_rfl) (Compare.eq b1 n2 s3 a4 m5 c6 b7 n8 s9 a10 m11 c12 w R ▸ h)
/-! ### refCompare: function 12 -/
def refCompare.hs : Hints := ⟨[(18, [0, 1, 2, 3, 4, 5, 6, 7, 8, 9, 10, 11])], [(16, [(71, .int .i64)])]⟩
set_option maxRecDepth 100000 in
def refCompare.W (b1 : Bool) (n2 : Int) (s3 : ByteArray) (a4 : Option Addr) (m5 c6 : Nat) (b7 : Bool) (n8 : Int) (s9 : ByteArray) (a10 : Option Addr) (m11 c12 : Nat) (w : World) (R : Value → World → Prop) : Prop :=
 (withW (World.alloc w (.cells #[(.bool b1), (.int .i64 n2), (.string s3), (.slice a4 m5 c6)] 24)) fun w13 =>
 (withW (World.alloc w13 (.cells #[(.bool b7), (.int .i64 n8), (.string s9), (.slice a10 m11 c12)] 24)) fun w14 =>
 (∃ (b15 : Bool), World.cell? w14 ⟨w.heap.size, 0, none⟩ = some (.bool b15) ∧ (bif (!b15) then (∃ (b16 : Bool), World.cell? w14 ⟨w.heap.size, 0, none⟩ = some (.bool b16) ∧ (bif b16 then
 (R (.int .i64 1) w14)
 else
 (∃ (b17 : Bool), World.cell? w14 ⟨w13.heap.size, 0, none⟩ = some (.bool b17) ∧ (bif b17 then
 (R (.int .i64 (-1)) w14)
 else
 (∃ (n18 : Int), World.cell? w14 ⟨w.heap.size, 1, none⟩ = some (.int .i64 n18) ∧ (∃ (n19 : Int), World.cell? w14 ⟨w13.heap.size, 1, none⟩ = some (.int .i64 n19) ∧ (bif (decide (n18 < n19)) then
 (R (.int .i64 (-1)) w14)
 else
 (∃ (n20 : Int), World.cell? w14 ⟨w.heap.size, 1, none⟩ = some (.int .i64 n20) ∧ (∃ (n21 : Int), World.cell? w14 ⟨w13.heap.size, 1, none⟩ = some (.int .i64 n21) ∧ (bif (decide (n20 > n21)) then
 (R (.int .i64 1) w14)
 else
 (R (.int .i64 0) w14))))))))))) else (∃ (b22 : Bool), World.cell? w14 ⟨w13.heap.size, 0, none⟩ = some (.bool b22) ∧ (bif (!b22) then
 (∃ (b23 : Bool), World.cell? w14 ⟨w.heap.size, 0, none⟩ = some (.bool b23) ∧ (bif b23 then
 (R (.int .i64 1) w14)
 else
 (∃ (b24 : Bool), World.cell? w14 ⟨w13.heap.size, 0, none⟩ = some (.bool b24) ∧ (bif b24 then
 (R (.int .i64 (-1)) w14)
 else
 (∃ (n25 : Int), World.cell? w14 ⟨w.heap.size, 1, none⟩ = some (.int .i64 n25) ∧ (∃ (n26 : Int), World.cell? w14 ⟨w13.heap.size, 1, none⟩ = some (.int .i64 n26) ∧ (bif (decide (n25 < n26)) then
 (R (.int .i64 (-1)) w14)
 else
 (∃ (n27 : Int), World.cell? w14 ⟨w.heap.size, 1, none⟩ = some (.int .i64 n27) ∧ (∃ (n28 : Int), World.cell? w14 ⟨w13.heap.size, 1, none⟩ = some (.int .i64 n28) ∧ (bif (decide (n27 > n28)) then
 (R (.int .i64 1) w14)
 else
 (R (.int .i64 0) w14)))))))))))
 else
 (∃ (s29 : ByteArray), World.cell? w14 ⟨w.heap.size, 2, none⟩ = some (.string s29) ∧ (∃ (s30 : ByteArray), World.cell? w14 ⟨w13.heap.size, 2, none⟩ = some (.string s30) ∧ (bif (Op.bytesLess s29.toList s30.toList) then (R (.int .i64 (-1)) w14) else (∃ (s31 : ByteArray), World.cell? w14 ⟨w.heap.size, 2, none⟩ = some (.string s31) ∧ (∃ (s32 : ByteArray), World.cell? w14 ⟨w13.heap.size, 2, none⟩ = some (.string s32) ∧ (bif (s31.toList == s32.toList) then (∃ (a33 : Option Addr) (m34 c35 : Nat), World.cell? w14 ⟨w.heap.size, 3, none⟩ = some (.slice a33 m34 c35) ∧ (∃ (a36 : Option Addr) (m37 c38 : Nat), World.cell? w14 ⟨w13.heap.size, 3, none⟩ = some (.slice a36 m37 c38) ∧ (bif (decide ((m34 : Int) < (m37 : Int))) then
 (R (.int .i64 (-1)) w14)
 else
 (∃ (s39 : ByteArray), World.cell? w14 ⟨w.heap.size, 2, none⟩ = some (.string s39) ∧ (∃ (s40 : ByteArray), World.cell? w14 ⟨w13.heap.size, 2, none⟩ = some (.string s40) ∧ (bif (!((Op.bytesLess s39.toList s40.toList) || (s39.toList == s40.toList))) then (R (.int .i64 1) w14) else (∃ (a41 : Option Addr) (m42 c43 : Nat), World.cell? w14 ⟨w.heap.size, 3, none⟩ = some (.slice a41 m42 c43) ∧ (∃ (a44 : Option Addr) (m45 c46 : Nat), World.cell? w14 ⟨w13.heap.size, 3, none⟩ = some (.slice a44 m45 c46) ∧ (bif (decide ((m42 : Int) > (m45 : Int))) then
 (R (.int .i64 1) w14)
 else
 (∃ (a47 : Option Addr) (m48 c49 : Nat), World.cell? w14 ⟨w.heap.size, 3, none⟩ = some (.slice a47 m48 c49) ∧ (∃ (I50 : List Value → World → Prop) (μ51 : List Value → World → Nat), I50 [(.int .i64 0)] w14 ∧ ∀ (j53 : Env) (q54 : List Value) (w52 : World), I50 q54 w52 → ∃ (n55 : Int), q54 = [(.int .i64 n55)] ∧
 (bif (decide (n55 < (m48 : Int))) then
 (withW (World.drew w52) fun w56 =>
 (∃ (a57 : Option Addr) (m58 c59 : Nat), World.cell? w56 ⟨w.heap.size, 3, none⟩ = some (.slice a57 m58 c59) ∧ (∃ b60 f61, a57 = some ⟨b60, f61, none⟩ ∧ 0 ≤ n55 ∧ n55 < (m58 : Int) ∧ (∃ (b62 : Bool) (n63 : Int) (s64 : ByteArray) (a65 : Option Addr) (m66 c67 : Nat), cellsAt w56 b60 (f61 + (n55 : Int).toNat * 4) [(.bool b62), (.int .i64 n63), (.string s64), (.slice a65 m66 c67)] ∧ (∃ (a68 : Option Addr) (m69 c70 : Nat), World.cell? w56 ⟨w13.heap.size, 3, none⟩ = some (.slice a68 m69 c70) ∧ (∃ b71 f72, a68 = some ⟨b71, f72, none⟩ ∧ 0 ≤ n55 ∧ n55 < (m69 : Int) ∧ (∃ (b73 : Bool) (n74 : Int) (s75 : ByteArray) (a76 : Option Addr) (m77 c78 : Nat), cellsAt w56 b71 (f72 + (n55 : Int).toNat * 4) [(.bool b73), (.int .i64 n74), (.string s75), (.slice a76 m77 c78)] ∧ (Calls Tryd.prog 12 #[(.agg #[(.bool b62), (.int .i64 n63), (.string s64), (.slice a65 m66 c67)]), (.agg #[(.bool b73), (.int .i64 n74), (.string s75), (.slice a76 m77 c78)])] w56 fun e80 w79 => ∃ (n81 : Int), e80 = .returned (.int .i64 n81) ∧ (bif (n81 != (0 : Int)) then
 (R (.int .i64 n81) w79)
 else
 (I50 [(.int .i64 (IntKind.i64.wrap (n55 + 1)))] w79 ∧ μ51 [(.int .i64 (IntKind.i64.wrap (n55 + 1)))] w79 < μ51 [(.int .i64 n55)] w52))))))))))
 else
 (R (.int .i64 0) w52))))))))))))) else (∃ (s82 : ByteArray), World.cell? w14 ⟨w.heap.size, 2, none⟩ = some (.string s82) ∧ (∃ (s83 : ByteArray), World.cell? w14 ⟨w13.heap.size, 2, none⟩ = some (.string s83) ∧ (bif (!((Op.bytesLess s82.toList s83.toList) || (s82.toList == s83.toList))) then (R (.int .i64 1) w14) else (∃ (a84 : Option Addr) (m85 c86 : Nat), World.cell? w14 ⟨w.heap.size, 3, none⟩ = some (.slice a84 m85 c86) ∧ (∃ (a87 : Option Addr) (m88 c89 : Nat), World.cell? w14 ⟨w13.heap.size, 3, none⟩ = some (.slice a87 m88 c89) ∧ (bif (decide ((m85 : Int) > (m88 : Int))) then
 (R (.int .i64 1) w14)
 else
 (∃ (a90 : Option Addr) (m91 c92 : Nat), World.cell? w14 ⟨w.heap.size, 3, none⟩ = some (.slice a90 m91 c92) ∧ (∃ (I93 : List Value → World → Prop) (μ94 : List Value → World → Nat), I93 [(.int .i64 0)] w14 ∧ ∀ (j96 : Env) (q97 : List Value) (w95 : World), I93 q97 w95 → ∃ (n98 : Int), q97 = [(.int .i64 n98)] ∧
 (bif (decide (n98 < (m91 : Int))) then
 (withW (World.drew w95) fun w99 =>
 (∃ (a100 : Option Addr) (m101 c102 : Nat), World.cell? w99 ⟨w.heap.size, 3, none⟩ = some (.slice a100 m101 c102) ∧ (∃ b103 f104, a100 = some ⟨b103, f104, none⟩ ∧ 0 ≤ n98 ∧ n98 < (m101 : Int) ∧ (∃ (b105 : Bool) (n106 : Int) (s107 : ByteArray) (a108 : Option Addr) (m109 c110 : Nat), cellsAt w99 b103 (f104 + (n98 : Int).toNat * 4) [(.bool b105), (.int .i64 n106), (.string s107), (.slice a108 m109 c110)] ∧ (∃ (a111 : Option Addr) (m112 c113 : Nat), World.cell? w99 ⟨w13.heap.size, 3, none⟩ = some (.slice a111 m112 c113) ∧ (∃ b114 f115, a111 = some ⟨b114, f115, none⟩ ∧ 0 ≤ n98 ∧ n98 < (m112 : Int) ∧ (∃ (b116 : Bool) (n117 : Int) (s118 : ByteArray) (a119 : Option Addr) (m120 c121 : Nat), cellsAt w99 b114 (f115 + (n98 : Int).toNat * 4) [(.bool b116), (.int .i64 n117), (.string s118), (.slice a119 m120 c121)] ∧ (Calls Tryd.prog 12 #[(.agg #[(.bool b105), (.int .i64 n106), (.string s107), (.slice a108 m109 c110)]), (.agg #[(.bool b116), (.int .i64 n117), (.string s118), (.slice a119 m120 c121)])] w99 fun e123 w122 => ∃ (n124 : Int), e123 = .returned (.int .i64 n124) ∧ (bif (n124 != (0 : Int)) then
 (R (.int .i64 n124) w122)
 else
 (I93 [(.int .i64 (IntKind.i64.wrap (n98 + 1)))] w122 ∧ μ94 [(.int .i64 (IntKind.i64.wrap (n98 + 1)))] w122 < μ94 [(.int .i64 n98)] w95))))))))))
 else
 (R (.int .i64 0) w95))))))))))))))))))))))
set_option maxRecDepth 100000 in
theorem refCompare.eq (b1 : Bool) (n2 : Int) (s3 : ByteArray) (a4 : Option Addr) (m5 c6 : Nat) (b7 : Bool) (n8 : Int) (s9 : ByteArray) (a10 : Option Addr) (m11 c12 : Nat) (w : World) (R : Value → World → Prop) : refCompare.W b1 n2 s3 a4 m5 c6 b7 n8 s9 a10 m11 c12 w R = fnW Tryd.prog tys fns refCompare.hs Tryd.f12 [(.agg #[(.bool b1), (.int .i64 n2), (.string s3), (.slice a4 m5 c6)]), (.agg #[(.bool b7), (.int .i64 n8), (.string s9), (.slice a10 m11 c12)])] w R := by kernel_rfl
theorem refCompare.ok : codeOk tys refCompare.hs Tryd.f12.ntmps (Tryd.f12.body.getD .skip) = true := by kernel_rfl
theorem refCompare.calls {b1 n2 s3 a4 m5 c6 b7 n8 s9 a10 m11 c12 w R} (h : refCompare.W b1 n2 s3 a4 m5 c6 b7 n8 s9 a10 m11 c12 w R) : Calls Tryd.prog 12 ([(.agg #[(.bool b1), (.int .i64 n2), (.string s3), (.slice a4 m5 c6)]), (.agg #[(.bool b7), (.int .i64 n8), (.string s9), (.slice a10 m11 c12)])] : List Value).toArray w fun e w' => ∃ v, e = .returned v ∧ R v w' :=
  fnW_calls tysOk fnsOk follows Tryd.func12 (by kernel_rfl) refCompare.ok (by kernel_rfl) (refCompare.eq b1 n2 s3 a4 m5 c6 b7 n8 s9 a10 m11 c12 w R ▸ h)
/-! ### cmpInt: function 21 -/
def cmpInt.hs : Hints := ⟨[], []⟩
set_option maxRecDepth 100000 in
def cmpInt.W (n1 : Int) (n2 : Int) (w : World) (R : Value → World → Prop) : Prop :=
 (Calls Tryd.prog 27 #[(.int .i64 n1)] w fun e4 w3 => ∃ (b5 : Bool), e4 = .returned (.bool b5) ∧ (Calls Tryd.prog 27 #[(.int .i64 n2)] w3 fun e7 w6 => ∃ (b8 : Bool), e7 = .returned (.bool b8) ∧ (bif b5 then
 (bif b8 then
 (R (.int .i64 0) w6)
 else
 (R (.int .i64 (-1)) w6))
 else
 (bif b8 then
 (R (.int .i64 1) w6)
 else
 (bif (decide (n1 < n2)) then
 (R (.int .i64 (-1)) w6)
 else
 (bif (decide (n1 > n2)) then
 (R (.int .i64 1) w6)
 else
 (R (.int .i64 0) w6)))))))
set_option maxRecDepth 100000 in
theorem cmpInt.eq (n1 : Int) (n2 : Int) (w : World) (R : Value → World → Prop) : cmpInt.W n1 n2 w R = fnW Tryd.prog tys fns cmpInt.hs Tryd.f21 [(.int .i64 n1), (.int .i64 n2)] w R := by kernel_rfl
theorem cmpInt.ok : codeOk tys cmpInt.hs Tryd.f21.ntmps (Tryd.f21.body.getD .skip) = true := by kernel_rfl
theorem cmpInt.calls {n1 n2 w R} (h : cmpInt.W n1 n2 w R) : Calls Tryd.prog 21 ([(.int .i64 n1), (.int .i64 n2)] : List Value).toArray w fun e w' => ∃ v, e = .returned v ∧ R v w' :=
  fnW_calls tysOk fnsOk follows Tryd.func21 (by kernel_rfl) cmpInt.ok (by kernel_rfl) (cmpInt.eq n1 n2 w R ▸ h)
/-! ### cmpOr: function 22 -/
def cmpOr.hs : Hints := ⟨[], [(3, [(8, .int .i64)])]⟩
set_option maxRecDepth 100000 in
def cmpOr.W (a1 : Option Addr) (m2 c3 : Nat) (w : World) (R : Value → World → Prop) : Prop :=
 (∃ (I4 : List Value → World → Prop) (μ5 : List Value → World → Nat), I4 [(.int .i64 0)] w ∧ ∀ (j7 : Env) (q8 : List Value) (w6 : World), I4 q8 w6 → ∃ (n9 : Int), q8 = [(.int .i64 n9)] ∧
 (bif (decide (n9 < (m2 : Int))) then
 (∃ b10 f11, a1 = some ⟨b10, f11, none⟩ ∧ 0 ≤ n9 ∧ n9 < (m2 : Int) ∧ (∃ (n12 : Int), World.cell? w6 ⟨b10, (f11 + (n9 : Int).toNat * 1), none⟩ = some (.int .i64 n12) ∧ (bif (n12 != (0 : Int)) then
 (R (.int .i64 n12) w6)
 else
 (I4 [(.int .i64 (IntKind.i64.wrap (n9 + 1)))] w6 ∧ μ5 [(.int .i64 (IntKind.i64.wrap (n9 + 1)))] w6 < μ5 [(.int .i64 n9)] w6))))
 else
 (R (.int .i64 0) w6)))
set_option maxRecDepth 100000 in
theorem cmpOr.eq (a1 : Option Addr) (m2 c3 : Nat) (w : World) (R : Value → World → Prop) : cmpOr.W a1 m2 c3 w R = fnW Tryd.prog tys fns cmpOr.hs Tryd.f22 [(.slice a1 m2 c3)] w R := by kernel_rfl
theorem cmpOr.ok : codeOk tys cmpOr.hs Tryd.f22.ntmps (Tryd.f22.body.getD .skip) = true := by kernel_rfl
theorem cmpOr.calls {a1 m2 c3 w R} (h : cmpOr.W a1 m2 c3 w R) : Calls Tryd.prog 22 ([(.slice a1 m2 c3)] : List Value).toArray w fun e w' => ∃ v, e = .returned v ∧ R v w' :=
  fnW_calls tysOk fnsOk follows Tryd.func22 (by kernel_rfl) cmpOr.ok (by kernel_rfl) (cmpOr.eq a1 m2 c3 w R ▸ h)
/-! ### cmpStr: function 23 -/
def cmpStr.hs : Hints := ⟨[], []⟩
set_option maxRecDepth 100000 in
def cmpStr.W (s1 : ByteArray) (s2 : ByteArray) (w : World) (R : Value → World → Prop) : Prop :=
 (Calls Tryd.prog 28 #[(.string s1)] w fun e4 w3 => ∃ (b5 : Bool), e4 = .returned (.bool b5) ∧ (Calls Tryd.prog 28 #[(.string s2)] w3 fun e7 w6 => ∃ (b8 : Bool), e7 = .returned (.bool b8) ∧ (bif b5 then
 (bif b8 then
 (R (.int .i64 0) w6)
 else
 (R (.int .i64 (-1)) w6))
 else
 (bif b8 then
 (R (.int .i64 1) w6)
 else
 (bif (Op.bytesLess s1.toList s2.toList) then
 (R (.int .i64 (-1)) w6)
 else
 (bif (!((Op.bytesLess s1.toList s2.toList) || (s1.toList == s2.toList))) then
 (R (.int .i64 1) w6)
 else
 (R (.int .i64 0) w6)))))))
set_option maxRecDepth 100000 in
theorem cmpStr.eq (s1 : ByteArray) (s2 : ByteArray) (w : World) (R : Value → World → Prop) : cmpStr.W s1 s2 w R = fnW Tryd.prog tys fns cmpStr.hs Tryd.f23 [(.string s1), (.string s2)] w R := by kernel_rfl
theorem cmpStr.ok : codeOk tys cmpStr.hs Tryd.f23.ntmps (Tryd.f23.body.getD .skip) = true := by kernel_rfl
theorem cmpStr.calls {s1 s2 w R} (h : cmpStr.W s1 s2 w R) : Calls Tryd.prog 23 ([(.string s1), (.string s2)] : List Value).toArray w fun e w' => ∃ v, e = .returned v ∧ R v w' :=
  fnW_calls tysOk fnsOk follows Tryd.func23 (by kernel_rfl) cmpStr.ok (by kernel_rfl) (cmpStr.eq s1 s2 w R ▸ h)
/-! ### nanInt: function 27 -/
def nanInt.hs : Hints := ⟨[], []⟩
set_option maxRecDepth 100000 in
def nanInt.W (n1 : Int) (w : World) (R : Value → World → Prop) : Prop :=
 (R (.bool (n1 != n1)) w)
set_option maxRecDepth 100000 in
theorem nanInt.eq (n1 : Int) (w : World) (R : Value → World → Prop) : nanInt.W n1 w R = fnW Tryd.prog tys fns nanInt.hs Tryd.f27 [(.int .i64 n1)] w R := by kernel_rfl
theorem nanInt.ok : codeOk tys nanInt.hs Tryd.f27.ntmps (Tryd.f27.body.getD .skip) = true := by kernel_rfl
theorem nanInt.calls {n1 w R} (h : nanInt.W n1 w R) : Calls Tryd.prog 27 ([(.int .i64 n1)] : List Value).toArray w fun e w' => ∃ v, e = .returned v ∧ R v w' :=
  fnW_calls tysOk fnsOk follows Tryd.func27 (by kernel_rfl) nanInt.ok (by kernel_rfl) (nanInt.eq n1 w R ▸ h)
/-! ### nanStr: function 28 -/
def nanStr.hs : Hints := ⟨[], []⟩
set_option maxRecDepth 100000 in
def nanStr.W (s1 : ByteArray) (w : World) (R : Value → World → Prop) : Prop :=
 (R (.bool (!(s1.toList == s1.toList))) w)
set_option maxRecDepth 100000 in
theorem nanStr.eq (s1 : ByteArray) (w : World) (R : Value → World → Prop) : nanStr.W s1 w R = fnW Tryd.prog tys fns nanStr.hs Tryd.f28 [(.string s1)] w R := by kernel_rfl
theorem nanStr.ok : codeOk tys nanStr.hs Tryd.f28.ntmps (Tryd.f28.body.getD .skip) = true := by kernel_rfl
theorem nanStr.calls {s1 w R} (h : nanStr.W s1 w R) : Calls Tryd.prog 28 ([(.string s1)] : List Value).toArray w fun e w' => ∃ v, e = .returned v ∧ R v w' :=
  fnW_calls tysOk fnsOk follows Tryd.func28 (by kernel_rfl) nanStr.ok (by kernel_rfl) (nanStr.eq s1 w R ▸ h)
/-! ### DataOrders: function 4 -/
def DataOrders.hs : Hints := ⟨[(5, [0, 1, 3, 4, 6, 7, 2, 5, 8, 9, 10, 11])], []⟩
set_option maxRecDepth 100000 in
def DataOrders.W (b1 : Bool) (n2 : Int) (s3 : ByteArray) (a4 : Option Addr) (m5 c6 : Nat) (b7 : Bool) (n8 : Int) (s9 : ByteArray) (a10 : Option Addr) (m11 c12 : Nat) (b13 : Bool) (n14 : Int) (s15 : ByteArray) (a16 : Option Addr) (m17 c18 : Nat) (w : World) (R : Value → World → Prop) : Prop :=
 (withW (World.alloc w (.cells #[(.bool b1), (.int .i64 n2), (.string s3), (.slice a4 m5 c6)] 24)) fun w19 =>
 (withW (World.alloc w19 (.cells #[(.bool b7), (.int .i64 n8), (.string s9), (.slice a10 m11 c12)] 24)) fun w20 =>
 (withW (World.alloc w20 (.cells #[(.bool b13), (.int .i64 n14), (.string s15), (.slice a16 m17 c18)] 24)) fun w21 =>
 (Calls Tryd.prog 7 #[] w21 fun e23 w22 => ∃ (b24 : Bool), e23 = .returned (.bool b24) ∧ (bif (!b24) then
 (R (.bool false) w22)
 else
 (∃ (b25 : Bool) (n26 : Int) (s27 : ByteArray) (a28 : Option Addr) (m29 c30 : Nat), cellsAt w22 w.heap.size 0 [(.bool b25), (.int .i64 n26), (.string s27), (.slice a28 m29 c30)] ∧ (Calls Tryd.prog 8 #[(.agg #[(.bool b25), (.int .i64 n26), (.string s27), (.slice a28 m29 c30)])] w22 fun e32 w31 => ∃ (b33 : Bool), e32 = .returned (.bool b33) ∧ (bif (!b33) then (R (.bool true) w31) else (∃ (b34 : Bool) (n35 : Int) (s36 : ByteArray) (a37 : Option Addr) (m38 c39 : Nat), cellsAt w31 w19.heap.size 0 [(.bool b34), (.int .i64 n35), (.string s36), (.slice a37 m38 c39)] ∧ (Calls Tryd.prog 8 #[(.agg #[(.bool b34), (.int .i64 n35), (.string s36), (.slice a37 m38 c39)])] w31 fun e41 w40 => ∃ (b42 : Bool), e41 = .returned (.bool b42) ∧ (bif (!b42) then (R (.bool true) w40) else (∃ (b43 : Bool) (n44 : Int) (s45 : ByteArray) (a46 : Option Addr) (m47 c48 : Nat), cellsAt w40 w20.heap.size 0 [(.bool b43), (.int .i64 n44), (.string s45), (.slice a46 m47 c48)] ∧ (Calls Tryd.prog 8 #[(.agg #[(.bool b43), (.int .i64 n44), (.string s45), (.slice a46 m47 c48)])] w40 fun e50 w49 => ∃ (b51 : Bool), e50 = .returned (.bool b51) ∧ (bif (!b51) then
 (R (.bool true) w49)
 else
 (withW (World.drew w49) fun w52 =>
 (∃ (b53 : Bool) (n54 : Int) (s55 : ByteArray) (a56 : Option Addr) (m57 c58 : Nat), cellsAt w52 w.heap.size 0 [(.bool b53), (.int .i64 n54), (.string s55), (.slice a56 m57 c58)] ∧ (∃ (b59 : Bool) (n60 : Int) (s61 : ByteArray) (a62 : Option Addr) (m63 c64 : Nat), cellsAt w52 w19.heap.size 0 [(.bool b59), (.int .i64 n60), (.string s61), (.slice a62 m63 c64)] ∧ (∃ (b65 : Bool) (n66 : Int) (s67 : ByteArray) (a68 : Option Addr) (m69 c70 : Nat), cellsAt w52 w19.heap.size 0 [(.bool b65), (.int .i64 n66), (.string s67), (.slice a68 m69 c70)] ∧ (∃ (b71 : Bool) (n72 : Int) (s73 : ByteArray) (a74 : Option Addr) (m75 c76 : Nat), cellsAt w52 w20.heap.size 0 [(.bool b71), (.int .i64 n72), (.string s73), (.slice a74 m75 c76)] ∧ (∃ (b77 : Bool) (n78 : Int) (s79 : ByteArray) (a80 : Option Addr) (m81 c82 : Nat), cellsAt w52 w.heap.size 0 [(.bool b77), (.int .i64 n78), (.string s79), (.slice a80 m81 c82)] ∧ (∃ (b83 : Bool) (n84 : Int) (s85 : ByteArray) (a86 : Option Addr) (m87 c88 : Nat), cellsAt w52 w20.heap.size 0 [(.bool b83), (.int .i64 n84), (.string s85), (.slice a86 m87 c88)] ∧ (Calls Tryd.prog 11 #[(.agg #[(.bool b53), (.int .i64 n54), (.string s55), (.slice a56 m57 c58)]), (.agg #[(.bool b59), (.int .i64 n60), (.string s61), (.slice a62 m63 c64)])] w52 fun e90 w89 => ∃ (n91 : Int), e90 = .returned (.int .i64 n91) ∧ (cellsAt w89 w20.heap.size 0 [(.bool b83), (.int .i64 n84), (.string s85), (.slice a86 m87 c88)] ∧ cellsAt w89 w.heap.size 0 [(.bool b77), (.int .i64 n78), (.string s79), (.slice a80 m81 c82)] ∧ cellsAt w89 w20.heap.size 0 [(.bool b71), (.int .i64 n72), (.string s73), (.slice a74 m75 c76)] ∧ cellsAt w89 w19.heap.size 0 [(.bool b65), (.int .i64 n66), (.string s67), (.slice a68 m69 c70)] ∧ (Calls Tryd.prog 11 #[(.agg #[(.bool b65), (.int .i64 n66), (.string s67), (.slice a68 m69 c70)]), (.agg #[(.bool b71), (.int .i64 n72), (.string s73), (.slice a74 m75 c76)])] w89 fun e93 w92 => ∃ (n94 : Int), e93 = .returned (.int .i64 n94) ∧ (cellsAt w92 w20.heap.size 0 [(.bool b83), (.int .i64 n84), (.string s85), (.slice a86 m87 c88)] ∧ cellsAt w92 w.heap.size 0 [(.bool b77), (.int .i64 n78), (.string s79), (.slice a80 m81 c82)] ∧ (Calls Tryd.prog 11 #[(.agg #[(.bool b77), (.int .i64 n78), (.string s79), (.slice a80 m81 c82)]), (.agg #[(.bool b83), (.int .i64 n84), (.string s85), (.slice a86 m87 c88)])] w92 fun e96 w95 => ∃ (n97 : Int), e96 = .returned (.int .i64 n97) ∧ (∃ (b98 : Bool) (n99 : Int) (s100 : ByteArray) (a101 : Option Addr) (m102 c103 : Nat), cellsAt w95 w.heap.size 0 [(.bool b98), (.int .i64 n99), (.string s100), (.slice a101 m102 c103)] ∧ (∃ (b104 : Bool) (n105 : Int) (s106 : ByteArray) (a107 : Option Addr) (m108 c109 : Nat), cellsAt w95 w19.heap.size 0 [(.bool b104), (.int .i64 n105), (.string s106), (.slice a107 m108 c109)] ∧ (Calls Tryd.prog 12 #[(.agg #[(.bool b98), (.int .i64 n99), (.string s100), (.slice a101 m102 c103)]), (.agg #[(.bool b104), (.int .i64 n105), (.string s106), (.slice a107 m108 c109)])] w95 fun e111 w110 => ∃ (n112 : Int), e111 = .returned (.int .i64 n112) ∧ (bif (n91 == n112) then (∃ (b113 : Bool) (n114 : Int) (s115 : ByteArray) (a116 : Option Addr) (m117 c118 : Nat), cellsAt w110 w19.heap.size 0 [(.bool b113), (.int .i64 n114), (.string s115), (.slice a116 m117 c118)] ∧ (∃ (b119 : Bool) (n120 : Int) (s121 : ByteArray) (a122 : Option Addr) (m123 c124 : Nat), cellsAt w110 w.heap.size 0 [(.bool b119), (.int .i64 n120), (.string s121), (.slice a122 m123 c124)] ∧ (Calls Tryd.prog 11 #[(.agg #[(.bool b113), (.int .i64 n114), (.string s115), (.slice a116 m117 c118)]), (.agg #[(.bool b119), (.int .i64 n120), (.string s121), (.slice a122 m123 c124)])] w110 fun e126 w125 => ∃ (n127 : Int), e126 = .returned (.int .i64 n127) ∧ (bif (n91 == (IntKind.i64.wrap (0 - n127))) then (∃ (b128 : Bool) (n129 : Int) (s130 : ByteArray) (a131 : Option Addr) (m132 c133 : Nat), cellsAt w125 w.heap.size 0 [(.bool b128), (.int .i64 n129), (.string s130), (.slice a131 m132 c133)] ∧ (∃ (b134 : Bool) (n135 : Int) (s136 : ByteArray) (a137 : Option Addr) (m138 c139 : Nat), cellsAt w125 w.heap.size 0 [(.bool b134), (.int .i64 n135), (.string s136), (.slice a137 m138 c139)] ∧ (Calls Tryd.prog 11 #[(.agg #[(.bool b128), (.int .i64 n129), (.string s130), (.slice a131 m132 c133)]), (.agg #[(.bool b134), (.int .i64 n135), (.string s136), (.slice a137 m138 c139)])] w125 fun e141 w140 => ∃ (n142 : Int), e141 = .returned (.int .i64 n142) ∧ (bif (n142 == (0 : Int)) then (bif (decide (n91 ≤ (0 : Int))) then (bif (!(decide (n94 ≤ (0 : Int)))) then (bif (decide (n91 ≥ (-1))) then (R (.bool (decide (n91 ≤ (1 : Int)))) w140) else (R (.bool false) w140)) else (bif (decide (n97 ≤ (0 : Int))) then (bif (decide (n91 ≥ (-1))) then (R (.bool (decide (n91 ≤ (1 : Int)))) w140) else (R (.bool false) w140)) else (R (.bool false) w140))) else (bif (decide (n91 ≥ (-1))) then (R (.bool (decide (n91 ≤ (1 : Int)))) w140) else (R (.bool false) w140))) else (R (.bool false) w140))))) else (R (.bool false) w125))))) else (R (.bool false) w110)))))))))))))))))))))))))))))))
set_option maxRecDepth 100000 in
theorem DataOrders.eq (b1 : Bool) (n2 : Int) (s3 : ByteArray) (a4 : Option Addr) (m5 c6 : Nat) (b7 : Bool) (n8 : Int) (s9 : ByteArray) (a10 : Option Addr) (m11 c12 : Nat) (b13 : Bool) (n14 : Int) (s15 : ByteArray) (a16 : Option Addr) (m17 c18 : Nat) (w : World) (R : Value → World → Prop) : DataOrders.W b1 n2 s3 a4 m5 c6 b7 n8 s9 a10 m11 c12 b13 n14 s15 a16 m17 c18 w R = fnW Tryd.prog tys fns DataOrders.hs Tryd.f4 [(.agg #[(.bool b1), (.int .i64 n2), (.string s3), (.slice a4 m5 c6)]), (.agg #[(.bool b7), (.int .i64 n8), (.string s9), (.slice a10 m11 c12)]), (.agg #[(.bool b13), (.int .i64 n14), (.string s15), (.slice a16 m17 c18)])] w R := by kernel_rfl
theorem DataOrders.ok : codeOk tys DataOrders.hs Tryd.f4.ntmps (Tryd.f4.body.getD .skip) = true := by kernel_rfl
theorem DataOrders.calls {b1 n2 s3 a4 m5 c6 b7 n8 s9 a10 m11 c12 b13 n14 s15 a16 m17 c18 w R} (h : DataOrders.W b1 n2 s3 a4 m5 c6 b7 n8 s9 a10 m11 c12 b13 n14 s15 a16 m17 c18 w R) : Calls Tryd.prog 4 ([(.agg #[(.bool b1), (.int .i64 n2), (.string s3), (.slice a4 m5 c6)]), (.agg #[(.bool b7), (.int .i64 n8), (.string s9), (.slice a10 m11 c12)]), (.agg #[(.bool b13), (.int .i64 n14), (.string s15), (.slice a16 m17 c18)])] : List Value).toArray w fun e w' => ∃ v, e = .returned v ∧ R v w' :=
  fnW_calls tysOk fnsOk follows Tryd.func4 (by kernel_rfl) DataOrders.ok (by kernel_rfl) (DataOrders.eq b1 n2 s3 a4 m5 c6 b7 n8 s9 a10 m11 c12 b13 n14 s15 a16 m17 c18 w R ▸ h)
end Go.Proofs.YtkplhlciocbecaaDoor.Vf
