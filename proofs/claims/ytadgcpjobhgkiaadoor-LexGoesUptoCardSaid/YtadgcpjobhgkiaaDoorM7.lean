/- Texts of this proof. -/
import Derived.Test.YtadgcpjobhgkiaaDoorM1
import Derived.Test.YtadgcpjobhgkiaaDoorProg
/- part L1N -/
section
set_option linter.unusedVariables false
namespace Go.Proofs.YtadgcpjobhgkiaaDoor.Vf
open Go.Vx
def tys : Tys := [(3, ⟨(.int .i64), 1, 8, [.int .i64 0], [.int .i64]⟩),
  (4, ⟨.bool, 1, 1, [.bool false], [.bool]⟩),
  (5, ⟨(.int .u8), 1, 1, [.int .u8 0], [.int .u8]⟩),
  (9, ⟨.str, 1, 16, [.string (⟨#[]⟩ : ByteArray)], [.str]⟩),
  (25, ⟨.iface, 1, 16, [.nilIface], [.any]⟩),
  (35, ⟨(.agg [(0, 3), (1, 9), (2, 3)]), 3, 32, [.int .i64 0, .string (⟨#[]⟩ : ByteArray), .int .i64 0], [.int .i64, .str, .int .i64]⟩)]
theorem ty3 : Ty.Ok Tryd.prog 3 ⟨(.int .i64), 1, 8, [.int .i64 0], [.int .i64]⟩ := ⟨Tryd.underlying3, by kernel_rfl, by kernel_rfl, rfl⟩
theorem ty4 : Ty.Ok Tryd.prog 4 ⟨.bool, 1, 1, [.bool false], [.bool]⟩ := ⟨Tryd.underlying4, by kernel_rfl, by kernel_rfl, rfl⟩
theorem ty5 : Ty.Ok Tryd.prog 5 ⟨(.int .u8), 1, 1, [.int .u8 0], [.int .u8]⟩ := ⟨Tryd.underlying5, by kernel_rfl, by kernel_rfl, rfl⟩
theorem ty9 : Ty.Ok Tryd.prog 9 ⟨.str, 1, 16, [.string (⟨#[]⟩ : ByteArray)], [.str]⟩ := ⟨Tryd.underlying9, by kernel_rfl, by kernel_rfl, rfl⟩
theorem ty25 : Ty.Ok Tryd.prog 25 ⟨.iface, 1, 16, [.nilIface], [.any]⟩ := ⟨⟨_, Tryd.underlying25⟩, by kernel_rfl, by kernel_rfl, rfl⟩
theorem ty35 : Ty.Ok Tryd.prog 35 ⟨(.agg [(0, 3), (1, 9), (2, 3)]), 3, 32, [.int .i64 0, .string (⟨#[]⟩ : ByteArray), .int .i64 0], [.int .i64, .str, .int .i64]⟩ := ⟨⟨_, Tryd.underlying35, rfl⟩, by kernel_rfl, by kernel_rfl, rfl⟩
theorem tysOk : AllOk Tryd.prog tys := ⟨ty3, ty4, ty5, ty9, ty25, ty35, trivial⟩
def fns : Fns := [(39, [3]), (40, [4]), (47, [3, 25]), (48, [9])]
theorem fnOk39 : ∃ fn, Tryd.prog.funcs[39]? = some fn ∧ (fn.name == "runtime.NumGoroutine") = false ∧ fn.body.isNone = false := ⟨_, Tryd.func39, by kernel_rfl, by kernel_rfl⟩
theorem fnOk40 : ∃ fn, Tryd.prog.funcs[40]? = some fn ∧ (fn.name == "runtime.NumGoroutine") = false ∧ fn.body.isNone = false := ⟨_, Tryd.func40, by kernel_rfl, by kernel_rfl⟩
theorem fnOk47 : ∃ fn, Tryd.prog.funcs[47]? = some fn ∧ (fn.name == "runtime.NumGoroutine") = false ∧ fn.body.isNone = false := ⟨_, Tryd.func47, by kernel_rfl, by kernel_rfl⟩
theorem fnOk48 : ∃ fn, Tryd.prog.funcs[48]? = some fn ∧ (fn.name == "runtime.NumGoroutine") = false ∧ fn.body.isNone = false := ⟨_, Tryd.func48, by kernel_rfl, by kernel_rfl⟩
theorem fnsOk : FnsOk Tryd.prog fns := ⟨fnOk39, fnOk40, fnOk47, fnOk48, trivial⟩
theorem follows : Tryd.prog.follows .mixedOrders = true := by kernel_rfl
/-! ### number: function 42 -/
def number.hs : Hints := ⟨[], []⟩
set_option maxRecDepth 100000 in
def number.W (s1 : ByteArray) (n2 : Int) (w : World) (R : Value → World → Prop) : Prop :=
 (withW (World.alloc w (.cells #[.int .i64 0, .string (⟨#[]⟩ : ByteArray), .int .i64 0] 35)) fun w3 =>
 (0 ≤ n2 ∧ ∃ u4 : UInt8, s1[(n2 : Int).toNat]? = some u4 ∧ (bif ((u4.toNat : Int) == (45 : Int)) then
 (Calls Tryd.prog 39 #[(.string s1), (.int .i64 (IntKind.i64.wrap (n2 + 1))), (.func (.func 41) #[] #[])] w3 fun e6 w5 => ∃ (n7 : Int), e6 = .returned (.int .i64 n7) ∧ (0 ≤ n2 ∧ n2 ≤ (IntKind.i64.wrap (n2 + (IntKind.i64.wrap (1 + n7)))) ∧ (IntKind.i64.wrap (n2 + (IntKind.i64.wrap (1 + n7)))) ≤ (s1.size : Int) ∧ (Calls Tryd.prog 47 #[(.string (s1.extract (n2 : Int).toNat ((IntKind.i64.wrap (n2 + (IntKind.i64.wrap (1 + n7)))) : Int).toNat))] w5 fun e9 w8 => ∃ (n10 : Int) (v11 : Value), e9 = .returned (.tuple #[(.int .i64 n10), v11]) ∧ (∃ r12, IsNil v11 r12 ∧ (bif (!r12) then (canSt w8 w.heap.size 0 [(.int .i64 0), (.string (⟨#[]⟩ : ByteArray)), (.int .i64 0)] ∧ withW (setL w8 w.heap.size 0 [(.int .i64 0), (.string (⟨#[]⟩ : ByteArray)), (.int .i64 0)]) fun w13 =>
 (∃ (n14 : Int) (s15 : ByteArray) (n16 : Int), cellsAt w13 w.heap.size 0 [(.int .i64 n14), (.string s15), (.int .i64 n16)] ∧ (R (.tuple #[(.agg #[(.int .i64 n14), (.string s15), (.int .i64 n16)]), (.bool false)]) w13))) else (Calls Tryd.prog 48 #[(.int .i64 n10)] w8 fun e18 w17 => ∃ (s19 : ByteArray), e18 = .returned (.string s19) ∧ (bif (!(s19.toList == (s1.extract (n2 : Int).toNat ((IntKind.i64.wrap (n2 + (IntKind.i64.wrap (1 + n7)))) : Int).toNat).toList)) then
 (canSt w17 w.heap.size 0 [(.int .i64 0), (.string (⟨#[]⟩ : ByteArray)), (.int .i64 0)] ∧ withW (setL w17 w.heap.size 0 [(.int .i64 0), (.string (⟨#[]⟩ : ByteArray)), (.int .i64 0)]) fun w20 =>
 (∃ (n21 : Int) (s22 : ByteArray) (n23 : Int), cellsAt w20 w.heap.size 0 [(.int .i64 n21), (.string s22), (.int .i64 n23)] ∧ (R (.tuple #[(.agg #[(.int .i64 n21), (.string s22), (.int .i64 n23)]), (.bool false)]) w20)))
 else
 (bif (decide ((IntKind.i64.wrap (n2 + (IntKind.i64.wrap (1 + n7)))) < (s1.size : Int))) then (0 ≤ (IntKind.i64.wrap (n2 + (IntKind.i64.wrap (1 + n7)))) ∧ ∃ u24 : UInt8, s1[((IntKind.i64.wrap (n2 + (IntKind.i64.wrap (1 + n7)))) : Int).toNat]? = some u24 ∧ (Calls Tryd.prog 40 #[(.int .u8 (u24.toNat : Int))] w17 fun e26 w25 => ∃ (b27 : Bool), e26 = .returned (.bool b27) ∧ (bif b27 then
 (canSt w25 w.heap.size 0 [(.int .i64 0), (.string (⟨#[]⟩ : ByteArray)), (.int .i64 0)] ∧ withW (setL w25 w.heap.size 0 [(.int .i64 0), (.string (⟨#[]⟩ : ByteArray)), (.int .i64 0)]) fun w28 =>
 (∃ (n29 : Int) (s30 : ByteArray) (n31 : Int), cellsAt w28 w.heap.size 0 [(.int .i64 n29), (.string s30), (.int .i64 n31)] ∧ (R (.tuple #[(.agg #[(.int .i64 n29), (.string s30), (.int .i64 n31)]), (.bool false)]) w28)))
 else
 (canSt w25 w.heap.size 0 [(.int .i64 3), (.string (s1.extract (n2 : Int).toNat ((IntKind.i64.wrap (n2 + (IntKind.i64.wrap (1 + n7)))) : Int).toNat)), (.int .i64 n10)] ∧ withW (setL w25 w.heap.size 0 [(.int .i64 3), (.string (s1.extract (n2 : Int).toNat ((IntKind.i64.wrap (n2 + (IntKind.i64.wrap (1 + n7)))) : Int).toNat)), (.int .i64 n10)]) fun w32 =>
 (∃ (n33 : Int) (s34 : ByteArray) (n35 : Int), cellsAt w32 w.heap.size 0 [(.int .i64 n33), (.string s34), (.int .i64 n35)] ∧ (R (.tuple #[(.agg #[(.int .i64 n33), (.string s34), (.int .i64 n35)]), (.bool true)]) w32)))))) else (canSt w17 w.heap.size 0 [(.int .i64 3), (.string (s1.extract (n2 : Int).toNat ((IntKind.i64.wrap (n2 + (IntKind.i64.wrap (1 + n7)))) : Int).toNat)), (.int .i64 n10)] ∧ withW (setL w17 w.heap.size 0 [(.int .i64 3), (.string (s1.extract (n2 : Int).toNat ((IntKind.i64.wrap (n2 + (IntKind.i64.wrap (1 + n7)))) : Int).toNat)), (.int .i64 n10)]) fun w36 =>
 (∃ (n37 : Int) (s38 : ByteArray) (n39 : Int), cellsAt w36 w.heap.size 0 [(.int .i64 n37), (.string s38), (.int .i64 n39)] ∧ (R (.tuple #[(.agg #[(.int .i64 n37), (.string s38), (.int .i64 n39)]), (.bool true)]) w36)))))))))))
 else
 (Calls Tryd.prog 39 #[(.string s1), (.int .i64 (IntKind.i64.wrap (n2 + 0))), (.func (.func 41) #[] #[])] w3 fun e41 w40 => ∃ (n42 : Int), e41 = .returned (.int .i64 n42) ∧ (0 ≤ n2 ∧ n2 ≤ (IntKind.i64.wrap (n2 + (IntKind.i64.wrap (0 + n42)))) ∧ (IntKind.i64.wrap (n2 + (IntKind.i64.wrap (0 + n42)))) ≤ (s1.size : Int) ∧ (Calls Tryd.prog 47 #[(.string (s1.extract (n2 : Int).toNat ((IntKind.i64.wrap (n2 + (IntKind.i64.wrap (0 + n42)))) : Int).toNat))] w40 fun e44 w43 => ∃ (n45 : Int) (v46 : Value), e44 = .returned (.tuple #[(.int .i64 n45), v46]) ∧ (∃ r47, IsNil v46 r47 ∧ (bif (!r47) then (canSt w43 w.heap.size 0 [(.int .i64 0), (.string (⟨#[]⟩ : ByteArray)), (.int .i64 0)] ∧ withW (setL w43 w.heap.size 0 [(.int .i64 0), (.string (⟨#[]⟩ : ByteArray)), (.int .i64 0)]) fun w48 =>
 (∃ (n49 : Int) (s50 : ByteArray) (n51 : Int), cellsAt w48 w.heap.size 0 [(.int .i64 n49), (.string s50), (.int .i64 n51)] ∧ (R (.tuple #[(.agg #[(.int .i64 n49), (.string s50), (.int .i64 n51)]), (.bool false)]) w48))) else (Calls Tryd.prog 48 #[(.int .i64 n45)] w43 fun e53 w52 => ∃ (s54 : ByteArray), e53 = .returned (.string s54) ∧ (bif (!(s54.toList == (s1.extract (n2 : Int).toNat ((IntKind.i64.wrap (n2 + (IntKind.i64.wrap (0 + n42)))) : Int).toNat).toList)) then
 (canSt w52 w.heap.size 0 [(.int .i64 0), (.string (⟨#[]⟩ : ByteArray)), (.int .i64 0)] ∧ withW (setL w52 w.heap.size 0 [(.int .i64 0), (.string (⟨#[]⟩ : ByteArray)), (.int .i64 0)]) fun w55 =>
 (∃ (n56 : Int) (s57 : ByteArray) (n58 : Int), cellsAt w55 w.heap.size 0 [(.int .i64 n56), (.string s57), (.int .i64 n58)] ∧ (R (.tuple #[(.agg #[(.int .i64 n56), (.string s57), (.int .i64 n58)]), (.bool false)]) w55)))
 else
 (bif (decide ((IntKind.i64.wrap (n2 + (IntKind.i64.wrap (0 + n42)))) < (s1.size : Int))) then (0 ≤ (IntKind.i64.wrap (n2 + (IntKind.i64.wrap (0 + n42)))) ∧ ∃ u59 : UInt8, s1[((IntKind.i64.wrap (n2 + (IntKind.i64.wrap (0 + n42)))) : Int).toNat]? = some u59 ∧ (Calls Tryd.prog 40 #[(.int .u8 (u59.toNat : Int))] w52 fun e61 w60 => ∃ (b62 : Bool), e61 = .returned (.bool b62) ∧ (bif b62 then
 (canSt w60 w.heap.size 0 [(.int .i64 0), (.string (⟨#[]⟩ : ByteArray)), (.int .i64 0)] ∧ withW (setL w60 w.heap.size 0 [(.int .i64 0), (.string (⟨#[]⟩ : ByteArray)), (.int .i64 0)]) fun w63 =>
 (∃ (n64 : Int) (s65 : ByteArray) (n66 : Int), cellsAt w63 w.heap.size 0 [(.int .i64 n64), (.string s65), (.int .i64 n66)] ∧ (R (.tuple #[(.agg #[(.int .i64 n64), (.string s65), (.int .i64 n66)]), (.bool false)]) w63)))
 else
 (canSt w60 w.heap.size 0 [(.int .i64 3), (.string (s1.extract (n2 : Int).toNat ((IntKind.i64.wrap (n2 + (IntKind.i64.wrap (0 + n42)))) : Int).toNat)), (.int .i64 n45)] ∧ withW (setL w60 w.heap.size 0 [(.int .i64 3), (.string (s1.extract (n2 : Int).toNat ((IntKind.i64.wrap (n2 + (IntKind.i64.wrap (0 + n42)))) : Int).toNat)), (.int .i64 n45)]) fun w67 =>
 (∃ (n68 : Int) (s69 : ByteArray) (n70 : Int), cellsAt w67 w.heap.size 0 [(.int .i64 n68), (.string s69), (.int .i64 n70)] ∧ (R (.tuple #[(.agg #[(.int .i64 n68), (.string s69), (.int .i64 n70)]), (.bool true)]) w67)))))) else (canSt w52 w.heap.size 0 [(.int .i64 3), (.string (s1.extract (n2 : Int).toNat ((IntKind.i64.wrap (n2 + (IntKind.i64.wrap (0 + n42)))) : Int).toNat)), (.int .i64 n45)] ∧ withW (setL w52 w.heap.size 0 [(.int .i64 3), (.string (s1.extract (n2 : Int).toNat ((IntKind.i64.wrap (n2 + (IntKind.i64.wrap (0 + n42)))) : Int).toNat)), (.int .i64 n45)]) fun w71 =>
 (∃ (n72 : Int) (s73 : ByteArray) (n74 : Int), cellsAt w71 w.heap.size 0 [(.int .i64 n72), (.string s73), (.int .i64 n74)] ∧ (R (.tuple #[(.agg #[(.int .i64 n72), (.string s73), (.int .i64 n74)]), (.bool true)]) w71))))))))))))))
set_option maxRecDepth 100000 in
theorem number.eq (s1 : ByteArray) (n2 : Int) (w : World) (R : Value → World → Prop) : number.W s1 n2 w R = fnW Tryd.prog tys fns number.hs Tryd.f42 [(.string s1), (.int .i64 n2)] w R := by kernel_rfl
theorem number.ok : codeOk tys number.hs Tryd.f42.ntmps (Tryd.f42.body.getD .skip) = true := by kernel_rfl
theorem number.calls {s1 n2 w R} (h : number.W s1 n2 w R) : Calls Tryd.prog 42 ([(.string s1), (.int .i64 n2)] : List Value).toArray w fun e w' => ∃ v, e = .returned v ∧ R v w' :=
  fnW_calls tysOk fnsOk follows Tryd.func42 (by kernel_rfl) number.ok (by kernel_rfl) (number.eq s1 n2 w R ▸ h)
end Go.Proofs.YtadgcpjobhgkiaaDoor.Vf
end
