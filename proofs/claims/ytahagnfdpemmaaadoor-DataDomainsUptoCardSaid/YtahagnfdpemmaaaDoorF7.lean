/- Forms of functions of this seat, as the second executor has them, each tied to the model by the kernel. -/
import Derived.Test.YtahagnfdpemmaaaDoorF4
/- part Y1D -/
section
namespace Go.Proofs.YtahagnfdpemmaaaDoor.Va
set_option maxRecDepth 100000
set_option maxHeartbeats 4000000
open Go.Vx Go.Av
/-! ### RDomain: function 8, augur/augurref10.Domain -/
def RDomain.ah : AH := ⟨[(26, (.one 0 (.one 2 (.one 4 (.alt ((.one 1 (.alt (seqO [3, 5, 6, 7, 8, 9]) (seqO [5, 3, 6, 7, 8, 9])))) (seqO [5, 1, 3, 6, 7, 8, 9]))))))], [(9, ⟨[(7, [.nw 39 4 false], false), (53, [.d (.int .i64)], false)], [], [], [2]⟩), (15, ⟨[(12, [.nw 34 1 false], false), (71, [.d (.int .i64)], false)], [], [], []⟩), (20, ⟨[(15, [.nw 34 1 false], false), (83, [.d (.int .i64)], false)], [], [], [9]⟩), (23, ⟨[(15, [.nw 34 1 false], false), (89, [.d (.int .i64)], false)], [], [], [10]⟩), (32, ⟨[(7, [.nw 39 4 false], false), (111, [.d (.int .i64)], false)], [], [], [3]⟩)], [], [(8, ⟨[some [.sl 20, .sl 6, .sl 5], some [.int .i64, .str, .int .i64, .sl 4], some [.int .i64]], [.c (.sl 4)], []⟩), (17, ⟨[some [.sl 20, .sl 6, .sl 5], some [.str]], [.c (.sl 6)], []⟩), (18, ⟨[some [.sl 20, .sl 6, .sl 5], some [.str, .int .i64], some [.int .i64, .str, .int .i64, .sl 4]], [.c (.sl 4), .c (.bool)], []⟩)], [], [some [.sl 4]], [], [], []⟩
def RDomain.W (l1 : List (List V)) (l2 : List (List V)) (l3 : List (List V)) (n4 : Int) (s5 : ByteArray) (n6 : Int) (l7 : List (List V)) (n8 : Int) (K : List V → Prop) : Prop :=
 (bif (n4 == (1 : Int)) then
 (K [(.sl 4 [[.bool false, .int .i64 0, (.str (⟨#[]⟩ : ByteArray)), .sl 4 []], [.bool false, .int .i64 1, (.str (⟨#[]⟩ : ByteArray)), .sl 4 []], [.bool false, .int .i64 2, (.str (⟨#[]⟩ : ByteArray)), .sl 4 []]])])
 else
 (bif (n4 == (3 : Int)) then (K [(.sl 4 [[.bool false, .int .i64 0, (.str (⟨#[]⟩ : ByteArray)), .sl 4 []]])]) else (bif (n4 == (4 : Int)) then
 (K [(.sl 4 [[.bool false, .int .i64 0, (.str (⟨#[]⟩ : ByteArray)), .sl 4 []]])])
 else
 (bif (decide (n8 < (1 : Int))) then (K [.sl 4 []]) else (bif (decide (n8 > (4 : Int))) then
 (K [.sl 4 []])
 else
 (PCalls ax 17 [.agg [.sl 20 l1, .sl 6 l2, .sl 5 l3], .str s5] fun r12 => ∃ (l11 : List (List V)), r12 = [.sl 6 l11] ∧ (∃ (I1076 : List V → Prop) (μ1077 : List V → Nat), I1076 [.sl 4 [], .int .i64 0] ∧ (∀ (l1078 : List (List V)) (n1079 : Int), I1076 [.sl 4 l1078, .int .i64 n1079] →
 (bif (decide (n1079 < (List.length l11 : Int))) then
 (0 ≤ n1079 ∧ n1079 < (List.length l11 : Int) ∧ (∃ (s1086 : ByteArray) (n1087 : Int) (s1088 : ByteArray) (l1089 : List (List V)) (l1090 : List (List V)) (n1091 : Int), List.take 6 (Av.rowAt l11 (n1079 : Int).toNat) = [.str s1086, .int .i64 n1087, .str s1088, .sl 1 l1089, .sl 3 l1090, .int .i64 n1091] ∧ (PCalls ax 18 [.agg [.sl 20 l1, .sl 6 l2, .sl 5 l3], .agg [.str s1086, .int .i64 n1087], .agg [.int .i64 n4, .str s5, .int .i64 n6, .sl 4 l7]] fun r1097 => ∃ (l1095 : List (List V)) (b1096 : Bool), r1097 = [.sl 4 l1095, .bool b1096] ∧ (bif (!b1096) then
 (I1076 [.sl 4 l1078, (.int .i64 (IntKind.i64.wrap (n1079 + 1)))] ∧ μ1077 [.sl 4 l1078, (.int .i64 (IntKind.i64.wrap (n1079 + 1)))] < μ1077 [.sl 4 l1078, .int .i64 n1079])
 else
 (∃ (I1518 : List V → Prop) (μ1519 : List V → Nat), I1518 [.sl 1 [[.sl 4 []]], .int .i64 0] ∧ (∀ (l1520 : List (List V)) (n1521 : Int), I1518 [.sl 1 l1520, .int .i64 n1521] →
 (bif (decide (n1521 < (List.length l1095 : Int))) then
 (0 ≤ n1521 ∧ n1521 < (List.length l1095 : Int) ∧ (∃ (n1526 : Int) (s1527 : ByteArray) (n1528 : Int) (l1529 : List (List V)), List.take 4 (Av.rowAt l1095 (n1521 : Int).toNat) = [.int .i64 n1526, .str s1527, .int .i64 n1528, .sl 4 l1529] ∧ (PCalls ax 8 [.agg [.sl 20 l1, .sl 6 l2, .sl 5 l3], .agg [.int .i64 n1526, .str s1527, .int .i64 n1528, .sl 4 l1529], (.int .i64 (IntKind.i64.wrap (n8 - 1)))] fun r1533 => ∃ (l1532 : List (List V)), r1533 = [.sl 4 l1532] ∧ (∃ (I1579 : List V → Prop) (μ1580 : List V → Nat), I1579 [.sl 1 [], .int .i64 0] ∧ (∀ (l1581 : List (List V)) (n1582 : Int), I1579 [.sl 1 l1581, .int .i64 n1582] →
 (bif (decide (n1582 < (List.length l1520 : Int))) then
 (0 ≤ n1582 ∧ n1582 < (List.length l1520 : Int) ∧ (∃ (l1584 : List (List V)), List.take 1 (Av.rowAt l1520 ((n1582 : Int).toNat)) = [.sl 4 l1584] ∧ (∃ (I1596 : List V → Prop) (μ1597 : List V → Nat), I1596 [.sl 1 l1581, .int .i64 0] ∧ (∀ (l1598 : List (List V)) (n1599 : Int), I1596 [.sl 1 l1598, .int .i64 n1599] →
 (bif (decide (n1599 < (List.length l1532 : Int))) then
 (0 ≤ n1599 ∧ n1599 < (List.length l1532 : Int) ∧ (∃ (b1600 : Bool) (n1601 : Int) (s1602 : ByteArray) (l1603 : List (List V)), List.take 4 (Av.rowAt l1532 (n1599 : Int).toNat) = [.bool b1600, .int .i64 n1601, .str s1602, .sl 4 l1603] ∧ (bif (decide ((List.length l1598 : Int) < (300 : Int))) then
 ((((0 + (List.length l1584)) * 56 ≤ 140737488355328 ∧ 0 + (List.length l1584) ≤ 140737488355328 ∧ (((List.length l1584) + (List.length ([[.bool b1600, .int .i64 n1601, .str s1602, .sl 4 l1603]] : List (List V)))) * 56 ≤ 140737488355328 ∧ (List.length l1584) + (List.length ([[.bool b1600, .int .i64 n1601, .str s1602, .sl 4 l1603]] : List (List V))) ≤ 140737488355328 ∧ (((List.length l1598) + (List.length ([[(.sl 4 (l1584 ++ [[.bool b1600, .int .i64 n1601, .str s1602, .sl 4 l1603]]))]] : List (List V)))) * 24 ≤ 140737488355328 ∧ (List.length l1598) + (List.length ([[(.sl 4 (l1584 ++ [[.bool b1600, .int .i64 n1601, .str s1602, .sl 4 l1603]]))]] : List (List V))) ≤ 140737488355328 ∧ (I1596 [(.sl 1 (l1598 ++ [[(.sl 4 (l1584 ++ [[.bool b1600, .int .i64 n1601, .str s1602, .sl 4 l1603]]))]])), (.int .i64 (IntKind.i64.wrap (n1599 + 1)))] ∧ μ1597 [(.sl 1 (l1598 ++ [[(.sl 4 (l1584 ++ [[.bool b1600, .int .i64 n1601, .str s1602, .sl 4 l1603]]))]])), (.int .i64 (IntKind.i64.wrap (n1599 + 1)))] < μ1597 [.sl 1 l1598, .int .i64 n1599])))) ∧ ((0 + (List.length l1584)) * 56 ≤ 140737488355328 ∧ 0 + (List.length l1584) ≤ 140737488355328 ∧ (((List.length l1584) + (List.length ([[.bool b1600, .int .i64 n1601, .str s1602, .sl 4 l1603]] : List (List V)))) * 56 ≤ 140737488355328 ∧ (List.length l1584) + (List.length ([[.bool b1600, .int .i64 n1601, .str s1602, .sl 4 l1603]] : List (List V))) ≤ 140737488355328 ∧ (((List.length l1598) + (List.length ([[(.sl 4 (l1584 ++ [[.bool b1600, .int .i64 n1601, .str s1602, .sl 4 l1603]]))]] : List (List V)))) * 24 ≤ 140737488355328 ∧ (List.length l1598) + (List.length ([[(.sl 4 (l1584 ++ [[.bool b1600, .int .i64 n1601, .str s1602, .sl 4 l1603]]))]] : List (List V))) ≤ 140737488355328 ∧ (I1596 [(.sl 1 (l1598 ++ [[(.sl 4 (l1584 ++ [[.bool b1600, .int .i64 n1601, .str s1602, .sl 4 l1603]]))]])), (.int .i64 (IntKind.i64.wrap (n1599 + 1)))] ∧ μ1597 [(.sl 1 (l1598 ++ [[(.sl 4 (l1584 ++ [[.bool b1600, .int .i64 n1601, .str s1602, .sl 4 l1603]]))]])), (.int .i64 (IntKind.i64.wrap (n1599 + 1)))] < μ1597 [.sl 1 l1598, .int .i64 n1599]))))) ∧ ((0 + (List.length l1584)) * 56 ≤ 140737488355328 ∧ 0 + (List.length l1584) ≤ 140737488355328 ∧ (((List.length l1584) + (List.length ([[.bool b1600, .int .i64 n1601, .str s1602, .sl 4 l1603]] : List (List V)))) * 56 ≤ 140737488355328 ∧ (List.length l1584) + (List.length ([[.bool b1600, .int .i64 n1601, .str s1602, .sl 4 l1603]] : List (List V))) ≤ 140737488355328 ∧ (((List.length l1598) + (List.length ([[(.sl 4 (l1584 ++ [[.bool b1600, .int .i64 n1601, .str s1602, .sl 4 l1603]]))]] : List (List V)))) * 24 ≤ 140737488355328 ∧ (List.length l1598) + (List.length ([[(.sl 4 (l1584 ++ [[.bool b1600, .int .i64 n1601, .str s1602, .sl 4 l1603]]))]] : List (List V))) ≤ 140737488355328 ∧ (I1596 [(.sl 1 (l1598 ++ [[(.sl 4 (l1584 ++ [[.bool b1600, .int .i64 n1601, .str s1602, .sl 4 l1603]]))]])), (.int .i64 (IntKind.i64.wrap (n1599 + 1)))] ∧ μ1597 [(.sl 1 (l1598 ++ [[(.sl 4 (l1584 ++ [[.bool b1600, .int .i64 n1601, .str s1602, .sl 4 l1603]]))]])), (.int .i64 (IntKind.i64.wrap (n1599 + 1)))] < μ1597 [.sl 1 l1598, .int .i64 n1599])))))
 else
 (I1596 [.sl 1 l1598, (.int .i64 (IntKind.i64.wrap (n1599 + 1)))] ∧ μ1597 [.sl 1 l1598, (.int .i64 (IntKind.i64.wrap (n1599 + 1)))] < μ1597 [.sl 1 l1598, .int .i64 n1599]))))
 else
 (I1579 [.sl 1 l1598, (.int .i64 (IntKind.i64.wrap (n1582 + 1)))] ∧ μ1580 [.sl 1 l1598, (.int .i64 (IntKind.i64.wrap (n1582 + 1)))] < μ1580 [.sl 1 l1581, .int .i64 n1582]))))))
 else
 (I1518 [.sl 1 l1581, (.int .i64 (IntKind.i64.wrap (n1521 + 1)))] ∧ μ1519 [.sl 1 l1581, (.int .i64 (IntKind.i64.wrap (n1521 + 1)))] < μ1519 [.sl 1 l1520, .int .i64 n1521])))))))
 else
 (∃ (I1609 : List V → Prop) (μ1610 : List V → Nat), I1609 [.sl 4 l1078, .int .i64 0] ∧ (∀ (l1611 : List (List V)) (n1612 : Int), I1609 [.sl 4 l1611, .int .i64 n1612] →
 (bif (decide (n1612 < (List.length l1520 : Int))) then
 (0 ≤ n1612 ∧ n1612 < (List.length l1520 : Int) ∧ (∃ (l1613 : List (List V)), List.take 1 (Av.rowAt l1520 ((n1612 : Int).toNat)) = [.sl 4 l1613] ∧ (bif (decide ((List.length l1611 : Int) < (300 : Int))) then
 (((List.length l1611) + (List.length ([[.bool true, .int .i64 0, .str s1086, .sl 4 l1613]] : List (List V)))) * 56 ≤ 140737488355328 ∧ (List.length l1611) + (List.length ([[.bool true, .int .i64 0, .str s1086, .sl 4 l1613]] : List (List V))) ≤ 140737488355328 ∧ (I1609 [(.sl 4 (l1611 ++ [[.bool true, .int .i64 0, .str s1086, .sl 4 l1613]])), (.int .i64 (IntKind.i64.wrap (n1612 + 1)))] ∧ μ1610 [(.sl 4 (l1611 ++ [[.bool true, .int .i64 0, .str s1086, .sl 4 l1613]])), (.int .i64 (IntKind.i64.wrap (n1612 + 1)))] < μ1610 [.sl 4 l1611, .int .i64 n1612]))
 else
 (I1609 [.sl 4 l1611, (.int .i64 (IntKind.i64.wrap (n1612 + 1)))] ∧ μ1610 [.sl 4 l1611, (.int .i64 (IntKind.i64.wrap (n1612 + 1)))] < μ1610 [.sl 4 l1611, .int .i64 n1612]))))
 else
 (I1076 [.sl 4 l1611, (.int .i64 (IntKind.i64.wrap (n1079 + 1)))] ∧ μ1077 [.sl 4 l1611, (.int .i64 (IntKind.i64.wrap (n1079 + 1)))] < μ1077 [.sl 4 l1078, .int .i64 n1079])))))))))))
 else
 (K [.sl 4 l1078]))))))))))
theorem RDomain.eq (l1 : List (List V)) (l2 : List (List V)) (l3 : List (List V)) (n4 : Int) (s5 : ByteArray) (n6 : Int) (l7 : List (List V)) (n8 : Int) (K : List V → Prop) : RDomain.W l1 l2 l3 n4 s5 n6 l7 n8 K = afn ax RDomain.ah Tryd.f8 [.agg [.sl 20 l1, .sl 6 l2, .sl 5 l3], .agg [.int .i64 n4, .str s5, .int .i64 n6, .sl 4 l7], .int .i64 n8] [] (onlyV K) := by kernel_rfl
theorem RDomain.ok : codeOk tys (hintsOf RDomain.ah) Tryd.f8.ntmps (Tryd.f8.body.getD .skip) = true := by kernel_rfl
theorem RDomain.calls {l1 l2 l3 n4 s5 n6 l7 n8 K} (h : RDomain.W l1 l2 l3 n4 s5 n6 l7 n8 K) : PCalls ax 8 [.agg [.sl 20 l1, .sl 6 l2, .sl 5 l3], .agg [.int .i64 n4, .str s5, .int .i64 n6, .sl 4 l7], .int .i64 n8] K :=
  afn_run (ah := RDomain.ah) tysOk fnsOk follows eqOk Tryd.func8 (by kernel_rfl) RDomain.ok (by kernel_rfl) (Eq.mp (RDomain.eq l1 l2 l3 n4 s5 n6 l7 n8 K) h)
/-! ### SameList: function 9, augur/augurref10.SameList -/
def SameList.ah : AH := ⟨[(6, seqO [0, 1, 2, 3, 4, 5, 6, 7, 8, 9])], [(4, ⟨[(13, [.d (.int .i64)], false)], [], [], []⟩)], [], [(19, ⟨[some [.bool, .int .i64, .str, .sl 4], some [.bool, .int .i64, .str, .sl 4]], [.c (.bool)], []⟩)], [], [some [.bool]], [], [], []⟩
def SameList.W (l1 : List (List V)) (l2 : List (List V)) (K : List V → Prop) : Prop :=
 (bif ((List.length l1 : Int) != (List.length l2 : Int)) then
 (K [.bool false])
 else
 (∃ (I14 : List V → Prop) (μ15 : List V → Nat), I14 [.int .i64 0] ∧ (∀ (n16 : Int), I14 [.int .i64 n16] →
 (bif (decide (n16 < (List.length l1 : Int))) then
 (0 ≤ n16 ∧ n16 < (List.length l1 : Int) ∧ (∃ (b17 : Bool) (n18 : Int) (s19 : ByteArray) (l20 : List (List V)), List.take 4 (Av.rowAt l1 (n16 : Int).toNat) = [.bool b17, .int .i64 n18, .str s19, .sl 4 l20] ∧ (0 ≤ n16 ∧ n16 < (List.length l2 : Int) ∧ (∃ (b21 : Bool) (n22 : Int) (s23 : ByteArray) (l24 : List (List V)), List.take 4 (Av.rowAt l2 (n16 : Int).toNat) = [.bool b21, .int .i64 n22, .str s23, .sl 4 l24] ∧ (PCalls ax 19 [.agg [.bool b17, .int .i64 n18, .str s19, .sl 4 l20], .agg [.bool b21, .int .i64 n22, .str s23, .sl 4 l24]] fun r26 => ∃ (b25 : Bool), r26 = [.bool b25] ∧ (bif (!b25) then
 (K [.bool false])
 else
 (I14 [(.int .i64 (IntKind.i64.wrap (n16 + 1)))] ∧ μ15 [(.int .i64 (IntKind.i64.wrap (n16 + 1)))] < μ15 [.int .i64 n16])))))))
 else
 (K [.bool true])))))
theorem SameList.eq (l1 : List (List V)) (l2 : List (List V)) (K : List V → Prop) : SameList.W l1 l2 K = afn ax SameList.ah Tryd.f9 [.sl 4 l1, .sl 4 l2] [] (onlyV K) := by kernel_rfl
theorem SameList.ok : codeOk tys (hintsOf SameList.ah) Tryd.f9.ntmps (Tryd.f9.body.getD .skip) = true := by kernel_rfl
theorem SameList.calls {l1 l2 K} (h : SameList.W l1 l2 K) : PCalls ax 9 [.sl 4 l1, .sl 4 l2] K :=
  afn_run (ah := SameList.ah) tysOk fnsOk follows eqOk Tryd.func9 (by kernel_rfl) SameList.ok (by kernel_rfl) (Eq.mp (SameList.eq l1 l2 K) h)
/-! ### Same: function 19, augur/augurref10.Same -/
def Same.ah : AH := ⟨[], [], [], [(39, ⟨[some [.bool, .int .i64, .str, .sl 4], some [.bool, .int .i64, .str, .sl 4]], [.c (.int .i64)], []⟩)], [], [some [.bool]], [], [], []⟩
def Same.W (b1 : Bool) (n2 : Int) (s3 : ByteArray) (l4 : List (List V)) (b5 : Bool) (n6 : Int) (s7 : ByteArray) (l8 : List (List V)) (K : List V → Prop) : Prop :=
 (PCalls ax 39 [.agg [.bool b1, .int .i64 n2, .str s3, .sl 4 l4], .agg [.bool b5, .int .i64 n6, .str s7, .sl 4 l8]] fun r10 => ∃ (n9 : Int), r10 = [.int .i64 n9] ∧ (K [(.bool (n9 == (0 : Int)))]))
theorem Same.eq (b1 : Bool) (n2 : Int) (s3 : ByteArray) (l4 : List (List V)) (b5 : Bool) (n6 : Int) (s7 : ByteArray) (l8 : List (List V)) (K : List V → Prop) : Same.W b1 n2 s3 l4 b5 n6 s7 l8 K = afn ax Same.ah Tryd.f19 [.agg [.bool b1, .int .i64 n2, .str s3, .sl 4 l4], .agg [.bool b5, .int .i64 n6, .str s7, .sl 4 l8]] [] (onlyV K) := by kernel_rfl
theorem Same.ok : codeOk tys (hintsOf Same.ah) Tryd.f19.ntmps (Tryd.f19.body.getD .skip) = true := by kernel_rfl
theorem Same.calls {b1 n2 s3 l4 b5 n6 s7 l8 K} (h : Same.W b1 n2 s3 l4 b5 n6 s7 l8 K) : PCalls ax 19 [.agg [.bool b1, .int .i64 n2, .str s3, .sl 4 l4], .agg [.bool b5, .int .i64 n6, .str s7, .sl 4 l8]] K :=
  afn_run (ah := Same.ah) tysOk fnsOk follows eqOk Tryd.func19 (by kernel_rfl) Same.ok (by kernel_rfl) (Eq.mp (Same.eq b1 n2 s3 l4 b5 n6 s7 l8 K) h)
/-! ### RCompare: function 39, augur/augurref10.Compare -/
def RCompare.ah : AH := ⟨[(18, seqO [0, 1, 2, 3, 4, 5, 6, 7, 8, 9, 10, 11])], [(16, ⟨[(71, [.d (.int .i64)], false)], [], [], []⟩)], [(2, ⟨[(14, [.d (.bool)], false)], [], [], []⟩), (13, ⟨[], [], [], []⟩)], [(39, ⟨[some [.bool, .int .i64, .str, .sl 4], some [.bool, .int .i64, .str, .sl 4]], [.c (.int .i64)], []⟩)], [], [some [.int .i64]], [], [], []⟩
def RCompare.W (b1 : Bool) (n2 : Int) (s3 : ByteArray) (l4 : List (List V)) (b5 : Bool) (n6 : Int) (s7 : ByteArray) (l8 : List (List V)) (K : List V → Prop) : Prop :=
 (∃ J11 : List V → Prop, (bif (!b1) then (J11 [.bool true]) else (J11 [(.bool (!b5))])) ∧
 (∀ (b12 : Bool), J11 [.bool b12] →
 (bif b12 then
 (bif b1 then
 (K [.int .i64 1])
 else
 (bif b5 then
 (K [(.int .i64 (-1))])
 else
 (bif (decide (n2 < n6)) then
 (K [(.int .i64 (-1))])
 else
 (bif (decide (n2 > n6)) then
 (K [.int .i64 1])
 else
 (K [.int .i64 0])))))
 else
 (∃ J13 : List V → Prop, (bif (Op.bytesLess s3.toList s7.toList) then (K [(.int .i64 (-1))]) else (bif (strEq s3 s7) then (bif (decide ((List.length l4 : Int) < (List.length l8 : Int))) then
 (K [(.int .i64 (-1))])
 else
 (J13 [])) else (J13 []))) ∧
 (J13 [] →
 (bif (!((Op.bytesLess s3.toList s7.toList) || (s3.toList == s7.toList))) then (K [.int .i64 1]) else (bif (decide ((List.length l4 : Int) > (List.length l8 : Int))) then
 (K [.int .i64 1])
 else
 (∃ (I25 : List V → Prop) (μ26 : List V → Nat), I25 [.int .i64 0] ∧ (∀ (n27 : Int), I25 [.int .i64 n27] →
 (bif (decide (n27 < (List.length l4 : Int))) then
 (0 ≤ n27 ∧ n27 < (List.length l4 : Int) ∧ (∃ (b28 : Bool) (n29 : Int) (s30 : ByteArray) (l31 : List (List V)), List.take 4 (Av.rowAt l4 (n27 : Int).toNat) = [.bool b28, .int .i64 n29, .str s30, .sl 4 l31] ∧ (0 ≤ n27 ∧ n27 < (List.length l8 : Int) ∧ (∃ (b32 : Bool) (n33 : Int) (s34 : ByteArray) (l35 : List (List V)), List.take 4 (Av.rowAt l8 (n27 : Int).toNat) = [.bool b32, .int .i64 n33, .str s34, .sl 4 l35] ∧ (PCalls ax 39 [.agg [.bool b28, .int .i64 n29, .str s30, .sl 4 l31], .agg [.bool b32, .int .i64 n33, .str s34, .sl 4 l35]] fun r37 => ∃ (n36 : Int), r37 = [.int .i64 n36] ∧ (bif (n36 != (0 : Int)) then
 (K [.int .i64 n36])
 else
 (I25 [(.int .i64 (IntKind.i64.wrap (n27 + 1)))] ∧ μ26 [(.int .i64 (IntKind.i64.wrap (n27 + 1)))] < μ26 [.int .i64 n27])))))))
 else
 (K [.int .i64 0])))))))))))
theorem RCompare.eq (b1 : Bool) (n2 : Int) (s3 : ByteArray) (l4 : List (List V)) (b5 : Bool) (n6 : Int) (s7 : ByteArray) (l8 : List (List V)) (K : List V → Prop) : RCompare.W b1 n2 s3 l4 b5 n6 s7 l8 K = afn ax RCompare.ah Tryd.f39 [.agg [.bool b1, .int .i64 n2, .str s3, .sl 4 l4], .agg [.bool b5, .int .i64 n6, .str s7, .sl 4 l8]] [] (onlyV K) := by kernel_rfl
theorem RCompare.ok : codeOk tys (hintsOf RCompare.ah) Tryd.f39.ntmps (Tryd.f39.body.getD .skip) = true := by kernel_rfl
theorem RCompare.calls {b1 n2 s3 l4 b5 n6 s7 l8 K} (h : RCompare.W b1 n2 s3 l4 b5 n6 s7 l8 K) : PCalls ax 39 [.agg [.bool b1, .int .i64 n2, .str s3, .sl 4 l4], .agg [.bool b5, .int .i64 n6, .str s7, .sl 4 l8]] K :=
  afn_run (ah := RCompare.ah) tysOk fnsOk follows eqOk Tryd.func39 (by kernel_rfl) RCompare.ok (by kernel_rfl) (Eq.mp (RCompare.eq b1 n2 s3 l4 b5 n6 s7 l8 K) h)
/-! ### RCtors: function 17, augur/augurref04.Ctors -/
def RCtors.ah : AH := ⟨[], [(3, ⟨[(5, [.nw 56 6 false], false), (12, [.d (.int .i64)], false)], [], [], [1]⟩)], [], [], [], [some [.sl 6]], [], [], []⟩
def RCtors.W (_l1 : List (List V)) (l2 : List (List V)) (_l3 : List (List V)) (s4 : ByteArray) (K : List V → Prop) : Prop :=
 (∃ (I20 : List V → Prop) (μ21 : List V → Nat), I20 [.sl 6 [], .int .i64 0] ∧ (∀ (l22 : List (List V)) (n23 : Int), I20 [.sl 6 l22, .int .i64 n23] →
 (bif (decide (n23 < (List.length l2 : Int))) then
 (0 ≤ n23 ∧ n23 < (List.length l2 : Int) ∧ (∃ (s24 : ByteArray) (n25 : Int) (s26 : ByteArray) (l27 : List (List V)) (l28 : List (List V)) (n29 : Int), List.take 6 (Av.rowAt l2 (n23 : Int).toNat) = [.str s24, .int .i64 n25, .str s26, .sl 1 l27, .sl 3 l28, .int .i64 n29] ∧ (bif (strEq s26 s4) then
 (((List.length l22) + (List.length ([[.str s24, .int .i64 n25, .str s26, .sl 1 l27, .sl 3 l28, .int .i64 n29]] : List (List V)))) * 96 ≤ 140737488355328 ∧ (List.length l22) + (List.length ([[.str s24, .int .i64 n25, .str s26, .sl 1 l27, .sl 3 l28, .int .i64 n29]] : List (List V))) ≤ 140737488355328 ∧ (I20 [(.sl 6 (l22 ++ [[.str s24, .int .i64 n25, .str s26, .sl 1 l27, .sl 3 l28, .int .i64 n29]])), (.int .i64 (IntKind.i64.wrap (n23 + 1)))] ∧ μ21 [(.sl 6 (l22 ++ [[.str s24, .int .i64 n25, .str s26, .sl 1 l27, .sl 3 l28, .int .i64 n29]])), (.int .i64 (IntKind.i64.wrap (n23 + 1)))] < μ21 [.sl 6 l22, .int .i64 n23]))
 else
 (I20 [.sl 6 l22, (.int .i64 (IntKind.i64.wrap (n23 + 1)))] ∧ μ21 [.sl 6 l22, (.int .i64 (IntKind.i64.wrap (n23 + 1)))] < μ21 [.sl 6 l22, .int .i64 n23]))))
 else
 (K [.sl 6 l22]))))
theorem RCtors.eq (l1 : List (List V)) (l2 : List (List V)) (l3 : List (List V)) (s4 : ByteArray) (K : List V → Prop) : RCtors.W l1 l2 l3 s4 K = afn ax RCtors.ah Tryd.f17 [.agg [.sl 20 l1, .sl 6 l2, .sl 5 l3], .str s4] [] (onlyV K) := by kernel_rfl
theorem RCtors.ok : codeOk tys (hintsOf RCtors.ah) Tryd.f17.ntmps (Tryd.f17.body.getD .skip) = true := by kernel_rfl
theorem RCtors.calls {l1 l2 l3 s4 K} (h : RCtors.W l1 l2 l3 s4 K) : PCalls ax 17 [.agg [.sl 20 l1, .sl 6 l2, .sl 5 l3], .str s4] K :=
  afn_run (ah := RCtors.ah) tysOk fnsOk follows eqOk Tryd.func17 (by kernel_rfl) RCtors.ok (by kernel_rfl) (Eq.mp (RCtors.eq l1 l2 l3 s4 K) h)
/-! ### RFields: function 18, augur/augurref07.Fields -/
def RFields.ah : AH := ⟨[], [(6, ⟨[(10, [.nw 24 4 false], false), (46, [.d (.int .i64)], false)], [], [], [4]⟩)], [], [(37, ⟨[some [.sl 20, .sl 6, .sl 5], some [.str, .int .i64]], [.ag [.str, .int .i64, .str, .sl 1, .sl 3, .int .i64], .c (.bool)], []⟩), (38, ⟨[some [.bool, .str, .sl 3], some [.sl 1], some [.sl 4]], [.ag [.int .i64, .str, .int .i64, .sl 4]], []⟩)], [], [some [.sl 4], some [.bool]], [], [], []⟩
def RFields.W (l1 : List (List V)) (l2 : List (List V)) (l3 : List (List V)) (s4 : ByteArray) (n5 : Int) (n6 : Int) (s7 : ByteArray) (_n8 : Int) (l9 : List (List V)) (K : List V → Prop) : Prop :=
 (PCalls ax 37 [.agg [.sl 20 l1, .sl 6 l2, .sl 5 l3], .agg [.str s4, .int .i64 n5]] fun r25 => ∃ (s18 : ByteArray) (n19 : Int) (s20 : ByteArray) (l21 : List (List V)) (l22 : List (List V)) (n23 : Int) (b24 : Bool), r25 = [.agg [.str s18, .int .i64 n19, .str s20, .sl 1 l21, .sl 3 l22, .int .i64 n23], .bool b24] ∧ (bif (!b24) then (K [.sl 4 [], .bool false]) else (bif (n6 != (2 : Int)) then (K [.sl 4 [], .bool false]) else (bif (!(strEq s7 s20)) then (K [.sl 4 [], .bool false]) else (bif ((List.length l9 : Int) != (List.length l21 : Int)) then
 (K [.sl 4 [], .bool false])
 else
 (∃ (I45 : List V → Prop) (μ46 : List V → Nat), I45 [.sl 4 [], .int .i64 0] ∧ (∀ (l47 : List (List V)) (n48 : Int), I45 [.sl 4 l47, .int .i64 n48] →
 (bif (decide (n48 < (List.length l22 : Int))) then
 (0 ≤ n48 ∧ n48 < (List.length l22 : Int) ∧ (∃ (b49 : Bool) (s50 : ByteArray) (l51 : List (List V)), List.take 3 (Av.rowAt l22 (n48 : Int).toNat) = [.bool b49, .str s50, .sl 3 l51] ∧ (PCalls ax 38 [.agg [.bool b49, .str s50, .sl 3 l51], .sl 1 l21, .sl 4 l9] fun r56 => ∃ (n52 : Int) (s53 : ByteArray) (n54 : Int) (l55 : List (List V)), r56 = [.agg [.int .i64 n52, .str s53, .int .i64 n54, .sl 4 l55]] ∧ (((List.length l47) + (List.length ([[.int .i64 n52, .str s53, .int .i64 n54, .sl 4 l55]] : List (List V)))) * 56 ≤ 140737488355328 ∧ (List.length l47) + (List.length ([[.int .i64 n52, .str s53, .int .i64 n54, .sl 4 l55]] : List (List V))) ≤ 140737488355328 ∧ (I45 [(.sl 4 (l47 ++ [[.int .i64 n52, .str s53, .int .i64 n54, .sl 4 l55]])), (.int .i64 (IntKind.i64.wrap (n48 + 1)))] ∧ μ46 [(.sl 4 (l47 ++ [[.int .i64 n52, .str s53, .int .i64 n54, .sl 4 l55]])), (.int .i64 (IntKind.i64.wrap (n48 + 1)))] < μ46 [.sl 4 l47, .int .i64 n48])))))
 else
 (K [.sl 4 l47, .bool true])))))))))
theorem RFields.eq (l1 : List (List V)) (l2 : List (List V)) (l3 : List (List V)) (s4 : ByteArray) (n5 : Int) (n6 : Int) (s7 : ByteArray) (n8 : Int) (l9 : List (List V)) (K : List V → Prop) : RFields.W l1 l2 l3 s4 n5 n6 s7 n8 l9 K = afn ax RFields.ah Tryd.f18 [.agg [.sl 20 l1, .sl 6 l2, .sl 5 l3], .agg [.str s4, .int .i64 n5], .agg [.int .i64 n6, .str s7, .int .i64 n8, .sl 4 l9]] [] (onlyV K) := by kernel_rfl
theorem RFields.ok : codeOk tys (hintsOf RFields.ah) Tryd.f18.ntmps (Tryd.f18.body.getD .skip) = true := by kernel_rfl
theorem RFields.calls {l1 l2 l3 s4 n5 n6 s7 n8 l9 K} (h : RFields.W l1 l2 l3 s4 n5 n6 s7 n8 l9 K) : PCalls ax 18 [.agg [.sl 20 l1, .sl 6 l2, .sl 5 l3], .agg [.str s4, .int .i64 n5], .agg [.int .i64 n6, .str s7, .int .i64 n8, .sl 4 l9]] K :=
  afn_run (ah := RFields.ah) tysOk fnsOk follows eqOk Tryd.func18 (by kernel_rfl) RFields.ok (by kernel_rfl) (Eq.mp (RFields.eq l1 l2 l3 s4 n5 n6 s7 n8 l9 K) h)
/-! ### RInstance: function 38, augur/augurref06.Instance -/
def RInstance.ah : AH := ⟨[(15, seqO [0, 1, 2, 3, 4, 5, 6, 7, 8, 9])], [(3, ⟨[(16, [.d (.int .i64)], false)], [], [], []⟩), (13, ⟨[(49, [.d (.int .i64)], false)], [(2, [.d (.int .i64), .d (.str), .d (.int .i64), .nw 24 4 false])], [], []⟩)], [(11, ⟨[], [], [], []⟩)], [(38, ⟨[some [.bool, .str, .sl 3], some [.sl 1], some [.sl 4]], [.ag [.int .i64, .str, .int .i64, .sl 4]], []⟩)], [], [some [.int .i64, .str, .int .i64, .sl 4]], [], [], []⟩
def RInstance.W (b1 : Bool) (s2 : ByteArray) (l3 : List (List V)) (l4 : List (List V)) (l5 : List (List V)) (K : List V → Prop) : Prop :=
 (bif b1 then
 (∃ (I26 : List V → Prop) (μ27 : List V → Nat), I26 [.int .i64 0] ∧ (∀ (n28 : Int), I26 [.int .i64 n28] →
 (bif (decide (n28 < (List.length l4 : Int))) then
 (0 ≤ n28 ∧ n28 < (List.length l4 : Int) ∧ (∃ (s29 : ByteArray), List.take 1 (Av.rowAt l4 (n28 : Int).toNat) = [.str s29] ∧ (bif (strEq s29 s2) then
 (0 ≤ n28 ∧ n28 < (List.length l5 : Int) ∧ (∃ (n30 : Int) (s31 : ByteArray) (n32 : Int) (l33 : List (List V)), List.take 4 (Av.rowAt l5 (n28 : Int).toNat) = [.int .i64 n30, .str s31, .int .i64 n32, .sl 4 l33] ∧ (K [.agg [.int .i64 n30, .str s31, .int .i64 n32, .sl 4 l33]])))
 else
 (I26 [(.int .i64 (IntKind.i64.wrap (n28 + 1)))] ∧ μ27 [(.int .i64 (IntKind.i64.wrap (n28 + 1)))] < μ27 [.int .i64 n28]))))
 else
 (K [.agg [.int .i64 3, .str s2, .int .i64 0, .sl 4 []]]))))
 else
 (∃ J34 : List V → Prop, (bif (strEq s2 (⟨#[105, 110, 116]⟩ : ByteArray)) then (bif ((List.length l3 : Int) == (0 : Int)) then
 (K [(.agg [.int .i64 1, (.str (⟨#[]⟩ : ByteArray)), .int .i64 0, .sl 4 []])])
 else
 (J34 [])) else (J34 [])) ∧
 (J34 [] →
 (∃ (I57 : List V → Prop) (μ58 : List V → Nat), I57 [.int .i64 0, .int .i64 2, .str s2, .int .i64 0, .sl 4 []] ∧ (∀ (n59 : Int) (n60 : Int) (s61 : ByteArray) (n62 : Int) (l63 : List (List V)), I57 [.int .i64 n59, .int .i64 n60, .str s61, .int .i64 n62, .sl 4 l63] →
 (bif (decide (n59 < (List.length l3 : Int))) then
 (0 ≤ n59 ∧ n59 < (List.length l3 : Int) ∧ (∃ (b64 : Bool) (s65 : ByteArray) (l66 : List (List V)), List.take 3 (Av.rowAt l3 (n59 : Int).toNat) = [.bool b64, .str s65, .sl 3 l66] ∧ (PCalls ax 38 [.agg [.bool b64, .str s65, .sl 3 l66], .sl 1 l4, .sl 4 l5] fun r71 => ∃ (n67 : Int) (s68 : ByteArray) (n69 : Int) (l70 : List (List V)), r71 = [.agg [.int .i64 n67, .str s68, .int .i64 n69, .sl 4 l70]] ∧ (((List.length l63) + (List.length ([[.int .i64 n67, .str s68, .int .i64 n69, .sl 4 l70]] : List (List V)))) * 56 ≤ 140737488355328 ∧ (List.length l63) + (List.length ([[.int .i64 n67, .str s68, .int .i64 n69, .sl 4 l70]] : List (List V))) ≤ 140737488355328 ∧ (I57 [(.int .i64 (IntKind.i64.wrap (n59 + 1))), .int .i64 n60, .str s61, .int .i64 n62, (.sl 4 (l63 ++ [[.int .i64 n67, .str s68, .int .i64 n69, .sl 4 l70]]))] ∧ μ58 [(.int .i64 (IntKind.i64.wrap (n59 + 1))), .int .i64 n60, .str s61, .int .i64 n62, (.sl 4 (l63 ++ [[.int .i64 n67, .str s68, .int .i64 n69, .sl 4 l70]]))] < μ58 [.int .i64 n59, .int .i64 n60, .str s61, .int .i64 n62, .sl 4 l63])))))
 else
 (K [.agg [.int .i64 n60, .str s61, .int .i64 n62, .sl 4 l63]])))))))
theorem RInstance.eq (b1 : Bool) (s2 : ByteArray) (l3 : List (List V)) (l4 : List (List V)) (l5 : List (List V)) (K : List V → Prop) : RInstance.W b1 s2 l3 l4 l5 K = afn ax RInstance.ah Tryd.f38 [.agg [.bool b1, .str s2, .sl 3 l3], .sl 1 l4, .sl 4 l5] [] (onlyV K) := by kernel_rfl
theorem RInstance.ok : codeOk tys (hintsOf RInstance.ah) Tryd.f38.ntmps (Tryd.f38.body.getD .skip) = true := by kernel_rfl
theorem RInstance.calls {b1 s2 l3 l4 l5 K} (h : RInstance.W b1 s2 l3 l4 l5 K) : PCalls ax 38 [.agg [.bool b1, .str s2, .sl 3 l3], .sl 1 l4, .sl 4 l5] K :=
  afn_run (ah := RInstance.ah) tysOk fnsOk follows eqOk Tryd.func38 (by kernel_rfl) RInstance.ok (by kernel_rfl) (Eq.mp (RInstance.eq b1 s2 l3 l4 l5 K) h)
/-! ### RCtor: function 37, augur/augurref04.Ctor -/
def RCtor.ah : AH := ⟨[], [(2, ⟨[(11, [.d (.int .i64)], false)], [], [], []⟩)], [], [], [], [some [.str, .int .i64, .str, .sl 1, .sl 3, .int .i64], some [.bool]], [], [], []⟩
def RCtor.W (_l1 : List (List V)) (l2 : List (List V)) (_l3 : List (List V)) (s4 : ByteArray) (n5 : Int) (K : List V → Prop) : Prop :=
 (∃ (I13 : List V → Prop) (μ14 : List V → Nat), I13 [.int .i64 0] ∧ (∀ (n15 : Int), I13 [.int .i64 n15] →
 (bif (decide (n15 < (List.length l2 : Int))) then
 (0 ≤ n15 ∧ n15 < (List.length l2 : Int) ∧ (∃ (s16 : ByteArray) (n17 : Int) (s18 : ByteArray) (l19 : List (List V)) (l20 : List (List V)) (n21 : Int), List.take 6 (Av.rowAt l2 (n15 : Int).toNat) = [.str s16, .int .i64 n17, .str s18, .sl 1 l19, .sl 3 l20, .int .i64 n21] ∧ (bif (eqL [.str s16, .int .i64 n17] [.str s4, .int .i64 n5]) then
 (K [.agg [.str s16, .int .i64 n17, .str s18, .sl 1 l19, .sl 3 l20, .int .i64 n21], .bool true])
 else
 (I13 [(.int .i64 (IntKind.i64.wrap (n15 + 1)))] ∧ μ14 [(.int .i64 (IntKind.i64.wrap (n15 + 1)))] < μ14 [.int .i64 n15]))))
 else
 (K [(.agg [(.str (⟨#[]⟩ : ByteArray)), .int .i64 0, (.str (⟨#[]⟩ : ByteArray)), .sl 1 [], .sl 3 [], .int .i64 0]), .bool false]))))
theorem RCtor.eq (l1 : List (List V)) (l2 : List (List V)) (l3 : List (List V)) (s4 : ByteArray) (n5 : Int) (K : List V → Prop) : RCtor.W l1 l2 l3 s4 n5 K = afn ax RCtor.ah Tryd.f37 [.agg [.sl 20 l1, .sl 6 l2, .sl 5 l3], .agg [.str s4, .int .i64 n5]] [] (onlyV K) := by kernel_rfl
theorem RCtor.ok : codeOk tys (hintsOf RCtor.ah) Tryd.f37.ntmps (Tryd.f37.body.getD .skip) = true := by kernel_rfl
theorem RCtor.calls {l1 l2 l3 s4 n5 K} (h : RCtor.W l1 l2 l3 s4 n5 K) : PCalls ax 37 [.agg [.sl 20 l1, .sl 6 l2, .sl 5 l3], .agg [.str s4, .int .i64 n5]] K :=
  afn_run (ah := RCtor.ah) tysOk fnsOk follows eqOk Tryd.func37 (by kernel_rfl) RCtor.ok (by kernel_rfl) (Eq.mp (RCtor.eq l1 l2 l3 s4 n5 K) h)
/-! ### Ctors: function 14, augur/names.Ctors -/
def Ctors.ah : AH := ⟨[], [(3, ⟨[(5, [.nw 56 6 false], false), (11, [.d (.int .i64)], false)], [], [], []⟩)], [], [], [], [some [.sl 6]], [], [], []⟩
def Ctors.W (_l1 : List (List V)) (l2 : List (List V)) (_l3 : List (List V)) (s4 : ByteArray) (K : List V → Prop) : Prop :=
 (∃ (I13 : List V → Prop) (μ14 : List V → Nat), I13 [.sl 6 [], .int .i64 0] ∧ (∀ (l15 : List (List V)) (n16 : Int), I13 [.sl 6 l15, .int .i64 n16] →
 (bif (decide (n16 < (List.length l2 : Int))) then
 (0 ≤ n16 ∧ n16 < (List.length l2 : Int) ∧ (∃ (s17 : ByteArray) (n18 : Int) (s19 : ByteArray) (l20 : List (List V)) (l21 : List (List V)) (n22 : Int), List.take 6 (Av.rowAt l2 (n16 : Int).toNat) = [.str s17, .int .i64 n18, .str s19, .sl 1 l20, .sl 3 l21, .int .i64 n22] ∧ (bif (strEq s19 s4) then
 (((List.length l15) + (List.length ([[.str s17, .int .i64 n18, .str s19, .sl 1 l20, .sl 3 l21, .int .i64 n22]] : List (List V)))) * 96 ≤ 140737488355328 ∧ (List.length l15) + (List.length ([[.str s17, .int .i64 n18, .str s19, .sl 1 l20, .sl 3 l21, .int .i64 n22]] : List (List V))) ≤ 140737488355328 ∧ (I13 [(.sl 6 (l15 ++ [[.str s17, .int .i64 n18, .str s19, .sl 1 l20, .sl 3 l21, .int .i64 n22]])), (.int .i64 (IntKind.i64.wrap (n16 + 1)))] ∧ μ14 [(.sl 6 (l15 ++ [[.str s17, .int .i64 n18, .str s19, .sl 1 l20, .sl 3 l21, .int .i64 n22]])), (.int .i64 (IntKind.i64.wrap (n16 + 1)))] < μ14 [.sl 6 l15, .int .i64 n16]))
 else
 (I13 [.sl 6 l15, (.int .i64 (IntKind.i64.wrap (n16 + 1)))] ∧ μ14 [.sl 6 l15, (.int .i64 (IntKind.i64.wrap (n16 + 1)))] < μ14 [.sl 6 l15, .int .i64 n16]))))
 else
 (K [.sl 6 l15]))))
theorem Ctors.eq (l1 : List (List V)) (l2 : List (List V)) (l3 : List (List V)) (s4 : ByteArray) (K : List V → Prop) : Ctors.W l1 l2 l3 s4 K = afn ax Ctors.ah Tryd.f14 [.agg [.sl 20 l1, .sl 6 l2, .sl 5 l3], .str s4] [] (onlyV K) := by kernel_rfl
theorem Ctors.ok : codeOk tys (hintsOf Ctors.ah) Tryd.f14.ntmps (Tryd.f14.body.getD .skip) = true := by kernel_rfl
theorem Ctors.calls {l1 l2 l3 s4 K} (h : Ctors.W l1 l2 l3 s4 K) : PCalls ax 14 [.agg [.sl 20 l1, .sl 6 l2, .sl 5 l3], .str s4] K :=
  afn_run (ah := Ctors.ah) tysOk fnsOk follows eqOk Tryd.func14 (by kernel_rfl) Ctors.ok (by kernel_rfl) (Eq.mp (Ctors.eq l1 l2 l3 s4 K) h)
/-! ### Fields: function 15, augur/types.Fields -/
def Fields.ah : AH := ⟨[], [(6, ⟨[(49, [.d (.int .i64)], false)], [], [(4, 101, 0, true)], []⟩), (12, ⟨[(13, [.nw 24 4 false], false), (65, [.d (.int .i64)], false)], [], [(4, 101, 0, true)], []⟩)], [], [(34, ⟨[some [.sl 20, .sl 6, .sl 5], some [.str, .int .i64]], [.ag [.str, .int .i64, .str, .sl 1, .sl 3, .int .i64], .c (.bool)], []⟩), (35, ⟨[some [.bool, .str, .sl 3], none], [.ag [.int .i64, .str, .int .i64, .sl 4]], [.lst 101 0 true]⟩)], [], [some [.sl 4], some [.bool]], [], [], []⟩
def Fields.W (l1 : List (List V)) (l2 : List (List V)) (l3 : List (List V)) (s4 : ByteArray) (n5 : Int) (n6 : Int) (s7 : ByteArray) (_n8 : Int) (l9 : List (List V)) (K : List V → Prop) : Prop :=
 (PCalls ax 34 [.agg [.sl 20 l1, .sl 6 l2, .sl 5 l3], .agg [.str s4, .int .i64 n5]] fun r25 => ∃ (s18 : ByteArray) (n19 : Int) (s20 : ByteArray) (l21 : List (List V)) (l22 : List (List V)) (n23 : Int) (b24 : Bool), r25 = [.agg [.str s18, .int .i64 n19, .str s20, .sl 1 l21, .sl 3 l22, .int .i64 n23], .bool b24] ∧ (bif (!b24) then (K [.sl 4 [], .bool false]) else (bif (n6 != (2 : Int)) then (K [.sl 4 [], .bool false]) else (bif (!(strEq s7 s20)) then (K [.sl 4 [], .bool false]) else (bif ((List.length l9 : Int) != (List.length l21 : Int)) then
 (K [.sl 4 [], .bool false])
 else
 (∃ (I61 : List V → Prop) (μ62 : List V → Nat), I61 [.int .i64 0, .sl 0 []] ∧ (∀ (n63 : Int) (l64 : List (List V)), I61 [.int .i64 n63, .sl 0 l64] →
 (bif (decide (n63 < (List.length l21 : Int))) then
 (0 ≤ n63 ∧ n63 < (List.length l21 : Int) ∧ (∃ (s65 : ByteArray), List.take 1 (Av.rowAt l21 (n63 : Int).toNat) = [.str s65] ∧ (0 ≤ n63 ∧ n63 < (List.length l9 : Int) ∧ (∃ (n66 : Int) (s67 : ByteArray) (n68 : Int) (l69 : List (List V)), List.take 4 (Av.rowAt l9 (n63 : Int).toNat) = [.int .i64 n66, .str s67, .int .i64 n68, .sl 4 l69] ∧ (lookS l64 s65 = none ∧ (I61 [(.int .i64 (IntKind.i64.wrap (n63 + 1))), (.sl 0 (l64 ++ [[.str s65, .agg [.int .i64 n66, .str s67, .int .i64 n68, .sl 4 l69]]]))] ∧ μ62 [(.int .i64 (IntKind.i64.wrap (n63 + 1))), (.sl 0 (l64 ++ [[.str s65, .agg [.int .i64 n66, .str s67, .int .i64 n68, .sl 4 l69]]]))] < μ62 [.int .i64 n63, .sl 0 l64]))))))
 else
 (∃ (I95 : List V → Prop) (μ96 : List V → Nat), I95 [.sl 4 [], .int .i64 0, .sl 0 l64] ∧ (∀ (l97 : List (List V)) (n98 : Int) (l99 : List (List V)), I95 [.sl 4 l97, .int .i64 n98, .sl 0 l99] →
 (bif (decide (n98 < (List.length l22 : Int))) then
 (0 ≤ n98 ∧ n98 < (List.length l22 : Int) ∧ (∃ (b100 : Bool) (s101 : ByteArray) (l102 : List (List V)), List.take 3 (Av.rowAt l22 (n98 : Int).toNat) = [.bool b100, .str s101, .sl 3 l102] ∧ (SCalls ax 35 [.agg [.bool b100, .str s101, .sl 3 l102], .map 0] [.lst 101 0 true l99] fun r107 o109 => ∃ (n103 : Int) (s104 : ByteArray) (n105 : Int) (l106 : List (List V)) (l108 : List (List V)), r107 = [.agg [.int .i64 n103, .str s104, .int .i64 n105, .sl 4 l106]] ∧ o109 = [.lst 101 0 true l108] ∧ (((List.length l97) + (List.length ([[.int .i64 n103, .str s104, .int .i64 n105, .sl 4 l106]] : List (List V)))) * 56 ≤ 140737488355328 ∧ (List.length l97) + (List.length ([[.int .i64 n103, .str s104, .int .i64 n105, .sl 4 l106]] : List (List V))) ≤ 140737488355328 ∧ (I95 [(.sl 4 (l97 ++ [[.int .i64 n103, .str s104, .int .i64 n105, .sl 4 l106]])), (.int .i64 (IntKind.i64.wrap (n98 + 1))), .sl 0 l108] ∧ μ96 [(.sl 4 (l97 ++ [[.int .i64 n103, .str s104, .int .i64 n105, .sl 4 l106]])), (.int .i64 (IntKind.i64.wrap (n98 + 1))), .sl 0 l108] < μ96 [.sl 4 l97, .int .i64 n98, .sl 0 l99])))))
 else
 (K [.sl 4 l97, .bool true]))))))))))))
theorem Fields.eq (l1 : List (List V)) (l2 : List (List V)) (l3 : List (List V)) (s4 : ByteArray) (n5 : Int) (n6 : Int) (s7 : ByteArray) (n8 : Int) (l9 : List (List V)) (K : List V → Prop) : Fields.W l1 l2 l3 s4 n5 n6 s7 n8 l9 K = afn ax Fields.ah Tryd.f15 [.agg [.sl 20 l1, .sl 6 l2, .sl 5 l3], .agg [.str s4, .int .i64 n5], .agg [.int .i64 n6, .str s7, .int .i64 n8, .sl 4 l9]] [] (onlyV K) := by kernel_rfl
theorem Fields.ok : codeOk tys (hintsOf Fields.ah) Tryd.f15.ntmps (Tryd.f15.body.getD .skip) = true := by kernel_rfl
theorem Fields.calls {l1 l2 l3 s4 n5 n6 s7 n8 l9 K} (h : Fields.W l1 l2 l3 s4 n5 n6 s7 n8 l9 K) : PCalls ax 15 [.agg [.sl 20 l1, .sl 6 l2, .sl 5 l3], .agg [.str s4, .int .i64 n5], .agg [.int .i64 n6, .str s7, .int .i64 n8, .sl 4 l9]] K :=
  afn_run (ah := Fields.ah) tysOk fnsOk follows eqOk Tryd.func15 (by kernel_rfl) Fields.ok (by kernel_rfl) (Eq.mp (Fields.eq l1 l2 l3 s4 n5 n6 s7 n8 l9 K) h)
/-! ### Ctor: function 34, augur/names.Ctor -/
def Ctor.ah : AH := ⟨[], [], [], [(60, ⟨[some [.sl 6], some [.str, .int .i64], none], [.ag [.str, .int .i64, .str, .sl 1, .sl 3, .int .i64], .c (.bool)], []⟩)], [], [some [.str, .int .i64, .str, .sl 1, .sl 3, .int .i64], some [.bool]], [], [], []⟩
def Ctor.W (_l1 : List (List V)) (l2 : List (List V)) (_l3 : List (List V)) (s4 : ByteArray) (n5 : Int) (K : List V → Prop) : Prop :=
 (PCalls ax 60 [.sl 6 l2, .agg [.str s4, .int .i64 n5], .fn 61 [] []] fun r13 => ∃ (s6 : ByteArray) (n7 : Int) (s8 : ByteArray) (l9 : List (List V)) (l10 : List (List V)) (n11 : Int) (b12 : Bool), r13 = [.agg [.str s6, .int .i64 n7, .str s8, .sl 1 l9, .sl 3 l10, .int .i64 n11], .bool b12] ∧ (K [.agg [.str s6, .int .i64 n7, .str s8, .sl 1 l9, .sl 3 l10, .int .i64 n11], .bool b12]))
theorem Ctor.eq (l1 : List (List V)) (l2 : List (List V)) (l3 : List (List V)) (s4 : ByteArray) (n5 : Int) (K : List V → Prop) : Ctor.W l1 l2 l3 s4 n5 K = afn ax Ctor.ah Tryd.f34 [.agg [.sl 20 l1, .sl 6 l2, .sl 5 l3], .agg [.str s4, .int .i64 n5]] [] (onlyV K) := by kernel_rfl
theorem Ctor.ok : codeOk tys (hintsOf Ctor.ah) Tryd.f34.ntmps (Tryd.f34.body.getD .skip) = true := by kernel_rfl
theorem Ctor.calls {l1 l2 l3 s4 n5 K} (h : Ctor.W l1 l2 l3 s4 n5 K) : PCalls ax 34 [.agg [.sl 20 l1, .sl 6 l2, .sl 5 l3], .agg [.str s4, .int .i64 n5]] K :=
  afn_run (ah := Ctor.ah) tysOk fnsOk follows eqOk Tryd.func34 (by kernel_rfl) Ctor.ok (by kernel_rfl) (Eq.mp (Ctor.eq l1 l2 l3 s4 n5 K) h)
/-! ### Instance: function 35, augur/unify.Instance -/
def Instance.ah : AH := ⟨[(12, seqO [0, 1, 2, 3, 4, 5, 6, 7, 8])], [(10, ⟨[(41, [.d (.int .i64)], false)], [(3, [.d (.int .i64), .d (.str), .d (.int .i64), .nw 24 4 false])], [(0, 101, 0, true)], []⟩)], [(8, ⟨[], [], [], []⟩)], [(35, ⟨[some [.bool, .str, .sl 3], none], [.ag [.int .i64, .str, .int .i64, .sl 4]], [.lst 101 0 true]⟩), (62, ⟨[some [.int .i64, .str, .int .i64, .sl 4]], [.ag [.int .i64, .str, .int .i64, .sl 4]], []⟩)], [], [some [.int .i64, .str, .int .i64, .sl 4]], [], [], []⟩
def Instance.W (b1 : Bool) (s2 : ByteArray) (l3 : List (List V)) (L : List (List V)) (K : List V → List Ob → Prop) : Prop :=
 (bif b1 then
 ((∀ v14 : V, (lookS L s2) = some v14 → ∃ (n15 : Int) (s16 : ByteArray) (n17 : Int) (l18 : List (List V)), v14 = (.agg [.int .i64 n15, .str s16, .int .i64 n17, .sl 4 l18]) ∧ (PCalls ax 62 [.agg [.int .i64 n15, .str s16, .int .i64 n17, .sl 4 l18]] fun r23 => ∃ (n19 : Int) (s20 : ByteArray) (n21 : Int) (l22 : List (List V)), r23 = [.agg [.int .i64 n19, .str s20, .int .i64 n21, .sl 4 l22]] ∧ (K [.agg [.int .i64 n19, .str s20, .int .i64 n21, .sl 4 l22]] [.lst 101 0 true L]))) ∧ ((lookS L s2) = none → (K [.agg [.int .i64 3, .str s2, .int .i64 0, .sl 4 []]] [.lst 101 0 true L])))
 else
 (∃ J24 : List V → Prop, (bif (strEq s2 (⟨#[105, 110, 116]⟩ : ByteArray)) then (bif ((List.length l3 : Int) == (0 : Int)) then
 (K [(.agg [.int .i64 1, (.str (⟨#[]⟩ : ByteArray)), .int .i64 0, .sl 4 []])] [.lst 101 0 true L])
 else
 (J24 [])) else (J24 [])) ∧
 (J24 [] →
 (∃ (I52 : List V → Prop) (μ53 : List V → Nat), I52 [.int .i64 0, .int .i64 2, .str s2, .int .i64 0, .sl 4 [], .sl 0 L] ∧ (∀ (n54 : Int) (n55 : Int) (s56 : ByteArray) (n57 : Int) (l58 : List (List V)) (l59 : List (List V)), I52 [.int .i64 n54, .int .i64 n55, .str s56, .int .i64 n57, .sl 4 l58, .sl 0 l59] →
 (bif (decide (n54 < (List.length l3 : Int))) then
 (0 ≤ n54 ∧ n54 < (List.length l3 : Int) ∧ (∃ (b60 : Bool) (s61 : ByteArray) (l62 : List (List V)), List.take 3 (Av.rowAt l3 (n54 : Int).toNat) = [.bool b60, .str s61, .sl 3 l62] ∧ (SCalls ax 35 [.agg [.bool b60, .str s61, .sl 3 l62], .map 0] [.lst 101 0 true l59] fun r67 o69 => ∃ (n63 : Int) (s64 : ByteArray) (n65 : Int) (l66 : List (List V)) (l68 : List (List V)), r67 = [.agg [.int .i64 n63, .str s64, .int .i64 n65, .sl 4 l66]] ∧ o69 = [.lst 101 0 true l68] ∧ (((List.length l58) + (List.length ([[.int .i64 n63, .str s64, .int .i64 n65, .sl 4 l66]] : List (List V)))) * 56 ≤ 140737488355328 ∧ (List.length l58) + (List.length ([[.int .i64 n63, .str s64, .int .i64 n65, .sl 4 l66]] : List (List V))) ≤ 140737488355328 ∧ (I52 [(.int .i64 (IntKind.i64.wrap (n54 + 1))), .int .i64 n55, .str s56, .int .i64 n57, (.sl 4 (l58 ++ [[.int .i64 n63, .str s64, .int .i64 n65, .sl 4 l66]])), .sl 0 l68] ∧ μ53 [(.int .i64 (IntKind.i64.wrap (n54 + 1))), .int .i64 n55, .str s56, .int .i64 n57, (.sl 4 (l58 ++ [[.int .i64 n63, .str s64, .int .i64 n65, .sl 4 l66]])), .sl 0 l68] < μ53 [.int .i64 n54, .int .i64 n55, .str s56, .int .i64 n57, .sl 4 l58, .sl 0 l59])))))
 else
 (K [.agg [.int .i64 n55, .str s56, .int .i64 n57, .sl 4 l58]] [.lst 101 0 true l59])))))))
theorem Instance.eq (b1 : Bool) (s2 : ByteArray) (l3 : List (List V)) (L : List (List V)) (K : List V → List Ob → Prop) : Instance.W b1 s2 l3 L K = afn ax Instance.ah Tryd.f35 [.agg [.bool b1, .str s2, .sl 3 l3], .map 0] [.lst 101 0 true L] K := by kernel_rfl
theorem Instance.ok : codeOk tys (hintsOf Instance.ah) Tryd.f35.ntmps (Tryd.f35.body.getD .skip) = true := by kernel_rfl
theorem Instance.calls {b1 s2 l3 L K} (h : Instance.W b1 s2 l3 L K) : SCalls ax 35 [.agg [.bool b1, .str s2, .sl 3 l3], .map 0] [.lst 101 0 true L] K :=
  afn_run (ah := Instance.ah) tysOk fnsOk follows eqOk Tryd.func35 (by kernel_rfl) Instance.ok (by kernel_rfl) (Eq.mp (Instance.eq b1 s2 l3 L K) h)
/-! ### copied: function 62, augur/unify.copied -/
def copied.ah : AH := ⟨[], [(3, ⟨[(3, [.nw 24 4 false], false), (9, [.d (.int .i64)], false)], [], [], []⟩)], [], [(62, ⟨[some [.int .i64, .str, .int .i64, .sl 4]], [.ag [.int .i64, .str, .int .i64, .sl 4]], []⟩)], [], [some [.int .i64, .str, .int .i64, .sl 4]], [], [], []⟩
def copied.W (n1 : Int) (s2 : ByteArray) (n3 : Int) (l4 : List (List V)) (K : List V → Prop) : Prop :=
 (∃ (I16 : List V → Prop) (μ17 : List V → Nat), I16 [.sl 4 [], .int .i64 0] ∧ (∀ (l18 : List (List V)) (n19 : Int), I16 [.sl 4 l18, .int .i64 n19] →
 (bif (decide (n19 < (List.length l4 : Int))) then
 (0 ≤ n19 ∧ n19 < (List.length l4 : Int) ∧ (∃ (n20 : Int) (s21 : ByteArray) (n22 : Int) (l23 : List (List V)), List.take 4 (Av.rowAt l4 (n19 : Int).toNat) = [.int .i64 n20, .str s21, .int .i64 n22, .sl 4 l23] ∧ (PCalls ax 62 [.agg [.int .i64 n20, .str s21, .int .i64 n22, .sl 4 l23]] fun r28 => ∃ (n24 : Int) (s25 : ByteArray) (n26 : Int) (l27 : List (List V)), r28 = [.agg [.int .i64 n24, .str s25, .int .i64 n26, .sl 4 l27]] ∧ (((List.length l18) + (List.length ([[.int .i64 n24, .str s25, .int .i64 n26, .sl 4 l27]] : List (List V)))) * 56 ≤ 140737488355328 ∧ (List.length l18) + (List.length ([[.int .i64 n24, .str s25, .int .i64 n26, .sl 4 l27]] : List (List V))) ≤ 140737488355328 ∧ (I16 [(.sl 4 (l18 ++ [[.int .i64 n24, .str s25, .int .i64 n26, .sl 4 l27]])), (.int .i64 (IntKind.i64.wrap (n19 + 1)))] ∧ μ17 [(.sl 4 (l18 ++ [[.int .i64 n24, .str s25, .int .i64 n26, .sl 4 l27]])), (.int .i64 (IntKind.i64.wrap (n19 + 1)))] < μ17 [.sl 4 l18, .int .i64 n19])))))
 else
 (K [.agg [.int .i64 n1, .str s2, .int .i64 n3, .sl 4 l18]]))))
theorem copied.eq (n1 : Int) (s2 : ByteArray) (n3 : Int) (l4 : List (List V)) (K : List V → Prop) : copied.W n1 s2 n3 l4 K = afn ax copied.ah Tryd.f62 [.agg [.int .i64 n1, .str s2, .int .i64 n3, .sl 4 l4]] [] (onlyV K) := by kernel_rfl
theorem copied.ok : codeOk tys (hintsOf copied.ah) Tryd.f62.ntmps (Tryd.f62.body.getD .skip) = true := by kernel_rfl
theorem copied.calls {n1 s2 n3 l4 K} (h : copied.W n1 s2 n3 l4 K) : PCalls ax 62 [.agg [.int .i64 n1, .str s2, .int .i64 n3, .sl 4 l4]] K :=
  afn_run (ah := copied.ah) tysOk fnsOk follows eqOk Tryd.func62 (by kernel_rfl) copied.ok (by kernel_rfl) (Eq.mp (copied.eq n1 s2 n3 l4 K) h)
/-! ### Compare: function 10, augur/data.Compare -/
def Compare.ah : AH := ⟨[(7, seqO [0, 1, 2, 3, 5, 6, 7, 8, 9, 10, 4, 11, 12, 13, 14]), (13, seqO [0, 1, 2, 3, 4, 5, 6, 7, 8, 9, 10, 11])], [(11, ⟨[(50, [.d (.int .i64)], false)], [], [], []⟩)], [(2, ⟨[(8, [.d (.bool)], false)], [], [], []⟩)], [(10, ⟨[some [.bool, .int .i64, .str, .sl 4], some [.bool, .int .i64, .str, .sl 4]], [.c (.int .i64)], []⟩), (20, ⟨[some [.int .i64], some [.int .i64]], [.c (.int .i64)], []⟩), (21, ⟨[some [.sl 1]], [.c (.int .i64)], []⟩), (22, ⟨[some [.str], some [.str]], [.c (.int .i64)], []⟩)], [], [some [.int .i64]], [], [], []⟩
def Compare.W (b1 : Bool) (n2 : Int) (s3 : ByteArray) (l4 : List (List V)) (b5 : Bool) (n6 : Int) (s7 : ByteArray) (l8 : List (List V)) (K : List V → Prop) : Prop :=
 (∃ J13 : List V → Prop, (bif (!b1) then (J13 [(.bool (!b5))]) else (J13 [.bool false])) ∧
 (∀ (b14 : Bool), J13 [.bool b14] →
 (bif b14 then
 (PCalls ax 20 [.int .i64 n2, .int .i64 n6] fun r16 => ∃ (n15 : Int), r16 = [.int .i64 n15] ∧ (K [.int .i64 n15]))
 else
 (bif (!b1) then
 (K [(.int .i64 (-1))])
 else
 (bif (!b5) then
 (K [.int .i64 1])
 else
 (PCalls ax 22 [.str s3, .str s7] fun r24 => ∃ (n23 : Int), r24 = [.int .i64 n23] ∧ (PCalls ax 20 [(.int .i64 (List.length l4 : Int)), (.int .i64 (List.length l8 : Int))] fun r26 => ∃ (n25 : Int), r26 = [.int .i64 n25] ∧ (PCalls ax 21 [.sl 1 [[.int .i64 n23], [.int .i64 n25]]] fun r28 => ∃ (n27 : Int), r28 = [.int .i64 n27] ∧ (bif (n27 != (0 : Int)) then
 (K [.int .i64 n27])
 else
 (∃ (I40 : List V → Prop) (μ41 : List V → Nat), I40 [.int .i64 0] ∧ (∀ (n42 : Int), I40 [.int .i64 n42] →
 (bif (decide (n42 < (List.length l4 : Int))) then
 (0 ≤ n42 ∧ n42 < (List.length l4 : Int) ∧ (∃ (b43 : Bool) (n44 : Int) (s45 : ByteArray) (l46 : List (List V)), List.take 4 (Av.rowAt l4 (n42 : Int).toNat) = [.bool b43, .int .i64 n44, .str s45, .sl 4 l46] ∧ (0 ≤ n42 ∧ n42 < (List.length l8 : Int) ∧ (∃ (b47 : Bool) (n48 : Int) (s49 : ByteArray) (l50 : List (List V)), List.take 4 (Av.rowAt l8 (n42 : Int).toNat) = [.bool b47, .int .i64 n48, .str s49, .sl 4 l50] ∧ (PCalls ax 10 [.agg [.bool b43, .int .i64 n44, .str s45, .sl 4 l46], .agg [.bool b47, .int .i64 n48, .str s49, .sl 4 l50]] fun r52 => ∃ (n51 : Int), r52 = [.int .i64 n51] ∧ (bif (n51 != (0 : Int)) then
 (K [.int .i64 n51])
 else
 (I40 [(.int .i64 (IntKind.i64.wrap (n42 + 1)))] ∧ μ41 [(.int .i64 (IntKind.i64.wrap (n42 + 1)))] < μ41 [.int .i64 n42])))))))
 else
 (K [.int .i64 0])))))))))))))
theorem Compare.eq (b1 : Bool) (n2 : Int) (s3 : ByteArray) (l4 : List (List V)) (b5 : Bool) (n6 : Int) (s7 : ByteArray) (l8 : List (List V)) (K : List V → Prop) : Compare.W b1 n2 s3 l4 b5 n6 s7 l8 K = afn ax Compare.ah Tryd.f10 [.agg [.bool b1, .int .i64 n2, .str s3, .sl 4 l4], .agg [.bool b5, .int .i64 n6, .str s7, .sl 4 l8]] [] (onlyV K) := by kernel_rfl
theorem Compare.ok : codeOk tys (hintsOf Compare.ah) Tryd.f10.ntmps (Tryd.f10.body.getD .skip) = true := by kernel_rfl
theorem Compare.calls {b1 n2 s3 l4 b5 n6 s7 l8 K} (h : Compare.W b1 n2 s3 l4 b5 n6 s7 l8 K) : PCalls ax 10 [.agg [.bool b1, .int .i64 n2, .str s3, .sl 4 l4], .agg [.bool b5, .int .i64 n6, .str s7, .sl 4 l8]] K :=
  afn_run (ah := Compare.ah) tysOk fnsOk follows eqOk Tryd.func10 (by kernel_rfl) Compare.ok (by kernel_rfl) (Eq.mp (Compare.eq b1 n2 s3 l4 b5 n6 s7 l8 K) h)
/-! ### cmpI: function 20, cmp.Compare[int] -/
def cmpI.ah : AH := ⟨[], [], [], [(40, ⟨[some [.int .i64]], [.c (.bool)], []⟩)], [], [some [.int .i64]], [], [], []⟩
def cmpI.W (n1 : Int) (n2 : Int) (K : List V → Prop) : Prop :=
 (PCalls ax 40 [.int .i64 n1] fun r6 => ∃ (b5 : Bool), r6 = [.bool b5] ∧ (PCalls ax 40 [.int .i64 n2] fun r10 => ∃ (b9 : Bool), r10 = [.bool b9] ∧ (bif b5 then
 (bif b9 then
 (K [.int .i64 0])
 else
 (K [(.int .i64 (-1))]))
 else
 (bif b9 then
 (K [.int .i64 1])
 else
 (bif (decide (n1 < n2)) then
 (K [(.int .i64 (-1))])
 else
 (bif (decide (n1 > n2)) then
 (K [.int .i64 1])
 else
 (K [.int .i64 0])))))))
theorem cmpI.eq (n1 : Int) (n2 : Int) (K : List V → Prop) : cmpI.W n1 n2 K = afn ax cmpI.ah Tryd.f20 [.int .i64 n1, .int .i64 n2] [] (onlyV K) := by kernel_rfl
theorem cmpI.ok : codeOk tys (hintsOf cmpI.ah) Tryd.f20.ntmps (Tryd.f20.body.getD .skip) = true := by kernel_rfl
theorem cmpI.calls {n1 n2 K} (h : cmpI.W n1 n2 K) : PCalls ax 20 [.int .i64 n1, .int .i64 n2] K :=
  afn_run (ah := cmpI.ah) tysOk fnsOk follows eqOk Tryd.func20 (by kernel_rfl) cmpI.ok (by kernel_rfl) (Eq.mp (cmpI.eq n1 n2 K) h)
/-! ### cmpO: function 21, cmp.Or[int] -/
def cmpO.ah : AH := ⟨[], [(3, ⟨[(8, [.d (.int .i64)], false)], [], [], []⟩)], [], [], [], [some [.int .i64]], [], [], []⟩
def cmpO.W (l1 : List (List V)) (K : List V → Prop) : Prop :=
 (∃ (I4 : List V → Prop) (μ5 : List V → Nat), I4 [.int .i64 0] ∧ (∀ (n6 : Int), I4 [.int .i64 n6] →
 (bif (decide (n6 < (List.length l1 : Int))) then
 (0 ≤ n6 ∧ n6 < (List.length l1 : Int) ∧ (∃ (n7 : Int), List.take 1 (Av.rowAt l1 (n6 : Int).toNat) = [.int .i64 n7] ∧ (bif (n7 != (0 : Int)) then
 (K [.int .i64 n7])
 else
 (I4 [(.int .i64 (IntKind.i64.wrap (n6 + 1)))] ∧ μ5 [(.int .i64 (IntKind.i64.wrap (n6 + 1)))] < μ5 [.int .i64 n6]))))
 else
 (K [.int .i64 0]))))
theorem cmpO.eq (l1 : List (List V)) (K : List V → Prop) : cmpO.W l1 K = afn ax cmpO.ah Tryd.f21 [.sl 1 l1] [] (onlyV K) := by kernel_rfl
theorem cmpO.ok : codeOk tys (hintsOf cmpO.ah) Tryd.f21.ntmps (Tryd.f21.body.getD .skip) = true := by kernel_rfl
theorem cmpO.calls {l1 K} (h : cmpO.W l1 K) : PCalls ax 21 [.sl 1 l1] K :=
  afn_run (ah := cmpO.ah) tysOk fnsOk follows eqOk Tryd.func21 (by kernel_rfl) cmpO.ok (by kernel_rfl) (Eq.mp (cmpO.eq l1 K) h)
/-! ### cmpS: function 22, cmp.Compare[string] -/
def cmpS.ah : AH := ⟨[], [], [], [(41, ⟨[some [.str]], [.c (.bool)], []⟩)], [], [some [.int .i64]], [], [], []⟩
def cmpS.W (s1 : ByteArray) (s2 : ByteArray) (K : List V → Prop) : Prop :=
 (PCalls ax 41 [.str s1] fun r6 => ∃ (b5 : Bool), r6 = [.bool b5] ∧ (PCalls ax 41 [.str s2] fun r10 => ∃ (b9 : Bool), r10 = [.bool b9] ∧ (bif b5 then
 (bif b9 then
 (K [.int .i64 0])
 else
 (K [(.int .i64 (-1))]))
 else
 (bif b9 then
 (K [.int .i64 1])
 else
 (bif (Op.bytesLess s1.toList s2.toList) then
 (K [(.int .i64 (-1))])
 else
 (bif (!((Op.bytesLess s1.toList s2.toList) || (s1.toList == s2.toList))) then
 (K [.int .i64 1])
 else
 (K [.int .i64 0])))))))
theorem cmpS.eq (s1 : ByteArray) (s2 : ByteArray) (K : List V → Prop) : cmpS.W s1 s2 K = afn ax cmpS.ah Tryd.f22 [.str s1, .str s2] [] (onlyV K) := by kernel_rfl
theorem cmpS.ok : codeOk tys (hintsOf cmpS.ah) Tryd.f22.ntmps (Tryd.f22.body.getD .skip) = true := by kernel_rfl
theorem cmpS.calls {s1 s2 K} (h : cmpS.W s1 s2 K) : PCalls ax 22 [.str s1, .str s2] K :=
  afn_run (ah := cmpS.ah) tysOk fnsOk follows eqOk Tryd.func22 (by kernel_rfl) cmpS.ok (by kernel_rfl) (Eq.mp (cmpS.eq s1 s2 K) h)
/-! ### nanI: function 40, cmp.isNaN[int] -/
def nanI.ah : AH := ⟨[], [], [], [], [], [some [.bool]], [], [], []⟩
def nanI.W (n1 : Int) (K : List V → Prop) : Prop :=
 (K [(.bool (n1 != n1))])
theorem nanI.eq (n1 : Int) (K : List V → Prop) : nanI.W n1 K = afn ax nanI.ah Tryd.f40 [.int .i64 n1] [] (onlyV K) := by kernel_rfl
theorem nanI.ok : codeOk tys (hintsOf nanI.ah) Tryd.f40.ntmps (Tryd.f40.body.getD .skip) = true := by kernel_rfl
theorem nanI.calls {n1 K} (h : nanI.W n1 K) : PCalls ax 40 [.int .i64 n1] K :=
  afn_run (ah := nanI.ah) tysOk fnsOk follows eqOk Tryd.func40 (by kernel_rfl) nanI.ok (by kernel_rfl) (Eq.mp (nanI.eq n1 K) h)
/-! ### nanS: function 41, cmp.isNaN[string] -/
def nanS.ah : AH := ⟨[], [], [], [], [], [some [.bool]], [], [], []⟩
def nanS.W (s1 : ByteArray) (K : List V → Prop) : Prop :=
 (K [(.bool (!(strEq s1 s1)))])
theorem nanS.eq (s1 : ByteArray) (K : List V → Prop) : nanS.W s1 K = afn ax nanS.ah Tryd.f41 [.str s1] [] (onlyV K) := by kernel_rfl
theorem nanS.ok : codeOk tys (hintsOf nanS.ah) Tryd.f41.ntmps (Tryd.f41.body.getD .skip) = true := by kernel_rfl
theorem nanS.calls {s1 K} (h : nanS.W s1 K) : PCalls ax 41 [.str s1] K :=
  afn_run (ah := nanS.ah) tysOk fnsOk follows eqOk Tryd.func41 (by kernel_rfl) nanS.ok (by kernel_rfl) (Eq.mp (nanS.eq s1 K) h)
/-! ### Domains: function 3, augur/augurlaw10.DataDomains -/
def Domains.ah : AH := ⟨[(16, seqO [0, 1, 2, 3, 4, 5, 6, 7, 8, 9])], [(11, ⟨[(43, [.d (.int .i64)], false)], [], [], []⟩), (14, ⟨[(47, [.d (.int .i64)], false)], [], [], []⟩)], [], [(4, ⟨[], [.c (.bool)], []⟩), (5, ⟨[some [.str]], [.c (.sl 20), .ag [.sl 20, .sl 6, .sl 5], .c (.bool)], []⟩), (6, ⟨[some [.int .i64, .str, .int .i64, .sl 4]], [.c (.int .i64)], []⟩), (7, ⟨[some [.sl 20, .sl 6, .sl 5], some [.int .i64, .str, .int .i64, .sl 4], some [.int .i64]], [.c (.sl 4)], []⟩), (8, ⟨[some [.sl 20, .sl 6, .sl 5], some [.int .i64, .str, .int .i64, .sl 4], some [.int .i64]], [.c (.sl 4)], []⟩), (9, ⟨[some [.sl 4], some [.sl 4]], [.c (.bool)], []⟩), (10, ⟨[some [.bool, .int .i64, .str, .sl 4], some [.bool, .int .i64, .str, .sl 4]], [.c (.int .i64)], []⟩)], [], [some [.bool]], [], [], []⟩
def Domains.W (s1 : ByteArray) (n2 : Int) (s3 : ByteArray) (n4 : Int) (l5 : List (List V)) (n6 : Int) (K : List V → Prop) : Prop :=
 (PCalls ax 4 [] fun r10 => ∃ (b9 : Bool), r10 = [.bool b9] ∧ (bif (!b9) then
 (K [.bool false])
 else
 (PCalls ax 5 [.str s1] fun r22 => ∃ (l17 : List (List V)) (l18 : List (List V)) (l19 : List (List V)) (l20 : List (List V)) (b21 : Bool), r22 = [.sl 20 l17, .agg [.sl 20 l18, .sl 6 l19, .sl 5 l20], .bool b21] ∧ (bif (!b21) then (K [.bool true]) else (PCalls ax 6 [.agg [.int .i64 n2, .str s3, .int .i64 n4, .sl 4 l5]] fun r26 => ∃ (n25 : Int), r26 = [.int .i64 n25] ∧ (bif (decide (n25 > (12 : Int))) then
 (K [.bool true])
 else
 (PCalls ax 7 [.agg [.sl 20 l18, .sl 6 l19, .sl 5 l20], .agg [.int .i64 n2, .str s3, .int .i64 n4, .sl 4 l5], .int .i64 n6] fun r30 => ∃ (l29 : List (List V)), r30 = [.sl 4 l29] ∧ (PCalls ax 8 [.agg [.sl 20 l18, .sl 6 l19, .sl 5 l20], .agg [.int .i64 n2, .str s3, .int .i64 n4, .sl 4 l5], .int .i64 n6] fun r34 => ∃ (l33 : List (List V)), r34 = [.sl 4 l33] ∧ (PCalls ax 9 [.sl 4 l29, .sl 4 l33] fun r38 => ∃ (b37 : Bool), r38 = [.bool b37] ∧ (bif (!b37) then
 (K [.bool false])
 else
 (∃ (I64 : List V → Prop) (μ65 : List V → Nat), I64 [.int .i64 0] ∧ (∀ (n66 : Int), I64 [.int .i64 n66] →
 (bif (decide (n66 < (List.length l33 : Int))) then
 (∃ (I78 : List V → Prop) (μ79 : List V → Nat), I78 [.int .i64 0] ∧ (∀ (n80 : Int), I78 [.int .i64 n80] →
 (bif (decide (n80 < n66)) then
 (0 ≤ n66 ∧ n66 < (List.length l33 : Int) ∧ (∃ (b81 : Bool) (n82 : Int) (s83 : ByteArray) (l84 : List (List V)), List.take 4 (Av.rowAt l33 (n66 : Int).toNat) = [.bool b81, .int .i64 n82, .str s83, .sl 4 l84] ∧ (0 ≤ n80 ∧ n80 < (List.length l33 : Int) ∧ (∃ (b85 : Bool) (n86 : Int) (s87 : ByteArray) (l88 : List (List V)), List.take 4 (Av.rowAt l33 (n80 : Int).toNat) = [.bool b85, .int .i64 n86, .str s87, .sl 4 l88] ∧ (PCalls ax 10 [.agg [.bool b81, .int .i64 n82, .str s83, .sl 4 l84], .agg [.bool b85, .int .i64 n86, .str s87, .sl 4 l88]] fun r90 => ∃ (n89 : Int), r90 = [.int .i64 n89] ∧ (bif (n89 == (0 : Int)) then
 (K [.bool false])
 else
 (I78 [(.int .i64 (IntKind.i64.wrap (n80 + 1)))] ∧ μ79 [(.int .i64 (IntKind.i64.wrap (n80 + 1)))] < μ79 [.int .i64 n80])))))))
 else
 (I64 [(.int .i64 (IntKind.i64.wrap (n66 + 1)))] ∧ μ65 [(.int .i64 (IntKind.i64.wrap (n66 + 1)))] < μ65 [.int .i64 n66]))))
 else
 (K [.bool true]))))))))))))))
theorem Domains.eq (s1 : ByteArray) (n2 : Int) (s3 : ByteArray) (n4 : Int) (l5 : List (List V)) (n6 : Int) (K : List V → Prop) : Domains.W s1 n2 s3 n4 l5 n6 K = afn ax Domains.ah Tryd.f3 [.str s1, .agg [.int .i64 n2, .str s3, .int .i64 n4, .sl 4 l5], .int .i64 n6] [] (onlyV K) := by kernel_rfl
theorem Domains.ok : codeOk tys (hintsOf Domains.ah) Tryd.f3.ntmps (Tryd.f3.body.getD .skip) = true := by kernel_rfl
theorem Domains.calls {s1 n2 s3 n4 l5 n6 K} (h : Domains.W s1 n2 s3 n4 l5 n6 K) : PCalls ax 3 [.str s1, .agg [.int .i64 n2, .str s3, .int .i64 n4, .sl 4 l5], .int .i64 n6] K :=
  afn_run (ah := Domains.ah) tysOk fnsOk follows eqOk Tryd.func3 (by kernel_rfl) Domains.ok (by kernel_rfl) (Eq.mp (Domains.eq s1 n2 s3 n4 l5 n6 K) h)
/-! ### rows: function 16, augur/data.rows -/
def rows.ah : AH := ⟨[], [], [], [], [], [none], [], [], []⟩
def rows.W (l1 : List (List V)) (l2 : List (List V)) (l3 : List (List V)) (l4 : List (List V)) (n5 : Int) (K : List V → List Ob → Prop) : Prop :=
 (K [.fn 36 [] [.ptr 0 0, .ptr 1 0, .ptr 2 0]] [.box [.sl 4 l4], .box [.sl 20 l1, .sl 6 l2, .sl 5 l3], .box [.int .i64 n5]])
theorem rows.eq (l1 : List (List V)) (l2 : List (List V)) (l3 : List (List V)) (l4 : List (List V)) (n5 : Int) (K : List V → List Ob → Prop) : rows.W l1 l2 l3 l4 n5 K = afn ax rows.ah Tryd.f16 [.agg [.sl 20 l1, .sl 6 l2, .sl 5 l3], .sl 4 l4, .int .i64 n5] [] K := by kernel_rfl
theorem rows.ok : codeOk tys (hintsOf rows.ah) Tryd.f16.ntmps (Tryd.f16.body.getD .skip) = true := by kernel_rfl
theorem rows.calls {l1 l2 l3 l4 n5 K} (h : rows.W l1 l2 l3 l4 n5 K) : SCalls ax 16 [.agg [.sl 20 l1, .sl 6 l2, .sl 5 l3], .sl 4 l4, .int .i64 n5] [] K :=
  afn_run (ah := rows.ah) tysOk fnsOk follows eqOk Tryd.func16 (by kernel_rfl) rows.ok (by kernel_rfl) (Eq.mp (rows.eq l1 l2 l3 l4 n5 K) h)
/-! ### find: function 60, augur/names.find[augur/api.Ctor] -/
def find.ah : AH := ⟨[], [], [], [(68, ⟨[some [.sl 6], none], [.c (.int .i64)], [.box [.l (.fn 61 [] [])], .box [.d (.str), .d (.int .i64)]]⟩)], [], [some [.str, .int .i64, .str, .sl 1, .sl 3, .int .i64], some [.bool]], [], [], []⟩
def find.W (l1 : List (List V)) (s2 : ByteArray) (n3 : Int) (K : List V → Prop) : Prop :=
 (SCalls ax 68 [.sl 6 l1, .fn 69 [] [.ptr 0 0, .ptr 1 0]] [.box [.fn 61 [] []], .box [.str s2, .int .i64 n3]] fun r5 o8 => ∃ (n4 : Int) (s6 : ByteArray) (n7 : Int), r5 = [.int .i64 n4] ∧ o8 = [.box [.fn 61 [] []], .box [.str s6, .int .i64 n7]] ∧ (bif (decide (n4 < (0 : Int))) then
 (K [(.agg [(.str (⟨#[]⟩ : ByteArray)), .int .i64 0, (.str (⟨#[]⟩ : ByteArray)), .sl 1 [], .sl 3 [], .int .i64 0]), .bool false])
 else
 (0 ≤ n4 ∧ n4 < (List.length l1 : Int) ∧ (∃ (s9 : ByteArray) (n10 : Int) (s11 : ByteArray) (l12 : List (List V)) (l13 : List (List V)) (n14 : Int), List.take 6 (Av.rowAt l1 (n4 : Int).toNat) = [.str s9, .int .i64 n10, .str s11, .sl 1 l12, .sl 3 l13, .int .i64 n14] ∧ (K [.agg [.str s9, .int .i64 n10, .str s11, .sl 1 l12, .sl 3 l13, .int .i64 n14], .bool true])))))
theorem find.eq (l1 : List (List V)) (s2 : ByteArray) (n3 : Int) (K : List V → Prop) : find.W l1 s2 n3 K = afn ax find.ah Tryd.f60 [.sl 6 l1, .agg [.str s2, .int .i64 n3], .fn 61 [] []] [] (onlyV K) := by kernel_rfl
theorem find.ok : codeOk tys (hintsOf find.ah) Tryd.f60.ntmps (Tryd.f60.body.getD .skip) = true := by kernel_rfl
theorem find.calls {l1 s2 n3 K} (h : find.W l1 s2 n3 K) : PCalls ax 60 [.sl 6 l1, .agg [.str s2, .int .i64 n3], .fn 61 [] []] K :=
  afn_run (ah := find.ah) tysOk fnsOk follows eqOk Tryd.func60 (by kernel_rfl) find.ok (by kernel_rfl) (Eq.mp (find.eq l1 s2 n3 K) h)
/-! ### ctorKey: function 61, augur/names.Ctor$1 -/
def ctorKey.ah : AH := ⟨[], [], [], [], [], [some [.str, .int .i64]], [], [], []⟩
def ctorKey.W (s1 : ByteArray) (n2 : Int) (_s3 : ByteArray) (_l4 : List (List V)) (_l5 : List (List V)) (_n6 : Int) (K : List V → Prop) : Prop :=
 (K [.agg [.str s1, .int .i64 n2]])
theorem ctorKey.eq (s1 : ByteArray) (n2 : Int) (s3 : ByteArray) (l4 : List (List V)) (l5 : List (List V)) (n6 : Int) (K : List V → Prop) : ctorKey.W s1 n2 s3 l4 l5 n6 K = afn ax ctorKey.ah Tryd.f61 [.agg [.str s1, .int .i64 n2, .str s3, .sl 1 l4, .sl 3 l5, .int .i64 n6]] [] (onlyV K) := by kernel_rfl
theorem ctorKey.ok : codeOk tys (hintsOf ctorKey.ah) Tryd.f61.ntmps (Tryd.f61.body.getD .skip) = true := by kernel_rfl
theorem ctorKey.calls {s1 n2 s3 l4 l5 n6 K} (h : ctorKey.W s1 n2 s3 l4 l5 n6 K) : PCalls ax 61 [.agg [.str s1, .int .i64 n2, .str s3, .sl 1 l4, .sl 3 l5, .int .i64 n6]] K :=
  afn_run (ah := ctorKey.ah) tysOk fnsOk follows eqOk Tryd.func61 (by kernel_rfl) ctorKey.ok (by kernel_rfl) (Eq.mp (ctorKey.eq s1 n2 s3 l4 l5 n6 K) h)
/-! ### IndexF: function 68, slices.IndexFunc[[]augur/api.Ctor,augur/api.Ctor] -/
def IndexF.ah : AH := ⟨[], [(2, ⟨[(8, [.d (.int .i64)], false)], [(0, [.l (.fn 61 [] [])]), (1, [.d (.str), .d (.int .i64)])], [], []⟩)], [], [(69, ⟨[some [.str, .int .i64, .str, .sl 1, .sl 3, .int .i64], none, none], [.c (.bool)], [.box [.l (.fn 61 [] [])], .box [.d (.str), .d (.int .i64)]]⟩)], [], [some [.int .i64]], [], [], []⟩
def IndexF.W (l1 : List (List V)) (kn : ByteArray) (ka : Int) (K : List V → List Ob → Prop) : Prop :=
 (∃ (I28 : List V → Prop) (μ29 : List V → Nat), I28 [.int .i64 0, .str kn, .int .i64 ka] ∧ (∀ (n30 : Int) (s31 : ByteArray) (n32 : Int), I28 [.int .i64 n30, .str s31, .int .i64 n32] →
 (bif (decide (n30 < (List.length l1 : Int))) then
 (0 ≤ n30 ∧ n30 < (List.length l1 : Int) ∧ (∃ (s33 : ByteArray) (n34 : Int) (s35 : ByteArray) (l36 : List (List V)) (l37 : List (List V)) (n38 : Int), List.take 6 (Av.rowAt l1 (n30 : Int).toNat) = [.str s33, .int .i64 n34, .str s35, .sl 1 l36, .sl 3 l37, .int .i64 n38] ∧ (SCalls ax 69 [.agg [.str s33, .int .i64 n34, .str s35, .sl 1 l36, .sl 3 l37, .int .i64 n38], .ptr 0 0, .ptr 1 0] [.box [.fn 61 [] []], .box [.str s31, .int .i64 n32]] fun r40 o43 => ∃ (b39 : Bool) (s41 : ByteArray) (n42 : Int), r40 = [.bool b39] ∧ o43 = [.box [.fn 61 [] []], .box [.str s41, .int .i64 n42]] ∧ (bif b39 then
 (K [.int .i64 n30] [.box [.fn 61 [] []], .box [.str s41, .int .i64 n42]])
 else
 (I28 [(.int .i64 (IntKind.i64.wrap (n30 + 1))), .str s41, .int .i64 n42] ∧ μ29 [(.int .i64 (IntKind.i64.wrap (n30 + 1))), .str s41, .int .i64 n42] < μ29 [.int .i64 n30, .str s31, .int .i64 n32])))))
 else
 (K [(.int .i64 (-1))] [.box [.fn 61 [] []], .box [.str s31, .int .i64 n32]]))))
theorem IndexF.eq (l1 : List (List V)) (kn : ByteArray) (ka : Int) (K : List V → List Ob → Prop) : IndexF.W l1 kn ka K = afn ax IndexF.ah Tryd.f68 [.sl 6 l1, .fn 69 [] [.ptr 0 0, .ptr 1 0]] [.box [.fn 61 [] []], .box [.str kn, .int .i64 ka]] K := by kernel_rfl
theorem IndexF.ok : codeOk tys (hintsOf IndexF.ah) Tryd.f68.ntmps (Tryd.f68.body.getD .skip) = true := by kernel_rfl
theorem IndexF.calls {l1 kn ka K} (h : IndexF.W l1 kn ka K) : SCalls ax 68 [.sl 6 l1, .fn 69 [] [.ptr 0 0, .ptr 1 0]] [.box [.fn 61 [] []], .box [.str kn, .int .i64 ka]] K :=
  afn_run (ah := IndexF.ah) tysOk fnsOk follows eqOk Tryd.func68 (by kernel_rfl) IndexF.ok (by kernel_rfl) (Eq.mp (IndexF.eq l1 kn ka K) h)
/-! ### findF: function 69, augur/names.find[augur/api.Ctor]$1 -/
def findF.ah : AH := ⟨[(1, seqO [0, 1, 3, 2, 4, 5])], [], [], [(61, ⟨[some [.str, .int .i64, .str, .sl 1, .sl 3, .int .i64]], [.ag [.str, .int .i64]], []⟩)], [], [some [.bool]], [], [], []⟩
def findF.W (s1 : ByteArray) (n2 : Int) (s3 : ByteArray) (l4 : List (List V)) (l5 : List (List V)) (n6 : Int) (kn : ByteArray) (ka : Int) (K : List V → List Ob → Prop) : Prop :=
 (PCalls ax 61 [.agg [.str s1, .int .i64 n2, .str s3, .sl 1 l4, .sl 3 l5, .int .i64 n6]] fun r9 => ∃ (s7 : ByteArray) (n8 : Int), r9 = [.agg [.str s7, .int .i64 n8]] ∧ (K [(.bool (eqL [.str s7, .int .i64 n8] [.str kn, .int .i64 ka]))] [.box [.fn 61 [] []], .box [.str kn, .int .i64 ka]]))
theorem findF.eq (s1 : ByteArray) (n2 : Int) (s3 : ByteArray) (l4 : List (List V)) (l5 : List (List V)) (n6 : Int) (kn : ByteArray) (ka : Int) (K : List V → List Ob → Prop) : findF.W s1 n2 s3 l4 l5 n6 kn ka K = afn ax findF.ah Tryd.f69 [.agg [.str s1, .int .i64 n2, .str s3, .sl 1 l4, .sl 3 l5, .int .i64 n6], .ptr 0 0, .ptr 1 0] [.box [.fn 61 [] []], .box [.str kn, .int .i64 ka]] K := by kernel_rfl
theorem findF.ok : codeOk tys (hintsOf findF.ah) Tryd.f69.ntmps (Tryd.f69.body.getD .skip) = true := by kernel_rfl
theorem findF.calls {s1 n2 s3 l4 l5 n6 kn ka K} (h : findF.W s1 n2 s3 l4 l5 n6 kn ka K) : SCalls ax 69 [.agg [.str s1, .int .i64 n2, .str s3, .sl 1 l4, .sl 3 l5, .int .i64 n6], .ptr 0 0, .ptr 1 0] [.box [.fn 61 [] []], .box [.str kn, .int .i64 ka]] K :=
  afn_run (ah := findF.ah) tysOk fnsOk follows eqOk Tryd.func69 (by kernel_rfl) findF.ok (by kernel_rfl) (Eq.mp (findF.eq s1 n2 s3 l4 l5 n6 kn ka K) h)
end Go.Proofs.YtahagnfdpemmaaaDoor.Va
end
