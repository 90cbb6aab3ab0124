/- Forms of functions of this seat, as the second executor has them, each tied to the model by the kernel. -/
import Derived.Test.YtahagnfdpemmaaaDoorF4
/- part Y1C -/
section
namespace Go.Proofs.YtahagnfdpemmaaaDoor.Va
set_option maxRecDepth 100000
set_option maxHeartbeats 4000000
open Go.Vx Go.Av
/-! ### Resolve: function 13, augur/augurref04.Resolve -/
def Resolve.ah : AH := ⟨[(16, (.one 0 (.one 2 (.one 3 (.alt (seqO [1, 4, 5, 6]) (seqO [5, 1, 4, 6])))))), (20, seqO [0, 1, 2, 3, 4, 6, 7, 5, 8, 9]), (22, seqO [0, 1, 2, 3, 4, 6, 7, 5, 8, 9])], [(3, ⟨[(16, [.d (.int .i64)], false)], [(2, [.nw 81 20 false, .nw 56 6 false, .nw 96 5 false])], [], [1]⟩), (11, ⟨[(39, [.d (.int .i64)], false)], [(2, [.l (.own 8), .nw 56 6 false, .l (.own 5)])], [], [4]⟩), (18, ⟨[(73, [.d (.int .i64)], false)], [(7, [.d (.str), .d (.int .i64), .d (.sl 3), .nw 98 2 false, .nw 3 1 false])], [], []⟩)], [], [(31, ⟨[], [.lit (.own 0)], [.lst 96 5 false]⟩), (32, ⟨[some [.sl 20], some [.int .i64]], [.c (.bool)], []⟩), (33, ⟨[some [.int .i64, .str, .sl 1, .sl 2, .sl 3, .sl 1, .int .i64, .sl 4, .int .i64, .int .i64, .str, .int .i64, .sl 4, .int .i64, .str, .int .i64, .sl 4, .str, .sl 4, .sl 12]], [.ag [.str, .int .i64]], []⟩)], [], [some [.sl 20, .sl 6, .sl 5], some [.bool]], [], [], []⟩
def Resolve.W (l1 : List (List V)) (K : List V → Prop) : Prop :=
 (SCalls ax 31 [] [] fun r5 o7 => ∃ (l6 : List (List V)), r5 = [.own 0] ∧ o7 = [.lst 96 5 false l6] ∧ (∃ (I589 : List V → Prop) (μ590 : List V → Nat), I589 [.int .i64 0, .sl 20 [], .sl 6 [], .sl 5 l6] ∧ (∀ (n591 : Int) (l592 : List (List V)) (l593 : List (List V)) (l594 : List (List V)), I589 [.int .i64 n591, .sl 20 l592, .sl 6 l593, .sl 5 l594] →
 (bif (decide (n591 < (List.length l1 : Int))) then
 (0 ≤ n591 ∧ n591 < (List.length l1 : Int) ∧ (∃ (n615 : Int) (s616 : ByteArray) (l617 : List (List V)) (l618 : List (List V)) (l619 : List (List V)) (l620 : List (List V)) (n621 : Int) (l622 : List (List V)) (n623 : Int) (n624 : Int) (s625 : ByteArray) (n626 : Int) (l627 : List (List V)) (n628 : Int) (s629 : ByteArray) (n630 : Int) (l631 : List (List V)) (s632 : ByteArray) (l633 : List (List V)) (l634 : List (List V)), List.take 20 (Av.rowAt l1 (n591 : Int).toNat) = [.int .i64 n615, .str s616, .sl 1 l617, .sl 2 l618, .sl 3 l619, .sl 1 l620, .int .i64 n621, .sl 4 l622, .int .i64 n623, .int .i64 n624, .str s625, .int .i64 n626, .sl 4 l627, .int .i64 n628, .str s629, .int .i64 n630, .sl 4 l631, .str s632, .sl 4 l633, .sl 12 l634] ∧ (PCalls ax 32 [.sl 20 l1, .int .i64 n591] fun r638 => ∃ (b637 : Bool), r638 = [.bool b637] ∧ (bif (!b637) then
 (K [.agg [.sl 20 [], .sl 6 [], .sl 5 []], .bool false])
 else
 (bif (n615 == (1 : Int)) then
 (((List.length l592) + (List.length ([[.int .i64 n615, .str s616, .sl 1 l617, .sl 2 l618, .sl 3 l619, .sl 1 l620, .int .i64 n621, .sl 4 l622, .int .i64 n623, .int .i64 n624, .str s625, .int .i64 n626, .sl 4 l627, .int .i64 n628, .str s629, .int .i64 n630, .sl 4 l631, .str s632, .sl 4 l633, .sl 12 l634]] : List (List V)))) * 336 ≤ 140737488355328 ∧ (List.length l592) + (List.length ([[.int .i64 n615, .str s616, .sl 1 l617, .sl 2 l618, .sl 3 l619, .sl 1 l620, .int .i64 n621, .sl 4 l622, .int .i64 n623, .int .i64 n624, .str s625, .int .i64 n626, .sl 4 l627, .int .i64 n628, .str s629, .int .i64 n630, .sl 4 l631, .str s632, .sl 4 l633, .sl 12 l634]] : List (List V))) ≤ 140737488355328 ∧ (∃ (I646 : List V → Prop) (μ647 : List V → Nat), I646 [.int .i64 0, .sl 6 l593] ∧ (∀ (n648 : Int) (l649 : List (List V)), I646 [.int .i64 n648, .sl 6 l649] →
 (bif (decide (n648 < (List.length l618 : Int))) then
 (0 ≤ n648 ∧ n648 < (List.length l618 : Int) ∧ (∃ (s650 : ByteArray) (l651 : List (List V)), List.take 2 (Av.rowAt l618 (n648 : Int).toNat) = [.str s650, .sl 3 l651] ∧ (((List.length l649) + (List.length ([[.str s650, (.int .i64 (List.length l651 : Int)), .str s616, .sl 1 l617, .sl 3 l651, .int .i64 n648]] : List (List V)))) * 96 ≤ 140737488355328 ∧ (List.length l649) + (List.length ([[.str s650, (.int .i64 (List.length l651 : Int)), .str s616, .sl 1 l617, .sl 3 l651, .int .i64 n648]] : List (List V))) ≤ 140737488355328 ∧ (I646 [(.int .i64 (IntKind.i64.wrap (n648 + 1))), (.sl 6 (l649 ++ [[.str s650, (.int .i64 (List.length l651 : Int)), .str s616, .sl 1 l617, .sl 3 l651, .int .i64 n648]]))] ∧ μ647 [(.int .i64 (IntKind.i64.wrap (n648 + 1))), (.sl 6 (l649 ++ [[.str s650, (.int .i64 (List.length l651 : Int)), .str s616, .sl 1 l617, .sl 3 l651, .int .i64 n648]]))] < μ647 [.int .i64 n648, .sl 6 l649]))))
 else
 (I589 [(.int .i64 (IntKind.i64.wrap (n591 + 1))), (.sl 20 (l592 ++ [[.int .i64 n615, .str s616, .sl 1 l617, .sl 2 l618, .sl 3 l619, .sl 1 l620, .int .i64 n621, .sl 4 l622, .int .i64 n623, .int .i64 n624, .str s625, .int .i64 n626, .sl 4 l627, .int .i64 n628, .str s629, .int .i64 n630, .sl 4 l631, .str s632, .sl 4 l633, .sl 12 l634]])), .sl 6 l649, .sl 5 l594] ∧ μ590 [(.int .i64 (IntKind.i64.wrap (n591 + 1))), (.sl 20 (l592 ++ [[.int .i64 n615, .str s616, .sl 1 l617, .sl 2 l618, .sl 3 l619, .sl 1 l620, .int .i64 n621, .sl 4 l622, .int .i64 n623, .int .i64 n624, .str s625, .int .i64 n626, .sl 4 l627, .int .i64 n628, .str s629, .int .i64 n630, .sl 4 l631, .str s632, .sl 4 l633, .sl 12 l634]])), .sl 6 l649, .sl 5 l594] < μ590 [.int .i64 n591, .sl 20 l592, .sl 6 l593, .sl 5 l594])))))
 else
 (bif (n615 == (2 : Int)) then
 ((PCalls ax 33 [.agg [.int .i64 n615, .str s616, .sl 1 l617, .sl 2 l618, .sl 3 l619, .sl 1 l620, .int .i64 n621, .sl 4 l622, .int .i64 n623, .int .i64 n624, .str s625, .int .i64 n626, .sl 4 l627, .int .i64 n628, .str s629, .int .i64 n630, .sl 4 l631, .str s632, .sl 4 l633, .sl 12 l634]] fun r654 => ∃ (s652 : ByteArray) (n653 : Int), r654 = [.agg [.str s652, .int .i64 n653]] ∧ (∃ (I726 : List V → Prop) (μ727 : List V → Nat), I726 [.int .i64 0, .str s652, .int .i64 n653, .sl 3 l619, .sl 2 [], .sl 1 []] ∧ (∀ (n728 : Int) (s729 : ByteArray) (n730 : Int) (l731 : List (List V)) (l732 : List (List V)) (l733 : List (List V)), I726 [.int .i64 n728, .str s729, .int .i64 n730, .sl 3 l731, .sl 2 l732, .sl 1 l733] →
 (bif (decide (n728 < (List.length l1 : Int))) then
 (0 ≤ n728 ∧ n728 < (List.length l1 : Int) ∧ (∃ (n734 : Int) (s735 : ByteArray) (l736 : List (List V)) (l737 : List (List V)) (l738 : List (List V)) (l739 : List (List V)) (n740 : Int) (l741 : List (List V)) (n742 : Int) (n743 : Int) (s744 : ByteArray) (n745 : Int) (l746 : List (List V)) (n747 : Int) (s748 : ByteArray) (n749 : Int) (l750 : List (List V)) (s751 : ByteArray) (l752 : List (List V)) (l753 : List (List V)), List.take 20 (Av.rowAt l1 (n728 : Int).toNat) = [.int .i64 n734, .str s735, .sl 1 l736, .sl 2 l737, .sl 3 l738, .sl 1 l739, .int .i64 n740, .sl 4 l741, .int .i64 n742, .int .i64 n743, .str s744, .int .i64 n745, .sl 4 l746, .int .i64 n747, .str s748, .int .i64 n749, .sl 4 l750, .str s751, .sl 4 l752, .sl 12 l753] ∧ (bif (n734 == (3 : Int)) then (PCalls ax 33 [.agg [.int .i64 n734, .str s735, .sl 1 l736, .sl 2 l737, .sl 3 l738, .sl 1 l739, .int .i64 n740, .sl 4 l741, .int .i64 n742, .int .i64 n743, .str s744, .int .i64 n745, .sl 4 l746, .int .i64 n747, .str s748, .int .i64 n749, .sl 4 l750, .str s751, .sl 4 l752, .sl 12 l753]] fun r756 => ∃ (s754 : ByteArray) (n755 : Int), r756 = [.agg [.str s754, .int .i64 n755]] ∧ (bif (eqL [.str s754, .int .i64 n755] [.str s729, .int .i64 n730]) then
 (((List.length l732) + (List.length ([[.sl 1 l739, .int .i64 n740]] : List (List V)))) * 32 ≤ 140737488355328 ∧ (List.length l732) + (List.length ([[.sl 1 l739, .int .i64 n740]] : List (List V))) ≤ 140737488355328 ∧ (bif (n734 == (4 : Int)) then (PCalls ax 33 [.agg [.int .i64 n734, .str s735, .sl 1 l736, .sl 2 l737, .sl 3 l738, .sl 1 l739, .int .i64 n740, .sl 4 l741, .int .i64 n742, .int .i64 n743, .str s744, .int .i64 n745, .sl 4 l746, .int .i64 n747, .str s748, .int .i64 n749, .sl 4 l750, .str s751, .sl 4 l752, .sl 12 l753]] fun r759 => ∃ (s757 : ByteArray) (n758 : Int), r759 = [.agg [.str s757, .int .i64 n758]] ∧ (bif (eqL [.str s757, .int .i64 n758] [.str s729, .int .i64 n730]) then
 (((List.length l733) + (List.length ([[.int .i64 n728]] : List (List V)))) * 8 ≤ 140737488355328 ∧ (List.length l733) + (List.length ([[.int .i64 n728]] : List (List V))) ≤ 140737488355328 ∧ (I726 [(.int .i64 (IntKind.i64.wrap (n728 + 1))), .str s729, .int .i64 n730, .sl 3 l731, (.sl 2 (l732 ++ [[.sl 1 l739, .int .i64 n740]])), (.sl 1 (l733 ++ [[.int .i64 n728]]))] ∧ μ727 [(.int .i64 (IntKind.i64.wrap (n728 + 1))), .str s729, .int .i64 n730, .sl 3 l731, (.sl 2 (l732 ++ [[.sl 1 l739, .int .i64 n740]])), (.sl 1 (l733 ++ [[.int .i64 n728]]))] < μ727 [.int .i64 n728, .str s729, .int .i64 n730, .sl 3 l731, .sl 2 l732, .sl 1 l733]))
 else
 (I726 [(.int .i64 (IntKind.i64.wrap (n728 + 1))), .str s729, .int .i64 n730, .sl 3 l731, (.sl 2 (l732 ++ [[.sl 1 l739, .int .i64 n740]])), .sl 1 l733] ∧ μ727 [(.int .i64 (IntKind.i64.wrap (n728 + 1))), .str s729, .int .i64 n730, .sl 3 l731, (.sl 2 (l732 ++ [[.sl 1 l739, .int .i64 n740]])), .sl 1 l733] < μ727 [.int .i64 n728, .str s729, .int .i64 n730, .sl 3 l731, .sl 2 l732, .sl 1 l733]))) else (I726 [(.int .i64 (IntKind.i64.wrap (n728 + 1))), .str s729, .int .i64 n730, .sl 3 l731, (.sl 2 (l732 ++ [[.sl 1 l739, .int .i64 n740]])), .sl 1 l733] ∧ μ727 [(.int .i64 (IntKind.i64.wrap (n728 + 1))), .str s729, .int .i64 n730, .sl 3 l731, (.sl 2 (l732 ++ [[.sl 1 l739, .int .i64 n740]])), .sl 1 l733] < μ727 [.int .i64 n728, .str s729, .int .i64 n730, .sl 3 l731, .sl 2 l732, .sl 1 l733])))
 else
 (bif (n734 == (4 : Int)) then (PCalls ax 33 [.agg [.int .i64 n734, .str s735, .sl 1 l736, .sl 2 l737, .sl 3 l738, .sl 1 l739, .int .i64 n740, .sl 4 l741, .int .i64 n742, .int .i64 n743, .str s744, .int .i64 n745, .sl 4 l746, .int .i64 n747, .str s748, .int .i64 n749, .sl 4 l750, .str s751, .sl 4 l752, .sl 12 l753]] fun r762 => ∃ (s760 : ByteArray) (n761 : Int), r762 = [.agg [.str s760, .int .i64 n761]] ∧ (bif (eqL [.str s760, .int .i64 n761] [.str s729, .int .i64 n730]) then
 (((List.length l733) + (List.length ([[.int .i64 n728]] : List (List V)))) * 8 ≤ 140737488355328 ∧ (List.length l733) + (List.length ([[.int .i64 n728]] : List (List V))) ≤ 140737488355328 ∧ (I726 [(.int .i64 (IntKind.i64.wrap (n728 + 1))), .str s729, .int .i64 n730, .sl 3 l731, .sl 2 l732, (.sl 1 (l733 ++ [[.int .i64 n728]]))] ∧ μ727 [(.int .i64 (IntKind.i64.wrap (n728 + 1))), .str s729, .int .i64 n730, .sl 3 l731, .sl 2 l732, (.sl 1 (l733 ++ [[.int .i64 n728]]))] < μ727 [.int .i64 n728, .str s729, .int .i64 n730, .sl 3 l731, .sl 2 l732, .sl 1 l733]))
 else
 (I726 [(.int .i64 (IntKind.i64.wrap (n728 + 1))), .str s729, .int .i64 n730, .sl 3 l731, .sl 2 l732, .sl 1 l733] ∧ μ727 [(.int .i64 (IntKind.i64.wrap (n728 + 1))), .str s729, .int .i64 n730, .sl 3 l731, .sl 2 l732, .sl 1 l733] < μ727 [.int .i64 n728, .str s729, .int .i64 n730, .sl 3 l731, .sl 2 l732, .sl 1 l733]))) else (I726 [(.int .i64 (IntKind.i64.wrap (n728 + 1))), .str s729, .int .i64 n730, .sl 3 l731, .sl 2 l732, .sl 1 l733] ∧ μ727 [(.int .i64 (IntKind.i64.wrap (n728 + 1))), .str s729, .int .i64 n730, .sl 3 l731, .sl 2 l732, .sl 1 l733] < μ727 [.int .i64 n728, .str s729, .int .i64 n730, .sl 3 l731, .sl 2 l732, .sl 1 l733])))) else (bif (n734 == (4 : Int)) then (PCalls ax 33 [.agg [.int .i64 n734, .str s735, .sl 1 l736, .sl 2 l737, .sl 3 l738, .sl 1 l739, .int .i64 n740, .sl 4 l741, .int .i64 n742, .int .i64 n743, .str s744, .int .i64 n745, .sl 4 l746, .int .i64 n747, .str s748, .int .i64 n749, .sl 4 l750, .str s751, .sl 4 l752, .sl 12 l753]] fun r765 => ∃ (s763 : ByteArray) (n764 : Int), r765 = [.agg [.str s763, .int .i64 n764]] ∧ (bif (eqL [.str s763, .int .i64 n764] [.str s729, .int .i64 n730]) then
 (((List.length l733) + (List.length ([[.int .i64 n728]] : List (List V)))) * 8 ≤ 140737488355328 ∧ (List.length l733) + (List.length ([[.int .i64 n728]] : List (List V))) ≤ 140737488355328 ∧ (I726 [(.int .i64 (IntKind.i64.wrap (n728 + 1))), .str s729, .int .i64 n730, .sl 3 l731, .sl 2 l732, (.sl 1 (l733 ++ [[.int .i64 n728]]))] ∧ μ727 [(.int .i64 (IntKind.i64.wrap (n728 + 1))), .str s729, .int .i64 n730, .sl 3 l731, .sl 2 l732, (.sl 1 (l733 ++ [[.int .i64 n728]]))] < μ727 [.int .i64 n728, .str s729, .int .i64 n730, .sl 3 l731, .sl 2 l732, .sl 1 l733]))
 else
 (I726 [(.int .i64 (IntKind.i64.wrap (n728 + 1))), .str s729, .int .i64 n730, .sl 3 l731, .sl 2 l732, .sl 1 l733] ∧ μ727 [(.int .i64 (IntKind.i64.wrap (n728 + 1))), .str s729, .int .i64 n730, .sl 3 l731, .sl 2 l732, .sl 1 l733] < μ727 [.int .i64 n728, .str s729, .int .i64 n730, .sl 3 l731, .sl 2 l732, .sl 1 l733]))) else (I726 [(.int .i64 (IntKind.i64.wrap (n728 + 1))), .str s729, .int .i64 n730, .sl 3 l731, .sl 2 l732, .sl 1 l733] ∧ μ727 [(.int .i64 (IntKind.i64.wrap (n728 + 1))), .str s729, .int .i64 n730, .sl 3 l731, .sl 2 l732, .sl 1 l733] < μ727 [.int .i64 n728, .str s729, .int .i64 n730, .sl 3 l731, .sl 2 l732, .sl 1 l733])))))
 else
 (((List.length l594) + (List.length ([[.str s729, .int .i64 n730, .sl 3 l731, .sl 2 l732, .sl 1 l733]] : List (List V)))) * 96 ≤ 140737488355328 ∧ (List.length l594) + (List.length ([[.str s729, .int .i64 n730, .sl 3 l731, .sl 2 l732, .sl 1 l733]] : List (List V))) ≤ 140737488355328 ∧ (I589 [(.int .i64 (IntKind.i64.wrap (n591 + 1))), .sl 20 l592, .sl 6 l593, (.sl 5 (l594 ++ [[.str s729, .int .i64 n730, .sl 3 l731, .sl 2 l732, .sl 1 l733]]))] ∧ μ590 [(.int .i64 (IntKind.i64.wrap (n591 + 1))), .sl 20 l592, .sl 6 l593, (.sl 5 (l594 ++ [[.str s729, .int .i64 n730, .sl 3 l731, .sl 2 l732, .sl 1 l733]]))] < μ590 [.int .i64 n591, .sl 20 l592, .sl 6 l593, .sl 5 l594])))))) ∧ (PCalls ax 33 [.agg [.int .i64 n615, .str s616, .sl 1 l617, .sl 2 l618, .sl 3 l619, .sl 1 l620, .int .i64 n621, .sl 4 l622, .int .i64 n623, .int .i64 n624, .str s625, .int .i64 n626, .sl 4 l627, .int .i64 n628, .str s629, .int .i64 n630, .sl 4 l631, .str s632, .sl 4 l633, .sl 12 l634]] fun r768 => ∃ (s766 : ByteArray) (n767 : Int), r768 = [.agg [.str s766, .int .i64 n767]] ∧ (∃ (I769 : List V → Prop) (μ770 : List V → Nat), I769 [.int .i64 0, .str s766, .int .i64 n767, .sl 3 l619, .sl 2 [], .sl 1 []] ∧ (∀ (n771 : Int) (s772 : ByteArray) (n773 : Int) (l774 : List (List V)) (l775 : List (List V)) (l776 : List (List V)), I769 [.int .i64 n771, .str s772, .int .i64 n773, .sl 3 l774, .sl 2 l775, .sl 1 l776] →
 (bif (decide (n771 < (List.length l1 : Int))) then
 (0 ≤ n771 ∧ n771 < (List.length l1 : Int) ∧ (∃ (n777 : Int) (s778 : ByteArray) (l779 : List (List V)) (l780 : List (List V)) (l781 : List (List V)) (l782 : List (List V)) (n783 : Int) (l784 : List (List V)) (n785 : Int) (n786 : Int) (s787 : ByteArray) (n788 : Int) (l789 : List (List V)) (n790 : Int) (s791 : ByteArray) (n792 : Int) (l793 : List (List V)) (s794 : ByteArray) (l795 : List (List V)) (l796 : List (List V)), List.take 20 (Av.rowAt l1 (n771 : Int).toNat) = [.int .i64 n777, .str s778, .sl 1 l779, .sl 2 l780, .sl 3 l781, .sl 1 l782, .int .i64 n783, .sl 4 l784, .int .i64 n785, .int .i64 n786, .str s787, .int .i64 n788, .sl 4 l789, .int .i64 n790, .str s791, .int .i64 n792, .sl 4 l793, .str s794, .sl 4 l795, .sl 12 l796] ∧ (bif (n777 == (3 : Int)) then (PCalls ax 33 [.agg [.int .i64 n777, .str s778, .sl 1 l779, .sl 2 l780, .sl 3 l781, .sl 1 l782, .int .i64 n783, .sl 4 l784, .int .i64 n785, .int .i64 n786, .str s787, .int .i64 n788, .sl 4 l789, .int .i64 n790, .str s791, .int .i64 n792, .sl 4 l793, .str s794, .sl 4 l795, .sl 12 l796]] fun r799 => ∃ (s797 : ByteArray) (n798 : Int), r799 = [.agg [.str s797, .int .i64 n798]] ∧ (bif (eqL [.str s797, .int .i64 n798] [.str s772, .int .i64 n773]) then
 (((List.length l775) + (List.length ([[.sl 1 l782, .int .i64 n783]] : List (List V)))) * 32 ≤ 140737488355328 ∧ (List.length l775) + (List.length ([[.sl 1 l782, .int .i64 n783]] : List (List V))) ≤ 140737488355328 ∧ (bif (n777 == (4 : Int)) then (PCalls ax 33 [.agg [.int .i64 n777, .str s778, .sl 1 l779, .sl 2 l780, .sl 3 l781, .sl 1 l782, .int .i64 n783, .sl 4 l784, .int .i64 n785, .int .i64 n786, .str s787, .int .i64 n788, .sl 4 l789, .int .i64 n790, .str s791, .int .i64 n792, .sl 4 l793, .str s794, .sl 4 l795, .sl 12 l796]] fun r802 => ∃ (s800 : ByteArray) (n801 : Int), r802 = [.agg [.str s800, .int .i64 n801]] ∧ (bif (eqL [.str s800, .int .i64 n801] [.str s772, .int .i64 n773]) then
 (((List.length l776) + (List.length ([[.int .i64 n771]] : List (List V)))) * 8 ≤ 140737488355328 ∧ (List.length l776) + (List.length ([[.int .i64 n771]] : List (List V))) ≤ 140737488355328 ∧ (I769 [(.int .i64 (IntKind.i64.wrap (n771 + 1))), .str s772, .int .i64 n773, .sl 3 l774, (.sl 2 (l775 ++ [[.sl 1 l782, .int .i64 n783]])), (.sl 1 (l776 ++ [[.int .i64 n771]]))] ∧ μ770 [(.int .i64 (IntKind.i64.wrap (n771 + 1))), .str s772, .int .i64 n773, .sl 3 l774, (.sl 2 (l775 ++ [[.sl 1 l782, .int .i64 n783]])), (.sl 1 (l776 ++ [[.int .i64 n771]]))] < μ770 [.int .i64 n771, .str s772, .int .i64 n773, .sl 3 l774, .sl 2 l775, .sl 1 l776]))
 else
 (I769 [(.int .i64 (IntKind.i64.wrap (n771 + 1))), .str s772, .int .i64 n773, .sl 3 l774, (.sl 2 (l775 ++ [[.sl 1 l782, .int .i64 n783]])), .sl 1 l776] ∧ μ770 [(.int .i64 (IntKind.i64.wrap (n771 + 1))), .str s772, .int .i64 n773, .sl 3 l774, (.sl 2 (l775 ++ [[.sl 1 l782, .int .i64 n783]])), .sl 1 l776] < μ770 [.int .i64 n771, .str s772, .int .i64 n773, .sl 3 l774, .sl 2 l775, .sl 1 l776]))) else (I769 [(.int .i64 (IntKind.i64.wrap (n771 + 1))), .str s772, .int .i64 n773, .sl 3 l774, (.sl 2 (l775 ++ [[.sl 1 l782, .int .i64 n783]])), .sl 1 l776] ∧ μ770 [(.int .i64 (IntKind.i64.wrap (n771 + 1))), .str s772, .int .i64 n773, .sl 3 l774, (.sl 2 (l775 ++ [[.sl 1 l782, .int .i64 n783]])), .sl 1 l776] < μ770 [.int .i64 n771, .str s772, .int .i64 n773, .sl 3 l774, .sl 2 l775, .sl 1 l776])))
 else
 (bif (n777 == (4 : Int)) then (PCalls ax 33 [.agg [.int .i64 n777, .str s778, .sl 1 l779, .sl 2 l780, .sl 3 l781, .sl 1 l782, .int .i64 n783, .sl 4 l784, .int .i64 n785, .int .i64 n786, .str s787, .int .i64 n788, .sl 4 l789, .int .i64 n790, .str s791, .int .i64 n792, .sl 4 l793, .str s794, .sl 4 l795, .sl 12 l796]] fun r805 => ∃ (s803 : ByteArray) (n804 : Int), r805 = [.agg [.str s803, .int .i64 n804]] ∧ (bif (eqL [.str s803, .int .i64 n804] [.str s772, .int .i64 n773]) then
 (((List.length l776) + (List.length ([[.int .i64 n771]] : List (List V)))) * 8 ≤ 140737488355328 ∧ (List.length l776) + (List.length ([[.int .i64 n771]] : List (List V))) ≤ 140737488355328 ∧ (I769 [(.int .i64 (IntKind.i64.wrap (n771 + 1))), .str s772, .int .i64 n773, .sl 3 l774, .sl 2 l775, (.sl 1 (l776 ++ [[.int .i64 n771]]))] ∧ μ770 [(.int .i64 (IntKind.i64.wrap (n771 + 1))), .str s772, .int .i64 n773, .sl 3 l774, .sl 2 l775, (.sl 1 (l776 ++ [[.int .i64 n771]]))] < μ770 [.int .i64 n771, .str s772, .int .i64 n773, .sl 3 l774, .sl 2 l775, .sl 1 l776]))
 else
 (I769 [(.int .i64 (IntKind.i64.wrap (n771 + 1))), .str s772, .int .i64 n773, .sl 3 l774, .sl 2 l775, .sl 1 l776] ∧ μ770 [(.int .i64 (IntKind.i64.wrap (n771 + 1))), .str s772, .int .i64 n773, .sl 3 l774, .sl 2 l775, .sl 1 l776] < μ770 [.int .i64 n771, .str s772, .int .i64 n773, .sl 3 l774, .sl 2 l775, .sl 1 l776]))) else (I769 [(.int .i64 (IntKind.i64.wrap (n771 + 1))), .str s772, .int .i64 n773, .sl 3 l774, .sl 2 l775, .sl 1 l776] ∧ μ770 [(.int .i64 (IntKind.i64.wrap (n771 + 1))), .str s772, .int .i64 n773, .sl 3 l774, .sl 2 l775, .sl 1 l776] < μ770 [.int .i64 n771, .str s772, .int .i64 n773, .sl 3 l774, .sl 2 l775, .sl 1 l776])))) else (bif (n777 == (4 : Int)) then (PCalls ax 33 [.agg [.int .i64 n777, .str s778, .sl 1 l779, .sl 2 l780, .sl 3 l781, .sl 1 l782, .int .i64 n783, .sl 4 l784, .int .i64 n785, .int .i64 n786, .str s787, .int .i64 n788, .sl 4 l789, .int .i64 n790, .str s791, .int .i64 n792, .sl 4 l793, .str s794, .sl 4 l795, .sl 12 l796]] fun r808 => ∃ (s806 : ByteArray) (n807 : Int), r808 = [.agg [.str s806, .int .i64 n807]] ∧ (bif (eqL [.str s806, .int .i64 n807] [.str s772, .int .i64 n773]) then
 (((List.length l776) + (List.length ([[.int .i64 n771]] : List (List V)))) * 8 ≤ 140737488355328 ∧ (List.length l776) + (List.length ([[.int .i64 n771]] : List (List V))) ≤ 140737488355328 ∧ (I769 [(.int .i64 (IntKind.i64.wrap (n771 + 1))), .str s772, .int .i64 n773, .sl 3 l774, .sl 2 l775, (.sl 1 (l776 ++ [[.int .i64 n771]]))] ∧ μ770 [(.int .i64 (IntKind.i64.wrap (n771 + 1))), .str s772, .int .i64 n773, .sl 3 l774, .sl 2 l775, (.sl 1 (l776 ++ [[.int .i64 n771]]))] < μ770 [.int .i64 n771, .str s772, .int .i64 n773, .sl 3 l774, .sl 2 l775, .sl 1 l776]))
 else
 (I769 [(.int .i64 (IntKind.i64.wrap (n771 + 1))), .str s772, .int .i64 n773, .sl 3 l774, .sl 2 l775, .sl 1 l776] ∧ μ770 [(.int .i64 (IntKind.i64.wrap (n771 + 1))), .str s772, .int .i64 n773, .sl 3 l774, .sl 2 l775, .sl 1 l776] < μ770 [.int .i64 n771, .str s772, .int .i64 n773, .sl 3 l774, .sl 2 l775, .sl 1 l776]))) else (I769 [(.int .i64 (IntKind.i64.wrap (n771 + 1))), .str s772, .int .i64 n773, .sl 3 l774, .sl 2 l775, .sl 1 l776] ∧ μ770 [(.int .i64 (IntKind.i64.wrap (n771 + 1))), .str s772, .int .i64 n773, .sl 3 l774, .sl 2 l775, .sl 1 l776] < μ770 [.int .i64 n771, .str s772, .int .i64 n773, .sl 3 l774, .sl 2 l775, .sl 1 l776])))))
 else
 (((List.length l594) + (List.length ([[.str s772, .int .i64 n773, .sl 3 l774, .sl 2 l775, .sl 1 l776]] : List (List V)))) * 96 ≤ 140737488355328 ∧ (List.length l594) + (List.length ([[.str s772, .int .i64 n773, .sl 3 l774, .sl 2 l775, .sl 1 l776]] : List (List V))) ≤ 140737488355328 ∧ (I589 [(.int .i64 (IntKind.i64.wrap (n591 + 1))), .sl 20 l592, .sl 6 l593, (.sl 5 (l594 ++ [[.str s772, .int .i64 n773, .sl 3 l774, .sl 2 l775, .sl 1 l776]]))] ∧ μ590 [(.int .i64 (IntKind.i64.wrap (n591 + 1))), .sl 20 l592, .sl 6 l593, (.sl 5 (l594 ++ [[.str s772, .int .i64 n773, .sl 3 l774, .sl 2 l775, .sl 1 l776]]))] < μ590 [.int .i64 n591, .sl 20 l592, .sl 6 l593, .sl 5 l594])))))))
 else
 (I589 [(.int .i64 (IntKind.i64.wrap (n591 + 1))), .sl 20 l592, .sl 6 l593, .sl 5 l594] ∧ μ590 [(.int .i64 (IntKind.i64.wrap (n591 + 1))), .sl 20 l592, .sl 6 l593, .sl 5 l594] < μ590 [.int .i64 n591, .sl 20 l592, .sl 6 l593, .sl 5 l594])))))))
 else
 (K [.agg [.sl 20 l592, .sl 6 l593, .sl 5 l594], .bool true])))))
theorem Resolve.eq (l1 : List (List V)) (K : List V → Prop) : Resolve.W l1 K = afn ax Resolve.ah Tryd.f13 [.sl 20 l1] [] (onlyV K) := by kernel_rfl
theorem Resolve.ok : codeOk tys (hintsOf Resolve.ah) Tryd.f13.ntmps (Tryd.f13.body.getD .skip) = true := by kernel_rfl
theorem Resolve.calls {l1 K} (h : Resolve.W l1 K) : PCalls ax 13 [.sl 20 l1] K :=
  afn_run (ah := Resolve.ah) tysOk fnsOk follows eqOk Tryd.func13 (by kernel_rfl) Resolve.ok (by kernel_rfl) (Eq.mp (Resolve.eq l1 K) h)
/-! ### Preds: function 31, augur/augurref04.Preds -/
def Preds.ah : AH := ⟨[], [(3, ⟨[(1, [.nw 96 5 false], false), (9, [.d (.int .i64)], false)], [], [], [0]⟩), (10, ⟨[(5, [.d (.int .i64)], false)], [(5, [.d (.str), .d (.int .i64), .nw 103 3 false, .d (.sl 2), .l .nls])], [], []⟩)], [], [], [], [some [.sl 5]], [], [], [.nw 96 5 false]⟩
def Preds.W  (K : List V → List Ob → Prop) : Prop :=
 (∃ (I56 : List V → Prop) (μ57 : List V → Nat), I56 [.sl 5 [], .int .i64 0] ∧ (∀ (l58 : List (List V)) (n59 : Int), I56 [.sl 5 l58, .int .i64 n59] →
 (bif (decide (n59 < (List.length ([[(.str (⟨#[97, 100, 100]⟩ : ByteArray))], [(.str (⟨#[115, 117, 98]⟩ : ByteArray))], [(.str (⟨#[109, 117, 108]⟩ : ByteArray))], [(.str (⟨#[100, 105, 118]⟩ : ByteArray))], [(.str (⟨#[109, 111, 100]⟩ : ByteArray))], [(.str (⟨#[108, 116]⟩ : ByteArray))], [(.str (⟨#[108, 101]⟩ : ByteArray))]] : List (List V)) : Int))) then
 (0 ≤ n59 ∧ n59 < (List.length ([[(.str (⟨#[97, 100, 100]⟩ : ByteArray))], [(.str (⟨#[115, 117, 98]⟩ : ByteArray))], [(.str (⟨#[109, 117, 108]⟩ : ByteArray))], [(.str (⟨#[100, 105, 118]⟩ : ByteArray))], [(.str (⟨#[109, 111, 100]⟩ : ByteArray))], [(.str (⟨#[108, 116]⟩ : ByteArray))], [(.str (⟨#[108, 101]⟩ : ByteArray))]] : List (List V)) : Int) ∧ (∃ (s61 : ByteArray), List.take 1 (Av.rowAt [[(.str (⟨#[97, 100, 100]⟩ : ByteArray))], [(.str (⟨#[115, 117, 98]⟩ : ByteArray))], [(.str (⟨#[109, 117, 108]⟩ : ByteArray))], [(.str (⟨#[100, 105, 118]⟩ : ByteArray))], [(.str (⟨#[109, 111, 100]⟩ : ByteArray))], [(.str (⟨#[108, 116]⟩ : ByteArray))], [(.str (⟨#[108, 101]⟩ : ByteArray))]] ((n59 : Int).toNat)) = [.str s61] ∧ (bif (decide (n59 > (4 : Int))) then
 (∃ (I67 : List V → Prop) (μ68 : List V → Nat), I67 [.int .i64 0, .str s61, .int .i64 2, .sl 3 [], .sl 2 [[.sl 1 [[.bool true], [.bool true]], .int .i64 2]]] ∧ (∀ (n69 : Int) (s70 : ByteArray) (n71 : Int) (l72 : List (List V)) (l73 : List (List V)), I67 [.int .i64 n69, .str s70, .int .i64 n71, .sl 3 l72, .sl 2 l73] →
 (bif (decide (n69 < n71)) then
 (((List.length l72) + (List.length ([[.bool false, (.str (⟨#[105, 110, 116]⟩ : ByteArray)), .sl 3 []]] : List (List V)))) * 48 ≤ 140737488355328 ∧ (List.length l72) + (List.length ([[.bool false, (.str (⟨#[105, 110, 116]⟩ : ByteArray)), .sl 3 []]] : List (List V))) ≤ 140737488355328 ∧ (I67 [(.int .i64 (IntKind.i64.wrap (n69 + 1))), .str s70, .int .i64 n71, (.sl 3 (l72 ++ [[.bool false, (.str (⟨#[105, 110, 116]⟩ : ByteArray)), .sl 3 []]])), .sl 2 l73] ∧ μ68 [(.int .i64 (IntKind.i64.wrap (n69 + 1))), .str s70, .int .i64 n71, (.sl 3 (l72 ++ [[.bool false, (.str (⟨#[105, 110, 116]⟩ : ByteArray)), .sl 3 []]])), .sl 2 l73] < μ68 [.int .i64 n69, .str s70, .int .i64 n71, .sl 3 l72, .sl 2 l73]))
 else
 (((List.length l58) + (List.length ([[.str s70, .int .i64 n71, .sl 3 l72, .sl 2 l73, .sl 1 []]] : List (List V)))) * 96 ≤ 140737488355328 ∧ (List.length l58) + (List.length ([[.str s70, .int .i64 n71, .sl 3 l72, .sl 2 l73, .sl 1 []]] : List (List V))) ≤ 140737488355328 ∧ (I56 [(.sl 5 (l58 ++ [[.str s70, .int .i64 n71, .sl 3 l72, .sl 2 l73, .sl 1 []]])), (.int .i64 (IntKind.i64.wrap (n59 + 1)))] ∧ μ57 [(.sl 5 (l58 ++ [[.str s70, .int .i64 n71, .sl 3 l72, .sl 2 l73, .sl 1 []]])), (.int .i64 (IntKind.i64.wrap (n59 + 1)))] < μ57 [.sl 5 l58, .int .i64 n59])))))
 else
 (∃ (I74 : List V → Prop) (μ75 : List V → Nat), I74 [.int .i64 0, .str s61, .int .i64 3, .sl 3 [], .sl 2 [[.sl 1 [[.bool true], [.bool true], [.bool false]], .int .i64 1]]] ∧ (∀ (n76 : Int) (s77 : ByteArray) (n78 : Int) (l79 : List (List V)) (l80 : List (List V)), I74 [.int .i64 n76, .str s77, .int .i64 n78, .sl 3 l79, .sl 2 l80] →
 (bif (decide (n76 < n78)) then
 (((List.length l79) + (List.length ([[.bool false, (.str (⟨#[105, 110, 116]⟩ : ByteArray)), .sl 3 []]] : List (List V)))) * 48 ≤ 140737488355328 ∧ (List.length l79) + (List.length ([[.bool false, (.str (⟨#[105, 110, 116]⟩ : ByteArray)), .sl 3 []]] : List (List V))) ≤ 140737488355328 ∧ (I74 [(.int .i64 (IntKind.i64.wrap (n76 + 1))), .str s77, .int .i64 n78, (.sl 3 (l79 ++ [[.bool false, (.str (⟨#[105, 110, 116]⟩ : ByteArray)), .sl 3 []]])), .sl 2 l80] ∧ μ75 [(.int .i64 (IntKind.i64.wrap (n76 + 1))), .str s77, .int .i64 n78, (.sl 3 (l79 ++ [[.bool false, (.str (⟨#[105, 110, 116]⟩ : ByteArray)), .sl 3 []]])), .sl 2 l80] < μ75 [.int .i64 n76, .str s77, .int .i64 n78, .sl 3 l79, .sl 2 l80]))
 else
 (((List.length l58) + (List.length ([[.str s77, .int .i64 n78, .sl 3 l79, .sl 2 l80, .sl 1 []]] : List (List V)))) * 96 ≤ 140737488355328 ∧ (List.length l58) + (List.length ([[.str s77, .int .i64 n78, .sl 3 l79, .sl 2 l80, .sl 1 []]] : List (List V))) ≤ 140737488355328 ∧ (I56 [(.sl 5 (l58 ++ [[.str s77, .int .i64 n78, .sl 3 l79, .sl 2 l80, .sl 1 []]])), (.int .i64 (IntKind.i64.wrap (n59 + 1)))] ∧ μ57 [(.sl 5 (l58 ++ [[.str s77, .int .i64 n78, .sl 3 l79, .sl 2 l80, .sl 1 []]])), (.int .i64 (IntKind.i64.wrap (n59 + 1)))] < μ57 [.sl 5 l58, .int .i64 n59]))))))))
 else
 (K [.own 0] [.lst 96 5 false l58]))))
theorem Preds.eq  (K : List V → List Ob → Prop) : Preds.W  K = afn ax Preds.ah Tryd.f31 [] [] K := by kernel_rfl
theorem Preds.ok : codeOk tys (hintsOf Preds.ah) Tryd.f31.ntmps (Tryd.f31.body.getD .skip) = true := by kernel_rfl
theorem Preds.calls { K} (h : Preds.W  K) : SCalls ax 31 [] [] K :=
  afn_run (ah := Preds.ah) tysOk fnsOk follows eqOk Tryd.func31 (by kernel_rfl) Preds.ok (by kernel_rfl) (Eq.mp (Preds.eq  K) h)
/-! ### well: function 32, augur/augurref04.well -/
def well.ah : AH := ⟨[(41, seqO [0, 1, 2, 3, 4, 5, 6, 7, 8, 9, 11, 10, 12, 13, 14, 15, 16, 17, 18, 19, 20])], [(9, ⟨[(43, [.d (.int .i64)], false)], [], [], []⟩), (15, ⟨[(58, [.d (.int .i64)], false)], [], [], []⟩), (20, ⟨[(74, [.d (.int .i64)], false)], [], [], []⟩), (30, ⟨[(105, [.d (.int .i64)], false)], [], [], []⟩), (39, ⟨[(126, [.d (.int .i64)], false)], [], [], []⟩), (48, ⟨[(173, [.d (.int .i64)], false)], [], [], []⟩)], [], [(33, ⟨[some [.int .i64, .str, .sl 1, .sl 2, .sl 3, .sl 1, .int .i64, .sl 4, .int .i64, .int .i64, .str, .int .i64, .sl 4, .int .i64, .str, .int .i64, .sl 4, .str, .sl 4, .sl 12]], [.ag [.str, .int .i64]], []⟩), (51, ⟨[some [.sl 20], some [.str], some [.int .i64]], [.c (.int .i64), .c (.int .i64)], []⟩), (52, ⟨[some [.sl 1], some [.str]], [.c (.bool)], []⟩), (53, ⟨[some [.sl 20], some [.str, .int .i64]], [.c (.int .i64)], []⟩), (54, ⟨[some [.sl 20], some [.bool, .str, .sl 3], some [.bool], some [.sl 1]], [.c (.bool)], []⟩), (55, ⟨[some [.str, .int .i64]], [.c (.bool)], []⟩), (56, ⟨[some [.sl 20], some [.int .i64], some [.str, .int .i64]], [.c (.int .i64)], []⟩), (57, ⟨[some [.sl 1], some [.sl 1]], [.c (.bool)], []⟩), (58, ⟨[some [.sl 20], some [.int .i64, .int .i64, .str, .int .i64, .sl 4, .int .i64, .str, .int .i64, .sl 4, .str, .sl 4, .sl 12]], [.c (.bool)], []⟩), (59, ⟨[some [.sl 20], some [.int .i64, .str, .int .i64, .sl 4]], [.c (.bool)], []⟩)], [], [some [.bool]], [], [], []⟩
def well.W (l1 : List (List V)) (n2 : Int) (K : List V → Prop) : Prop :=
 (0 ≤ n2 ∧ n2 < (List.length l1 : Int) ∧ (∃ (n23 : Int) (s24 : ByteArray) (l25 : List (List V)) (l26 : List (List V)) (l27 : List (List V)) (l28 : List (List V)) (n29 : Int) (l30 : List (List V)) (n31 : Int) (n32 : Int) (s33 : ByteArray) (n34 : Int) (l35 : List (List V)) (n36 : Int) (s37 : ByteArray) (n38 : Int) (l39 : List (List V)) (s40 : ByteArray) (l41 : List (List V)) (l42 : List (List V)), List.take 20 (Av.rowAt l1 (n2 : Int).toNat) = [.int .i64 n23, .str s24, .sl 1 l25, .sl 2 l26, .sl 3 l27, .sl 1 l28, .int .i64 n29, .sl 4 l30, .int .i64 n31, .int .i64 n32, .str s33, .int .i64 n34, .sl 4 l35, .int .i64 n36, .str s37, .int .i64 n38, .sl 4 l39, .str s40, .sl 4 l41, .sl 12 l42] ∧ (PCalls ax 33 [.agg [.int .i64 n23, .str s24, .sl 1 l25, .sl 2 l26, .sl 3 l27, .sl 1 l28, .int .i64 n29, .sl 4 l30, .int .i64 n31, .int .i64 n32, .str s33, .int .i64 n34, .sl 4 l35, .int .i64 n36, .str s37, .int .i64 n38, .sl 4 l39, .str s40, .sl 4 l41, .sl 12 l42]] fun r48 => ∃ (s46 : ByteArray) (n47 : Int), r48 = [.agg [.str s46, .int .i64 n47]] ∧ (bif (n23 == (1 : Int)) then
 (PCalls ax 51 [.sl 20 l1, .str s24, .int .i64 0] fun r54 => ∃ (n52 : Int) (n53 : Int), r54 = [.int .i64 n52, .int .i64 n53] ∧ (bif (n53 != (1 : Int)) then
 (K [.bool false])
 else
 (∃ (I69 : List V → Prop) (μ70 : List V → Nat), I69 [.int .i64 0] ∧ (∀ (n71 : Int), I69 [.int .i64 n71] →
 (bif (decide (n71 < (List.length l25 : Int))) then
 (0 ≤ n71 ∧ n71 < (List.length l25 : Int) ∧ (∃ (s72 : ByteArray), List.take 1 (Av.rowAt l25 (n71 : Int).toNat) = [.str s72] ∧ (0 ≤ n71 ∧ n71 ≤ (List.length l25 : Int) ∧ (PCalls ax 52 [(.sl 1 (List.take (n71 : Int).toNat l25)), .str s72] fun r74 => ∃ (b73 : Bool), r74 = [.bool b73] ∧ (bif b73 then
 (K [.bool false])
 else
 (I69 [(.int .i64 (IntKind.i64.wrap (n71 + 1)))] ∧ μ70 [(.int .i64 (IntKind.i64.wrap (n71 + 1)))] < μ70 [.int .i64 n71]))))))
 else
 (∃ (I98 : List V → Prop) (μ99 : List V → Nat), I98 [.int .i64 0] ∧ (∀ (n100 : Int), I98 [.int .i64 n100] →
 (bif (decide (n100 < (List.length l26 : Int))) then
 (0 ≤ n100 ∧ n100 < (List.length l26 : Int) ∧ (∃ (s103 : ByteArray) (l104 : List (List V)), List.take 2 (Av.rowAt l26 (n100 : Int).toNat) = [.str s103, .sl 3 l104] ∧ (PCalls ax 53 [.sl 20 l1, (.agg [.str s103, (.int .i64 (List.length l104 : Int))])] fun r108 => ∃ (n107 : Int), r108 = [.int .i64 n107] ∧ (bif (n107 != (1 : Int)) then
 (K [.bool false])
 else
 (∃ (I115 : List V → Prop) (μ116 : List V → Nat), I115 [.int .i64 0] ∧ (∀ (n117 : Int), I115 [.int .i64 n117] →
 (bif (decide (n117 < (List.length l104 : Int))) then
 (0 ≤ n117 ∧ n117 < (List.length l104 : Int) ∧ (∃ (b118 : Bool) (s119 : ByteArray) (l120 : List (List V)), List.take 3 (Av.rowAt l104 (n117 : Int).toNat) = [.bool b118, .str s119, .sl 3 l120] ∧ (PCalls ax 54 [.sl 20 l1, .agg [.bool b118, .str s119, .sl 3 l120], .bool true, .sl 1 l25] fun r122 => ∃ (b121 : Bool), r122 = [.bool b121] ∧ (bif (!b121) then
 (K [.bool false])
 else
 (I115 [(.int .i64 (IntKind.i64.wrap (n117 + 1)))] ∧ μ116 [(.int .i64 (IntKind.i64.wrap (n117 + 1)))] < μ116 [.int .i64 n117])))))
 else
 (I98 [(.int .i64 (IntKind.i64.wrap (n100 + 1)))] ∧ μ99 [(.int .i64 (IntKind.i64.wrap (n100 + 1)))] < μ99 [.int .i64 n100]))))))))
 else
 (K [.bool true])))))))))
 else
 (bif (n23 == (2 : Int)) then
 (PCalls ax 55 [.agg [.str s46, .int .i64 n47]] fun r130 => ∃ (b129 : Bool), r130 = [.bool b129] ∧ (bif b129 then (K [.bool false]) else (PCalls ax 56 [.sl 20 l1, .int .i64 2, .agg [.str s46, .int .i64 n47]] fun r132 => ∃ (n131 : Int), r132 = [.int .i64 n131] ∧ (bif (n131 != (1 : Int)) then (K [.bool false]) else (PCalls ax 56 [.sl 20 l1, .int .i64 3, .agg [.str s46, .int .i64 n47]] fun r134 => ∃ (n133 : Int), r134 = [.int .i64 n133] ∧ (bif (n133 == (0 : Int)) then
 (K [.bool false])
 else
 (∃ (I141 : List V → Prop) (μ142 : List V → Nat), I141 [.int .i64 0] ∧ (∀ (n143 : Int), I141 [.int .i64 n143] →
 (bif (decide (n143 < (List.length l27 : Int))) then
 (0 ≤ n143 ∧ n143 < (List.length l27 : Int) ∧ (∃ (b144 : Bool) (s145 : ByteArray) (l146 : List (List V)), List.take 3 (Av.rowAt l27 (n143 : Int).toNat) = [.bool b144, .str s145, .sl 3 l146] ∧ (PCalls ax 54 [.sl 20 l1, .agg [.bool b144, .str s145, .sl 3 l146], .bool false, .sl 1 []] fun r148 => ∃ (b147 : Bool), r148 = [.bool b147] ∧ (bif (!b147) then
 (K [.bool false])
 else
 (I141 [(.int .i64 (IntKind.i64.wrap (n143 + 1)))] ∧ μ142 [(.int .i64 (IntKind.i64.wrap (n143 + 1)))] < μ142 [.int .i64 n143])))))
 else
 (K [.bool true]))))))))))
 else
 (bif (n23 == (3 : Int)) then
 (PCalls ax 55 [.agg [.str s46, .int .i64 n47]] fun r154 => ∃ (b153 : Bool), r154 = [.bool b153] ∧ (bif b153 then (K [.bool false]) else (PCalls ax 56 [.sl 20 l1, .int .i64 2, .agg [.str s46, .int .i64 n47]] fun r156 => ∃ (n155 : Int), r156 = [.int .i64 n155] ∧ (bif (n155 == (0 : Int)) then
 (K [.bool false])
 else
 (∃ (I203 : List V → Prop) (μ204 : List V → Nat), I203 [.int .i64 0] ∧ (∀ (n205 : Int), I203 [.int .i64 n205] →
 (bif (decide (n205 < (List.length l1 : Int))) then
 (0 ≤ n205 ∧ n205 < (List.length l1 : Int) ∧ (∃ (n226 : Int) (s227 : ByteArray) (l228 : List (List V)) (l229 : List (List V)) (l230 : List (List V)) (l231 : List (List V)) (n232 : Int) (l233 : List (List V)) (n234 : Int) (n235 : Int) (s236 : ByteArray) (n237 : Int) (l238 : List (List V)) (n239 : Int) (s240 : ByteArray) (n241 : Int) (l242 : List (List V)) (s243 : ByteArray) (l244 : List (List V)) (l245 : List (List V)), List.take 20 (Av.rowAt l1 (n205 : Int).toNat) = [.int .i64 n226, .str s227, .sl 1 l228, .sl 2 l229, .sl 3 l230, .sl 1 l231, .int .i64 n232, .sl 4 l233, .int .i64 n234, .int .i64 n235, .str s236, .int .i64 n237, .sl 4 l238, .int .i64 n239, .str s240, .int .i64 n241, .sl 4 l242, .str s243, .sl 4 l244, .sl 12 l245] ∧ (bif (n205 != n2) then (bif (n226 == (3 : Int)) then (PCalls ax 33 [.agg [.int .i64 n226, .str s227, .sl 1 l228, .sl 2 l229, .sl 3 l230, .sl 1 l231, .int .i64 n232, .sl 4 l233, .int .i64 n234, .int .i64 n235, .str s236, .int .i64 n237, .sl 4 l238, .int .i64 n239, .str s240, .int .i64 n241, .sl 4 l242, .str s243, .sl 4 l244, .sl 12 l245]] fun r248 => ∃ (s246 : ByteArray) (n247 : Int), r248 = [.agg [.str s246, .int .i64 n247]] ∧ (bif (eqL [.str s246, .int .i64 n247] [.str s46, .int .i64 n47]) then (PCalls ax 57 [.sl 1 l231, .sl 1 l28] fun r250 => ∃ (b249 : Bool), r250 = [.bool b249] ∧ (bif b249 then
 (K [.bool false])
 else
 (I203 [(.int .i64 (IntKind.i64.wrap (n205 + 1)))] ∧ μ204 [(.int .i64 (IntKind.i64.wrap (n205 + 1)))] < μ204 [.int .i64 n205]))) else (I203 [(.int .i64 (IntKind.i64.wrap (n205 + 1)))] ∧ μ204 [(.int .i64 (IntKind.i64.wrap (n205 + 1)))] < μ204 [.int .i64 n205]))) else (I203 [(.int .i64 (IntKind.i64.wrap (n205 + 1)))] ∧ μ204 [(.int .i64 (IntKind.i64.wrap (n205 + 1)))] < μ204 [.int .i64 n205])) else (I203 [(.int .i64 (IntKind.i64.wrap (n205 + 1)))] ∧ μ204 [(.int .i64 (IntKind.i64.wrap (n205 + 1)))] < μ204 [.int .i64 n205]))))
 else
 (K [.bool true]))))))))
 else
 (bif (n23 == (4 : Int)) then
 (PCalls ax 55 [.agg [.str s46, .int .i64 n47]] fun r258 => ∃ (b257 : Bool), r258 = [.bool b257] ∧ (bif b257 then (K [.bool false]) else (PCalls ax 56 [.sl 20 l1, .int .i64 2, .agg [.str s46, .int .i64 n47]] fun r260 => ∃ (n259 : Int), r260 = [.int .i64 n259] ∧ (bif (n259 == (0 : Int)) then (K [.bool false]) else (PCalls ax 58 [.sl 20 l1, .agg [.int .i64 n31, .int .i64 n32, .str s33, .int .i64 n34, .sl 4 l35, .int .i64 n36, .str s37, .int .i64 n38, .sl 4 l39, .str s40, .sl 4 l41, .sl 12 l42]] fun r262 => ∃ (b261 : Bool), r262 = [.bool b261] ∧ (bif (!b261) then
 (K [.bool false])
 else
 (∃ (I270 : List V → Prop) (μ271 : List V → Nat), I270 [.int .i64 0] ∧ (∀ (n272 : Int), I270 [.int .i64 n272] →
 (bif (decide (n272 < (List.length l30 : Int))) then
 (0 ≤ n272 ∧ n272 < (List.length l30 : Int) ∧ (∃ (n273 : Int) (s274 : ByteArray) (n275 : Int) (l276 : List (List V)), List.take 4 (Av.rowAt l30 (n272 : Int).toNat) = [.int .i64 n273, .str s274, .int .i64 n275, .sl 4 l276] ∧ (PCalls ax 59 [.sl 20 l1, .agg [.int .i64 n273, .str s274, .int .i64 n275, .sl 4 l276]] fun r278 => ∃ (b277 : Bool), r278 = [.bool b277] ∧ (bif (!b277) then
 (K [.bool false])
 else
 (I270 [(.int .i64 (IntKind.i64.wrap (n272 + 1)))] ∧ μ271 [(.int .i64 (IntKind.i64.wrap (n272 + 1)))] < μ271 [.int .i64 n272])))))
 else
 (K [.bool true]))))))))))
 else
 (K [.bool true]))))))))
theorem well.eq (l1 : List (List V)) (n2 : Int) (K : List V → Prop) : well.W l1 n2 K = afn ax well.ah Tryd.f32 [.sl 20 l1, .int .i64 n2] [] (onlyV K) := by kernel_rfl
theorem well.ok : codeOk tys (hintsOf well.ah) Tryd.f32.ntmps (Tryd.f32.body.getD .skip) = true := by kernel_rfl
theorem well.calls {l1 n2 K} (h : well.W l1 n2 K) : PCalls ax 32 [.sl 20 l1, .int .i64 n2] K :=
  afn_run (ah := well.ah) tysOk fnsOk follows eqOk Tryd.func32 (by kernel_rfl) well.ok (by kernel_rfl) (Eq.mp (well.eq l1 n2 K) h)
/-! ### keyOf: function 33, augur/augurref04.keyOf -/
def keyOf.ah : AH := ⟨[], [], [], [], [], [some [.str, .int .i64]], [], [], []⟩
def keyOf.W (n1 : Int) (s2 : ByteArray) (_l3 : List (List V)) (_l4 : List (List V)) (l5 : List (List V)) (l6 : List (List V)) (_n7 : Int) (l8 : List (List V)) (_n9 : Int) (_n10 : Int) (_s11 : ByteArray) (_n12 : Int) (_l13 : List (List V)) (_n14 : Int) (_s15 : ByteArray) (_n16 : Int) (_l17 : List (List V)) (_s18 : ByteArray) (_l19 : List (List V)) (_l20 : List (List V)) (K : List V → Prop) : Prop :=
 (bif (n1 == (2 : Int)) then
 (K [(.agg [.str s2, (.int .i64 (List.length l5 : Int))])])
 else
 (bif (n1 == (3 : Int)) then
 (K [(.agg [.str s2, (.int .i64 (List.length l6 : Int))])])
 else
 (K [(.agg [.str s2, (.int .i64 (List.length l8 : Int))])])))
theorem keyOf.eq (n1 : Int) (s2 : ByteArray) (l3 : List (List V)) (l4 : List (List V)) (l5 : List (List V)) (l6 : List (List V)) (n7 : Int) (l8 : List (List V)) (n9 : Int) (n10 : Int) (s11 : ByteArray) (n12 : Int) (l13 : List (List V)) (n14 : Int) (s15 : ByteArray) (n16 : Int) (l17 : List (List V)) (s18 : ByteArray) (l19 : List (List V)) (l20 : List (List V)) (K : List V → Prop) : keyOf.W n1 s2 l3 l4 l5 l6 n7 l8 n9 n10 s11 n12 l13 n14 s15 n16 l17 s18 l19 l20 K = afn ax keyOf.ah Tryd.f33 [.agg [.int .i64 n1, .str s2, .sl 1 l3, .sl 2 l4, .sl 3 l5, .sl 1 l6, .int .i64 n7, .sl 4 l8, .int .i64 n9, .int .i64 n10, .str s11, .int .i64 n12, .sl 4 l13, .int .i64 n14, .str s15, .int .i64 n16, .sl 4 l17, .str s18, .sl 4 l19, .sl 12 l20]] [] (onlyV K) := by kernel_rfl
theorem keyOf.ok : codeOk tys (hintsOf keyOf.ah) Tryd.f33.ntmps (Tryd.f33.body.getD .skip) = true := by kernel_rfl
theorem keyOf.calls {n1 s2 l3 l4 l5 l6 n7 l8 n9 n10 s11 n12 l13 n14 s15 n16 l17 s18 l19 l20 K} (h : keyOf.W n1 s2 l3 l4 l5 l6 n7 l8 n9 n10 s11 n12 l13 n14 s15 n16 l17 s18 l19 l20 K) : PCalls ax 33 [.agg [.int .i64 n1, .str s2, .sl 1 l3, .sl 2 l4, .sl 3 l5, .sl 1 l6, .int .i64 n7, .sl 4 l8, .int .i64 n9, .int .i64 n10, .str s11, .int .i64 n12, .sl 4 l13, .int .i64 n14, .str s15, .int .i64 n16, .sl 4 l17, .str s18, .sl 4 l19, .sl 12 l20]] K :=
  afn_run (ah := keyOf.ah) tysOk fnsOk follows eqOk Tryd.func33 (by kernel_rfl) keyOf.ok (by kernel_rfl) (Eq.mp (keyOf.eq n1 s2 l3 l4 l5 l6 n7 l8 n9 n10 s11 n12 l13 n14 s15 n16 l17 s18 l19 l20 K) h)
/-! ### types: function 51, augur/augurref04.types -/
def types.ah : AH := ⟨[], [(3, ⟨[(8, [.d (.int .i64)], false), (9, [.d (.int .i64)], false), (14, [.d (.int .i64)], false)], [], [], []⟩)], [], [], [], [some [.int .i64], some [.int .i64]], [], [], []⟩
def types.W (l1 : List (List V)) (s2 : ByteArray) (n3 : Int) (K : List V → Prop) : Prop :=
 (∃ (I47 : List V → Prop) (μ48 : List V → Nat), I47 [.int .i64 0, .int .i64 0, .int .i64 0] ∧ (∀ (n49 : Int) (n50 : Int) (n51 : Int), I47 [.int .i64 n49, .int .i64 n50, .int .i64 n51] →
 (bif (decide (n51 < (List.length l1 : Int))) then
 (0 ≤ n51 ∧ n51 < (List.length l1 : Int) ∧ (∃ (n72 : Int) (s73 : ByteArray) (l74 : List (List V)) (l75 : List (List V)) (l76 : List (List V)) (l77 : List (List V)) (n78 : Int) (l79 : List (List V)) (n80 : Int) (n81 : Int) (s82 : ByteArray) (n83 : Int) (l84 : List (List V)) (n85 : Int) (s86 : ByteArray) (n87 : Int) (l88 : List (List V)) (s89 : ByteArray) (l90 : List (List V)) (l91 : List (List V)), List.take 20 (Av.rowAt l1 (n51 : Int).toNat) = [.int .i64 n72, .str s73, .sl 1 l74, .sl 2 l75, .sl 3 l76, .sl 1 l77, .int .i64 n78, .sl 4 l79, .int .i64 n80, .int .i64 n81, .str s82, .int .i64 n83, .sl 4 l84, .int .i64 n85, .str s86, .int .i64 n87, .sl 4 l88, .str s89, .sl 4 l90, .sl 12 l91] ∧ (bif (n72 == (1 : Int)) then (bif (strEq s73 s2) then
 (bif ((List.length l74 : Int) == n3) then
 (I47 [(.int .i64 (IntKind.i64.wrap (n49 + 1))), (.int .i64 (IntKind.i64.wrap (n50 + 1))), (.int .i64 (IntKind.i64.wrap (n51 + 1)))] ∧ μ48 [(.int .i64 (IntKind.i64.wrap (n49 + 1))), (.int .i64 (IntKind.i64.wrap (n50 + 1))), (.int .i64 (IntKind.i64.wrap (n51 + 1)))] < μ48 [.int .i64 n49, .int .i64 n50, .int .i64 n51])
 else
 (I47 [.int .i64 n49, (.int .i64 (IntKind.i64.wrap (n50 + 1))), (.int .i64 (IntKind.i64.wrap (n51 + 1)))] ∧ μ48 [.int .i64 n49, (.int .i64 (IntKind.i64.wrap (n50 + 1))), (.int .i64 (IntKind.i64.wrap (n51 + 1)))] < μ48 [.int .i64 n49, .int .i64 n50, .int .i64 n51]))
 else
 (I47 [.int .i64 n49, .int .i64 n50, (.int .i64 (IntKind.i64.wrap (n51 + 1)))] ∧ μ48 [.int .i64 n49, .int .i64 n50, (.int .i64 (IntKind.i64.wrap (n51 + 1)))] < μ48 [.int .i64 n49, .int .i64 n50, .int .i64 n51])) else (I47 [.int .i64 n49, .int .i64 n50, (.int .i64 (IntKind.i64.wrap (n51 + 1)))] ∧ μ48 [.int .i64 n49, .int .i64 n50, (.int .i64 (IntKind.i64.wrap (n51 + 1)))] < μ48 [.int .i64 n49, .int .i64 n50, .int .i64 n51]))))
 else
 (K [.int .i64 n49, .int .i64 n50]))))
theorem types.eq (l1 : List (List V)) (s2 : ByteArray) (n3 : Int) (K : List V → Prop) : types.W l1 s2 n3 K = afn ax types.ah Tryd.f51 [.sl 20 l1, .str s2, .int .i64 n3] [] (onlyV K) := by kernel_rfl
theorem types.ok : codeOk tys (hintsOf types.ah) Tryd.f51.ntmps (Tryd.f51.body.getD .skip) = true := by kernel_rfl
theorem types.calls {l1 s2 n3 K} (h : types.W l1 s2 n3 K) : PCalls ax 51 [.sl 20 l1, .str s2, .int .i64 n3] K :=
  afn_run (ah := types.ah) tysOk fnsOk follows eqOk Tryd.func51 (by kernel_rfl) types.ok (by kernel_rfl) (Eq.mp (types.eq l1 s2 n3 K) h)
/-! ### isin: function 52, augur/augurref04.in -/
def isin.ah : AH := ⟨[], [(2, ⟨[(9, [.d (.int .i64)], false)], [], [], []⟩)], [], [], [], [some [.bool]], [], [], []⟩
def isin.W (l1 : List (List V)) (s2 : ByteArray) (K : List V → Prop) : Prop :=
 (∃ (I5 : List V → Prop) (μ6 : List V → Nat), I5 [.int .i64 0] ∧ (∀ (n7 : Int), I5 [.int .i64 n7] →
 (bif (decide (n7 < (List.length l1 : Int))) then
 (0 ≤ n7 ∧ n7 < (List.length l1 : Int) ∧ (∃ (s8 : ByteArray), List.take 1 (Av.rowAt l1 (n7 : Int).toNat) = [.str s8] ∧ (bif (strEq s8 s2) then
 (K [.bool true])
 else
 (I5 [(.int .i64 (IntKind.i64.wrap (n7 + 1)))] ∧ μ6 [(.int .i64 (IntKind.i64.wrap (n7 + 1)))] < μ6 [.int .i64 n7]))))
 else
 (K [.bool false]))))
theorem isin.eq (l1 : List (List V)) (s2 : ByteArray) (K : List V → Prop) : isin.W l1 s2 K = afn ax isin.ah Tryd.f52 [.sl 1 l1, .str s2] [] (onlyV K) := by kernel_rfl
theorem isin.ok : codeOk tys (hintsOf isin.ah) Tryd.f52.ntmps (Tryd.f52.body.getD .skip) = true := by kernel_rfl
theorem isin.calls {l1 s2 K} (h : isin.W l1 s2 K) : PCalls ax 52 [.sl 1 l1, .str s2] K :=
  afn_run (ah := isin.ah) tysOk fnsOk follows eqOk Tryd.func52 (by kernel_rfl) isin.ok (by kernel_rfl) (Eq.mp (isin.eq l1 s2 K) h)
/-! ### ctors: function 53, augur/augurref04.ctors -/
def ctors.ah : AH := ⟨[], [(3, ⟨[(5, [.d (.int .i64)], false), (12, [.d (.int .i64)], false)], [], [], []⟩), (7, ⟨[(5, [.d (.int .i64)], false), (22, [.d (.int .i64)], false)], [], [], []⟩)], [], [], [], [some [.int .i64]], [], [], []⟩
def ctors.W (l1 : List (List V)) (s2 : ByteArray) (n3 : Int) (K : List V → Prop) : Prop :=
 (∃ (I60 : List V → Prop) (μ61 : List V → Nat), I60 [.int .i64 0, .int .i64 0] ∧ (∀ (n62 : Int) (n63 : Int), I60 [.int .i64 n62, .int .i64 n63] →
 (bif (decide (n63 < (List.length l1 : Int))) then
 (0 ≤ n63 ∧ n63 < (List.length l1 : Int) ∧ (∃ (n84 : Int) (s85 : ByteArray) (l86 : List (List V)) (l87 : List (List V)) (l88 : List (List V)) (l89 : List (List V)) (n90 : Int) (l91 : List (List V)) (n92 : Int) (n93 : Int) (s94 : ByteArray) (n95 : Int) (l96 : List (List V)) (n97 : Int) (s98 : ByteArray) (n99 : Int) (l100 : List (List V)) (s101 : ByteArray) (l102 : List (List V)) (l103 : List (List V)), List.take 20 (Av.rowAt l1 (n63 : Int).toNat) = [.int .i64 n84, .str s85, .sl 1 l86, .sl 2 l87, .sl 3 l88, .sl 1 l89, .int .i64 n90, .sl 4 l91, .int .i64 n92, .int .i64 n93, .str s94, .int .i64 n95, .sl 4 l96, .int .i64 n97, .str s98, .int .i64 n99, .sl 4 l100, .str s101, .sl 4 l102, .sl 12 l103] ∧ (bif (n84 != (1 : Int)) then
 (I60 [.int .i64 n62, (.int .i64 (IntKind.i64.wrap (n63 + 1)))] ∧ μ61 [.int .i64 n62, (.int .i64 (IntKind.i64.wrap (n63 + 1)))] < μ61 [.int .i64 n62, .int .i64 n63])
 else
 (∃ (I110 : List V → Prop) (μ111 : List V → Nat), I110 [.int .i64 n62, .int .i64 0] ∧ (∀ (n112 : Int) (n113 : Int), I110 [.int .i64 n112, .int .i64 n113] →
 (bif (decide (n113 < (List.length l87 : Int))) then
 (0 ≤ n113 ∧ n113 < (List.length l87 : Int) ∧ (∃ (s116 : ByteArray) (l117 : List (List V)), List.take 2 (Av.rowAt l87 (n113 : Int).toNat) = [.str s116, .sl 3 l117] ∧ (bif (strEq s116 s2) then (bif ((List.length l117 : Int) == n3) then
 (I110 [(.int .i64 (IntKind.i64.wrap (n112 + 1))), (.int .i64 (IntKind.i64.wrap (n113 + 1)))] ∧ μ111 [(.int .i64 (IntKind.i64.wrap (n112 + 1))), (.int .i64 (IntKind.i64.wrap (n113 + 1)))] < μ111 [.int .i64 n112, .int .i64 n113])
 else
 (I110 [.int .i64 n112, (.int .i64 (IntKind.i64.wrap (n113 + 1)))] ∧ μ111 [.int .i64 n112, (.int .i64 (IntKind.i64.wrap (n113 + 1)))] < μ111 [.int .i64 n112, .int .i64 n113])) else (I110 [.int .i64 n112, (.int .i64 (IntKind.i64.wrap (n113 + 1)))] ∧ μ111 [.int .i64 n112, (.int .i64 (IntKind.i64.wrap (n113 + 1)))] < μ111 [.int .i64 n112, .int .i64 n113]))))
 else
 (I60 [.int .i64 n112, (.int .i64 (IntKind.i64.wrap (n63 + 1)))] ∧ μ61 [.int .i64 n112, (.int .i64 (IntKind.i64.wrap (n63 + 1)))] < μ61 [.int .i64 n62, .int .i64 n63])))))))
 else
 (K [.int .i64 n62]))))
theorem ctors.eq (l1 : List (List V)) (s2 : ByteArray) (n3 : Int) (K : List V → Prop) : ctors.W l1 s2 n3 K = afn ax ctors.ah Tryd.f53 [.sl 20 l1, .agg [.str s2, .int .i64 n3]] [] (onlyV K) := by kernel_rfl
theorem ctors.ok : codeOk tys (hintsOf ctors.ah) Tryd.f53.ntmps (Tryd.f53.body.getD .skip) = true := by kernel_rfl
theorem ctors.calls {l1 s2 n3 K} (h : ctors.W l1 s2 n3 K) : PCalls ax 53 [.sl 20 l1, .agg [.str s2, .int .i64 n3]] K :=
  afn_run (ah := ctors.ah) tysOk fnsOk follows eqOk Tryd.func53 (by kernel_rfl) ctors.ok (by kernel_rfl) (Eq.mp (ctors.eq l1 s2 n3 K) h)
/-! ### typ: function 54, augur/augurref04.typ -/
def typ.ah : AH := ⟨[], [(6, ⟨[(11, [.d (.bool)], false), (50, [.d (.int .i64)], false)], [], [], []⟩)], [(5, ⟨[(11, [.d (.bool)], false)], [], [], []⟩)], [(51, ⟨[some [.sl 20], some [.str], some [.int .i64]], [.c (.int .i64), .c (.int .i64)], []⟩), (52, ⟨[some [.sl 1], some [.str]], [.c (.bool)], []⟩), (54, ⟨[some [.sl 20], some [.bool, .str, .sl 3], some [.bool], some [.sl 1]], [.c (.bool)], []⟩)], [], [some [.bool]], [], [], []⟩
def typ.W (l1 : List (List V)) (b2 : Bool) (s3 : ByteArray) (l4 : List (List V)) (b5 : Bool) (l6 : List (List V)) (K : List V → Prop) : Prop :=
 (bif b2 then
 (bif (!b5) then (K [.bool true]) else (PCalls ax 52 [.sl 1 l6, .str s3] fun r10 => ∃ (b9 : Bool), r10 = [.bool b9] ∧ (K [.bool b9])))
 else
 (PCalls ax 51 [.sl 20 l1, .str s3, (.int .i64 (List.length l4 : Int))] fun r16 => ∃ (n14 : Int) (n15 : Int), r16 = [.int .i64 n14, .int .i64 n15] ∧ (∃ J17 : List V → Prop, (bif (decide (n14 > (0 : Int))) then (J17 [.bool true]) else (bif (strEq s3 (⟨#[105, 110, 116]⟩ : ByteArray)) then (J17 [(.bool ((List.length l4 : Int) == (0 : Int)))]) else (J17 [.bool false]))) ∧
 (∀ (b18 : Bool), J17 [.bool b18] →
 (∃ (I26 : List V → Prop) (μ27 : List V → Nat), I26 [.bool b18, .int .i64 0] ∧ (∀ (b28 : Bool) (n29 : Int), I26 [.bool b28, .int .i64 n29] →
 (bif (decide (n29 < (List.length l4 : Int))) then
 (0 ≤ n29 ∧ n29 < (List.length l4 : Int) ∧ (∃ (b30 : Bool) (s31 : ByteArray) (l32 : List (List V)), List.take 3 (Av.rowAt l4 (n29 : Int).toNat) = [.bool b30, .str s31, .sl 3 l32] ∧ (bif b28 then (PCalls ax 54 [.sl 20 l1, .agg [.bool b30, .str s31, .sl 3 l32], .bool b5, .sl 1 l6] fun r34 => ∃ (b33 : Bool), r34 = [.bool b33] ∧ (I26 [.bool b33, (.int .i64 (IntKind.i64.wrap (n29 + 1)))] ∧ μ27 [.bool b33, (.int .i64 (IntKind.i64.wrap (n29 + 1)))] < μ27 [.bool b28, .int .i64 n29])) else (I26 [.bool false, (.int .i64 (IntKind.i64.wrap (n29 + 1)))] ∧ μ27 [.bool false, (.int .i64 (IntKind.i64.wrap (n29 + 1)))] < μ27 [.bool b28, .int .i64 n29]))))
 else
 (K [.bool b28]))))))))
theorem typ.eq (l1 : List (List V)) (b2 : Bool) (s3 : ByteArray) (l4 : List (List V)) (b5 : Bool) (l6 : List (List V)) (K : List V → Prop) : typ.W l1 b2 s3 l4 b5 l6 K = afn ax typ.ah Tryd.f54 [.sl 20 l1, .agg [.bool b2, .str s3, .sl 3 l4], .bool b5, .sl 1 l6] [] (onlyV K) := by kernel_rfl
theorem typ.ok : codeOk tys (hintsOf typ.ah) Tryd.f54.ntmps (Tryd.f54.body.getD .skip) = true := by kernel_rfl
theorem typ.calls {l1 b2 s3 l4 b5 l6 K} (h : typ.W l1 b2 s3 l4 b5 l6 K) : PCalls ax 54 [.sl 20 l1, .agg [.bool b2, .str s3, .sl 3 l4], .bool b5, .sl 1 l6] K :=
  afn_run (ah := typ.ah) tysOk fnsOk follows eqOk Tryd.func54 (by kernel_rfl) typ.ok (by kernel_rfl) (Eq.mp (typ.eq l1 b2 s3 l4 b5 l6 K) h)
/-! ### Builtin: function 55, augur/augurref04.Builtin -/
def Builtin.ah : AH := ⟨[], [(2, ⟨[(7, [.d (.int .i64)], false)], [], [], []⟩)], [], [(31, ⟨[], [.lit (.own 0)], [.lst 96 5 false]⟩)], [], [some [.bool]], [], [], []⟩
def Builtin.W (s1 : ByteArray) (n2 : Int) (K : List V → Prop) : Prop :=
 (SCalls ax 31 [] [] fun r3 o5 => ∃ (l4 : List (List V)), r3 = [.own 0] ∧ o5 = [.lst 96 5 false l4] ∧ (∃ (I12 : List V → Prop) (μ13 : List V → Nat), I12 [.int .i64 0] ∧ (∀ (n14 : Int), I12 [.int .i64 n14] →
 (bif (decide (n14 < (List.length l4 : Int))) then
 (0 ≤ n14 ∧ n14 < (List.length l4 : Int) ∧ (∃ (s15 : ByteArray) (n16 : Int) (l17 : List (List V)) (l18 : List (List V)) (l19 : List (List V)), List.take 5 (Av.rowAt l4 ((n14 : Int).toNat)) = [.str s15, .int .i64 n16, .sl 3 l17, .sl 2 l18, .sl 1 l19] ∧ (bif (eqL [.str s15, .int .i64 n16] [.str s1, .int .i64 n2]) then
 (K [.bool true])
 else
 (I12 [(.int .i64 (IntKind.i64.wrap (n14 + 1)))] ∧ μ13 [(.int .i64 (IntKind.i64.wrap (n14 + 1)))] < μ13 [.int .i64 n14]))))
 else
 (K [.bool false])))))
theorem Builtin.eq (s1 : ByteArray) (n2 : Int) (K : List V → Prop) : Builtin.W s1 n2 K = afn ax Builtin.ah Tryd.f55 [.agg [.str s1, .int .i64 n2]] [] (onlyV K) := by kernel_rfl
theorem Builtin.ok : codeOk tys (hintsOf Builtin.ah) Tryd.f55.ntmps (Tryd.f55.body.getD .skip) = true := by kernel_rfl
theorem Builtin.calls {s1 n2 K} (h : Builtin.W s1 n2 K) : PCalls ax 55 [.agg [.str s1, .int .i64 n2]] K :=
  afn_run (ah := Builtin.ah) tysOk fnsOk follows eqOk Tryd.func55 (by kernel_rfl) Builtin.ok (by kernel_rfl) (Eq.mp (Builtin.eq s1 n2 K) h)
/-! ### count: function 56, augur/augurref04.count -/
def count.ah : AH := ⟨[(5, seqO [0, 1, 2, 3, 4, 5, 7, 6, 8, 9])], [(3, ⟨[(7, [.d (.int .i64)], false), (12, [.d (.int .i64)], false)], [], [], []⟩)], [], [(33, ⟨[some [.int .i64, .str, .sl 1, .sl 2, .sl 3, .sl 1, .int .i64, .sl 4, .int .i64, .int .i64, .str, .int .i64, .sl 4, .int .i64, .str, .int .i64, .sl 4, .str, .sl 4, .sl 12]], [.ag [.str, .int .i64]], []⟩)], [], [some [.int .i64]], [], [], []⟩
def count.W (l1 : List (List V)) (n2 : Int) (s3 : ByteArray) (n4 : Int) (K : List V → Prop) : Prop :=
 (∃ (I30 : List V → Prop) (μ31 : List V → Nat), I30 [.int .i64 0, .int .i64 0] ∧ (∀ (n32 : Int) (n33 : Int), I30 [.int .i64 n32, .int .i64 n33] →
 (bif (decide (n33 < (List.length l1 : Int))) then
 (0 ≤ n33 ∧ n33 < (List.length l1 : Int) ∧ (∃ (n34 : Int) (s35 : ByteArray) (l36 : List (List V)) (l37 : List (List V)) (l38 : List (List V)) (l39 : List (List V)) (n40 : Int) (l41 : List (List V)) (n42 : Int) (n43 : Int) (s44 : ByteArray) (n45 : Int) (l46 : List (List V)) (n47 : Int) (s48 : ByteArray) (n49 : Int) (l50 : List (List V)) (s51 : ByteArray) (l52 : List (List V)) (l53 : List (List V)), List.take 20 (Av.rowAt l1 (n33 : Int).toNat) = [.int .i64 n34, .str s35, .sl 1 l36, .sl 2 l37, .sl 3 l38, .sl 1 l39, .int .i64 n40, .sl 4 l41, .int .i64 n42, .int .i64 n43, .str s44, .int .i64 n45, .sl 4 l46, .int .i64 n47, .str s48, .int .i64 n49, .sl 4 l50, .str s51, .sl 4 l52, .sl 12 l53] ∧ (bif (n34 == n2) then (PCalls ax 33 [.agg [.int .i64 n34, .str s35, .sl 1 l36, .sl 2 l37, .sl 3 l38, .sl 1 l39, .int .i64 n40, .sl 4 l41, .int .i64 n42, .int .i64 n43, .str s44, .int .i64 n45, .sl 4 l46, .int .i64 n47, .str s48, .int .i64 n49, .sl 4 l50, .str s51, .sl 4 l52, .sl 12 l53]] fun r56 => ∃ (s54 : ByteArray) (n55 : Int), r56 = [.agg [.str s54, .int .i64 n55]] ∧ (bif (eqL [.str s54, .int .i64 n55] [.str s3, .int .i64 n4]) then
 (I30 [(.int .i64 (IntKind.i64.wrap (n32 + 1))), (.int .i64 (IntKind.i64.wrap (n33 + 1)))] ∧ μ31 [(.int .i64 (IntKind.i64.wrap (n32 + 1))), (.int .i64 (IntKind.i64.wrap (n33 + 1)))] < μ31 [.int .i64 n32, .int .i64 n33])
 else
 (I30 [.int .i64 n32, (.int .i64 (IntKind.i64.wrap (n33 + 1)))] ∧ μ31 [.int .i64 n32, (.int .i64 (IntKind.i64.wrap (n33 + 1)))] < μ31 [.int .i64 n32, .int .i64 n33]))) else (I30 [.int .i64 n32, (.int .i64 (IntKind.i64.wrap (n33 + 1)))] ∧ μ31 [.int .i64 n32, (.int .i64 (IntKind.i64.wrap (n33 + 1)))] < μ31 [.int .i64 n32, .int .i64 n33]))))
 else
 (K [.int .i64 n32]))))
theorem count.eq (l1 : List (List V)) (n2 : Int) (s3 : ByteArray) (n4 : Int) (K : List V → Prop) : count.W l1 n2 s3 n4 K = afn ax count.ah Tryd.f56 [.sl 20 l1, .int .i64 n2, .agg [.str s3, .int .i64 n4]] [] (onlyV K) := by kernel_rfl
theorem count.ok : codeOk tys (hintsOf count.ah) Tryd.f56.ntmps (Tryd.f56.body.getD .skip) = true := by kernel_rfl
theorem count.calls {l1 n2 s3 n4 K} (h : count.W l1 n2 s3 n4 K) : PCalls ax 56 [.sl 20 l1, .int .i64 n2, .agg [.str s3, .int .i64 n4]] K :=
  afn_run (ah := count.ah) tysOk fnsOk follows eqOk Tryd.func56 (by kernel_rfl) count.ok (by kernel_rfl) (Eq.mp (count.eq l1 n2 s3 n4 K) h)
/-! ### SameWays: function 57, augur/augurref04.SameWays -/
def SameWays.ah : AH := ⟨[(6, seqO [0, 1, 2, 3, 4, 5, 6, 7, 8])], [(4, ⟨[(13, [.d (.int .i64)], false)], [], [], []⟩)], [], [], [], [some [.bool]], [], [], []⟩
def SameWays.W (l1 : List (List V)) (l2 : List (List V)) (K : List V → Prop) : Prop :=
 (bif ((List.length l1 : Int) != (List.length l2 : Int)) then
 (K [.bool false])
 else
 (∃ (I6 : List V → Prop) (μ7 : List V → Nat), I6 [.int .i64 0] ∧ (∀ (n8 : Int), I6 [.int .i64 n8] →
 (bif (decide (n8 < (List.length l1 : Int))) then
 (0 ≤ n8 ∧ n8 < (List.length l1 : Int) ∧ (∃ (b9 : Bool), List.take 1 (Av.rowAt l1 (n8 : Int).toNat) = [.bool b9] ∧ (0 ≤ n8 ∧ n8 < (List.length l2 : Int) ∧ (∃ (b10 : Bool), List.take 1 (Av.rowAt l2 (n8 : Int).toNat) = [.bool b10] ∧ (bif (!(b9 == b10)) then
 (K [.bool false])
 else
 (I6 [(.int .i64 (IntKind.i64.wrap (n8 + 1)))] ∧ μ7 [(.int .i64 (IntKind.i64.wrap (n8 + 1)))] < μ7 [.int .i64 n8]))))))
 else
 (K [.bool true])))))
theorem SameWays.eq (l1 : List (List V)) (l2 : List (List V)) (K : List V → Prop) : SameWays.W l1 l2 K = afn ax SameWays.ah Tryd.f57 [.sl 1 l1, .sl 1 l2] [] (onlyV K) := by kernel_rfl
theorem SameWays.ok : codeOk tys (hintsOf SameWays.ah) Tryd.f57.ntmps (Tryd.f57.body.getD .skip) = true := by kernel_rfl
theorem SameWays.calls {l1 l2 K} (h : SameWays.W l1 l2 K) : PCalls ax 57 [.sl 1 l1, .sl 1 l2] K :=
  afn_run (ah := SameWays.ah) tysOk fnsOk follows eqOk Tryd.func57 (by kernel_rfl) SameWays.ok (by kernel_rfl) (Eq.mp (SameWays.eq l1 l2 K) h)
/-! ### tgoal: function 58, augur/augurref04.goal -/
def tgoal.ah : AH := ⟨[], [(10, ⟨[(5, [.d (.bool)], false), (51, [.d (.int .i64)], false)], [], [], []⟩), (15, ⟨[(5, [.d (.bool)], false), (65, [.d (.int .i64)], false)], [], [], []⟩)], [(5, ⟨[(5, [.d (.bool)], false)], [], [], []⟩), (7, ⟨[(5, [.d (.bool)], false)], [], [], []⟩), (9, ⟨[(5, [.d (.bool)], false)], [], [], []⟩)], [(55, ⟨[some [.str, .int .i64]], [.c (.bool)], []⟩), (56, ⟨[some [.sl 20], some [.int .i64], some [.str, .int .i64]], [.c (.int .i64)], []⟩), (58, ⟨[some [.sl 20], some [.int .i64, .int .i64, .str, .int .i64, .sl 4, .int .i64, .str, .int .i64, .sl 4, .str, .sl 4, .sl 12]], [.c (.bool)], []⟩), (59, ⟨[some [.sl 20], some [.int .i64, .str, .int .i64, .sl 4]], [.c (.bool)], []⟩)], [], [some [.bool]], [], [], []⟩
def tgoal.W (l1 : List (List V)) (n2 : Int) (n3 : Int) (s4 : ByteArray) (n5 : Int) (l6 : List (List V)) (n7 : Int) (s8 : ByteArray) (n9 : Int) (l10 : List (List V)) (s11 : ByteArray) (l12 : List (List V)) (l13 : List (List V)) (K : List V → Prop) : Prop :=
 (∃ J18 : List V → Prop, (bif (n2 == (4 : Int)) then
 (PCalls ax 55 [(.agg [.str s11, (.int .i64 (List.length l12 : Int))])] fun r20 => ∃ (b19 : Bool), r20 = [.bool b19] ∧ (bif b19 then (J18 [.bool true]) else (PCalls ax 56 [.sl 20 l1, .int .i64 2, (.agg [.str s11, (.int .i64 (List.length l12 : Int))])] fun r22 => ∃ (n21 : Int), r22 = [.int .i64 n21] ∧ (J18 [(.bool (decide (n21 > (0 : Int))))]))))
 else
 (J18 [.bool true])) ∧
 (∀ (b23 : Bool), J18 [.bool b23] →
 (∃ J28 : List V → Prop, (bif (n2 == (3 : Int)) then
 (PCalls ax 59 [.sl 20 l1, .agg [.int .i64 n3, .str s4, .int .i64 n5, .sl 4 l6]] fun r30 => ∃ (b29 : Bool), r30 = [.bool b29] ∧ (bif b29 then (PCalls ax 59 [.sl 20 l1, .agg [.int .i64 n7, .str s8, .int .i64 n9, .sl 4 l10]] fun r32 => ∃ (b31 : Bool), r32 = [.bool b31] ∧ (J28 [.bool b31])) else (J28 [.bool false])))
 else
 (J28 [.bool b23])) ∧
 (∀ (b33 : Bool), J28 [.bool b33] →
 (∃ J36 : List V → Prop, (bif (n2 == (8 : Int)) then
 (PCalls ax 59 [.sl 20 l1, .agg [.int .i64 n3, .str s4, .int .i64 n5, .sl 4 l6]] fun r38 => ∃ (b37 : Bool), r38 = [.bool b37] ∧ (J36 [.bool b37]))
 else
 (J36 [.bool b33])) ∧
 (∀ (b39 : Bool), J36 [.bool b39] →
 (∃ (I66 : List V → Prop) (μ67 : List V → Nat), I66 [.bool b39, .int .i64 0] ∧ (∀ (b68 : Bool) (n69 : Int), I66 [.bool b68, .int .i64 n69] →
 (bif (decide (n69 < (List.length l12 : Int))) then
 (0 ≤ n69 ∧ n69 < (List.length l12 : Int) ∧ (∃ (n70 : Int) (s71 : ByteArray) (n72 : Int) (l73 : List (List V)), List.take 4 (Av.rowAt l12 (n69 : Int).toNat) = [.int .i64 n70, .str s71, .int .i64 n72, .sl 4 l73] ∧ (bif b68 then (PCalls ax 59 [.sl 20 l1, .agg [.int .i64 n70, .str s71, .int .i64 n72, .sl 4 l73]] fun r75 => ∃ (b74 : Bool), r75 = [.bool b74] ∧ (I66 [.bool b74, (.int .i64 (IntKind.i64.wrap (n69 + 1)))] ∧ μ67 [.bool b74, (.int .i64 (IntKind.i64.wrap (n69 + 1)))] < μ67 [.bool b68, .int .i64 n69])) else (I66 [.bool false, (.int .i64 (IntKind.i64.wrap (n69 + 1)))] ∧ μ67 [.bool false, (.int .i64 (IntKind.i64.wrap (n69 + 1)))] < μ67 [.bool b68, .int .i64 n69]))))
 else
 (∃ (I92 : List V → Prop) (μ93 : List V → Nat), I92 [.bool b68, .int .i64 0] ∧ (∀ (b94 : Bool) (n95 : Int), I92 [.bool b94, .int .i64 n95] →
 (bif (decide (n95 < (List.length l13 : Int))) then
 (0 ≤ n95 ∧ n95 < (List.length l13 : Int) ∧ (∃ (n96 : Int) (n97 : Int) (s98 : ByteArray) (n99 : Int) (l100 : List (List V)) (n101 : Int) (s102 : ByteArray) (n103 : Int) (l104 : List (List V)) (s105 : ByteArray) (l106 : List (List V)) (l107 : List (List V)), List.take 12 (Av.rowAt l13 (n95 : Int).toNat) = [.int .i64 n96, .int .i64 n97, .str s98, .int .i64 n99, .sl 4 l100, .int .i64 n101, .str s102, .int .i64 n103, .sl 4 l104, .str s105, .sl 4 l106, .sl 12 l107] ∧ (bif b94 then (PCalls ax 58 [.sl 20 l1, .agg [.int .i64 n96, .int .i64 n97, .str s98, .int .i64 n99, .sl 4 l100, .int .i64 n101, .str s102, .int .i64 n103, .sl 4 l104, .str s105, .sl 4 l106, .sl 12 l107]] fun r109 => ∃ (b108 : Bool), r109 = [.bool b108] ∧ (I92 [.bool b108, (.int .i64 (IntKind.i64.wrap (n95 + 1)))] ∧ μ93 [.bool b108, (.int .i64 (IntKind.i64.wrap (n95 + 1)))] < μ93 [.bool b94, .int .i64 n95])) else (I92 [.bool false, (.int .i64 (IntKind.i64.wrap (n95 + 1)))] ∧ μ93 [.bool false, (.int .i64 (IntKind.i64.wrap (n95 + 1)))] < μ93 [.bool b94, .int .i64 n95]))))
 else
 (K [.bool b94])))))))))))))
theorem tgoal.eq (l1 : List (List V)) (n2 : Int) (n3 : Int) (s4 : ByteArray) (n5 : Int) (l6 : List (List V)) (n7 : Int) (s8 : ByteArray) (n9 : Int) (l10 : List (List V)) (s11 : ByteArray) (l12 : List (List V)) (l13 : List (List V)) (K : List V → Prop) : tgoal.W l1 n2 n3 s4 n5 l6 n7 s8 n9 l10 s11 l12 l13 K = afn ax tgoal.ah Tryd.f58 [.sl 20 l1, .agg [.int .i64 n2, .int .i64 n3, .str s4, .int .i64 n5, .sl 4 l6, .int .i64 n7, .str s8, .int .i64 n9, .sl 4 l10, .str s11, .sl 4 l12, .sl 12 l13]] [] (onlyV K) := by kernel_rfl
theorem tgoal.ok : codeOk tys (hintsOf tgoal.ah) Tryd.f58.ntmps (Tryd.f58.body.getD .skip) = true := by kernel_rfl
theorem tgoal.calls {l1 n2 n3 s4 n5 l6 n7 s8 n9 l10 s11 l12 l13 K} (h : tgoal.W l1 n2 n3 s4 n5 l6 n7 s8 n9 l10 s11 l12 l13 K) : PCalls ax 58 [.sl 20 l1, .agg [.int .i64 n2, .int .i64 n3, .str s4, .int .i64 n5, .sl 4 l6, .int .i64 n7, .str s8, .int .i64 n9, .sl 4 l10, .str s11, .sl 4 l12, .sl 12 l13]] K :=
  afn_run (ah := tgoal.ah) tysOk fnsOk follows eqOk Tryd.func58 (by kernel_rfl) tgoal.ok (by kernel_rfl) (Eq.mp (tgoal.eq l1 n2 n3 s4 n5 l6 n7 s8 n9 l10 s11 l12 l13 K) h)
/-! ### tterm: function 59, augur/augurref04.term -/
def tterm.ah : AH := ⟨[], [(3, ⟨[(5, [.d (.bool)], false), (25, [.d (.int .i64)], false)], [], [], []⟩)], [(2, ⟨[(5, [.d (.bool)], false)], [], [], []⟩)], [(53, ⟨[some [.sl 20], some [.str, .int .i64]], [.c (.int .i64)], []⟩), (59, ⟨[some [.sl 20], some [.int .i64, .str, .int .i64, .sl 4]], [.c (.bool)], []⟩)], [], [some [.bool]], [], [], []⟩
def tterm.W (l1 : List (List V)) (n2 : Int) (s3 : ByteArray) (_n4 : Int) (l5 : List (List V)) (K : List V → Prop) : Prop :=
 (∃ J8 : List V → Prop, (bif (n2 != (3 : Int)) then (J8 [.bool true]) else (PCalls ax 53 [.sl 20 l1, (.agg [.str s3, (.int .i64 (List.length l5 : Int))])] fun r10 => ∃ (n9 : Int), r10 = [.int .i64 n9] ∧ (J8 [(.bool (decide (n9 > (0 : Int))))]))) ∧
 (∀ (b11 : Bool), J8 [.bool b11] →
 (∃ (I20 : List V → Prop) (μ21 : List V → Nat), I20 [.bool b11, .int .i64 0] ∧ (∀ (b22 : Bool) (n23 : Int), I20 [.bool b22, .int .i64 n23] →
 (bif (decide (n23 < (List.length l5 : Int))) then
 (0 ≤ n23 ∧ n23 < (List.length l5 : Int) ∧ (∃ (n24 : Int) (s25 : ByteArray) (n26 : Int) (l27 : List (List V)), List.take 4 (Av.rowAt l5 (n23 : Int).toNat) = [.int .i64 n24, .str s25, .int .i64 n26, .sl 4 l27] ∧ (bif b22 then (PCalls ax 59 [.sl 20 l1, .agg [.int .i64 n24, .str s25, .int .i64 n26, .sl 4 l27]] fun r29 => ∃ (b28 : Bool), r29 = [.bool b28] ∧ (I20 [.bool b28, (.int .i64 (IntKind.i64.wrap (n23 + 1)))] ∧ μ21 [.bool b28, (.int .i64 (IntKind.i64.wrap (n23 + 1)))] < μ21 [.bool b22, .int .i64 n23])) else (I20 [.bool false, (.int .i64 (IntKind.i64.wrap (n23 + 1)))] ∧ μ21 [.bool false, (.int .i64 (IntKind.i64.wrap (n23 + 1)))] < μ21 [.bool b22, .int .i64 n23]))))
 else
 (K [.bool b22]))))))
theorem tterm.eq (l1 : List (List V)) (n2 : Int) (s3 : ByteArray) (n4 : Int) (l5 : List (List V)) (K : List V → Prop) : tterm.W l1 n2 s3 n4 l5 K = afn ax tterm.ah Tryd.f59 [.sl 20 l1, .agg [.int .i64 n2, .str s3, .int .i64 n4, .sl 4 l5]] [] (onlyV K) := by kernel_rfl
theorem tterm.ok : codeOk tys (hintsOf tterm.ah) Tryd.f59.ntmps (Tryd.f59.body.getD .skip) = true := by kernel_rfl
theorem tterm.calls {l1 n2 s3 n4 l5 K} (h : tterm.W l1 n2 s3 n4 l5 K) : PCalls ax 59 [.sl 20 l1, .agg [.int .i64 n2, .str s3, .int .i64 n4, .sl 4 l5]] K :=
  afn_run (ah := tterm.ah) tysOk fnsOk follows eqOk Tryd.func59 (by kernel_rfl) tterm.ok (by kernel_rfl) (Eq.mp (tterm.eq l1 n2 s3 n4 l5 K) h)
/-! ### Named: function 5, augur/augurref05.Named -/
def Named.ah : AH := ⟨[(5, seqO [0, 1, 2, 3, 4, 5])], [], [], [(12, ⟨[some [.str]], [.c (.sl 20), .c (.int .i64)], []⟩), (13, ⟨[some [.sl 20]], [.ag [.sl 20, .sl 6, .sl 5], .c (.bool)], []⟩)], [], [some [.sl 20], some [.sl 20, .sl 6, .sl 5], some [.bool]], [], [], []⟩
def Named.W (s1 : ByteArray) (K : List V → Prop) : Prop :=
 (PCalls ax 12 [.str s1] fun r7 => ∃ (l5 : List (List V)) (n6 : Int), r7 = [.sl 20 l5, .int .i64 n6] ∧ (bif (n6 != (0 : Int)) then
 (K [.sl 20 [], .agg [.sl 20 [], .sl 6 [], .sl 5 []], .bool false])
 else
 (PCalls ax 13 [.sl 20 l5] fun r12 => ∃ (l8 : List (List V)) (l9 : List (List V)) (l10 : List (List V)) (b11 : Bool), r12 = [.agg [.sl 20 l8, .sl 6 l9, .sl 5 l10], .bool b11] ∧ (K [.sl 20 l5, .agg [.sl 20 l8, .sl 6 l9, .sl 5 l10], .bool b11]))))
theorem Named.eq (s1 : ByteArray) (K : List V → Prop) : Named.W s1 K = afn ax Named.ah Tryd.f5 [.str s1] [] (onlyV K) := by kernel_rfl
theorem Named.ok : codeOk tys (hintsOf Named.ah) Tryd.f5.ntmps (Tryd.f5.body.getD .skip) = true := by kernel_rfl
theorem Named.calls {s1 K} (h : Named.W s1 K) : PCalls ax 5 [.str s1] K :=
  afn_run (ah := Named.ah) tysOk fnsOk follows eqOk Tryd.func5 (by kernel_rfl) Named.ok (by kernel_rfl) (Eq.mp (Named.eq s1 K) h)
end Go.Proofs.YtahagnfdpemmaaaDoor.Va
end
