/- Forms of functions of this seat, as the second executor has them, each tied to the model by the kernel. -/
import Derived.Test.YtfenhbjamohdgaaDoorS3
import Derived.Test.YtfenhbjamohdgaaDoorProg
/- part H5F -/
section
namespace Go.Proofs.YtfenhbjamohdgaaDoor.Vr
open Go.Vx Go.Av
def tys : Tys := [(3, ⟨(.int .i64), 1, 8, [.int .i64 0], [.int .i64]⟩),
  (4, ⟨.bool, 1, 1, [.bool false], [.bool]⟩),
  (59, ⟨(.sl 103), 1, 24, [.slice none 0 0], [.sl]⟩),
  (61, ⟨(.agg [(0, 3), (1, 59)]), 2, 32, [.int .i64 0, .slice none 0 0], [.int .i64, .sl]⟩),
  (63, ⟨(.agg [(0, 3), (1, 3)]), 2, 16, [.int .i64 0, .int .i64 0], [.int .i64, .int .i64]⟩),
  (70, ⟨(.sl 63), 1, 24, [.slice none 0 0], [.sl]⟩),
  (103, ⟨(.agg [(0, 3), (1, 70), (2, 3), (3, 3), (4, 4)]), 5, 56, [.int .i64 0, .slice none 0 0, .int .i64 0, .int .i64 0, .bool false], [.int .i64, .sl, .int .i64, .int .i64, .bool]⟩),
  (105, ⟨(.sl 4), 1, 24, [.slice none 0 0], [.sl]⟩)]
theorem ty3 : Ty.Ok Tryd.prog 3 ⟨(.int .i64), 1, 8, [.int .i64 0], [.int .i64]⟩ := ⟨Tryd.underlying3, by kernel_rfl, by kernel_rfl, rfl⟩
theorem ty4 : Ty.Ok Tryd.prog 4 ⟨.bool, 1, 1, [.bool false], [.bool]⟩ := ⟨Tryd.underlying4, by kernel_rfl, by kernel_rfl, rfl⟩
theorem ty59 : Ty.Ok Tryd.prog 59 ⟨(.sl 103), 1, 24, [.slice none 0 0], [.sl]⟩ := ⟨Tryd.underlying59, by kernel_rfl, by kernel_rfl, rfl⟩
theorem ty61 : Ty.Ok Tryd.prog 61 ⟨(.agg [(0, 3), (1, 59)]), 2, 32, [.int .i64 0, .slice none 0 0], [.int .i64, .sl]⟩ := ⟨⟨_, Tryd.underlying61, rfl⟩, by kernel_rfl, by kernel_rfl, rfl⟩
theorem ty63 : Ty.Ok Tryd.prog 63 ⟨(.agg [(0, 3), (1, 3)]), 2, 16, [.int .i64 0, .int .i64 0], [.int .i64, .int .i64]⟩ := ⟨⟨_, Tryd.underlying63, rfl⟩, by kernel_rfl, by kernel_rfl, rfl⟩
theorem ty70 : Ty.Ok Tryd.prog 70 ⟨(.sl 63), 1, 24, [.slice none 0 0], [.sl]⟩ := ⟨Tryd.underlying70, by kernel_rfl, by kernel_rfl, rfl⟩
theorem ty103 : Ty.Ok Tryd.prog 103 ⟨(.agg [(0, 3), (1, 70), (2, 3), (3, 3), (4, 4)]), 5, 56, [.int .i64 0, .slice none 0 0, .int .i64 0, .int .i64 0, .bool false], [.int .i64, .sl, .int .i64, .int .i64, .bool]⟩ := ⟨⟨_, Tryd.underlying103, rfl⟩, by kernel_rfl, by kernel_rfl, rfl⟩
theorem ty105 : Ty.Ok Tryd.prog 105 ⟨(.sl 4), 1, 24, [.slice none 0 0], [.sl]⟩ := ⟨Tryd.underlying105, by kernel_rfl, by kernel_rfl, rfl⟩
theorem tysOk : AllOk Tryd.prog tys := ⟨ty3, ty4, ty59, ty61, ty63, ty70, ty103, ty105, trivial⟩
def fns : Fns := [(20, [3]), (34, [4]), (36, [105])]
theorem fnOk20 : ∃ fn, Tryd.prog.funcs[20]? = some fn ∧ (fn.name == "runtime.NumGoroutine") = false ∧ fn.body.isNone = false := ⟨_, Tryd.func20, by kernel_rfl, by kernel_rfl⟩
theorem fnOk34 : ∃ fn, Tryd.prog.funcs[34]? = some fn ∧ (fn.name == "runtime.NumGoroutine") = false ∧ fn.body.isNone = false := ⟨_, Tryd.func34, by kernel_rfl, by kernel_rfl⟩
theorem fnOk36 : ∃ fn, Tryd.prog.funcs[36]? = some fn ∧ (fn.name == "runtime.NumGoroutine") = false ∧ fn.body.isNone = false := ⟨_, Tryd.func36, by kernel_rfl, by kernel_rfl⟩
theorem fnsOk : FnsOk Tryd.prog fns := ⟨fnOk20, fnOk34, fnOk36, trivial⟩
theorem follows : Tryd.prog.follows .mixedOrders = true := by kernel_rfl
def ats : Ats := [(3, [.int .i64]), (4, [.bool]), (63, [.int .i64, .int .i64]), (70, [.sl 2]), (103, [.int .i64, .sl 2, .int .i64, .int .i64, .bool])]
noncomputable abbrev ax : Ax := ⟨Tryd.prog, tys, ats, fns, [], [63], [], [], [], none, []⟩
theorem zOk : ZOk ax := fun _ _ _ h => by cases h
theorem guard63 : Tryd.prog.eqGuardType Tryd.prog.depth 63 = false := by kernel_rfl
theorem held63 : Tryd.prog.stoodInHeld 63 = false := by kernel_rfl
theorem struct63 : Tryd.prog.underlying 63 = some (.struct (Tryd.prog.fieldsOf 63)) := by kernel_rfl
theorem eq63 (w : World) (a0 b0 : Int) (a1 b1 : Int) : (Op.equalIn 10000 63 (.agg #[(.int .i64 a0), (.int .i64 a1)]) (.agg #[(.int .i64 b0), (.int .i64 b1)])).run Tryd.prog w = .ok (a0 == b0 && (a1 == b1)) w := by
  rw [run_equalIn_agg w _ _ _ _ struct63 held63]
  obtain ⟨g0, g1, e, n0, t0, o0, n1, t1, o1⟩ : ∃ g0 g1, (Tryd.prog.fieldsOf 63).toList = [g0, g1] ∧ g0.name = "Struct" ∧ g0.type = 3 ∧ g0.offset = 0 ∧ g1.name = "N" ∧ g1.type = 3 ∧ g1.offset = 1 := by
    have hm : (Tryd.prog.fieldsOf 63).toList.map (fun f => (f.name, f.type, f.offset)) = [("Struct", 3, 0), ("N", 3, 1)] := by kernel_rfl
    obtain ⟨g0, r0, e0, hf0, hr0⟩ := List.map_eq_cons_iff.1 hm
    obtain ⟨g1, r1, e1, hf1, hr1⟩ := List.map_eq_cons_iff.1 hr0
    have e9 := List.map_eq_nil_iff.1 hr1
    subst e9 e1
    simp only [Prod.mk.injEq] at hf0 hf1
    exact ⟨g0, g1, e0, hf0.1, hf0.2.1, hf0.2.2, hf1.1, hf1.2.1, hf1.2.2⟩
  rw [e]
  have p0 : ∀ (cs : Array Value) (x : Int), cs[0]? = some (.int .i64 x) → (part 3 cs 0).run Tryd.prog w = .ok (.int .i64 x) w := fun cs x h => by simp [part, isAgg, run_underlying Tryd.underlying3, h]
  have p1 : ∀ (cs : Array Value) (x : Int), cs[1]? = some (.int .i64 x) → (part 3 cs 1).run Tryd.prog w = .ok (.int .i64 x) w := fun cs x h => by simp [part, isAgg, run_underlying Tryd.underlying3, h]
  simp only [Op.eqFields, n0, t0, o0, n1, t1, o1]
  simp only [if_pos (show ("Struct" : String) ≠ "_" by decide), Sem.run_bind, p0 #[(.int .i64 a0), (.int .i64 a1)] a0 rfl, p0 #[(.int .i64 b0), (.int .i64 b1)] b0 rfl, Result.andThen_ok, run_equalIn_int w 9998 3 .i64 .i64 _ _ Tryd.underlying3, Sem.run_ite]
  cases h0 : (a0 == b0)
  · simp
  simp only [Bool.not_true, Bool.false_eq_true, if_false, Bool.true_and]
  simp only [if_pos (show ("N" : String) ≠ "_" by decide), p1 #[(.int .i64 a0), (.int .i64 a1)] a1 rfl, p1 #[(.int .i64 b0), (.int .i64 b1)] b1 rfl, Result.andThen_ok, run_equalIn_int w 9998 3 .i64 .i64 _ _ Tryd.underlying3]
  cases h1 : (a1 == b1) <;> simp

theorem eqOk : EqOk ax := by
  refine ⟨zOk, ?_⟩
  intro t az hl hb op xo yo w gs G F us vs xs ys ho hu hv hx hy
  have ht : 63 = t := by simpa [hasB] using hb
  subst ht
  have has : az = [.int .i64, .int .i64] := (Option.some.inj ((show lookO ax.ats 63 = some [.int .i64, .int .i64] by rfl).symm.trans hl)).symm
  subst has
  have sh : ∀ us : List V, isA [.int .i64, .int .i64] us = true → ∃ x0 x1, us = [.int .i64 x0, .int .i64 x1] := fun us h => by
    obtain ⟨u0, r0, rfl, h0, k0⟩ := isA_cons h
    obtain ⟨x0, rfl⟩ := is_int h0
    obtain ⟨u1, r1, rfl, h1, k1⟩ := isA_cons k0
    obtain ⟨x1, rfl⟩ := is_int h1
    obtain rfl := isA_nil k1
    exact ⟨x0, x1, rfl⟩
  obtain ⟨a0, a1, rfl⟩ := sh us hu
  obtain ⟨b0, b1, rfl⟩ := sh vs hv
  obtain ⟨x0, xr0, rfl, xa0, xb0⟩ := Rl.cons_inv hx
  obtain ⟨x1, xr1, rfl, xa1, xb1⟩ := Rl.cons_inv xb0
  obtain rfl := xb1.nil_inv
  cases xa0
  cases xa1
  obtain ⟨y0, yr0, rfl, ya0, yb0⟩ := Rl.cons_inv hy
  obtain ⟨y1, yr1, rfl, ya1, yb1⟩ := Rl.cons_inv yb0
  obtain rfl := yb1.nil_inv
  cases ya0
  cases ya1
  unfold Runs semEq
  rw [Sem.run_bind, run_eqGuard_agg w _ _ _ _ _ _ guard63, Result.andThen_ok]
  cases op <;> first | (simp [isEq] at ho; done) | skip
  · rw [run_eql_struct, eq63]; rfl
  · rw [run_neq_struct, eq63]; rfl

/-! ### RUsed: function 20, (*augur/augurref19.Heap).Used -/
def RUsed.ah : AH := ⟨[], [(3, ⟨[(3, [.d (.int .i64)], false), (11, [.d (.int .i64)], false)], [], [], []⟩)], [], [], [], [some [.int .i64]], [], [], []⟩
set_option maxRecDepth 100000 in
def RUsed.W (m : Int) (L : List (List V)) (K : List V → List Ob → Prop) : Prop :=
 (∃ (I8 : List V → Prop) (μ9 : List V → Nat), I8 [(.int .i64 0), (.int .i64 0)] ∧ (∀ (n10 : Int) (n11 : Int), I8 [(.int .i64 n10), (.int .i64 n11)] →
 (bif (decide (n11 < (List.length L : Int))) then
 (0 ≤ n11 ∧ n11 < (List.length L : Int) ∧ (∃ (n12 : Int) (l13 : List (List V)) (n14 : Int) (n15 : Int) (b16 : Bool), List.take 5 (Av.rowAt L ((n11 : Int).toNat)) = [(.int .i64 n12), (.sl 2 l13), (.int .i64 n14), (.int .i64 n15), (.bool b16)] ∧ (bif (!b16) then
 (I8 [(.int .i64 (IntKind.i64.wrap (n10 + (IntKind.i64.wrap (1 + (List.length l13 : Int)))))), (.int .i64 (IntKind.i64.wrap (n11 + 1)))] ∧ μ9 [(.int .i64 (IntKind.i64.wrap (n10 + (IntKind.i64.wrap (1 + (List.length l13 : Int)))))), (.int .i64 (IntKind.i64.wrap (n11 + 1)))] < μ9 [(.int .i64 n10), (.int .i64 n11)])
 else
 (I8 [(.int .i64 n10), (.int .i64 (IntKind.i64.wrap (n11 + 1)))] ∧ μ9 [(.int .i64 n10), (.int .i64 (IntKind.i64.wrap (n11 + 1)))] < μ9 [(.int .i64 n10), (.int .i64 n11)]))))
 else
 (K [(.int .i64 n10)] [(.box [(.int .i64 m), (.own 1)]), (.lst 103 5 false L)]))))
set_option maxRecDepth 100000 in
theorem RUsed.eq (m : Int) (L : List (List V)) (K : List V → List Ob → Prop) : RUsed.W m L K = afn ax RUsed.ah Tryd.f20 [(.ptr 0 0)] [(.box [(.int .i64 m), (.own 1)]), (.lst 103 5 false L)] K := by kernel_rfl
theorem RUsed.ok : codeOk tys (hintsOf RUsed.ah) Tryd.f20.ntmps (Tryd.f20.body.getD .skip) = true := by kernel_rfl
set_option maxHeartbeats 4000000 in
theorem RUsed.calls {m L K} (h : RUsed.W m L K) : SCalls ax 20 [(.ptr 0 0)] [(.box [(.int .i64 m), (.own 1)]), (.lst 103 5 false L)] K :=
  afn_run (ah := RUsed.ah) tysOk fnsOk follows eqOk Tryd.func20 (by kernel_rfl) RUsed.ok (by kernel_rfl) (Eq.mp (RUsed.eq m L K) h)
/-! ### RAlloc: function 31, (*augur/augurref19.Heap).Alloc -/
def RAlloc.ah : AH := ⟨[(9, seqO [0, 1, 2, 3, 4, 5, 6, 7, 8, 9, 10, 11, 12, 13, 14, 15, 16, 17, 18, 19]), (16, seqO [0, 3, 4, 6, 7, 8, 9, 1, 2, 5, 10]), (18, seqO [0, 1, 2, 3, 4, 5, 6, 7, 8, 9, 10])], [(5, ⟨[(27, [.d (.int .i64)], false)], [(4, [.d (.int .i64), .l (.own 3), .d (.int .i64), .d (.int .i64), .d (.bool)])], [], []⟩)], [(10, ⟨[(11, [.d (.int .i64)], false), (12, [.d (.int .i64)], false)], [], [], []⟩)], [(20, ⟨[none], [.c (.int .i64)], [.box [.d (.int .i64), .l (.own 1)], .lst 103 5 false]⟩)], [], [some [.int .i64], some [.int .i64]], [(0, [.d (.int .i64), .nw 103 5 false])], [1], []⟩
set_option maxRecDepth 100000 in
def RAlloc.W (n1 : Int) (l2 : List (List V)) (m : Int) (L : List (List V)) (K : List V → List Ob → Prop) : Prop :=
 (bif (decide (n1 < (0 : Int))) then (K [(.int .i64 0), (.int .i64 16)] [(.box [(.int .i64 m), (.own 2)]), .dead, (.lst 103 5 false L)]) else (bif (decide ((List.length l2 : Int) > (8 : Int))) then
 (K [(.int .i64 0), (.int .i64 16)] [(.box [(.int .i64 m), (.own 2)]), .dead, (.lst 103 5 false L)])
 else
 ((0 + (List.length l2)) * 16 ≤ 140737488355328 ∧ 0 + (List.length l2) ≤ 140737488355328 ∧ (∃ (I77 : List V → Prop) (μ78 : List V → Nat), I77 [(.int .i64 0), (.int .i64 n1), (.int .i64 1), (.int .i64 1), (.bool false)] ∧ (∀ (n79 : Int) (n80 : Int) (n81 : Int) (n82 : Int) (b83 : Bool), I77 [(.int .i64 n79), (.int .i64 n80), (.int .i64 n81), (.int .i64 n82), (.bool b83)] →
 (bif (decide (n79 < (List.length l2 : Int))) then
 (0 ≤ n79 ∧ n79 < (List.length l2 : Int) ∧ (∃ (n86 : Int) (n87 : Int), List.take 2 (Av.rowAt l2 (n79 : Int).toNat) = [(.int .i64 n86), (.int .i64 n87)] ∧ (∃ J90 : List V → Prop, (bif (decide (n86 ≥ (0 : Int))) then
 (0 ≤ n86 ∧ n86 < (List.length L : Int) ∧ (∃ (n91 : Int), List.take 1 (List.drop 2 (Av.rowAt L ((n86 : Int).toNat))) = [(.int .i64 n91)] ∧ (0 ≤ n86 ∧ n86 < (List.length L : Int) ∧ (∃ (n92 : Int), List.take 1 (List.drop 3 (Av.rowAt L ((n86 : Int).toNat))) = [(.int .i64 n92)] ∧ (J90 [(.int .i64 n91), (.int .i64 n92)])))))
 else
 (J90 [(.int .i64 1), (.int .i64 1)])) ∧
 (∀ (n93 : Int) (n94 : Int), J90 [(.int .i64 n93), (.int .i64 n94)] →
 (bif (decide ((IntKind.i64.wrap (n94 + 1)) > n82)) then
 (I77 [(.int .i64 (IntKind.i64.wrap (n79 + 1))), (.int .i64 n80), (.int .i64 (IntKind.i64.wrap (n81 + n93))), (.int .i64 (IntKind.i64.wrap (n94 + 1))), (.bool b83)] ∧ μ78 [(.int .i64 (IntKind.i64.wrap (n79 + 1))), (.int .i64 n80), (.int .i64 (IntKind.i64.wrap (n81 + n93))), (.int .i64 (IntKind.i64.wrap (n94 + 1))), (.bool b83)] < μ78 [(.int .i64 n79), (.int .i64 n80), (.int .i64 n81), (.int .i64 n82), (.bool b83)])
 else
 (I77 [(.int .i64 (IntKind.i64.wrap (n79 + 1))), (.int .i64 n80), (.int .i64 (IntKind.i64.wrap (n81 + n93))), (.int .i64 n82), (.bool b83)] ∧ μ78 [(.int .i64 (IntKind.i64.wrap (n79 + 1))), (.int .i64 n80), (.int .i64 (IntKind.i64.wrap (n81 + n93))), (.int .i64 n82), (.bool b83)] < μ78 [(.int .i64 n79), (.int .i64 n80), (.int .i64 n81), (.int .i64 n82), (.bool b83)]))))))
 else
 (bif (decide (n81 > (4096 : Int))) then (K [(.int .i64 0), (.int .i64 4)] [(.box [(.int .i64 m), (.own 2)]), .dead, (.lst 103 5 false L)]) else (bif (decide (n82 > (200 : Int))) then
 (K [(.int .i64 0), (.int .i64 4)] [(.box [(.int .i64 m), (.own 2)]), .dead, (.lst 103 5 false L)])
 else
 (SCalls ax 20 [(.ptr 0 0)] [(.box [(.int .i64 m), (.own 1)]), (.lst 103 5 false L)] fun r101 o104 => ∃ (n100 : Int) (n102 : Int) (l103 : List (List V)), r101 = [(.int .i64 n100)] ∧ o104 = [(.box [(.int .i64 n102), (.own 1)]), (.lst 103 5 false l103)] ∧ ((n102 = m) ∧ (bif (decide ((IntKind.i64.wrap ((IntKind.i64.wrap (n100 + 1)) + (List.length l2 : Int))) > m)) then
 (K [(.int .i64 0), (.int .i64 14)] [(.box [(.int .i64 n102), (.own 2)]), .dead, (.lst 103 5 false l103)])
 else
 (((List.length l103) + (List.length ([[(.int .i64 n80), (.sl 2 l2), (.int .i64 n81), (.int .i64 n82), (.bool b83)]] : List (List V)))) * 56 ≤ 140737488355328 ∧ (List.length l103) + (List.length ([[(.int .i64 n80), (.sl 2 l2), (.int .i64 n81), (.int .i64 n82), (.bool b83)]] : List (List V))) ≤ 140737488355328 ∧ (K [(.int .i64 (IntKind.i64.wrap ((List.length (l103 ++ [[(.int .i64 n80), (.sl 2 l2), (.int .i64 n81), (.int .i64 n82), (.bool b83)]]) : Int) - 1))), (.int .i64 0)] [(.box [(.int .i64 n102), (.own 2)]), .dead, (.lst 103 5 false (l103 ++ [[(.int .i64 n80), (.sl 2 l2), (.int .i64 n81), (.int .i64 n82), (.bool b83)]]))])))))))))))))
set_option maxRecDepth 100000 in
theorem RAlloc.eq (n1 : Int) (l2 : List (List V)) (m : Int) (L : List (List V)) (K : List V → List Ob → Prop) : RAlloc.W n1 l2 m L K = afn ax RAlloc.ah Tryd.f31 [(.ptr 0 0), (.int .i64 n1), (.sl 2 l2)] [(.box [(.int .i64 m), (.own 1)]), (.lst 103 5 false L)] K := by kernel_rfl
theorem RAlloc.ok : codeOk tys (hintsOf RAlloc.ah) Tryd.f31.ntmps (Tryd.f31.body.getD .skip) = true := by kernel_rfl
set_option maxHeartbeats 4000000 in
theorem RAlloc.calls {n1 l2 m L K} (h : RAlloc.W n1 l2 m L K) : SCalls ax 31 [(.ptr 0 0), (.int .i64 n1), (.sl 2 l2)] [(.box [(.int .i64 m), (.own 1)]), (.lst 103 5 false L)] K :=
  afn_run (ah := RAlloc.ah) tysOk fnsOk follows eqOk Tryd.func31 (by kernel_rfl) RAlloc.ok (by kernel_rfl) (Eq.mp (RAlloc.eq n1 l2 m L K) h)
/-! ### RSame: function 34, (*augur/augurref19.Heap).Same -/
def RSame.ah : AH := ⟨[(5, (.one 0 (.one 1 (.one 2 (.one 3 (.one 4 (.one 5 (.one 6 (.one 7 (.one 8 (.one 9 (.one 10 (.one 11 (.one 12 (.one 13 (.one 14 (.one 15 (.alt (seqO [16, 17, 18, 19]) (seqO [17, 16, 18, 19]))))))))))))))))))), (11, seqO [0, 1, 2, 3, 4, 5, 6, 7, 8, 9, 10, 11, 12])], [(9, ⟨[(61, [.d (.int .i64)], false)], [(0, [.d (.int .i64), .l (.own 1)])], [(1, 103, 5, false)], []⟩)], [], [(34, ⟨[none, some [.int .i64, .int .i64], some [.int .i64, .int .i64]], [.c (.bool)], [.box [.d (.int .i64), .l (.own 1)], .lst 103 5 false]⟩)], [], [some [.bool]], [], [], []⟩
set_option maxRecDepth 100000 in
def RSame.W (n1 : Int) (n2 : Int) (n3 : Int) (n4 : Int) (m : Int) (L : List (List V)) (K : List V → List Ob → Prop) : Prop :=
 (bif (eqL [(.int .i64 n1), (.int .i64 n2)] [(.int .i64 n3), (.int .i64 n4)]) then
 (K [(.bool true)] [(.box [(.int .i64 m), (.own 1)]), (.lst 103 5 false L)])
 else
 (bif (decide (n1 < (0 : Int))) then (K [(.bool false)] [(.box [(.int .i64 m), (.own 1)]), (.lst 103 5 false L)]) else (bif (decide (n3 < (0 : Int))) then
 (K [(.bool false)] [(.box [(.int .i64 m), (.own 1)]), (.lst 103 5 false L)])
 else
 (0 ≤ n1 ∧ n1 < (List.length L : Int) ∧ (∃ (n15 : Int) (l16 : List (List V)) (n17 : Int) (n18 : Int) (b19 : Bool), List.take 5 (Av.rowAt L ((n1 : Int).toNat)) = [(.int .i64 n15), (.sl 2 l16), (.int .i64 n17), (.int .i64 n18), (.bool b19)] ∧ (0 ≤ n3 ∧ n3 < (List.length L : Int) ∧ (∃ (n20 : Int) (l21 : List (List V)) (n22 : Int) (n23 : Int) (b24 : Bool), List.take 5 (Av.rowAt L ((n3 : Int).toNat)) = [(.int .i64 n20), (.sl 2 l21), (.int .i64 n22), (.int .i64 n23), (.bool b24)] ∧ ((bif (n15 != n20) then (K [(.bool false)] [(.box [(.int .i64 m), (.own 1)]), (.lst 103 5 false L)]) else (bif ((List.length l16 : Int) != (List.length l21 : Int)) then (K [(.bool false)] [(.box [(.int .i64 m), (.own 1)]), (.lst 103 5 false L)]) else (bif (n17 != n22) then
 (K [(.bool false)] [(.box [(.int .i64 m), (.own 1)]), (.lst 103 5 false L)])
 else
 (∃ (I47 : List V → Prop) (μ48 : List V → Nat), I47 [(.int .i64 0), (.int .i64 m), (.sl 5 L)] ∧ (∀ (n49 : Int) (n50 : Int) (l51 : List (List V)), I47 [(.int .i64 n49), (.int .i64 n50), (.sl 5 l51)] →
 (bif (decide (n49 < (List.length l16 : Int))) then
 (0 ≤ n49 ∧ n49 < (List.length l16 : Int) ∧ (∃ (n52 : Int) (n53 : Int), List.take 2 (Av.rowAt l16 (n49 : Int).toNat) = [(.int .i64 n52), (.int .i64 n53)] ∧ (0 ≤ n49 ∧ n49 < (List.length l21 : Int) ∧ (∃ (n54 : Int) (n55 : Int), List.take 2 (Av.rowAt l21 (n49 : Int).toNat) = [(.int .i64 n54), (.int .i64 n55)] ∧ (SCalls ax 34 [(.ptr 0 0), (.agg [(.int .i64 n52), (.int .i64 n53)]), (.agg [(.int .i64 n54), (.int .i64 n55)])] [(.box [(.int .i64 n50), (.own 1)]), (.lst 103 5 false l51)] fun r57 o60 => ∃ (b56 : Bool) (n58 : Int) (l59 : List (List V)), r57 = [(.bool b56)] ∧ o60 = [(.box [(.int .i64 n58), (.own 1)]), (.lst 103 5 false l59)] ∧ (bif (!b56) then
 (K [(.bool false)] [(.box [(.int .i64 n58), (.own 1)]), (.lst 103 5 false l59)])
 else
 (I47 [(.int .i64 (IntKind.i64.wrap (n49 + 1))), (.int .i64 n58), (.sl 5 l59)] ∧ μ48 [(.int .i64 (IntKind.i64.wrap (n49 + 1))), (.int .i64 n58), (.sl 5 l59)] < μ48 [(.int .i64 n49), (.int .i64 n50), (.sl 5 l51)])))))))
 else
 (K [(.bool true)] [(.box [(.int .i64 n50), (.own 1)]), (.lst 103 5 false l51)]))))))) ∧ (bif (n15 != n20) then (K [(.bool false)] [(.box [(.int .i64 m), (.own 1)]), (.lst 103 5 false L)]) else (bif ((List.length l16 : Int) != (List.length l21 : Int)) then (K [(.bool false)] [(.box [(.int .i64 m), (.own 1)]), (.lst 103 5 false L)]) else (bif (n17 != n22) then
 (K [(.bool false)] [(.box [(.int .i64 m), (.own 1)]), (.lst 103 5 false L)])
 else
 (∃ (I61 : List V → Prop) (μ62 : List V → Nat), I61 [(.int .i64 0), (.int .i64 m), (.sl 5 L)] ∧ (∀ (n63 : Int) (n64 : Int) (l65 : List (List V)), I61 [(.int .i64 n63), (.int .i64 n64), (.sl 5 l65)] →
 (bif (decide (n63 < (List.length l16 : Int))) then
 (0 ≤ n63 ∧ n63 < (List.length l16 : Int) ∧ (∃ (n66 : Int) (n67 : Int), List.take 2 (Av.rowAt l16 (n63 : Int).toNat) = [(.int .i64 n66), (.int .i64 n67)] ∧ (0 ≤ n63 ∧ n63 < (List.length l21 : Int) ∧ (∃ (n68 : Int) (n69 : Int), List.take 2 (Av.rowAt l21 (n63 : Int).toNat) = [(.int .i64 n68), (.int .i64 n69)] ∧ (SCalls ax 34 [(.ptr 0 0), (.agg [(.int .i64 n66), (.int .i64 n67)]), (.agg [(.int .i64 n68), (.int .i64 n69)])] [(.box [(.int .i64 n64), (.own 1)]), (.lst 103 5 false l65)] fun r71 o74 => ∃ (b70 : Bool) (n72 : Int) (l73 : List (List V)), r71 = [(.bool b70)] ∧ o74 = [(.box [(.int .i64 n72), (.own 1)]), (.lst 103 5 false l73)] ∧ (bif (!b70) then
 (K [(.bool false)] [(.box [(.int .i64 n72), (.own 1)]), (.lst 103 5 false l73)])
 else
 (I61 [(.int .i64 (IntKind.i64.wrap (n63 + 1))), (.int .i64 n72), (.sl 5 l73)] ∧ μ62 [(.int .i64 (IntKind.i64.wrap (n63 + 1))), (.int .i64 n72), (.sl 5 l73)] < μ62 [(.int .i64 n63), (.int .i64 n64), (.sl 5 l65)])))))))
 else
 (K [(.bool true)] [(.box [(.int .i64 n64), (.own 1)]), (.lst 103 5 false l65)])))))))))))))))
set_option maxRecDepth 100000 in
theorem RSame.eq (n1 : Int) (n2 : Int) (n3 : Int) (n4 : Int) (m : Int) (L : List (List V)) (K : List V → List Ob → Prop) : RSame.W n1 n2 n3 n4 m L K = afn ax RSame.ah Tryd.f34 [(.ptr 0 0), (.agg [(.int .i64 n1), (.int .i64 n2)]), (.agg [(.int .i64 n3), (.int .i64 n4)])] [(.box [(.int .i64 m), (.own 1)]), (.lst 103 5 false L)] K := by kernel_rfl
theorem RSame.ok : codeOk tys (hintsOf RSame.ah) Tryd.f34.ntmps (Tryd.f34.body.getD .skip) = true := by kernel_rfl
set_option maxHeartbeats 4000000 in
theorem RSame.calls {n1 n2 n3 n4 m L K} (h : RSame.W n1 n2 n3 n4 m L K) : SCalls ax 34 [(.ptr 0 0), (.agg [(.int .i64 n1), (.int .i64 n2)]), (.agg [(.int .i64 n3), (.int .i64 n4)])] [(.box [(.int .i64 m), (.own 1)]), (.lst 103 5 false L)] K :=
  afn_run (ah := RSame.ah) tysOk fnsOk follows eqOk Tryd.func34 (by kernel_rfl) RSame.ok (by kernel_rfl) (Eq.mp (RSame.eq n1 n2 n3 n4 m L K) h)
/-! ### RReached: function 36, (*augur/augurref19.Heap).Reached -/
def RReached.ah : AH := ⟨[], [(3, ⟨[(19, [.d (.int .i64)], false)], [], [(2, 4, 1, false)], []⟩), (9, ⟨[(8, [.d (.int .i64)], false)], [], [(2, 4, 1, false)], []⟩), (13, ⟨[(52, [.d (.int .i64)], false)], [], [(2, 4, 1, false)], []⟩)], [], [], [], [some [.sl 1]], [], [], []⟩
set_option maxRecDepth 100000 in
def RReached.W (l1 : List (List V)) (m : Int) (L : List (List V)) (K : List V → List Ob → Prop) : Prop :=
 (0 ≤ (List.length L : Int) ∧ (List.length L : Int) ≤ (List.length L : Int) ∧ (List.length L : Int) ≤ 140737488355328 ∧ ((1 : Nat) : Int) * (List.length L : Int) ≤ 140737488355328 ∧ (∃ (I22 : List V → Prop) (μ23 : List V → Nat), I22 [(.int .i64 0), (.sl 1 (List.replicate (((List.length L : Int) : Int).toNat) [(.bool false)]))] ∧ (∀ (n24 : Int) (l25 : List (List V)), I22 [(.int .i64 n24), (.sl 1 l25)] →
 (bif (decide (n24 < (List.length l1 : Int))) then
 (0 ≤ n24 ∧ n24 < (List.length l1 : Int) ∧ (∃ (n26 : Int) (n27 : Int), List.take 2 (Av.rowAt l1 (n24 : Int).toNat) = [(.int .i64 n26), (.int .i64 n27)] ∧ (bif (decide (n26 ≥ (0 : Int))) then
 (0 ≤ n26 ∧ n26 < (List.length l25 : Int) ∧ (((n26 : Int).toNat) < List.length l25 ∧ (I22 [(.int .i64 (IntKind.i64.wrap (n24 + 1))), (.sl 1 (List.set l25 ((n26 : Int).toNat) [(.bool true)]))] ∧ μ23 [(.int .i64 (IntKind.i64.wrap (n24 + 1))), (.sl 1 (List.set l25 ((n26 : Int).toNat) [(.bool true)]))] < μ23 [(.int .i64 n24), (.sl 1 l25)])))
 else
 (I22 [(.int .i64 (IntKind.i64.wrap (n24 + 1))), (.sl 1 l25)] ∧ μ23 [(.int .i64 (IntKind.i64.wrap (n24 + 1))), (.sl 1 l25)] < μ23 [(.int .i64 n24), (.sl 1 l25)]))))
 else
 (∃ (I65 : List V → Prop) (μ66 : List V → Nat), I65 [(.int .i64 (IntKind.i64.wrap ((List.length l25 : Int) - 1))), (.sl 1 l25)] ∧ (∀ (n67 : Int) (l68 : List (List V)), I65 [(.int .i64 n67), (.sl 1 l68)] →
 (bif (decide (n67 ≥ (0 : Int))) then
 (0 ≤ n67 ∧ n67 < (List.length l68 : Int) ∧ (∃ (b70 : Bool), List.take 1 (Av.rowAt l68 ((n67 : Int).toNat)) = [(.bool b70)] ∧ (bif (!b70) then
 (I65 [(.int .i64 (IntKind.i64.wrap (n67 - 1))), (.sl 1 l68)] ∧ μ66 [(.int .i64 (IntKind.i64.wrap (n67 - 1))), (.sl 1 l68)] < μ66 [(.int .i64 n67), (.sl 1 l68)])
 else
 (0 ≤ n67 ∧ n67 < (List.length L : Int) ∧ (∃ (l72 : List (List V)), List.take 1 (List.drop 1 (Av.rowAt L ((n67 : Int).toNat))) = [(.sl 2 l72)] ∧ (∃ (I80 : List V → Prop) (μ81 : List V → Nat), I80 [(.int .i64 0), (.sl 1 l68)] ∧ (∀ (n82 : Int) (l83 : List (List V)), I80 [(.int .i64 n82), (.sl 1 l83)] →
 (bif (decide (n82 < (List.length l72 : Int))) then
 (0 ≤ n82 ∧ n82 < (List.length l72 : Int) ∧ (∃ (n84 : Int) (n85 : Int), List.take 2 (Av.rowAt l72 (n82 : Int).toNat) = [(.int .i64 n84), (.int .i64 n85)] ∧ (bif (decide (n84 ≥ (0 : Int))) then
 (0 ≤ n84 ∧ n84 < (List.length l83 : Int) ∧ (((n84 : Int).toNat) < List.length l83 ∧ (I80 [(.int .i64 (IntKind.i64.wrap (n82 + 1))), (.sl 1 (List.set l83 ((n84 : Int).toNat) [(.bool true)]))] ∧ μ81 [(.int .i64 (IntKind.i64.wrap (n82 + 1))), (.sl 1 (List.set l83 ((n84 : Int).toNat) [(.bool true)]))] < μ81 [(.int .i64 n82), (.sl 1 l83)])))
 else
 (I80 [(.int .i64 (IntKind.i64.wrap (n82 + 1))), (.sl 1 l83)] ∧ μ81 [(.int .i64 (IntKind.i64.wrap (n82 + 1))), (.sl 1 l83)] < μ81 [(.int .i64 n82), (.sl 1 l83)]))))
 else
 (I65 [(.int .i64 (IntKind.i64.wrap (n67 - 1))), (.sl 1 l83)] ∧ μ66 [(.int .i64 (IntKind.i64.wrap (n67 - 1))), (.sl 1 l83)] < μ66 [(.int .i64 n67), (.sl 1 l68)])))))))))
 else
 (K [(.sl 1 l68)] [(.box [(.int .i64 m), (.own 1)]), (.lst 103 5 false L)]))))))))
set_option maxRecDepth 100000 in
theorem RReached.eq (l1 : List (List V)) (m : Int) (L : List (List V)) (K : List V → List Ob → Prop) : RReached.W l1 m L K = afn ax RReached.ah Tryd.f36 [(.ptr 0 0), (.sl 2 l1)] [(.box [(.int .i64 m), (.own 1)]), (.lst 103 5 false L)] K := by kernel_rfl
theorem RReached.ok : codeOk tys (hintsOf RReached.ah) Tryd.f36.ntmps (Tryd.f36.body.getD .skip) = true := by kernel_rfl
set_option maxHeartbeats 4000000 in
theorem RReached.calls {l1 m L K} (h : RReached.W l1 m L K) : SCalls ax 36 [(.ptr 0 0), (.sl 2 l1)] [(.box [(.int .i64 m), (.own 1)]), (.lst 103 5 false L)] K :=
  afn_run (ah := RReached.ah) tysOk fnsOk follows eqOk Tryd.func36 (by kernel_rfl) RReached.ok (by kernel_rfl) (Eq.mp (RReached.eq l1 m L K) h)
/-! ### RReach: function 22, (*augur/augurref19.Heap).Reach -/
def RReach.ah : AH := ⟨[], [(3, ⟨[(5, [.d (.int .i64)], false), (12, [.d (.int .i64)], false)], [], [], []⟩)], [], [(36, ⟨[none, some [.sl 2]], [.c (.sl 1)], [.box [.d (.int .i64), .l (.own 1)], .lst 103 5 false]⟩)], [], [some [.int .i64]], [], [], []⟩
set_option maxRecDepth 100000 in
def RReach.W (l1 : List (List V)) (m : Int) (L : List (List V)) (K : List V → List Ob → Prop) : Prop :=
 (SCalls ax 36 [(.ptr 0 0), (.sl 2 l1)] [(.box [(.int .i64 m), (.own 1)]), (.lst 103 5 false L)] fun r8 o11 => ∃ (l7 : List (List V)) (n9 : Int) (l10 : List (List V)), r8 = [(.sl 1 l7)] ∧ o11 = [(.box [(.int .i64 n9), (.own 1)]), (.lst 103 5 false l10)] ∧ (∃ (I17 : List V → Prop) (μ18 : List V → Nat), I17 [(.int .i64 0), (.int .i64 0)] ∧ (∀ (n19 : Int) (n20 : Int), I17 [(.int .i64 n19), (.int .i64 n20)] →
 (bif (decide (n20 < (List.length l7 : Int))) then
 (0 ≤ n20 ∧ n20 < (List.length l7 : Int) ∧ (∃ (b22 : Bool), List.take 1 (Av.rowAt l7 (n20 : Int).toNat) = [(.bool b22)] ∧ (bif b22 then
 (0 ≤ n20 ∧ n20 < (List.length l10 : Int) ∧ (∃ (l23 : List (List V)), List.take 1 (List.drop 1 (Av.rowAt l10 ((n20 : Int).toNat))) = [(.sl 2 l23)] ∧ (I17 [(.int .i64 (IntKind.i64.wrap (n19 + (IntKind.i64.wrap (1 + (List.length l23 : Int)))))), (.int .i64 (IntKind.i64.wrap (n20 + 1)))] ∧ μ18 [(.int .i64 (IntKind.i64.wrap (n19 + (IntKind.i64.wrap (1 + (List.length l23 : Int)))))), (.int .i64 (IntKind.i64.wrap (n20 + 1)))] < μ18 [(.int .i64 n19), (.int .i64 n20)])))
 else
 (I17 [(.int .i64 n19), (.int .i64 (IntKind.i64.wrap (n20 + 1)))] ∧ μ18 [(.int .i64 n19), (.int .i64 (IntKind.i64.wrap (n20 + 1)))] < μ18 [(.int .i64 n19), (.int .i64 n20)]))))
 else
 (K [(.int .i64 n19)] [(.box [(.int .i64 n9), (.own 1)]), (.lst 103 5 false l10)])))))
set_option maxRecDepth 100000 in
theorem RReach.eq (l1 : List (List V)) (m : Int) (L : List (List V)) (K : List V → List Ob → Prop) : RReach.W l1 m L K = afn ax RReach.ah Tryd.f22 [(.ptr 0 0), (.sl 2 l1)] [(.box [(.int .i64 m), (.own 1)]), (.lst 103 5 false L)] K := by kernel_rfl
theorem RReach.ok : codeOk tys (hintsOf RReach.ah) Tryd.f22.ntmps (Tryd.f22.body.getD .skip) = true := by kernel_rfl
set_option maxHeartbeats 4000000 in
theorem RReach.calls {l1 m L K} (h : RReach.W l1 m L K) : SCalls ax 22 [(.ptr 0 0), (.sl 2 l1)] [(.box [(.int .i64 m), (.own 1)]), (.lst 103 5 false L)] K :=
  afn_run (ah := RReach.ah) tysOk fnsOk follows eqOk Tryd.func22 (by kernel_rfl) RReach.ok (by kernel_rfl) (Eq.mp (RReach.eq l1 m L K) h)
/-! ### RCollect: function 35, (*augur/augurref19.Heap).Collect -/
def RCollect.ah : AH := ⟨[], [(1, ⟨[(10, [.d (.int .i64)], false)], [], [(1, 103, 5, false)], []⟩)], [], [(36, ⟨[none, some [.sl 2]], [.c (.sl 1)], [.box [.d (.int .i64), .l (.own 1)], .lst 103 5 false]⟩)], [], [], [], [], []⟩
set_option maxRecDepth 100000 in
def RCollect.W (l1 : List (List V)) (m : Int) (L : List (List V)) (K : List V → List Ob → Prop) : Prop :=
 (SCalls ax 36 [(.ptr 0 0), (.sl 2 l1)] [(.box [(.int .i64 m), (.own 1)]), (.lst 103 5 false L)] fun r8 o11 => ∃ (l7 : List (List V)) (n9 : Int) (l10 : List (List V)), r8 = [(.sl 1 l7)] ∧ o11 = [(.box [(.int .i64 n9), (.own 1)]), (.lst 103 5 false l10)] ∧ (∃ (I17 : List V → Prop) (μ18 : List V → Nat), I17 [(.int .i64 0), (.sl 5 l10)] ∧ (∀ (n19 : Int) (l20 : List (List V)), I17 [(.int .i64 n19), (.sl 5 l20)] →
 (bif (decide (n19 < (List.length l7 : Int))) then
 (0 ≤ n19 ∧ n19 < (List.length l7 : Int) ∧ (∃ (b21 : Bool), List.take 1 (Av.rowAt l7 (n19 : Int).toNat) = [(.bool b21)] ∧ (bif (!b21) then
 (0 ≤ n19 ∧ n19 < (List.length l20 : Int) ∧ (((n19 : Int).toNat) < List.length l20 ∧ (I17 [(.int .i64 (IntKind.i64.wrap (n19 + 1))), (.sl 5 (List.set l20 ((n19 : Int).toNat) (setV (Av.rowAt l20 ((n19 : Int).toNat)) 4 [(.bool true)])))] ∧ μ18 [(.int .i64 (IntKind.i64.wrap (n19 + 1))), (.sl 5 (List.set l20 ((n19 : Int).toNat) (setV (Av.rowAt l20 ((n19 : Int).toNat)) 4 [(.bool true)])))] < μ18 [(.int .i64 n19), (.sl 5 l20)])))
 else
 (I17 [(.int .i64 (IntKind.i64.wrap (n19 + 1))), (.sl 5 l20)] ∧ μ18 [(.int .i64 (IntKind.i64.wrap (n19 + 1))), (.sl 5 l20)] < μ18 [(.int .i64 n19), (.sl 5 l20)]))))
 else
 (K [] [(.box [(.int .i64 n9), (.own 1)]), (.lst 103 5 false l20)])))))
set_option maxRecDepth 100000 in
theorem RCollect.eq (l1 : List (List V)) (m : Int) (L : List (List V)) (K : List V → List Ob → Prop) : RCollect.W l1 m L K = afn ax RCollect.ah Tryd.f35 [(.ptr 0 0), (.sl 2 l1)] [(.box [(.int .i64 m), (.own 1)]), (.lst 103 5 false L)] K := by kernel_rfl
theorem RCollect.ok : codeOk tys (hintsOf RCollect.ah) Tryd.f35.ntmps (Tryd.f35.body.getD .skip) = true := by kernel_rfl
set_option maxHeartbeats 4000000 in
theorem RCollect.calls {l1 m L K} (h : RCollect.W l1 m L K) : SCalls ax 35 [(.ptr 0 0), (.sl 2 l1)] [(.box [(.int .i64 m), (.own 1)]), (.lst 103 5 false L)] K :=
  afn_run (ah := RCollect.ah) tysOk fnsOk follows eqOk Tryd.func35 (by kernel_rfl) RCollect.ok (by kernel_rfl) (Eq.mp (RCollect.eq l1 m L K) h)
end Go.Proofs.YtfenhbjamohdgaaDoor.Vr
end

/- part H5N -/
section
namespace Go.Proofs.YtfenhbjamohdgaaDoor.Vn
open Go.Vx Go.Av
def tys : Tys := [(3, ⟨(.int .i64), 1, 8, [.int .i64 0], [.int .i64]⟩),
  (26, ⟨.iface, 1, 16, [.nilIface], [.any]⟩),
  (55, ⟨(.sl 26), 1, 24, [.slice none 0 0], [.sl]⟩)]
theorem ty3 : Ty.Ok Tryd.prog 3 ⟨(.int .i64), 1, 8, [.int .i64 0], [.int .i64]⟩ := ⟨Tryd.underlying3, by kernel_rfl, by kernel_rfl, rfl⟩
theorem ty26 : Ty.Ok Tryd.prog 26 ⟨.iface, 1, 16, [.nilIface], [.any]⟩ := ⟨⟨_, Tryd.underlying26⟩, by kernel_rfl, by kernel_rfl, rfl⟩
theorem ty55 : Ty.Ok Tryd.prog 55 ⟨(.sl 26), 1, 24, [.slice none 0 0], [.sl]⟩ := ⟨Tryd.underlying55, by kernel_rfl, by kernel_rfl, rfl⟩
theorem tysOk : AllOk Tryd.prog tys := ⟨ty3, ty26, ty55, trivial⟩
def fns : Fns := []
theorem fnsOk : FnsOk Tryd.prog fns := trivial
theorem follows : Tryd.prog.follows .mixedOrders = true := by kernel_rfl
def ats : Ats := [(26, [.err])]
noncomputable abbrev ax : Ax := ⟨Tryd.prog, tys, ats, fns, [0, 1, 2, 3, 4, 5, 6, 7, 8, 9, 10, 11, 12, 13, 14, 15], [], [26], [], [], none, []⟩
theorem zOk : ZOk ax := fun _ _ _ h => by cases h
theorem eqOk : EqOk ax := ⟨zOk, fun _ _ _ h => by cases h⟩
/-! ### Num: function 32, augur/augurnum.Num -/
def Num.ah : AH := ⟨[], [(5, ⟨[(27, [.d (.int .i64)], false)], [], [], []⟩)], [], [], [], [some [.int .i64]], [], [], []⟩
set_option maxRecDepth 100000 in
def Num.W (x1 : Option Nat) (K : List V → Prop) : Prop :=
 (bif (Option.isNone x1) then
 (K [(.int .i64 0)])
 else
 (∃ (I4 : List V → Prop) (μ5 : List V → Nat), I4 [(.int .i64 0)] ∧ (∀ (n6 : Int), I4 [(.int .i64 n6)] →
 (bif (decide (n6 < (List.length ([[(.err (some 3))], [(.err (some 4))], [(.err (some 5))], [(.err (some 2))], [(.err (some 6))], [(.err (some 7))], [(.err (some 8))], [(.err (some 9))], [(.err (some 10))], [(.err (some 11))], [(.err (some 12))], [(.err (some 13))], [(.err (some 14))], [(.err (some 0))], [(.err (some 15))], [(.err (some 1))]] : List (List V)) : Int))) then
 (0 ≤ n6 ∧ n6 < (List.length ([[(.err (some 3))], [(.err (some 4))], [(.err (some 5))], [(.err (some 2))], [(.err (some 6))], [(.err (some 7))], [(.err (some 8))], [(.err (some 9))], [(.err (some 10))], [(.err (some 11))], [(.err (some 12))], [(.err (some 13))], [(.err (some 14))], [(.err (some 0))], [(.err (some 15))], [(.err (some 1))]] : List (List V)) : Int) ∧ (∃ (x7 : Option Nat), List.take 1 (Av.rowAt [[(.err (some 3))], [(.err (some 4))], [(.err (some 5))], [(.err (some 2))], [(.err (some 6))], [(.err (some 7))], [(.err (some 8))], [(.err (some 9))], [(.err (some 10))], [(.err (some 11))], [(.err (some 12))], [(.err (some 13))], [(.err (some 14))], [(.err (some 0))], [(.err (some 15))], [(.err (some 1))]] ((n6 : Int).toNat)) = [(.err x7)] ∧ (ernW x1 x7 (bif (errEq x1 x7) then
 (K [(.int .i64 (IntKind.i64.wrap (n6 + 1)))])
 else
 (I4 [(.int .i64 (IntKind.i64.wrap (n6 + 1)))] ∧ μ5 [(.int .i64 (IntKind.i64.wrap (n6 + 1)))] < μ5 [(.int .i64 n6)])))))
 else
 (K [(.int .i64 (-1))])))))
set_option maxRecDepth 100000 in
theorem Num.eq (x1 : Option Nat) (K : List V → Prop) : Num.W x1 K = afn ax Num.ah Tryd.f32 [(.err x1)] [] (onlyV K) := by kernel_rfl
theorem Num.ok : codeOk tys (hintsOf Num.ah) Tryd.f32.ntmps (Tryd.f32.body.getD .skip) = true := by kernel_rfl
set_option maxHeartbeats 4000000 in
theorem Num.calls {x1 K} (h : Num.W x1 K) : PCalls ax 32 [(.err x1)] K :=
  afn_run (ah := Num.ah) tysOk fnsOk follows eqOk Tryd.func32 (by kernel_rfl) Num.ok (by kernel_rfl) (Eq.mp (Num.eq x1 K) h)
end Go.Proofs.YtfenhbjamohdgaaDoor.Vn
end
