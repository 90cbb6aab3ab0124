/- Forms of functions of this seat, as the second executor has them, each tied to the model by the kernel. -/
import Derived.Lib.Itoa
import Derived.Lib.ItoaNum
import Derived.Test.YtadgcpjobhgkiaaDoorM3
import Derived.Test.YtadgcpjobhgkiaaDoorProg
import Derived.Test.YtadgcpjobhgkiaaDoorM4
/- part L1I -/
section

end

/- part G1A -/
section
namespace Go.Proofs.YtadgcpjobhgkiaaDoor.Va
open Go.Vx Go.Av
def tys : Tys := [(3, ⟨(.int .i64), 1, 8, [.int .i64 0], [.int .i64]⟩),
  (4, ⟨.bool, 1, 1, [.bool false], [.bool]⟩),
  (5, ⟨(.int .u8), 1, 1, [.int .u8 0], [.int .u8]⟩),
  (9, ⟨.str, 1, 16, [.string (⟨#[]⟩ : ByteArray)], [.str]⟩),
  (23, ⟨(.sl 35), 1, 24, [.slice none 0 0], [.sl]⟩),
  (25, ⟨.iface, 1, 16, [.nilIface], [.any]⟩),
  (35, ⟨(.agg [(0, 3), (1, 9), (2, 3)]), 3, 32, [.int .i64 0, .string (⟨#[]⟩ : ByteArray), .int .i64 0], [.int .i64, .str, .int .i64]⟩),
  (36, ⟨(.sl 3), 1, 24, [.slice none 0 0], [.sl]⟩),
  (44, ⟨.fn, 1, 8, [.nilFunc], [.any]⟩),
  (54, ⟨(.sl 5), 1, 24, [.slice none 0 0], [.sl]⟩)]
theorem ty3 : Ty.Ok Tryd.prog 3 ⟨(.int .i64), 1, 8, [.int .i64 0], [.int .i64]⟩ := ⟨Tryd.underlying3, by kernel_rfl, by kernel_rfl, rfl⟩
theorem ty4 : Ty.Ok Tryd.prog 4 ⟨.bool, 1, 1, [.bool false], [.bool]⟩ := ⟨Tryd.underlying4, by kernel_rfl, by kernel_rfl, rfl⟩
theorem ty5 : Ty.Ok Tryd.prog 5 ⟨(.int .u8), 1, 1, [.int .u8 0], [.int .u8]⟩ := ⟨Tryd.underlying5, by kernel_rfl, by kernel_rfl, rfl⟩
theorem ty9 : Ty.Ok Tryd.prog 9 ⟨.str, 1, 16, [.string (⟨#[]⟩ : ByteArray)], [.str]⟩ := ⟨Tryd.underlying9, by kernel_rfl, by kernel_rfl, rfl⟩
theorem ty23 : Ty.Ok Tryd.prog 23 ⟨(.sl 35), 1, 24, [.slice none 0 0], [.sl]⟩ := ⟨Tryd.underlying23, by kernel_rfl, by kernel_rfl, rfl⟩
theorem ty25 : Ty.Ok Tryd.prog 25 ⟨.iface, 1, 16, [.nilIface], [.any]⟩ := ⟨⟨_, Tryd.underlying25⟩, by kernel_rfl, by kernel_rfl, rfl⟩
theorem ty35 : Ty.Ok Tryd.prog 35 ⟨(.agg [(0, 3), (1, 9), (2, 3)]), 3, 32, [.int .i64 0, .string (⟨#[]⟩ : ByteArray), .int .i64 0], [.int .i64, .str, .int .i64]⟩ := ⟨⟨_, Tryd.underlying35, rfl⟩, by kernel_rfl, by kernel_rfl, rfl⟩
theorem ty36 : Ty.Ok Tryd.prog 36 ⟨(.sl 3), 1, 24, [.slice none 0 0], [.sl]⟩ := ⟨Tryd.underlying36, by kernel_rfl, by kernel_rfl, rfl⟩
theorem ty44 : Ty.Ok Tryd.prog 44 ⟨.fn, 1, 8, [.nilFunc], [.any]⟩ := ⟨⟨_, _, _, Tryd.underlying44⟩, by kernel_rfl, by kernel_rfl, rfl⟩
theorem ty54 : Ty.Ok Tryd.prog 54 ⟨(.sl 5), 1, 24, [.slice none 0 0], [.sl]⟩ := ⟨Tryd.underlying54, by kernel_rfl, by kernel_rfl, rfl⟩
theorem tysOk : AllOk Tryd.prog tys := ⟨ty3, ty4, ty5, ty9, ty23, ty25, ty35, ty36, ty44, ty54, trivial⟩
def fns : Fns := [(11, [4]), (12, [23, 25]), (14, [4]), (16, [36, 23, 4]), (18, [44]), (23, [4]), (24, [4]), (25, [35, 4]), (28, [3]), (29, [35, 4]), (30, [4]), (31, [4]), (32, [3, 4]), (36, [3]), (37, [4]), (38, [4]), (39, [3]), (40, [4]), (41, [4]), (42, [35, 4]), (43, [4])]
theorem fnOk11 : ∃ fn, Tryd.prog.funcs[11]? = some fn ∧ (fn.name == "runtime.NumGoroutine") = false ∧ fn.body.isNone = false := ⟨_, Tryd.func11, by kernel_rfl, by kernel_rfl⟩
theorem fnOk12 : ∃ fn, Tryd.prog.funcs[12]? = some fn ∧ (fn.name == "runtime.NumGoroutine") = false ∧ fn.body.isNone = false := ⟨_, Tryd.func12, by kernel_rfl, by kernel_rfl⟩
theorem fnOk14 : ∃ fn, Tryd.prog.funcs[14]? = some fn ∧ (fn.name == "runtime.NumGoroutine") = false ∧ fn.body.isNone = false := ⟨_, Tryd.func14, by kernel_rfl, by kernel_rfl⟩
theorem fnOk16 : ∃ fn, Tryd.prog.funcs[16]? = some fn ∧ (fn.name == "runtime.NumGoroutine") = false ∧ fn.body.isNone = false := ⟨_, Tryd.func16, by kernel_rfl, by kernel_rfl⟩
theorem fnOk18 : ∃ fn, Tryd.prog.funcs[18]? = some fn ∧ (fn.name == "runtime.NumGoroutine") = false ∧ fn.body.isNone = false := ⟨_, Tryd.func18, by kernel_rfl, by kernel_rfl⟩
theorem fnOk23 : ∃ fn, Tryd.prog.funcs[23]? = some fn ∧ (fn.name == "runtime.NumGoroutine") = false ∧ fn.body.isNone = false := ⟨_, Tryd.func23, by kernel_rfl, by kernel_rfl⟩
theorem fnOk24 : ∃ fn, Tryd.prog.funcs[24]? = some fn ∧ (fn.name == "runtime.NumGoroutine") = false ∧ fn.body.isNone = false := ⟨_, Tryd.func24, by kernel_rfl, by kernel_rfl⟩
theorem fnOk25 : ∃ fn, Tryd.prog.funcs[25]? = some fn ∧ (fn.name == "runtime.NumGoroutine") = false ∧ fn.body.isNone = false := ⟨_, Tryd.func25, by kernel_rfl, by kernel_rfl⟩
theorem fnOk28 : ∃ fn, Tryd.prog.funcs[28]? = some fn ∧ (fn.name == "runtime.NumGoroutine") = false ∧ fn.body.isNone = false := ⟨_, Tryd.func28, by kernel_rfl, by kernel_rfl⟩
theorem fnOk29 : ∃ fn, Tryd.prog.funcs[29]? = some fn ∧ (fn.name == "runtime.NumGoroutine") = false ∧ fn.body.isNone = false := ⟨_, Tryd.func29, by kernel_rfl, by kernel_rfl⟩
theorem fnOk30 : ∃ fn, Tryd.prog.funcs[30]? = some fn ∧ (fn.name == "runtime.NumGoroutine") = false ∧ fn.body.isNone = false := ⟨_, Tryd.func30, by kernel_rfl, by kernel_rfl⟩
theorem fnOk31 : ∃ fn, Tryd.prog.funcs[31]? = some fn ∧ (fn.name == "runtime.NumGoroutine") = false ∧ fn.body.isNone = false := ⟨_, Tryd.func31, by kernel_rfl, by kernel_rfl⟩
theorem fnOk32 : ∃ fn, Tryd.prog.funcs[32]? = some fn ∧ (fn.name == "runtime.NumGoroutine") = false ∧ fn.body.isNone = false := ⟨_, Tryd.func32, by kernel_rfl, by kernel_rfl⟩
theorem fnOk36 : ∃ fn, Tryd.prog.funcs[36]? = some fn ∧ (fn.name == "runtime.NumGoroutine") = false ∧ fn.body.isNone = false := ⟨_, Tryd.func36, by kernel_rfl, by kernel_rfl⟩
theorem fnOk37 : ∃ fn, Tryd.prog.funcs[37]? = some fn ∧ (fn.name == "runtime.NumGoroutine") = false ∧ fn.body.isNone = false := ⟨_, Tryd.func37, by kernel_rfl, by kernel_rfl⟩
theorem fnOk38 : ∃ fn, Tryd.prog.funcs[38]? = some fn ∧ (fn.name == "runtime.NumGoroutine") = false ∧ fn.body.isNone = false := ⟨_, Tryd.func38, by kernel_rfl, by kernel_rfl⟩
theorem fnOk39 : ∃ fn, Tryd.prog.funcs[39]? = some fn ∧ (fn.name == "runtime.NumGoroutine") = false ∧ fn.body.isNone = false := ⟨_, Tryd.func39, by kernel_rfl, by kernel_rfl⟩
theorem fnOk40 : ∃ fn, Tryd.prog.funcs[40]? = some fn ∧ (fn.name == "runtime.NumGoroutine") = false ∧ fn.body.isNone = false := ⟨_, Tryd.func40, by kernel_rfl, by kernel_rfl⟩
theorem fnOk41 : ∃ fn, Tryd.prog.funcs[41]? = some fn ∧ (fn.name == "runtime.NumGoroutine") = false ∧ fn.body.isNone = false := ⟨_, Tryd.func41, by kernel_rfl, by kernel_rfl⟩
theorem fnOk42 : ∃ fn, Tryd.prog.funcs[42]? = some fn ∧ (fn.name == "runtime.NumGoroutine") = false ∧ fn.body.isNone = false := ⟨_, Tryd.func42, by kernel_rfl, by kernel_rfl⟩
theorem fnOk43 : ∃ fn, Tryd.prog.funcs[43]? = some fn ∧ (fn.name == "runtime.NumGoroutine") = false ∧ fn.body.isNone = false := ⟨_, Tryd.func43, by kernel_rfl, by kernel_rfl⟩
theorem fnsOk : FnsOk Tryd.prog fns := ⟨fnOk11, fnOk12, fnOk14, fnOk16, fnOk18, fnOk23, fnOk24, fnOk25, fnOk28, fnOk29, fnOk30, fnOk31, fnOk32, fnOk36, fnOk37, fnOk38, fnOk39, fnOk40, fnOk41, fnOk42, fnOk43, trivial⟩
theorem follows : Tryd.prog.follows .mixedOrders = true := by kernel_rfl
def ats : Ats := [(3, [.int .i64]), (5, [.int .u8]), (9, [.str]), (35, [.int .i64, .str, .int .i64])]
noncomputable abbrev ax : Ax := ⟨Tryd.prog, tys, ats, fns, [0, 1, 17, 18], [35], [25], [(19, (Lib.pow10Tab.map fun z => Value.int .u64 z).toArray)], []⟩
theorem zOk : ZOk ax := fun _ _ _ h => by cases h
theorem guard35 : Tryd.prog.eqGuardType Tryd.prog.depth 35 = false := by kernel_rfl
theorem held35 : Tryd.prog.stoodInHeld 35 = false := by kernel_rfl
theorem struct35 : Tryd.prog.underlying 35 = some (.struct (Tryd.prog.fieldsOf 35)) := by kernel_rfl
theorem eq35 (w : World) (a0 b0 : Int) (a1 b1 : ByteArray) (a2 b2 : Int) : (Op.equalIn 10000 35 (.agg #[(.int .i64 a0), (.string a1), (.int .i64 a2)]) (.agg #[(.int .i64 b0), (.string b1), (.int .i64 b2)])).run Tryd.prog w = .ok (a0 == b0 && (strEq a1 b1 && (a2 == b2))) w := by
  rw [run_equalIn_agg w _ _ _ _ struct35 held35]
  obtain ⟨g0, g1, g2, e, n0, t0, o0, n1, t1, o1, n2, t2, o2⟩ : ∃ g0 g1 g2, (Tryd.prog.fieldsOf 35).toList = [g0, g1, g2] ∧ g0.name = "Kind" ∧ g0.type = 3 ∧ g0.offset = 0 ∧ g1.name = "Text" ∧ g1.type = 9 ∧ g1.offset = 1 ∧ g2.name = "Int" ∧ g2.type = 3 ∧ g2.offset = 2 := by
    have hm : (Tryd.prog.fieldsOf 35).toList.map (fun f => (f.name, f.type, f.offset)) = [("Kind", 3, 0), ("Text", 9, 1), ("Int", 3, 2)] := by kernel_rfl
    obtain ⟨g0, r0, e0, hf0, hr0⟩ := List.map_eq_cons_iff.1 hm
    obtain ⟨g1, r1, e1, hf1, hr1⟩ := List.map_eq_cons_iff.1 hr0
    obtain ⟨g2, r2, e2, hf2, hr2⟩ := List.map_eq_cons_iff.1 hr1
    have e9 := List.map_eq_nil_iff.1 hr2
    subst e9 e2 e1
    simp only [Prod.mk.injEq] at hf0 hf1 hf2
    exact ⟨g0, g1, g2, e0, hf0.1, hf0.2.1, hf0.2.2, hf1.1, hf1.2.1, hf1.2.2, hf2.1, hf2.2.1, hf2.2.2⟩
  rw [e]
  have p0 : ∀ (cs : Array Value) (x : Int), cs[0]? = some (.int .i64 x) → (part 3 cs 0).run Tryd.prog w = .ok (.int .i64 x) w := fun cs x h => by simp [part, isAgg, run_underlying Tryd.underlying3, h]
  have p1 : ∀ (cs : Array Value) (x : ByteArray), cs[1]? = some (.string x) → (part 9 cs 1).run Tryd.prog w = .ok (.string x) w := fun cs x h => by simp [part, isAgg, run_underlying Tryd.underlying9, h]
  have p2 : ∀ (cs : Array Value) (x : Int), cs[2]? = some (.int .i64 x) → (part 3 cs 2).run Tryd.prog w = .ok (.int .i64 x) w := fun cs x h => by simp [part, isAgg, run_underlying Tryd.underlying3, h]
  simp only [Op.eqFields, n0, t0, o0, n1, t1, o1, n2, t2, o2]
  simp only [if_pos (show ("Kind" : String) ≠ "_" by decide), Sem.run_bind, p0 #[(.int .i64 a0), (.string a1), (.int .i64 a2)] a0 rfl, p0 #[(.int .i64 b0), (.string b1), (.int .i64 b2)] b0 rfl, Result.andThen_ok, run_equalIn_int w 9998 3 .i64 .i64 _ _ Tryd.underlying3, Sem.run_ite]
  cases h0 : (a0 == b0)
  · simp
  simp only [Bool.not_true, Bool.false_eq_true, if_false, Bool.true_and]
  simp only [if_pos (show ("Text" : String) ≠ "_" by decide), p1 #[(.int .i64 a0), (.string a1), (.int .i64 a2)] a1 rfl, p1 #[(.int .i64 b0), (.string b1), (.int .i64 b2)] b1 rfl, Result.andThen_ok, run_equalIn_string w 9998 9 _ _ Tryd.underlying9, strEq_list]
  cases h1 : (strEq a1 b1)
  · simp
  simp only [Bool.not_true, Bool.false_eq_true, if_false, Bool.true_and]
  simp only [if_pos (show ("Int" : String) ≠ "_" by decide), p2 #[(.int .i64 a0), (.string a1), (.int .i64 a2)] a2 rfl, p2 #[(.int .i64 b0), (.string b1), (.int .i64 b2)] b2 rfl, Result.andThen_ok, run_equalIn_int w 9998 3 .i64 .i64 _ _ Tryd.underlying3]
  cases h2 : (a2 == b2) <;> simp

theorem eqOk : EqOk ax := by
  refine ⟨zOk, ?_⟩
  intro t az hl hb op xo yo w gs G F us vs xs ys ho hu hv hx hy
  have ht : 35 = t := by simpa [hasB] using hb
  subst ht
  have has : az = [.int .i64, .str, .int .i64] := (Option.some.inj ((show lookO ax.ats 35 = some [.int .i64, .str, .int .i64] by rfl).symm.trans hl)).symm
  subst has
  have sh : ∀ us : List V, isA [.int .i64, .str, .int .i64] us = true → ∃ x0 x1 x2, us = [.int .i64 x0, .str x1, .int .i64 x2] := fun us h => by
    obtain ⟨u0, r0, rfl, h0, k0⟩ := isA_cons h
    obtain ⟨x0, rfl⟩ := is_int h0
    obtain ⟨u1, r1, rfl, h1, k1⟩ := isA_cons k0
    obtain ⟨x1, rfl⟩ := is_str h1
    obtain ⟨u2, r2, rfl, h2, k2⟩ := isA_cons k1
    obtain ⟨x2, rfl⟩ := is_int h2
    obtain rfl := isA_nil k2
    exact ⟨x0, x1, x2, rfl⟩
  obtain ⟨a0, a1, a2, rfl⟩ := sh us hu
  obtain ⟨b0, b1, b2, rfl⟩ := sh vs hv
  obtain ⟨x0, xr0, rfl, xa0, xb0⟩ := Rl.cons_inv hx
  obtain ⟨x1, xr1, rfl, xa1, xb1⟩ := Rl.cons_inv xb0
  obtain ⟨x2, xr2, rfl, xa2, xb2⟩ := Rl.cons_inv xb1
  obtain rfl := xb2.nil_inv
  cases xa0
  cases xa1
  cases xa2
  obtain ⟨y0, yr0, rfl, ya0, yb0⟩ := Rl.cons_inv hy
  obtain ⟨y1, yr1, rfl, ya1, yb1⟩ := Rl.cons_inv yb0
  obtain ⟨y2, yr2, rfl, ya2, yb2⟩ := Rl.cons_inv yb1
  obtain rfl := yb2.nil_inv
  cases ya0
  cases ya1
  cases ya2
  unfold Runs semEq
  rw [Sem.run_bind, run_eqGuard_agg w _ _ _ _ _ _ guard35, Result.andThen_ok]
  cases op <;> first | (simp [isEq] at ho; done) | skip
  · rw [run_eql_struct, eq35]; rfl
  · rw [run_neq_struct, eq35]; rfl

/-! ### small: function 37, augur/lex.small -/
def small.ah : AH := ⟨[], [], [], [], [], [some [.bool]], [], []⟩
set_option maxRecDepth 100000 in
def small.W (n1 : Int) (K : List V → Prop) : Prop :=
 (bif (decide (n1 ≥ (97 : Int))) then (K [(.bool (decide (n1 ≤ (122 : Int))))]) else (K [(.bool false)]))
set_option maxRecDepth 100000 in
theorem small.eq (n1 : Int) (K : List V → Prop) : small.W n1 K = afn ax small.ah Tryd.f37 [(.int .u8 n1)] [] (onlyV K) := by kernel_rfl
theorem small.ok : codeOk tys (hintsOf small.ah) Tryd.f37.ntmps (Tryd.f37.body.getD .skip) = true := by kernel_rfl
set_option maxHeartbeats 4000000 in
theorem small.calls {n1 K} (h : small.W n1 K) : PCalls ax 37 [(.int .u8 n1)] K :=
  afn_run (ah := small.ah) tysOk fnsOk follows eqOk Tryd.func37 (by kernel_rfl) small.ok (by kernel_rfl) (Eq.mp (small.eq n1 K) h)
/-! ### great: function 38, augur/lex.great -/
def great.ah : AH := ⟨[], [], [], [], [], [some [.bool]], [], []⟩
set_option maxRecDepth 100000 in
def great.W (n1 : Int) (K : List V → Prop) : Prop :=
 (bif (decide (n1 ≥ (65 : Int))) then (bif (decide (n1 ≤ (90 : Int))) then (K [(.bool true)]) else (K [(.bool (n1 == (95 : Int)))])) else (K [(.bool (n1 == (95 : Int)))]))
set_option maxRecDepth 100000 in
theorem great.eq (n1 : Int) (K : List V → Prop) : great.W n1 K = afn ax great.ah Tryd.f38 [(.int .u8 n1)] [] (onlyV K) := by kernel_rfl
theorem great.ok : codeOk tys (hintsOf great.ah) Tryd.f38.ntmps (Tryd.f38.body.getD .skip) = true := by kernel_rfl
set_option maxHeartbeats 4000000 in
theorem great.calls {n1 K} (h : great.W n1 K) : PCalls ax 38 [(.int .u8 n1)] K :=
  afn_run (ah := great.ah) tysOk fnsOk follows eqOk Tryd.func38 (by kernel_rfl) great.ok (by kernel_rfl) (Eq.mp (great.eq n1 K) h)
/-! ### digit: function 41, augur/lex.digit -/
def digit.ah : AH := ⟨[], [], [], [], [], [some [.bool]], [], []⟩
set_option maxRecDepth 100000 in
def digit.W (n1 : Int) (K : List V → Prop) : Prop :=
 (bif (decide (n1 ≥ (48 : Int))) then (K [(.bool (decide (n1 ≤ (57 : Int))))]) else (K [(.bool false)]))
set_option maxRecDepth 100000 in
theorem digit.eq (n1 : Int) (K : List V → Prop) : digit.W n1 K = afn ax digit.ah Tryd.f41 [(.int .u8 n1)] [] (onlyV K) := by kernel_rfl
theorem digit.ok : codeOk tys (hintsOf digit.ah) Tryd.f41.ntmps (Tryd.f41.body.getD .skip) = true := by kernel_rfl
set_option maxHeartbeats 4000000 in
theorem digit.calls {n1 K} (h : digit.W n1 K) : PCalls ax 41 [(.int .u8 n1)] K :=
  afn_run (ah := digit.ah) tysOk fnsOk follows eqOk Tryd.func41 (by kernel_rfl) digit.ok (by kernel_rfl) (Eq.mp (digit.eq n1 K) h)
/-! ### inner: function 40, augur/lex.inner -/
def inner.ah : AH := ⟨[], [], [], [(37, ⟨[some [.int .u8]], [.c (.bool)], []⟩), (38, ⟨[some [.int .u8]], [.c (.bool)], []⟩), (41, ⟨[some [.int .u8]], [.c (.bool)], []⟩)], [], [some [.bool]], [], []⟩
set_option maxRecDepth 100000 in
def inner.W (n1 : Int) (K : List V → Prop) : Prop :=
 (PCalls ax 37 [(.int .u8 n1)] fun r3 => ∃ (b2 : Bool), r3 = [(.bool b2)] ∧ (bif b2 then (K [(.bool true)]) else (PCalls ax 38 [(.int .u8 n1)] fun r5 => ∃ (b4 : Bool), r5 = [(.bool b4)] ∧ (bif b4 then (K [(.bool true)]) else (PCalls ax 41 [(.int .u8 n1)] fun r7 => ∃ (b6 : Bool), r7 = [(.bool b6)] ∧ (K [(.bool b6)]))))))
set_option maxRecDepth 100000 in
theorem inner.eq (n1 : Int) (K : List V → Prop) : inner.W n1 K = afn ax inner.ah Tryd.f40 [(.int .u8 n1)] [] (onlyV K) := by kernel_rfl
theorem inner.ok : codeOk tys (hintsOf inner.ah) Tryd.f40.ntmps (Tryd.f40.body.getD .skip) = true := by kernel_rfl
set_option maxHeartbeats 4000000 in
theorem inner.calls {n1 K} (h : inner.W n1 K) : PCalls ax 40 [(.int .u8 n1)] K :=
  afn_run (ah := inner.ah) tysOk fnsOk follows eqOk Tryd.func40 (by kernel_rfl) inner.ok (by kernel_rfl) (Eq.mp (inner.eq n1 K) h)
/-! ### skip: function 28, augur/lex.skip -/
def skip.ah : AH := ⟨[], [(1, ⟨[(1, [.d (.int .i64)], false)], [], [], []⟩)], [(7, ⟨[(13, [.d (.bool)], false)], [], [], []⟩)], [(36, ⟨[some [.str], some [.int .u8]], [.c (.int .i64)], []⟩)], [], [some [.int .i64]], [], []⟩
set_option maxRecDepth 100000 in
def skip.W (s1 : ByteArray) (n2 : Int) (K : List V → Prop) : Prop :=
 (∃ (I10 : List V → Prop) (μ11 : List V → Nat), I10 [(.int .i64 n2)] ∧ (∀ (n12 : Int), I10 [(.int .i64 n12)] →
 (bif (decide (n12 < (s1.size : Int))) then
 (0 ≤ n12 ∧ ∃ u14 : UInt8, s1[(n12 : Int).toNat]? = some u14 ∧ (∃ J15 : List V → Prop, (bif ((u14.toNat : Int) == (9 : Int)) then
 (J15 [(.bool true)])
 else
 (bif ((u14.toNat : Int) == (10 : Int)) then
 (J15 [(.bool true)])
 else
 (bif ((u14.toNat : Int) == (13 : Int)) then
 (J15 [(.bool true)])
 else
 (J15 [(.bool ((u14.toNat : Int) == (32 : Int)))])))) ∧
 (∀ (b16 : Bool), J15 [(.bool b16)] →
 (bif b16 then
 (I10 [(.int .i64 (IntKind.i64.wrap (n12 + 1)))] ∧ μ11 [(.int .i64 (IntKind.i64.wrap (n12 + 1)))] < μ11 [(.int .i64 n12)])
 else
 (bif ((u14.toNat : Int) == (37 : Int)) then
 (0 ≤ n12 ∧ n12 ≤ (s1.size : Int) ∧ (PCalls ax 36 [(.str (s1.extract (n12 : Int).toNat s1.size)), (.int .u8 10)] fun r18 => ∃ (n17 : Int), r18 = [(.int .i64 n17)] ∧ (bif (decide (n17 < (0 : Int))) then
 (K [(.int .i64 (s1.size : Int))])
 else
 (I10 [(.int .i64 (IntKind.i64.wrap (n12 + n17)))] ∧ μ11 [(.int .i64 (IntKind.i64.wrap (n12 + n17)))] < μ11 [(.int .i64 n12)]))))
 else
 (K [(.int .i64 n12)]))))))
 else
 (K [(.int .i64 n12)]))))
set_option maxRecDepth 100000 in
theorem skip.eq (s1 : ByteArray) (n2 : Int) (K : List V → Prop) : skip.W s1 n2 K = afn ax skip.ah Tryd.f28 [(.str s1), (.int .i64 n2)] [] (onlyV K) := by kernel_rfl
theorem skip.ok : codeOk tys (hintsOf skip.ah) Tryd.f28.ntmps (Tryd.f28.body.getD .skip) = true := by kernel_rfl
set_option maxHeartbeats 4000000 in
theorem skip.calls {s1 n2 K} (h : skip.W s1 n2 K) : PCalls ax 28 [(.str s1), (.int .i64 n2)] K :=
  afn_run (ah := skip.ah) tysOk fnsOk follows eqOk Tryd.func28 (by kernel_rfl) skip.ok (by kernel_rfl) (Eq.mp (skip.eq s1 n2 K) h)
/-! ### spanD: function 39, augur/lex.span -/
def spanD.ah : AH := ⟨[], [(2, ⟨[(7, [.d (.int .i64)], false)], [], [], []⟩)], [], [(41, ⟨[some [.int .u8]], [.c (.bool)], []⟩)], [], [some [.int .i64]], [], []⟩
set_option maxRecDepth 100000 in
def spanD.W (s1 : ByteArray) (n2 : Int) (K : List V → Prop) : Prop :=
 (∃ (I7 : List V → Prop) (μ8 : List V → Nat), I7 [(.int .i64 n2)] ∧ (∀ (n9 : Int), I7 [(.int .i64 n9)] →
 (bif (decide (n9 < (s1.size : Int))) then (0 ≤ n9 ∧ ∃ u10 : UInt8, s1[(n9 : Int).toNat]? = some u10 ∧ (PCalls ax 41 [(.int .u8 (u10.toNat : Int))] fun r12 => ∃ (b11 : Bool), r12 = [(.bool b11)] ∧ (bif b11 then
 (I7 [(.int .i64 (IntKind.i64.wrap (n9 + 1)))] ∧ μ8 [(.int .i64 (IntKind.i64.wrap (n9 + 1)))] < μ8 [(.int .i64 n9)])
 else
 (K [(.int .i64 (IntKind.i64.wrap (n9 - n2)))])))) else (K [(.int .i64 (IntKind.i64.wrap (n9 - n2)))]))))
set_option maxRecDepth 100000 in
theorem spanD.eq (s1 : ByteArray) (n2 : Int) (K : List V → Prop) : spanD.W s1 n2 K = afn ax spanD.ah Tryd.f39 [(.str s1), (.int .i64 n2), (.fn 41 [] [])] [] (onlyV K) := by kernel_rfl
theorem spanD.ok : codeOk tys (hintsOf spanD.ah) Tryd.f39.ntmps (Tryd.f39.body.getD .skip) = true := by kernel_rfl
set_option maxHeartbeats 4000000 in
theorem spanD.calls {s1 n2 K} (h : spanD.W s1 n2 K) : PCalls ax 39 [(.str s1), (.int .i64 n2), (.fn 41 [] [])] K :=
  afn_run (ah := spanD.ah) tysOk fnsOk follows eqOk Tryd.func39 (by kernel_rfl) spanD.ok (by kernel_rfl) (Eq.mp (spanD.eq s1 n2 K) h)
/-! ### spanI: function 39, augur/lex.span -/
def spanI.ah : AH := ⟨[], [(2, ⟨[(7, [.d (.int .i64)], false)], [], [], []⟩)], [], [(40, ⟨[some [.int .u8]], [.c (.bool)], []⟩)], [], [some [.int .i64]], [], []⟩
set_option maxRecDepth 100000 in
def spanI.W (s1 : ByteArray) (n2 : Int) (K : List V → Prop) : Prop :=
 (∃ (I7 : List V → Prop) (μ8 : List V → Nat), I7 [(.int .i64 n2)] ∧ (∀ (n9 : Int), I7 [(.int .i64 n9)] →
 (bif (decide (n9 < (s1.size : Int))) then (0 ≤ n9 ∧ ∃ u10 : UInt8, s1[(n9 : Int).toNat]? = some u10 ∧ (PCalls ax 40 [(.int .u8 (u10.toNat : Int))] fun r12 => ∃ (b11 : Bool), r12 = [(.bool b11)] ∧ (bif b11 then
 (I7 [(.int .i64 (IntKind.i64.wrap (n9 + 1)))] ∧ μ8 [(.int .i64 (IntKind.i64.wrap (n9 + 1)))] < μ8 [(.int .i64 n9)])
 else
 (K [(.int .i64 (IntKind.i64.wrap (n9 - n2)))])))) else (K [(.int .i64 (IntKind.i64.wrap (n9 - n2)))]))))
set_option maxRecDepth 100000 in
theorem spanI.eq (s1 : ByteArray) (n2 : Int) (K : List V → Prop) : spanI.W s1 n2 K = afn ax spanI.ah Tryd.f39 [(.str s1), (.int .i64 n2), (.fn 40 [] [])] [] (onlyV K) := by kernel_rfl
theorem spanI.ok : codeOk tys (hintsOf spanI.ah) Tryd.f39.ntmps (Tryd.f39.body.getD .skip) = true := by kernel_rfl
set_option maxHeartbeats 4000000 in
theorem spanI.calls {s1 n2 K} (h : spanI.W s1 n2 K) : PCalls ax 39 [(.str s1), (.int .i64 n2), (.fn 40 [] [])] K :=
  afn_run (ah := spanI.ah) tysOk fnsOk follows eqOk Tryd.func39 (by kernel_rfl) spanI.ok (by kernel_rfl) (Eq.mp (spanI.eq s1 n2 K) h)
/-! ### token: function 29, augur/lex.token -/
def token.ah : AH := ⟨[], [], [(4, ⟨[(12, [.d (.bool)], false)], [], [], []⟩), (11, ⟨[(33, [.d (.bool)], false)], [], [], []⟩)], [(36, ⟨[some [.str], some [.int .u8]], [.c (.int .i64)], []⟩), (37, ⟨[some [.int .u8]], [.c (.bool)], []⟩), (38, ⟨[some [.int .u8]], [.c (.bool)], []⟩), (39, ⟨[some [.str], some [.int .i64], none], [.c (.int .i64)], []⟩), (41, ⟨[some [.int .u8]], [.c (.bool)], []⟩), (42, ⟨[some [.str], some [.int .i64]], [.ag [.int .i64, .str, .int .i64], .c (.bool)], []⟩), (43, ⟨[some [.str], some [.str]], [.c (.bool)], []⟩)], [], [some [.int .i64, .str, .int .i64], some [.bool]], [], []⟩
set_option maxRecDepth 100000 in
def token.W (s1 : ByteArray) (n2 : Int) (K : List V → Prop) : Prop :=
 (0 ≤ n2 ∧ ∃ u4 : UInt8, s1[(n2 : Int).toNat]? = some u4 ∧ (∃ J9 : List V → Prop, (PCalls ax 37 [(.int .u8 (u4.toNat : Int))] fun r11 => ∃ (b10 : Bool), r11 = [(.bool b10)] ∧ (bif b10 then
 (J9 [(.bool true)])
 else
 (PCalls ax 38 [(.int .u8 (u4.toNat : Int))] fun r13 => ∃ (b12 : Bool), r13 = [(.bool b12)] ∧ (J9 [(.bool b12)])))) ∧
 (∀ (b14 : Bool), J9 [(.bool b14)] →
 (bif b14 then
 (PCalls ax 39 [(.str s1), (.int .i64 n2), (.fn 40 [] [])] fun r16 => ∃ (n15 : Int), r16 = [(.int .i64 n15)] ∧ (0 ≤ n2 ∧ n2 ≤ (IntKind.i64.wrap (n2 + n15)) ∧ (IntKind.i64.wrap (n2 + n15)) ≤ (s1.size : Int) ∧ (PCalls ax 38 [(.int .u8 (u4.toNat : Int))] fun r18 => ∃ (b17 : Bool), r18 = [(.bool b17)] ∧ (bif b17 then
 (K [(.agg [(.int .i64 2), (.str (s1.extract (n2 : Int).toNat ((IntKind.i64.wrap (n2 + n15)) : Int).toNat)), (.int .i64 0)]), (.bool (decide (((s1.extract (n2 : Int).toNat ((IntKind.i64.wrap (n2 + n15)) : Int).toNat).size : Int) ≤ (32 : Int))))])
 else
 (K [(.agg [(.int .i64 1), (.str (s1.extract (n2 : Int).toNat ((IntKind.i64.wrap (n2 + n15)) : Int).toNat)), (.int .i64 0)]), (.bool (decide (((s1.extract (n2 : Int).toNat ((IntKind.i64.wrap (n2 + n15)) : Int).toNat).size : Int) ≤ (32 : Int))))])))))
 else
 (∃ J21 : List V → Prop, (PCalls ax 41 [(.int .u8 (u4.toNat : Int))] fun r23 => ∃ (b22 : Bool), r23 = [(.bool b22)] ∧ (bif b22 then
 (J21 [(.bool true)])
 else
 (J21 [(.bool ((u4.toNat : Int) == (45 : Int)))]))) ∧
 (∀ (b24 : Bool), J21 [(.bool b24)] →
 (bif b24 then
 (PCalls ax 42 [(.str s1), (.int .i64 n2)] fun r29 => ∃ (n25 : Int) (s26 : ByteArray) (n27 : Int) (b28 : Bool), r29 = [(.agg [(.int .i64 n25), (.str s26), (.int .i64 n27)]), (.bool b28)] ∧ (K [(.agg [(.int .i64 n25), (.str s26), (.int .i64 n27)]), (.bool b28)]))
 else
 (0 ≤ n2 ∧ n2 ≤ (s1.size : Int) ∧ (PCalls ax 43 [(.str (s1.extract (n2 : Int).toNat s1.size)), (.str (⟨#[58, 45]⟩ : ByteArray))] fun r33 => ∃ (b32 : Bool), r33 = [(.bool b32)] ∧ (bif b32 then
 (K [(.agg [(.int .i64 4), (.str (⟨#[58, 45]⟩ : ByteArray)), (.int .i64 0)]), (.bool true)])
 else
 (PCalls ax 36 [(.str (⟨#[40, 41, 44, 46, 59, 124, 61]⟩ : ByteArray)), (.int .u8 (u4.toNat : Int))] fun r35 => ∃ (n34 : Int), r35 = [(.int .i64 n34)] ∧ (bif (decide (n34 ≥ (0 : Int))) then
 (0 ≤ n2 ∧ n2 ≤ (IntKind.i64.wrap (n2 + 1)) ∧ (IntKind.i64.wrap (n2 + 1)) ≤ (s1.size : Int) ∧ (K [(.agg [(.int .i64 4), (.str (s1.extract (n2 : Int).toNat ((IntKind.i64.wrap (n2 + 1)) : Int).toNat)), (.int .i64 0)]), (.bool true)]))
 else
 (K [(.agg [(.int .i64 0), (.str (⟨#[]⟩ : ByteArray)), (.int .i64 0)]), (.bool false)])))))))))))))
set_option maxRecDepth 100000 in
theorem token.eq (s1 : ByteArray) (n2 : Int) (K : List V → Prop) : token.W s1 n2 K = afn ax token.ah Tryd.f29 [(.str s1), (.int .i64 n2)] [] (onlyV K) := by kernel_rfl
theorem token.ok : codeOk tys (hintsOf token.ah) Tryd.f29.ntmps (Tryd.f29.body.getD .skip) = true := by kernel_rfl
set_option maxHeartbeats 4000000 in
theorem token.calls {s1 n2 K} (h : token.W s1 n2 K) : PCalls ax 29 [(.str s1), (.int .i64 n2)] K :=
  afn_run (ah := token.ah) tysOk fnsOk follows eqOk Tryd.func29 (by kernel_rfl) token.ok (by kernel_rfl) (Eq.mp (token.eq s1 n2 K) h)
/-! ### yield: function 24, augur/lex.Lex$1 -/
def yield.ah : AH := ⟨[], [], [], [], [], [some [.bool]], [], []⟩
set_option maxRecDepth 100000 in
def yield.W (_n1 : Int) (n2 : Int) (s3 : ByteArray) (n4 : Int) (L : List (List V)) (K : List V → List Ob → Prop) : Prop :=
 (((List.length L) + (List.length ([[(.int .i64 n2), (.str s3), (.int .i64 n4)]] : List (List V)))) * 32 ≤ 140737488355328 ∧ (List.length L) + (List.length ([[(.int .i64 n2), (.str s3), (.int .i64 n4)]] : List (List V))) ≤ 140737488355328 ∧ (K [(.bool true)] [(.box [(.own 2)]), .dead, (.lst 35 3 false (L ++ [[(.int .i64 n2), (.str s3), (.int .i64 n4)]]))]))
set_option maxRecDepth 100000 in
theorem yield.eq (n1 : Int) (n2 : Int) (s3 : ByteArray) (n4 : Int) (L : List (List V)) (K : List V → List Ob → Prop) : yield.W n1 n2 s3 n4 L K = afn ax yield.ah Tryd.f24 [(.int .i64 n1), (.agg [(.int .i64 n2), (.str s3), (.int .i64 n4)]), (.ptr 0 0)] [(.box [(.own 1)]), (.lst 35 3 false L)] K := by kernel_rfl
theorem yield.ok : codeOk tys (hintsOf yield.ah) Tryd.f24.ntmps (Tryd.f24.body.getD .skip) = true := by kernel_rfl
set_option maxHeartbeats 4000000 in
theorem yield.calls {n1 n2 s3 n4 L K} (h : yield.W n1 n2 s3 n4 L K) : SCalls ax 24 [(.int .i64 n1), (.agg [(.int .i64 n2), (.str s3), (.int .i64 n4)]), (.ptr 0 0)] [(.box [(.own 1)]), (.lst 35 3 false L)] K :=
  afn_run (ah := yield.ah) tysOk fnsOk follows eqOk Tryd.func24 (by kernel_rfl) yield.ok (by kernel_rfl) (Eq.mp (yield.eq n1 n2 s3 n4 L K) h)
/-! ### each: function 23, augur/lex.each -/
def each.ah : AH := ⟨[], [(2, ⟨[(5, [.d (.int .i64)], false)], [(0, [.nw 35 3 false])], [], []⟩)], [], [(24, ⟨[some [.int .i64], some [.int .i64, .str, .int .i64], none], [.c (.bool)], [.box [.l (.own 2)], .dead, .lst 35 3 false]⟩), (28, ⟨[some [.str], some [.int .i64]], [.c (.int .i64)], []⟩), (29, ⟨[some [.str], some [.int .i64]], [.ag [.int .i64, .str, .int .i64], .c (.bool)], []⟩)], [], [some [.bool]], [(0, [.nw 35 3 false])], []⟩
set_option maxRecDepth 100000 in
def each.W (s1 : ByteArray) (K : List V → List Ob → Prop) : Prop :=
 (PCalls ax 28 [(.str s1), (.int .i64 0)] fun r5 => ∃ (n4 : Int), r5 = [(.int .i64 n4)] ∧ (∃ (I41 : List V → Prop) (μ42 : List V → Nat), I41 [(.int .i64 n4), (.sl 3 [])] ∧ (∀ (n43 : Int) (l44 : List (List V)), I41 [(.int .i64 n43), (.sl 3 l44)] →
 (bif (decide (n43 < (s1.size : Int))) then
 (PCalls ax 29 [(.str s1), (.int .i64 n43)] fun r54 => ∃ (n50 : Int) (s51 : ByteArray) (n52 : Int) (b53 : Bool), r54 = [(.agg [(.int .i64 n50), (.str s51), (.int .i64 n52)]), (.bool b53)] ∧ (bif (!b53) then (K [(.bool false)] [(.box [(.own 1)]), (.lst 35 3 false l44)]) else (SCalls ax 24 [(.int .i64 n43), (.agg [(.int .i64 n50), (.str s51), (.int .i64 n52)]), (.ptr 0 0)] [(.box [(.own 1)]), (.lst 35 3 false l44)] fun r56 o58 => ∃ (b55 : Bool) (l57 : List (List V)), r56 = [(.bool b55)] ∧ o58 = [(.box [(.own 2)]), .dead, (.lst 35 3 false l57)] ∧ (bif (!b55) then
 (K [(.bool false)] [(.box [(.own 1)]), (.lst 35 3 false l57)])
 else
 (PCalls ax 28 [(.str s1), (.int .i64 (IntKind.i64.wrap (n43 + (s51.size : Int))))] fun r60 => ∃ (n59 : Int), r60 = [(.int .i64 n59)] ∧ (I41 [(.int .i64 n59), (.sl 3 l57)] ∧ μ42 [(.int .i64 n59), (.sl 3 l57)] < μ42 [(.int .i64 n43), (.sl 3 l44)]))))))
 else
 (K [(.bool true)] [(.box [(.own 1)]), (.lst 35 3 false l44)])))))
set_option maxRecDepth 100000 in
theorem each.eq (s1 : ByteArray) (K : List V → List Ob → Prop) : each.W s1 K = afn ax each.ah Tryd.f23 [(.str s1), (.fn 24 [] [(.ptr 0 0)])] [(.box [.nls])] K := by kernel_rfl
theorem each.ok : codeOk tys (hintsOf each.ah) Tryd.f23.ntmps (Tryd.f23.body.getD .skip) = true := by kernel_rfl
set_option maxHeartbeats 4000000 in
theorem each.calls {s1 K} (h : each.W s1 K) : SCalls ax 23 [(.str s1), (.fn 24 [] [(.ptr 0 0)])] [(.box [.nls])] K :=
  afn_run (ah := each.ah) tysOk fnsOk follows eqOk Tryd.func23 (by kernel_rfl) each.ok (by kernel_rfl) (Eq.mp (each.eq s1 K) h)
/-! ### Lex: function 12, augur/lex.Lex -/
def Lex.ah : AH := ⟨[(2, seqO [0, 1, 2]), (6, seqO [0, 1, 2])], [], [], [(23, ⟨[some [.str], none], [.c (.bool)], [.box [.l (.own 1)], .lst 35 3 false]⟩)], [], [some [.sl 3], some [.err]], [], []⟩
set_option maxRecDepth 100000 in
def Lex.W (s1 : ByteArray) (K : List V → Prop) : Prop :=
 (bif (decide ((s1.size : Int) > (16384 : Int))) then
 (K [(.sl 3 []), (.err (some 1))])
 else
 (SCalls ax 23 [(.str s1), (.fn 24 [] [(.ptr 0 0)])] [(.box [.nls])] fun r3 o5 => ∃ (b2 : Bool) (l4 : List (List V)), r3 = [(.bool b2)] ∧ o5 = [(.box [(.own 1)]), (.lst 35 3 false l4)] ∧ (bif (!b2) then
 (K [(.sl 3 []), (.err (some 0))])
 else
 (K [(.sl 3 l4), (.err none)]))))
set_option maxRecDepth 100000 in
theorem Lex.eq (s1 : ByteArray) (K : List V → Prop) : Lex.W s1 K = afn ax Lex.ah Tryd.f12 [(.str s1)] [] (onlyV K) := by kernel_rfl
theorem Lex.ok : codeOk tys (hintsOf Lex.ah) Tryd.f12.ntmps (Tryd.f12.body.getD .skip) = true := by kernel_rfl
set_option maxHeartbeats 4000000 in
theorem Lex.calls {s1 K} (h : Lex.W s1 K) : PCalls ax 12 [(.str s1)] K :=
  afn_run (ah := Lex.ah) tysOk fnsOk follows eqOk Tryd.func12 (by kernel_rfl) Lex.ok (by kernel_rfl) (Eq.mp (Lex.eq s1 K) h)
/-! ### rletter: function 30, augur/augurref01.letter -/
def rletter.ah : AH := ⟨[], [], [], [], [], [some [.bool]], [], []⟩
set_option maxRecDepth 100000 in
def rletter.W (n1 : Int) (K : List V → Prop) : Prop :=
 (bif (decide (n1 ≥ (97 : Int))) then (bif (decide (n1 ≤ (122 : Int))) then (K [(.bool true)]) else (bif (decide (n1 ≥ (65 : Int))) then (bif (decide (n1 ≤ (90 : Int))) then (K [(.bool true)]) else (K [(.bool (n1 == (95 : Int)))])) else (K [(.bool (n1 == (95 : Int)))]))) else (bif (decide (n1 ≥ (65 : Int))) then (bif (decide (n1 ≤ (90 : Int))) then (K [(.bool true)]) else (K [(.bool (n1 == (95 : Int)))])) else (K [(.bool (n1 == (95 : Int)))])))
set_option maxRecDepth 100000 in
theorem rletter.eq (n1 : Int) (K : List V → Prop) : rletter.W n1 K = afn ax rletter.ah Tryd.f30 [(.int .u8 n1)] [] (onlyV K) := by kernel_rfl
theorem rletter.ok : codeOk tys (hintsOf rletter.ah) Tryd.f30.ntmps (Tryd.f30.body.getD .skip) = true := by kernel_rfl
set_option maxHeartbeats 4000000 in
theorem rletter.calls {n1 K} (h : rletter.W n1 K) : PCalls ax 30 [(.int .u8 n1)] K :=
  afn_run (ah := rletter.ah) tysOk fnsOk follows eqOk Tryd.func30 (by kernel_rfl) rletter.ok (by kernel_rfl) (Eq.mp (rletter.eq n1 K) h)
/-! ### rdigit: function 31, augur/augurref01.digit -/
def rdigit.ah : AH := ⟨[], [], [], [], [], [some [.bool]], [], []⟩
set_option maxRecDepth 100000 in
def rdigit.W (n1 : Int) (K : List V → Prop) : Prop :=
 (bif (decide (n1 ≥ (48 : Int))) then (K [(.bool (decide (n1 ≤ (57 : Int))))]) else (K [(.bool false)]))
set_option maxRecDepth 100000 in
theorem rdigit.eq (n1 : Int) (K : List V → Prop) : rdigit.W n1 K = afn ax rdigit.ah Tryd.f31 [(.int .u8 n1)] [] (onlyV K) := by kernel_rfl
theorem rdigit.ok : codeOk tys (hintsOf rdigit.ah) Tryd.f31.ntmps (Tryd.f31.body.getD .skip) = true := by kernel_rfl
set_option maxHeartbeats 4000000 in
theorem rdigit.calls {n1 K} (h : rdigit.W n1 K) : PCalls ax 31 [(.int .u8 n1)] K :=
  afn_run (ah := rdigit.ah) tysOk fnsOk follows eqOk Tryd.func31 (by kernel_rfl) rdigit.ok (by kernel_rfl) (Eq.mp (rdigit.eq n1 K) h)
/-! ### RInt: function 32, augur/augurref01.Int -/
def RInt.ah : AH := ⟨[], [(8, ⟨[(5, [.d (.int .i64)], false), (6, [.d (.int .i64)], false)], [], [], []⟩)], [(4, ⟨[(4, [.d (.str)], false)], [], [], []⟩), (6, ⟨[], [], [], []⟩)], [], [], [some [.int .i64], some [.bool]], [], []⟩
set_option maxRecDepth 100000 in
def RInt.W (s1 : ByteArray) (K : List V → Prop) : Prop :=
 (∃ J3 : List V → Prop, (bif (decide ((s1.size : Int) > (0 : Int))) then (0 ≤ (0 : Int) ∧ ∃ u4 : UInt8, s1[0]? = some u4 ∧ (bif ((u4.toNat : Int) == (45 : Int)) then
 (0 ≤ (1 : Int) ∧ (1 : Int) ≤ (s1.size : Int) ∧ (J3 [(.str (s1.extract 1 s1.size))]))
 else
 (J3 [(.str s1)]))) else (J3 [(.str s1)])) ∧
 (∀ (s5 : ByteArray), J3 [(.str s5)] →
 (∃ J7 : List V → Prop, (bif ((s5.size : Int) == (0 : Int)) then (K [(.int .i64 0), (.bool false)]) else (bif (decide ((s5.size : Int) > (19 : Int))) then (K [(.int .i64 0), (.bool false)]) else (0 ≤ (0 : Int) ∧ ∃ u8 : UInt8, s5[0]? = some u8 ∧ (bif ((u8.toNat : Int) == (48 : Int)) then (bif (decide ((s1.size : Int) > (1 : Int))) then
 (K [(.int .i64 0), (.bool false)])
 else
 (J7 [])) else (J7 []))))) ∧
 (J7 [] →
 (∃ (I29 : List V → Prop) (μ30 : List V → Nat), I29 [(.int .i64 0), (.int .i64 0)] ∧ (∀ (n31 : Int) (n32 : Int), I29 [(.int .i64 n31), (.int .i64 n32)] →
 (bif (decide (n32 < (s5.size : Int))) then
 (0 ≤ n32 ∧ ∃ u34 : UInt8, s5[(n32 : Int).toNat]? = some u34 ∧ (0 ≤ n32 ∧ ∃ u35 : UInt8, s5[(n32 : Int).toNat]? = some u35 ∧ (bif (decide ((u35.toNat : Int) < (48 : Int))) then (K [(.int .i64 0), (.bool false)]) else (0 ≤ n32 ∧ ∃ u36 : UInt8, s5[(n32 : Int).toNat]? = some u36 ∧ (bif (decide ((u36.toNat : Int) > (57 : Int))) then (K [(.int .i64 0), (.bool false)]) else (IntKind.i64 = IntKind.i64 ∧ (10 : Int) ≠ 0 ∧ (bif (decide (n31 < (IntKind.i64.wrap (Int.tdiv (IntKind.i64.wrap ((-9223372036854775808) + (IntKind.i64.wrap (IntKind.u8.wrap ((u34.toNat : Int) - 48))))) (10 : Int))))) then
 (K [(.int .i64 0), (.bool false)])
 else
 (I29 [(.int .i64 (IntKind.i64.wrap ((IntKind.i64.wrap (10 * n31)) - (IntKind.i64.wrap (IntKind.u8.wrap ((u34.toNat : Int) - 48)))))), (.int .i64 (IntKind.i64.wrap (n32 + 1)))] ∧ μ30 [(.int .i64 (IntKind.i64.wrap ((IntKind.i64.wrap (10 * n31)) - (IntKind.i64.wrap (IntKind.u8.wrap ((u34.toNat : Int) - 48)))))), (.int .i64 (IntKind.i64.wrap (n32 + 1)))] < μ30 [(.int .i64 n31), (.int .i64 n32)]))))))))
 else
 (0 ≤ (0 : Int) ∧ ∃ u37 : UInt8, s1[0]? = some u37 ∧ (bif ((u37.toNat : Int) == (45 : Int)) then
 (K [(.int .i64 n31), (.bool true)])
 else
 (bif (n31 == (-9223372036854775808)) then
 (K [(.int .i64 0), (.bool false)])
 else
 (K [(.int .i64 (IntKind.i64.wrap (0 - n31))), (.bool true)])))))))))))
set_option maxRecDepth 100000 in
theorem RInt.eq (s1 : ByteArray) (K : List V → Prop) : RInt.W s1 K = afn ax RInt.ah Tryd.f32 [(.str s1)] [] (onlyV K) := by kernel_rfl
theorem RInt.ok : codeOk tys (hintsOf RInt.ah) Tryd.f32.ntmps (Tryd.f32.body.getD .skip) = true := by kernel_rfl
set_option maxHeartbeats 4000000 in
theorem RInt.calls {s1 K} (h : RInt.W s1 K) : PCalls ax 32 [(.str s1)] K :=
  afn_run (ah := RInt.ah) tysOk fnsOk follows eqOk Tryd.func32 (by kernel_rfl) RInt.ok (by kernel_rfl) (Eq.mp (RInt.eq s1 K) h)
/-! ### RWord: function 25, augur/augurref01.Word -/
def RWord.ah : AH := ⟨[(15, seqO [0, 1, 2, 3, 4, 5, 6, 7, 8, 9, 10, 11, 12, 13, 14, 15, 16, 17, 18, 19, 20, 21])], [(4, ⟨[(7, [.d (.int .i64)], false)], [], [], []⟩), (12, ⟨[(7, [.d (.int .i64)], false)], [], [], []⟩), (19, ⟨[(121, [.d (.int .i64)], false)], [], [], []⟩)], [(6, ⟨[(7, [.d (.int .i64)], false)], [], [], []⟩), (11, ⟨[(58, [.d (.bool)], false)], [], [], []⟩), (14, ⟨[(7, [.d (.int .i64)], false)], [], [], []⟩), (18, ⟨[], [], [], []⟩)], [(30, ⟨[some [.int .u8]], [.c (.bool)], []⟩), (31, ⟨[some [.int .u8]], [.c (.bool)], []⟩), (32, ⟨[some [.str]], [.c (.int .i64), .c (.bool)], []⟩)], [], [some [.int .i64, .str, .int .i64], some [.bool]], [], []⟩
set_option maxRecDepth 100000 in
def RWord.W (s1 : ByteArray) (n2 : Int) (K : List V → Prop) : Prop :=
 (0 ≤ n2 ∧ ∃ u4 : UInt8, s1[(n2 : Int).toNat]? = some u4 ∧ (PCalls ax 30 [(.int .u8 (u4.toNat : Int))] fun r46 => ∃ (b45 : Bool), r46 = [(.bool b45)] ∧ (bif b45 then
 (∃ J63 : List V → Prop, (∃ (I71 : List V → Prop) (μ72 : List V → Nat), I71 [(.int .i64 n2)] ∧ (∀ (n73 : Int), I71 [(.int .i64 n73)] →
 (bif (decide (n73 < (s1.size : Int))) then (0 ≤ n73 ∧ ∃ u74 : UInt8, s1[(n73 : Int).toNat]? = some u74 ∧ (PCalls ax 30 [(.int .u8 (u74.toNat : Int))] fun r76 => ∃ (b75 : Bool), r76 = [(.bool b75)] ∧ (bif b75 then (I71 [(.int .i64 (IntKind.i64.wrap (n73 + 1)))] ∧ μ72 [(.int .i64 (IntKind.i64.wrap (n73 + 1)))] < μ72 [(.int .i64 n73)]) else (0 ≤ n73 ∧ ∃ u77 : UInt8, s1[(n73 : Int).toNat]? = some u77 ∧ (PCalls ax 31 [(.int .u8 (u77.toNat : Int))] fun r79 => ∃ (b78 : Bool), r79 = [(.bool b78)] ∧ (bif b78 then
 (I71 [(.int .i64 (IntKind.i64.wrap (n73 + 1)))] ∧ μ72 [(.int .i64 (IntKind.i64.wrap (n73 + 1)))] < μ72 [(.int .i64 n73)])
 else
 (J63 [(.int .i64 n73)]))))))) else (J63 [(.int .i64 n73)])))) ∧
 (∀ (n80 : Int), J63 [(.int .i64 n80)] →
 (bif (decide ((u4.toNat : Int) ≥ (97 : Int))) then (bif (decide ((u4.toNat : Int) ≤ (122 : Int))) then
 (0 ≤ n2 ∧ n2 ≤ n80 ∧ n80 ≤ (s1.size : Int) ∧ (K [(.agg [(.int .i64 1), (.str (s1.extract (n2 : Int).toNat (n80 : Int).toNat)), (.int .i64 0)]), (.bool (decide ((IntKind.i64.wrap (n80 - n2)) ≤ (32 : Int))))]))
 else
 (0 ≤ n2 ∧ n2 ≤ n80 ∧ n80 ≤ (s1.size : Int) ∧ (K [(.agg [(.int .i64 2), (.str (s1.extract (n2 : Int).toNat (n80 : Int).toNat)), (.int .i64 0)]), (.bool (decide ((IntKind.i64.wrap (n80 - n2)) ≤ (32 : Int))))]))) else (0 ≤ n2 ∧ n2 ≤ n80 ∧ n80 ≤ (s1.size : Int) ∧ (K [(.agg [(.int .i64 2), (.str (s1.extract (n2 : Int).toNat (n80 : Int).toNat)), (.int .i64 0)]), (.bool (decide ((IntKind.i64.wrap (n80 - n2)) ≤ (32 : Int))))])))))
 else
 (∃ J120 : List V → Prop, (PCalls ax 31 [(.int .u8 (u4.toNat : Int))] fun r122 => ∃ (b121 : Bool), r122 = [(.bool b121)] ∧ (bif b121 then (J120 [(.bool true)]) else (J120 [(.bool ((u4.toNat : Int) == (45 : Int)))]))) ∧
 (∀ (b123 : Bool), J120 [(.bool b123)] →
 (bif b123 then
 (∃ J134 : List V → Prop, (∃ (I139 : List V → Prop) (μ140 : List V → Nat), I139 [(.int .i64 (IntKind.i64.wrap (n2 + 1)))] ∧ (∀ (n141 : Int), I139 [(.int .i64 n141)] →
 (bif (decide (n141 < (s1.size : Int))) then (0 ≤ n141 ∧ ∃ u142 : UInt8, s1[(n141 : Int).toNat]? = some u142 ∧ (PCalls ax 31 [(.int .u8 (u142.toNat : Int))] fun r144 => ∃ (b143 : Bool), r144 = [(.bool b143)] ∧ (bif b143 then
 (I139 [(.int .i64 (IntKind.i64.wrap (n141 + 1)))] ∧ μ140 [(.int .i64 (IntKind.i64.wrap (n141 + 1)))] < μ140 [(.int .i64 n141)])
 else
 (J134 [(.int .i64 n141)])))) else (J134 [(.int .i64 n141)])))) ∧
 (∀ (n145 : Int), J134 [(.int .i64 n145)] →
 (0 ≤ n2 ∧ n2 ≤ n145 ∧ n145 ≤ (s1.size : Int) ∧ (PCalls ax 32 [(.str (s1.extract (n2 : Int).toNat (n145 : Int).toNat))] fun r151 => ∃ (n149 : Int) (b150 : Bool), r151 = [(.int .i64 n149), (.bool b150)] ∧ (0 ≤ n2 ∧ n2 ≤ n145 ∧ n145 ≤ (s1.size : Int) ∧ (bif b150 then (bif (n145 == (s1.size : Int)) then (K [(.agg [(.int .i64 3), (.str (s1.extract (n2 : Int).toNat (n145 : Int).toNat)), (.int .i64 n149)]), (.bool true)]) else (0 ≤ n145 ∧ ∃ u152 : UInt8, s1[(n145 : Int).toNat]? = some u152 ∧ (PCalls ax 30 [(.int .u8 (u152.toNat : Int))] fun r154 => ∃ (b153 : Bool), r154 = [(.bool b153)] ∧ (K [(.agg [(.int .i64 3), (.str (s1.extract (n2 : Int).toNat (n145 : Int).toNat)), (.int .i64 n149)]), (.bool (!b153))])))) else (K [(.agg [(.int .i64 3), (.str (s1.extract (n2 : Int).toNat (n145 : Int).toNat)), (.int .i64 n149)]), (.bool false)])))))))
 else
 (∃ J156 : List V → Prop, (bif ((u4.toNat : Int) == (58 : Int)) then (bif (decide (n2 < (IntKind.i64.wrap ((s1.size : Int) - 1)))) then (0 ≤ (IntKind.i64.wrap (n2 + 1)) ∧ ∃ u157 : UInt8, s1[((IntKind.i64.wrap (n2 + 1)) : Int).toNat]? = some u157 ∧ (bif ((u157.toNat : Int) == (45 : Int)) then
 (K [(.agg [(.int .i64 4), (.str (⟨#[58, 45]⟩ : ByteArray)), (.int .i64 0)]), (.bool true)])
 else
 (J156 []))) else (J156 [])) else (J156 [])) ∧
 (J156 [] →
 (0 < List.length ([[(.int .u8 40)], [(.int .u8 41)], [(.int .u8 44)], [(.int .u8 46)], [(.int .u8 59)], [(.int .u8 124)], [(.int .u8 61)]] : List (List V)) ∧ (∃ (I160 : List V → Prop) (μ161 : List V → Nat), I160 [(.int .i64 0)] ∧ (∀ (n162 : Int), I160 [(.int .i64 n162)] →
 (bif (decide (n162 < (List.length ([[(.int .u8 40)], [(.int .u8 41)], [(.int .u8 44)], [(.int .u8 46)], [(.int .u8 59)], [(.int .u8 124)], [(.int .u8 61)]] : List (List V)) : Int))) then
 (0 ≤ n162 ∧ n162 < (List.length ([[(.int .u8 40)], [(.int .u8 41)], [(.int .u8 44)], [(.int .u8 46)], [(.int .u8 59)], [(.int .u8 124)], [(.int .u8 61)]] : List (List V)) : Int) ∧ (∃ (n163 : Int), List.take 1 (Av.rowAt [[(.int .u8 40)], [(.int .u8 41)], [(.int .u8 44)], [(.int .u8 46)], [(.int .u8 59)], [(.int .u8 124)], [(.int .u8 61)]] (n162 : Int).toNat) = [(.int .u8 n163)] ∧ (bif (n163 == (u4.toNat : Int)) then
 (0 ≤ n2 ∧ n2 ≤ (IntKind.i64.wrap (n2 + 1)) ∧ (IntKind.i64.wrap (n2 + 1)) ≤ (s1.size : Int) ∧ (K [(.agg [(.int .i64 4), (.str (s1.extract (n2 : Int).toNat ((IntKind.i64.wrap (n2 + 1)) : Int).toNat)), (.int .i64 0)]), (.bool true)]))
 else
 (I160 [(.int .i64 (IntKind.i64.wrap (n162 + 1)))] ∧ μ161 [(.int .i64 (IntKind.i64.wrap (n162 + 1)))] < μ161 [(.int .i64 n162)]))))
 else
 (K [(.agg [(.int .i64 0), (.str (⟨#[]⟩ : ByteArray)), (.int .i64 0)]), (.bool false)])))))))))))))
set_option maxRecDepth 100000 in
theorem RWord.eq (s1 : ByteArray) (n2 : Int) (K : List V → Prop) : RWord.W s1 n2 K = afn ax RWord.ah Tryd.f25 [(.str s1), (.int .i64 n2)] [] (onlyV K) := by kernel_rfl
theorem RWord.ok : codeOk tys (hintsOf RWord.ah) Tryd.f25.ntmps (Tryd.f25.body.getD .skip) = true := by kernel_rfl
set_option maxHeartbeats 4000000 in
theorem RWord.calls {s1 n2 K} (h : RWord.W s1 n2 K) : PCalls ax 25 [(.str s1), (.int .i64 n2)] K :=
  afn_run (ah := RWord.ah) tysOk fnsOk follows eqOk Tryd.func25 (by kernel_rfl) RWord.ok (by kernel_rfl) (Eq.mp (RWord.eq s1 n2 K) h)
/-! ### RAll: function 16, augur/augurref01.All -/
def RAll.ah : AH := ⟨[(9, (.one 0 (.one 1 (.one 4 (.one 5 (.alt ((.one 2 (.alt (seqO [3, 6, 7, 8, 9]) (seqO [6, 3, 7, 8, 9])))) (seqO [6, 2, 3, 7, 8, 9])))))))], [(4, ⟨[(5, [.nw 3 1 false], false), (6, [.nw 35 3 false], false), (7, [.d (.bool)], false), (8, [.d (.int .i64)], false)], [], [], [0, 1]⟩)], [(15, ⟨[(50, [.d (.bool)], false)], [], [], []⟩)], [(25, ⟨[some [.str], some [.int .i64]], [.ag [.int .i64, .str, .int .i64], .c (.bool)], []⟩)], [], [some [.sl 1], some [.sl 3], some [.bool]], [], []⟩
set_option maxRecDepth 100000 in
def RAll.W (s1 : ByteArray) (K : List V → Prop) : Prop :=
 (∃ (I36 : List V → Prop) (μ37 : List V → Nat), I36 [(.sl 1 []), (.sl 3 []), (.bool false), (.int .i64 0)] ∧ (∀ (l38 : List (List V)) (l39 : List (List V)) (b40 : Bool) (n41 : Int), I36 [(.sl 1 l38), (.sl 3 l39), (.bool b40), (.int .i64 n41)] →
 (bif (decide (n41 < (s1.size : Int))) then
 (0 ≤ n41 ∧ ∃ u43 : UInt8, s1[(n41 : Int).toNat]? = some u43 ∧ (bif b40 then
 (I36 [(.sl 1 l38), (.sl 3 l39), (.bool ((u43.toNat : Int) != (10 : Int))), (.int .i64 (IntKind.i64.wrap (n41 + 1)))] ∧ μ37 [(.sl 1 l38), (.sl 3 l39), (.bool ((u43.toNat : Int) != (10 : Int))), (.int .i64 (IntKind.i64.wrap (n41 + 1)))] < μ37 [(.sl 1 l38), (.sl 3 l39), (.bool b40), (.int .i64 n41)])
 else
 (∃ J44 : List V → Prop, (bif ((u43.toNat : Int) == (9 : Int)) then (J44 [(.bool true)]) else (bif ((u43.toNat : Int) == (10 : Int)) then (J44 [(.bool true)]) else (bif ((u43.toNat : Int) == (13 : Int)) then (J44 [(.bool true)]) else (J44 [(.bool ((u43.toNat : Int) == (32 : Int)))])))) ∧
 (∀ (b45 : Bool), J44 [(.bool b45)] →
 (bif b45 then
 (I36 [(.sl 1 l38), (.sl 3 l39), (.bool b40), (.int .i64 (IntKind.i64.wrap (n41 + 1)))] ∧ μ37 [(.sl 1 l38), (.sl 3 l39), (.bool b40), (.int .i64 (IntKind.i64.wrap (n41 + 1)))] < μ37 [(.sl 1 l38), (.sl 3 l39), (.bool b40), (.int .i64 n41)])
 else
 (bif ((u43.toNat : Int) == (37 : Int)) then
 (I36 [(.sl 1 l38), (.sl 3 l39), (.bool true), (.int .i64 (IntKind.i64.wrap (n41 + 1)))] ∧ μ37 [(.sl 1 l38), (.sl 3 l39), (.bool true), (.int .i64 (IntKind.i64.wrap (n41 + 1)))] < μ37 [(.sl 1 l38), (.sl 3 l39), (.bool b40), (.int .i64 n41)])
 else
 (PCalls ax 25 [(.str s1), (.int .i64 n41)] fun r55 => ∃ (n51 : Int) (s52 : ByteArray) (n53 : Int) (b54 : Bool), r55 = [(.agg [(.int .i64 n51), (.str s52), (.int .i64 n53)]), (.bool b54)] ∧ (bif (!b54) then
 (K [(.sl 1 l38), (.sl 3 l39), (.bool false)])
 else
 (((((List.length l38) + (List.length ([[(.int .i64 n41)]] : List (List V)))) * 8 ≤ 140737488355328 ∧ (List.length l38) + (List.length ([[(.int .i64 n41)]] : List (List V))) ≤ 140737488355328 ∧ (((List.length l39) + (List.length ([[(.int .i64 n51), (.str s52), (.int .i64 n53)]] : List (List V)))) * 32 ≤ 140737488355328 ∧ (List.length l39) + (List.length ([[(.int .i64 n51), (.str s52), (.int .i64 n53)]] : List (List V))) ≤ 140737488355328 ∧ (I36 [(.sl 1 (l38 ++ [[(.int .i64 n41)]])), (.sl 3 (l39 ++ [[(.int .i64 n51), (.str s52), (.int .i64 n53)]])), (.bool b40), (.int .i64 (IntKind.i64.wrap (n41 + (s52.size : Int))))] ∧ μ37 [(.sl 1 (l38 ++ [[(.int .i64 n41)]])), (.sl 3 (l39 ++ [[(.int .i64 n51), (.str s52), (.int .i64 n53)]])), (.bool b40), (.int .i64 (IntKind.i64.wrap (n41 + (s52.size : Int))))] < μ37 [(.sl 1 l38), (.sl 3 l39), (.bool b40), (.int .i64 n41)]))) ∧ (((List.length l38) + (List.length ([[(.int .i64 n41)]] : List (List V)))) * 8 ≤ 140737488355328 ∧ (List.length l38) + (List.length ([[(.int .i64 n41)]] : List (List V))) ≤ 140737488355328 ∧ (((List.length l39) + (List.length ([[(.int .i64 n51), (.str s52), (.int .i64 n53)]] : List (List V)))) * 32 ≤ 140737488355328 ∧ (List.length l39) + (List.length ([[(.int .i64 n51), (.str s52), (.int .i64 n53)]] : List (List V))) ≤ 140737488355328 ∧ (I36 [(.sl 1 (l38 ++ [[(.int .i64 n41)]])), (.sl 3 (l39 ++ [[(.int .i64 n51), (.str s52), (.int .i64 n53)]])), (.bool b40), (.int .i64 (IntKind.i64.wrap (n41 + (s52.size : Int))))] ∧ μ37 [(.sl 1 (l38 ++ [[(.int .i64 n41)]])), (.sl 3 (l39 ++ [[(.int .i64 n51), (.str s52), (.int .i64 n53)]])), (.bool b40), (.int .i64 (IntKind.i64.wrap (n41 + (s52.size : Int))))] < μ37 [(.sl 1 l38), (.sl 3 l39), (.bool b40), (.int .i64 n41)])))) ∧ (((List.length l38) + (List.length ([[(.int .i64 n41)]] : List (List V)))) * 8 ≤ 140737488355328 ∧ (List.length l38) + (List.length ([[(.int .i64 n41)]] : List (List V))) ≤ 140737488355328 ∧ (((List.length l39) + (List.length ([[(.int .i64 n51), (.str s52), (.int .i64 n53)]] : List (List V)))) * 32 ≤ 140737488355328 ∧ (List.length l39) + (List.length ([[(.int .i64 n51), (.str s52), (.int .i64 n53)]] : List (List V))) ≤ 140737488355328 ∧ (I36 [(.sl 1 (l38 ++ [[(.int .i64 n41)]])), (.sl 3 (l39 ++ [[(.int .i64 n51), (.str s52), (.int .i64 n53)]])), (.bool b40), (.int .i64 (IntKind.i64.wrap (n41 + (s52.size : Int))))] ∧ μ37 [(.sl 1 (l38 ++ [[(.int .i64 n41)]])), (.sl 3 (l39 ++ [[(.int .i64 n51), (.str s52), (.int .i64 n53)]])), (.bool b40), (.int .i64 (IntKind.i64.wrap (n41 + (s52.size : Int))))] < μ37 [(.sl 1 l38), (.sl 3 l39), (.bool b40), (.int .i64 n41)]))))))))))))
 else
 (K [(.sl 1 l38), (.sl 3 l39), (.bool true)]))))
set_option maxRecDepth 100000 in
theorem RAll.eq (s1 : ByteArray) (K : List V → Prop) : RAll.W s1 K = afn ax RAll.ah Tryd.f16 [(.str s1)] [] (onlyV K) := by kernel_rfl
theorem RAll.ok : codeOk tys (hintsOf RAll.ah) Tryd.f16.ntmps (Tryd.f16.body.getD .skip) = true := by kernel_rfl
set_option maxHeartbeats 4000000 in
theorem RAll.calls {s1 K} (h : RAll.W s1 K) : PCalls ax 16 [(.str s1)] K :=
  afn_run (ah := RAll.ah) tysOk fnsOk follows eqOk Tryd.func16 (by kernel_rfl) RAll.ok (by kernel_rfl) (Eq.mp (RAll.eq s1 K) h)
/-! ### Same: function 14, augur/augurref01.Same -/
def Same.ah : AH := ⟨[(6, seqO [0, 1, 2, 3, 4, 5, 6, 7, 8])], [(4, ⟨[(13, [.d (.int .i64)], false)], [], [], []⟩)], [], [], [], [some [.bool]], [], []⟩
set_option maxRecDepth 100000 in
def Same.W (l1 : List (List V)) (l2 : List (List V)) (K : List V → Prop) : Prop :=
 (bif ((List.length l1 : Int) != (List.length l2 : Int)) then
 (K [(.bool false)])
 else
 (∃ (I10 : List V → Prop) (μ11 : List V → Nat), I10 [(.int .i64 0)] ∧ (∀ (n12 : Int), I10 [(.int .i64 n12)] →
 (bif (decide (n12 < (List.length l1 : Int))) then
 (0 ≤ n12 ∧ n12 < (List.length l1 : Int) ∧ (∃ (n13 : Int) (s14 : ByteArray) (n15 : Int), List.take 3 (Av.rowAt l1 (n12 : Int).toNat) = [(.int .i64 n13), (.str s14), (.int .i64 n15)] ∧ (0 ≤ n12 ∧ n12 < (List.length l2 : Int) ∧ (∃ (n16 : Int) (s17 : ByteArray) (n18 : Int), List.take 3 (Av.rowAt l2 (n12 : Int).toNat) = [(.int .i64 n16), (.str s17), (.int .i64 n18)] ∧ (bif (!(eqL [(.int .i64 n13), (.str s14), (.int .i64 n15)] [(.int .i64 n16), (.str s17), (.int .i64 n18)])) then
 (K [(.bool false)])
 else
 (I10 [(.int .i64 (IntKind.i64.wrap (n12 + 1)))] ∧ μ11 [(.int .i64 (IntKind.i64.wrap (n12 + 1)))] < μ11 [(.int .i64 n12)]))))))
 else
 (K [(.bool true)])))))
set_option maxRecDepth 100000 in
theorem Same.eq (l1 : List (List V)) (l2 : List (List V)) (K : List V → Prop) : Same.W l1 l2 K = afn ax Same.ah Tryd.f14 [(.sl 3 l1), (.sl 3 l2)] [] (onlyV K) := by kernel_rfl
theorem Same.ok : codeOk tys (hintsOf Same.ah) Tryd.f14.ntmps (Tryd.f14.body.getD .skip) = true := by kernel_rfl
set_option maxHeartbeats 4000000 in
theorem Same.calls {l1 l2 K} (h : Same.W l1 l2 K) : PCalls ax 14 [(.sl 3 l1), (.sl 3 l2)] K :=
  afn_run (ah := Same.ah) tysOk fnsOk follows eqOk Tryd.func14 (by kernel_rfl) Same.ok (by kernel_rfl) (Eq.mp (Same.eq l1 l2 K) h)
/-! ### alive: function 11, augur/augurlaw01.alive -/
def alive.ah : AH := ⟨[], [], [], [(12, ⟨[some [.str]], [.c (.sl 3), .c (.err)], []⟩)], [], [some [.bool]], [], []⟩
set_option maxRecDepth 100000 in
def alive.W  (K : List V → Prop) : Prop :=
 (PCalls ax 12 [(.str (⟨#[112, 40, 88, 41, 58, 45, 88, 61, 45, 53, 46]⟩ : ByteArray))] fun r6 => ∃ (l4 : List (List V)) (x5 : Option Nat), r6 = [(.sl 3 l4), (.err x5)] ∧ (bif (Option.isNone x5) then (bif ((List.length l4 : Int) == (9 : Int)) then (0 ≤ (4 : Int) ∧ (4 : Int) < (List.length l4 : Int) ∧ (∃ (s7 : ByteArray), List.take 1 (List.drop 1 (Av.rowAt l4 4)) = [(.str s7)] ∧ (bif (strEq s7 (⟨#[58, 45]⟩ : ByteArray)) then (0 ≤ (7 : Int) ∧ (7 : Int) < (List.length l4 : Int) ∧ (∃ (n8 : Int), List.take 1 (List.drop 2 (Av.rowAt l4 7)) = [(.int .i64 n8)] ∧ (K [(.bool (n8 == (-5)))]))) else (K [(.bool false)])))) else (K [(.bool false)])) else (K [(.bool false)])))
set_option maxRecDepth 100000 in
theorem alive.eq  (K : List V → Prop) : alive.W  K = afn ax alive.ah Tryd.f11 [] [] (onlyV K) := by kernel_rfl
theorem alive.ok : codeOk tys (hintsOf alive.ah) Tryd.f11.ntmps (Tryd.f11.body.getD .skip) = true := by kernel_rfl
set_option maxHeartbeats 4000000 in
theorem alive.calls { K} (h : alive.W  K) : PCalls ax 11 [] K :=
  afn_run (ah := alive.ah) tysOk fnsOk follows eqOk Tryd.func11 (by kernel_rfl) alive.ok (by kernel_rfl) (Eq.mp (alive.eq  K) h)
/-! ### Parts: function 6, augur/augurlaw01.LexParts -/
def Parts.ah : AH := ⟨[], [], [], [(11, ⟨[], [.c (.bool)], []⟩), (12, ⟨[some [.str]], [.c (.sl 3), .c (.err)], []⟩), (14, ⟨[some [.sl 3], some [.sl 3]], [.c (.bool)], []⟩)], [], [some [.bool]], [], []⟩
set_option maxRecDepth 100000 in
def Parts.W (s1 : ByteArray) (s2 : ByteArray) (K : List V → Prop) : Prop :=
 (PCalls ax 11 [] fun r6 => ∃ (b5 : Bool), r6 = [(.bool b5)] ∧ (bif (!b5) then
 (K [(.bool false)])
 else
 (PCalls ax 12 [(.str s1)] fun r12 => ∃ (l10 : List (List V)) (x11 : Option Nat), r12 = [(.sl 3 l10), (.err x11)] ∧ (PCalls ax 12 [(.str s2)] fun r18 => ∃ (l16 : List (List V)) (x17 : Option Nat), r18 = [(.sl 3 l16), (.err x17)] ∧ (bif (!(Option.isNone x11)) then (K [(.bool true)]) else (bif (!(Option.isNone x17)) then (K [(.bool true)]) else (bif (decide ((IntKind.i64.wrap ((s1.size : Int) + (s2.size : Int))) ≥ (16384 : Int))) then
 (K [(.bool true)])
 else
 (((s1.size + (⟨#[10]⟩ : ByteArray).size : Nat) : Int) ≤ IntKind.i64.max ∧ ((((s1 ++ (⟨#[10]⟩ : ByteArray)).size + s2.size : Nat) : Int) ≤ IntKind.i64.max ∧ (PCalls ax 12 [(.str ((s1 ++ (⟨#[10]⟩ : ByteArray)) ++ s2))] fun r21 => ∃ (l19 : List (List V)) (x20 : Option Nat), r21 = [(.sl 3 l19), (.err x20)] ∧ (bif (Option.isNone x20) then ((0 + (List.length l10)) * 32 ≤ 140737488355328 ∧ 0 + (List.length l10) ≤ 140737488355328 ∧ (((List.length l10) + (List.length l16)) * 32 ≤ 140737488355328 ∧ (List.length l10) + (List.length l16) ≤ 140737488355328 ∧ (PCalls ax 14 [(.sl 3 l19), (.sl 3 (l10 ++ l16))] fun r23 => ∃ (b22 : Bool), r23 = [(.bool b22)] ∧ (K [(.bool b22)])))) else (K [(.bool false)]))))))))))))
set_option maxRecDepth 100000 in
theorem Parts.eq (s1 : ByteArray) (s2 : ByteArray) (K : List V → Prop) : Parts.W s1 s2 K = afn ax Parts.ah Tryd.f6 [(.str s1), (.str s2)] [] (onlyV K) := by kernel_rfl
theorem Parts.ok : codeOk tys (hintsOf Parts.ah) Tryd.f6.ntmps (Tryd.f6.body.getD .skip) = true := by kernel_rfl
set_option maxHeartbeats 4000000 in
theorem Parts.calls {s1 s2 K} (h : Parts.W s1 s2 K) : PCalls ax 6 [(.str s1), (.str s2)] K :=
  afn_run (ah := Parts.ah) tysOk fnsOk follows eqOk Tryd.func6 (by kernel_rfl) Parts.ok (by kernel_rfl) (Eq.mp (Parts.eq s1 s2 K) h)
/-! ### All: function 18, augur/lex.All -/
def All.ah : AH := ⟨[], [], [], [], [], [none], [], []⟩
set_option maxRecDepth 100000 in
def All.W (s1 : ByteArray) (K : List V → List Ob → Prop) : Prop :=
 (K [(.fn 26 [] [(.ptr 0 0)])] [(.box [(.str s1)])])
set_option maxRecDepth 100000 in
theorem All.eq (s1 : ByteArray) (K : List V → List Ob → Prop) : All.W s1 K = afn ax All.ah Tryd.f18 [(.str s1)] [] K := by kernel_rfl
theorem All.ok : codeOk tys (hintsOf All.ah) Tryd.f18.ntmps (Tryd.f18.body.getD .skip) = true := by kernel_rfl
set_option maxHeartbeats 4000000 in
theorem All.calls {s1 K} (h : All.W s1 K) : SCalls ax 18 [(.str s1)] [] K :=
  afn_run (ah := All.ah) tysOk fnsOk follows eqOk Tryd.func18 (by kernel_rfl) All.ok (by kernel_rfl) (Eq.mp (All.eq s1 K) h)
/-! ### gA: a piece of function 7, augur/augurlaw01.LexGoes -/
def gA.ah : AH := ⟨[], [], [], [(11, ⟨[], [.c (.bool)], []⟩), (16, ⟨[some [.str]], [.c (.sl 1), .c (.sl 3), .c (.bool)], []⟩), (18, ⟨[some [.str]], [.lit (.fn 26 [] [(.ptr 0 0)])], [.box [.d (.str)]]⟩)], [], [], [], []⟩
noncomputable def gA.c : Code := Av.part [.pre 4] (Tryd.f7.body.getD .skip)
set_option maxRecDepth 100000 in
def gA.W (s : ByteArray) (stop : Int) (K : Exit → List V → Store → Prop) : Prop :=
 (PCalls ax 11 [] fun r2 => ∃ (b1 : Bool), r2 = [(.bool b1)] ∧ (bif (!b1) then
 (K .ret [(.str s), (.ptr 0 0), (.ptr 1 0), .junk, .junk, .junk] [⟨0, (.box [(.int .i64 stop)])⟩, ⟨1, (.box [(.bool false)])⟩])
 else
 (PCalls ax 16 [(.str s)] fun r6 => ∃ (l3 : List (List V)) (l4 : List (List V)) (b5 : Bool), r6 = [(.sl 1 l3), (.sl 3 l4), (.bool b5)] ∧ (bif (decide ((s.size : Int) > (16384 : Int))) then
 (SCalls ax 18 [(.str s)] [] fun r7 o9 => ∃ (s8 : ByteArray), r7 = [(.fn 26 [] [(.ptr 0 0)])] ∧ o9 = [(.box [(.str s8)])] ∧ (K .normal [(.str s), (.ptr 0 0), (.ptr 1 0), (.ptr 2 0), (.ptr 3 0), (.fn 26 [] [(.ptr 4 0)])] [⟨0, (.box [(.int .i64 stop)])⟩, ⟨0, (.box [(.bool false)])⟩, ⟨2, (.box [.nls])⟩, ⟨2, (.box [.nls])⟩, ⟨0, (.box [(.str s8)])⟩]))
 else
 (SCalls ax 18 [(.str s)] [] fun r10 o12 => ∃ (s11 : ByteArray), r10 = [(.fn 26 [] [(.ptr 0 0)])] ∧ o12 = [(.box [(.str s11)])] ∧ (K .normal [(.str s), (.ptr 0 0), (.ptr 1 0), (.ptr 2 0), (.ptr 3 0), (.fn 26 [] [(.ptr 4 0)])] [⟨0, (.box [(.int .i64 stop)])⟩, ⟨0, (.box [(.bool false)])⟩, ⟨1, (.box [(.sl 1 l3)])⟩, ⟨1, (.box [(.sl 3 l4)])⟩, ⟨0, (.box [(.str s11)])⟩]))))))
set_option maxRecDepth 100000 in
theorem gA.eq (s : ByteArray) (stop : Int) (K : Exit → List V → Store → Prop) : gA.W s stop K = acW ax gA.ah gA.c (fun ex e σ => K ex [e 0, e 3, e 4, e 5, e 6, e 8] σ) (envL [(0, (.str s)), (1, (.int .i64 stop))]) [] := by kernel_rfl
theorem gA.ok : codeOk tys (hintsOf gA.ah) Tryd.f7.ntmps gA.c = true := by kernel_rfl
theorem gA.calm : calmC gA.c = true := by kernel_rfl
theorem gA.run {G : Nat → Value} {w0 : World} {F0 : Nat → Nat → Prop} {β0 : Nat → Value} {σ0 : Store} {ds : List Deferred} {F : Fence} {m : Nat} {ac : Act} {wc : World} (hE : ErrOk ax.P ax.gs ax.ift ax.tabs G) (hF : Opn F) (s : ByteArray) (stop : Int) (K : Exit → List V → Store → Prop) (h : gA.W s stop K) (hs : St ax G w0 F0 β0 σ0 ds 65 (envL [(0, (.str s)), (1, (.int .i64 stop))]) [] ac wc) :
    gA.c.wpIn F m ax.P (fun ex a1 w1 => ∃ vs σ1, K ex vs σ1 ∧ St ax G w0 F0 β0 σ0 ds 65 (envL ([0, 3, 4, 5, 6, 8].zip vs)) σ1 a1 w1 ∧ (∀ t, t ∉ assigned (hintsOf gA.ah) gA.c → a1.tmps.getD t undef = ac.tmps.getD t undef) ∧
      (∃ F β F1 β1, Sim ax.gs G wc F β [] ∧ Step w0 F0 β0 σ0 wc F β [] ∧ Step wc F β [] w1 F1 β1 σ1)) ac wc :=
  St.run (sl := fun e => [e 0, e 3, e 4, e 5, e 6, e 8]) tysOk fnsOk follows eqOk hE hF (fun _ => rfl) gA.ok gA.calm (Eq.mp (gA.eq s stop K) h) hs
theorem gA.runC {G : Nat → Value} {C : Beside} (hC : Shut C) {ds : List Deferred} {F : Fence} {m : Nat} {ac : Act} {wc : World} (hE : ErrOk ax.P ax.gs ax.ift ax.tabs G) (hF : Opn F) (s : ByteArray) (stop : Int) (K : Exit → List V → Store → Prop) (h : gA.W s stop K) (hs : StC ax G C ds 65 (envL [(0, (.str s)), (1, (.int .i64 stop))]) [] ac wc) :
    gA.c.wpIn F m ax.P (fun ex a1 w1 => ∃ vs σ1, K ex vs σ1 ∧ StC ax G C ds 65 (envL ([0, 3, 4, 5, 6, 8].zip vs)) σ1 a1 w1 ∧ (∀ t, t ∉ assigned (hintsOf gA.ah) gA.c → a1.tmps.getD t undef = ac.tmps.getD t undef) ∧
      (∃ F β F1 β1, Sim ax.gs G wc F β [] ∧ C wc F β [] ∧ Step wc F β [] w1 F1 β1 σ1)) ac wc :=
  StC.run (sl := fun e => [e 0, e 3, e 4, e 5, e 6, e 8]) hC tysOk fnsOk follows eqOk hE hF (fun _ => rfl) gA.ok gA.calm (Eq.mp (gA.eq s stop K) h) hs
/-! ### gB: a piece of function 7, augur/augurlaw01.LexGoes -/
def gB.ah : AH := ⟨[], [], [], [], [], [], [], []⟩
noncomputable def gB.c : Code := Av.part [.post 4, .fst, .fst] (Tryd.f7.body.getD .skip)
set_option maxRecDepth 100000 in
def gB.W (z : ByteArray) (stop : Int) (p : List (List V)) (q : List (List V)) (s : ByteArray) (K : Exit → List V → Store → Prop) : Prop :=
 (K .normal [(.str z), (.ptr 0 0), (.ptr 1 0), (.ptr 2 0), (.ptr 3 0), (.fn 26 [] [(.ptr 4 0)]), (.int .i64 0)] [⟨0, (.box [(.int .i64 stop)])⟩, ⟨0, (.box [(.bool false)])⟩, ⟨0, (.box [(.sl 1 p)])⟩, ⟨0, (.box [(.sl 3 q)])⟩, ⟨0, (.box [(.str s)])⟩])
set_option maxRecDepth 100000 in
theorem gB.eq (z : ByteArray) (stop : Int) (p : List (List V)) (q : List (List V)) (s : ByteArray) (K : Exit → List V → Store → Prop) : gB.W z stop p q s K = acW ax gB.ah gB.c (fun ex e σ => K ex [e 0, e 3, e 4, e 5, e 6, e 8, e 25] σ) (envL [(0, (.str z)), (3, (.ptr 0 0)), (4, (.ptr 1 0)), (5, (.ptr 2 0)), (6, (.ptr 3 0)), (8, (.fn 26 [] [(.ptr 4 0)]))]) [⟨0, (.box [(.int .i64 stop)])⟩, ⟨0, (.box [(.bool false)])⟩, ⟨0, (.box [(.sl 1 p)])⟩, ⟨0, (.box [(.sl 3 q)])⟩, ⟨0, (.box [(.str s)])⟩] := by kernel_rfl
theorem gB.ok : codeOk tys (hintsOf gB.ah) Tryd.f7.ntmps gB.c = true := by kernel_rfl
theorem gB.calm : calmC gB.c = true := by kernel_rfl
theorem gB.run {G : Nat → Value} {w0 : World} {F0 : Nat → Nat → Prop} {β0 : Nat → Value} {σ0 : Store} {ds : List Deferred} {F : Fence} {m : Nat} {ac : Act} {wc : World} (hE : ErrOk ax.P ax.gs ax.ift ax.tabs G) (hF : Opn F) (z : ByteArray) (stop : Int) (p : List (List V)) (q : List (List V)) (s : ByteArray) (K : Exit → List V → Store → Prop) (h : gB.W z stop p q s K) (hs : St ax G w0 F0 β0 σ0 ds 65 (envL [(0, (.str z)), (3, (.ptr 0 0)), (4, (.ptr 1 0)), (5, (.ptr 2 0)), (6, (.ptr 3 0)), (8, (.fn 26 [] [(.ptr 4 0)]))]) [⟨0, (.box [(.int .i64 stop)])⟩, ⟨0, (.box [(.bool false)])⟩, ⟨0, (.box [(.sl 1 p)])⟩, ⟨0, (.box [(.sl 3 q)])⟩, ⟨0, (.box [(.str s)])⟩] ac wc) :
    gB.c.wpIn F m ax.P (fun ex a1 w1 => ∃ vs σ1, K ex vs σ1 ∧ St ax G w0 F0 β0 σ0 ds 65 (envL ([0, 3, 4, 5, 6, 8, 25].zip vs)) σ1 a1 w1 ∧ (∀ t, t ∉ assigned (hintsOf gB.ah) gB.c → a1.tmps.getD t undef = ac.tmps.getD t undef) ∧
      (∃ F β F1 β1, Sim ax.gs G wc F β [⟨0, (.box [(.int .i64 stop)])⟩, ⟨0, (.box [(.bool false)])⟩, ⟨0, (.box [(.sl 1 p)])⟩, ⟨0, (.box [(.sl 3 q)])⟩, ⟨0, (.box [(.str s)])⟩] ∧ Step w0 F0 β0 σ0 wc F β [⟨0, (.box [(.int .i64 stop)])⟩, ⟨0, (.box [(.bool false)])⟩, ⟨0, (.box [(.sl 1 p)])⟩, ⟨0, (.box [(.sl 3 q)])⟩, ⟨0, (.box [(.str s)])⟩] ∧ Step wc F β [⟨0, (.box [(.int .i64 stop)])⟩, ⟨0, (.box [(.bool false)])⟩, ⟨0, (.box [(.sl 1 p)])⟩, ⟨0, (.box [(.sl 3 q)])⟩, ⟨0, (.box [(.str s)])⟩] w1 F1 β1 σ1)) ac wc :=
  St.run (sl := fun e => [e 0, e 3, e 4, e 5, e 6, e 8, e 25]) tysOk fnsOk follows eqOk hE hF (fun _ => rfl) gB.ok gB.calm (Eq.mp (gB.eq z stop p q s K) h) hs
theorem gB.runC {G : Nat → Value} {C : Beside} (hC : Shut C) {ds : List Deferred} {F : Fence} {m : Nat} {ac : Act} {wc : World} (hE : ErrOk ax.P ax.gs ax.ift ax.tabs G) (hF : Opn F) (z : ByteArray) (stop : Int) (p : List (List V)) (q : List (List V)) (s : ByteArray) (K : Exit → List V → Store → Prop) (h : gB.W z stop p q s K) (hs : StC ax G C ds 65 (envL [(0, (.str z)), (3, (.ptr 0 0)), (4, (.ptr 1 0)), (5, (.ptr 2 0)), (6, (.ptr 3 0)), (8, (.fn 26 [] [(.ptr 4 0)]))]) [⟨0, (.box [(.int .i64 stop)])⟩, ⟨0, (.box [(.bool false)])⟩, ⟨0, (.box [(.sl 1 p)])⟩, ⟨0, (.box [(.sl 3 q)])⟩, ⟨0, (.box [(.str s)])⟩] ac wc) :
    gB.c.wpIn F m ax.P (fun ex a1 w1 => ∃ vs σ1, K ex vs σ1 ∧ StC ax G C ds 65 (envL ([0, 3, 4, 5, 6, 8, 25].zip vs)) σ1 a1 w1 ∧ (∀ t, t ∉ assigned (hintsOf gB.ah) gB.c → a1.tmps.getD t undef = ac.tmps.getD t undef) ∧
      (∃ F β F1 β1, Sim ax.gs G wc F β [⟨0, (.box [(.int .i64 stop)])⟩, ⟨0, (.box [(.bool false)])⟩, ⟨0, (.box [(.sl 1 p)])⟩, ⟨0, (.box [(.sl 3 q)])⟩, ⟨0, (.box [(.str s)])⟩] ∧ C wc F β [⟨0, (.box [(.int .i64 stop)])⟩, ⟨0, (.box [(.bool false)])⟩, ⟨0, (.box [(.sl 1 p)])⟩, ⟨0, (.box [(.sl 3 q)])⟩, ⟨0, (.box [(.str s)])⟩] ∧ Step wc F β [⟨0, (.box [(.int .i64 stop)])⟩, ⟨0, (.box [(.bool false)])⟩, ⟨0, (.box [(.sl 1 p)])⟩, ⟨0, (.box [(.sl 3 q)])⟩, ⟨0, (.box [(.str s)])⟩] w1 F1 β1 σ1)) ac wc :=
  StC.run (sl := fun e => [e 0, e 3, e 4, e 5, e 6, e 8, e 25]) hC tysOk fnsOk follows eqOk hE hF (fun _ => rfl) gB.ok gB.calm (Eq.mp (gB.eq z stop p q s K) h) hs
/-! ### gC: a piece of function 7, augur/augurlaw01.LexGoes -/
def gC.ah : AH := ⟨[], [], [], [], [], [], [], []⟩
noncomputable def gC.c : Code := Av.part [.post 4, .fst, .snd, .inn, .inn, .pre 1] (Tryd.f7.body.getD .skip)
set_option maxRecDepth 100000 in
def gC.W (z : ByteArray) (i : Int) (stop : Int) (p : List (List V)) (q : List (List V)) (s : ByteArray) (K : Exit → List V → Store → Prop) : Prop :=
 (bif (decide (i < (2 : Int))) then
 (K .normal [(.str z), (.ptr 0 0), (.ptr 1 0), (.ptr 2 0), (.ptr 3 0), (.fn 26 [] [(.ptr 4 0)]), (.int .i64 i)] [⟨0, (.box [(.int .i64 stop)])⟩, ⟨0, (.box [(.bool false)])⟩, ⟨0, (.box [(.sl 1 p)])⟩, ⟨0, (.box [(.sl 3 q)])⟩, ⟨0, (.box [(.str s)])⟩])
 else
 (K (.exit 0) [(.str z), (.ptr 0 0), (.ptr 1 0), (.ptr 2 0), (.ptr 3 0), (.fn 26 [] [(.ptr 4 0)]), (.int .i64 i)] [⟨0, (.box [(.int .i64 stop)])⟩, ⟨0, (.box [(.bool false)])⟩, ⟨0, (.box [(.sl 1 p)])⟩, ⟨0, (.box [(.sl 3 q)])⟩, ⟨0, (.box [(.str s)])⟩]))
set_option maxRecDepth 100000 in
theorem gC.eq (z : ByteArray) (i : Int) (stop : Int) (p : List (List V)) (q : List (List V)) (s : ByteArray) (K : Exit → List V → Store → Prop) : gC.W z i stop p q s K = acW ax gC.ah gC.c (fun ex e σ => K ex [e 0, e 3, e 4, e 5, e 6, e 8, e 25] σ) (envL [(0, (.str z)), (3, (.ptr 0 0)), (4, (.ptr 1 0)), (5, (.ptr 2 0)), (6, (.ptr 3 0)), (8, (.fn 26 [] [(.ptr 4 0)])), (25, (.int .i64 i))]) [⟨0, (.box [(.int .i64 stop)])⟩, ⟨0, (.box [(.bool false)])⟩, ⟨0, (.box [(.sl 1 p)])⟩, ⟨0, (.box [(.sl 3 q)])⟩, ⟨0, (.box [(.str s)])⟩] := by kernel_rfl
theorem gC.ok : codeOk tys (hintsOf gC.ah) Tryd.f7.ntmps gC.c = true := by kernel_rfl
theorem gC.calm : calmC gC.c = true := by kernel_rfl
theorem gC.run {G : Nat → Value} {w0 : World} {F0 : Nat → Nat → Prop} {β0 : Nat → Value} {σ0 : Store} {ds : List Deferred} {F : Fence} {m : Nat} {ac : Act} {wc : World} (hE : ErrOk ax.P ax.gs ax.ift ax.tabs G) (hF : Opn F) (z : ByteArray) (i : Int) (stop : Int) (p : List (List V)) (q : List (List V)) (s : ByteArray) (K : Exit → List V → Store → Prop) (h : gC.W z i stop p q s K) (hs : St ax G w0 F0 β0 σ0 ds 65 (envL [(0, (.str z)), (3, (.ptr 0 0)), (4, (.ptr 1 0)), (5, (.ptr 2 0)), (6, (.ptr 3 0)), (8, (.fn 26 [] [(.ptr 4 0)])), (25, (.int .i64 i))]) [⟨0, (.box [(.int .i64 stop)])⟩, ⟨0, (.box [(.bool false)])⟩, ⟨0, (.box [(.sl 1 p)])⟩, ⟨0, (.box [(.sl 3 q)])⟩, ⟨0, (.box [(.str s)])⟩] ac wc) :
    gC.c.wpIn F m ax.P (fun ex a1 w1 => ∃ vs σ1, K ex vs σ1 ∧ St ax G w0 F0 β0 σ0 ds 65 (envL ([0, 3, 4, 5, 6, 8, 25].zip vs)) σ1 a1 w1 ∧ (∀ t, t ∉ assigned (hintsOf gC.ah) gC.c → a1.tmps.getD t undef = ac.tmps.getD t undef) ∧
      (∃ F β F1 β1, Sim ax.gs G wc F β [⟨0, (.box [(.int .i64 stop)])⟩, ⟨0, (.box [(.bool false)])⟩, ⟨0, (.box [(.sl 1 p)])⟩, ⟨0, (.box [(.sl 3 q)])⟩, ⟨0, (.box [(.str s)])⟩] ∧ Step w0 F0 β0 σ0 wc F β [⟨0, (.box [(.int .i64 stop)])⟩, ⟨0, (.box [(.bool false)])⟩, ⟨0, (.box [(.sl 1 p)])⟩, ⟨0, (.box [(.sl 3 q)])⟩, ⟨0, (.box [(.str s)])⟩] ∧ Step wc F β [⟨0, (.box [(.int .i64 stop)])⟩, ⟨0, (.box [(.bool false)])⟩, ⟨0, (.box [(.sl 1 p)])⟩, ⟨0, (.box [(.sl 3 q)])⟩, ⟨0, (.box [(.str s)])⟩] w1 F1 β1 σ1)) ac wc :=
  St.run (sl := fun e => [e 0, e 3, e 4, e 5, e 6, e 8, e 25]) tysOk fnsOk follows eqOk hE hF (fun _ => rfl) gC.ok gC.calm (Eq.mp (gC.eq z i stop p q s K) h) hs
theorem gC.runC {G : Nat → Value} {C : Beside} (hC : Shut C) {ds : List Deferred} {F : Fence} {m : Nat} {ac : Act} {wc : World} (hE : ErrOk ax.P ax.gs ax.ift ax.tabs G) (hF : Opn F) (z : ByteArray) (i : Int) (stop : Int) (p : List (List V)) (q : List (List V)) (s : ByteArray) (K : Exit → List V → Store → Prop) (h : gC.W z i stop p q s K) (hs : StC ax G C ds 65 (envL [(0, (.str z)), (3, (.ptr 0 0)), (4, (.ptr 1 0)), (5, (.ptr 2 0)), (6, (.ptr 3 0)), (8, (.fn 26 [] [(.ptr 4 0)])), (25, (.int .i64 i))]) [⟨0, (.box [(.int .i64 stop)])⟩, ⟨0, (.box [(.bool false)])⟩, ⟨0, (.box [(.sl 1 p)])⟩, ⟨0, (.box [(.sl 3 q)])⟩, ⟨0, (.box [(.str s)])⟩] ac wc) :
    gC.c.wpIn F m ax.P (fun ex a1 w1 => ∃ vs σ1, K ex vs σ1 ∧ StC ax G C ds 65 (envL ([0, 3, 4, 5, 6, 8, 25].zip vs)) σ1 a1 w1 ∧ (∀ t, t ∉ assigned (hintsOf gC.ah) gC.c → a1.tmps.getD t undef = ac.tmps.getD t undef) ∧
      (∃ F β F1 β1, Sim ax.gs G wc F β [⟨0, (.box [(.int .i64 stop)])⟩, ⟨0, (.box [(.bool false)])⟩, ⟨0, (.box [(.sl 1 p)])⟩, ⟨0, (.box [(.sl 3 q)])⟩, ⟨0, (.box [(.str s)])⟩] ∧ C wc F β [⟨0, (.box [(.int .i64 stop)])⟩, ⟨0, (.box [(.bool false)])⟩, ⟨0, (.box [(.sl 1 p)])⟩, ⟨0, (.box [(.sl 3 q)])⟩, ⟨0, (.box [(.str s)])⟩] ∧ Step wc F β [⟨0, (.box [(.int .i64 stop)])⟩, ⟨0, (.box [(.bool false)])⟩, ⟨0, (.box [(.sl 1 p)])⟩, ⟨0, (.box [(.sl 3 q)])⟩, ⟨0, (.box [(.str s)])⟩] w1 F1 β1 σ1)) ac wc :=
  StC.run (sl := fun e => [e 0, e 3, e 4, e 5, e 6, e 8, e 25]) hC tysOk fnsOk follows eqOk hE hF (fun _ => rfl) gC.ok gC.calm (Eq.mp (gC.eq z i stop p q s K) h) hs
/-! ### gD: a piece of function 7, augur/augurlaw01.LexGoes -/
def gD.ah : AH := ⟨[], [], [], [], [], [], [], []⟩
noncomputable def gD.c : Code := Av.part [.post 4, .fst, .snd, .inn, .inn, .post 1, .fst, .inn, .fst] (Tryd.f7.body.getD .skip)
set_option maxRecDepth 100000 in
def gD.W (z : ByteArray) (i : Int) (stop : Int) (p : List (List V)) (q : List (List V)) (s : ByteArray) (K : Exit → List V → Store → Prop) : Prop :=
 (K .normal [(.str z), (.ptr 0 0), (.ptr 1 0), (.ptr 2 0), (.ptr 3 0), (.fn 26 [] [(.ptr 4 0)]), (.int .i64 i), (.ptr 5 0)] [⟨0, (.box [(.int .i64 stop)])⟩, ⟨0, (.box [(.bool false)])⟩, ⟨0, (.box [(.sl 1 p)])⟩, ⟨0, (.box [(.sl 3 q)])⟩, ⟨0, (.box [(.str s)])⟩, ⟨1, (.box [(.int .i64 0)])⟩])
set_option maxRecDepth 100000 in
theorem gD.eq (z : ByteArray) (i : Int) (stop : Int) (p : List (List V)) (q : List (List V)) (s : ByteArray) (K : Exit → List V → Store → Prop) : gD.W z i stop p q s K = acW ax gD.ah gD.c (fun ex e σ => K ex [e 0, e 3, e 4, e 5, e 6, e 8, e 25, e 9] σ) (envL [(0, (.str z)), (3, (.ptr 0 0)), (4, (.ptr 1 0)), (5, (.ptr 2 0)), (6, (.ptr 3 0)), (8, (.fn 26 [] [(.ptr 4 0)])), (25, (.int .i64 i))]) [⟨0, (.box [(.int .i64 stop)])⟩, ⟨0, (.box [(.bool false)])⟩, ⟨0, (.box [(.sl 1 p)])⟩, ⟨0, (.box [(.sl 3 q)])⟩, ⟨0, (.box [(.str s)])⟩] := by kernel_rfl
theorem gD.ok : codeOk tys (hintsOf gD.ah) Tryd.f7.ntmps gD.c = true := by kernel_rfl
theorem gD.calm : calmC gD.c = true := by kernel_rfl
theorem gD.run {G : Nat → Value} {w0 : World} {F0 : Nat → Nat → Prop} {β0 : Nat → Value} {σ0 : Store} {ds : List Deferred} {F : Fence} {m : Nat} {ac : Act} {wc : World} (hE : ErrOk ax.P ax.gs ax.ift ax.tabs G) (hF : Opn F) (z : ByteArray) (i : Int) (stop : Int) (p : List (List V)) (q : List (List V)) (s : ByteArray) (K : Exit → List V → Store → Prop) (h : gD.W z i stop p q s K) (hs : St ax G w0 F0 β0 σ0 ds 65 (envL [(0, (.str z)), (3, (.ptr 0 0)), (4, (.ptr 1 0)), (5, (.ptr 2 0)), (6, (.ptr 3 0)), (8, (.fn 26 [] [(.ptr 4 0)])), (25, (.int .i64 i))]) [⟨0, (.box [(.int .i64 stop)])⟩, ⟨0, (.box [(.bool false)])⟩, ⟨0, (.box [(.sl 1 p)])⟩, ⟨0, (.box [(.sl 3 q)])⟩, ⟨0, (.box [(.str s)])⟩] ac wc) :
    gD.c.wpIn F m ax.P (fun ex a1 w1 => ∃ vs σ1, K ex vs σ1 ∧ St ax G w0 F0 β0 σ0 ds 65 (envL ([0, 3, 4, 5, 6, 8, 25, 9].zip vs)) σ1 a1 w1 ∧ (∀ t, t ∉ assigned (hintsOf gD.ah) gD.c → a1.tmps.getD t undef = ac.tmps.getD t undef) ∧
      (∃ F β F1 β1, Sim ax.gs G wc F β [⟨0, (.box [(.int .i64 stop)])⟩, ⟨0, (.box [(.bool false)])⟩, ⟨0, (.box [(.sl 1 p)])⟩, ⟨0, (.box [(.sl 3 q)])⟩, ⟨0, (.box [(.str s)])⟩] ∧ Step w0 F0 β0 σ0 wc F β [⟨0, (.box [(.int .i64 stop)])⟩, ⟨0, (.box [(.bool false)])⟩, ⟨0, (.box [(.sl 1 p)])⟩, ⟨0, (.box [(.sl 3 q)])⟩, ⟨0, (.box [(.str s)])⟩] ∧ Step wc F β [⟨0, (.box [(.int .i64 stop)])⟩, ⟨0, (.box [(.bool false)])⟩, ⟨0, (.box [(.sl 1 p)])⟩, ⟨0, (.box [(.sl 3 q)])⟩, ⟨0, (.box [(.str s)])⟩] w1 F1 β1 σ1)) ac wc :=
  St.run (sl := fun e => [e 0, e 3, e 4, e 5, e 6, e 8, e 25, e 9]) tysOk fnsOk follows eqOk hE hF (fun _ => rfl) gD.ok gD.calm (Eq.mp (gD.eq z i stop p q s K) h) hs
theorem gD.runC {G : Nat → Value} {C : Beside} (hC : Shut C) {ds : List Deferred} {F : Fence} {m : Nat} {ac : Act} {wc : World} (hE : ErrOk ax.P ax.gs ax.ift ax.tabs G) (hF : Opn F) (z : ByteArray) (i : Int) (stop : Int) (p : List (List V)) (q : List (List V)) (s : ByteArray) (K : Exit → List V → Store → Prop) (h : gD.W z i stop p q s K) (hs : StC ax G C ds 65 (envL [(0, (.str z)), (3, (.ptr 0 0)), (4, (.ptr 1 0)), (5, (.ptr 2 0)), (6, (.ptr 3 0)), (8, (.fn 26 [] [(.ptr 4 0)])), (25, (.int .i64 i))]) [⟨0, (.box [(.int .i64 stop)])⟩, ⟨0, (.box [(.bool false)])⟩, ⟨0, (.box [(.sl 1 p)])⟩, ⟨0, (.box [(.sl 3 q)])⟩, ⟨0, (.box [(.str s)])⟩] ac wc) :
    gD.c.wpIn F m ax.P (fun ex a1 w1 => ∃ vs σ1, K ex vs σ1 ∧ StC ax G C ds 65 (envL ([0, 3, 4, 5, 6, 8, 25, 9].zip vs)) σ1 a1 w1 ∧ (∀ t, t ∉ assigned (hintsOf gD.ah) gD.c → a1.tmps.getD t undef = ac.tmps.getD t undef) ∧
      (∃ F β F1 β1, Sim ax.gs G wc F β [⟨0, (.box [(.int .i64 stop)])⟩, ⟨0, (.box [(.bool false)])⟩, ⟨0, (.box [(.sl 1 p)])⟩, ⟨0, (.box [(.sl 3 q)])⟩, ⟨0, (.box [(.str s)])⟩] ∧ C wc F β [⟨0, (.box [(.int .i64 stop)])⟩, ⟨0, (.box [(.bool false)])⟩, ⟨0, (.box [(.sl 1 p)])⟩, ⟨0, (.box [(.sl 3 q)])⟩, ⟨0, (.box [(.str s)])⟩] ∧ Step wc F β [⟨0, (.box [(.int .i64 stop)])⟩, ⟨0, (.box [(.bool false)])⟩, ⟨0, (.box [(.sl 1 p)])⟩, ⟨0, (.box [(.sl 3 q)])⟩, ⟨0, (.box [(.str s)])⟩] w1 F1 β1 σ1)) ac wc :=
  StC.run (sl := fun e => [e 0, e 3, e 4, e 5, e 6, e 8, e 25, e 9]) hC tysOk fnsOk follows eqOk hE hF (fun _ => rfl) gD.ok gD.calm (Eq.mp (gD.eq z i stop p q s K) h) hs
/-! ### gE: a piece of function 7, augur/augurlaw01.LexGoes -/
def gE.ah : AH := ⟨[], [], [], [], [], [], [], []⟩
noncomputable def gE.c : Code := Av.part [.post 4, .fst, .snd, .inn, .inn, .post 1, .fst, .inn, .snd, .fst, .fst] (Tryd.f7.body.getD .skip)
set_option maxRecDepth 100000 in
def gE.W (z : ByteArray) (i : Int) (stop : Int) (p : List (List V)) (q : List (List V)) (s : ByteArray) (n : Int) (K : Exit → List V → Store → Prop) : Prop :=
 (K .normal [(.str z), (.ptr 0 0), (.ptr 1 0), (.ptr 2 0), (.ptr 3 0), (.fn 26 [] [(.ptr 4 0)]), (.int .i64 i), (.ptr 5 0), (.fn 26 [] [(.ptr 4 0)])] [⟨0, (.box [(.int .i64 stop)])⟩, ⟨0, (.box [(.bool false)])⟩, ⟨0, (.box [(.sl 1 p)])⟩, ⟨0, (.box [(.sl 3 q)])⟩, ⟨0, (.box [(.str s)])⟩, ⟨0, (.box [(.int .i64 n)])⟩])
set_option maxRecDepth 100000 in
theorem gE.eq (z : ByteArray) (i : Int) (stop : Int) (p : List (List V)) (q : List (List V)) (s : ByteArray) (n : Int) (K : Exit → List V → Store → Prop) : gE.W z i stop p q s n K = acW ax gE.ah gE.c (fun ex e σ => K ex [e 0, e 3, e 4, e 5, e 6, e 8, e 25, e 9, e 27] σ) (envL [(0, (.str z)), (3, (.ptr 0 0)), (4, (.ptr 1 0)), (5, (.ptr 2 0)), (6, (.ptr 3 0)), (8, (.fn 26 [] [(.ptr 4 0)])), (25, (.int .i64 i)), (9, (.ptr 5 0))]) [⟨0, (.box [(.int .i64 stop)])⟩, ⟨0, (.box [(.bool false)])⟩, ⟨0, (.box [(.sl 1 p)])⟩, ⟨0, (.box [(.sl 3 q)])⟩, ⟨0, (.box [(.str s)])⟩, ⟨0, (.box [(.int .i64 n)])⟩] := by kernel_rfl
theorem gE.ok : codeOk tys (hintsOf gE.ah) Tryd.f7.ntmps gE.c = true := by kernel_rfl
theorem gE.calm : calmC gE.c = true := by kernel_rfl
theorem gE.run {G : Nat → Value} {w0 : World} {F0 : Nat → Nat → Prop} {β0 : Nat → Value} {σ0 : Store} {ds : List Deferred} {F : Fence} {m : Nat} {ac : Act} {wc : World} (hE : ErrOk ax.P ax.gs ax.ift ax.tabs G) (hF : Opn F) (z : ByteArray) (i : Int) (stop : Int) (p : List (List V)) (q : List (List V)) (s : ByteArray) (n : Int) (K : Exit → List V → Store → Prop) (h : gE.W z i stop p q s n K) (hs : St ax G w0 F0 β0 σ0 ds 65 (envL [(0, (.str z)), (3, (.ptr 0 0)), (4, (.ptr 1 0)), (5, (.ptr 2 0)), (6, (.ptr 3 0)), (8, (.fn 26 [] [(.ptr 4 0)])), (25, (.int .i64 i)), (9, (.ptr 5 0))]) [⟨0, (.box [(.int .i64 stop)])⟩, ⟨0, (.box [(.bool false)])⟩, ⟨0, (.box [(.sl 1 p)])⟩, ⟨0, (.box [(.sl 3 q)])⟩, ⟨0, (.box [(.str s)])⟩, ⟨0, (.box [(.int .i64 n)])⟩] ac wc) :
    gE.c.wpIn F m ax.P (fun ex a1 w1 => ∃ vs σ1, K ex vs σ1 ∧ St ax G w0 F0 β0 σ0 ds 65 (envL ([0, 3, 4, 5, 6, 8, 25, 9, 27].zip vs)) σ1 a1 w1 ∧ (∀ t, t ∉ assigned (hintsOf gE.ah) gE.c → a1.tmps.getD t undef = ac.tmps.getD t undef) ∧
      (∃ F β F1 β1, Sim ax.gs G wc F β [⟨0, (.box [(.int .i64 stop)])⟩, ⟨0, (.box [(.bool false)])⟩, ⟨0, (.box [(.sl 1 p)])⟩, ⟨0, (.box [(.sl 3 q)])⟩, ⟨0, (.box [(.str s)])⟩, ⟨0, (.box [(.int .i64 n)])⟩] ∧ Step w0 F0 β0 σ0 wc F β [⟨0, (.box [(.int .i64 stop)])⟩, ⟨0, (.box [(.bool false)])⟩, ⟨0, (.box [(.sl 1 p)])⟩, ⟨0, (.box [(.sl 3 q)])⟩, ⟨0, (.box [(.str s)])⟩, ⟨0, (.box [(.int .i64 n)])⟩] ∧ Step wc F β [⟨0, (.box [(.int .i64 stop)])⟩, ⟨0, (.box [(.bool false)])⟩, ⟨0, (.box [(.sl 1 p)])⟩, ⟨0, (.box [(.sl 3 q)])⟩, ⟨0, (.box [(.str s)])⟩, ⟨0, (.box [(.int .i64 n)])⟩] w1 F1 β1 σ1)) ac wc :=
  St.run (sl := fun e => [e 0, e 3, e 4, e 5, e 6, e 8, e 25, e 9, e 27]) tysOk fnsOk follows eqOk hE hF (fun _ => rfl) gE.ok gE.calm (Eq.mp (gE.eq z i stop p q s n K) h) hs
theorem gE.runC {G : Nat → Value} {C : Beside} (hC : Shut C) {ds : List Deferred} {F : Fence} {m : Nat} {ac : Act} {wc : World} (hE : ErrOk ax.P ax.gs ax.ift ax.tabs G) (hF : Opn F) (z : ByteArray) (i : Int) (stop : Int) (p : List (List V)) (q : List (List V)) (s : ByteArray) (n : Int) (K : Exit → List V → Store → Prop) (h : gE.W z i stop p q s n K) (hs : StC ax G C ds 65 (envL [(0, (.str z)), (3, (.ptr 0 0)), (4, (.ptr 1 0)), (5, (.ptr 2 0)), (6, (.ptr 3 0)), (8, (.fn 26 [] [(.ptr 4 0)])), (25, (.int .i64 i)), (9, (.ptr 5 0))]) [⟨0, (.box [(.int .i64 stop)])⟩, ⟨0, (.box [(.bool false)])⟩, ⟨0, (.box [(.sl 1 p)])⟩, ⟨0, (.box [(.sl 3 q)])⟩, ⟨0, (.box [(.str s)])⟩, ⟨0, (.box [(.int .i64 n)])⟩] ac wc) :
    gE.c.wpIn F m ax.P (fun ex a1 w1 => ∃ vs σ1, K ex vs σ1 ∧ StC ax G C ds 65 (envL ([0, 3, 4, 5, 6, 8, 25, 9, 27].zip vs)) σ1 a1 w1 ∧ (∀ t, t ∉ assigned (hintsOf gE.ah) gE.c → a1.tmps.getD t undef = ac.tmps.getD t undef) ∧
      (∃ F β F1 β1, Sim ax.gs G wc F β [⟨0, (.box [(.int .i64 stop)])⟩, ⟨0, (.box [(.bool false)])⟩, ⟨0, (.box [(.sl 1 p)])⟩, ⟨0, (.box [(.sl 3 q)])⟩, ⟨0, (.box [(.str s)])⟩, ⟨0, (.box [(.int .i64 n)])⟩] ∧ C wc F β [⟨0, (.box [(.int .i64 stop)])⟩, ⟨0, (.box [(.bool false)])⟩, ⟨0, (.box [(.sl 1 p)])⟩, ⟨0, (.box [(.sl 3 q)])⟩, ⟨0, (.box [(.str s)])⟩, ⟨0, (.box [(.int .i64 n)])⟩] ∧ Step wc F β [⟨0, (.box [(.int .i64 stop)])⟩, ⟨0, (.box [(.bool false)])⟩, ⟨0, (.box [(.sl 1 p)])⟩, ⟨0, (.box [(.sl 3 q)])⟩, ⟨0, (.box [(.str s)])⟩, ⟨0, (.box [(.int .i64 n)])⟩] w1 F1 β1 σ1)) ac wc :=
  StC.run (sl := fun e => [e 0, e 3, e 4, e 5, e 6, e 8, e 25, e 9, e 27]) hC tysOk fnsOk follows eqOk hE hF (fun _ => rfl) gE.ok gE.calm (Eq.mp (gE.eq z i stop p q s n K) h) hs
/-! ### gF: a piece of function 7, augur/augurlaw01.LexGoes -/
def gF.ah : AH := ⟨[], [], [], [], [], [], [], []⟩
noncomputable def gF.c : Code := Av.part [.post 4, .fst, .snd, .inn, .inn, .post 1, .fst, .inn, .snd, .fst, .snd, .inn, .asg] (Tryd.f7.body.getD .skip)
set_option maxRecDepth 100000 in
def gF.W (z : ByteArray) (_i : Int) (at_ : Int) (k : Int) (t : ByteArray) (v : Int) (stop : Int) (p : List (List V)) (q : List (List V)) (s : ByteArray) (n : Int) (K : Exit → List V → Store → Prop) : Prop :=
 (K .normal [(.str z), (.ptr 0 0), (.ptr 1 0), (.ptr 2 0), (.ptr 3 0), (.fn 26 [] [(.ptr 4 0)]), (.ptr 5 0), (.int .i64 at_), (.ptr 6 0)] [⟨0, (.box [(.int .i64 stop)])⟩, ⟨0, (.box [(.bool false)])⟩, ⟨0, (.box [(.sl 1 p)])⟩, ⟨0, (.box [(.sl 3 q)])⟩, ⟨0, (.box [(.str s)])⟩, ⟨0, (.box [(.int .i64 n)])⟩, ⟨1, (.box [(.int .i64 k), (.str t), (.int .i64 v)])⟩])
set_option maxRecDepth 100000 in
theorem gF.eq (z : ByteArray) (i : Int) (at_ : Int) (k : Int) (t : ByteArray) (v : Int) (stop : Int) (p : List (List V)) (q : List (List V)) (s : ByteArray) (n : Int) (K : Exit → List V → Store → Prop) : gF.W z i at_ k t v stop p q s n K = acW ax gF.ah gF.c (fun ex e σ => K ex [e 0, e 3, e 4, e 5, e 6, e 8, e 9, e 10, e 11] σ) (envL [(0, (.str z)), (3, (.ptr 0 0)), (4, (.ptr 1 0)), (5, (.ptr 2 0)), (6, (.ptr 3 0)), (8, (.fn 26 [] [(.ptr 4 0)])), (25, (.int .i64 i)), (9, (.ptr 5 0)), (28, (.int .i64 at_)), (29, (.agg [(.int .i64 k), (.str t), (.int .i64 v)]))]) [⟨0, (.box [(.int .i64 stop)])⟩, ⟨0, (.box [(.bool false)])⟩, ⟨0, (.box [(.sl 1 p)])⟩, ⟨0, (.box [(.sl 3 q)])⟩, ⟨0, (.box [(.str s)])⟩, ⟨0, (.box [(.int .i64 n)])⟩] := by kernel_rfl
theorem gF.ok : codeOk tys (hintsOf gF.ah) Tryd.f7.ntmps gF.c = true := by kernel_rfl
theorem gF.calm : calmC gF.c = true := by kernel_rfl
theorem gF.run {G : Nat → Value} {w0 : World} {F0 : Nat → Nat → Prop} {β0 : Nat → Value} {σ0 : Store} {ds : List Deferred} {F : Fence} {m : Nat} {ac : Act} {wc : World} (hE : ErrOk ax.P ax.gs ax.ift ax.tabs G) (hF : Opn F) (z : ByteArray) (i : Int) (at_ : Int) (k : Int) (t : ByteArray) (v : Int) (stop : Int) (p : List (List V)) (q : List (List V)) (s : ByteArray) (n : Int) (K : Exit → List V → Store → Prop) (h : gF.W z i at_ k t v stop p q s n K) (hs : St ax G w0 F0 β0 σ0 ds 65 (envL [(0, (.str z)), (3, (.ptr 0 0)), (4, (.ptr 1 0)), (5, (.ptr 2 0)), (6, (.ptr 3 0)), (8, (.fn 26 [] [(.ptr 4 0)])), (25, (.int .i64 i)), (9, (.ptr 5 0)), (28, (.int .i64 at_)), (29, (.agg [(.int .i64 k), (.str t), (.int .i64 v)]))]) [⟨0, (.box [(.int .i64 stop)])⟩, ⟨0, (.box [(.bool false)])⟩, ⟨0, (.box [(.sl 1 p)])⟩, ⟨0, (.box [(.sl 3 q)])⟩, ⟨0, (.box [(.str s)])⟩, ⟨0, (.box [(.int .i64 n)])⟩] ac wc) :
    gF.c.wpIn F m ax.P (fun ex a1 w1 => ∃ vs σ1, K ex vs σ1 ∧ St ax G w0 F0 β0 σ0 ds 65 (envL ([0, 3, 4, 5, 6, 8, 9, 10, 11].zip vs)) σ1 a1 w1 ∧ (∀ t, t ∉ assigned (hintsOf gF.ah) gF.c → a1.tmps.getD t undef = ac.tmps.getD t undef) ∧
      (∃ F β F1 β1, Sim ax.gs G wc F β [⟨0, (.box [(.int .i64 stop)])⟩, ⟨0, (.box [(.bool false)])⟩, ⟨0, (.box [(.sl 1 p)])⟩, ⟨0, (.box [(.sl 3 q)])⟩, ⟨0, (.box [(.str s)])⟩, ⟨0, (.box [(.int .i64 n)])⟩] ∧ Step w0 F0 β0 σ0 wc F β [⟨0, (.box [(.int .i64 stop)])⟩, ⟨0, (.box [(.bool false)])⟩, ⟨0, (.box [(.sl 1 p)])⟩, ⟨0, (.box [(.sl 3 q)])⟩, ⟨0, (.box [(.str s)])⟩, ⟨0, (.box [(.int .i64 n)])⟩] ∧ Step wc F β [⟨0, (.box [(.int .i64 stop)])⟩, ⟨0, (.box [(.bool false)])⟩, ⟨0, (.box [(.sl 1 p)])⟩, ⟨0, (.box [(.sl 3 q)])⟩, ⟨0, (.box [(.str s)])⟩, ⟨0, (.box [(.int .i64 n)])⟩] w1 F1 β1 σ1)) ac wc :=
  St.run (sl := fun e => [e 0, e 3, e 4, e 5, e 6, e 8, e 9, e 10, e 11]) tysOk fnsOk follows eqOk hE hF (fun _ => rfl) gF.ok gF.calm (Eq.mp (gF.eq z i at_ k t v stop p q s n K) h) hs
theorem gF.runC {G : Nat → Value} {C : Beside} (hC : Shut C) {ds : List Deferred} {F : Fence} {m : Nat} {ac : Act} {wc : World} (hE : ErrOk ax.P ax.gs ax.ift ax.tabs G) (hF : Opn F) (z : ByteArray) (i : Int) (at_ : Int) (k : Int) (t : ByteArray) (v : Int) (stop : Int) (p : List (List V)) (q : List (List V)) (s : ByteArray) (n : Int) (K : Exit → List V → Store → Prop) (h : gF.W z i at_ k t v stop p q s n K) (hs : StC ax G C ds 65 (envL [(0, (.str z)), (3, (.ptr 0 0)), (4, (.ptr 1 0)), (5, (.ptr 2 0)), (6, (.ptr 3 0)), (8, (.fn 26 [] [(.ptr 4 0)])), (25, (.int .i64 i)), (9, (.ptr 5 0)), (28, (.int .i64 at_)), (29, (.agg [(.int .i64 k), (.str t), (.int .i64 v)]))]) [⟨0, (.box [(.int .i64 stop)])⟩, ⟨0, (.box [(.bool false)])⟩, ⟨0, (.box [(.sl 1 p)])⟩, ⟨0, (.box [(.sl 3 q)])⟩, ⟨0, (.box [(.str s)])⟩, ⟨0, (.box [(.int .i64 n)])⟩] ac wc) :
    gF.c.wpIn F m ax.P (fun ex a1 w1 => ∃ vs σ1, K ex vs σ1 ∧ StC ax G C ds 65 (envL ([0, 3, 4, 5, 6, 8, 9, 10, 11].zip vs)) σ1 a1 w1 ∧ (∀ t, t ∉ assigned (hintsOf gF.ah) gF.c → a1.tmps.getD t undef = ac.tmps.getD t undef) ∧
      (∃ F β F1 β1, Sim ax.gs G wc F β [⟨0, (.box [(.int .i64 stop)])⟩, ⟨0, (.box [(.bool false)])⟩, ⟨0, (.box [(.sl 1 p)])⟩, ⟨0, (.box [(.sl 3 q)])⟩, ⟨0, (.box [(.str s)])⟩, ⟨0, (.box [(.int .i64 n)])⟩] ∧ C wc F β [⟨0, (.box [(.int .i64 stop)])⟩, ⟨0, (.box [(.bool false)])⟩, ⟨0, (.box [(.sl 1 p)])⟩, ⟨0, (.box [(.sl 3 q)])⟩, ⟨0, (.box [(.str s)])⟩, ⟨0, (.box [(.int .i64 n)])⟩] ∧ Step wc F β [⟨0, (.box [(.int .i64 stop)])⟩, ⟨0, (.box [(.bool false)])⟩, ⟨0, (.box [(.sl 1 p)])⟩, ⟨0, (.box [(.sl 3 q)])⟩, ⟨0, (.box [(.str s)])⟩, ⟨0, (.box [(.int .i64 n)])⟩] w1 F1 β1 σ1)) ac wc :=
  StC.run (sl := fun e => [e 0, e 3, e 4, e 5, e 6, e 8, e 9, e 10, e 11]) hC tysOk fnsOk follows eqOk hE hF (fun _ => rfl) gF.ok gF.calm (Eq.mp (gF.eq z i at_ k t v stop p q s n K) h) hs
/-! ### gG: a piece of function 7, augur/augurlaw01.LexGoes -/
def gG.ah : AH := ⟨[(13, seqO [0, 1, 2, 3, 4, 5, 6, 7, 8, 9, 10, 11, 12, 13, 14, 15, 16, 17, 18, 19])], [], [], [], [], [], [], []⟩
noncomputable def gG.c : Code := Av.part [.post 4, .fst, .snd, .inn, .inn, .post 1, .fst, .inn, .snd, .fst, .snd, .inn, .bod] (Tryd.f7.body.getD .skip)
set_option maxRecDepth 100000 in
def gG.W (z : ByteArray) (at_ : Int) (stop : Int) (p : List (List V)) (q : List (List V)) (s : ByteArray) (n : Int) (k : Int) (t : ByteArray) (v : Int) (K : Exit → List V → Store → Prop) : Prop :=
 (bif (decide (n ≥ (List.length q : Int))) then (K .ret [(.str z), (.ptr 0 0), (.ptr 1 0), (.ptr 2 0), (.ptr 3 0), (.fn 26 [] [(.ptr 4 0)])] [⟨0, (.box [(.int .i64 stop)])⟩, ⟨1, (.box [(.bool false)])⟩, ⟨0, (.box [(.sl 1 p)])⟩, ⟨0, (.box [(.sl 3 q)])⟩, ⟨0, (.box [(.str s)])⟩, ⟨0, (.box [(.int .i64 n)])⟩, ⟨0, (.box [(.int .i64 k), (.str t), (.int .i64 v)])⟩]) else (0 ≤ n ∧ n < (List.length p : Int) ∧ (∃ (n1 : Int), List.take 1 (Av.rowAt p (n : Int).toNat) = [(.int .i64 n1)] ∧ (bif (at_ != n1) then (K .ret [(.str z), (.ptr 0 0), (.ptr 1 0), (.ptr 2 0), (.ptr 3 0), (.fn 26 [] [(.ptr 4 0)])] [⟨0, (.box [(.int .i64 stop)])⟩, ⟨1, (.box [(.bool false)])⟩, ⟨0, (.box [(.sl 1 p)])⟩, ⟨0, (.box [(.sl 3 q)])⟩, ⟨0, (.box [(.str s)])⟩, ⟨0, (.box [(.int .i64 n)])⟩, ⟨0, (.box [(.int .i64 k), (.str t), (.int .i64 v)])⟩]) else (0 ≤ n ∧ n < (List.length q : Int) ∧ (∃ (n2 : Int) (s3 : ByteArray) (n4 : Int), List.take 3 (Av.rowAt q (n : Int).toNat) = [(.int .i64 n2), (.str s3), (.int .i64 n4)] ∧ (bif (!(eqL [(.int .i64 k), (.str t), (.int .i64 v)] [(.int .i64 n2), (.str s3), (.int .i64 n4)])) then
 (K .ret [(.str z), (.ptr 0 0), (.ptr 1 0), (.ptr 2 0), (.ptr 3 0), (.fn 26 [] [(.ptr 4 0)])] [⟨0, (.box [(.int .i64 stop)])⟩, ⟨1, (.box [(.bool false)])⟩, ⟨0, (.box [(.sl 1 p)])⟩, ⟨0, (.box [(.sl 3 q)])⟩, ⟨0, (.box [(.str s)])⟩, ⟨0, (.box [(.int .i64 n)])⟩, ⟨0, (.box [(.int .i64 k), (.str t), (.int .i64 v)])⟩])
 else
 (bif ((IntKind.i64.wrap (n + 1)) == stop) then
 (K (.exit 2) [(.str z), (.ptr 0 0), (.ptr 1 0), (.ptr 2 0), (.ptr 3 0), (.fn 26 [] [(.ptr 4 0)])] [⟨0, (.box [(.int .i64 stop)])⟩, ⟨0, (.box [(.bool false)])⟩, ⟨0, (.box [(.sl 1 p)])⟩, ⟨0, (.box [(.sl 3 q)])⟩, ⟨0, (.box [(.str s)])⟩, ⟨1, (.box [(.int .i64 (IntKind.i64.wrap (n + 1)))])⟩, ⟨0, (.box [(.int .i64 k), (.str t), (.int .i64 v)])⟩])
 else
 (K .normal [(.str z), (.ptr 0 0), (.ptr 1 0), (.ptr 2 0), (.ptr 3 0), (.fn 26 [] [(.ptr 4 0)])] [⟨0, (.box [(.int .i64 stop)])⟩, ⟨0, (.box [(.bool false)])⟩, ⟨0, (.box [(.sl 1 p)])⟩, ⟨0, (.box [(.sl 3 q)])⟩, ⟨0, (.box [(.str s)])⟩, ⟨1, (.box [(.int .i64 (IntKind.i64.wrap (n + 1)))])⟩, ⟨0, (.box [(.int .i64 k), (.str t), (.int .i64 v)])⟩])))))))))
set_option maxRecDepth 100000 in
theorem gG.eq (z : ByteArray) (at_ : Int) (stop : Int) (p : List (List V)) (q : List (List V)) (s : ByteArray) (n : Int) (k : Int) (t : ByteArray) (v : Int) (K : Exit → List V → Store → Prop) : gG.W z at_ stop p q s n k t v K = acW ax gG.ah gG.c (fun ex e σ => K ex [e 0, e 3, e 4, e 5, e 6, e 8] σ) (envL [(0, (.str z)), (3, (.ptr 0 0)), (4, (.ptr 1 0)), (5, (.ptr 2 0)), (6, (.ptr 3 0)), (8, (.fn 26 [] [(.ptr 4 0)])), (9, (.ptr 5 0)), (10, (.int .i64 at_)), (11, (.ptr 6 0))]) [⟨0, (.box [(.int .i64 stop)])⟩, ⟨0, (.box [(.bool false)])⟩, ⟨0, (.box [(.sl 1 p)])⟩, ⟨0, (.box [(.sl 3 q)])⟩, ⟨0, (.box [(.str s)])⟩, ⟨0, (.box [(.int .i64 n)])⟩, ⟨0, (.box [(.int .i64 k), (.str t), (.int .i64 v)])⟩] := by kernel_rfl
theorem gG.ok : codeOk tys (hintsOf gG.ah) Tryd.f7.ntmps gG.c = true := by kernel_rfl
theorem gG.calm : calmC gG.c = true := by kernel_rfl
theorem gG.run {G : Nat → Value} {w0 : World} {F0 : Nat → Nat → Prop} {β0 : Nat → Value} {σ0 : Store} {ds : List Deferred} {F : Fence} {m : Nat} {ac : Act} {wc : World} (hE : ErrOk ax.P ax.gs ax.ift ax.tabs G) (hF : Opn F) (z : ByteArray) (at_ : Int) (stop : Int) (p : List (List V)) (q : List (List V)) (s : ByteArray) (n : Int) (k : Int) (t : ByteArray) (v : Int) (K : Exit → List V → Store → Prop) (h : gG.W z at_ stop p q s n k t v K) (hs : St ax G w0 F0 β0 σ0 ds 65 (envL [(0, (.str z)), (3, (.ptr 0 0)), (4, (.ptr 1 0)), (5, (.ptr 2 0)), (6, (.ptr 3 0)), (8, (.fn 26 [] [(.ptr 4 0)])), (9, (.ptr 5 0)), (10, (.int .i64 at_)), (11, (.ptr 6 0))]) [⟨0, (.box [(.int .i64 stop)])⟩, ⟨0, (.box [(.bool false)])⟩, ⟨0, (.box [(.sl 1 p)])⟩, ⟨0, (.box [(.sl 3 q)])⟩, ⟨0, (.box [(.str s)])⟩, ⟨0, (.box [(.int .i64 n)])⟩, ⟨0, (.box [(.int .i64 k), (.str t), (.int .i64 v)])⟩] ac wc) :
    gG.c.wpIn F m ax.P (fun ex a1 w1 => ∃ vs σ1, K ex vs σ1 ∧ St ax G w0 F0 β0 σ0 ds 65 (envL ([0, 3, 4, 5, 6, 8].zip vs)) σ1 a1 w1 ∧ (∀ t, t ∉ assigned (hintsOf gG.ah) gG.c → a1.tmps.getD t undef = ac.tmps.getD t undef) ∧
      (∃ F β F1 β1, Sim ax.gs G wc F β [⟨0, (.box [(.int .i64 stop)])⟩, ⟨0, (.box [(.bool false)])⟩, ⟨0, (.box [(.sl 1 p)])⟩, ⟨0, (.box [(.sl 3 q)])⟩, ⟨0, (.box [(.str s)])⟩, ⟨0, (.box [(.int .i64 n)])⟩, ⟨0, (.box [(.int .i64 k), (.str t), (.int .i64 v)])⟩] ∧ Step w0 F0 β0 σ0 wc F β [⟨0, (.box [(.int .i64 stop)])⟩, ⟨0, (.box [(.bool false)])⟩, ⟨0, (.box [(.sl 1 p)])⟩, ⟨0, (.box [(.sl 3 q)])⟩, ⟨0, (.box [(.str s)])⟩, ⟨0, (.box [(.int .i64 n)])⟩, ⟨0, (.box [(.int .i64 k), (.str t), (.int .i64 v)])⟩] ∧ Step wc F β [⟨0, (.box [(.int .i64 stop)])⟩, ⟨0, (.box [(.bool false)])⟩, ⟨0, (.box [(.sl 1 p)])⟩, ⟨0, (.box [(.sl 3 q)])⟩, ⟨0, (.box [(.str s)])⟩, ⟨0, (.box [(.int .i64 n)])⟩, ⟨0, (.box [(.int .i64 k), (.str t), (.int .i64 v)])⟩] w1 F1 β1 σ1)) ac wc :=
  St.run (sl := fun e => [e 0, e 3, e 4, e 5, e 6, e 8]) tysOk fnsOk follows eqOk hE hF (fun _ => rfl) gG.ok gG.calm (Eq.mp (gG.eq z at_ stop p q s n k t v K) h) hs
theorem gG.runC {G : Nat → Value} {C : Beside} (hC : Shut C) {ds : List Deferred} {F : Fence} {m : Nat} {ac : Act} {wc : World} (hE : ErrOk ax.P ax.gs ax.ift ax.tabs G) (hF : Opn F) (z : ByteArray) (at_ : Int) (stop : Int) (p : List (List V)) (q : List (List V)) (s : ByteArray) (n : Int) (k : Int) (t : ByteArray) (v : Int) (K : Exit → List V → Store → Prop) (h : gG.W z at_ stop p q s n k t v K) (hs : StC ax G C ds 65 (envL [(0, (.str z)), (3, (.ptr 0 0)), (4, (.ptr 1 0)), (5, (.ptr 2 0)), (6, (.ptr 3 0)), (8, (.fn 26 [] [(.ptr 4 0)])), (9, (.ptr 5 0)), (10, (.int .i64 at_)), (11, (.ptr 6 0))]) [⟨0, (.box [(.int .i64 stop)])⟩, ⟨0, (.box [(.bool false)])⟩, ⟨0, (.box [(.sl 1 p)])⟩, ⟨0, (.box [(.sl 3 q)])⟩, ⟨0, (.box [(.str s)])⟩, ⟨0, (.box [(.int .i64 n)])⟩, ⟨0, (.box [(.int .i64 k), (.str t), (.int .i64 v)])⟩] ac wc) :
    gG.c.wpIn F m ax.P (fun ex a1 w1 => ∃ vs σ1, K ex vs σ1 ∧ StC ax G C ds 65 (envL ([0, 3, 4, 5, 6, 8].zip vs)) σ1 a1 w1 ∧ (∀ t, t ∉ assigned (hintsOf gG.ah) gG.c → a1.tmps.getD t undef = ac.tmps.getD t undef) ∧
      (∃ F β F1 β1, Sim ax.gs G wc F β [⟨0, (.box [(.int .i64 stop)])⟩, ⟨0, (.box [(.bool false)])⟩, ⟨0, (.box [(.sl 1 p)])⟩, ⟨0, (.box [(.sl 3 q)])⟩, ⟨0, (.box [(.str s)])⟩, ⟨0, (.box [(.int .i64 n)])⟩, ⟨0, (.box [(.int .i64 k), (.str t), (.int .i64 v)])⟩] ∧ C wc F β [⟨0, (.box [(.int .i64 stop)])⟩, ⟨0, (.box [(.bool false)])⟩, ⟨0, (.box [(.sl 1 p)])⟩, ⟨0, (.box [(.sl 3 q)])⟩, ⟨0, (.box [(.str s)])⟩, ⟨0, (.box [(.int .i64 n)])⟩, ⟨0, (.box [(.int .i64 k), (.str t), (.int .i64 v)])⟩] ∧ Step wc F β [⟨0, (.box [(.int .i64 stop)])⟩, ⟨0, (.box [(.bool false)])⟩, ⟨0, (.box [(.sl 1 p)])⟩, ⟨0, (.box [(.sl 3 q)])⟩, ⟨0, (.box [(.str s)])⟩, ⟨0, (.box [(.int .i64 n)])⟩, ⟨0, (.box [(.int .i64 k), (.str t), (.int .i64 v)])⟩] w1 F1 β1 σ1)) ac wc :=
  StC.run (sl := fun e => [e 0, e 3, e 4, e 5, e 6, e 8]) hC tysOk fnsOk follows eqOk hE hF (fun _ => rfl) gG.ok gG.calm (Eq.mp (gG.eq z at_ stop p q s n k t v K) h) hs
/-! ### gH: a piece of function 7, augur/augurlaw01.LexGoes -/
def gH.ah : AH := ⟨[], [], [], [], [], [], [], []⟩
noncomputable def gH.c : Code := Av.part [.post 4, .fst, .snd, .inn, .inn, .post 1, .fst, .inn, .snd, .snd] (Tryd.f7.body.getD .skip)
set_option maxRecDepth 100000 in
def gH.W (z : ByteArray) (i : Int) (stop : Int) (p : List (List V)) (q : List (List V)) (s : ByteArray) (n : Int) (K : Exit → List V → Store → Prop) : Prop :=
 (bif (n != (List.length q : Int)) then (bif (n != stop) then
 (K .ret [(.str z), (.ptr 0 0), (.ptr 1 0), (.ptr 2 0), (.ptr 3 0), (.fn 26 [] [(.ptr 4 0)]), (.int .i64 i)] [⟨0, (.box [(.int .i64 stop)])⟩, ⟨1, (.box [(.bool false)])⟩, ⟨0, (.box [(.sl 1 p)])⟩, ⟨0, (.box [(.sl 3 q)])⟩, ⟨0, (.box [(.str s)])⟩, ⟨0, (.box [(.int .i64 n)])⟩])
 else
 (K .normal [(.str z), (.ptr 0 0), (.ptr 1 0), (.ptr 2 0), (.ptr 3 0), (.fn 26 [] [(.ptr 4 0)]), (.int .i64 i)] [⟨0, (.box [(.int .i64 stop)])⟩, ⟨0, (.box [(.bool false)])⟩, ⟨0, (.box [(.sl 1 p)])⟩, ⟨0, (.box [(.sl 3 q)])⟩, ⟨0, (.box [(.str s)])⟩, ⟨0, (.box [(.int .i64 n)])⟩])) else (K .normal [(.str z), (.ptr 0 0), (.ptr 1 0), (.ptr 2 0), (.ptr 3 0), (.fn 26 [] [(.ptr 4 0)]), (.int .i64 i)] [⟨0, (.box [(.int .i64 stop)])⟩, ⟨0, (.box [(.bool false)])⟩, ⟨0, (.box [(.sl 1 p)])⟩, ⟨0, (.box [(.sl 3 q)])⟩, ⟨0, (.box [(.str s)])⟩, ⟨0, (.box [(.int .i64 n)])⟩]))
set_option maxRecDepth 100000 in
theorem gH.eq (z : ByteArray) (i : Int) (stop : Int) (p : List (List V)) (q : List (List V)) (s : ByteArray) (n : Int) (K : Exit → List V → Store → Prop) : gH.W z i stop p q s n K = acW ax gH.ah gH.c (fun ex e σ => K ex [e 0, e 3, e 4, e 5, e 6, e 8, e 25] σ) (envL [(0, (.str z)), (3, (.ptr 0 0)), (4, (.ptr 1 0)), (5, (.ptr 2 0)), (6, (.ptr 3 0)), (8, (.fn 26 [] [(.ptr 4 0)])), (25, (.int .i64 i)), (9, (.ptr 5 0))]) [⟨0, (.box [(.int .i64 stop)])⟩, ⟨0, (.box [(.bool false)])⟩, ⟨0, (.box [(.sl 1 p)])⟩, ⟨0, (.box [(.sl 3 q)])⟩, ⟨0, (.box [(.str s)])⟩, ⟨0, (.box [(.int .i64 n)])⟩] := by kernel_rfl
theorem gH.ok : codeOk tys (hintsOf gH.ah) Tryd.f7.ntmps gH.c = true := by kernel_rfl
theorem gH.calm : calmC gH.c = true := by kernel_rfl
theorem gH.run {G : Nat → Value} {w0 : World} {F0 : Nat → Nat → Prop} {β0 : Nat → Value} {σ0 : Store} {ds : List Deferred} {F : Fence} {m : Nat} {ac : Act} {wc : World} (hE : ErrOk ax.P ax.gs ax.ift ax.tabs G) (hF : Opn F) (z : ByteArray) (i : Int) (stop : Int) (p : List (List V)) (q : List (List V)) (s : ByteArray) (n : Int) (K : Exit → List V → Store → Prop) (h : gH.W z i stop p q s n K) (hs : St ax G w0 F0 β0 σ0 ds 65 (envL [(0, (.str z)), (3, (.ptr 0 0)), (4, (.ptr 1 0)), (5, (.ptr 2 0)), (6, (.ptr 3 0)), (8, (.fn 26 [] [(.ptr 4 0)])), (25, (.int .i64 i)), (9, (.ptr 5 0))]) [⟨0, (.box [(.int .i64 stop)])⟩, ⟨0, (.box [(.bool false)])⟩, ⟨0, (.box [(.sl 1 p)])⟩, ⟨0, (.box [(.sl 3 q)])⟩, ⟨0, (.box [(.str s)])⟩, ⟨0, (.box [(.int .i64 n)])⟩] ac wc) :
    gH.c.wpIn F m ax.P (fun ex a1 w1 => ∃ vs σ1, K ex vs σ1 ∧ St ax G w0 F0 β0 σ0 ds 65 (envL ([0, 3, 4, 5, 6, 8, 25].zip vs)) σ1 a1 w1 ∧ (∀ t, t ∉ assigned (hintsOf gH.ah) gH.c → a1.tmps.getD t undef = ac.tmps.getD t undef) ∧
      (∃ F β F1 β1, Sim ax.gs G wc F β [⟨0, (.box [(.int .i64 stop)])⟩, ⟨0, (.box [(.bool false)])⟩, ⟨0, (.box [(.sl 1 p)])⟩, ⟨0, (.box [(.sl 3 q)])⟩, ⟨0, (.box [(.str s)])⟩, ⟨0, (.box [(.int .i64 n)])⟩] ∧ Step w0 F0 β0 σ0 wc F β [⟨0, (.box [(.int .i64 stop)])⟩, ⟨0, (.box [(.bool false)])⟩, ⟨0, (.box [(.sl 1 p)])⟩, ⟨0, (.box [(.sl 3 q)])⟩, ⟨0, (.box [(.str s)])⟩, ⟨0, (.box [(.int .i64 n)])⟩] ∧ Step wc F β [⟨0, (.box [(.int .i64 stop)])⟩, ⟨0, (.box [(.bool false)])⟩, ⟨0, (.box [(.sl 1 p)])⟩, ⟨0, (.box [(.sl 3 q)])⟩, ⟨0, (.box [(.str s)])⟩, ⟨0, (.box [(.int .i64 n)])⟩] w1 F1 β1 σ1)) ac wc :=
  St.run (sl := fun e => [e 0, e 3, e 4, e 5, e 6, e 8, e 25]) tysOk fnsOk follows eqOk hE hF (fun _ => rfl) gH.ok gH.calm (Eq.mp (gH.eq z i stop p q s n K) h) hs
theorem gH.runC {G : Nat → Value} {C : Beside} (hC : Shut C) {ds : List Deferred} {F : Fence} {m : Nat} {ac : Act} {wc : World} (hE : ErrOk ax.P ax.gs ax.ift ax.tabs G) (hF : Opn F) (z : ByteArray) (i : Int) (stop : Int) (p : List (List V)) (q : List (List V)) (s : ByteArray) (n : Int) (K : Exit → List V → Store → Prop) (h : gH.W z i stop p q s n K) (hs : StC ax G C ds 65 (envL [(0, (.str z)), (3, (.ptr 0 0)), (4, (.ptr 1 0)), (5, (.ptr 2 0)), (6, (.ptr 3 0)), (8, (.fn 26 [] [(.ptr 4 0)])), (25, (.int .i64 i)), (9, (.ptr 5 0))]) [⟨0, (.box [(.int .i64 stop)])⟩, ⟨0, (.box [(.bool false)])⟩, ⟨0, (.box [(.sl 1 p)])⟩, ⟨0, (.box [(.sl 3 q)])⟩, ⟨0, (.box [(.str s)])⟩, ⟨0, (.box [(.int .i64 n)])⟩] ac wc) :
    gH.c.wpIn F m ax.P (fun ex a1 w1 => ∃ vs σ1, K ex vs σ1 ∧ StC ax G C ds 65 (envL ([0, 3, 4, 5, 6, 8, 25].zip vs)) σ1 a1 w1 ∧ (∀ t, t ∉ assigned (hintsOf gH.ah) gH.c → a1.tmps.getD t undef = ac.tmps.getD t undef) ∧
      (∃ F β F1 β1, Sim ax.gs G wc F β [⟨0, (.box [(.int .i64 stop)])⟩, ⟨0, (.box [(.bool false)])⟩, ⟨0, (.box [(.sl 1 p)])⟩, ⟨0, (.box [(.sl 3 q)])⟩, ⟨0, (.box [(.str s)])⟩, ⟨0, (.box [(.int .i64 n)])⟩] ∧ C wc F β [⟨0, (.box [(.int .i64 stop)])⟩, ⟨0, (.box [(.bool false)])⟩, ⟨0, (.box [(.sl 1 p)])⟩, ⟨0, (.box [(.sl 3 q)])⟩, ⟨0, (.box [(.str s)])⟩, ⟨0, (.box [(.int .i64 n)])⟩] ∧ Step wc F β [⟨0, (.box [(.int .i64 stop)])⟩, ⟨0, (.box [(.bool false)])⟩, ⟨0, (.box [(.sl 1 p)])⟩, ⟨0, (.box [(.sl 3 q)])⟩, ⟨0, (.box [(.str s)])⟩, ⟨0, (.box [(.int .i64 n)])⟩] w1 F1 β1 σ1)) ac wc :=
  StC.run (sl := fun e => [e 0, e 3, e 4, e 5, e 6, e 8, e 25]) hC tysOk fnsOk follows eqOk hE hF (fun _ => rfl) gH.ok gH.calm (Eq.mp (gH.eq z i stop p q s n K) h) hs
/-! ### gI: a piece of function 7, augur/augurlaw01.LexGoes -/
def gI.ah : AH := ⟨[], [], [], [], [], [], [], []⟩
noncomputable def gI.c : Code := Av.part [.post 4, .fst, .snd, .inn, .inn, .post 1, .snd] (Tryd.f7.body.getD .skip)
set_option maxRecDepth 100000 in
def gI.W (z : ByteArray) (i : Int) (stop : Int) (p : List (List V)) (q : List (List V)) (s : ByteArray) (K : Exit → List V → Store → Prop) : Prop :=
 (K .normal [(.str z), (.ptr 0 0), (.ptr 1 0), (.ptr 2 0), (.ptr 3 0), (.fn 26 [] [(.ptr 4 0)]), (.int .i64 (IntKind.i64.wrap (i + 1)))] [⟨0, (.box [(.int .i64 stop)])⟩, ⟨0, (.box [(.bool false)])⟩, ⟨0, (.box [(.sl 1 p)])⟩, ⟨0, (.box [(.sl 3 q)])⟩, ⟨0, (.box [(.str s)])⟩])
set_option maxRecDepth 100000 in
theorem gI.eq (z : ByteArray) (i : Int) (stop : Int) (p : List (List V)) (q : List (List V)) (s : ByteArray) (K : Exit → List V → Store → Prop) : gI.W z i stop p q s K = acW ax gI.ah gI.c (fun ex e σ => K ex [e 0, e 3, e 4, e 5, e 6, e 8, e 25] σ) (envL [(0, (.str z)), (3, (.ptr 0 0)), (4, (.ptr 1 0)), (5, (.ptr 2 0)), (6, (.ptr 3 0)), (8, (.fn 26 [] [(.ptr 4 0)])), (25, (.int .i64 i))]) [⟨0, (.box [(.int .i64 stop)])⟩, ⟨0, (.box [(.bool false)])⟩, ⟨0, (.box [(.sl 1 p)])⟩, ⟨0, (.box [(.sl 3 q)])⟩, ⟨0, (.box [(.str s)])⟩] := by kernel_rfl
theorem gI.ok : codeOk tys (hintsOf gI.ah) Tryd.f7.ntmps gI.c = true := by kernel_rfl
theorem gI.calm : calmC gI.c = true := by kernel_rfl
theorem gI.run {G : Nat → Value} {w0 : World} {F0 : Nat → Nat → Prop} {β0 : Nat → Value} {σ0 : Store} {ds : List Deferred} {F : Fence} {m : Nat} {ac : Act} {wc : World} (hE : ErrOk ax.P ax.gs ax.ift ax.tabs G) (hF : Opn F) (z : ByteArray) (i : Int) (stop : Int) (p : List (List V)) (q : List (List V)) (s : ByteArray) (K : Exit → List V → Store → Prop) (h : gI.W z i stop p q s K) (hs : St ax G w0 F0 β0 σ0 ds 65 (envL [(0, (.str z)), (3, (.ptr 0 0)), (4, (.ptr 1 0)), (5, (.ptr 2 0)), (6, (.ptr 3 0)), (8, (.fn 26 [] [(.ptr 4 0)])), (25, (.int .i64 i))]) [⟨0, (.box [(.int .i64 stop)])⟩, ⟨0, (.box [(.bool false)])⟩, ⟨0, (.box [(.sl 1 p)])⟩, ⟨0, (.box [(.sl 3 q)])⟩, ⟨0, (.box [(.str s)])⟩] ac wc) :
    gI.c.wpIn F m ax.P (fun ex a1 w1 => ∃ vs σ1, K ex vs σ1 ∧ St ax G w0 F0 β0 σ0 ds 65 (envL ([0, 3, 4, 5, 6, 8, 25].zip vs)) σ1 a1 w1 ∧ (∀ t, t ∉ assigned (hintsOf gI.ah) gI.c → a1.tmps.getD t undef = ac.tmps.getD t undef) ∧
      (∃ F β F1 β1, Sim ax.gs G wc F β [⟨0, (.box [(.int .i64 stop)])⟩, ⟨0, (.box [(.bool false)])⟩, ⟨0, (.box [(.sl 1 p)])⟩, ⟨0, (.box [(.sl 3 q)])⟩, ⟨0, (.box [(.str s)])⟩] ∧ Step w0 F0 β0 σ0 wc F β [⟨0, (.box [(.int .i64 stop)])⟩, ⟨0, (.box [(.bool false)])⟩, ⟨0, (.box [(.sl 1 p)])⟩, ⟨0, (.box [(.sl 3 q)])⟩, ⟨0, (.box [(.str s)])⟩] ∧ Step wc F β [⟨0, (.box [(.int .i64 stop)])⟩, ⟨0, (.box [(.bool false)])⟩, ⟨0, (.box [(.sl 1 p)])⟩, ⟨0, (.box [(.sl 3 q)])⟩, ⟨0, (.box [(.str s)])⟩] w1 F1 β1 σ1)) ac wc :=
  St.run (sl := fun e => [e 0, e 3, e 4, e 5, e 6, e 8, e 25]) tysOk fnsOk follows eqOk hE hF (fun _ => rfl) gI.ok gI.calm (Eq.mp (gI.eq z i stop p q s K) h) hs
theorem gI.runC {G : Nat → Value} {C : Beside} (hC : Shut C) {ds : List Deferred} {F : Fence} {m : Nat} {ac : Act} {wc : World} (hE : ErrOk ax.P ax.gs ax.ift ax.tabs G) (hF : Opn F) (z : ByteArray) (i : Int) (stop : Int) (p : List (List V)) (q : List (List V)) (s : ByteArray) (K : Exit → List V → Store → Prop) (h : gI.W z i stop p q s K) (hs : StC ax G C ds 65 (envL [(0, (.str z)), (3, (.ptr 0 0)), (4, (.ptr 1 0)), (5, (.ptr 2 0)), (6, (.ptr 3 0)), (8, (.fn 26 [] [(.ptr 4 0)])), (25, (.int .i64 i))]) [⟨0, (.box [(.int .i64 stop)])⟩, ⟨0, (.box [(.bool false)])⟩, ⟨0, (.box [(.sl 1 p)])⟩, ⟨0, (.box [(.sl 3 q)])⟩, ⟨0, (.box [(.str s)])⟩] ac wc) :
    gI.c.wpIn F m ax.P (fun ex a1 w1 => ∃ vs σ1, K ex vs σ1 ∧ StC ax G C ds 65 (envL ([0, 3, 4, 5, 6, 8, 25].zip vs)) σ1 a1 w1 ∧ (∀ t, t ∉ assigned (hintsOf gI.ah) gI.c → a1.tmps.getD t undef = ac.tmps.getD t undef) ∧
      (∃ F β F1 β1, Sim ax.gs G wc F β [⟨0, (.box [(.int .i64 stop)])⟩, ⟨0, (.box [(.bool false)])⟩, ⟨0, (.box [(.sl 1 p)])⟩, ⟨0, (.box [(.sl 3 q)])⟩, ⟨0, (.box [(.str s)])⟩] ∧ C wc F β [⟨0, (.box [(.int .i64 stop)])⟩, ⟨0, (.box [(.bool false)])⟩, ⟨0, (.box [(.sl 1 p)])⟩, ⟨0, (.box [(.sl 3 q)])⟩, ⟨0, (.box [(.str s)])⟩] ∧ Step wc F β [⟨0, (.box [(.int .i64 stop)])⟩, ⟨0, (.box [(.bool false)])⟩, ⟨0, (.box [(.sl 1 p)])⟩, ⟨0, (.box [(.sl 3 q)])⟩, ⟨0, (.box [(.str s)])⟩] w1 F1 β1 σ1)) ac wc :=
  StC.run (sl := fun e => [e 0, e 3, e 4, e 5, e 6, e 8, e 25]) hC tysOk fnsOk follows eqOk hE hF (fun _ => rfl) gI.ok gI.calm (Eq.mp (gI.eq z i stop p q s K) h) hs
/-! ### gJ: a piece of function 7, augur/augurlaw01.LexGoes -/
def gJ.ah : AH := ⟨[], [], [], [], [], [], [], []⟩
noncomputable def gJ.c : Code := Av.part [.post 4, .snd] (Tryd.f7.body.getD .skip)
set_option maxRecDepth 100000 in
def gJ.W (z : ByteArray) (stop : Int) (p : List (List V)) (q : List (List V)) (s : ByteArray) (K : Exit → List V → Store → Prop) : Prop :=
 (K .ret [(.str z), (.ptr 0 0), (.ptr 1 0), (.ptr 2 0), (.ptr 3 0), (.fn 26 [] [(.ptr 4 0)])] [⟨0, (.box [(.int .i64 stop)])⟩, ⟨1, (.box [(.bool true)])⟩, ⟨0, (.box [(.sl 1 p)])⟩, ⟨0, (.box [(.sl 3 q)])⟩, ⟨0, (.box [(.str s)])⟩])
set_option maxRecDepth 100000 in
theorem gJ.eq (z : ByteArray) (stop : Int) (p : List (List V)) (q : List (List V)) (s : ByteArray) (K : Exit → List V → Store → Prop) : gJ.W z stop p q s K = acW ax gJ.ah gJ.c (fun ex e σ => K ex [e 0, e 3, e 4, e 5, e 6, e 8] σ) (envL [(0, (.str z)), (3, (.ptr 0 0)), (4, (.ptr 1 0)), (5, (.ptr 2 0)), (6, (.ptr 3 0)), (8, (.fn 26 [] [(.ptr 4 0)]))]) [⟨0, (.box [(.int .i64 stop)])⟩, ⟨0, (.box [(.bool false)])⟩, ⟨0, (.box [(.sl 1 p)])⟩, ⟨0, (.box [(.sl 3 q)])⟩, ⟨0, (.box [(.str s)])⟩] := by kernel_rfl
theorem gJ.ok : codeOk tys (hintsOf gJ.ah) Tryd.f7.ntmps gJ.c = true := by kernel_rfl
theorem gJ.calm : calmC gJ.c = true := by kernel_rfl
theorem gJ.run {G : Nat → Value} {w0 : World} {F0 : Nat → Nat → Prop} {β0 : Nat → Value} {σ0 : Store} {ds : List Deferred} {F : Fence} {m : Nat} {ac : Act} {wc : World} (hE : ErrOk ax.P ax.gs ax.ift ax.tabs G) (hF : Opn F) (z : ByteArray) (stop : Int) (p : List (List V)) (q : List (List V)) (s : ByteArray) (K : Exit → List V → Store → Prop) (h : gJ.W z stop p q s K) (hs : St ax G w0 F0 β0 σ0 ds 65 (envL [(0, (.str z)), (3, (.ptr 0 0)), (4, (.ptr 1 0)), (5, (.ptr 2 0)), (6, (.ptr 3 0)), (8, (.fn 26 [] [(.ptr 4 0)]))]) [⟨0, (.box [(.int .i64 stop)])⟩, ⟨0, (.box [(.bool false)])⟩, ⟨0, (.box [(.sl 1 p)])⟩, ⟨0, (.box [(.sl 3 q)])⟩, ⟨0, (.box [(.str s)])⟩] ac wc) :
    gJ.c.wpIn F m ax.P (fun ex a1 w1 => ∃ vs σ1, K ex vs σ1 ∧ St ax G w0 F0 β0 σ0 ds 65 (envL ([0, 3, 4, 5, 6, 8].zip vs)) σ1 a1 w1 ∧ (∀ t, t ∉ assigned (hintsOf gJ.ah) gJ.c → a1.tmps.getD t undef = ac.tmps.getD t undef) ∧
      (∃ F β F1 β1, Sim ax.gs G wc F β [⟨0, (.box [(.int .i64 stop)])⟩, ⟨0, (.box [(.bool false)])⟩, ⟨0, (.box [(.sl 1 p)])⟩, ⟨0, (.box [(.sl 3 q)])⟩, ⟨0, (.box [(.str s)])⟩] ∧ Step w0 F0 β0 σ0 wc F β [⟨0, (.box [(.int .i64 stop)])⟩, ⟨0, (.box [(.bool false)])⟩, ⟨0, (.box [(.sl 1 p)])⟩, ⟨0, (.box [(.sl 3 q)])⟩, ⟨0, (.box [(.str s)])⟩] ∧ Step wc F β [⟨0, (.box [(.int .i64 stop)])⟩, ⟨0, (.box [(.bool false)])⟩, ⟨0, (.box [(.sl 1 p)])⟩, ⟨0, (.box [(.sl 3 q)])⟩, ⟨0, (.box [(.str s)])⟩] w1 F1 β1 σ1)) ac wc :=
  St.run (sl := fun e => [e 0, e 3, e 4, e 5, e 6, e 8]) tysOk fnsOk follows eqOk hE hF (fun _ => rfl) gJ.ok gJ.calm (Eq.mp (gJ.eq z stop p q s K) h) hs
theorem gJ.runC {G : Nat → Value} {C : Beside} (hC : Shut C) {ds : List Deferred} {F : Fence} {m : Nat} {ac : Act} {wc : World} (hE : ErrOk ax.P ax.gs ax.ift ax.tabs G) (hF : Opn F) (z : ByteArray) (stop : Int) (p : List (List V)) (q : List (List V)) (s : ByteArray) (K : Exit → List V → Store → Prop) (h : gJ.W z stop p q s K) (hs : StC ax G C ds 65 (envL [(0, (.str z)), (3, (.ptr 0 0)), (4, (.ptr 1 0)), (5, (.ptr 2 0)), (6, (.ptr 3 0)), (8, (.fn 26 [] [(.ptr 4 0)]))]) [⟨0, (.box [(.int .i64 stop)])⟩, ⟨0, (.box [(.bool false)])⟩, ⟨0, (.box [(.sl 1 p)])⟩, ⟨0, (.box [(.sl 3 q)])⟩, ⟨0, (.box [(.str s)])⟩] ac wc) :
    gJ.c.wpIn F m ax.P (fun ex a1 w1 => ∃ vs σ1, K ex vs σ1 ∧ StC ax G C ds 65 (envL ([0, 3, 4, 5, 6, 8].zip vs)) σ1 a1 w1 ∧ (∀ t, t ∉ assigned (hintsOf gJ.ah) gJ.c → a1.tmps.getD t undef = ac.tmps.getD t undef) ∧
      (∃ F β F1 β1, Sim ax.gs G wc F β [⟨0, (.box [(.int .i64 stop)])⟩, ⟨0, (.box [(.bool false)])⟩, ⟨0, (.box [(.sl 1 p)])⟩, ⟨0, (.box [(.sl 3 q)])⟩, ⟨0, (.box [(.str s)])⟩] ∧ C wc F β [⟨0, (.box [(.int .i64 stop)])⟩, ⟨0, (.box [(.bool false)])⟩, ⟨0, (.box [(.sl 1 p)])⟩, ⟨0, (.box [(.sl 3 q)])⟩, ⟨0, (.box [(.str s)])⟩] ∧ Step wc F β [⟨0, (.box [(.int .i64 stop)])⟩, ⟨0, (.box [(.bool false)])⟩, ⟨0, (.box [(.sl 1 p)])⟩, ⟨0, (.box [(.sl 3 q)])⟩, ⟨0, (.box [(.str s)])⟩] w1 F1 β1 σ1)) ac wc :=
  StC.run (sl := fun e => [e 0, e 3, e 4, e 5, e 6, e 8]) hC tysOk fnsOk follows eqOk hE hF (fun _ => rfl) gJ.ok gJ.calm (Eq.mp (gJ.eq z stop p q s K) h) hs
/-! ### pA: a piece of function 8, augur/augurlaw01.LexPlaces -/
def pA.ah : AH := ⟨[], [], [], [(11, ⟨[], [.c (.bool)], []⟩)], [], [], [], []⟩
noncomputable def pA.c : Code := Av.part [.pre 2] (Tryd.f8.body.getD .skip)
set_option maxRecDepth 100000 in
def pA.W (s : ByteArray) (K : Exit → List V → Store → Prop) : Prop :=
 (PCalls ax 11 [] fun r2 => ∃ (b1 : Bool), r2 = [(.bool b1)] ∧ (bif (!b1) then
 (K .ret [(.ptr 0 0), (.ptr 1 0), .junk, .junk] [⟨0, (.box [(.str s)])⟩, ⟨1, (.box [(.bool false)])⟩])
 else
 (K .normal [(.ptr 0 0), (.ptr 1 0), (.ptr 2 0), (.ptr 3 0)] [⟨0, (.box [(.str s)])⟩, ⟨0, (.box [(.bool false)])⟩, ⟨1, (.box [(.int .i64 0)])⟩, ⟨1, (.box [(.int .i64 0)])⟩])))
set_option maxRecDepth 100000 in
theorem pA.eq (s : ByteArray) (K : Exit → List V → Store → Prop) : pA.W s K = acW ax pA.ah pA.c (fun ex e σ => K ex [e 1, e 2, e 3, e 4] σ) (envL [(0, (.str s))]) [] := by kernel_rfl
theorem pA.ok : codeOk tys (hintsOf pA.ah) Tryd.f8.ntmps pA.c = true := by kernel_rfl
theorem pA.calm : calmC pA.c = true := by kernel_rfl
theorem pA.run {G : Nat → Value} {w0 : World} {F0 : Nat → Nat → Prop} {β0 : Nat → Value} {σ0 : Store} {ds : List Deferred} {F : Fence} {m : Nat} {ac : Act} {wc : World} (hE : ErrOk ax.P ax.gs ax.ift ax.tabs G) (hF : Opn F) (s : ByteArray) (K : Exit → List V → Store → Prop) (h : pA.W s K) (hs : St ax G w0 F0 β0 σ0 ds 66 (envL [(0, (.str s))]) [] ac wc) :
    pA.c.wpIn F m ax.P (fun ex a1 w1 => ∃ vs σ1, K ex vs σ1 ∧ St ax G w0 F0 β0 σ0 ds 66 (envL ([1, 2, 3, 4].zip vs)) σ1 a1 w1 ∧ (∀ t, t ∉ assigned (hintsOf pA.ah) pA.c → a1.tmps.getD t undef = ac.tmps.getD t undef) ∧
      (∃ F β F1 β1, Sim ax.gs G wc F β [] ∧ Step w0 F0 β0 σ0 wc F β [] ∧ Step wc F β [] w1 F1 β1 σ1)) ac wc :=
  St.run (sl := fun e => [e 1, e 2, e 3, e 4]) tysOk fnsOk follows eqOk hE hF (fun _ => rfl) pA.ok pA.calm (Eq.mp (pA.eq s K) h) hs
theorem pA.runC {G : Nat → Value} {C : Beside} (hC : Shut C) {ds : List Deferred} {F : Fence} {m : Nat} {ac : Act} {wc : World} (hE : ErrOk ax.P ax.gs ax.ift ax.tabs G) (hF : Opn F) (s : ByteArray) (K : Exit → List V → Store → Prop) (h : pA.W s K) (hs : StC ax G C ds 66 (envL [(0, (.str s))]) [] ac wc) :
    pA.c.wpIn F m ax.P (fun ex a1 w1 => ∃ vs σ1, K ex vs σ1 ∧ StC ax G C ds 66 (envL ([1, 2, 3, 4].zip vs)) σ1 a1 w1 ∧ (∀ t, t ∉ assigned (hintsOf pA.ah) pA.c → a1.tmps.getD t undef = ac.tmps.getD t undef) ∧
      (∃ F β F1 β1, Sim ax.gs G wc F β [] ∧ C wc F β [] ∧ Step wc F β [] w1 F1 β1 σ1)) ac wc :=
  StC.run (sl := fun e => [e 1, e 2, e 3, e 4]) hC tysOk fnsOk follows eqOk hE hF (fun _ => rfl) pA.ok pA.calm (Eq.mp (pA.eq s K) h) hs
/-! ### pB: a piece of function 8, augur/augurlaw01.LexPlaces -/
def pB.ah : AH := ⟨[], [], [], [(18, ⟨[some [.str]], [.lit (.fn 26 [] [(.ptr 0 0)])], [.box [.d (.str)]]⟩)], [], [], [], []⟩
noncomputable def pB.c : Code := Av.part [.post 2, .fst, .fst] (Tryd.f8.body.getD .skip)
set_option maxRecDepth 100000 in
def pB.W (s : ByteArray) (en : Int) (n : Int) (K : Exit → List V → Store → Prop) : Prop :=
 (SCalls ax 18 [(.str s)] [] fun r1 o3 => ∃ (s2 : ByteArray), r1 = [(.fn 26 [] [(.ptr 0 0)])] ∧ o3 = [(.box [(.str s2)])] ∧ (K .normal [(.ptr 0 0), (.ptr 1 0), (.ptr 2 0), (.ptr 3 0), (.fn 26 [] [(.ptr 4 0)])] [⟨0, (.box [(.str s)])⟩, ⟨0, (.box [(.bool false)])⟩, ⟨0, (.box [(.int .i64 en)])⟩, ⟨0, (.box [(.int .i64 n)])⟩, ⟨0, (.box [(.str s2)])⟩]))
set_option maxRecDepth 100000 in
theorem pB.eq (s : ByteArray) (en : Int) (n : Int) (K : Exit → List V → Store → Prop) : pB.W s en n K = acW ax pB.ah pB.c (fun ex e σ => K ex [e 1, e 2, e 3, e 4, e 12] σ) (envL [(1, (.ptr 0 0)), (2, (.ptr 1 0)), (3, (.ptr 2 0)), (4, (.ptr 3 0))]) [⟨0, (.box [(.str s)])⟩, ⟨0, (.box [(.bool false)])⟩, ⟨0, (.box [(.int .i64 en)])⟩, ⟨0, (.box [(.int .i64 n)])⟩] := by kernel_rfl
theorem pB.ok : codeOk tys (hintsOf pB.ah) Tryd.f8.ntmps pB.c = true := by kernel_rfl
theorem pB.calm : calmC pB.c = true := by kernel_rfl
theorem pB.run {G : Nat → Value} {w0 : World} {F0 : Nat → Nat → Prop} {β0 : Nat → Value} {σ0 : Store} {ds : List Deferred} {F : Fence} {m : Nat} {ac : Act} {wc : World} (hE : ErrOk ax.P ax.gs ax.ift ax.tabs G) (hF : Opn F) (s : ByteArray) (en : Int) (n : Int) (K : Exit → List V → Store → Prop) (h : pB.W s en n K) (hs : St ax G w0 F0 β0 σ0 ds 66 (envL [(1, (.ptr 0 0)), (2, (.ptr 1 0)), (3, (.ptr 2 0)), (4, (.ptr 3 0))]) [⟨0, (.box [(.str s)])⟩, ⟨0, (.box [(.bool false)])⟩, ⟨0, (.box [(.int .i64 en)])⟩, ⟨0, (.box [(.int .i64 n)])⟩] ac wc) :
    pB.c.wpIn F m ax.P (fun ex a1 w1 => ∃ vs σ1, K ex vs σ1 ∧ St ax G w0 F0 β0 σ0 ds 66 (envL ([1, 2, 3, 4, 12].zip vs)) σ1 a1 w1 ∧ (∀ t, t ∉ assigned (hintsOf pB.ah) pB.c → a1.tmps.getD t undef = ac.tmps.getD t undef) ∧
      (∃ F β F1 β1, Sim ax.gs G wc F β [⟨0, (.box [(.str s)])⟩, ⟨0, (.box [(.bool false)])⟩, ⟨0, (.box [(.int .i64 en)])⟩, ⟨0, (.box [(.int .i64 n)])⟩] ∧ Step w0 F0 β0 σ0 wc F β [⟨0, (.box [(.str s)])⟩, ⟨0, (.box [(.bool false)])⟩, ⟨0, (.box [(.int .i64 en)])⟩, ⟨0, (.box [(.int .i64 n)])⟩] ∧ Step wc F β [⟨0, (.box [(.str s)])⟩, ⟨0, (.box [(.bool false)])⟩, ⟨0, (.box [(.int .i64 en)])⟩, ⟨0, (.box [(.int .i64 n)])⟩] w1 F1 β1 σ1)) ac wc :=
  St.run (sl := fun e => [e 1, e 2, e 3, e 4, e 12]) tysOk fnsOk follows eqOk hE hF (fun _ => rfl) pB.ok pB.calm (Eq.mp (pB.eq s en n K) h) hs
theorem pB.runC {G : Nat → Value} {C : Beside} (hC : Shut C) {ds : List Deferred} {F : Fence} {m : Nat} {ac : Act} {wc : World} (hE : ErrOk ax.P ax.gs ax.ift ax.tabs G) (hF : Opn F) (s : ByteArray) (en : Int) (n : Int) (K : Exit → List V → Store → Prop) (h : pB.W s en n K) (hs : StC ax G C ds 66 (envL [(1, (.ptr 0 0)), (2, (.ptr 1 0)), (3, (.ptr 2 0)), (4, (.ptr 3 0))]) [⟨0, (.box [(.str s)])⟩, ⟨0, (.box [(.bool false)])⟩, ⟨0, (.box [(.int .i64 en)])⟩, ⟨0, (.box [(.int .i64 n)])⟩] ac wc) :
    pB.c.wpIn F m ax.P (fun ex a1 w1 => ∃ vs σ1, K ex vs σ1 ∧ StC ax G C ds 66 (envL ([1, 2, 3, 4, 12].zip vs)) σ1 a1 w1 ∧ (∀ t, t ∉ assigned (hintsOf pB.ah) pB.c → a1.tmps.getD t undef = ac.tmps.getD t undef) ∧
      (∃ F β F1 β1, Sim ax.gs G wc F β [⟨0, (.box [(.str s)])⟩, ⟨0, (.box [(.bool false)])⟩, ⟨0, (.box [(.int .i64 en)])⟩, ⟨0, (.box [(.int .i64 n)])⟩] ∧ C wc F β [⟨0, (.box [(.str s)])⟩, ⟨0, (.box [(.bool false)])⟩, ⟨0, (.box [(.int .i64 en)])⟩, ⟨0, (.box [(.int .i64 n)])⟩] ∧ Step wc F β [⟨0, (.box [(.str s)])⟩, ⟨0, (.box [(.bool false)])⟩, ⟨0, (.box [(.int .i64 en)])⟩, ⟨0, (.box [(.int .i64 n)])⟩] w1 F1 β1 σ1)) ac wc :=
  StC.run (sl := fun e => [e 1, e 2, e 3, e 4, e 12]) hC tysOk fnsOk follows eqOk hE hF (fun _ => rfl) pB.ok pB.calm (Eq.mp (pB.eq s en n K) h) hs
/-! ### pC: a piece of function 8, augur/augurlaw01.LexPlaces -/
def pC.ah : AH := ⟨[], [], [], [], [], [], [], []⟩
noncomputable def pC.c : Code := Av.part [.post 2, .fst, .snd, .inn, .asg] (Tryd.f8.body.getD .skip)
set_option maxRecDepth 100000 in
def pC.W (at_ : Int) (k : Int) (t : ByteArray) (v : Int) (s : ByteArray) (en : Int) (n : Int) (s2 : ByteArray) (K : Exit → List V → Store → Prop) : Prop :=
 (K .normal [(.ptr 0 0), (.ptr 1 0), (.ptr 2 0), (.ptr 3 0), (.int .i64 at_), (.ptr 5 0)] [⟨0, (.box [(.str s)])⟩, ⟨0, (.box [(.bool false)])⟩, ⟨0, (.box [(.int .i64 en)])⟩, ⟨0, (.box [(.int .i64 n)])⟩, ⟨0, (.box [(.str s2)])⟩, ⟨1, (.box [(.int .i64 k), (.str t), (.int .i64 v)])⟩])
set_option maxRecDepth 100000 in
theorem pC.eq (at_ : Int) (k : Int) (t : ByteArray) (v : Int) (s : ByteArray) (en : Int) (n : Int) (s2 : ByteArray) (K : Exit → List V → Store → Prop) : pC.W at_ k t v s en n s2 K = acW ax pC.ah pC.c (fun ex e σ => K ex [e 1, e 2, e 3, e 4, e 5, e 6] σ) (envL [(1, (.ptr 0 0)), (2, (.ptr 1 0)), (3, (.ptr 2 0)), (4, (.ptr 3 0)), (13, (.int .i64 at_)), (14, (.agg [(.int .i64 k), (.str t), (.int .i64 v)]))]) [⟨0, (.box [(.str s)])⟩, ⟨0, (.box [(.bool false)])⟩, ⟨0, (.box [(.int .i64 en)])⟩, ⟨0, (.box [(.int .i64 n)])⟩, ⟨0, (.box [(.str s2)])⟩] := by kernel_rfl
theorem pC.ok : codeOk tys (hintsOf pC.ah) Tryd.f8.ntmps pC.c = true := by kernel_rfl
theorem pC.calm : calmC pC.c = true := by kernel_rfl
theorem pC.run {G : Nat → Value} {w0 : World} {F0 : Nat → Nat → Prop} {β0 : Nat → Value} {σ0 : Store} {ds : List Deferred} {F : Fence} {m : Nat} {ac : Act} {wc : World} (hE : ErrOk ax.P ax.gs ax.ift ax.tabs G) (hF : Opn F) (at_ : Int) (k : Int) (t : ByteArray) (v : Int) (s : ByteArray) (en : Int) (n : Int) (s2 : ByteArray) (K : Exit → List V → Store → Prop) (h : pC.W at_ k t v s en n s2 K) (hs : St ax G w0 F0 β0 σ0 ds 66 (envL [(1, (.ptr 0 0)), (2, (.ptr 1 0)), (3, (.ptr 2 0)), (4, (.ptr 3 0)), (13, (.int .i64 at_)), (14, (.agg [(.int .i64 k), (.str t), (.int .i64 v)]))]) [⟨0, (.box [(.str s)])⟩, ⟨0, (.box [(.bool false)])⟩, ⟨0, (.box [(.int .i64 en)])⟩, ⟨0, (.box [(.int .i64 n)])⟩, ⟨0, (.box [(.str s2)])⟩] ac wc) :
    pC.c.wpIn F m ax.P (fun ex a1 w1 => ∃ vs σ1, K ex vs σ1 ∧ St ax G w0 F0 β0 σ0 ds 66 (envL ([1, 2, 3, 4, 5, 6].zip vs)) σ1 a1 w1 ∧ (∀ t, t ∉ assigned (hintsOf pC.ah) pC.c → a1.tmps.getD t undef = ac.tmps.getD t undef) ∧
      (∃ F β F1 β1, Sim ax.gs G wc F β [⟨0, (.box [(.str s)])⟩, ⟨0, (.box [(.bool false)])⟩, ⟨0, (.box [(.int .i64 en)])⟩, ⟨0, (.box [(.int .i64 n)])⟩, ⟨0, (.box [(.str s2)])⟩] ∧ Step w0 F0 β0 σ0 wc F β [⟨0, (.box [(.str s)])⟩, ⟨0, (.box [(.bool false)])⟩, ⟨0, (.box [(.int .i64 en)])⟩, ⟨0, (.box [(.int .i64 n)])⟩, ⟨0, (.box [(.str s2)])⟩] ∧ Step wc F β [⟨0, (.box [(.str s)])⟩, ⟨0, (.box [(.bool false)])⟩, ⟨0, (.box [(.int .i64 en)])⟩, ⟨0, (.box [(.int .i64 n)])⟩, ⟨0, (.box [(.str s2)])⟩] w1 F1 β1 σ1)) ac wc :=
  St.run (sl := fun e => [e 1, e 2, e 3, e 4, e 5, e 6]) tysOk fnsOk follows eqOk hE hF (fun _ => rfl) pC.ok pC.calm (Eq.mp (pC.eq at_ k t v s en n s2 K) h) hs
theorem pC.runC {G : Nat → Value} {C : Beside} (hC : Shut C) {ds : List Deferred} {F : Fence} {m : Nat} {ac : Act} {wc : World} (hE : ErrOk ax.P ax.gs ax.ift ax.tabs G) (hF : Opn F) (at_ : Int) (k : Int) (t : ByteArray) (v : Int) (s : ByteArray) (en : Int) (n : Int) (s2 : ByteArray) (K : Exit → List V → Store → Prop) (h : pC.W at_ k t v s en n s2 K) (hs : StC ax G C ds 66 (envL [(1, (.ptr 0 0)), (2, (.ptr 1 0)), (3, (.ptr 2 0)), (4, (.ptr 3 0)), (13, (.int .i64 at_)), (14, (.agg [(.int .i64 k), (.str t), (.int .i64 v)]))]) [⟨0, (.box [(.str s)])⟩, ⟨0, (.box [(.bool false)])⟩, ⟨0, (.box [(.int .i64 en)])⟩, ⟨0, (.box [(.int .i64 n)])⟩, ⟨0, (.box [(.str s2)])⟩] ac wc) :
    pC.c.wpIn F m ax.P (fun ex a1 w1 => ∃ vs σ1, K ex vs σ1 ∧ StC ax G C ds 66 (envL ([1, 2, 3, 4, 5, 6].zip vs)) σ1 a1 w1 ∧ (∀ t, t ∉ assigned (hintsOf pC.ah) pC.c → a1.tmps.getD t undef = ac.tmps.getD t undef) ∧
      (∃ F β F1 β1, Sim ax.gs G wc F β [⟨0, (.box [(.str s)])⟩, ⟨0, (.box [(.bool false)])⟩, ⟨0, (.box [(.int .i64 en)])⟩, ⟨0, (.box [(.int .i64 n)])⟩, ⟨0, (.box [(.str s2)])⟩] ∧ C wc F β [⟨0, (.box [(.str s)])⟩, ⟨0, (.box [(.bool false)])⟩, ⟨0, (.box [(.int .i64 en)])⟩, ⟨0, (.box [(.int .i64 n)])⟩, ⟨0, (.box [(.str s2)])⟩] ∧ Step wc F β [⟨0, (.box [(.str s)])⟩, ⟨0, (.box [(.bool false)])⟩, ⟨0, (.box [(.int .i64 en)])⟩, ⟨0, (.box [(.int .i64 n)])⟩, ⟨0, (.box [(.str s2)])⟩] w1 F1 β1 σ1)) ac wc :=
  StC.run (sl := fun e => [e 1, e 2, e 3, e 4, e 5, e 6]) hC tysOk fnsOk follows eqOk hE hF (fun _ => rfl) pC.ok pC.calm (Eq.mp (pC.eq at_ k t v s en n s2 K) h) hs
/-! ### pD: a piece of function 8, augur/augurlaw01.LexPlaces -/
def pD.ah : AH := ⟨[(7, seqO [0, 1, 2, 3, 4, 5, 6, 7, 8, 9, 10, 11, 12, 13, 14, 15, 16, 17, 18, 19, 20, 21, 22, 23, 24, 25, 26, 27, 28, 29, 30])], [], [], [], [], [], [], []⟩
noncomputable def pD.c : Code := Av.part [.post 2, .fst, .snd, .inn, .bod] (Tryd.f8.body.getD .skip)
set_option maxRecDepth 100000 in
def pD.W (at_ : Int) (s : ByteArray) (en : Int) (n : Int) (s2 : ByteArray) (k : Int) (t : ByteArray) (v : Int) (K : Exit → List V → Store → Prop) : Prop :=
 (bif (decide (at_ < en)) then (K .ret [(.ptr 0 0), (.ptr 1 0), (.ptr 2 0), (.ptr 3 0)] [⟨0, (.box [(.str s)])⟩, ⟨1, (.box [(.bool false)])⟩, ⟨0, (.box [(.int .i64 en)])⟩, ⟨0, (.box [(.int .i64 n)])⟩, ⟨0, (.box [(.str s2)])⟩, ⟨0, (.box [(.int .i64 k), (.str t), (.int .i64 v)])⟩]) else (bif (decide ((IntKind.i64.wrap (at_ + (t.size : Int))) > (s.size : Int))) then (K .ret [(.ptr 0 0), (.ptr 1 0), (.ptr 2 0), (.ptr 3 0)] [⟨0, (.box [(.str s)])⟩, ⟨1, (.box [(.bool false)])⟩, ⟨0, (.box [(.int .i64 en)])⟩, ⟨0, (.box [(.int .i64 n)])⟩, ⟨0, (.box [(.str s2)])⟩, ⟨0, (.box [(.int .i64 k), (.str t), (.int .i64 v)])⟩]) else (0 ≤ at_ ∧ at_ ≤ (IntKind.i64.wrap (at_ + (t.size : Int))) ∧ (IntKind.i64.wrap (at_ + (t.size : Int))) ≤ (s.size : Int) ∧ (bif (!(strEq (s.extract (at_ : Int).toNat ((IntKind.i64.wrap (at_ + (t.size : Int))) : Int).toNat) t)) then (K .ret [(.ptr 0 0), (.ptr 1 0), (.ptr 2 0), (.ptr 3 0)] [⟨0, (.box [(.str s)])⟩, ⟨1, (.box [(.bool false)])⟩, ⟨0, (.box [(.int .i64 en)])⟩, ⟨0, (.box [(.int .i64 n)])⟩, ⟨0, (.box [(.str s2)])⟩, ⟨0, (.box [(.int .i64 k), (.str t), (.int .i64 v)])⟩]) else (bif (strEq t (⟨#[]⟩ : ByteArray)) then
 (K .ret [(.ptr 0 0), (.ptr 1 0), (.ptr 2 0), (.ptr 3 0)] [⟨0, (.box [(.str s)])⟩, ⟨1, (.box [(.bool false)])⟩, ⟨0, (.box [(.int .i64 en)])⟩, ⟨0, (.box [(.int .i64 n)])⟩, ⟨0, (.box [(.str s2)])⟩, ⟨0, (.box [(.int .i64 k), (.str t), (.int .i64 v)])⟩])
 else
 (K .normal [(.ptr 0 0), (.ptr 1 0), (.ptr 2 0), (.ptr 3 0)] [⟨0, (.box [(.str s)])⟩, ⟨0, (.box [(.bool false)])⟩, ⟨1, (.box [(.int .i64 (IntKind.i64.wrap (at_ + (t.size : Int))))])⟩, ⟨1, (.box [(.int .i64 (IntKind.i64.wrap (n + 1)))])⟩, ⟨0, (.box [(.str s2)])⟩, ⟨0, (.box [(.int .i64 k), (.str t), (.int .i64 v)])⟩]))))))
set_option maxRecDepth 100000 in
theorem pD.eq (at_ : Int) (s : ByteArray) (en : Int) (n : Int) (s2 : ByteArray) (k : Int) (t : ByteArray) (v : Int) (K : Exit → List V → Store → Prop) : pD.W at_ s en n s2 k t v K = acW ax pD.ah pD.c (fun ex e σ => K ex [e 1, e 2, e 3, e 4] σ) (envL [(1, (.ptr 0 0)), (2, (.ptr 1 0)), (3, (.ptr 2 0)), (4, (.ptr 3 0)), (5, (.int .i64 at_)), (6, (.ptr 5 0))]) [⟨0, (.box [(.str s)])⟩, ⟨0, (.box [(.bool false)])⟩, ⟨0, (.box [(.int .i64 en)])⟩, ⟨0, (.box [(.int .i64 n)])⟩, ⟨0, (.box [(.str s2)])⟩, ⟨0, (.box [(.int .i64 k), (.str t), (.int .i64 v)])⟩] := by kernel_rfl
theorem pD.ok : codeOk tys (hintsOf pD.ah) Tryd.f8.ntmps pD.c = true := by kernel_rfl
theorem pD.calm : calmC pD.c = true := by kernel_rfl
theorem pD.run {G : Nat → Value} {w0 : World} {F0 : Nat → Nat → Prop} {β0 : Nat → Value} {σ0 : Store} {ds : List Deferred} {F : Fence} {m : Nat} {ac : Act} {wc : World} (hE : ErrOk ax.P ax.gs ax.ift ax.tabs G) (hF : Opn F) (at_ : Int) (s : ByteArray) (en : Int) (n : Int) (s2 : ByteArray) (k : Int) (t : ByteArray) (v : Int) (K : Exit → List V → Store → Prop) (h : pD.W at_ s en n s2 k t v K) (hs : St ax G w0 F0 β0 σ0 ds 66 (envL [(1, (.ptr 0 0)), (2, (.ptr 1 0)), (3, (.ptr 2 0)), (4, (.ptr 3 0)), (5, (.int .i64 at_)), (6, (.ptr 5 0))]) [⟨0, (.box [(.str s)])⟩, ⟨0, (.box [(.bool false)])⟩, ⟨0, (.box [(.int .i64 en)])⟩, ⟨0, (.box [(.int .i64 n)])⟩, ⟨0, (.box [(.str s2)])⟩, ⟨0, (.box [(.int .i64 k), (.str t), (.int .i64 v)])⟩] ac wc) :
    pD.c.wpIn F m ax.P (fun ex a1 w1 => ∃ vs σ1, K ex vs σ1 ∧ St ax G w0 F0 β0 σ0 ds 66 (envL ([1, 2, 3, 4].zip vs)) σ1 a1 w1 ∧ (∀ t, t ∉ assigned (hintsOf pD.ah) pD.c → a1.tmps.getD t undef = ac.tmps.getD t undef) ∧
      (∃ F β F1 β1, Sim ax.gs G wc F β [⟨0, (.box [(.str s)])⟩, ⟨0, (.box [(.bool false)])⟩, ⟨0, (.box [(.int .i64 en)])⟩, ⟨0, (.box [(.int .i64 n)])⟩, ⟨0, (.box [(.str s2)])⟩, ⟨0, (.box [(.int .i64 k), (.str t), (.int .i64 v)])⟩] ∧ Step w0 F0 β0 σ0 wc F β [⟨0, (.box [(.str s)])⟩, ⟨0, (.box [(.bool false)])⟩, ⟨0, (.box [(.int .i64 en)])⟩, ⟨0, (.box [(.int .i64 n)])⟩, ⟨0, (.box [(.str s2)])⟩, ⟨0, (.box [(.int .i64 k), (.str t), (.int .i64 v)])⟩] ∧ Step wc F β [⟨0, (.box [(.str s)])⟩, ⟨0, (.box [(.bool false)])⟩, ⟨0, (.box [(.int .i64 en)])⟩, ⟨0, (.box [(.int .i64 n)])⟩, ⟨0, (.box [(.str s2)])⟩, ⟨0, (.box [(.int .i64 k), (.str t), (.int .i64 v)])⟩] w1 F1 β1 σ1)) ac wc :=
  St.run (sl := fun e => [e 1, e 2, e 3, e 4]) tysOk fnsOk follows eqOk hE hF (fun _ => rfl) pD.ok pD.calm (Eq.mp (pD.eq at_ s en n s2 k t v K) h) hs
theorem pD.runC {G : Nat → Value} {C : Beside} (hC : Shut C) {ds : List Deferred} {F : Fence} {m : Nat} {ac : Act} {wc : World} (hE : ErrOk ax.P ax.gs ax.ift ax.tabs G) (hF : Opn F) (at_ : Int) (s : ByteArray) (en : Int) (n : Int) (s2 : ByteArray) (k : Int) (t : ByteArray) (v : Int) (K : Exit → List V → Store → Prop) (h : pD.W at_ s en n s2 k t v K) (hs : StC ax G C ds 66 (envL [(1, (.ptr 0 0)), (2, (.ptr 1 0)), (3, (.ptr 2 0)), (4, (.ptr 3 0)), (5, (.int .i64 at_)), (6, (.ptr 5 0))]) [⟨0, (.box [(.str s)])⟩, ⟨0, (.box [(.bool false)])⟩, ⟨0, (.box [(.int .i64 en)])⟩, ⟨0, (.box [(.int .i64 n)])⟩, ⟨0, (.box [(.str s2)])⟩, ⟨0, (.box [(.int .i64 k), (.str t), (.int .i64 v)])⟩] ac wc) :
    pD.c.wpIn F m ax.P (fun ex a1 w1 => ∃ vs σ1, K ex vs σ1 ∧ StC ax G C ds 66 (envL ([1, 2, 3, 4].zip vs)) σ1 a1 w1 ∧ (∀ t, t ∉ assigned (hintsOf pD.ah) pD.c → a1.tmps.getD t undef = ac.tmps.getD t undef) ∧
      (∃ F β F1 β1, Sim ax.gs G wc F β [⟨0, (.box [(.str s)])⟩, ⟨0, (.box [(.bool false)])⟩, ⟨0, (.box [(.int .i64 en)])⟩, ⟨0, (.box [(.int .i64 n)])⟩, ⟨0, (.box [(.str s2)])⟩, ⟨0, (.box [(.int .i64 k), (.str t), (.int .i64 v)])⟩] ∧ C wc F β [⟨0, (.box [(.str s)])⟩, ⟨0, (.box [(.bool false)])⟩, ⟨0, (.box [(.int .i64 en)])⟩, ⟨0, (.box [(.int .i64 n)])⟩, ⟨0, (.box [(.str s2)])⟩, ⟨0, (.box [(.int .i64 k), (.str t), (.int .i64 v)])⟩] ∧ Step wc F β [⟨0, (.box [(.str s)])⟩, ⟨0, (.box [(.bool false)])⟩, ⟨0, (.box [(.int .i64 en)])⟩, ⟨0, (.box [(.int .i64 n)])⟩, ⟨0, (.box [(.str s2)])⟩, ⟨0, (.box [(.int .i64 k), (.str t), (.int .i64 v)])⟩] w1 F1 β1 σ1)) ac wc :=
  StC.run (sl := fun e => [e 1, e 2, e 3, e 4]) hC tysOk fnsOk follows eqOk hE hF (fun _ => rfl) pD.ok pD.calm (Eq.mp (pD.eq at_ s en n s2 k t v K) h) hs
/-! ### pE: a piece of function 8, augur/augurlaw01.LexPlaces -/
def pE.ah : AH := ⟨[], [], [], [(12, ⟨[some [.str]], [.c (.sl 3), .c (.err)], []⟩)], [], [], [], []⟩
noncomputable def pE.c : Code := Av.part [.post 3] (Tryd.f8.body.getD .skip)
set_option maxRecDepth 100000 in
def pE.W (s : ByteArray) (en : Int) (n : Int) (s2 : ByteArray) (K : Exit → List V → Store → Prop) : Prop :=
 (PCalls ax 12 [(.str s)] fun r3 => ∃ (l1 : List (List V)) (x2 : Option Nat), r3 = [(.sl 3 l1), (.err x2)] ∧ (bif (!(Option.isNone x2)) then (K .ret [(.ptr 0 0), (.ptr 1 0), (.ptr 2 0), (.ptr 3 0)] [⟨0, (.box [(.str s)])⟩, ⟨1, (.box [(.bool true)])⟩, ⟨0, (.box [(.int .i64 en)])⟩, ⟨0, (.box [(.int .i64 n)])⟩, ⟨0, (.box [(.str s2)])⟩]) else (K .ret [(.ptr 0 0), (.ptr 1 0), (.ptr 2 0), (.ptr 3 0)] [⟨0, (.box [(.str s)])⟩, ⟨1, (.box [(.bool ((List.length l1 : Int) == n))])⟩, ⟨0, (.box [(.int .i64 en)])⟩, ⟨0, (.box [(.int .i64 n)])⟩, ⟨0, (.box [(.str s2)])⟩])))
set_option maxRecDepth 100000 in
theorem pE.eq (s : ByteArray) (en : Int) (n : Int) (s2 : ByteArray) (K : Exit → List V → Store → Prop) : pE.W s en n s2 K = acW ax pE.ah pE.c (fun ex e σ => K ex [e 1, e 2, e 3, e 4] σ) (envL [(1, (.ptr 0 0)), (2, (.ptr 1 0)), (3, (.ptr 2 0)), (4, (.ptr 3 0))]) [⟨0, (.box [(.str s)])⟩, ⟨0, (.box [(.bool false)])⟩, ⟨0, (.box [(.int .i64 en)])⟩, ⟨0, (.box [(.int .i64 n)])⟩, ⟨0, (.box [(.str s2)])⟩] := by kernel_rfl
theorem pE.ok : codeOk tys (hintsOf pE.ah) Tryd.f8.ntmps pE.c = true := by kernel_rfl
theorem pE.calm : calmC pE.c = true := by kernel_rfl
theorem pE.run {G : Nat → Value} {w0 : World} {F0 : Nat → Nat → Prop} {β0 : Nat → Value} {σ0 : Store} {ds : List Deferred} {F : Fence} {m : Nat} {ac : Act} {wc : World} (hE : ErrOk ax.P ax.gs ax.ift ax.tabs G) (hF : Opn F) (s : ByteArray) (en : Int) (n : Int) (s2 : ByteArray) (K : Exit → List V → Store → Prop) (h : pE.W s en n s2 K) (hs : St ax G w0 F0 β0 σ0 ds 66 (envL [(1, (.ptr 0 0)), (2, (.ptr 1 0)), (3, (.ptr 2 0)), (4, (.ptr 3 0))]) [⟨0, (.box [(.str s)])⟩, ⟨0, (.box [(.bool false)])⟩, ⟨0, (.box [(.int .i64 en)])⟩, ⟨0, (.box [(.int .i64 n)])⟩, ⟨0, (.box [(.str s2)])⟩] ac wc) :
    pE.c.wpIn F m ax.P (fun ex a1 w1 => ∃ vs σ1, K ex vs σ1 ∧ St ax G w0 F0 β0 σ0 ds 66 (envL ([1, 2, 3, 4].zip vs)) σ1 a1 w1 ∧ (∀ t, t ∉ assigned (hintsOf pE.ah) pE.c → a1.tmps.getD t undef = ac.tmps.getD t undef) ∧
      (∃ F β F1 β1, Sim ax.gs G wc F β [⟨0, (.box [(.str s)])⟩, ⟨0, (.box [(.bool false)])⟩, ⟨0, (.box [(.int .i64 en)])⟩, ⟨0, (.box [(.int .i64 n)])⟩, ⟨0, (.box [(.str s2)])⟩] ∧ Step w0 F0 β0 σ0 wc F β [⟨0, (.box [(.str s)])⟩, ⟨0, (.box [(.bool false)])⟩, ⟨0, (.box [(.int .i64 en)])⟩, ⟨0, (.box [(.int .i64 n)])⟩, ⟨0, (.box [(.str s2)])⟩] ∧ Step wc F β [⟨0, (.box [(.str s)])⟩, ⟨0, (.box [(.bool false)])⟩, ⟨0, (.box [(.int .i64 en)])⟩, ⟨0, (.box [(.int .i64 n)])⟩, ⟨0, (.box [(.str s2)])⟩] w1 F1 β1 σ1)) ac wc :=
  St.run (sl := fun e => [e 1, e 2, e 3, e 4]) tysOk fnsOk follows eqOk hE hF (fun _ => rfl) pE.ok pE.calm (Eq.mp (pE.eq s en n s2 K) h) hs
theorem pE.runC {G : Nat → Value} {C : Beside} (hC : Shut C) {ds : List Deferred} {F : Fence} {m : Nat} {ac : Act} {wc : World} (hE : ErrOk ax.P ax.gs ax.ift ax.tabs G) (hF : Opn F) (s : ByteArray) (en : Int) (n : Int) (s2 : ByteArray) (K : Exit → List V → Store → Prop) (h : pE.W s en n s2 K) (hs : StC ax G C ds 66 (envL [(1, (.ptr 0 0)), (2, (.ptr 1 0)), (3, (.ptr 2 0)), (4, (.ptr 3 0))]) [⟨0, (.box [(.str s)])⟩, ⟨0, (.box [(.bool false)])⟩, ⟨0, (.box [(.int .i64 en)])⟩, ⟨0, (.box [(.int .i64 n)])⟩, ⟨0, (.box [(.str s2)])⟩] ac wc) :
    pE.c.wpIn F m ax.P (fun ex a1 w1 => ∃ vs σ1, K ex vs σ1 ∧ StC ax G C ds 66 (envL ([1, 2, 3, 4].zip vs)) σ1 a1 w1 ∧ (∀ t, t ∉ assigned (hintsOf pE.ah) pE.c → a1.tmps.getD t undef = ac.tmps.getD t undef) ∧
      (∃ F β F1 β1, Sim ax.gs G wc F β [⟨0, (.box [(.str s)])⟩, ⟨0, (.box [(.bool false)])⟩, ⟨0, (.box [(.int .i64 en)])⟩, ⟨0, (.box [(.int .i64 n)])⟩, ⟨0, (.box [(.str s2)])⟩] ∧ C wc F β [⟨0, (.box [(.str s)])⟩, ⟨0, (.box [(.bool false)])⟩, ⟨0, (.box [(.int .i64 en)])⟩, ⟨0, (.box [(.int .i64 n)])⟩, ⟨0, (.box [(.str s2)])⟩] ∧ Step wc F β [⟨0, (.box [(.str s)])⟩, ⟨0, (.box [(.bool false)])⟩, ⟨0, (.box [(.int .i64 en)])⟩, ⟨0, (.box [(.int .i64 n)])⟩, ⟨0, (.box [(.str s2)])⟩] w1 F1 β1 σ1)) ac wc :=
  StC.run (sl := fun e => [e 1, e 2, e 3, e 4]) hC tysOk fnsOk follows eqOk hE hF (fun _ => rfl) pE.ok pE.calm (Eq.mp (pE.eq s en n s2 K) h) hs
/-! ### eA: a piece of function 23, augur/lex.each -/
def eA.ah : AH := ⟨[], [], [], [], [], [], [], []⟩
noncomputable def eA.c : Code := Av.part [.fst] (Tryd.f23.body.getD .skip)
set_option maxRecDepth 100000 in
def eA.W (s : ByteArray) (K : Exit → List V → Store → Prop) : Prop :=
 (K .normal [(.str s)] [])
set_option maxRecDepth 100000 in
theorem eA.eq (s : ByteArray) (K : Exit → List V → Store → Prop) : eA.W s K = acW ax eA.ah eA.c (fun ex e σ => K ex [e 0] σ) (envL [(0, (.str s))]) [] := by kernel_rfl
theorem eA.ok : codeOk tys (hintsOf eA.ah) Tryd.f23.ntmps eA.c = true := by kernel_rfl
theorem eA.calm : calmC eA.c = true := by kernel_rfl
theorem eA.run {G : Nat → Value} {w0 : World} {F0 : Nat → Nat → Prop} {β0 : Nat → Value} {σ0 : Store} {ds : List Deferred} {F : Fence} {m : Nat} {ac : Act} {wc : World} (hE : ErrOk ax.P ax.gs ax.ift ax.tabs G) (hF : Opn F) (s : ByteArray) (K : Exit → List V → Store → Prop) (h : eA.W s K) (hs : St ax G w0 F0 β0 σ0 ds 36 (envL [(0, (.str s))]) [] ac wc) :
    eA.c.wpIn F m ax.P (fun ex a1 w1 => ∃ vs σ1, K ex vs σ1 ∧ St ax G w0 F0 β0 σ0 ds 36 (envL ([0].zip vs)) σ1 a1 w1 ∧ (∀ t, t ∉ assigned (hintsOf eA.ah) eA.c → a1.tmps.getD t undef = ac.tmps.getD t undef) ∧
      (∃ F β F1 β1, Sim ax.gs G wc F β [] ∧ Step w0 F0 β0 σ0 wc F β [] ∧ Step wc F β [] w1 F1 β1 σ1)) ac wc :=
  St.run (sl := fun e => [e 0]) tysOk fnsOk follows eqOk hE hF (fun _ => rfl) eA.ok eA.calm (Eq.mp (eA.eq s K) h) hs
theorem eA.runC {G : Nat → Value} {C : Beside} (hC : Shut C) {ds : List Deferred} {F : Fence} {m : Nat} {ac : Act} {wc : World} (hE : ErrOk ax.P ax.gs ax.ift ax.tabs G) (hF : Opn F) (s : ByteArray) (K : Exit → List V → Store → Prop) (h : eA.W s K) (hs : StC ax G C ds 36 (envL [(0, (.str s))]) [] ac wc) :
    eA.c.wpIn F m ax.P (fun ex a1 w1 => ∃ vs σ1, K ex vs σ1 ∧ StC ax G C ds 36 (envL ([0].zip vs)) σ1 a1 w1 ∧ (∀ t, t ∉ assigned (hintsOf eA.ah) eA.c → a1.tmps.getD t undef = ac.tmps.getD t undef) ∧
      (∃ F β F1 β1, Sim ax.gs G wc F β [] ∧ C wc F β [] ∧ Step wc F β [] w1 F1 β1 σ1)) ac wc :=
  StC.run (sl := fun e => [e 0]) hC tysOk fnsOk follows eqOk hE hF (fun _ => rfl) eA.ok eA.calm (Eq.mp (eA.eq s K) h) hs
/-! ### eB: a piece of function 23, augur/lex.each -/
def eB.ah : AH := ⟨[], [], [], [(28, ⟨[some [.str], some [.int .i64]], [.c (.int .i64)], []⟩)], [], [], [], []⟩
noncomputable def eB.c : Code := Av.part [.snd, .fst, .fst] (Tryd.f23.body.getD .skip)
set_option maxRecDepth 100000 in
def eB.W (s : ByteArray) (K : Exit → List V → Store → Prop) : Prop :=
 (PCalls ax 28 [(.str s), (.int .i64 0)] fun r2 => ∃ (n1 : Int), r2 = [(.int .i64 n1)] ∧ (K .normal [(.str s), (.int .i64 n1)] []))
set_option maxRecDepth 100000 in
theorem eB.eq (s : ByteArray) (K : Exit → List V → Store → Prop) : eB.W s K = acW ax eB.ah eB.c (fun ex e σ => K ex [e 0, e 5] σ) (envL [(0, (.str s))]) [] := by kernel_rfl
theorem eB.ok : codeOk tys (hintsOf eB.ah) Tryd.f23.ntmps eB.c = true := by kernel_rfl
theorem eB.calm : calmC eB.c = true := by kernel_rfl
theorem eB.run {G : Nat → Value} {w0 : World} {F0 : Nat → Nat → Prop} {β0 : Nat → Value} {σ0 : Store} {ds : List Deferred} {F : Fence} {m : Nat} {ac : Act} {wc : World} (hE : ErrOk ax.P ax.gs ax.ift ax.tabs G) (hF : Opn F) (s : ByteArray) (K : Exit → List V → Store → Prop) (h : eB.W s K) (hs : St ax G w0 F0 β0 σ0 ds 36 (envL [(0, (.str s))]) [] ac wc) :
    eB.c.wpIn F m ax.P (fun ex a1 w1 => ∃ vs σ1, K ex vs σ1 ∧ St ax G w0 F0 β0 σ0 ds 36 (envL ([0, 5].zip vs)) σ1 a1 w1 ∧ (∀ t, t ∉ assigned (hintsOf eB.ah) eB.c → a1.tmps.getD t undef = ac.tmps.getD t undef) ∧
      (∃ F β F1 β1, Sim ax.gs G wc F β [] ∧ Step w0 F0 β0 σ0 wc F β [] ∧ Step wc F β [] w1 F1 β1 σ1)) ac wc :=
  St.run (sl := fun e => [e 0, e 5]) tysOk fnsOk follows eqOk hE hF (fun _ => rfl) eB.ok eB.calm (Eq.mp (eB.eq s K) h) hs
theorem eB.runC {G : Nat → Value} {C : Beside} (hC : Shut C) {ds : List Deferred} {F : Fence} {m : Nat} {ac : Act} {wc : World} (hE : ErrOk ax.P ax.gs ax.ift ax.tabs G) (hF : Opn F) (s : ByteArray) (K : Exit → List V → Store → Prop) (h : eB.W s K) (hs : StC ax G C ds 36 (envL [(0, (.str s))]) [] ac wc) :
    eB.c.wpIn F m ax.P (fun ex a1 w1 => ∃ vs σ1, K ex vs σ1 ∧ StC ax G C ds 36 (envL ([0, 5].zip vs)) σ1 a1 w1 ∧ (∀ t, t ∉ assigned (hintsOf eB.ah) eB.c → a1.tmps.getD t undef = ac.tmps.getD t undef) ∧
      (∃ F β F1 β1, Sim ax.gs G wc F β [] ∧ C wc F β [] ∧ Step wc F β [] w1 F1 β1 σ1)) ac wc :=
  StC.run (sl := fun e => [e 0, e 5]) hC tysOk fnsOk follows eqOk hE hF (fun _ => rfl) eB.ok eB.calm (Eq.mp (eB.eq s K) h) hs
/-! ### eC: a piece of function 23, augur/lex.each -/
def eC.ah : AH := ⟨[], [], [], [], [], [], [], []⟩
noncomputable def eC.c : Code := Av.part [.snd, .fst, .snd, .inn, .inn, .fst] (Tryd.f23.body.getD .skip)
set_option maxRecDepth 100000 in
def eC.W (s : ByteArray) (a : Int) (K : Exit → List V → Store → Prop) : Prop :=
 (bif (decide (a < (s.size : Int))) then
 (K .normal [(.str s), (.int .i64 a)] [])
 else
 (K (.exit 0) [(.str s), (.int .i64 a)] []))
set_option maxRecDepth 100000 in
theorem eC.eq (s : ByteArray) (a : Int) (K : Exit → List V → Store → Prop) : eC.W s a K = acW ax eC.ah eC.c (fun ex e σ => K ex [e 0, e 5] σ) (envL [(0, (.str s)), (5, (.int .i64 a))]) [] := by kernel_rfl
theorem eC.ok : codeOk tys (hintsOf eC.ah) Tryd.f23.ntmps eC.c = true := by kernel_rfl
theorem eC.calm : calmC eC.c = true := by kernel_rfl
theorem eC.run {G : Nat → Value} {w0 : World} {F0 : Nat → Nat → Prop} {β0 : Nat → Value} {σ0 : Store} {ds : List Deferred} {F : Fence} {m : Nat} {ac : Act} {wc : World} (hE : ErrOk ax.P ax.gs ax.ift ax.tabs G) (hF : Opn F) (s : ByteArray) (a : Int) (K : Exit → List V → Store → Prop) (h : eC.W s a K) (hs : St ax G w0 F0 β0 σ0 ds 36 (envL [(0, (.str s)), (5, (.int .i64 a))]) [] ac wc) :
    eC.c.wpIn F m ax.P (fun ex a1 w1 => ∃ vs σ1, K ex vs σ1 ∧ St ax G w0 F0 β0 σ0 ds 36 (envL ([0, 5].zip vs)) σ1 a1 w1 ∧ (∀ t, t ∉ assigned (hintsOf eC.ah) eC.c → a1.tmps.getD t undef = ac.tmps.getD t undef) ∧
      (∃ F β F1 β1, Sim ax.gs G wc F β [] ∧ Step w0 F0 β0 σ0 wc F β [] ∧ Step wc F β [] w1 F1 β1 σ1)) ac wc :=
  St.run (sl := fun e => [e 0, e 5]) tysOk fnsOk follows eqOk hE hF (fun _ => rfl) eC.ok eC.calm (Eq.mp (eC.eq s a K) h) hs
theorem eC.runC {G : Nat → Value} {C : Beside} (hC : Shut C) {ds : List Deferred} {F : Fence} {m : Nat} {ac : Act} {wc : World} (hE : ErrOk ax.P ax.gs ax.ift ax.tabs G) (hF : Opn F) (s : ByteArray) (a : Int) (K : Exit → List V → Store → Prop) (h : eC.W s a K) (hs : StC ax G C ds 36 (envL [(0, (.str s)), (5, (.int .i64 a))]) [] ac wc) :
    eC.c.wpIn F m ax.P (fun ex a1 w1 => ∃ vs σ1, K ex vs σ1 ∧ StC ax G C ds 36 (envL ([0, 5].zip vs)) σ1 a1 w1 ∧ (∀ t, t ∉ assigned (hintsOf eC.ah) eC.c → a1.tmps.getD t undef = ac.tmps.getD t undef) ∧
      (∃ F β F1 β1, Sim ax.gs G wc F β [] ∧ C wc F β [] ∧ Step wc F β [] w1 F1 β1 σ1)) ac wc :=
  StC.run (sl := fun e => [e 0, e 5]) hC tysOk fnsOk follows eqOk hE hF (fun _ => rfl) eC.ok eC.calm (Eq.mp (eC.eq s a K) h) hs
/-! ### eD: a piece of function 23, augur/lex.each -/
def eD.ah : AH := ⟨[], [], [], [(29, ⟨[some [.str], some [.int .i64]], [.ag [.int .i64, .str, .int .i64], .c (.bool)], []⟩)], [], [], [], []⟩
noncomputable def eD.c : Code := Av.part [.snd, .fst, .snd, .inn, .inn, .snd, .inn, .fst] (Tryd.f23.body.getD .skip)
set_option maxRecDepth 100000 in
def eD.W (s : ByteArray) (a : Int) (K : Exit → List V → Store → Prop) : Prop :=
 (PCalls ax 29 [(.str s), (.int .i64 a)] fun r5 => ∃ (n1 : Int) (s2 : ByteArray) (n3 : Int) (b4 : Bool), r5 = [(.agg [(.int .i64 n1), (.str s2), (.int .i64 n3)]), (.bool b4)] ∧ (K .normal [(.str s), (.int .i64 a), (.ptr 0 0), (.bool b4)] [⟨1, (.box [(.int .i64 n1), (.str s2), (.int .i64 n3)])⟩]))
set_option maxRecDepth 100000 in
theorem eD.eq (s : ByteArray) (a : Int) (K : Exit → List V → Store → Prop) : eD.W s a K = acW ax eD.ah eD.c (fun ex e σ => K ex [e 0, e 5, e 6, e 7] σ) (envL [(0, (.str s)), (5, (.int .i64 a))]) [] := by kernel_rfl
theorem eD.ok : codeOk tys (hintsOf eD.ah) Tryd.f23.ntmps eD.c = true := by kernel_rfl
theorem eD.calm : calmC eD.c = true := by kernel_rfl
theorem eD.run {G : Nat → Value} {w0 : World} {F0 : Nat → Nat → Prop} {β0 : Nat → Value} {σ0 : Store} {ds : List Deferred} {F : Fence} {m : Nat} {ac : Act} {wc : World} (hE : ErrOk ax.P ax.gs ax.ift ax.tabs G) (hF : Opn F) (s : ByteArray) (a : Int) (K : Exit → List V → Store → Prop) (h : eD.W s a K) (hs : St ax G w0 F0 β0 σ0 ds 36 (envL [(0, (.str s)), (5, (.int .i64 a))]) [] ac wc) :
    eD.c.wpIn F m ax.P (fun ex a1 w1 => ∃ vs σ1, K ex vs σ1 ∧ St ax G w0 F0 β0 σ0 ds 36 (envL ([0, 5, 6, 7].zip vs)) σ1 a1 w1 ∧ (∀ t, t ∉ assigned (hintsOf eD.ah) eD.c → a1.tmps.getD t undef = ac.tmps.getD t undef) ∧
      (∃ F β F1 β1, Sim ax.gs G wc F β [] ∧ Step w0 F0 β0 σ0 wc F β [] ∧ Step wc F β [] w1 F1 β1 σ1)) ac wc :=
  St.run (sl := fun e => [e 0, e 5, e 6, e 7]) tysOk fnsOk follows eqOk hE hF (fun _ => rfl) eD.ok eD.calm (Eq.mp (eD.eq s a K) h) hs
theorem eD.runC {G : Nat → Value} {C : Beside} (hC : Shut C) {ds : List Deferred} {F : Fence} {m : Nat} {ac : Act} {wc : World} (hE : ErrOk ax.P ax.gs ax.ift ax.tabs G) (hF : Opn F) (s : ByteArray) (a : Int) (K : Exit → List V → Store → Prop) (h : eD.W s a K) (hs : StC ax G C ds 36 (envL [(0, (.str s)), (5, (.int .i64 a))]) [] ac wc) :
    eD.c.wpIn F m ax.P (fun ex a1 w1 => ∃ vs σ1, K ex vs σ1 ∧ StC ax G C ds 36 (envL ([0, 5, 6, 7].zip vs)) σ1 a1 w1 ∧ (∀ t, t ∉ assigned (hintsOf eD.ah) eD.c → a1.tmps.getD t undef = ac.tmps.getD t undef) ∧
      (∃ F β F1 β1, Sim ax.gs G wc F β [] ∧ C wc F β [] ∧ Step wc F β [] w1 F1 β1 σ1)) ac wc :=
  StC.run (sl := fun e => [e 0, e 5, e 6, e 7]) hC tysOk fnsOk follows eqOk hE hF (fun _ => rfl) eD.ok eD.calm (Eq.mp (eD.eq s a K) h) hs
/-! ### eE: a piece of function 23, augur/lex.each -/
def eE.ah : AH := ⟨[], [], [], [], [], [], [], []⟩
noncomputable def eE.c : Code := Av.part [.snd, .fst, .snd, .inn, .inn, .snd, .inn, .snd, .fst, .snd] (Tryd.f23.body.getD .skip)
set_option maxRecDepth 100000 in
def eE.W (s : ByteArray) (a : Int) (b : Bool) (K : Exit → List V → Store → Prop) : Prop :=
 (bif b then
 (K .ret [(.str s), (.int .i64 a)] [])
 else
 (K .normal [(.str s), (.int .i64 a)] []))
set_option maxRecDepth 100000 in
theorem eE.eq (s : ByteArray) (a : Int) (b : Bool) (K : Exit → List V → Store → Prop) : eE.W s a b K = acW ax eE.ah eE.c (fun ex e σ => K ex [e 0, e 5] σ) (envL [(0, (.str s)), (5, (.int .i64 a)), (28, (.bool b))]) [] := by kernel_rfl
theorem eE.ok : codeOk tys (hintsOf eE.ah) Tryd.f23.ntmps eE.c = true := by kernel_rfl
theorem eE.calm : calmC eE.c = true := by kernel_rfl
theorem eE.run {G : Nat → Value} {w0 : World} {F0 : Nat → Nat → Prop} {β0 : Nat → Value} {σ0 : Store} {ds : List Deferred} {F : Fence} {m : Nat} {ac : Act} {wc : World} (hE : ErrOk ax.P ax.gs ax.ift ax.tabs G) (hF : Opn F) (s : ByteArray) (a : Int) (b : Bool) (K : Exit → List V → Store → Prop) (h : eE.W s a b K) (hs : St ax G w0 F0 β0 σ0 ds 36 (envL [(0, (.str s)), (5, (.int .i64 a)), (28, (.bool b))]) [] ac wc) :
    eE.c.wpIn F m ax.P (fun ex a1 w1 => ∃ vs σ1, K ex vs σ1 ∧ St ax G w0 F0 β0 σ0 ds 36 (envL ([0, 5].zip vs)) σ1 a1 w1 ∧ (∀ t, t ∉ assigned (hintsOf eE.ah) eE.c → a1.tmps.getD t undef = ac.tmps.getD t undef) ∧
      (∃ F β F1 β1, Sim ax.gs G wc F β [] ∧ Step w0 F0 β0 σ0 wc F β [] ∧ Step wc F β [] w1 F1 β1 σ1)) ac wc :=
  St.run (sl := fun e => [e 0, e 5]) tysOk fnsOk follows eqOk hE hF (fun _ => rfl) eE.ok eE.calm (Eq.mp (eE.eq s a b K) h) hs
theorem eE.runC {G : Nat → Value} {C : Beside} (hC : Shut C) {ds : List Deferred} {F : Fence} {m : Nat} {ac : Act} {wc : World} (hE : ErrOk ax.P ax.gs ax.ift ax.tabs G) (hF : Opn F) (s : ByteArray) (a : Int) (b : Bool) (K : Exit → List V → Store → Prop) (h : eE.W s a b K) (hs : StC ax G C ds 36 (envL [(0, (.str s)), (5, (.int .i64 a)), (28, (.bool b))]) [] ac wc) :
    eE.c.wpIn F m ax.P (fun ex a1 w1 => ∃ vs σ1, K ex vs σ1 ∧ StC ax G C ds 36 (envL ([0, 5].zip vs)) σ1 a1 w1 ∧ (∀ t, t ∉ assigned (hintsOf eE.ah) eE.c → a1.tmps.getD t undef = ac.tmps.getD t undef) ∧
      (∃ F β F1 β1, Sim ax.gs G wc F β [] ∧ C wc F β [] ∧ Step wc F β [] w1 F1 β1 σ1)) ac wc :=
  StC.run (sl := fun e => [e 0, e 5]) hC tysOk fnsOk follows eqOk hE hF (fun _ => rfl) eE.ok eE.calm (Eq.mp (eE.eq s a b K) h) hs
/-! ### eF: a piece of function 23, augur/lex.each -/
def eF.ah : AH := ⟨[], [], [], [(28, ⟨[some [.str], some [.int .i64]], [.c (.int .i64)], []⟩)], [], [], [], []⟩
noncomputable def eF.c : Code := Av.part [.snd, .fst, .snd, .inn, .inn, .snd, .inn, .snd, .snd] (Tryd.f23.body.getD .skip)
set_option maxRecDepth 100000 in
def eF.W (s : ByteArray) (a : Int) (k : Int) (t : ByteArray) (v : Int) (K : Exit → List V → Store → Prop) : Prop :=
 (PCalls ax 28 [(.str s), (.int .i64 (IntKind.i64.wrap (a + (t.size : Int))))] fun r2 => ∃ (n1 : Int), r2 = [(.int .i64 n1)] ∧ (K .normal [(.str s), (.int .i64 n1)] [⟨0, (.box [(.int .i64 k), (.str t), (.int .i64 v)])⟩]))
set_option maxRecDepth 100000 in
theorem eF.eq (s : ByteArray) (a : Int) (k : Int) (t : ByteArray) (v : Int) (K : Exit → List V → Store → Prop) : eF.W s a k t v K = acW ax eF.ah eF.c (fun ex e σ => K ex [e 0, e 5] σ) (envL [(0, (.str s)), (5, (.int .i64 a)), (6, (.ptr 0 0))]) [⟨0, (.box [(.int .i64 k), (.str t), (.int .i64 v)])⟩] := by kernel_rfl
theorem eF.ok : codeOk tys (hintsOf eF.ah) Tryd.f23.ntmps eF.c = true := by kernel_rfl
theorem eF.calm : calmC eF.c = true := by kernel_rfl
theorem eF.run {G : Nat → Value} {w0 : World} {F0 : Nat → Nat → Prop} {β0 : Nat → Value} {σ0 : Store} {ds : List Deferred} {F : Fence} {m : Nat} {ac : Act} {wc : World} (hE : ErrOk ax.P ax.gs ax.ift ax.tabs G) (hF : Opn F) (s : ByteArray) (a : Int) (k : Int) (t : ByteArray) (v : Int) (K : Exit → List V → Store → Prop) (h : eF.W s a k t v K) (hs : St ax G w0 F0 β0 σ0 ds 36 (envL [(0, (.str s)), (5, (.int .i64 a)), (6, (.ptr 0 0))]) [⟨0, (.box [(.int .i64 k), (.str t), (.int .i64 v)])⟩] ac wc) :
    eF.c.wpIn F m ax.P (fun ex a1 w1 => ∃ vs σ1, K ex vs σ1 ∧ St ax G w0 F0 β0 σ0 ds 36 (envL ([0, 5].zip vs)) σ1 a1 w1 ∧ (∀ t, t ∉ assigned (hintsOf eF.ah) eF.c → a1.tmps.getD t undef = ac.tmps.getD t undef) ∧
      (∃ F β F1 β1, Sim ax.gs G wc F β [⟨0, (.box [(.int .i64 k), (.str t), (.int .i64 v)])⟩] ∧ Step w0 F0 β0 σ0 wc F β [⟨0, (.box [(.int .i64 k), (.str t), (.int .i64 v)])⟩] ∧ Step wc F β [⟨0, (.box [(.int .i64 k), (.str t), (.int .i64 v)])⟩] w1 F1 β1 σ1)) ac wc :=
  St.run (sl := fun e => [e 0, e 5]) tysOk fnsOk follows eqOk hE hF (fun _ => rfl) eF.ok eF.calm (Eq.mp (eF.eq s a k t v K) h) hs
theorem eF.runC {G : Nat → Value} {C : Beside} (hC : Shut C) {ds : List Deferred} {F : Fence} {m : Nat} {ac : Act} {wc : World} (hE : ErrOk ax.P ax.gs ax.ift ax.tabs G) (hF : Opn F) (s : ByteArray) (a : Int) (k : Int) (t : ByteArray) (v : Int) (K : Exit → List V → Store → Prop) (h : eF.W s a k t v K) (hs : StC ax G C ds 36 (envL [(0, (.str s)), (5, (.int .i64 a)), (6, (.ptr 0 0))]) [⟨0, (.box [(.int .i64 k), (.str t), (.int .i64 v)])⟩] ac wc) :
    eF.c.wpIn F m ax.P (fun ex a1 w1 => ∃ vs σ1, K ex vs σ1 ∧ StC ax G C ds 36 (envL ([0, 5].zip vs)) σ1 a1 w1 ∧ (∀ t, t ∉ assigned (hintsOf eF.ah) eF.c → a1.tmps.getD t undef = ac.tmps.getD t undef) ∧
      (∃ F β F1 β1, Sim ax.gs G wc F β [⟨0, (.box [(.int .i64 k), (.str t), (.int .i64 v)])⟩] ∧ C wc F β [⟨0, (.box [(.int .i64 k), (.str t), (.int .i64 v)])⟩] ∧ Step wc F β [⟨0, (.box [(.int .i64 k), (.str t), (.int .i64 v)])⟩] w1 F1 β1 σ1)) ac wc :=
  StC.run (sl := fun e => [e 0, e 5]) hC tysOk fnsOk follows eqOk hE hF (fun _ => rfl) eF.ok eF.calm (Eq.mp (eF.eq s a k t v K) h) hs
/-! ### eG: a piece of function 23, augur/lex.each -/
def eG.ah : AH := ⟨[], [], [], [], [], [], [], []⟩
noncomputable def eG.c : Code := Av.part [.snd, .snd] (Tryd.f23.body.getD .skip)
set_option maxRecDepth 100000 in
def eG.W (_s : ByteArray) (K : Exit → List V → Store → Prop) : Prop :=
 (K .ret [(.bool true)] [])
set_option maxRecDepth 100000 in
theorem eG.eq (s : ByteArray) (K : Exit → List V → Store → Prop) : eG.W s K = acW ax eG.ah eG.c (fun ex e σ => K ex [e 4] σ) (envL [(0, (.str s))]) [] := by kernel_rfl
theorem eG.ok : codeOk tys (hintsOf eG.ah) Tryd.f23.ntmps eG.c = true := by kernel_rfl
theorem eG.calm : calmC eG.c = true := by kernel_rfl
theorem eG.run {G : Nat → Value} {w0 : World} {F0 : Nat → Nat → Prop} {β0 : Nat → Value} {σ0 : Store} {ds : List Deferred} {F : Fence} {m : Nat} {ac : Act} {wc : World} (hE : ErrOk ax.P ax.gs ax.ift ax.tabs G) (hF : Opn F) (s : ByteArray) (K : Exit → List V → Store → Prop) (h : eG.W s K) (hs : St ax G w0 F0 β0 σ0 ds 36 (envL [(0, (.str s))]) [] ac wc) :
    eG.c.wpIn F m ax.P (fun ex a1 w1 => ∃ vs σ1, K ex vs σ1 ∧ St ax G w0 F0 β0 σ0 ds 36 (envL ([4].zip vs)) σ1 a1 w1 ∧ (∀ t, t ∉ assigned (hintsOf eG.ah) eG.c → a1.tmps.getD t undef = ac.tmps.getD t undef) ∧
      (∃ F β F1 β1, Sim ax.gs G wc F β [] ∧ Step w0 F0 β0 σ0 wc F β [] ∧ Step wc F β [] w1 F1 β1 σ1)) ac wc :=
  St.run (sl := fun e => [e 4]) tysOk fnsOk follows eqOk hE hF (fun _ => rfl) eG.ok eG.calm (Eq.mp (eG.eq s K) h) hs
theorem eG.runC {G : Nat → Value} {C : Beside} (hC : Shut C) {ds : List Deferred} {F : Fence} {m : Nat} {ac : Act} {wc : World} (hE : ErrOk ax.P ax.gs ax.ift ax.tabs G) (hF : Opn F) (s : ByteArray) (K : Exit → List V → Store → Prop) (h : eG.W s K) (hs : StC ax G C ds 36 (envL [(0, (.str s))]) [] ac wc) :
    eG.c.wpIn F m ax.P (fun ex a1 w1 => ∃ vs σ1, K ex vs σ1 ∧ StC ax G C ds 36 (envL ([4].zip vs)) σ1 a1 w1 ∧ (∀ t, t ∉ assigned (hintsOf eG.ah) eG.c → a1.tmps.getD t undef = ac.tmps.getD t undef) ∧
      (∃ F β F1 β1, Sim ax.gs G wc F β [] ∧ C wc F β [] ∧ Step wc F β [] w1 F1 β1 σ1)) ac wc :=
  StC.run (sl := fun e => [e 4]) hC tysOk fnsOk follows eqOk hE hF (fun _ => rfl) eG.ok eG.calm (Eq.mp (eG.eq s K) h) hs
/-! ### aA: a piece of function 26, augur/lex.All$1 -/
def aA.ah : AH := ⟨[], [], [], [], [], [], [], []⟩
noncomputable def aA.c : Code := Av.part [.fst] (Tryd.f26.body.getD .skip)
set_option maxRecDepth 100000 in
def aA.W (s : ByteArray) (K : Exit → List V → Store → Prop) : Prop :=
 (K .normal [(.ptr 0 0), (.bool (decide ((s.size : Int) ≤ (16384 : Int))))] [⟨0, (.box [(.str s)])⟩])
set_option maxRecDepth 100000 in
theorem aA.eq (s : ByteArray) (K : Exit → List V → Store → Prop) : aA.W s K = acW ax aA.ah aA.c (fun ex e σ => K ex [e 1, e 5] σ) (envL [(1, (.ptr 0 0))]) [⟨0, (.box [(.str s)])⟩] := by kernel_rfl
theorem aA.ok : codeOk tys (hintsOf aA.ah) Tryd.f26.ntmps aA.c = true := by kernel_rfl
theorem aA.calm : calmC aA.c = true := by kernel_rfl
theorem aA.run {G : Nat → Value} {w0 : World} {F0 : Nat → Nat → Prop} {β0 : Nat → Value} {σ0 : Store} {ds : List Deferred} {F : Fence} {m : Nat} {ac : Act} {wc : World} (hE : ErrOk ax.P ax.gs ax.ift ax.tabs G) (hF : Opn F) (s : ByteArray) (K : Exit → List V → Store → Prop) (h : aA.W s K) (hs : St ax G w0 F0 β0 σ0 ds 9 (envL [(1, (.ptr 0 0))]) [⟨0, (.box [(.str s)])⟩] ac wc) :
    aA.c.wpIn F m ax.P (fun ex a1 w1 => ∃ vs σ1, K ex vs σ1 ∧ St ax G w0 F0 β0 σ0 ds 9 (envL ([1, 5].zip vs)) σ1 a1 w1 ∧ (∀ t, t ∉ assigned (hintsOf aA.ah) aA.c → a1.tmps.getD t undef = ac.tmps.getD t undef) ∧
      (∃ F β F1 β1, Sim ax.gs G wc F β [⟨0, (.box [(.str s)])⟩] ∧ Step w0 F0 β0 σ0 wc F β [⟨0, (.box [(.str s)])⟩] ∧ Step wc F β [⟨0, (.box [(.str s)])⟩] w1 F1 β1 σ1)) ac wc :=
  St.run (sl := fun e => [e 1, e 5]) tysOk fnsOk follows eqOk hE hF (fun _ => rfl) aA.ok aA.calm (Eq.mp (aA.eq s K) h) hs
theorem aA.runC {G : Nat → Value} {C : Beside} (hC : Shut C) {ds : List Deferred} {F : Fence} {m : Nat} {ac : Act} {wc : World} (hE : ErrOk ax.P ax.gs ax.ift ax.tabs G) (hF : Opn F) (s : ByteArray) (K : Exit → List V → Store → Prop) (h : aA.W s K) (hs : StC ax G C ds 9 (envL [(1, (.ptr 0 0))]) [⟨0, (.box [(.str s)])⟩] ac wc) :
    aA.c.wpIn F m ax.P (fun ex a1 w1 => ∃ vs σ1, K ex vs σ1 ∧ StC ax G C ds 9 (envL ([1, 5].zip vs)) σ1 a1 w1 ∧ (∀ t, t ∉ assigned (hintsOf aA.ah) aA.c → a1.tmps.getD t undef = ac.tmps.getD t undef) ∧
      (∃ F β F1 β1, Sim ax.gs G wc F β [⟨0, (.box [(.str s)])⟩] ∧ C wc F β [⟨0, (.box [(.str s)])⟩] ∧ Step wc F β [⟨0, (.box [(.str s)])⟩] w1 F1 β1 σ1)) ac wc :=
  StC.run (sl := fun e => [e 1, e 5]) hC tysOk fnsOk follows eqOk hE hF (fun _ => rfl) aA.ok aA.calm (Eq.mp (aA.eq s K) h) hs
end Go.Proofs.YtadgcpjobhgkiaaDoor.Va
end
