/- Data: Encode, the chapter's example, and the statement DataSizes at the model's run. -/
import Derived.Test.YtgjifgjjcaohoaaGreatDoorR1
import Derived.Test.YtgjifgjjcaohoaaGreatDoorProg
/- part DaA -/
section
namespace Go.Vx.Da
open Go.RowKit

structure D where
  ctor : Bool
  int : Int
  name : ByteArray
  args : List D

/-- cells that hold a datum; what it leads to lies below block B -/
inductive Rep (B : Nat) (w : World) : D → List Value → Prop
  | mk (c : Bool) (i : Int) (s : ByteArray) (xs0 : List D) (a : Option Addr) (m : Nat) (cs : Nat → List Value) (hm : xs0.length ≤ m)
      (ha : ∀ j, j < xs0.length → ∃ b o, a = some ⟨b, o, none⟩ ∧ b < B ∧ cellsAt w b (o + j * 4) (cs j)) (hr : ∀ j (h : j < xs0.length), Rep B w xs0[j] (cs j)) :
      Rep B w ⟨c, i, s, xs0⟩ [.bool c, .int .i64 i, .string s, .slice a xs0.length m]

theorem Rep.form {B : Nat} {w : World} {d : D} {vs : List Value} (h : Rep B w d vs) : ∃ (a : Option Addr) (m : Nat) (cs : Nat → List Value), vs = [.bool d.ctor, .int .i64 d.int, .string d.name, .slice a d.args.length m] ∧ d.args.length ≤ m ∧
    (∀ j, j < d.args.length → ∃ b o, a = some ⟨b, o, none⟩ ∧ b < B ∧ cellsAt w b (o + j * 4) (cs j)) ∧ ∀ j (h : j < d.args.length), Rep B w d.args[j] (cs j) := by
  cases h with
  | mk c i s xs0 a m cs hm ha hr => exact ⟨a, m, cs, rfl, hm, ha, hr⟩

theorem Rep.kept {B C : Nat} {w w' : World} (hb : Below C w w') (hBC : B ≤ C) : ∀ {d : D} {vs : List Value}, Rep B w d vs → Rep B w' d vs := by
  intro d vs h
  induction h with
  | mk c i s xs0 a m cs hm ha hr ih =>
    refine .mk c i s xs0 a m cs hm (fun j hj => ?_) ih
    obtain ⟨b, o, h1, h2, h3⟩ := ha j hj
    exact ⟨b, o, h1, h2, cellsAt_below hb (by omega) h3⟩

theorem Rep.up {B B' : Nat} {w : World} (hB : B ≤ B') : ∀ {d : D} {vs : List Value}, Rep B w d vs → Rep B' w d vs := by
  intro d vs h
  induction h with
  | mk c i s xs0 a m cs hm ha hr ih =>
    refine .mk c i s xs0 a m cs hm (fun j hj => ?_) ih
    obtain ⟨b, o, h1, h2, h3⟩ := ha j hj
    exact ⟨b, o, h1, by omega, h3⟩

theorem Rep.one {B : Nat} {w : World} {d : D} {vs : List Value} (h : Rep B w d vs) : vs.length = 4 ∧ (vs.all fun v => v.oneCell') = true := by
  obtain ⟨a, m, cs, rfl, _⟩ := h.form
  exact ⟨rfl, rfl⟩

mutual
/-- nodes: an int is one, whatever its arguments -/
def nodes : D → Nat
  | ⟨c, _, _, xs0⟩ => match c with
    | true => 1 + nodesL xs0
    | false => 1
def nodesL : List D → Nat
  | [] => 0
  | a :: r => nodes a + nodesL r
end

mutual
def depth : D → Nat
  | ⟨c, _, _, xs0⟩ => match c with
    | true => 1 + depthL xs0
    | false => 1
def depthL : List D → Nat
  | [] => 0
  | a :: r => max (depth a) (depthL r)
end

theorem nodes_int {d : D} (h : d.ctor = false) : nodes d = 1 := by
  obtain ⟨c, i, s, xs0⟩ := d
  subst h
  rfl
theorem nodes_ctor {d : D} (h : d.ctor = true) : nodes d = 1 + nodesL d.args := by
  obtain ⟨c, i, s, xs0⟩ := d
  subst h
  rfl
theorem depth_int {d : D} (h : d.ctor = false) : depth d = 1 := by
  obtain ⟨c, i, s, xs0⟩ := d
  subst h
  rfl
theorem depth_ctor {d : D} (h : d.ctor = true) : depth d = 1 + depthL d.args := by
  obtain ⟨c, i, s, xs0⟩ := d
  subst h
  rfl
theorem nodes_pos (d : D) : 1 ≤ nodes d := by
  cases h : d.ctor with
  | true => rw [nodes_ctor h]; omega
  | false => rw [nodes_int h]; exact Nat.le_refl _

theorem nodesL_take (l : List D) : ∀ (k : Nat) (h : k < l.length), nodesL (l.take (k + 1)) = nodesL (l.take k) + nodes l[k] := by
  induction l with
  | nil => intro k h; simp at h
  | cons a r ih =>
    intro k h
    cases k with
    | zero => simp [nodesL]
    | succ k =>
      have := ih k (by simpa using h)
      simp only [List.take_succ_cons, nodesL, List.getElem_cons_succ]
      omega

theorem depthL_take (l : List D) : ∀ (k : Nat) (h : k < l.length), depthL (l.take (k + 1)) = max (depthL (l.take k)) (depth l[k]) := by
  induction l with
  | nil => intro k h; simp at h
  | cons a r ih =>
    intro k h
    cases k with
    | zero => simp [depthL]
    | succ k =>
      have := ih k (by simpa using h)
      simp only [List.take_succ_cons, depthL, List.getElem_cons_succ]
      omega

theorem nodesL_mem {l : List D} {a : D} (h : a ∈ l) : nodes a ≤ nodesL l := by
  induction l with
  | nil => cases h
  | cons b r ih =>
    simp only [nodesL]
    rcases List.mem_cons.1 h with rfl | h
    · omega
    · have := ih h; omega

theorem depthL_mem {l : List D} {a : D} (h : a ∈ l) : depth a ≤ depthL l := by
  induction l with
  | nil => cases h
  | cons b r ih =>
    simp only [depthL]
    rcases List.mem_cons.1 h with rfl | h
    · omega
    · have := ih h; omega

theorem len_nodesL (l : List D) : l.length ≤ nodesL l := by
  induction l with
  | nil => exact Nat.le_refl _
  | cons a r ih => have := nodes_pos a; simp only [nodesL, List.length_cons]; omega
theorem le_take (l : List D) {j : Nat} (h : j ≤ l.length) : j ≤ nodesL (l.take j) := by
  have := len_nodesL (l.take j)
  rw [List.length_take] at this
  omega
theorem nodesL_take_le (l : List D) (j : Nat) : nodesL (l.take j) ≤ nodesL l := by
  induction l generalizing j with
  | nil => simp [nodesL]
  | cons a r ih =>
    cases j with
    | zero => simp [nodesL]
    | succ j => have := ih j; simp only [List.take_succ_cons, nodesL]; omega

/-- a part is smaller -/
theorem sizeOf_arg (d : D) (j : Nat) (h : j < d.args.length) : SizeOf.sizeOf d.args[j] < SizeOf.sizeOf d := by
  obtain ⟨c, i, s, xs0⟩ := d
  have := List.sizeOf_lt_of_mem (List.getElem_mem h)
  simp only [D.mk.sizeOf_spec] at this ⊢
  omega

end Go.Vx.Da

namespace Go.Vx.Da
/-- numbers of the kind -/
inductive Wf : D → Prop
  | mk (c : Bool) (i : Int) (s : ByteArray) (ys : List D) (h0 : -9223372036854775808 ≤ i) (h1 : i ≤ 9223372036854775807) (hs : s.size ≤ maxLen) (hy : ∀ j (h : j < ys.length), Wf ys[j]) : Wf ⟨c, i, s, ys⟩
end Go.Vx.Da
end

/- part Z1F -/
section
set_option linter.unusedVariables false
namespace Go.Proofs.YtgjifgjjcaohoaaGreatDoor.Vd
open Go.Vx
def tys : Tys := [(3, ⟨(.int .i64), 1, 8, [.int .i64 0], [.int .i64]⟩),
  (4, ⟨.bool, 1, 1, [.bool false], [.bool]⟩),
  (5, ⟨(.int .u8), 1, 1, [.int .u8 0], [.int .u8]⟩),
  (9, ⟨.str, 1, 16, [.string (⟨#[]⟩ : ByteArray)], [.str]⟩),
  (23, ⟨(.sl 25), 1, 24, [.slice none 0 0], [.sl]⟩),
  (25, ⟨(.agg [(0, 4), (1, 3), (2, 9), (3, 23)]), 4, 56, [.bool false, .int .i64 0, .string (⟨#[]⟩ : ByteArray), .slice none 0 0], [.bool, .int .i64, .str, .sl]⟩),
  (27, ⟨.iface, 1, 16, [.nilIface], [.any]⟩),
  (37, ⟨(.sl 5), 1, 24, [.slice none 0 0], [.sl]⟩),
  (82, ⟨(.int .u64), 1, 8, [.int .u64 0], [.int .u64]⟩)]
theorem ty3 : Ty.Ok Tryz.prog 3 ⟨(.int .i64), 1, 8, [.int .i64 0], [.int .i64]⟩ := ⟨Tryz.underlying3, by kernel_rfl, by kernel_rfl, rfl⟩
theorem ty4 : Ty.Ok Tryz.prog 4 ⟨.bool, 1, 1, [.bool false], [.bool]⟩ := ⟨Tryz.underlying4, by kernel_rfl, by kernel_rfl, rfl⟩
theorem ty5 : Ty.Ok Tryz.prog 5 ⟨(.int .u8), 1, 1, [.int .u8 0], [.int .u8]⟩ := ⟨Tryz.underlying5, by kernel_rfl, by kernel_rfl, rfl⟩
theorem ty9 : Ty.Ok Tryz.prog 9 ⟨.str, 1, 16, [.string (⟨#[]⟩ : ByteArray)], [.str]⟩ := ⟨Tryz.underlying9, by kernel_rfl, by kernel_rfl, rfl⟩
theorem ty23 : Ty.Ok Tryz.prog 23 ⟨(.sl 25), 1, 24, [.slice none 0 0], [.sl]⟩ := ⟨Tryz.underlying23, by kernel_rfl, by kernel_rfl, rfl⟩
theorem ty25 : Ty.Ok Tryz.prog 25 ⟨(.agg [(0, 4), (1, 3), (2, 9), (3, 23)]), 4, 56, [.bool false, .int .i64 0, .string (⟨#[]⟩ : ByteArray), .slice none 0 0], [.bool, .int .i64, .str, .sl]⟩ := ⟨⟨_, Tryz.underlying25, rfl⟩, by kernel_rfl, by kernel_rfl, rfl⟩
theorem ty27 : Ty.Ok Tryz.prog 27 ⟨.iface, 1, 16, [.nilIface], [.any]⟩ := ⟨⟨_, Tryz.underlying27⟩, by kernel_rfl, by kernel_rfl, rfl⟩
theorem ty37 : Ty.Ok Tryz.prog 37 ⟨(.sl 5), 1, 24, [.slice none 0 0], [.sl]⟩ := ⟨Tryz.underlying37, by kernel_rfl, by kernel_rfl, rfl⟩
theorem ty82 : Ty.Ok Tryz.prog 82 ⟨(.int .u64), 1, 8, [.int .u64 0], [.int .u64]⟩ := ⟨Tryz.underlying82, by kernel_rfl, by kernel_rfl, rfl⟩
theorem tysOk : AllOk Tryz.prog tys := ⟨ty3, ty4, ty5, ty9, ty23, ty25, ty27, ty37, ty82, trivial⟩
def fns : Fns := [(11, [37, 27]), (13, [4]), (15, [3]), (26, [37, 27]), (28, [3, 4]), (29, [3, 3])]
theorem fnOk11 : ∃ fn, Tryz.prog.funcs[11]? = some fn ∧ (fn.name == "runtime.NumGoroutine") = false ∧ fn.body.isNone = false := ⟨_, Tryz.func11, by kernel_rfl, by kernel_rfl⟩
theorem fnOk13 : ∃ fn, Tryz.prog.funcs[13]? = some fn ∧ (fn.name == "runtime.NumGoroutine") = false ∧ fn.body.isNone = false := ⟨_, Tryz.func13, by kernel_rfl, by kernel_rfl⟩
theorem fnOk15 : ∃ fn, Tryz.prog.funcs[15]? = some fn ∧ (fn.name == "runtime.NumGoroutine") = false ∧ fn.body.isNone = false := ⟨_, Tryz.func15, by kernel_rfl, by kernel_rfl⟩
theorem fnOk26 : ∃ fn, Tryz.prog.funcs[26]? = some fn ∧ (fn.name == "runtime.NumGoroutine") = false ∧ fn.body.isNone = false := ⟨_, Tryz.func26, by kernel_rfl, by kernel_rfl⟩
theorem fnOk28 : ∃ fn, Tryz.prog.funcs[28]? = some fn ∧ (fn.name == "runtime.NumGoroutine") = false ∧ fn.body.isNone = false := ⟨_, Tryz.func28, by kernel_rfl, by kernel_rfl⟩
theorem fnOk29 : ∃ fn, Tryz.prog.funcs[29]? = some fn ∧ (fn.name == "runtime.NumGoroutine") = false ∧ fn.body.isNone = false := ⟨_, Tryz.func29, by kernel_rfl, by kernel_rfl⟩
theorem fnsOk : FnsOk Tryz.prog fns := ⟨fnOk11, fnOk13, fnOk15, fnOk26, fnOk28, fnOk29, trivial⟩
theorem follows : Tryz.prog.follows .mixedOrders = true := by kernel_rfl
/-! ### put: function 26 -/
def put.hs : Hints := ⟨[(9, seqO [0, 1, 2])], [(4, [(0, .sl), (6, .int .i64)]), (14, [(0, .sl), (68, .int .i64)])]⟩
set_option maxRecDepth 100000 in
def put.W (a1 : Option Addr) (m2 c3 : Nat) (b4 : Bool) (n5 : Int) (s6 : ByteArray) (a7 : Option Addr) (m8 c9 : Nat) (w : World) (R : Value → World → Prop) : Prop :=
 (withW (World.alloc w (.cells #[(.bool b4), (.int .i64 n5), (.string s6), (.slice a7 m8 c9)] 25)) fun w10 =>
 (∃ (b11 : Bool), World.cell? w10 ⟨w.heap.size, 0, none⟩ = some (.bool b11) ∧ (bif (!b11) then
 (withW (World.alloc w10 (.cells #[(.int .u8 0)] 5)) fun w12 =>
 (∃ (a13 : Option Addr) (m14 c15 : Nat) (w16 : World), Runs Tryz.prog (Builtin.append_ #[37, 37] 37 #[(.slice a1 m2 c3), (.slice (some ⟨w10.heap.size, 0, none⟩ : Option Addr) 1 1)]) w12 (.slice a13 m14 c15) w16 ∧ (∃ (I17 : List Value → World → Prop) (μ18 : List Value → World → Nat), I17 [(.slice a13 m14 c15), (.int .i64 0)] w16 ∧ ∀ (j20 : Env) (q21 : List Value) (w19 : World), I17 q21 w19 → ∃ (a22 : Option Addr) (m23 c24 : Nat) (n25 : Int), q21 = [(.slice a22 m23 c24), (.int .i64 n25)] ∧
 (bif (decide (n25 < (64 : Int))) then
 (∃ (n26 : Int), World.cell? w19 ⟨w.heap.size, 1, none⟩ = some (.int .i64 n26) ∧ (0 ≤ n25 ∧ (withW (World.alloc w19 (.cells #[(.int .u8 (IntKind.u8.wrap (Int.fdiv (IntKind.u64.wrap n26) (2 ^ min (n25 : Int).toNat IntKind.u64.bits))))] 5)) fun w27 =>
 (∃ (a28 : Option Addr) (m29 c30 : Nat) (w31 : World), Runs Tryz.prog (Builtin.append_ #[37, 37] 37 #[(.slice a22 m23 c24), (.slice (some ⟨w19.heap.size, 0, none⟩ : Option Addr) 1 1)]) w27 (.slice a28 m29 c30) w31 ∧ (I17 [(.slice a28 m29 c30), (.int .i64 (IntKind.i64.wrap (n25 + 8)))] w31 ∧ μ18 [(.slice a28 m29 c30), (.int .i64 (IntKind.i64.wrap (n25 + 8)))] w31 < μ18 [(.slice a22 m23 c24), (.int .i64 n25)] w19)))))
 else
 (R (.tuple #[(.slice a22 m23 c24), .nilIface]) w19)))))
 else
 (∃ (s32 : ByteArray), World.cell? w10 ⟨w.heap.size, 2, none⟩ = some (.string s32) ∧ (bif (decide ((s32.size : Int) < (1 : Int))) then (withW (World.drew w10) fun w33 =>
 (∃ (v34 : Value), World.cell? w33 ⟨1, 0, none⟩ = some v34 ∧ (R (.tuple #[(.slice none 0 0), v34]) w33))) else (∃ (s35 : ByteArray), World.cell? w10 ⟨w.heap.size, 2, none⟩ = some (.string s35) ∧ (bif (decide ((s35.size : Int) > (32 : Int))) then (withW (World.drew w10) fun w36 =>
 (∃ (v37 : Value), World.cell? w36 ⟨1, 0, none⟩ = some v37 ∧ (R (.tuple #[(.slice none 0 0), v37]) w36))) else (∃ (a38 : Option Addr) (m39 c40 : Nat), World.cell? w10 ⟨w.heap.size, 3, none⟩ = some (.slice a38 m39 c40) ∧ (bif (decide ((m39 : Int) > (8 : Int))) then
 (withW (World.drew w10) fun w41 =>
 (∃ (v42 : Value), World.cell? w41 ⟨1, 0, none⟩ = some v42 ∧ (R (.tuple #[(.slice none 0 0), v42]) w41)))
 else
 (∃ (s43 : ByteArray), World.cell? w10 ⟨w.heap.size, 2, none⟩ = some (.string s43) ∧ (withW (World.alloc w10 (.cells #[(.int .u8 1), (.int .u8 (IntKind.u8.wrap (s43.size : Int)))] 5)) fun w44 =>
 (∃ (a45 : Option Addr) (m46 c47 : Nat) (w48 : World), Runs Tryz.prog (Builtin.append_ #[37, 37] 37 #[(.slice a1 m2 c3), (.slice (some ⟨w10.heap.size, 0, none⟩ : Option Addr) 2 2)]) w44 (.slice a45 m46 c47) w48 ∧ (∃ (s49 : ByteArray), World.cell? w48 ⟨w.heap.size, 2, none⟩ = some (.string s49) ∧ (∃ (a50 : Option Addr) (m51 c52 : Nat) (w53 : World), Runs Tryz.prog (Builtin.append_ #[37, 9] 37 #[(.slice a45 m46 c47), (.string s49)]) w48 (.slice a50 m51 c52) w53 ∧ (∃ (a54 : Option Addr) (m55 c56 : Nat), World.cell? w53 ⟨w.heap.size, 3, none⟩ = some (.slice a54 m55 c56) ∧ (withW (World.alloc w53 (.cells #[(.int .u8 (IntKind.u8.wrap (m55 : Int)))] 5)) fun w57 =>
 (∃ (a58 : Option Addr) (m59 c60 : Nat) (w61 : World), Runs Tryz.prog (Builtin.append_ #[37, 37] 37 #[(.slice a50 m51 c52), (.slice (some ⟨w53.heap.size, 0, none⟩ : Option Addr) 1 1)]) w57 (.slice a58 m59 c60) w61 ∧ (∃ (a62 : Option Addr) (m63 c64 : Nat), World.cell? w61 ⟨w.heap.size, 3, none⟩ = some (.slice a62 m63 c64) ∧ (∃ (I65 : List Value → World → Prop) (μ66 : List Value → World → Nat), I65 [(.slice a58 m59 c60), (.int .i64 0)] w61 ∧ ∀ (j68 : Env) (q69 : List Value) (w67 : World), I65 q69 w67 → ∃ (a70 : Option Addr) (m71 c72 : Nat) (n73 : Int), q69 = [(.slice a70 m71 c72), (.int .i64 n73)] ∧
 (bif (decide (n73 < (m63 : Int))) then
 (∃ b74 f75, a62 = some ⟨b74, f75, none⟩ ∧ 0 ≤ n73 ∧ n73 < (m63 : Int) ∧ (∃ (b76 : Bool) (n77 : Int) (s78 : ByteArray) (a79 : Option Addr) (m80 c81 : Nat), cellsAt w67 b74 (f75 + (n73 : Int).toNat * 4) [(.bool b76), (.int .i64 n77), (.string s78), (.slice a79 m80 c81)] ∧ (withW (World.alloc w67 (.cells #[.bool false, .int .i64 0, .string (⟨#[]⟩ : ByteArray), .slice none 0 0] 25)) fun w82 =>
 (canSt w82 w67.heap.size 0 [(.bool b76), (.int .i64 n77), (.string s78), (.slice a79 m80 c81)] ∧ withW (setL w82 w67.heap.size 0 [(.bool b76), (.int .i64 n77), (.string s78), (.slice a79 m80 c81)]) fun w83 =>
 (∃ (b84 : Bool) (n85 : Int) (s86 : ByteArray) (a87 : Option Addr) (m88 c89 : Nat), cellsAt w83 w67.heap.size 0 [(.bool b84), (.int .i64 n85), (.string s86), (.slice a87 m88 c89)] ∧ (Calls Tryz.prog 26 #[(.slice a70 m71 c72), (.agg #[(.bool b84), (.int .i64 n85), (.string s86), (.slice a87 m88 c89)])] w83 fun e91 w90 => ∃ (a92 : Option Addr) (m93 c94 : Nat) (v95 : Value), e91 = .returned (.tuple #[(.slice a92 m93 c94), v95]) ∧ (∃ r96, IsNil v95 r96 ∧ (bif (!r96) then
 (R (.tuple #[(.slice none 0 0), v95]) w90)
 else
 (I65 [(.slice a92 m93 c94), (.int .i64 (IntKind.i64.wrap (n73 + 1)))] w90 ∧ μ66 [(.slice a92 m93 c94), (.int .i64 (IntKind.i64.wrap (n73 + 1)))] w90 < μ66 [(.slice a70 m71 c72), (.int .i64 n73)] w67)))))))))
 else
 (R (.tuple #[(.slice a70 m71 c72), .nilIface]) w67)))))))))))))))))))))
set_option maxRecDepth 100000 in
theorem put.eq (a1 : Option Addr) (m2 c3 : Nat) (b4 : Bool) (n5 : Int) (s6 : ByteArray) (a7 : Option Addr) (m8 c9 : Nat) (w : World) (R : Value → World → Prop) : put.W a1 m2 c3 b4 n5 s6 a7 m8 c9 w R = fnW Tryz.prog tys fns put.hs Tryz.f26 [(.slice a1 m2 c3), (.agg #[(.bool b4), (.int .i64 n5), (.string s6), (.slice a7 m8 c9)])] w R := by kernel_rfl
theorem put.ok : codeOk tys put.hs Tryz.f26.ntmps (Tryz.f26.body.getD .skip) = true := by kernel_rfl
theorem put.calls {a1 m2 c3 b4 n5 s6 a7 m8 c9 w R} (h : put.W a1 m2 c3 b4 n5 s6 a7 m8 c9 w R) : Calls Tryz.prog 26 ([(.slice a1 m2 c3), (.agg #[(.bool b4), (.int .i64 n5), (.string s6), (.slice a7 m8 c9)])] : List Value).toArray w fun e w' => ∃ v, e = .returned v ∧ R v w' :=
  fnW_calls tysOk fnsOk follows Tryz.func26 (by kernel_rfl) put.ok (by kernel_rfl) (put.eq a1 m2 c3 b4 n5 s6 a7 m8 c9 w R ▸ h)
/-! ### Encode: function 11 -/
def Encode.hs : Hints := ⟨[(2, seqO [0, 1, 2])], []⟩
set_option maxRecDepth 100000 in
def Encode.W (b1 : Bool) (n2 : Int) (s3 : ByteArray) (a4 : Option Addr) (m5 c6 : Nat) (w : World) (R : Value → World → Prop) : Prop :=
 (withW (World.alloc w (.cells #[(.bool b1), (.int .i64 n2), (.string s3), (.slice a4 m5 c6)] 25)) fun w7 =>
 (∃ (b8 : Bool) (n9 : Int) (s10 : ByteArray) (a11 : Option Addr) (m12 c13 : Nat), cellsAt w7 w.heap.size 0 [(.bool b8), (.int .i64 n9), (.string s10), (.slice a11 m12 c13)] ∧ (Calls Tryz.prog 13 #[(.agg #[(.bool b8), (.int .i64 n9), (.string s10), (.slice a11 m12 c13)])] w7 fun e15 w14 => ∃ (b16 : Bool), e15 = .returned (.bool b16) ∧ (bif (!b16) then
 (withW (World.drew w14) fun w17 =>
 (∃ (v18 : Value), World.cell? w17 ⟨0, 0, none⟩ = some v18 ∧ (R (.tuple #[(.slice none 0 0), v18]) w17)))
 else
 (∃ (b19 : Bool) (n20 : Int) (s21 : ByteArray) (a22 : Option Addr) (m23 c24 : Nat), cellsAt w14 w.heap.size 0 [(.bool b19), (.int .i64 n20), (.string s21), (.slice a22 m23 c24)] ∧ (Calls Tryz.prog 26 #[(.slice none 0 0), (.agg #[(.bool b19), (.int .i64 n20), (.string s21), (.slice a22 m23 c24)])] w14 fun e26 w25 => ∃ (a27 : Option Addr) (m28 c29 : Nat) (v30 : Value), e26 = .returned (.tuple #[(.slice a27 m28 c29), v30]) ∧ (R (.tuple #[(.slice a27 m28 c29), v30]) w25)))))))
set_option maxRecDepth 100000 in
theorem Encode.eq (b1 : Bool) (n2 : Int) (s3 : ByteArray) (a4 : Option Addr) (m5 c6 : Nat) (w : World) (R : Value → World → Prop) : Encode.W b1 n2 s3 a4 m5 c6 w R = fnW Tryz.prog tys fns Encode.hs Tryz.f11 [(.agg #[(.bool b1), (.int .i64 n2), (.string s3), (.slice a4 m5 c6)])] w R := by kernel_rfl
theorem Encode.ok : codeOk tys Encode.hs Tryz.f11.ntmps (Tryz.f11.body.getD .skip) = true := by kernel_rfl
theorem Encode.calls {b1 n2 s3 a4 m5 c6 w R} (h : Encode.W b1 n2 s3 a4 m5 c6 w R) : Calls Tryz.prog 11 ([(.agg #[(.bool b1), (.int .i64 n2), (.string s3), (.slice a4 m5 c6)])] : List Value).toArray w fun e w' => ∃ v, e = .returned v ∧ R v w' :=
  fnW_calls tysOk fnsOk follows Tryz.func11 (by kernel_rfl) Encode.ok (by kernel_rfl) (Encode.eq b1 n2 s3 a4 m5 c6 w R ▸ h)
/-! ### alive: function 5 -/
def alive.hs : Hints := ⟨[], []⟩
set_option maxRecDepth 100000 in
def alive.W  (w : World) (R : Value → World → Prop) : Prop :=
 (withW (World.alloc w (.cells #[(.bool false), (.int .i64 1), (.string (⟨#[]⟩ : ByteArray)), (.slice none 0 0), (.bool true), (.int .i64 0), (.string (⟨#[110, 105, 108]⟩ : ByteArray)), (.slice none 0 0)] 25)) fun w1 =>
 (Calls Tryz.prog 11 #[(.agg #[(.bool true), (.int .i64 0), (.string (⟨#[99, 111, 110, 115]⟩ : ByteArray)), (.slice (some ⟨w.heap.size, 0, none⟩ : Option Addr) 2 2)])] w1 fun e3 w2 => ∃ (a4 : Option Addr) (m5 c6 : Nat) (v7 : Value), e3 = .returned (.tuple #[(.slice a4 m5 c6), v7]) ∧ (∃ r8, IsNil v7 r8 ∧ (bif r8 then (∃ (s9 : ByteArray), Runs Tryz.prog (convert 37 9 (.slice a4 m5 c6)) w2 (.string s9) w2 ∧ (R (.bool (s9.toList == (⟨#[1, 4, 99, 111, 110, 115, 2, 0, 1, 0, 0, 0, 0, 0, 0, 0, 1, 3, 110, 105, 108, 0]⟩ : ByteArray).toList)) w2)) else (R (.bool false) w2)))))
set_option maxRecDepth 100000 in
theorem alive.eq  (w : World) (R : Value → World → Prop) : alive.W  w R = fnW Tryz.prog tys fns alive.hs Tryz.f5 [] w R := by kernel_rfl
theorem alive.ok : codeOk tys alive.hs Tryz.f5.ntmps (Tryz.f5.body.getD .skip) = true := by kernel_rfl
theorem alive.calls { w R} (h : alive.W  w R) : Calls Tryz.prog 5 ([] : List Value).toArray w fun e w' => ∃ v, e = .returned v ∧ R v w' :=
  fnW_calls tysOk fnsOk follows Tryz.func5 (by kernel_rfl) alive.ok (by kernel_rfl) (alive.eq  w R ▸ h)
/-! ### refGood: function 14 -/
def refGood.hs : Hints := ⟨[], []⟩
set_option maxRecDepth 100000 in
def refGood.W (b1 : Bool) (n2 : Int) (s3 : ByteArray) (a4 : Option Addr) (m5 c6 : Nat) (w : World) (R : Value → World → Prop) : Prop :=
 (withW (World.alloc w (.cells #[(.bool b1), (.int .i64 n2), (.string s3), (.slice a4 m5 c6)] 25)) fun w7 =>
 (∃ (b8 : Bool) (n9 : Int) (s10 : ByteArray) (a11 : Option Addr) (m12 c13 : Nat), cellsAt w7 w.heap.size 0 [(.bool b8), (.int .i64 n9), (.string s10), (.slice a11 m12 c13)] ∧ (Calls Tryz.prog 29 #[(.agg #[(.bool b8), (.int .i64 n9), (.string s10), (.slice a11 m12 c13)]), (.int .i64 1)] w7 fun e15 w14 => ∃ (n16 : Int) (n17 : Int), e15 = .returned (.tuple #[(.int .i64 n16), (.int .i64 n17)]) ∧ (bif (decide (n16 ≤ (4096 : Int))) then (R (.bool (decide (n17 ≤ (200 : Int)))) w14) else (R (.bool false) w14)))))
set_option maxRecDepth 100000 in
theorem refGood.eq (b1 : Bool) (n2 : Int) (s3 : ByteArray) (a4 : Option Addr) (m5 c6 : Nat) (w : World) (R : Value → World → Prop) : refGood.W b1 n2 s3 a4 m5 c6 w R = fnW Tryz.prog tys fns refGood.hs Tryz.f14 [(.agg #[(.bool b1), (.int .i64 n2), (.string s3), (.slice a4 m5 c6)])] w R := by kernel_rfl
theorem refGood.ok : codeOk tys refGood.hs Tryz.f14.ntmps (Tryz.f14.body.getD .skip) = true := by kernel_rfl
theorem refGood.calls {b1 n2 s3 a4 m5 c6 w R} (h : refGood.W b1 n2 s3 a4 m5 c6 w R) : Calls Tryz.prog 14 ([(.agg #[(.bool b1), (.int .i64 n2), (.string s3), (.slice a4 m5 c6)])] : List Value).toArray w fun e w' => ∃ v, e = .returned v ∧ R v w' :=
  fnW_calls tysOk fnsOk follows Tryz.func14 (by kernel_rfl) refGood.ok (by kernel_rfl) (refGood.eq b1 n2 s3 a4 m5 c6 w R ▸ h)
/-! ### count: function 29 -/
def count.hs : Hints := ⟨[], [(5, [(6, .int .i64), (7, .int .i64), (25, .int .i64)])]⟩
set_option maxRecDepth 100000 in
def count.W (b1 : Bool) (n2 : Int) (s3 : ByteArray) (a4 : Option Addr) (m5 c6 : Nat) (n7 : Int) (w : World) (R : Value → World → Prop) : Prop :=
 (withW (World.alloc w (.cells #[(.bool b1), (.int .i64 n2), (.string s3), (.slice a4 m5 c6)] 25)) fun w8 =>
 (bif (decide (n7 > (200 : Int))) then (R (.tuple #[(.int .i64 1), (.int .i64 n7)]) w8) else (∃ (b9 : Bool), World.cell? w8 ⟨w.heap.size, 0, none⟩ = some (.bool b9) ∧ (bif (!b9) then
 (R (.tuple #[(.int .i64 1), (.int .i64 n7)]) w8)
 else
 (∃ (a10 : Option Addr) (m11 c12 : Nat), World.cell? w8 ⟨w.heap.size, 3, none⟩ = some (.slice a10 m11 c12) ∧ (∃ (I13 : List Value → World → Prop) (μ14 : List Value → World → Nat), I13 [(.int .i64 1), (.int .i64 n7), (.int .i64 0)] w8 ∧ ∀ (j16 : Env) (q17 : List Value) (w15 : World), I13 q17 w15 → ∃ (n18 : Int) (n19 : Int) (n20 : Int), q17 = [(.int .i64 n18), (.int .i64 n19), (.int .i64 n20)] ∧
 (bif (decide (n20 < (m11 : Int))) then
 (∃ b21 f22, a10 = some ⟨b21, f22, none⟩ ∧ 0 ≤ n20 ∧ n20 < (m11 : Int) ∧ (∃ (b23 : Bool) (n24 : Int) (s25 : ByteArray) (a26 : Option Addr) (m27 c28 : Nat), cellsAt w15 b21 (f22 + (n20 : Int).toNat * 4) [(.bool b23), (.int .i64 n24), (.string s25), (.slice a26 m27 c28)] ∧ (withW (World.alloc w15 (.cells #[.bool false, .int .i64 0, .string (⟨#[]⟩ : ByteArray), .slice none 0 0] 25)) fun w29 =>
 (canSt w29 w15.heap.size 0 [(.bool b23), (.int .i64 n24), (.string s25), (.slice a26 m27 c28)] ∧ withW (setL w29 w15.heap.size 0 [(.bool b23), (.int .i64 n24), (.string s25), (.slice a26 m27 c28)]) fun w30 =>
 (∃ (b31 : Bool) (n32 : Int) (s33 : ByteArray) (a34 : Option Addr) (m35 c36 : Nat), cellsAt w30 w15.heap.size 0 [(.bool b31), (.int .i64 n32), (.string s33), (.slice a34 m35 c36)] ∧ (Calls Tryz.prog 29 #[(.agg #[(.bool b31), (.int .i64 n32), (.string s33), (.slice a34 m35 c36)]), (.int .i64 (IntKind.i64.wrap (n7 + 1)))] w30 fun e38 w37 => ∃ (n39 : Int) (n40 : Int), e38 = .returned (.tuple #[(.int .i64 n39), (.int .i64 n40)]) ∧ (bif (decide (n40 > n19)) then
 (bif (decide ((IntKind.i64.wrap (n18 + n39)) > (4096 : Int))) then
 (R (.tuple #[(.int .i64 4097), (.int .i64 n40)]) w37)
 else
 (I13 [(.int .i64 (IntKind.i64.wrap (n18 + n39))), (.int .i64 n40), (.int .i64 (IntKind.i64.wrap (n20 + 1)))] w37 ∧ μ14 [(.int .i64 (IntKind.i64.wrap (n18 + n39))), (.int .i64 n40), (.int .i64 (IntKind.i64.wrap (n20 + 1)))] w37 < μ14 [(.int .i64 n18), (.int .i64 n19), (.int .i64 n20)] w15))
 else
 (bif (decide ((IntKind.i64.wrap (n18 + n39)) > (4096 : Int))) then
 (R (.tuple #[(.int .i64 4097), (.int .i64 n19)]) w37)
 else
 (I13 [(.int .i64 (IntKind.i64.wrap (n18 + n39))), (.int .i64 n19), (.int .i64 (IntKind.i64.wrap (n20 + 1)))] w37 ∧ μ14 [(.int .i64 (IntKind.i64.wrap (n18 + n39))), (.int .i64 n19), (.int .i64 (IntKind.i64.wrap (n20 + 1)))] w37 < μ14 [(.int .i64 n18), (.int .i64 n19), (.int .i64 n20)] w15)))))))))
 else
 (R (.tuple #[(.int .i64 n18), (.int .i64 n19)]) w15))))))))
set_option maxRecDepth 100000 in
theorem count.eq (b1 : Bool) (n2 : Int) (s3 : ByteArray) (a4 : Option Addr) (m5 c6 : Nat) (n7 : Int) (w : World) (R : Value → World → Prop) : count.W b1 n2 s3 a4 m5 c6 n7 w R = fnW Tryz.prog tys fns count.hs Tryz.f29 [(.agg #[(.bool b1), (.int .i64 n2), (.string s3), (.slice a4 m5 c6)]), (.int .i64 n7)] w R := by kernel_rfl
theorem count.ok : codeOk tys count.hs Tryz.f29.ntmps (Tryz.f29.body.getD .skip) = true := by kernel_rfl
theorem count.calls {b1 n2 s3 a4 m5 c6 n7 w R} (h : count.W b1 n2 s3 a4 m5 c6 n7 w R) : Calls Tryz.prog 29 ([(.agg #[(.bool b1), (.int .i64 n2), (.string s3), (.slice a4 m5 c6)]), (.int .i64 n7)] : List Value).toArray w fun e w' => ∃ v, e = .returned v ∧ R v w' :=
  fnW_calls tysOk fnsOk follows Tryz.func29 (by kernel_rfl) count.ok (by kernel_rfl) (count.eq b1 n2 s3 a4 m5 c6 n7 w R ▸ h)
/-! ### measure: function 28 -/
def measure.hs : Hints := ⟨[], [(7, [(2, .int .i64), (28, .int .i64)])]⟩
set_option maxRecDepth 100000 in
def measure.W (b1 : Bool) (n2 : Int) (s3 : ByteArray) (a4 : Option Addr) (m5 c6 : Nat) (n7 : Int) (n8 : Int) (w : World) (R : Value → World → Prop) : Prop :=
 (withW (World.alloc w (.cells #[(.bool b1), (.int .i64 n2), (.string s3), (.slice a4 m5 c6)] 25)) fun w9 =>
 (bif (decide (n7 > (200 : Int))) then (R (.tuple #[(.int .i64 (IntKind.i64.wrap (n8 + 1))), (.bool false)]) w9) else (bif (decide ((IntKind.i64.wrap (n8 + 1)) > (4096 : Int))) then
 (R (.tuple #[(.int .i64 (IntKind.i64.wrap (n8 + 1))), (.bool false)]) w9)
 else
 (∃ (b10 : Bool), World.cell? w9 ⟨w.heap.size, 0, none⟩ = some (.bool b10) ∧ (bif (!b10) then
 (R (.tuple #[(.int .i64 (IntKind.i64.wrap (n8 + 1))), (.bool true)]) w9)
 else
 (∃ (a11 : Option Addr) (m12 c13 : Nat), World.cell? w9 ⟨w.heap.size, 3, none⟩ = some (.slice a11 m12 c13) ∧ (∃ (I14 : List Value → World → Prop) (μ15 : List Value → World → Nat), I14 [(.int .i64 (IntKind.i64.wrap (n8 + 1))), (.int .i64 0)] w9 ∧ ∀ (j17 : Env) (q18 : List Value) (w16 : World), I14 q18 w16 → ∃ (n19 : Int) (n20 : Int), q18 = [(.int .i64 n19), (.int .i64 n20)] ∧
 (bif (decide (n20 < (m12 : Int))) then
 (∃ b21 f22, a11 = some ⟨b21, f22, none⟩ ∧ 0 ≤ n20 ∧ n20 < (m12 : Int) ∧ (∃ (b23 : Bool) (n24 : Int) (s25 : ByteArray) (a26 : Option Addr) (m27 c28 : Nat), cellsAt w16 b21 (f22 + (n20 : Int).toNat * 4) [(.bool b23), (.int .i64 n24), (.string s25), (.slice a26 m27 c28)] ∧ (withW (World.alloc w16 (.cells #[.bool false, .int .i64 0, .string (⟨#[]⟩ : ByteArray), .slice none 0 0] 25)) fun w29 =>
 (canSt w29 w16.heap.size 0 [(.bool b23), (.int .i64 n24), (.string s25), (.slice a26 m27 c28)] ∧ withW (setL w29 w16.heap.size 0 [(.bool b23), (.int .i64 n24), (.string s25), (.slice a26 m27 c28)]) fun w30 =>
 (∃ (b31 : Bool) (n32 : Int) (s33 : ByteArray) (a34 : Option Addr) (m35 c36 : Nat), cellsAt w30 w16.heap.size 0 [(.bool b31), (.int .i64 n32), (.string s33), (.slice a34 m35 c36)] ∧ (Calls Tryz.prog 28 #[(.agg #[(.bool b31), (.int .i64 n32), (.string s33), (.slice a34 m35 c36)]), (.int .i64 (IntKind.i64.wrap (n7 + 1))), (.int .i64 n19)] w30 fun e38 w37 => ∃ (n39 : Int) (b40 : Bool), e38 = .returned (.tuple #[(.int .i64 n39), (.bool b40)]) ∧ (bif (!b40) then
 (R (.tuple #[(.int .i64 n39), (.bool false)]) w37)
 else
 (I14 [(.int .i64 n39), (.int .i64 (IntKind.i64.wrap (n20 + 1)))] w37 ∧ μ15 [(.int .i64 n39), (.int .i64 (IntKind.i64.wrap (n20 + 1)))] w37 < μ15 [(.int .i64 n19), (.int .i64 n20)] w16))))))))
 else
 (R (.tuple #[(.int .i64 n19), (.bool true)]) w16)))))))))
set_option maxRecDepth 100000 in
theorem measure.eq (b1 : Bool) (n2 : Int) (s3 : ByteArray) (a4 : Option Addr) (m5 c6 : Nat) (n7 : Int) (n8 : Int) (w : World) (R : Value → World → Prop) : measure.W b1 n2 s3 a4 m5 c6 n7 n8 w R = fnW Tryz.prog tys fns measure.hs Tryz.f28 [(.agg #[(.bool b1), (.int .i64 n2), (.string s3), (.slice a4 m5 c6)]), (.int .i64 n7), (.int .i64 n8)] w R := by kernel_rfl
theorem measure.ok : codeOk tys measure.hs Tryz.f28.ntmps (Tryz.f28.body.getD .skip) = true := by kernel_rfl
theorem measure.calls {b1 n2 s3 a4 m5 c6 n7 n8 w R} (h : measure.W b1 n2 s3 a4 m5 c6 n7 n8 w R) : Calls Tryz.prog 28 ([(.agg #[(.bool b1), (.int .i64 n2), (.string s3), (.slice a4 m5 c6)]), (.int .i64 n7), (.int .i64 n8)] : List Value).toArray w fun e w' => ∃ v, e = .returned v ∧ R v w' :=
  fnW_calls tysOk fnsOk follows Tryz.func28 (by kernel_rfl) measure.ok (by kernel_rfl) (measure.eq b1 n2 s3 a4 m5 c6 n7 n8 w R ▸ h)
/-! ### Good: function 13 -/
def Good.hs : Hints := ⟨[], []⟩
set_option maxRecDepth 100000 in
def Good.W (b1 : Bool) (n2 : Int) (s3 : ByteArray) (a4 : Option Addr) (m5 c6 : Nat) (w : World) (R : Value → World → Prop) : Prop :=
 (withW (World.alloc w (.cells #[(.bool b1), (.int .i64 n2), (.string s3), (.slice a4 m5 c6)] 25)) fun w7 =>
 (∃ (b8 : Bool) (n9 : Int) (s10 : ByteArray) (a11 : Option Addr) (m12 c13 : Nat), cellsAt w7 w.heap.size 0 [(.bool b8), (.int .i64 n9), (.string s10), (.slice a11 m12 c13)] ∧ (Calls Tryz.prog 28 #[(.agg #[(.bool b8), (.int .i64 n9), (.string s10), (.slice a11 m12 c13)]), (.int .i64 1), (.int .i64 0)] w7 fun e15 w14 => ∃ (n16 : Int) (b17 : Bool), e15 = .returned (.tuple #[(.int .i64 n16), (.bool b17)]) ∧ (R (.bool b17) w14))))
set_option maxRecDepth 100000 in
theorem Good.eq (b1 : Bool) (n2 : Int) (s3 : ByteArray) (a4 : Option Addr) (m5 c6 : Nat) (w : World) (R : Value → World → Prop) : Good.W b1 n2 s3 a4 m5 c6 w R = fnW Tryz.prog tys fns Good.hs Tryz.f13 [(.agg #[(.bool b1), (.int .i64 n2), (.string s3), (.slice a4 m5 c6)])] w R := by kernel_rfl
theorem Good.ok : codeOk tys Good.hs Tryz.f13.ntmps (Tryz.f13.body.getD .skip) = true := by kernel_rfl
theorem Good.calls {b1 n2 s3 a4 m5 c6 w R} (h : Good.W b1 n2 s3 a4 m5 c6 w R) : Calls Tryz.prog 13 ([(.agg #[(.bool b1), (.int .i64 n2), (.string s3), (.slice a4 m5 c6)])] : List Value).toArray w fun e w' => ∃ v, e = .returned v ∧ R v w' :=
  fnW_calls tysOk fnsOk follows Tryz.func13 (by kernel_rfl) Good.ok (by kernel_rfl) (Good.eq b1 n2 s3 a4 m5 c6 w R ▸ h)
/-! ### Nodes: function 15 -/
def Nodes.hs : Hints := ⟨[], [(4, [(3, .int .i64), (11, .int .i64)])]⟩
set_option maxRecDepth 100000 in
def Nodes.W (b1 : Bool) (n2 : Int) (s3 : ByteArray) (a4 : Option Addr) (m5 c6 : Nat) (w : World) (R : Value → World → Prop) : Prop :=
 (withW (World.alloc w (.cells #[(.bool b1), (.int .i64 n2), (.string s3), (.slice a4 m5 c6)] 25)) fun w7 =>
 (∃ (b8 : Bool), World.cell? w7 ⟨w.heap.size, 0, none⟩ = some (.bool b8) ∧ (bif b8 then
 (∃ (a9 : Option Addr) (m10 c11 : Nat), World.cell? w7 ⟨w.heap.size, 3, none⟩ = some (.slice a9 m10 c11) ∧ (∃ (I12 : List Value → World → Prop) (μ13 : List Value → World → Nat), I12 [(.int .i64 1), (.int .i64 0)] w7 ∧ ∀ (j15 : Env) (q16 : List Value) (w14 : World), I12 q16 w14 → ∃ (n17 : Int) (n18 : Int), q16 = [(.int .i64 n17), (.int .i64 n18)] ∧
 (bif (decide (n18 < (m10 : Int))) then
 (∃ b19 f20, a9 = some ⟨b19, f20, none⟩ ∧ 0 ≤ n18 ∧ n18 < (m10 : Int) ∧ (∃ (b21 : Bool) (n22 : Int) (s23 : ByteArray) (a24 : Option Addr) (m25 c26 : Nat), cellsAt w14 b19 (f20 + (n18 : Int).toNat * 4) [(.bool b21), (.int .i64 n22), (.string s23), (.slice a24 m25 c26)] ∧ (withW (World.alloc w14 (.cells #[.bool false, .int .i64 0, .string (⟨#[]⟩ : ByteArray), .slice none 0 0] 25)) fun w27 =>
 (canSt w27 w14.heap.size 0 [(.bool b21), (.int .i64 n22), (.string s23), (.slice a24 m25 c26)] ∧ withW (setL w27 w14.heap.size 0 [(.bool b21), (.int .i64 n22), (.string s23), (.slice a24 m25 c26)]) fun w28 =>
 (∃ (b29 : Bool) (n30 : Int) (s31 : ByteArray) (a32 : Option Addr) (m33 c34 : Nat), cellsAt w28 w14.heap.size 0 [(.bool b29), (.int .i64 n30), (.string s31), (.slice a32 m33 c34)] ∧ (Calls Tryz.prog 15 #[(.agg #[(.bool b29), (.int .i64 n30), (.string s31), (.slice a32 m33 c34)])] w28 fun e36 w35 => ∃ (n37 : Int), e36 = .returned (.int .i64 n37) ∧ (bif (decide ((if 4097 < (IntKind.i64.wrap (n17 + n37)) then 4097 else (IntKind.i64.wrap (n17 + n37))) > (4096 : Int))) then
 (R (.int .i64 (if 4097 < (IntKind.i64.wrap (n17 + n37)) then 4097 else (IntKind.i64.wrap (n17 + n37)))) w35)
 else
 (I12 [(.int .i64 (if 4097 < (IntKind.i64.wrap (n17 + n37)) then 4097 else (IntKind.i64.wrap (n17 + n37)))), (.int .i64 (IntKind.i64.wrap (n18 + 1)))] w35 ∧ μ13 [(.int .i64 (if 4097 < (IntKind.i64.wrap (n17 + n37)) then 4097 else (IntKind.i64.wrap (n17 + n37)))), (.int .i64 (IntKind.i64.wrap (n18 + 1)))] w35 < μ13 [(.int .i64 n17), (.int .i64 n18)] w14))))))))
 else
 (R (.int .i64 n17) w14))))
 else
 (R (.int .i64 1) w7))))
set_option maxRecDepth 100000 in
theorem Nodes.eq (b1 : Bool) (n2 : Int) (s3 : ByteArray) (a4 : Option Addr) (m5 c6 : Nat) (w : World) (R : Value → World → Prop) : Nodes.W b1 n2 s3 a4 m5 c6 w R = fnW Tryz.prog tys fns Nodes.hs Tryz.f15 [(.agg #[(.bool b1), (.int .i64 n2), (.string s3), (.slice a4 m5 c6)])] w R := by kernel_rfl
theorem Nodes.ok : codeOk tys Nodes.hs Tryz.f15.ntmps (Tryz.f15.body.getD .skip) = true := by kernel_rfl
theorem Nodes.calls {b1 n2 s3 a4 m5 c6 w R} (h : Nodes.W b1 n2 s3 a4 m5 c6 w R) : Calls Tryz.prog 15 ([(.agg #[(.bool b1), (.int .i64 n2), (.string s3), (.slice a4 m5 c6)])] : List Value).toArray w fun e w' => ∃ v, e = .returned v ∧ R v w' :=
  fnW_calls tysOk fnsOk follows Tryz.func15 (by kernel_rfl) Nodes.ok (by kernel_rfl) (Nodes.eq b1 n2 s3 a4 m5 c6 w R ▸ h)
end Go.Proofs.YtgjifgjjcaohoaaGreatDoor.Vd
end

/- part Z4S -/
section
namespace Go.Proofs.YtgjifgjjcaohoaaGreatDoor.Vd
open Go.Vx Go.Vx.Da Go.RowKit

theorem Nodes_spec : ∀ (k : Nat) (d : D), SizeOf.sizeOf d < k → ∀ (B : Nat) (w : World) (vs : List Value), Rep B w d vs → B ≤ w.heap.size →
    Calls Tryz.prog 15 #[.agg vs.toArray] w fun e w' => e = .returned (.int .i64 (min (nodes d : Int) 4097)) ∧ Below w.heap.size w w' := by
  intro k
  induction k with
  | zero => intro d h; omega
  | succ k ih =>
  intro d hk B w vs hr hB
  obtain ⟨a, m, cs, rfl, hm, ha, hrs⟩ := hr.form
  refine (Nodes.calls (R := fun v w' => v = .int .i64 (min (nodes d : Int) 4097) ∧ Below w.heap.size w w') ?_).mono (fun e w' ⟨v, h1, h2, h3⟩ => ⟨by rw [h1, h2], h3⟩)
  unfold Nodes.W
  refine box fun w7 at7 hb7 hs7 => ?_
  refine ⟨_, cell_of_block at7 rfl, ifB (fun hc => ?_) (fun hc => ?_)⟩
  · refine ⟨_, _, _, cell_of_block at7 rfl, fun us w2 => ∃ j : Nat, j ≤ d.args.length ∧ us = [.int .i64 (1 + nodesL (d.args.take j)), .int .i64 j] ∧ 1 + nodesL (d.args.take j) ≤ 4096 ∧ Below w.heap.size w w2,
      fun us _ => match us with | [_, .int _ j] => d.args.length - j.toNat | _ => 0, ⟨0, Nat.zero_le _, rfl, by simp [nodesL], hb7⟩, ?_⟩
    rintro _ us w14 ⟨j, hj, rfl, hn, hb14⟩
    refine ⟨_, _, rfl, ifD (fun hlt => ?_) (fun hge => ?_)⟩
    · have hlt' : j < d.args.length := by omega
      obtain ⟨b, o, rfl, hbB, hcells⟩ := ha j hlt'
      have hcells14 := cellsAt_below hb14 (by omega) hcells
      obtain ⟨a', m', cs', hcs', _⟩ := (hrs j hlt').form
      rw [hcs'] at hcells14
      refine ⟨b, o, rfl, by omega, hlt, _, _, _, _, _, _, hcells14, copyStep rfl rfl fun w28 at28 hb28 hs28 => ?_⟩
      refine ⟨_, _, _, _, _, _, cellsAt_of_block at28 [.bool d.args[j].ctor, .int .i64 d.args[j].int, .string d.args[j].name, .slice a' d.args[j].args.length m'] 0 rfl, ?_⟩
      have h14 := hb14.size
      have hrep : Rep B w28 d.args[j] [.bool d.args[j].ctor, .int .i64 d.args[j].int, .string d.args[j].name, .slice a' d.args[j].args.length m'] := hcs' ▸ ((hrs j hlt').kept hb14 hB).kept hb28 (by omega)
      refine (ih d.args[j] (by have := sizeOf_arg d j hlt'; omega) B w28 _ hrep (by omega)).mono ?_
      rintro e w35 ⟨rfl, hb35⟩
      refine ⟨_, rfl, ?_⟩
      have ht := nodesL_take d.args j hlt'
      have hp := nodes_pos d.args[j]
      have hjn := le_take d.args hj
      have hb35' : Below w.heap.size w w35 := (hb14.trans (hb28.mono h14)).trans (hb35.mono (by omega))
      rw [w64 (x := 1 + (nodesL (d.args.take j) : Int) + min (nodes d.args[j] : Int) 4097) (by omega) (by omega), w64 (x := (j : Int) + 1) (by omega) (by omega)]
      have hle := nodesL_take_le d.args (j + 1)
      refine ifD (fun hgt => ⟨?_, hb35'⟩) (fun hng => ?_)
      · rw [nodes_ctor hc]
        congr 1
        split at hgt <;> rename_i h9
        · rw [if_pos h9]; omega
        · rw [if_neg h9]; omega
      · have h9 : ¬ 4097 < 1 + (nodesL (d.args.take j) : Int) + min (nodes d.args[j] : Int) 4097 := by
          intro h9; rw [if_pos h9] at hng; omega
        rw [if_neg h9] at hng ⊢
        have e1 : (1 + (nodesL (d.args.take j) : Int) + min (nodes d.args[j] : Int) 4097) = 1 + (nodesL (d.args.take (j + 1)) : Int) := by omega
        refine ⟨⟨j + 1, hlt', by rw [e1]; rfl, by omega, hb35'⟩, ?_⟩
        simp only [Int.toNat_natCast]; omega
    · have : j = d.args.length := by omega
      subst this
      rw [List.take_length] at hn ⊢
      exact ⟨by rw [nodes_ctor hc]; congr 1; omega, hb14⟩
  · exact ⟨by rw [nodes_int hc]; rfl, hb7⟩


/-- one round of a loop over the arguments: the element's cells -/
theorem arg_at {B : Nat} {w w14 : World} {d : D} {a : Option Addr} {cs : Nat → List Value} (hB : B ≤ w.heap.size) (hb14 : Below w.heap.size w w14) (ha : ∀ j, j < d.args.length → ∃ b o, a = some ⟨b, o, none⟩ ∧ b < B ∧ cellsAt w b (o + j * 4) (cs j))
    (hrs : ∀ j (h : j < d.args.length), Rep B w d.args[j] (cs j)) {j : Nat} (hlt : j < d.args.length) :
    ∃ b o a' m', a = some ⟨b, o, none⟩ ∧ cellsAt w14 b (o + j * 4) [.bool d.args[j].ctor, .int .i64 d.args[j].int, .string d.args[j].name, .slice a' d.args[j].args.length m'] ∧
      Rep B w14 d.args[j] [.bool d.args[j].ctor, .int .i64 d.args[j].int, .string d.args[j].name, .slice a' d.args[j].args.length m'] := by
  obtain ⟨b, o, rfl, hbB, hcells⟩ := ha j hlt
  have hcells14 := cellsAt_below hb14 (by omega) hcells
  obtain ⟨a', m', cs', hcs', _⟩ := (hrs j hlt).form
  have hr := (hrs j hlt).kept hb14 hB
  rw [hcs'] at hcells14 hr
  exact ⟨b, o, a', m', rfl, hcells14, hr⟩

theorem depthL_take_le (l : List D) (j : Nat) : depthL (l.take j) ≤ depthL l := by
  induction l generalizing j with
  | nil => simp [depthL]
  | cons a r ih =>
    cases j with
    | zero => simp [depthL]
    | succ j => have := ih j; simp only [List.take_succ_cons, depthL]; omega

def mOk (p q : Int) (d : D) : Bool := decide (q + nodes d ≤ 4096 ∧ p + depth d ≤ 201)

theorem measure_spec : ∀ (k : Nat) (d : D), SizeOf.sizeOf d < k → ∀ (B : Nat) (w : World) (vs : List Value) (p q : Int), Rep B w d vs → B ≤ w.heap.size → 1 ≤ p → p ≤ 201 → 0 ≤ q → q ≤ 4096 →
    Calls Tryz.prog 28 #[.agg vs.toArray, .int .i64 p, .int .i64 q] w fun e w' => ∃ r : Int, e = .returned (.tuple #[.int .i64 r, .bool (mOk p q d)]) ∧ (mOk p q d = true → r = q + nodes d) ∧ Below w.heap.size w w' := by
  intro k
  induction k with
  | zero => intro d h; omega
  | succ k ih =>
  intro d hk B w vs p q hr hB hp0 hp1 hq0 hq1
  obtain ⟨a, m, cs, rfl, hm, ha, hrs⟩ := hr.form
  refine (measure.calls (R := fun v w' => ∃ r : Int, v = .tuple #[.int .i64 r, .bool (mOk p q d)] ∧ (mOk p q d = true → r = q + nodes d) ∧ Below w.heap.size w w') ?_).mono (fun e w' ⟨v, h1, r, h2, h3⟩ => ⟨r, by rw [h1, h2], h3⟩)
  unfold measure.W
  have hn0 := nodes_pos d
  have hd0 : 1 ≤ depth d := by cases hc : d.ctor with
    | true => rw [depth_ctor hc]; omega
    | false => rw [depth_int hc]; exact Nat.le_refl _
  refine box fun w9 at9 hb9 hs9 => ?_
  rw [w64 (x := q + 1) (by omega) (by omega)]
  have no : mOk p q d = false → ∀ w' r, Below w.heap.size w w' → ∃ r' : Int, (Value.tuple #[.int .i64 r, .bool false]) = .tuple #[.int .i64 r', .bool (mOk p q d)] ∧ (mOk p q d = true → r' = q + nodes d) ∧ Below w.heap.size w w' :=
    fun hno w' r hb => ⟨r, by rw [hno], ⟨fun h => absurd (hno.symm.trans h) (by decide), hb⟩⟩
  refine ifD (fun h => no (by simp [mOk]; omega) _ _ hb9) (fun hp => ?_)
  refine ifD (fun h => no (by simp [mOk]; omega) _ _ hb9) (fun hq => ?_)
  refine ⟨_, cell_of_block at9 rfl, ifN (fun hc => ?_) (fun hc => ?_)⟩
  · have hn := nodes_int hc; have hd := depth_int hc
    have hok : mOk p q d = true := by simp only [mOk, hn, hd]; exact decide_eq_true (by omega)
    exact ⟨_, by rw [hok], fun _ => by rw [hn]; rfl, hb9⟩
  · have hn := nodes_ctor hc; have hd := depth_ctor hc
    refine ⟨_, _, _, cell_of_block at9 rfl, fun us w2 => ∃ j : Nat, j ≤ d.args.length ∧ us = [.int .i64 (q + 1 + nodesL (d.args.take j)), .int .i64 j] ∧ q + 1 + nodesL (d.args.take j) ≤ 4096 ∧ p + 1 + depthL (d.args.take j) ≤ 201 ∧ Below w.heap.size w w2,
      fun us _ => match us with | [_, .int _ j] => d.args.length - j.toNat | _ => 0, ⟨0, Nat.zero_le _, by simp [nodesL], by simp [nodesL]; omega, by simp [depthL]; omega, hb9⟩, ?_⟩
    rintro _ us w14 ⟨j, hj, rfl, hq2, hp2, hb14⟩
    refine ⟨_, _, rfl, ifD (fun hlt => ?_) (fun hge => ?_)⟩
    · have hlt' : j < d.args.length := by omega
      obtain ⟨b, o, a', m', rfl, hc14, hr14⟩ := arg_at hB hb14 ha hrs hlt'
      have h14 := hb14.size
      have ht := nodesL_take d.args j hlt'
      have hdt := depthL_take d.args j hlt'
      have hjn := le_take d.args hj
      have hle := nodesL_take_le d.args (j + 1)
      have hdle := depthL_take_le d.args (j + 1)
      refine ⟨b, o, rfl, by omega, hlt, _, _, _, _, _, _, hc14, copyStep rfl rfl fun w28 at28 hb28 hs28 => ?_⟩
      refine ⟨_, _, _, _, _, _, cellsAt_of_block at28 [.bool d.args[j].ctor, .int .i64 d.args[j].int, .string d.args[j].name, .slice a' d.args[j].args.length m'] 0 rfl, ?_⟩
      rw [w64 (x := p + 1) (by omega) (by omega)]
      refine (ih d.args[j] (by have := sizeOf_arg d j hlt'; omega) B w28 _ (p + 1) (q + 1 + nodesL (d.args.take j)) (hr14.kept hb28 (by omega)) (by omega) (by omega) (by omega) (by omega) hq2).mono ?_
      rintro e w35 ⟨r, rfl, hr35, hb35⟩
      refine ⟨_, _, rfl, ?_⟩
      have hb35' : Below w.heap.size w w35 := (hb14.trans (hb28.mono h14)).trans (hb35.mono (by omega))
      refine ifN (fun hno => ?_) (fun hyes => ?_)
      · refine no ?_ _ _ hb35'
        simp only [mOk, decide_eq_false_iff_not, not_and] at hno ⊢
        intro h1
        by_cases h2 : q + 1 + (nodesL (d.args.take j) : Int) + nodes d.args[j] ≤ 4096
        · have := hno h2; omega
        · omega
      · have hv := hr35 hyes
        simp only [mOk, decide_eq_true_eq] at hyes
        rw [w64 (x := (j : Int) + 1) (by omega) (by omega), hv]
        refine ⟨⟨j + 1, hlt', ?_, by omega, by omega, hb35'⟩, ?_⟩
        · have e1 : q + 1 + (nodesL (d.args.take j) : Int) + nodes d.args[j] = q + 1 + (nodesL (d.args.take (j + 1)) : Int) := by omega
          rw [e1]; rfl
        · simp only [Int.toNat_natCast]; omega
    · have : j = d.args.length := by omega
      subst this
      rw [List.take_length] at hq2 hp2 ⊢
      have hok : mOk p q d = true := by simp only [mOk, hn, hd]; exact decide_eq_true (by omega)
      exact ⟨_, by rw [hok], fun _ => by rw [hn]; omega, hb14⟩

def good (d : D) : Bool := decide (nodes d ≤ 4096 ∧ depth d ≤ 200)
theorem mOk_good (d : D) : mOk 1 0 d = good d := by
  unfold mOk good
  by_cases h : nodes d ≤ 4096 ∧ depth d ≤ 200
  · rw [decide_eq_true h, decide_eq_true (by omega)]
  · rw [decide_eq_false h, decide_eq_false (by omega)]

theorem Good_spec (d : D) (B : Nat) (w : World) (vs : List Value) (hr : Rep B w d vs) (hB : B ≤ w.heap.size) :
    Calls Tryz.prog 13 #[.agg vs.toArray] w fun e w' => e = .returned (.bool (good d)) ∧ Below w.heap.size w w' := by
  obtain ⟨a, m, cs, rfl, hm, ha, hrs⟩ := hr.form
  refine (Good.calls (R := fun v w' => v = .bool (good d) ∧ Below w.heap.size w w') ?_).mono (fun e w' ⟨v, h1, h2, h3⟩ => ⟨by rw [h1, h2], h3⟩)
  unfold Good.W
  refine box fun w7 at7 hb7 hs7 => ?_
  refine ⟨_, _, _, _, _, _, cellsAt_of_block at7 [.bool d.ctor, .int .i64 d.int, .string d.name, .slice a d.args.length m] 0 rfl, ?_⟩
  refine (measure_spec _ d (Nat.lt_succ_self _) B w7 _ 1 0 (hr.kept hb7 hB) (by omega) (by omega) (by omega) (by omega) (by omega)).mono ?_
  rintro e w' ⟨r, rfl, _, hb⟩
  exact ⟨_, _, rfl, by rw [mOk_good], hb7.trans (hb.mono (by omega))⟩

/-- what the reference's count tells -/
def Cnt (d : D) (p n m : Int) : Prop := 1 ≤ n ∧ n ≤ 4097 ∧ p ≤ m ∧ m ≤ 201 ∧ (m ≤ 200 → n = min (nodes d : Int) 4097) ∧ (n ≤ 4096 → (m ≤ 200 ↔ p + depth d ≤ 201)) ∧ (201 ≤ m → 202 ≤ p + depth d)

theorem count_spec : ∀ (k : Nat) (d : D), SizeOf.sizeOf d < k → ∀ (B : Nat) (w : World) (vs : List Value) (p : Int), Rep B w d vs → B ≤ w.heap.size → 1 ≤ p → p ≤ 201 →
    Calls Tryz.prog 29 #[.agg vs.toArray, .int .i64 p] w fun e w' => ∃ n m : Int, e = .returned (.tuple #[.int .i64 n, .int .i64 m]) ∧ Cnt d p n m ∧ Below w.heap.size w w' := by
  intro k
  induction k with
  | zero => intro d h; omega
  | succ k ih =>
  intro d hk B w vs p hr hB hp0 hp1
  obtain ⟨a, m, cs, rfl, hm, ha, hrs⟩ := hr.form
  refine (count.calls (R := fun v w' => ∃ n m : Int, v = .tuple #[.int .i64 n, .int .i64 m] ∧ Cnt d p n m ∧ Below w.heap.size w w') ?_).mono (fun e w' ⟨v, h1, n, m, h2, h3⟩ => ⟨n, m, by rw [h1, h2], h3⟩)
  unfold count.W
  have hn0 := nodes_pos d
  have hd0 : 1 ≤ depth d := by cases hc : d.ctor with
    | true => rw [depth_ctor hc]; omega
    | false => rw [depth_int hc]; exact Nat.le_refl _
  refine box fun w9 at9 hb9 hs9 => ?_
  refine ifD (fun h => ⟨_, _, rfl, ⟨by omega, by omega, by omega, by omega, by omega, by omega, by omega⟩, hb9⟩) (fun hp => ?_)
  refine ⟨_, cell_of_block at9 rfl, ifN (fun hc => ?_) (fun hc => ?_)⟩
  · have hn := nodes_int hc; have hd := depth_int hc
    exact ⟨_, _, rfl, ⟨by omega, by omega, by omega, by omega, by omega, by omega, by omega⟩, hb9⟩
  · have hn := nodes_ctor hc; have hd := depth_ctor hc
    refine ⟨_, _, _, cell_of_block at9 rfl, fun us w2 => ∃ (j : Nat) (n m : Int), j ≤ d.args.length ∧ us = [.int .i64 n, .int .i64 m, .int .i64 j] ∧ 1 ≤ n ∧ n ≤ 4096 ∧ p ≤ m ∧ m ≤ 201 ∧ (m ≤ 200 → n = 1 + nodesL (d.args.take j)) ∧ j < n ∧
        (m ≤ 200 ↔ p + 1 + depthL (d.args.take j) ≤ 201) ∧ Below w.heap.size w w2,
      fun us _ => match us with | [_, _, .int _ j] => d.args.length - j.toNat | _ => 0, ⟨0, 1, p, Nat.zero_le _, rfl, by omega, by omega, by omega, by omega, by simp [nodesL], by omega, by simp [depthL]; omega, hb9⟩, ?_⟩
    rintro _ us w14 ⟨j, n, mm, hj, rfl, hn1, hn2, hm1, hm2, hmn, hjn, hmd, hb14⟩
    refine ⟨_, _, _, rfl, ifD (fun hlt => ?_) (fun hge => ?_)⟩
    · have hlt' : j < d.args.length := by omega
      obtain ⟨b, o, a', m', rfl, hc14, hr14⟩ := arg_at hB hb14 ha hrs hlt'
      have h14 := hb14.size
      have ht := nodesL_take d.args j hlt'
      have hdt := depthL_take d.args j hlt'
      have hle := nodesL_take_le d.args (j + 1)
      have hdle := depthL_take_le d.args (j + 1)
      refine ⟨b, o, rfl, by omega, hlt, _, _, _, _, _, _, hc14, copyStep rfl rfl fun w28 at28 hb28 hs28 => ?_⟩
      refine ⟨_, _, _, _, _, _, cellsAt_of_block at28 [.bool d.args[j].ctor, .int .i64 d.args[j].int, .string d.args[j].name, .slice a' d.args[j].args.length m'] 0 rfl, ?_⟩
      rw [w64 (x := p + 1) (by omega) (by omega)]
      refine (ih d.args[j] (by have := sizeOf_arg d j hlt'; omega) B w28 _ (p + 1) (hr14.kept hb28 (by omega)) (by omega) (by omega) (by omega)).mono ?_
      rintro e w35 ⟨r, dp, rfl, ⟨c1, c2, c3, c4, c5, c6, c7⟩, hb35⟩
      refine ⟨_, _, rfl, ?_⟩
      have hb35' : Below w.heap.size w w35 := (hb14.trans (hb28.mono h14)).trans (hb35.mono (by omega))
      rw [w64 (x := n + r) (by omega) (by omega), w64 (x := (j : Int) + 1) (by omega) (by omega)]
      have fin : ∀ mx : Int, mx = max mm dp → (n + r > 4096 → ∃ n m : Int, (Value.tuple #[.int .i64 4097, .int .i64 mx]) = .tuple #[.int .i64 n, .int .i64 m] ∧ Cnt d p n m ∧ Below w.heap.size w w35) := by
        rintro mx rfl hgt
        exact ⟨_, _, rfl, ⟨by omega, by omega, by omega, by omega, by omega, by omega, by omega⟩, hb35'⟩
      have go : ∀ mx : Int, mx = max mm dp → ¬ n + r > 4096 → (∃ (j' : Nat) (n' m' : Int), j' ≤ d.args.length ∧ [Value.int .i64 (n + r), .int .i64 mx, .int .i64 ((j : Int) + 1)] = [.int .i64 n', .int .i64 m', .int .i64 j'] ∧ 1 ≤ n' ∧ n' ≤ 4096 ∧ p ≤ m' ∧ m' ≤ 201 ∧ (m' ≤ 200 → n' = 1 + nodesL (d.args.take j')) ∧ j' < n' ∧
          (m' ≤ 200 ↔ p + 1 + depthL (d.args.take j') ≤ 201) ∧ Below w.heap.size w w35) ∧ d.args.length - ((j : Int) + 1).toNat < d.args.length - (j : Int).toNat := by
        rintro mx rfl hng
        refine ⟨⟨j + 1, _, _, hlt', rfl, by omega, by omega, by omega, by omega, by omega, by omega, by omega, hb35'⟩, by omega⟩
      refine ifD (fun h1 => ?_) (fun h1 => ?_)
      · refine ifD (fun h2 => fin _ (by omega) h2) (fun h2 => go _ (by omega) h2)
      · refine ifD (fun h2 => fin _ (by omega) h2) (fun h2 => go _ (by omega) h2)
    · have : j = d.args.length := by omega
      subst this
      rw [List.take_length] at hmn hmd
      exact ⟨_, _, rfl, ⟨by omega, by omega, by omega, by omega, by omega, by omega, by omega⟩, hb14⟩

theorem refGood_spec (d : D) (B : Nat) (w : World) (vs : List Value) (hr : Rep B w d vs) (hB : B ≤ w.heap.size) :
    Calls Tryz.prog 14 #[.agg vs.toArray] w fun e w' => e = .returned (.bool (good d)) ∧ Below w.heap.size w w' := by
  obtain ⟨a, m, cs, rfl, hm, ha, hrs⟩ := hr.form
  refine (refGood.calls (R := fun v w' => v = .bool (good d) ∧ Below w.heap.size w w') ?_).mono (fun e w' ⟨v, h1, h2, h3⟩ => ⟨by rw [h1, h2], h3⟩)
  unfold refGood.W
  refine box fun w7 at7 hb7 hs7 => ?_
  refine ⟨_, _, _, _, _, _, cellsAt_of_block at7 [.bool d.ctor, .int .i64 d.int, .string d.name, .slice a d.args.length m] 0 rfl, ?_⟩
  refine (count_spec _ d (Nat.lt_succ_self _) B w7 _ 1 (hr.kept hb7 hB) (by omega) (by omega) (by omega)).mono ?_
  rintro e w' ⟨n, mm, rfl, ⟨c1, c2, c3, c4, c5, c6, c7⟩, hb⟩
  have hb' := hb7.trans (hb.mono (by omega))
  refine ⟨_, _, rfl, ifD (fun h => ⟨?_, hb'⟩) (fun h => ⟨?_, hb'⟩)⟩
  · congr 1
    unfold good
    by_cases h2 : mm ≤ 200
    · rw [decide_eq_true h2, decide_eq_true]; omega
    · rw [decide_eq_false h2, decide_eq_false]; omega
  · congr 1
    unfold good
    rw [decide_eq_false]; omega

end Go.Proofs.YtgjifgjjcaohoaaGreatDoor.Vd
end

/- part Z4P -/
section
namespace Go.Vx.Da
open Go.RowKit

/-- byte j of a number -/
def ib (n : Int) (j : Nat) : UInt8 := UInt8.ofNat (((n % 18446744073709551616).toNat / 2 ^ (8 * j)) % 256)
def encI (n : Int) : List UInt8 := (List.range 8).map (ib n)

theorem ib_cell (n : Int) (j : Nat) (hj : j < 8) : IntKind.u8.wrap (Int.fdiv (IntKind.u64.wrap n) (2 ^ min ((8 * j : Nat) : Int).toNat IntKind.u64.bits)) = ((ib n j).toNat : Int) := by
  have h1 : min ((8 * j : Nat) : Int).toNat IntKind.u64.bits = 8 * j := by
    rw [Int.toNat_natCast]
    have : IntKind.u64.bits = 64 := rfl
    omega
  rw [h1, wu64_mod, w8_mod, Int.fdiv_eq_ediv_of_nonneg _ (Int.le_of_lt (Int.pow_pos (by decide)))]
  unfold ib
  rw [UInt8.toNat_ofNat_of_lt' (Nat.mod_lt _ (by decide))]
  have h2 : ((n % 18446744073709551616).toNat : Int) = n % 18446744073709551616 := Int.toNat_of_nonneg (Int.emod_nonneg _ (by decide))
  rw [Int.natCast_emod, Int.natCast_ediv, h2, Int.natCast_pow]
  rfl

mutual
def enc : D → Option (List UInt8)
  | ⟨c, i, s, ys⟩ => match c with
    | false => some (0 :: encI i)
    | true => if 1 ≤ s.size ∧ s.size ≤ 32 ∧ ys.length ≤ 8 then (match encL ys with
      | some r => some ([1, UInt8.ofNat s.size] ++ s.data.toList ++ [UInt8.ofNat ys.length] ++ r)
      | none => none) else none
def encL : List D → Option (List UInt8)
  | [] => some []
  | a :: r => match enc a with
    | some x => match encL r with
      | some y => some (x ++ y)
      | none => none
    | none => none
end

theorem enc_int {d : D} (h : d.ctor = false) : enc d = some (0 :: encI d.int) := by
  obtain ⟨c, i, s, ys⟩ := d
  subst h
  rfl
theorem enc_ctor {d : D} (h : d.ctor = true) : enc d = if 1 ≤ d.name.size ∧ d.name.size ≤ 32 ∧ d.args.length ≤ 8 then (match encL d.args with
      | some r => some ([1, UInt8.ofNat d.name.size] ++ d.name.data.toList ++ [UInt8.ofNat d.args.length] ++ r)
      | none => none) else none := by
  obtain ⟨c, i, s, ys⟩ := d
  subst h
  rfl

theorem encL_take_some : ∀ (l : List D) (j : Nat) (h : j < l.length) (r x : List UInt8), encL (l.take j) = some r → enc l[j] = some x → encL (l.take (j + 1)) = some (r ++ x)
  | a :: l, 0, _, r, x, h1, h2 => by
    simp only [List.take_zero, encL, Option.some.injEq] at h1
    subst h1
    simp only [List.getElem_cons_zero] at h2
    simp [encL, h2]
  | a :: l, j + 1, h, r, x, h1, h2 => by
    simp only [List.take_succ_cons, encL] at h1 ⊢
    cases ha : enc a with
    | none => rw [ha] at h1; cases h1
    | some y =>
      rw [ha] at h1
      dsimp only at h1 ⊢
      cases hl : encL (l.take j) with
      | none => rw [hl] at h1; cases h1
      | some z =>
        rw [hl] at h1
        cases h1
        rw [encL_take_some l j (by simpa using h) z x hl h2]
        simp

theorem encL_none : ∀ (l : List D) (j : Nat) (h : j < l.length), enc l[j] = none → encL l = none
  | a :: l, 0, _, h2 => by
    simp only [List.getElem_cons_zero] at h2
    simp [encL, h2]
  | a :: l, j + 1, h, h2 => by
    have := encL_none l j (by simpa using h) h2
    simp only [encL, this]
    cases enc a <;> rfl

theorem encI_length (n : Int) : (encI n).length = 8 := by simp [encI]

theorem enc_length : ∀ (k : Nat) (d : D), SizeOf.sizeOf d < k → ∀ bs, enc d = some bs → bs.length ≤ 35 * nodes d := by
  intro k
  induction k with
  | zero => intro d h; omega
  | succ k ih =>
    intro d hk bs h
    cases hc : d.ctor with
    | false =>
      rw [enc_int hc] at h
      cases h
      rw [nodes_int hc]
      simp [encI_length]
    | true =>
      rw [enc_ctor hc] at h
      rw [nodes_ctor hc]
      split at h
      · rename_i hs
        cases hl : encL d.args with
        | none => rw [hl] at h; cases h
        | some r =>
          rw [hl] at h
          cases h
          have hr : ∀ (l : List D), (∀ a ∈ l, a ∈ d.args) → ∀ r, encL l = some r → r.length ≤ 35 * nodesL l := by
            intro l
            induction l with
            | nil => intro _ r hr; simp only [encL, Option.some.injEq] at hr; subst hr; simp
            | cons a l ihl =>
              intro hm r hr
              simp only [encL] at hr
              cases ha : enc a with
              | none => rw [ha] at hr; cases hr
              | some x =>
                rw [ha] at hr
                dsimp only at hr
                cases hl : encL l with
                | none => rw [hl] at hr; cases hr
                | some y =>
                  rw [hl] at hr
                  cases hr
                  have h1 := ihl (fun b hb => hm b (by simp [hb])) y hl
                  have h2 : SizeOf.sizeOf a < SizeOf.sizeOf d := by
                    obtain ⟨j, hj, he⟩ := List.getElem_of_mem (hm a (by simp))
                    rw [← he]; exact sizeOf_arg d j hj
                  have h3 := ih a (by omega) x ha
                  simp only [nodesL, List.length_append]
                  omega
          have := hr d.args (fun _ h => h) r hl
          have e1 : d.name.data.toList.length = d.name.size := by simp
          simp only [List.length_append, List.length_cons, List.length_nil, e1]
          omega
      · cases h

end Go.Vx.Da

namespace Go.Proofs.YtgjifgjjcaohoaaGreatDoor.Vd
open Go.Vx Go.Vx.Da Go.RowKit

theorem zero5 : (Tryz.prog.info? 5).bind (·.zero) = some (.int .u8 0) := by kernel_rfl

/-- what 'put' comes to -/
def PutPost (base : Nat) (w : World) (v : Value) (n : Nat) (xs : List Value) (d : D) (vE : Value) (e : Ending) (w' : World) : Prop :=
  w.grownBy w' v.ownBlock ∧ ((∃ bs a k c, enc d = some bs ∧ e = .returned (.tuple #[.slice a k c, .nilIface]) ∧ k = n + bs.length ∧ w'.ownsRow base 5 1 (.slice a k c) k (xs ++ bv bs) ∧ Nxt w.heap.size v (.slice a k c)) ∨
    (enc d = none ∧ e = .returned (.tuple #[.slice none 0 0, vE])))

theorem put_spec (tE : Nat) (xE : Value) : ∀ (k : Nat) (d : D), SizeOf.sizeOf d < k → ∀ (B base : Nat) (w : World) (vs : List Value) (a : Option Addr) (n c : Nat) (xs : List Value), Rep B w d vs → B ≤ base → base ≤ w.heap.size →
    w.ownsRow base 5 1 (.slice a n c) n xs → n + 35 * nodes d ≤ 1000000 → w.cell? ⟨1, 0, none⟩ = some (.iface tE xE) → 1 < base →
    Calls Tryz.prog 26 #[.slice a n c, .agg vs.toArray] w fun e w' => PutPost base w (.slice a n c) n xs d (.iface tE xE) e w' := by
  intro k
  induction k with
  | zero => intro d h; omega
  | succ k ih =>
  intro d hk B base w vs a0 n c xs hr hB hbase hown hsz hE h2b
  obtain ⟨a, m, cs, rfl, hm, ha, hrs⟩ := hr.form
  refine (put.calls (R := fun v w' => PutPost base w (.slice a0 n c) n xs d (.iface tE xE) (.returned v) w') ?_).mono (fun e w' ⟨v, h1, h2⟩ => h1 ▸ h2)
  unfold put.W
  have hn0 := nodes_pos d
  refine box fun w10 at10 hb10 hs10 => ?_
  have own10 := own_below hown hb10 (Nat.le_refl _)
  have hne : some w.heap.size ≠ (Value.slice a0 n c).ownBlock := own_ne hown (Nat.le_refl _)
  refine ⟨_, cell_of_block at10 rfl, ifN (fun hc => ?_) (fun hc => ?_)⟩
  · -- a number
    rw [nodes_int hc] at hsz
    refine box fun w12 at12 hb12 hs12 => ?_
    have own12 := own_below own10 hb12 (Nat.le_refl _)
    obtain ⟨a16, k16, d16, w16, hr16, rfl, own16, hg16, hx16⟩ := append_own (P := Tryz.prog) (ty := 37) ty37 rfl ty5 (by decide) own12 (m := 1) (c := 1) (news := [.int .u8 0]) rfl (cellsAt_of_block at12 [.int .u8 0] 0 rfl) rfl (by dsimp only; omega) (by omega) (by omega)
    refine ⟨a16, _, d16, w16, hr16, ?_⟩
    have hw12 : Below w.heap.size w w12 := hb10.trans (hb12.mono (by omega))
    have G16 : w.grownBy w16 (Value.slice a0 n c).ownBlock := then_grown hw12 hg16
    have at12' : w12.heap[w.heap.size]? = _ := block_below hb12 (by omega) at10
    have at16 := grown_block hg16 at12' hne
    refine ⟨fun us w2 => ∃ (j : Nat) (a2 : Option Addr) (k2 c2 : Nat), j ≤ 8 ∧ us = [.slice a2 k2 c2, .int .i64 (8 * j : Nat)] ∧ k2 = n + 1 + j ∧ w2.ownsRow base 5 1 (.slice a2 k2 c2) k2 (xs ++ bv (0 :: (encI d.int).take j)) ∧ w.grownBy w2 (Value.slice a0 n c).ownBlock ∧
        Nxt w.heap.size (.slice a0 n c) (.slice a2 k2 c2) ∧ w2.heap[w.heap.size]? = some (.cells #[.bool d.ctor, .int .i64 d.int, .string d.name, .slice a d.args.length m] 25 (0, 0)),
      fun us _ => match us with | [_, .int _ j] => 64 - j.toNat | _ => 0, ⟨0, a16, _, d16, by omega, rfl, rfl, own16, G16, hx16.elim (fun h => .inl h) (fun ⟨k, h1, h2⟩ => .inr ⟨k, by omega, h2⟩), at16⟩, ?_⟩
    rintro _ us w19 ⟨j, a2, k2, c2, hj, rfl, rfl, own19, G19, hx19, at19⟩
    refine ⟨_, _, _, _, rfl, ifD (fun hlt => ?_) (fun hge => ?_)⟩
    · have hj8 : j < 8 := by omega
      refine ⟨_, cell_of_block at19 rfl, by omega, ?_⟩
      rw [ib_cell d.int j hj8]
      refine box fun w27 at27 hb27 hs27 => ?_
      have own27 := own_below own19 hb27 (Nat.le_refl _)
      have hsz19 := G19.size
      obtain ⟨a31, k31, d31, w31, hr31, rfl, own31, hg31, hx31⟩ := append_own (P := Tryz.prog) (ty := 37) ty37 rfl ty5 (by decide) own27 (m := 1) (c := 1) (news := [.int .u8 ((ib d.int j).toNat : Int)]) rfl (cellsAt_of_block at27 [.int .u8 ((ib d.int j).toNat : Int)] 0 rfl) rfl (by dsimp only; omega) (by omega) (by omega)
      refine ⟨a31, _, d31, w31, hr31, ?_⟩
      have hx31' : Nxt w.heap.size (.slice a0 n c) (.slice a31 (n + 1 + j + 1) d31) := hx19.trans hx31 (by omega)
      have hgr : w19.grownBy w31 (Value.slice a2 (n + 1 + j) c2).ownBlock := then_grown hb27 hg31
      have G31 := grown_next G19 hgr hx19
      have at31 : w31.heap[w.heap.size]? = _ := grown_block hgr at19 (by
        rcases hx19 with h | ⟨q, h1, h2⟩
        · rw [h]; exact hne
        · have := own_ne own19 (b := q)
          intro he
          rw [h2] at he
          have := Option.some.inj he
          subst this
          obtain ⟨_, ⟨h3, _⟩ | ⟨g, cap, cur, h3, _, h4, _⟩⟩ := own19
          · rw [h3] at h2; cases h2
          · rw [h3] at h2; have := Option.some.inj h2; subst this; rw [at19] at h4; cases h4)
      rw [w64 (x := ((8 * j : Nat) : Int) + 8) (by omega) (by omega)]
      refine ⟨⟨j + 1, a31, _, d31, by omega, ?_, rfl, ?_, G31, hx31', at31⟩, ?_⟩
      · congr 2
      · have e1 : (encI d.int).take (j + 1) = (encI d.int).take j ++ [ib d.int j] := by
          rw [List.take_add_one]
          rw [show (encI d.int)[j]?.toList = [ib d.int j] by simp [encI, hj8]]
        have e2 : xs ++ bv (0 :: (encI d.int).take (j + 1)) = xs ++ bv (0 :: (encI d.int).take j) ++ [.int .u8 ((ib d.int j).toNat : Int)] := by
          rw [e1]; simp [bv]
        rw [e2]; exact own31
      · simp only [Int.toNat_natCast]; omega
    · have : j = 8 := by omega
      subst this
      have e1 : (encI d.int).take 8 = encI d.int := List.take_of_length_le (by rw [encI_length]; exact Nat.le_refl _)
      rw [e1] at own19
      exact ⟨G19, .inl ⟨_, a2, _, c2, enc_int hc, rfl, by simp [encI_length], own19, hx19⟩⟩
  · -- a constructor
    have hnn := nodes_ctor hc
    have henc := enc_ctor hc
    rw [hnn] at hsz
    have cE : ∀ w', Below w10.heap.size w10 w' → w'.cell? ⟨1, 0, none⟩ = some (.iface tE xE) := fun w' hb => cell_below (hb10.trans (hb.mono (by omega))) (by omega) hE
    have fail : ∀ w', Below w10.heap.size w10 w' → ¬ (1 ≤ d.name.size ∧ d.name.size ≤ 32 ∧ d.args.length ≤ 8) → PutPost base w (.slice a0 n c) n xs d (.iface tE xE) (.returned (.tuple #[.slice none 0 0, .iface tE xE])) w' :=
      fun w' hb hno => ⟨grown_below (hb10.trans (hb.mono (by omega))), .inr ⟨by rw [henc, if_neg hno], rfl⟩⟩
    refine ⟨_, cell_of_block at10 rfl, ifD (fun h => ?_) (fun hs1 => ?_)⟩
    · exact drewStep fun w33 _ hb33 => ⟨_, cE _ hb33, fail _ hb33 (by omega)⟩
    refine ⟨_, cell_of_block at10 rfl, ifD (fun h => ?_) (fun hs2 => ?_)⟩
    · exact drewStep fun w33 _ hb33 => ⟨_, cE _ hb33, fail _ hb33 (by omega)⟩
    refine ⟨_, _, _, cell_of_block at10 rfl, ifD (fun h => ?_) (fun hs3 => ?_)⟩
    · exact drewStep fun w33 _ hb33 => ⟨_, cE _ hb33, fail _ hb33 (by omega)⟩
    have hok : 1 ≤ d.name.size ∧ d.name.size ≤ 32 ∧ d.args.length ≤ 8 := by omega
    rw [if_pos hok] at henc
    refine ⟨_, cell_of_block at10 rfl, box fun w44 at44 hb44 hs44 => ?_⟩
    rw [w8 (x := (d.name.size : Int)) (by omega) (by omega)] at at44
    have own44 := own_below own10 hb44 (Nat.le_refl _)
    obtain ⟨a48, k48, d48, w48, hr48, rfl, own48, hg48, hx48⟩ := append_own (P := Tryz.prog) (ty := 37) ty37 rfl ty5 (by decide) own44 (m := 2) (c := 2) (news := [.int .u8 1, .int .u8 (d.name.size : Int)]) rfl (cellsAt_of_block at44 [.int .u8 1, .int .u8 (d.name.size : Int)] 0 rfl) rfl (by dsimp only; omega) (by omega) (by omega)
    refine ⟨a48, _, d48, w48, hr48, ?_⟩
    have at44' : w44.heap[w.heap.size]? = _ := block_below hb44 (by omega) at10
    have at48 := grown_block hg48 at44' hne
    have G48 : w.grownBy w48 (Value.slice a0 n c).ownBlock := then_grown (hb10.trans (hb44.mono (by omega))) hg48
    have X48 : Nxt w.heap.size (.slice a0 n c) (.slice a48 (n + 2) d48) := hx48.elim (fun h => .inl h) (fun ⟨k, h1, h2⟩ => .inr ⟨k, by omega, h2⟩)
    refine ⟨_, cell_of_block at48 rfl, ?_⟩
    -- the block of the parameter is no row of bytes
    have par : ∀ {w2 : World} {v2 : Value} {n2 : Nat} {xs2 : List Value}, w2.ownsRow base 5 1 v2 n2 xs2 → w2.heap[w.heap.size]? = some (.cells #[.bool d.ctor, .int .i64 d.int, .string d.name, .slice a d.args.length m] 25 (0, 0)) → some w.heap.size ≠ v2.ownBlock := by
      intro w2 v2 n2 xs2 ho hat he
      obtain ⟨_, ⟨rfl, _⟩ | ⟨g, cap, cur, rfl, _, h4, _⟩⟩ := ho
      · cases he
      · have := Option.some.inj he
        change w.heap.size = g at this
        rw [← this, hat] at h4
        cases h4
    have hs48 := G48.size
    obtain ⟨a53, k53, d53, w53, hr53, rfl, own53, hg53, hx53⟩ := append_str (P := Tryz.prog) (ty := 37) ty37 rfl ty9 rfl ty5 zero5 rfl rfl own48 d.name (by omega) (by omega)
    refine ⟨a53, _, d53, w53, hr53, ?_⟩
    have at53 := grown_block hg53 at48 (par own48 at48)
    have G53 := grown_next G48 hg53 X48
    have X53 := X48.trans hx53 (by omega)
    have hs53 := G53.size
    refine ⟨_, _, _, cell_of_block at53 rfl, box fun w57 at57 hb57 hs57 => ?_⟩
    rw [w8 (x := (d.args.length : Int)) (by omega) (by omega)] at at57
    have own57 := own_below own53 hb57 (Nat.le_refl _)
    obtain ⟨a61, k61, d61, w61, hr61, rfl, own61, hg61, hx61⟩ := append_own (P := Tryz.prog) (ty := 37) ty37 rfl ty5 (by decide) own57 (m := 1) (c := 1) (news := [.int .u8 (d.args.length : Int)]) rfl (cellsAt_of_block at57 [.int .u8 (d.args.length : Int)] 0 rfl) rfl (by dsimp only; omega) (by omega) (by omega)
    refine ⟨a61, _, d61, w61, hr61, ?_⟩
    have at57' : w57.heap[w.heap.size]? = _ := block_below hb57 (by
      rcases Nat.lt_or_ge w.heap.size w53.heap.size with h | h
      · exact h
      · rw [Array.getElem?_eq_none h] at at53; cases at53) at53
    have at61 := grown_block hg61 at57' (par own57 at57')
    have hg61' : w53.grownBy w61 (Value.slice a53 (n + 2 + d.name.size) d53).ownBlock := then_grown hb57 hg61
    have G61 := grown_next G53 hg61' X53
    have X61 := X53.trans hx61 (by omega)
    refine ⟨_, _, _, cell_of_block at61 rfl, ?_⟩
    refine ⟨fun us w2 => ∃ (j : Nat) (a2 : Option Addr) (k2 c2 : Nat) (r : List UInt8), j ≤ d.args.length ∧ us = [.slice a2 k2 c2, .int .i64 (j : Nat)] ∧ encL (d.args.take j) = some r ∧ k2 = n + 3 + d.name.size + r.length ∧ r.length ≤ 35 * nodesL (d.args.take j) ∧
        w2.ownsRow base 5 1 (.slice a2 k2 c2) k2 (xs ++ bv ([1, UInt8.ofNat d.name.size] ++ d.name.data.toList ++ [UInt8.ofNat d.args.length] ++ r)) ∧ w.grownBy w2 (Value.slice a0 n c).ownBlock ∧
        Nxt w.heap.size (.slice a0 n c) (.slice a2 k2 c2) ∧ w2.heap[w.heap.size]? = some (.cells #[.bool d.ctor, .int .i64 d.int, .string d.name, .slice a d.args.length m] 25 (0, 0)),
      fun us _ => match us with | [_, .int _ j] => d.args.length - j.toNat | _ => 0, ⟨0, a61, _, d61, [], by omega, rfl, rfl, by simp; omega, by simp, ?_, G61, X61, at61⟩, ?_⟩
    · have e1 : (n + 2 + d.name.size + 1) = n + 3 + d.name.size + ([] : List UInt8).length := by simp; omega
      have e2 : xs ++ [.int .u8 1, .int .u8 (d.name.size : Int)] ++ Lib.strCells d.name ++ [.int .u8 (d.args.length : Int)] = xs ++ bv ([1, UInt8.ofNat d.name.size] ++ d.name.data.toList ++ [UInt8.ofNat d.args.length] ++ []) := by
        have u1 : (UInt8.ofNat d.name.size).toNat = d.name.size := UInt8.toNat_ofNat_of_lt' (show _ < 256 by omega)
        have u2 : (UInt8.ofNat d.args.length).toNat = d.args.length := UInt8.toNat_ofNat_of_lt' (show _ < 256 by omega)
        have u3 : (1 : UInt8).toNat = 1 := rfl
        rw [strCells_bv]
        simp only [bv, List.append_nil, List.map_append, List.map_cons, List.map_nil, u1, u2, u3, List.append_assoc]
        rfl
      rw [← e2]
      exact own61
    rintro _ us w67 ⟨j, a2, k2, c2, r, hj, rfl, hej, rfl, hrl, own67, G67, X67, at67⟩
    refine ⟨_, _, _, _, rfl, ifD (fun hlt => ?_) (fun hge => ?_)⟩
    · have hlt' : j < d.args.length := by omega
      have hs67 := G67.size
      have hbB : Below base w w67 := own_grown hown G67 (Nat.le_refl _) hbase
      obtain ⟨b, o, rfl, hbl, hcells⟩ := ha j hlt'
      obtain ⟨a', m', cs', hcs', _⟩ := (hrs j hlt').form
      have hc67 := cellsAt_below hbB (by omega) hcells
      have hr67 := (hrs j hlt').kept hbB hB
      rw [hcs'] at hc67 hr67
      have ht := nodesL_take d.args j hlt'
      have hle := nodesL_take_le d.args (j + 1)
      refine ⟨b, o, rfl, by omega, hlt, _, _, _, _, _, _, hc67, copyStep rfl rfl fun w83 at83 hb83 hs83 => ?_⟩
      refine ⟨_, _, _, _, _, _, cellsAt_of_block at83 [.bool d.args[j].ctor, .int .i64 d.args[j].int, .string d.args[j].name, .slice a' d.args[j].args.length m'] 0 rfl, ?_⟩
      have own83 := own_below own67 hb83 (Nat.le_refl _)
      have at83' : w83.heap[w.heap.size]? = _ := block_below hb83 (by
        rcases Nat.lt_or_ge w.heap.size w67.heap.size with h | h
        · exact h
        · rw [Array.getElem?_eq_none h] at at67; cases at67) at67
      refine (ih d.args[j] (by have := sizeOf_arg d j hlt'; omega) B base w83 _ a2 _ c2 _ (hr67.kept hb83 (by omega)) hB (by omega) own83 (by omega) (cell_below (hbB.trans (hb83.mono (by omega))) h2b hE) h2b).mono ?_
      rintro e w90 ⟨hg90, hpost⟩
      have hg90' : w67.grownBy w90 (Value.slice a2 (n + 3 + d.name.size + r.length) c2).ownBlock := then_grown hb83 hg90
      have G90 := grown_next G67 hg90' X67
      rcases hpost with ⟨bs, a92, k92, c92, heb, rfl, rfl, own90, X90⟩ | ⟨heb, rfl⟩
      · refine ⟨_, _, _, _, rfl, true, .inl ⟨rfl, rfl⟩, ?_⟩
        have at90 := grown_block hg90 at83' (par own83 at83')
        have hlen := enc_length _ d.args[j] (Nat.lt_succ_self _) bs heb
        show _ ∧ _
        rw [w64 (x := (j : Int) + 1) (by omega) (by omega)]
        refine ⟨⟨j + 1, a92, _, c92, r ++ bs, hlt', rfl, encL_take_some d.args j hlt' r bs hej heb, by simp; omega, by simp; omega, ?_, G90, X67.trans X90 (by omega), at90⟩, ?_⟩
        · have e2 : xs ++ bv ([1, UInt8.ofNat d.name.size] ++ d.name.data.toList ++ [UInt8.ofNat d.args.length] ++ (r ++ bs)) = xs ++ bv ([1, UInt8.ofNat d.name.size] ++ d.name.data.toList ++ [UInt8.ofNat d.args.length] ++ r) ++ bv bs := by
            rw [← List.append_assoc _ r bs, bv_append (_ ++ r) bs, ← List.append_assoc]
          rw [e2]; exact own90
        · simp only [Int.toNat_natCast]; omega
      · refine ⟨_, _, _, _, rfl, false, .inr ⟨_, _, rfl, rfl⟩, ?_⟩
        exact ⟨G90, .inr ⟨by rw [henc, encL_none d.args j hlt' heb], rfl⟩⟩
    · have : j = d.args.length := by omega
      subst this
      rw [List.take_length] at hej
      exact ⟨G67, .inl ⟨_, a2, _, c2, by rw [henc, hej], rfl, by simp; omega, own67, X67⟩⟩

end Go.Proofs.YtgjifgjjcaohoaaGreatDoor.Vd
end

/- part Z4Q -/
section
namespace Go.Proofs.YtgjifgjjcaohoaaGreatDoor.Vd
open Go.Vx Go.Vx.Da Go.RowKit

/-- the errors' variables -/
structure Glob (w : World) (tL tE : Nat) (xL xD : Value) : Prop where
  large : w.cell? ⟨0, 0, none⟩ = some (.iface tL xL)
  data : w.cell? ⟨1, 0, none⟩ = some (.iface tE xD)
  size : 2 ≤ w.heap.size

theorem Glob.kept {w w' : World} {tL tE : Nat} {xL xD : Value} (h : Glob w tL tE xL xD) (hb : Below w.heap.size w w') : Glob w' tL tE xL xD :=
  ⟨cell_below hb (by have := h.size; omega) h.large, cell_below hb (by have := h.size; omega) h.data, Nat.le_trans h.size hb.size⟩

def EncPost (w : World) (d : D) (tL tE : Nat) (xL xD : Value) (e : Ending) (w' : World) : Prop :=
  Below w.heap.size w w' ∧ ((good d = false ∧ e = .returned (.tuple #[.slice none 0 0, .iface tL xL])) ∨ (good d = true ∧ enc d = none ∧ e = .returned (.tuple #[.slice none 0 0, .iface tE xD])) ∨
    ∃ bs a k c, good d = true ∧ enc d = some bs ∧ e = .returned (.tuple #[.slice a k c, .nilIface]) ∧ k = bs.length ∧ w'.ownsRow w.heap.size 5 1 (.slice a k c) k (bv bs))

theorem Encode_spec (tL tE : Nat) (xL xD : Value) (d : D) (B : Nat) (w : World) (vs : List Value) (hr : Rep B w d vs) (hB : B ≤ w.heap.size) (hg : Glob w tL tE xL xD) :
    Calls Tryz.prog 11 #[.agg vs.toArray] w fun e w' => EncPost w d tL tE xL xD e w' := by
  obtain ⟨a, m, cs, rfl, hm, ha, hrs⟩ := hr.form
  refine (Encode.calls (R := fun v w' => EncPost w d tL tE xL xD (.returned v) w') ?_).mono (fun e w' ⟨v, h1, h2⟩ => h1 ▸ h2)
  unfold Encode.W
  have h3 := hg.size
  refine box fun w7 at7 hb7 hs7 => ?_
  refine ⟨_, _, _, _, _, _, cellsAt_of_block at7 [.bool d.ctor, .int .i64 d.int, .string d.name, .slice a d.args.length m] 0 rfl, ?_⟩
  refine (Good_spec d B w7 _ (hr.kept hb7 hB) (by omega)).mono ?_
  rintro e w14 ⟨rfl, hb14⟩
  have hb14' := hb7.trans (hb14.mono (by omega))
  refine ⟨_, rfl, ifN (fun hgd => ?_) (fun hgd => ?_)⟩
  · refine drewStep fun w17 _ hb17 => ?_
    have hb17' := hb14'.trans (hb17.mono hb14'.size)
    exact ⟨_, (hg.kept hb17').large, hb17', .inl ⟨hgd, rfl⟩⟩
  · have at14 := block_below hb14 (by omega) at7
    have hs14 := hb14.size
    refine ⟨_, _, _, _, _, _, cellsAt_of_block at14 [.bool d.ctor, .int .i64 d.int, .string d.name, .slice a d.args.length m] 0 rfl, ?_⟩
    have hn : nodes d ≤ 4096 := by simp only [good, decide_eq_true_eq] at hgd; exact hgd.1
    refine (put_spec tE xD _ d (Nat.lt_succ_self _) B w14.heap.size w14 _ none 0 0 [] (hr.kept hb14' hB) (by omega) (Nat.le_refl _) (World.ownsRow_nil _ _ _ _) (by omega) (hg.kept hb14').data (by omega)).mono ?_
    rintro e w25 ⟨hg25, hp⟩
    have hb25 : Below w14.heap.size w14 w25 := own_grown (World.ownsRow_nil w14 w14.heap.size 5 1) hg25 (Nat.le_refl _) (Nat.le_refl _)
    have hb25' := hb14'.trans (hb25.mono (by omega))
    rcases hp with ⟨bs, a', k, c, he, rfl, rfl, ho, _⟩ | ⟨he, rfl⟩
    · refine ⟨_, _, _, _, rfl, hb25', .inr (.inr ⟨bs, a', _, c, hgd, he, rfl, by omega, ?_⟩)⟩
      rw [List.nil_append] at ho
      obtain ⟨h1, h2⟩ := ho
      refine ⟨h1, h2.imp id ?_⟩
      rintro ⟨g, cap, cur, h3, h4, h5⟩
      exact ⟨g, cap, cur, h3, by omega, h5⟩
    · exact ⟨_, _, _, _, rfl, hb25', .inr (.inl ⟨hgd, he, rfl⟩)⟩

def nilS : ByteArray := ⟨#[110, 105, 108]⟩
def consS : ByteArray := ⟨#[99, 111, 110, 115]⟩
def exD : D := ⟨true, 0, consS, [⟨false, 1, ⟨#[]⟩, []⟩, ⟨true, 0, nilS, []⟩]⟩
def exB : List UInt8 := [1, 4, 99, 111, 110, 115, 2, 0, 1, 0, 0, 0, 0, 0, 0, 0, 1, 3, 110, 105, 108, 0]
theorem ex_enc : enc exD = some exB := by decide +kernel
theorem ex_good : good exD = true := by decide +kernel

theorem ex_rep (w1 : World) (b : Nat) (h : w1.heap[b]? = some (.cells #[.bool false, .int .i64 1, .string (⟨#[]⟩ : ByteArray), .slice none 0 0, .bool true, .int .i64 0, .string nilS, .slice none 0 0] 25 (0, 0))) :
    Rep (b + 1) w1 exD [.bool true, .int .i64 0, .string consS, .slice (some ⟨b, 0, none⟩) 2 2] := by
  refine .mk true 0 consS [⟨false, 1, ⟨#[]⟩, []⟩, ⟨true, 0, nilS, []⟩] (some ⟨b, 0, none⟩) 2 (fun j => match j with | 0 => [.bool false, .int .i64 1, .string (⟨#[]⟩ : ByteArray), .slice none 0 0] | _ => [.bool true, .int .i64 0, .string nilS, .slice none 0 0]) (Nat.le_refl _) ?_ ?_
  · intro j hj
    match j, hj with
    | 0, _ => exact ⟨b, 0, rfl, by omega, cellsAt_of_block h [.bool false, .int .i64 1, .string (⟨#[]⟩ : ByteArray), .slice none 0 0] 0 rfl⟩
    | 1, _ => exact ⟨b, 0, rfl, by omega, cellsAt_of_block h [.bool true, .int .i64 0, .string nilS, .slice none 0 0] 4 rfl⟩
  · intro j hj
    match j, hj with
    | 0, _ => exact .mk false 1 ⟨#[]⟩ [] none 0 (fun _ => []) (Nat.le_refl _) (fun j hj => by simp at hj) (fun j hj => by simp at hj)
    | 1, _ => exact .mk true 0 nilS [] none 0 (fun _ => []) (Nat.le_refl _) (fun j hj => by simp at hj) (fun j hj => by simp at hj)

theorem alive_spec (tL tE : Nat) (xL xD : Value) (w : World) (hg : Glob w tL tE xL xD) :
    Calls Tryz.prog 5 #[] w fun e w' => e = .returned (.bool true) ∧ Below w.heap.size w w' := by
  refine (alive.calls (R := fun v w' => v = .bool true ∧ Below w.heap.size w w') ?_).mono (fun e w' ⟨v, h1, h2, h3⟩ => ⟨by rw [h1, h2], h3⟩)
  unfold alive.W
  refine box fun w1 at1 hb1 hs1 => ?_
  refine (Encode_spec tL tE xL xD exD (w.heap.size + 1) w1 _ (ex_rep w1 w.heap.size at1) (by omega) (hg.kept hb1)).mono ?_
  rintro e w2 ⟨hb2, ⟨h, _⟩ | ⟨_, h, _⟩ | ⟨bs, a, k, c, _, he, rfl, rfl, ho⟩⟩
  · rw [ex_good] at h; cases h
  · rw [ex_enc] at h; cases h
  · rw [ex_enc] at he
    cases he
    refine ⟨_, _, _, _, rfl, true, .inl ⟨rfl, rfl⟩, ?_⟩
    refine ⟨_, conv_own ty37 rfl ty9 rfl ty5 rfl ho, ?_, hb1.trans (hb2.mono (by omega))⟩
    exact congrArg Value.bool (by decide +kernel)

end Go.Proofs.YtgjifgjjcaohoaaGreatDoor.Vd
end
