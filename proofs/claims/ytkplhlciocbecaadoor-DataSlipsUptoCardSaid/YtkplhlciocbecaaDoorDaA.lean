/- Data in memory: what a value of the type reads as. -/
import Derived.Test.YtkplhlciocbecaaDoorVxL
namespace Go.Vx.Da
open Go.RowKit

structure D where
  ctor : Bool
  int : Int
  name : ByteArray
  args : List D

/-- cells that hold a datum; what it leads to lies below block B -/
inductive Rep (B : Nat) (w : World) : D → List Value → Prop
  | mk (c : Bool) (i : Int) (s : ByteArray) (as : List D) (a : Option Addr) (m : Nat) (cs : Nat → List Value) (hm : as.length ≤ m)
      (ha : ∀ j, j < as.length → ∃ b o, a = some ⟨b, o, none⟩ ∧ b < B ∧ cellsAt w b (o + j * 4) (cs j)) (hr : ∀ j (h : j < as.length), Rep B w as[j] (cs j)) :
      Rep B w ⟨c, i, s, as⟩ [.bool c, .int .i64 i, .string s, .slice a as.length m]

theorem Rep.form {B : Nat} {w : World} {d : D} {vs : List Value} (h : Rep B w d vs) : ∃ (a : Option Addr) (m : Nat) (cs : Nat → List Value), vs = [.bool d.ctor, .int .i64 d.int, .string d.name, .slice a d.args.length m] ∧ d.args.length ≤ m ∧
    (∀ j, j < d.args.length → ∃ b o, a = some ⟨b, o, none⟩ ∧ b < B ∧ cellsAt w b (o + j * 4) (cs j)) ∧ ∀ j (h : j < d.args.length), Rep B w d.args[j] (cs j) := by
  cases h with
  | mk c i s as a m cs hm ha hr => exact ⟨a, m, cs, rfl, hm, ha, hr⟩

theorem Rep.kept {B C : Nat} {w w' : World} (hb : Below C w w') (hBC : B ≤ C) : ∀ {d : D} {vs : List Value}, Rep B w d vs → Rep B w' d vs := by
  intro d vs h
  induction h with
  | mk c i s as a m cs hm ha hr ih =>
    refine .mk c i s as a m cs hm (fun j hj => ?_) ih
    obtain ⟨b, o, h1, h2, h3⟩ := ha j hj
    exact ⟨b, o, h1, h2, cellsAt_below hb (by omega) h3⟩

theorem Rep.up {B B' : Nat} {w : World} (hB : B ≤ B') : ∀ {d : D} {vs : List Value}, Rep B w d vs → Rep B' w d vs := by
  intro d vs h
  induction h with
  | mk c i s as a m cs hm ha hr ih =>
    refine .mk c i s as a m cs hm (fun j hj => ?_) ih
    obtain ⟨b, o, h1, h2, h3⟩ := ha j hj
    exact ⟨b, o, h1, by omega, h3⟩

theorem Rep.one {B : Nat} {w : World} {d : D} {vs : List Value} (h : Rep B w d vs) : vs.length = 4 ∧ (vs.all fun v => v.oneCell') = true := by
  obtain ⟨a, m, cs, rfl, _⟩ := h.form
  exact ⟨rfl, rfl⟩

mutual
/-- nodes: an int is one, whatever its arguments -/
def nodes : D → Nat
  | ⟨c, _, _, as⟩ => match c with
    | true => 1 + nodesL as
    | false => 1
def nodesL : List D → Nat
  | [] => 0
  | a :: r => nodes a + nodesL r
end

mutual
def depth : D → Nat
  | ⟨c, _, _, as⟩ => match c with
    | true => 1 + depthL as
    | false => 1
def depthL : List D → Nat
  | [] => 0
  | a :: r => max (depth a) (depthL r)
end

theorem nodes_int {d : D} (h : d.ctor = false) : nodes d = 1 := by
  obtain ⟨c, i, s, as⟩ := d
  subst h
  rfl
theorem nodes_ctor {d : D} (h : d.ctor = true) : nodes d = 1 + nodesL d.args := by
  obtain ⟨c, i, s, as⟩ := d
  subst h
  rfl
theorem depth_int {d : D} (h : d.ctor = false) : depth d = 1 := by
  obtain ⟨c, i, s, as⟩ := d
  subst h
  rfl
theorem depth_ctor {d : D} (h : d.ctor = true) : depth d = 1 + depthL d.args := by
  obtain ⟨c, i, s, as⟩ := d
  subst h
  rfl
theorem nodes_pos (d : D) : 1 ≤ nodes d := by
  cases h : d.ctor with
  | true => rw [nodes_ctor h]; omega
  | false => rw [nodes_int h]; exact Nat.le_refl _

theorem nodesL_take (l : List D) : ∀ (k : Nat) (h : k < l.length), nodesL (l.take (k + 1)) = nodesL (l.take k) + nodes l[k] := by
  induction l with
  | nil => intro k h; simp at h
  | cons a r ih =>
    intro k h
    cases k with
    | zero => simp [nodesL]
    | succ k =>
      have := ih k (by simpa using h)
      simp only [List.take_succ_cons, nodesL, List.getElem_cons_succ]
      omega

theorem depthL_take (l : List D) : ∀ (k : Nat) (h : k < l.length), depthL (l.take (k + 1)) = max (depthL (l.take k)) (depth l[k]) := by
  induction l with
  | nil => intro k h; simp at h
  | cons a r ih =>
    intro k h
    cases k with
    | zero => simp [depthL]
    | succ k =>
      have := ih k (by simpa using h)
      simp only [List.take_succ_cons, depthL, List.getElem_cons_succ]
      omega

theorem nodesL_mem {l : List D} {a : D} (h : a ∈ l) : nodes a ≤ nodesL l := by
  induction l with
  | nil => cases h
  | cons b r ih =>
    simp only [nodesL]
    rcases List.mem_cons.1 h with rfl | h
    · omega
    · have := ih h; omega

theorem depthL_mem {l : List D} {a : D} (h : a ∈ l) : depth a ≤ depthL l := by
  induction l with
  | nil => cases h
  | cons b r ih =>
    simp only [depthL]
    rcases List.mem_cons.1 h with rfl | h
    · omega
    · have := ih h; omega

theorem len_nodesL (l : List D) : l.length ≤ nodesL l := by
  induction l with
  | nil => exact Nat.le_refl _
  | cons a r ih => have := nodes_pos a; simp only [nodesL, List.length_cons]; omega
theorem le_take (l : List D) {j : Nat} (h : j ≤ l.length) : j ≤ nodesL (l.take j) := by
  have := len_nodesL (l.take j)
  rw [List.length_take] at this
  omega
theorem nodesL_take_le (l : List D) (j : Nat) : nodesL (l.take j) ≤ nodesL l := by
  induction l generalizing j with
  | nil => simp [nodesL]
  | cons a r ih =>
    cases j with
    | zero => simp [nodesL]
    | succ j => have := ih j; simp only [List.take_succ_cons, nodesL]; omega

/-- a part is smaller -/
theorem sizeOf_arg (d : D) (j : Nat) (h : j < d.args.length) : SizeOf.sizeOf d.args[j] < SizeOf.sizeOf d := by
  obtain ⟨c, i, s, as⟩ := d
  have := List.sizeOf_lt_of_mem (List.getElem_mem h)
  simp only [D.mk.sizeOf_spec] at this ⊢
  omega

end Go.Vx.Da

namespace Go.Vx.Da
/-- numbers of the kind -/
inductive Wf : D → Prop
  | mk (c : Bool) (i : Int) (s : ByteArray) (ys : List D) (h0 : -9223372036854775808 ≤ i) (h1 : i ≤ 9223372036854775807) (hs : s.size ≤ maxLen) (hy : ∀ j (h : j < ys.length), Wf ys[j]) : Wf ⟨c, i, s, ys⟩
end Go.Vx.Da
