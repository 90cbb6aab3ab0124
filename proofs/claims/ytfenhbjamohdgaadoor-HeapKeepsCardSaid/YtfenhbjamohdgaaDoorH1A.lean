/- The heap of cells, in plain Lean and in memory. -/
import Derived.Test.YtfenhbjamohdgaaDoorVxN
namespace Go.Vx.Hp
open Go.RowKit

structure Val where
  ref : Bool
  n : Int
deriving DecidableEq
def Val.cs (v : Val) : List Value := [.bool v.ref, .int .i64 v.n]

structure Cell where
  val : Val
  head : Option Nat
def Cell.cs (c : Cell) : List Value := [.bool c.val.ref, .int .i64 c.val.n, .pointer (c.head.map fun b => ⟨b, 0, none⟩)]
def flat (C : List Cell) : List Value := C.flatMap Cell.cs

/-- a structure: its head's block, and what it holds -/
structure St where
  blk : Nat
  ctor : Int
  args : List Val
  nodes : Int
  depth : Int
def St.size (s : St) : Nat := 1 + s.args.length
def St.cells (s : St) : List Cell := ⟨⟨false, 0⟩, some s.blk⟩ :: s.args.map fun v => ⟨v, none⟩
def cells (S : List St) : List Cell := S.flatMap St.cells
def used (S : List St) : Nat := (cells S).length

def find : List St → Nat → Option St
  | [], _ => none
  | s :: r, p => if p = 0 then some s else if p < s.size then none else find r (p - s.size)

theorem St.cells_length (s : St) : s.cells.length = s.size := by simp [St.cells, St.size]; omega
theorem used_nil : used [] = 0 := rfl
theorem used_cons (s : St) (r : List St) : used (s :: r) = s.size + used r := by simp [used, cells, St.cells_length]
theorem used_append (S T : List St) : used (S ++ T) = used S + used T := by simp [used, cells]
theorem cells_append (S T : List St) : cells (S ++ T) = cells S ++ cells T := by simp [cells]
theorem flat_append (C D : List Cell) : flat (C ++ D) = flat C ++ flat D := by simp [flat]
theorem flat_length (C : List Cell) : (flat C).length = C.length * 3 := by
  induction C with
  | nil => rfl
  | cons c r ih => simp only [flat, List.flatMap_cons, List.length_append, List.length_cons] at ih ⊢; rw [ih]; simp [Cell.cs]; omega
theorem flat_get (C : List Cell) (p : Nat) (h : p < C.length) : ((flat C).drop (p * 3)).take 3 = C[p].cs := by
  induction C generalizing p with
  | nil => simp at h
  | cons c r ih =>
    cases p with
    | zero => simp [flat, Cell.cs]
    | succ p =>
      have := ih p (by simpa using h)
      rw [List.getElem_cons_succ, ← this]
      simp only [flat, List.flatMap_cons]
      rw [show (p + 1) * 3 = c.cs.length + p * 3 by simp [Cell.cs]; omega, List.drop_append]
      simp [List.drop_of_length_le]

theorem St.size_pos (s : St) : 0 < s.size := by simp [St.size]; omega

theorem find_lt {S : List St} : ∀ {p : Nat} {s : St}, find S p = some s → p + s.size ≤ used S := by
  induction S with
  | nil => intro p s h; cases h
  | cons t r ih =>
    intro p s h
    rw [used_cons]
    simp only [find] at h
    split at h
    · cases h; omega
    · split at h
      · cases h
      · have := ih h; omega

/-- what stands at a place -/
theorem cells_at {S : List St} : ∀ {p : Nat} (h : p < (cells S).length), (cells S)[p].head = (find S p).map St.blk := by
  induction S with
  | nil => intro p h; simp [cells] at h
  | cons t r ih =>
    intro p h
    have e : cells (t :: r) = t.cells ++ cells r := by simp [cells]
    have hl := t.cells_length
    simp only [e, find]
    split
    · rename_i h0; subst h0
      rw [List.getElem_append_left (by have := t.size_pos; omega)]; rfl
    · split
      · rename_i h0 h1
        rw [List.getElem_append_left (by omega)]
        obtain ⟨q, rfl⟩ : ∃ q, p = q + 1 := ⟨p - 1, by omega⟩
        simp [St.cells]
      · rename_i h0 h1
        rw [List.getElem_append_right (by omega)]
        have h2 : p - t.cells.length < (cells r).length := by rw [e, List.length_append] at h; omega
        rw [ih h2, hl]

/-- a structure's arguments stand behind its head -/
theorem cells_args {S : List St} : ∀ {p : Nat} {s : St}, find S p = some s → ((cells S).drop (p + 1)).take s.args.length = s.args.map fun v => ⟨v, none⟩ := by
  induction S with
  | nil => intro p s h; cases h
  | cons t r ih =>
    intro p s h
    have e : cells (t :: r) = t.cells ++ cells r := by simp [cells]
    have hl := t.cells_length
    simp only [find] at h
    split at h
    · rename_i h0; subst h0; cases h
      simp only [e, St.cells]
      rw [List.cons_append, Nat.zero_add, List.drop_succ_cons, List.drop_zero, List.take_left' (by simp)]
    · split at h
      · cases h
      · rw [e, List.drop_append, List.drop_of_length_le (by omega), List.nil_append, show p + 1 - t.cells.length = p - t.size + 1 by omega]
        exact ih h

theorem find_append_left {S T : List St} : ∀ {p : Nat}, p < used S → find (S ++ T) p = find S p := by
  induction S with
  | nil => intro p h; simp [used_nil] at h
  | cons t r ih =>
    intro p h
    rw [used_cons] at h
    simp only [List.cons_append, find]
    split
    · rfl
    · split
      · rfl
      · exact ih (by omega)
theorem find_append_right {S T : List St} : ∀ {p : Nat}, used S ≤ p → find (S ++ T) p = find T (p - used S) := by
  induction S with
  | nil => intro p _; simp [used_nil]
  | cons t r ih =>
    intro p h
    rw [used_cons] at h ⊢
    have := t.size_pos
    simp only [List.cons_append, find]
    rw [if_neg (by omega), if_neg (by omega), ih (by omega)]
    congr 1; omega

def good (S : List St) (v : Val) : Bool := !v.ref || (decide (0 ≤ v.n) && (find S v.n.toNat).isSome)
def nodesOf (S : List St) (v : Val) : Int := if v.ref then (match find S v.n.toNat with | some s => s.nodes | none => 0) else 1
def depthOf (S : List St) (v : Val) : Int := if v.ref then (match find S v.n.toNat with | some s => s.depth | none => 0) else 1
def sumN (S : List St) : List Val → Int
  | [] => 0
  | v :: r => nodesOf S v + sumN S r
def maxD (S : List St) : List Val → Int
  | [] => 1
  | v :: r => max (depthOf S v + 1) (maxD S r)

theorem good_append {S T : List St} {v : Val} (h : good S v = true) : good (S ++ T) v = true := by
  unfold good at h ⊢
  cases hr : v.ref with
  | false => rfl
  | true =>
    simp only [hr, Bool.not_true, Bool.false_or, Bool.and_eq_true, Option.isSome_iff_exists] at h ⊢
    obtain ⟨h1, s, hs⟩ := h
    refine ⟨h1, s, ?_⟩
    rw [find_append_left (by have := find_lt hs; have := s.size_pos; omega)]; exact hs

/-- numbers in their bounds -/
def St.Ok (s : St) : Prop := 0 ≤ s.ctor ∧ s.ctor ≤ 9223372036854775807 ∧ s.args.length ≤ 8 ∧ 1 ≤ s.nodes ∧ s.nodes ≤ 4096 ∧ 1 ≤ s.depth ∧ s.depth ≤ 200

def hdObj (s : St) (moved : Int) : Obj := .cells #[.int .i64 s.ctor, .int .i64 (s.size : Nat), .int .i64 s.nodes, .int .i64 s.depth, .int .i64 moved] 80 (0, 0)

/-- the heap in block hp: its structures S, its limit; v: the slice of its cells -/
structure Is (hp : Nat) (w : World) (S : List St) (most : Int) (v : Value) : Prop where
  blk : w.heap[hp]? = some (.cells #[v, .int .i64 most] 76 (0, 0))
  own : w.ownsRow (hp + 1) 84 3 v (used S) (flat (cells S))
  hd : ∀ s ∈ S, hp < s.blk ∧ s.blk < w.heap.size ∧ some s.blk ≠ v.ownBlock ∧ w.heap[s.blk]? = some (hdObj s 0)
  ok : ∀ s ∈ S, s.Ok
  most0 : 0 ≤ most
  most1 : most ≤ 1048576
  fits : (used S : Int) ≤ most
  nd : (S.map St.blk).Nodup
  cl : ∀ s ∈ S, s.args.all (good S) = true

/-- the blocks that are the heap's -/
def Mine (hp : Nat) (S : List St) (v : Value) (k : Nat) : Prop := k = hp ∨ some k = v.ownBlock ∨ ∃ s ∈ S, s.blk = k

theorem find_mem {S : List St} : ∀ {p : Nat} {s : St}, find S p = some s → s ∈ S := by
  induction S with
  | nil => intro p s h; cases h
  | cons t r ih =>
    intro p s h
    simp only [find] at h
    split at h
    · cases h; exact List.mem_cons_self
    · split at h
      · cases h
      · exact List.mem_cons_of_mem _ (ih h)

theorem Is.slice {hp : Nat} {w : World} {S : List St} {most : Int} {v : Value} (h : Is hp w S most v) : ∃ a c, v = .slice a (used S) c ∧ used S ≤ c ∧ c ≤ maxLen := own_slice h.own

theorem Is.kept {hp : Nat} {w w' : World} {S : List St} {most : Int} {v : Value} (h : Is hp w S most v) (hb : ∀ k, Mine hp S v k → w'.heap[k]? = w.heap[k]?) (hs : w.heap.size ≤ w'.heap.size) : Is hp w' S most v :=
  ⟨(hb hp (.inl rfl)).trans h.blk, own_block h.own fun g hg => hb g (.inr (.inl hg.symm)), fun s hm => by
    obtain ⟨h1, h2, h3, h4⟩ := h.hd s hm
    exact ⟨h1, by omega, h3, (hb s.blk (.inr (.inr ⟨s, hm, rfl⟩))).trans h4⟩, h.ok, h.most0, h.most1, h.fits, h.nd, h.cl⟩

theorem Is.mine_lt {hp : Nat} {w : World} {S : List St} {most : Int} {v : Value} (h : Is hp w S most v) {k : Nat} (hk : Mine hp S v k) : hp ≤ k ∧ k < w.heap.size := by
  rcases hk with rfl | hk | ⟨s, hm, rfl⟩
  · exact ⟨Nat.le_refl _, lt_of_block h.blk⟩
  · have := h.own.lt k hk.symm; omega
  · have := h.hd s hm; omega

theorem Is.below {hp : Nat} {w w' : World} {S : List St} {most : Int} {v : Value} (h : Is hp w S most v) (hb : Below w.heap.size w w') : Is hp w' S most v :=
  h.kept (fun _ hk => hb.block _ (h.mine_lt hk).2) hb.size

/-- the cell at a place, in memory -/
theorem Is.cell {hp : Nat} {w : World} {S : List St} {most : Int} {v : Value} (h : Is hp w S most v) {p : Nat} (hp' : p < used S) :
    ∃ g c, v = .slice (some ⟨g, 0, none⟩) (used S) c ∧ cellsAt w g (0 + p * 3) ((cells S)[p]'hp').cs := by
  obtain ⟨hxl, ⟨rfl, hn⟩ | ⟨g, cap, cur, rfl, hg, hh, hc1, hc2, hc3, htake⟩⟩ := h.own
  · omega
  · refine ⟨g, cap, rfl, cellsAt_of_block hh _ _ ?_⟩
    rw [← flat_get _ _ hp', ← htake]
    simp only [List.length_take, List.length_drop, Array.length_toList, List.drop_take, List.take_take]
    congr 1
    · have := hc3; omega
    · congr 1; omega

end Go.Vx.Hp
