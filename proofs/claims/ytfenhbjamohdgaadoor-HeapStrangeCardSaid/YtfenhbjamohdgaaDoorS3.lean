/- Values compared; the chapter's example. -/
import Derived.Test.YtfenhbjamohdgaaDoorS1
import Derived.Test.YtfenhbjamohdgaaDoorS2
import Derived.Laws.StructEq
/- part H1A -/
section
namespace Go.Vx.Hp
open Go.RowKit

structure Val where
  ref : Bool
  n : Int
deriving DecidableEq
def Val.cs (v : Val) : List Value := [.bool v.ref, .int .i64 v.n]

structure Cell where
  val : Val
  head : Option Nat
def Cell.cs (c : Cell) : List Value := [.bool c.val.ref, .int .i64 c.val.n, .pointer (c.head.map fun b => ⟨b, 0, none⟩)]
def flat (C : List Cell) : List Value := C.flatMap Cell.cs

/-- a structure: its head's block, and what it holds -/
structure St where
  blk : Nat
  ctor : Int
  args : List Val
  nodes : Int
  depth : Int
def St.size (s : St) : Nat := 1 + s.args.length
def St.cells (s : St) : List Cell := ⟨⟨false, 0⟩, some s.blk⟩ :: s.args.map fun v => ⟨v, none⟩
def cells (S : List St) : List Cell := S.flatMap St.cells
def used (S : List St) : Nat := (cells S).length

def find : List St → Nat → Option St
  | [], _ => none
  | s :: r, p => if p = 0 then some s else if p < s.size then none else find r (p - s.size)

theorem St.cells_length (s : St) : s.cells.length = s.size := by simp [St.cells, St.size]; omega
theorem used_nil : used [] = 0 := rfl
theorem used_cons (s : St) (r : List St) : used (s :: r) = s.size + used r := by simp [used, cells, St.cells_length]
theorem used_append (S T : List St) : used (S ++ T) = used S + used T := by simp [used, cells]
theorem cells_append (S T : List St) : cells (S ++ T) = cells S ++ cells T := by simp [cells]
theorem flat_append (C D : List Cell) : flat (C ++ D) = flat C ++ flat D := by simp [flat]
theorem flat_length (C : List Cell) : (flat C).length = C.length * 3 := by
  induction C with
  | nil => rfl
  | cons c r ih => simp only [flat, List.flatMap_cons, List.length_append, List.length_cons] at ih ⊢; rw [ih]; simp [Cell.cs]; omega
theorem flat_get (C : List Cell) (p : Nat) (h : p < C.length) : ((flat C).drop (p * 3)).take 3 = C[p].cs := by
  induction C generalizing p with
  | nil => simp at h
  | cons c r ih =>
    cases p with
    | zero => simp [flat, Cell.cs]
    | succ p =>
      have := ih p (by simpa using h)
      rw [List.getElem_cons_succ, ← this]
      simp only [flat, List.flatMap_cons]
      rw [show (p + 1) * 3 = c.cs.length + p * 3 by simp [Cell.cs]; omega, List.drop_append]
      simp [List.drop_of_length_le]

theorem St.size_pos (s : St) : 0 < s.size := by simp [St.size]; omega

theorem find_lt {S : List St} : ∀ {p : Nat} {s : St}, find S p = some s → p + s.size ≤ used S := by
  induction S with
  | nil => intro p s h; cases h
  | cons t r ih =>
    intro p s h
    rw [used_cons]
    simp only [find] at h
    split at h
    · cases h; omega
    · split at h
      · cases h
      · have := ih h; omega

/-- what stands at a place -/
theorem cells_at {S : List St} : ∀ {p : Nat} (h : p < (cells S).length), (cells S)[p].head = (find S p).map St.blk := by
  induction S with
  | nil => intro p h; simp [cells] at h
  | cons t r ih =>
    intro p h
    have e : cells (t :: r) = t.cells ++ cells r := by simp [cells]
    have hl := t.cells_length
    simp only [e, find]
    split
    · rename_i h0; subst h0
      rw [List.getElem_append_left (by have := t.size_pos; omega)]; rfl
    · split
      · rename_i h0 h1
        rw [List.getElem_append_left (by omega)]
        obtain ⟨q, rfl⟩ : ∃ q, p = q + 1 := ⟨p - 1, by omega⟩
        simp [St.cells]
      · rename_i h0 h1
        rw [List.getElem_append_right (by omega)]
        have h2 : p - t.cells.length < (cells r).length := by rw [e, List.length_append] at h; omega
        rw [ih h2, hl]

/-- a structure's arguments stand behind its head -/
theorem cells_args {S : List St} : ∀ {p : Nat} {s : St}, find S p = some s → ((cells S).drop (p + 1)).take s.args.length = s.args.map fun v => ⟨v, none⟩ := by
  induction S with
  | nil => intro p s h; cases h
  | cons t r ih =>
    intro p s h
    have e : cells (t :: r) = t.cells ++ cells r := by simp [cells]
    have hl := t.cells_length
    simp only [find] at h
    split at h
    · rename_i h0; subst h0; cases h
      simp only [e, St.cells]
      rw [List.cons_append, Nat.zero_add, List.drop_succ_cons, List.drop_zero, List.take_left' (by simp)]
    · split at h
      · cases h
      · rw [e, List.drop_append, List.drop_of_length_le (by omega), List.nil_append, show p + 1 - t.cells.length = p - t.size + 1 by omega]
        exact ih h

theorem find_append_left {S T : List St} : ∀ {p : Nat}, p < used S → find (S ++ T) p = find S p := by
  induction S with
  | nil => intro p h; simp [used_nil] at h
  | cons t r ih =>
    intro p h
    rw [used_cons] at h
    simp only [List.cons_append, find]
    split
    · rfl
    · split
      · rfl
      · exact ih (by omega)
theorem find_append_right {S T : List St} : ∀ {p : Nat}, used S ≤ p → find (S ++ T) p = find T (p - used S) := by
  induction S with
  | nil => intro p _; simp [used_nil]
  | cons t r ih =>
    intro p h
    rw [used_cons] at h ⊢
    have := t.size_pos
    simp only [List.cons_append, find]
    rw [if_neg (by omega), if_neg (by omega), ih (by omega)]
    congr 1; omega

def good (S : List St) (v : Val) : Bool := !v.ref || (decide (0 ≤ v.n) && (find S v.n.toNat).isSome)
def nodesOf (S : List St) (v : Val) : Int := if v.ref then (match find S v.n.toNat with | some s => s.nodes | none => 0) else 1
def depthOf (S : List St) (v : Val) : Int := if v.ref then (match find S v.n.toNat with | some s => s.depth | none => 0) else 1
def sumN (S : List St) : List Val → Int
  | [] => 0
  | v :: r => nodesOf S v + sumN S r
def maxD (S : List St) : List Val → Int
  | [] => 1
  | v :: r => max (depthOf S v + 1) (maxD S r)

theorem good_append {S T : List St} {v : Val} (h : good S v = true) : good (S ++ T) v = true := by
  unfold good at h ⊢
  cases hr : v.ref with
  | false => rfl
  | true =>
    simp only [hr, Bool.not_true, Bool.false_or, Bool.and_eq_true, Option.isSome_iff_exists] at h ⊢
    obtain ⟨h1, s, hs⟩ := h
    refine ⟨h1, s, ?_⟩
    rw [find_append_left (by have := find_lt hs; have := s.size_pos; omega)]; exact hs

/-- numbers in their bounds -/
def St.Ok (s : St) : Prop := 0 ≤ s.ctor ∧ s.ctor ≤ 9223372036854775807 ∧ s.args.length ≤ 8 ∧ 1 ≤ s.nodes ∧ s.nodes ≤ 4096 ∧ 1 ≤ s.depth ∧ s.depth ≤ 200

def hdObj (s : St) (moved : Int) : Obj := .cells #[.int .i64 s.ctor, .int .i64 (s.size : Nat), .int .i64 s.nodes, .int .i64 s.depth, .int .i64 moved] 80 (0, 0)

/-- the heap in block hp: its structures S, its limit; v: the slice of its cells -/
structure Is (hp : Nat) (w : World) (S : List St) (most : Int) (v : Value) : Prop where
  blk : w.heap[hp]? = some (.cells #[v, .int .i64 most] 76 (0, 0))
  own : w.ownsRow (hp + 1) 84 3 v (used S) (flat (cells S))
  hd : ∀ s ∈ S, hp < s.blk ∧ s.blk < w.heap.size ∧ some s.blk ≠ v.ownBlock ∧ w.heap[s.blk]? = some (hdObj s 0)
  ok : ∀ s ∈ S, s.Ok
  most0 : 0 ≤ most
  most1 : most ≤ 1048576
  fits : (used S : Int) ≤ most
  nd : (S.map St.blk).Nodup
  cl : ∀ s ∈ S, s.args.all (good S) = true

/-- the blocks that are the heap's -/
def Mine (hp : Nat) (S : List St) (v : Value) (k : Nat) : Prop := k = hp ∨ some k = v.ownBlock ∨ ∃ s ∈ S, s.blk = k

theorem find_mem {S : List St} : ∀ {p : Nat} {s : St}, find S p = some s → s ∈ S := by
  induction S with
  | nil => intro p s h; cases h
  | cons t r ih =>
    intro p s h
    simp only [find] at h
    split at h
    · cases h; exact List.mem_cons_self
    · split at h
      · cases h
      · exact List.mem_cons_of_mem _ (ih h)

theorem Is.slice {hp : Nat} {w : World} {S : List St} {most : Int} {v : Value} (h : Is hp w S most v) : ∃ a c, v = .slice a (used S) c ∧ used S ≤ c ∧ c ≤ maxLen := own_slice h.own

theorem Is.kept {hp : Nat} {w w' : World} {S : List St} {most : Int} {v : Value} (h : Is hp w S most v) (hb : ∀ k, Mine hp S v k → w'.heap[k]? = w.heap[k]?) (hs : w.heap.size ≤ w'.heap.size) : Is hp w' S most v :=
  ⟨(hb hp (.inl rfl)).trans h.blk, own_block h.own fun g hg => hb g (.inr (.inl hg.symm)), fun s hm => by
    obtain ⟨h1, h2, h3, h4⟩ := h.hd s hm
    exact ⟨h1, by omega, h3, (hb s.blk (.inr (.inr ⟨s, hm, rfl⟩))).trans h4⟩, h.ok, h.most0, h.most1, h.fits, h.nd, h.cl⟩

theorem Is.mine_lt {hp : Nat} {w : World} {S : List St} {most : Int} {v : Value} (h : Is hp w S most v) {k : Nat} (hk : Mine hp S v k) : hp ≤ k ∧ k < w.heap.size := by
  rcases hk with rfl | hk | ⟨s, hm, rfl⟩
  · exact ⟨Nat.le_refl _, lt_of_block h.blk⟩
  · have := h.own.lt k hk.symm; omega
  · have := h.hd s hm; omega

theorem Is.below {hp : Nat} {w w' : World} {S : List St} {most : Int} {v : Value} (h : Is hp w S most v) (hb : Below w.heap.size w w') : Is hp w' S most v :=
  h.kept (fun _ hk => hb.block _ (h.mine_lt hk).2) hb.size

/-- the cell at a place, in memory -/
theorem Is.cell {hp : Nat} {w : World} {S : List St} {most : Int} {v : Value} (h : Is hp w S most v) {p : Nat} (hp' : p < used S) :
    ∃ g c, v = .slice (some ⟨g, 0, none⟩) (used S) c ∧ cellsAt w g (0 + p * 3) ((cells S)[p]'hp').cs := by
  obtain ⟨hxl, ⟨rfl, hn⟩ | ⟨g, cap, cur, rfl, hg, hh, hc1, hc2, hc3, htake⟩⟩ := h.own
  · omega
  · refine ⟨g, cap, rfl, cellsAt_of_block hh _ _ ?_⟩
    rw [← flat_get _ _ hp', ← htake]
    simp only [List.length_take, List.length_drop, Array.length_toList, List.drop_take, List.take_take]
    congr 1
    · have := hc3; omega
    · congr 1; omega

end Go.Vx.Hp
end

/- part H1S -/
section
namespace Go.Proofs.YtfenhbjamohdgaaDoor.Vf
open Go.Vx Go.Vx.Hp Go.RowKit

theorem New_ok (n : Int) (w : World) (h0 : 0 ≤ n) (h1 : n ≤ 1048576) :
    Calls Tryd.prog 9 #[.int .i64 n] w fun e w' => e = .returned (.tuple #[.pointer (some ⟨w.heap.size, 0, none⟩), .nilIface]) ∧ Below w.heap.size w w' ∧ Is w.heap.size w' [] n (.slice none 0 0) := by
  refine (New.calls (R := fun v w' => v = .tuple #[.pointer (some ⟨w.heap.size, 0, none⟩), .nilIface] ∧ Below w.heap.size w w' ∧ Is w.heap.size w' [] n (.slice none 0 0)) ?_).mono (fun x w' ⟨v, h1, h2, h3⟩ => ⟨by rw [h1, h2], h3⟩)
  unfold New.W
  refine ifD (fun h => absurd h (by omega)) (fun _ => ifD (fun h => absurd h (by omega)) (fun _ => box fun w6 at6 hb6 hs6 => ⟨rfl, hb6, ⟨at6, World.ownsRow_nil _ _ _ _, (fun s hs => nomatch hs), (fun s hs => nomatch hs), h0, h1, by simpa [used_nil] using h0, List.nodup_nil, (fun s hs => nomatch hs)⟩⟩))

theorem New_bad (n : Int) (w : World) (E : Value) (hE : w.cell? ⟨1, 0, none⟩ = some E) (hlt : 1 < w.heap.size) (h : n < 0 ∨ 1048576 < n) :
    Calls Tryd.prog 9 #[.int .i64 n] w fun e w' => e = .returned (.tuple #[.pointer none, E]) ∧ Below w.heap.size w w' := by
  refine (New.calls (R := fun v w' => v = .tuple #[.pointer none, E] ∧ Below w.heap.size w w') ?_).mono (fun x w' ⟨v, h1, h2, h3⟩ => ⟨by rw [h1, h2], h3⟩)
  unfold New.W
  have fin : withW (World.drew w) fun w2 => ∃ (v3 : Value), World.cell? w2 ⟨1, 0, none⟩ = some v3 ∧ (Value.tuple #[.pointer none, v3] = .tuple #[.pointer none, E] ∧ Below w.heap.size w w2) :=
    drewStep fun w2 e2 hb2 => ⟨_, cell_below hb2 hlt hE, rfl, hb2⟩
  refine ifD (fun _ => fin) (fun h0 => ifD (fun _ => fin) (fun h1 => absurd h (by omega)))

variable {hp : Nat} {w : World} {S : List St} {most : Int} {v : Value}

theorem Used_spec (h : Is hp w S most v) : Calls Tryd.prog 12 #[.pointer (some ⟨hp, 0, none⟩)] w fun e w' => e = .returned (.int .i64 (used S : Nat)) ∧ w = w' := by
  refine (Used.calls (R := fun x w' => x = .int .i64 (used S : Nat) ∧ w = w') ?_).mono (fun x w' ⟨v, h1, h2, h3⟩ => ⟨by rw [h1, h2], h3⟩)
  unfold Used.W
  obtain ⟨a, c, rfl, _⟩ := h.slice
  exact ⟨_, _, rfl, _, _, _, cell_of_block h.blk rfl, rfl, rfl⟩
theorem Cells_spec (h : Is hp w S most v) : Calls Tryd.prog 14 #[.pointer (some ⟨hp, 0, none⟩)] w fun e w' => e = .returned (.int .i64 most) ∧ w = w' := by
  refine (Cells.calls (R := fun x w' => x = .int .i64 most ∧ w = w') ?_).mono (fun x w' ⟨v, h1, h2, h3⟩ => ⟨by rw [h1, h2], h3⟩)
  unfold Cells.W
  exact ⟨_, _, rfl, _, cell_of_block h.blk rfl, rfl, rfl⟩

theorem isNone_map (o : Option Nat) : (o.map fun b => (⟨b, 0, none⟩ : Addr)).isNone = o.isNone := by cases o <;> rfl

theorem hgood_spec (h : Is hp w S most v) (r : Bool) (n : Int) : Calls Tryd.prog 25 #[.pointer (some ⟨hp, 0, none⟩), .agg #[.bool r, .int .i64 n]] w fun e w' => e = .returned (.bool (good S ⟨r, n⟩)) ∧ Below w.heap.size w w' := by
  refine (hgood.calls (R := fun x w' => x = .bool (good S ⟨r, n⟩) ∧ Below w.heap.size w w') ?_).mono (fun x w' ⟨v, h1, h2, h3⟩ => ⟨by rw [h1, h2], h3⟩)
  unfold hgood.W
  refine box fun w3 at3 hb3 hs3 => drewStep fun w4 e4 hb4 => ?_
  have at4 : w4.heap[w.heap.size]? = _ := e4 ▸ at3
  have b4 : Below w.heap.size w w4 := hb3.trans (hb4.mono (by omega))
  have h4 := h.below b4
  refine ⟨_, cell_of_block at4 rfl, ifN (fun hr => ⟨by simp [good, hr], b4⟩) (fun hr => ?_)⟩
  refine ⟨_, cell_of_block at4 rfl, ifD (fun h0 => ?_) (fun h0 => ⟨by simp only [good, hr, Bool.not_true, Bool.false_or]; rw [decide_eq_false (by omega)]; rfl, b4⟩)⟩
  obtain ⟨a, c, ev, _⟩ := h4.slice
  subst ev
  refine ⟨_, cell_of_block at4 rfl, _, _, rfl, _, _, _, cell_of_block h4.blk rfl, ifD (fun hlt => ?_) (fun hge => ⟨?_, b4⟩)⟩
  · have hlt' : n.toNat < used S := by omega
    obtain ⟨g, c', e, hc⟩ := h4.cell hlt'
    cases e
    refine ⟨_, _, rfl, _, _, _, cell_of_block h4.blk rfl, _, cell_of_block at4 rfl, g, 0, rfl, by omega, hlt, _, hc.2.2.1, ?_, b4⟩
    have hca := cells_at (S := S) hlt'
    rw [isNone_map, hca]
    simp only [good, hr, Bool.not_true, Bool.false_or]
    rw [decide_eq_true (by omega)]
    cases find S n.toNat <;> rfl
  · simp only [good, hr, Bool.not_true, Bool.false_or]
    have : find S n.toNat = none := by
      cases hf : find S n.toNat with
      | none => rfl
      | some s => have := find_lt hf; have := s.size_pos; omega
    rw [this]; simp

/-- a good reference: the structure there, in memory -/
theorem is_at (h : Is hp w S most v) {n : Int} (hg : good S ⟨true, n⟩ = true) : ∃ s g c, find S n.toNat = some s ∧ s ∈ S ∧ 0 ≤ n ∧ n.toNat + s.size ≤ used S ∧ v = .slice (some ⟨g, 0, none⟩) (used S) c ∧
    w.cell? ⟨g, 0 + n.toNat * 3 + 2, none⟩ = some (.pointer (some ⟨s.blk, 0, none⟩)) ∧ w.heap[s.blk]? = some (hdObj s 0) := by
  simp only [good, Bool.not_true, Bool.false_or, Bool.and_eq_true, decide_eq_true_eq, Option.isSome_iff_exists] at hg
  obtain ⟨h0, s, hs⟩ := hg
  have hl := find_lt hs
  have hlt : n.toNat < used S := by have := s.size_pos; omega
  obtain ⟨g, c, e, hc⟩ := h.cell hlt
  refine ⟨s, g, c, hs, find_mem hs, h0, hl, e, ?_, (h.hd s (find_mem hs)).2.2.2⟩
  have hca := cells_at (S := S) hlt
  have := hc.2.2.1
  rw [hca, hs] at this
  exact this

theorem measure_spec (h : Is hp w S most v) (r : Bool) (n : Int) (hg : good S ⟨r, n⟩ = true) : Calls Tryd.prog 24 #[.pointer (some ⟨hp, 0, none⟩), .agg #[.bool r, .int .i64 n]] w fun e w' => e = .returned (.tuple #[.int .i64 (nodesOf S ⟨r, n⟩), .int .i64 (depthOf S ⟨r, n⟩)]) ∧ Below w.heap.size w w' := by
  refine (measure.calls (R := fun x w' => x = .tuple #[.int .i64 (nodesOf S ⟨r, n⟩), .int .i64 (depthOf S ⟨r, n⟩)] ∧ Below w.heap.size w w') ?_).mono (fun x w' ⟨v, h1, h2, h3⟩ => ⟨by rw [h1, h2], h3⟩)
  unfold measure.W
  refine box fun w3 at3 hb3 hs3 => ?_
  refine ⟨_, cell_of_block at3 rfl, ifN (fun hr => ⟨by simp [nodesOf, depthOf, hr], hb3⟩) (fun hr => drewStep fun w5 e5 hb5 => ?_)⟩
  subst hr
  have at5 : w5.heap[w.heap.size]? = _ := e5 ▸ at3
  have b5 : Below w.heap.size w w5 := hb3.trans (hb5.mono (by omega))
  have h5 := h.below b5
  obtain ⟨s, g, c, hs, hm, h0, hl, rfl, hc, hh⟩ := is_at h5 hg
  have := s.size_pos
  refine ⟨_, _, rfl, _, _, _, cell_of_block h5.blk rfl, _, cell_of_block at5 rfl, g, 0, rfl, h0, by omega, _, hc, drewStep fun w15 e15 hb15 => ?_⟩
  have hh15 : w15.heap[s.blk]? = _ := e15 ▸ hh
  refine ⟨_, _, rfl, _, cell_of_block hh15 rfl, _, _, rfl, _, cell_of_block hh15 rfl, ?_, b5.trans (hb15.mono b5.size)⟩
  simp [nodesOf, depthOf, hs]

theorem hargs_spec (h : Is hp w S most v) (n : Int) (s : St) (hg : good S ⟨true, n⟩ = true) (hs : find S n.toNat = some s) : Calls Tryd.prog 26 #[.pointer (some ⟨hp, 0, none⟩), .int .i64 n] w fun e w' => ∃ a c, e = .returned (.slice a s.args.length c) ∧ w'.heap = w.heap ∧ Below w.heap.size w w' ∧
    (0 < s.args.length → ∃ g, a = some ⟨g, (n.toNat + 1) * 3, none⟩ ∧ some g = v.ownBlock ∧ ∀ j (hj : j < s.args.length), cellsAt w' g ((n.toNat + 1) * 3 + j * 3) (Cell.mk s.args[j] none).cs) := by
  refine (hargs.calls (R := fun x w' => ∃ a c, x = .slice a s.args.length c ∧ w'.heap = w.heap ∧ Below w.heap.size w w' ∧
    (0 < s.args.length → ∃ g, a = some ⟨g, (n.toNat + 1) * 3, none⟩ ∧ some g = v.ownBlock ∧ ∀ j (hj : j < s.args.length), cellsAt w' g ((n.toNat + 1) * 3 + j * 3) (Cell.mk s.args[j] none).cs)) ?_).mono (fun x w' ⟨v, h1, a, c, h2, h3⟩ => ⟨a, c, by rw [h1, h2], h3⟩)
  unfold hargs.W
  refine drewStep fun w2 e2 hb2 => ?_
  have h2 := h.below hb2
  obtain ⟨s', g, c, hs', hm, h0, hl, rfl, hc, hh⟩ := is_at h2 hg
  rw [hs] at hs'; cases hs'
  have hfit := h.fits
  have hmost := h.most1
  have hcap := h.slice
  obtain ⟨a', c', e', hle, hcm⟩ := hcap
  cases e'
  have hsz : s.size = 1 + s.args.length := rfl
  refine ⟨_, _, rfl, _, _, _, cell_of_block h2.blk rfl, _, _, rfl, _, _, _, cell_of_block h2.blk rfl, g, 0, rfl, h0, by omega, _, hc, _, _, rfl, _, cell_of_block hh rfl, ?_⟩
  rw [w64 (x := n + 1) (by omega) (by omega), w64 (x := n + (s.size : Int)) (by omega) (by omega)]
  have e1 : (n + 1).toNat = n.toNat + 1 := by omega
  have e2' : (n + (s.size : Int)).toNat - (n.toNat + 1) = s.args.length := by omega
  rw [e1, e2']
  refine ⟨by omega, by omega, by omega, _, _, rfl, e2, hb2, fun hpos => ⟨g, ?_, rfl, fun j hj => ?_⟩⟩
  · rw [cutA, if_neg (by omega)]; simp [Addr.add]
  · have hlt : n.toNat + 1 + j < used S := by omega
    obtain ⟨g', c'', e'', hc'⟩ := h2.cell hlt
    cases e''
    rw [Nat.zero_add, Nat.add_mul] at hc'
    have hca := cells_args hs
    have hget : (cells S)[n.toNat + 1 + j]'hlt = Cell.mk s.args[j] none := by
      have h3 := congrArg (fun l => l[j]?) hca
      simp only [List.getElem?_take, List.getElem?_drop, List.getElem?_map] at h3
      rw [if_pos hj, List.getElem?_eq_getElem hlt, List.getElem?_eq_getElem hj] at h3
      simpa using h3
    rw [hget] at hc'
    exact hc'

theorem cellsAt_lt {w : World} {b o : Nat} {v : Value} {vs : List Value} (h : cellsAt w b o (v :: vs)) : b < w.heap.size := by
  have h1 := h.1
  rcases Nat.lt_or_ge b w.heap.size with h | h
  · exact h
  · simp only [World.cell?, Array.getElem?_eq_none h] at h1; simp at h1

/-- values in memory, as a slice of the caller's -/
def Vsl (w : World) (a : Option Addr) (V : List Val) : Prop := ∀ j (h : j < V.length), ∃ b o, a = some ⟨b, o, none⟩ ∧ cellsAt w b (o + j * 2) V[j].cs

theorem Vsl.kept {w w' : World} {a : Option Addr} {V : List Val} (h : Vsl w a V) (hb : ∀ b o, b < w.heap.size → a = some ⟨b, o, none⟩ → w'.heap[b]? = w.heap[b]?) : Vsl w' a V := fun j hj => by
  obtain ⟨b, o, e, hc⟩ := h j hj
  exact ⟨b, o, e, cellsAt_same (hb b o (cellsAt_lt hc) e) hc⟩

theorem Vsl.lt {w : World} {a : Option Addr} {V : List Val} (h : Vsl w a V) (hV : 0 < V.length) {b o : Nat} (e : a = some ⟨b, o, none⟩) : b < w.heap.size := by
  obtain ⟨b', o', e', hc⟩ := h 0 hV
  rw [e] at e'; cases e'
  exact cellsAt_lt hc

theorem goodsF_spec (h : Is hp w S most v) (hb : Nat) (hbox : w.heap[hb]? = some (.cells #[.pointer (some ⟨hp, 0, none⟩)] 24 (0, 0))) (r : Bool) (n : Int) : Calls Tryd.prog 38 #[.agg #[.bool r, .int .i64 n], .pointer (some ⟨hb, 0, none⟩)] w fun e w' => e = .returned (.bool (!good S ⟨r, n⟩)) ∧ Below w.heap.size w w' := by
  refine (goodsF.calls (R := fun x w' => x = .bool (!good S ⟨r, n⟩) ∧ Below w.heap.size w w') ?_).mono (fun x w' ⟨v, h1, h2, h3⟩ => ⟨by rw [h1, h2], h3⟩)
  unfold goodsF.W
  refine box fun w3 at3 hb3 hs3 => ?_
  refine ⟨_, cell_of_block (block_below hb3 (lt_of_block hbox) hbox) rfl, _, _, cellsAt_of_block at3 [.bool r, .int .i64 n] 0 rfl, ?_⟩
  refine (hgood_spec (h.below hb3) r n).mono ?_
  rintro _ w7 ⟨rfl, hb7⟩
  exact ⟨_, rfl, rfl, hb3.trans (hb7.mono (by omega))⟩

theorem goods_spec (h : Is hp w S most v) (a : Option Addr) (c : Nat) (V : List Val) (hV : Vsl w a V) (hl : V.length ≤ 1048576) : Calls Tryd.prog 23 #[.pointer (some ⟨hp, 0, none⟩), .slice a V.length c] w fun e w' => e = .returned (.bool (V.all (good S))) ∧ Below w.heap.size w w' := by
  refine (goods.calls (R := fun x w' => x = .bool (V.all (good S)) ∧ Below w.heap.size w w') ?_).mono (fun x w' ⟨v, h1, h2, h3⟩ => ⟨by rw [h1, h2], h3⟩)
  unfold goods.W
  refine box fun w4 at4 hb4 hs4 => ?_
  have h4 := h.below hb4
  have hV4 : Vsl w4 a V := hV.kept fun b o hlt _ => hb4.block b hlt
  have idx : Calls Tryd.prog 39 #[.slice a V.length c, .func (.func 38) #[] #[.pointer (some ⟨w.heap.size, 0, none⟩)]] w4 fun e w' => ∃ z : Int, e = .returned (.int .i64 z) ∧ (decide (z ≥ 0) = !V.all (good S)) ∧ Below w4.heap.size w4 w' := by
    refine (IndexFunc.calls (R := fun x w' => ∃ z : Int, x = .int .i64 z ∧ (decide (z ≥ 0) = !V.all (good S)) ∧ Below w4.heap.size w4 w') ?_).mono (fun x w' ⟨v, h1, z, h2, h3⟩ => ⟨z, by rw [h1, h2], h3⟩)
    unfold IndexFunc.W
    refine ⟨fun us w2 => ∃ j : Nat, j ≤ V.length ∧ us = [.int .i64 j] ∧ (V.take j).all (good S) = true ∧ Below w4.heap.size w4 w2, fun us _ => match us with | [.int _ j] => V.length - j.toNat | _ => 0, ⟨0, Nat.zero_le _, rfl, by simp, Below.refl _ _⟩, ?_⟩
    rintro _ us w6 ⟨j, hj, rfl, hall, hb6⟩
    refine ⟨_, rfl, ifD (fun hlt => ?_) (fun hge => ⟨-1, rfl, ?_, hb6⟩)⟩
    · have hlt' : j < V.length := by omega
      obtain ⟨b, o, rfl, hc⟩ := hV4 j hlt'
      have hc6 := cellsAt_below hb6 (cellsAt_lt hc) hc
      refine ⟨b, o, rfl, by omega, hlt, _, _, hc6, ?_⟩
      refine (goodsF_spec (h4.below hb6) w.heap.size (block_below hb6 (lt_of_block at4) at4) _ _).mono ?_
      rintro _ w14 ⟨rfl, hb14⟩
      have b14 := hb6.trans (hb14.mono hb6.size)
      have ht : V.take (j + 1) = V.take j ++ [V[j]] := by rw [List.take_succ_eq_append_getElem hlt']
      refine ⟨_, rfl, ifB (fun hbad => ⟨j, rfl, ?_, b14⟩) (fun hgd => ?_)⟩
      · rw [decide_eq_true (by omega)]
        have : V.all (good S) = false := by
          rw [List.all_eq_false]
          exact ⟨V[j], List.getElem_mem _, by simpa using hbad⟩
        rw [this]; rfl
      · rw [w64 (x := (j : Int) + 1) (by omega) (by omega)]
        refine ⟨⟨j + 1, hlt', rfl, ?_, b14⟩, by simp only; omega⟩
        rw [ht, List.all_append, hall, Bool.true_and]
        simpa using hgd
    · have : j = V.length := by omega
      subst this
      rw [List.take_length] at hall
      rw [hall]; rfl
  have con : Calls Tryd.prog 37 #[.slice a V.length c, .func (.func 38) #[] #[.pointer (some ⟨w.heap.size, 0, none⟩)]] w4 fun e w' => e = .returned (.bool (!V.all (good S))) ∧ Below w4.heap.size w4 w' := by
    refine (ContainsFunc.calls (R := fun x w' => x = .bool (!V.all (good S)) ∧ Below w4.heap.size w4 w') ?_).mono (fun x w' ⟨v, h1, h2, h3⟩ => ⟨by rw [h1, h2], h3⟩)
    unfold ContainsFunc.W
    refine idx.mono ?_
    rintro _ w' ⟨z, rfl, hz, hb⟩
    exact ⟨_, rfl, by rw [hz], hb⟩
  refine con.mono ?_
  rintro _ w5 ⟨rfl, hb5⟩
  exact ⟨_, rfl, by rw [Bool.not_not], hb4.trans (hb5.mono (by omega))⟩

end Go.Proofs.YtfenhbjamohdgaaDoor.Vf
end

/- part H1B -/
section
namespace Go.Vx.Hp
open Go.RowKit

theorem sumN_snoc (S : List St) (l : List Val) (x : Val) : sumN S (l ++ [x]) = sumN S l + nodesOf S x := by
  induction l with
  | nil => simp [sumN]
  | cons a r ih => simp only [List.cons_append, sumN, ih]; omega
theorem maxD_snoc (S : List St) (l : List Val) (x : Val) : maxD S (l ++ [x]) = max (maxD S l) (depthOf S x + 1) := by
  induction l with
  | nil => simp only [List.nil_append, maxD]; omega
  | cons a r ih => simp only [List.cons_append, maxD, ih]; omega
theorem nodesOf_le {S : List St} (hok : ∀ s ∈ S, s.Ok) {x : Val} (hg : good S x = true) : 1 ≤ nodesOf S x ∧ nodesOf S x ≤ 4096 ∧ 1 ≤ depthOf S x ∧ depthOf S x ≤ 200 := by
  unfold nodesOf depthOf
  unfold good at hg
  split
  · rename_i hr
    simp only [hr, Bool.not_true, Bool.false_or, Bool.and_eq_true, Option.isSome_iff_exists] at hg
    obtain ⟨_, s, hs⟩ := hg
    have := hok s (find_mem hs)
    unfold St.Ok at this
    rw [hs]; simp only; omega
  · omega
theorem sumN_le {S : List St} (hok : ∀ s ∈ S, s.Ok) : ∀ {l : List Val}, l.all (good S) = true → (l.length : Int) ≤ sumN S l ∧ sumN S l ≤ 4096 * l.length ∧ 1 ≤ maxD S l ∧ maxD S l ≤ 201
  | [], _ => by simp [sumN, maxD]
  | a :: r, h => by
    simp only [List.all_cons, Bool.and_eq_true] at h
    have h1 := nodesOf_le hok h.1
    have h2 := sumN_le hok h.2
    simp only [sumN, maxD, List.length_cons]; omega

/-- one more cell of the row that hp holds -/
theorem push {P : Program} {y74 y84 : Ty} (h74 : y74.Ok P 74) (ht : y74.tk = .sl 84) (h84 : y84.Ok P 84) (hsz : y84.size = 3) (hby : y84.bytes = 24) {w1 : World} {hp nb n : Nat} {a : Option Addr} {m c : Nat} {most : Int} {xs news : List Value}
    (hhp : w1.heap[hp]? = some (.cells #[.slice a m c, .int .i64 most] 76 (0, 0))) (hown : w1.ownsRow (hp + 1) 84 3 (.slice a m c) n xs) (hl : news.length = 3) (hone : (news.all fun v => v.oneCell') = true) (hc : cellsAt w1 nb 0 news) (hn : n ≤ 2097152) :
    ∃ (a1 : Option Addr) (k c1 : Nat) (w2 : World), Runs P (Builtin.append_ #[74, 74] 74 #[.slice a m c, .slice (some ⟨nb, 0, none⟩) 1 1]) w1 (.slice a1 k c1) w2 ∧ k = n + 1 ∧
      ∀ G : World → Prop, (∀ w3, w3.heap[hp]? = some (.cells #[.slice a1 k c1, .int .i64 most] 76 (0, 0)) → w3.ownsRow (hp + 1) 84 3 (.slice a1 k c1) k (xs ++ news) → Chg (fun k => k = hp ∨ some k = (Value.slice a m c).ownBlock) w1 w3 →
        Nxt w1.heap.size (.slice a m c) (.slice a1 k c1) → G w3) → (canSt w2 hp 0 [.slice a1 k c1] ∧ withW (setL w2 hp 0 [.slice a1 k c1]) G) := by
  have hown' : w1.ownsRow (hp + 1) 84 y84.size (.slice a m c) n xs := by rw [hsz]; exact hown
  obtain ⟨a1, k1, c1, w2, hrun, rfl, hown2, hg, hnx⟩ := append_own (P := P) (ty := 74) h74 ht h84 (by omega) hown' (m := 1) (c := 1) (news := news) (by rw [hl, hsz]) hc hone (by rw [hby]; omega) (by omega) (by have := lt_of_block hhp; omega)
  rw [hsz] at hown2
  refine ⟨a1, _, c1, w2, hrun, rfl, fun G hG => ?_⟩
  have hne : some hp ≠ (Value.slice a m c).ownBlock := fun e => by have := hown.lt hp e.symm; omega
  refine setStep (grown_block hg hhp hne) (by simp) rfl fun w3 at3 same3 hsz3 hg3 => hG w3 at3 ?_ ?_ hnx
  · exact own_block hown2 fun g hg' => same3 g fun e => by have := hown2.lt g hg'; omega
  · exact ⟨hg3.os.trans hg.os, hg3.tape.trans hg.tape, hg3.output.trans hg.output, by rw [hsz3]; exact hg.size, fun k hk hn' => (same3 k fun e => hn' (.inl e)).trans (hg.block k hk fun e => hn' (.inr e))⟩

end Go.Vx.Hp

namespace Go.Proofs.YtfenhbjamohdgaaDoor.Vf
open Go.Vx Go.Vx.Hp Go.RowKit

/-- what Alloc tells -/
def AllocPost (hp : Nat) (w : World) (S : List St) (most : Int) (v : Value) (E0 E1 E2 : Value) (n : Int) (V : List Val) (x : Value) (w' : World) : Prop :=
  ((n < 0 ∨ 8 < V.length ∨ V.all (good S) = false) ∧ x = .tuple #[.agg #[.bool false, .int .i64 0], E1] ∧ Below w.heap.size w w') ∨
  (0 ≤ n ∧ V.length ≤ 8 ∧ V.all (good S) = true ∧ (4096 < 1 + sumN S V ∨ 200 < maxD S V) ∧ x = .tuple #[.agg #[.bool false, .int .i64 0], E2] ∧ Below w.heap.size w w') ∨
  (0 ≤ n ∧ V.length ≤ 8 ∧ V.all (good S) = true ∧ 1 + sumN S V ≤ 4096 ∧ maxD S V ≤ 200 ∧ most < used S + 1 + V.length ∧ x = .tuple #[.agg #[.bool false, .int .i64 0], E0] ∧ Below w.heap.size w w') ∨
  (0 ≤ n ∧ V.length ≤ 8 ∧ V.all (good S) = true ∧ 1 + sumN S V ≤ 4096 ∧ maxD S V ≤ 200 ∧ used S + 1 + V.length ≤ most ∧ x = .tuple #[.agg #[.bool true, .int .i64 (used S : Nat)], .nilIface] ∧
    ∃ b v', w.heap.size ≤ b ∧ Is hp w' (S ++ [⟨b, n, V, 1 + sumN S V, maxD S V⟩]) most v' ∧ Chg (fun k => k = hp ∨ some k = v.ownBlock) w w' ∧ Nxt w.heap.size v v')

set_option maxHeartbeats 1000000 in
theorem Alloc_spec {hp : Nat} {w : World} {S : List St} {most : Int} {v : Value} (h : Is hp w S most v) (E0 E1 E2 : Value) (h0 : w.cell? ⟨0, 0, none⟩ = some E0) (h1 : w.cell? ⟨1, 0, none⟩ = some E1) (h2 : w.cell? ⟨2, 0, none⟩ = some E2) (hlow : 2 < hp)
    (n : Int) (hn : n ≤ 9223372036854775807) (a : Option Addr) (c : Nat) (V : List Val) (hV : Vsl w a V) (hVl : V.length ≤ 1048576) (hap : ∀ b o, a = some ⟨b, o, none⟩ → ¬ Mine hp S v b) :
    Calls Tryd.prog 10 #[.pointer (some ⟨hp, 0, none⟩), .int .i64 n, .slice a V.length c] w fun e w' => ∃ x, e = .returned x ∧ AllocPost hp w S most v E0 E1 E2 n V x w' := by
  refine Alloc.calls (R := fun x w' => AllocPost hp w S most v E0 E1 E2 n V x w') ?_
  unfold Alloc.W
  have hhp := lt_of_block h.blk
  refine box fun w5 at5 hb5 hs5 => ?_
  -- an error is told
  have no : ∀ (w' : World) (g : Nat) (E : Value), w'.heap[w.heap.size]? = some (.cells #[.bool false, .int .i64 0] 30 (0, 0)) → Below w.heap.size w w' → g ≤ 2 → w.cell? ⟨g, 0, none⟩ = some E →
      (∀ w'', Below w.heap.size w w'' → AllocPost hp w S most v E0 E1 E2 n V (.tuple #[.agg #[.bool false, .int .i64 0], E]) w'') →
      withW (World.drew w') fun w6 => (∃ (v7 : Value), World.cell? w6 ⟨g, 0, none⟩ = some v7 ∧ (canSt w6 w.heap.size 0 [(.bool false), (.int .i64 0)] ∧ withW (setL w6 w.heap.size 0 [(.bool false), (.int .i64 0)]) fun w8 =>
        (cellsAt w8 g 0 [v7] ∧ (∃ (b9 : Bool) (n10 : Int), cellsAt w8 w.heap.size 0 [(.bool b9), (.int .i64 n10)] ∧ (AllocPost hp w S most v E0 E1 E2 n V (.tuple #[(.agg #[(.bool b9), (.int .i64 n10)]), v7]) w8))))) := by
    intro w' g E k1 k2 k3 k4 k5
    refine drewStep fun w6 e6 hb6 => ?_
    have b6 : Below w.heap.size w w6 := k2.trans (hb6.mono k2.size)
    have r6 : w6.heap[w.heap.size]? = _ := e6 ▸ k1
    refine ⟨_, cell_below b6 (by omega) k4, fillStep r6 rfl rfl fun w8 at8 same8 hsz8 hg8 => ?_⟩
    have b8 : Below w.heap.size w w8 := ⟨hg8.os.trans b6.os, hg8.tape.trans b6.tape, hg8.output.trans b6.output, by have := b6.size; omega, fun j hj => (same8 j (by omega)).trans (b6.block j hj)⟩
    exact ⟨⟨cell_below b8 (by omega) k4, trivial⟩, _, _, cellsAt_of_block at8 [.bool false, .int .i64 0] 0 rfl, k5 _ b8⟩
  refine ifD (fun hneg => no w5 1 E1 at5 hb5 (by omega) h1 fun w'' b => .inl ⟨.inl hneg, rfl, b⟩) (fun hn0 => ?_)
  refine ifD (fun hgt => no w5 1 E1 at5 hb5 (by omega) h1 fun w'' b => .inl ⟨.inr (.inl (by omega)), rfl, b⟩) (fun hle8 => ?_)
  have hl8 : V.length ≤ 8 := by omega
  have hV5 := hV.kept (w' := w5) fun b o hlt _ => hb5.block b hlt
  refine (goods_spec (h.below hb5) a c V hV5 hVl).mono ?_
  rintro _ w16 ⟨rfl, hb16⟩
  have b16 := hb5.trans (hb16.mono (by omega))
  have s16 := hb16.size
  have r16 := block_below hb16 (by omega) at5
  refine ⟨_, rfl, ifN (fun hbad => no w16 1 E1 r16 b16 (by omega) h1 fun w'' b => .inl ⟨.inr (.inr hbad), rfl, b⟩) (fun hall => ?_)⟩
  have hsum := sumN_le h.ok hall
  rw [w64 (x := 1 + (V.length : Int)) (by omega) (by omega)]
  refine box fun w24 at24 hb24 hs24 => ?_
  have hXlt : w16.heap.size < w24.heap.size := by omega
  -- the sums
  refine ⟨fun us w2 => ∃ j : Nat, j ≤ V.length ∧ us = [.int .i64 j] ∧ Below w16.heap.size w16 w2 ∧ w2.heap[w16.heap.size]? = some (.cells #[.int .i64 n, .int .i64 (1 + (V.length : Int)), .int .i64 (1 + sumN S (V.take j)), .int .i64 (maxD S (V.take j)), .int .i64 0] 80 (0, 0)),
    fun us _ => match us with | [.int _ j] => V.length - j.toNat | _ => 0, ⟨0, Nat.zero_le _, rfl, hb24, at24⟩, ?_⟩
  rintro _ us w27 ⟨j, hj, rfl, hb27, at27⟩
  have b27 := b16.trans (hb27.mono (by omega))
  have s27 := lt_of_block at27
  have r27 := block_below hb27 (by omega) r16
  have h27 := h.below b27
  have hV27 := hV.kept (w' := w27) fun b o hlt _ => b27.block b hlt
  refine ⟨_, rfl, ifD (fun hlt => ?_) (fun hge => ?_)⟩
  · have hlt' : j < V.length := by omega
    obtain ⟨b, o, rfl, hc⟩ := hV27 j hlt'
    refine ⟨b, o, rfl, by omega, hlt, _, _, hc, copyStep rfl rfl fun w36 at36 hb36 hs36 => ?_⟩
    have hgj : good S V[j] = true := by
      have := List.all_eq_true.1 hall V[j] (List.getElem_mem _); exact this
    refine ⟨_, _, cellsAt_of_block at36 [.bool V[j].ref, .int .i64 V[j].n] 0 rfl, ?_⟩
    refine (measure_spec (h27.below hb36) V[j].ref V[j].n hgj).mono ?_
    rintro _ w39 ⟨rfl, hb39⟩
    have at39 := block_below (hb36.trans (hb39.mono (by omega))) s27 at27
    have s39 := hb39.size
    have hnd := nodesOf_le h.ok hgj
    have hnd' : 1 ≤ nodesOf S ⟨V[j].ref, V[j].n⟩ ∧ nodesOf S ⟨V[j].ref, V[j].n⟩ ≤ 4096 ∧ 1 ≤ depthOf S ⟨V[j].ref, V[j].n⟩ ∧ depthOf S ⟨V[j].ref, V[j].n⟩ ≤ 200 := hnd
    have hT := sumN_le (S := S) h.ok (l := V.take j) (by
      rw [List.all_eq_true] at hall ⊢
      exact fun x hx => hall x (List.mem_of_mem_take hx))
    rw [List.length_take] at hT
    have ht : V.take (j + 1) = V.take j ++ [V[j]] := by rw [List.take_succ_eq_append_getElem hlt']
    have hT1 : sumN S (V.take (j + 1)) = sumN S (V.take j) + nodesOf S V[j] := by rw [ht, sumN_snoc]
    have hT2 : maxD S (V.take (j + 1)) = max (maxD S (V.take j)) (depthOf S V[j] + 1) := by rw [ht, maxD_snoc]
    refine ⟨_, _, rfl, _, _, rfl, _, cell_of_block at39 rfl, _, _, rfl, ?_⟩
    rw [w64 (x := 1 + sumN S (V.take j) + nodesOf S ⟨V[j].ref, V[j].n⟩) (by omega) (by omega)]
    refine setStep at39 (by simp) rfl fun w48 at48 same48 hsz48 hg48 => ?_
    refine ⟨_, _, rfl, _, cell_of_block at48 rfl, _, _, rfl, ?_⟩
    rw [w64 (x := depthOf S ⟨V[j].ref, V[j].n⟩ + 1) (by omega) (by omega), w64 (x := (j : Int) + 1) (by omega) (by omega)]
    refine setStep at48 (by show 4 ≤ 5; omega) rfl fun w54 at54 same54 hsz54 hg54 => ?_
    have bb : Below w16.heap.size w16 w54 := by
      have b39 := (hb27.trans (hb36.mono (by omega))).trans (hb39.mono (by omega))
      exact ⟨hg54.os.trans (hg48.os.trans b39.os), hg54.tape.trans (hg48.tape.trans b39.tape), hg54.output.trans (hg48.output.trans b39.output), by omega, fun k hk => (same54 k (by omega)).trans ((same48 k (by omega)).trans (b39.block k hk))⟩
    refine ⟨⟨j + 1, hlt', rfl, bb, ?_⟩, by simp only; omega⟩
    rw [at54, hT1, hT2]
    have e1 : 1 + sumN S (V.take j) + nodesOf S V[j] = 1 + (sumN S (V.take j) + nodesOf S V[j]) := by omega
    have e2 : (if maxD S (V.take j) < depthOf S V[j] + 1 then depthOf S V[j] + 1 else maxD S (V.take j)) = max (maxD S (V.take j)) (depthOf S V[j] + 1) := by split <;> omega
    rw [← e1, ← e2]
    rfl
  · have : j = V.length := by omega
    subst this
    rw [List.take_length] at at27
    refine ⟨_, _, rfl, _, cell_of_block at27 rfl, ifD (fun hl => no w27 2 E2 r27 b27 (by omega) h2 fun w'' b => .inr (.inl ⟨by omega, hl8, hall, .inl (by omega), rfl, b⟩)) (fun hl => ?_)⟩
    refine ⟨_, _, rfl, _, cell_of_block at27 rfl, ifD (fun hl => no w27 2 E2 r27 b27 (by omega) h2 fun w'' b => .inr (.inl ⟨by omega, hl8, hall, .inr (by omega), rfl, b⟩)) (fun hl' => ?_)⟩
    refine drewStep fun w71 e71 hb71 => ?_
    have b71 : Below w.heap.size w w71 := b27.trans (hb71.mono b27.size)
    have h71 := h.below b71
    have at71 : w71.heap[w16.heap.size]? = _ := e71 ▸ at27
    have r71 : w71.heap[w.heap.size]? = _ := e71 ▸ r27
    have s71 : w71.heap.size = w27.heap.size := by rw [e71]
    obtain ⟨av, cv, rfl, hcv, _⟩ := h.slice
    have hfits := h.fits
    have hm1 := h.most1
    refine ⟨_, _, rfl, _, _, _, cell_of_block h71.blk rfl, _, _, rfl, _, cell_of_block at71 rfl, _, _, rfl, _, cell_of_block h71.blk rfl, ?_⟩
    rw [w64 (x := (used S : Int) + (1 + (V.length : Int))) (by omega) (by omega)]
    refine ifD (fun hfull => no w71 0 E0 r71 b71 (by omega) h0 fun w'' b => .inr (.inr (.inl ⟨by omega, hl8, hall, by omega, by omega, by omega, rfl, b⟩))) (fun hroom => ?_)
    refine ⟨_, _, rfl, _, _, _, cell_of_block h71.blk rfl, _, _, rfl, _, _, _, cell_of_block h71.blk rfl, box fun w98 at98 hb98 hs98 => ?_⟩
    have h98 := h71.below hb98
    obtain ⟨a99, k99, c99, w102, hr102, rfl, hgo⟩ := push (P := Tryd.prog) ty74 rfl ty84 rfl rfl h98.blk h98.own (news := [.bool false, .int .i64 0, .pointer (some ⟨w16.heap.size, 0, none⟩)]) rfl rfl (cellsAt_of_block at98 [.bool false, .int .i64 0, .pointer (some ⟨w16.heap.size, 0, none⟩)] 0 rfl) (by omega)
    refine ⟨_, _, _, w102, hr102, _, _, rfl, hgo _ fun w105 at105 own105 chg105 nx105 => ?_⟩
    have b98 : Below w.heap.size w w98 := b71.trans (hb98.mono b71.size)
    have c105 : Chg (fun k => k = hp ∨ some k = (Value.slice av (used S) cv).ownBlock) w w105 := (Chg.of_below (M := fun k => k = hp ∨ some k = (Value.slice av (used S) cv).ownBlock) b98 fun k hk _ => hk).trans chg105 fun k _ hk => hk
    have hownlt : ∀ g, (Value.slice av (used S) cv).ownBlock = some g → hp < g ∧ g < w.heap.size := fun g hg => by have := h.own.lt g hg; omega
    have hXne : ¬ (w16.heap.size = hp ∨ some w16.heap.size = (Value.slice av (used S) cv).ownBlock) := by
      rintro (e | e)
      · omega
      · have := hownlt _ e.symm; omega
    have hRne : ¬ (w.heap.size = hp ∨ some w.heap.size = (Value.slice av (used S) cv).ownBlock) := by
      rintro (e | e)
      · omega
      · have := hownlt _ e.symm; omega
    have at98' := block_below hb98 (by omega) at71
    have r98 := block_below hb98 (by omega) r71
    -- the arguments
    refine ⟨fun us w2 => ∃ (j : Nat) (a' : Option Addr) (c' : Nat), j ≤ V.length ∧ us = [.int .i64 j] ∧ w2.heap[hp]? = some (.cells #[.slice a' (used S + 1 + j) c', .int .i64 most] 76 (0, 0)) ∧
        w2.ownsRow (hp + 1) 84 3 (.slice a' (used S + 1 + j) c') (used S + 1 + j) (flat (cells S) ++ (⟨⟨false, 0⟩, some w16.heap.size⟩ : Cell).cs ++ flat ((V.take j).map fun x => ⟨x, none⟩)) ∧
        Chg (fun k => k = hp ∨ some k = (Value.slice av (used S) cv).ownBlock) w w2 ∧ Nxt w98.heap.size (.slice av (used S) cv) (.slice a' (used S + 1 + j) c') ∧
        w2.heap[w16.heap.size]? = w71.heap[w16.heap.size]? ∧ w2.heap[w.heap.size]? = some (.cells #[.bool false, .int .i64 0] 30 (0, 0)) ∧ w98.heap.size ≤ w2.heap.size,
      fun us _ => match us with | [.int _ j] => V.length - j.toNat | _ => 0, ⟨0, a99, c99, Nat.zero_le _, rfl, at105, by simpa [flat, Cell.cs] using own105, c105, nx105, (chg105.block _ (by omega) hXne).trans (hb98.block _ (by omega)), (chg105.block _ (by omega) hRne).trans r98, chg105.size⟩, ?_⟩
    rintro _ us w108 ⟨i, a', c', hi, rfl, at108, own108, c108, nx108, x108, r108, s108⟩
    refine ⟨_, rfl, ifD (fun hlt => ?_) (fun hge => ?_)⟩
    · have hlt' : i < V.length := by omega
      have hV108 := hV.kept (w' := w108) fun b o hlt e => c108.block b hlt fun hk => hap b o e (hk.elim .inl fun hk => .inr (.inl hk))
      obtain ⟨b, o, rfl, hc⟩ := hV108 i hlt'
      refine ⟨b, o, rfl, by omega, hlt, _, _, hc, copyStep rfl rfl fun w117 at117 hb117 hs117 => drewStep fun w118 e118 hb118 => ?_⟩
      have at118 : w118.heap[w108.heap.size]? = _ := e118 ▸ at117
      have hhp108 := lt_of_block at108
      have hb118' : Below w108.heap.size w108 w118 := hb117.trans (hb118.mono (by omega))
      have hp118 := block_below hb118' hhp108 at108
      refine ⟨_, _, rfl, _, _, _, cell_of_block hp118 rfl, _, _, cellsAt_of_block at118 [.bool V[i].ref, .int .i64 V[i].n] 0 rfl, box fun w126 at126 hb126 hs126 => ?_⟩
      have s118 : w118.heap.size = w108.heap.size + 1 := by rw [e118]; omega
      have hb126' : Below w108.heap.size w108 w126 := hb118'.trans (hb126.mono (by omega))
      have hp126 := block_below hb126' hhp108 at108
      have own126 := own_below own108 hb126' (Nat.le_refl _)
      obtain ⟨a127, k127, c127, w130, hr130, rfl, hgo'⟩ := push (P := Tryd.prog) ty74 rfl ty84 rfl rfl hp126 own126 (news := [.bool V[i].ref, .int .i64 V[i].n, .pointer none]) rfl rfl (cellsAt_of_block at126 [.bool V[i].ref, .int .i64 V[i].n, .pointer none] 0 rfl) (by omega)
      refine ⟨cellsAt_of_block hp126 [_] 0 rfl, _, _, _, w130, hr130, _, _, rfl, hgo' _ fun w133 at133 own133 chg133 nx133 => ?_⟩
      rw [w64 (x := (i : Int) + 1) (by omega) (by omega)]
      have ht : V.take (i + 1) = V.take i ++ [V[i]] := by rw [List.take_succ_eq_append_getElem hlt']
      have hmine : ∀ k, k < w98.heap.size → (k = hp ∨ some k = (Value.slice a' (used S + 1 + i) c').ownBlock) → (k = hp ∨ some k = (Value.slice av (used S) cv).ownBlock) := by
        rintro k hk (e | e)
        · exact .inl e
        · rcases nx108 with e' | ⟨q, hq, e'⟩
          · exact .inr (e.trans e')
          · rw [e'] at e; cases e; omega
      have s133 := chg133.size
      refine ⟨⟨i + 1, a127, c127, hlt', rfl, at133, ?_, ?_, nx108.trans nx133 (by omega), ?_, ?_, by omega⟩, by simp only; omega⟩
      · rw [ht, List.map_append, flat_append, ← List.append_assoc]
        exact own133
      · exact (c108.trans (Chg.of_below (M := fun _ => False) hb126' fun k hk _ => hk) fun k _ hk => hk.elim).trans chg133 fun k hk hk' => hmine k (by have := b98.size; omega) hk'
      · exact (chg133.block _ (by omega) fun hk => hXne (hmine _ (by omega) hk)).trans ((hb126'.block _ (by omega)).trans x108)
      · exact (chg133.block _ (by omega) fun hk => hRne (hmine _ (by omega) hk)).trans ((hb126'.block _ (by omega)).trans r108)
    · have : i = V.length := by omega
      subst this
      rw [List.take_length] at own108
      refine fillStep r108 rfl rfl fun w134 at134 same134 hsz134 hg134 => ⟨_, _, cellsAt_of_block at134 [.bool true, .int .i64 (used S : Nat)] 0 rfl, ?_⟩
      refine .inr (.inr (.inr ⟨by omega, hl8, hall, by omega, by omega, by omega, rfl, w16.heap.size, .slice a' (used S + 1 + V.length) c', by omega, ?_, ?_, ?_⟩))
      · have hu : used (S ++ [⟨w16.heap.size, n, V, 1 + sumN S V, maxD S V⟩]) = used S + 1 + V.length := by
          rw [used_append, used_cons, used_nil]; simp [St.size]; omega
        have hcs : flat (cells (S ++ [⟨w16.heap.size, n, V, 1 + sumN S V, maxD S V⟩])) = flat (cells S) ++ (⟨⟨false, 0⟩, some w16.heap.size⟩ : Cell).cs ++ flat (V.map fun x => ⟨x, none⟩) := by
          rw [cells_append, flat_append]; simp [cells, St.cells, flat]
        refine ⟨(same134 hp (by omega)).trans at108, ?_, ?_, ?_, h.most0, h.most1, by rw [hu]; omega, ?_, ?_⟩
        · rw [hu, hcs]
          refine own_block own108 fun g hg => same134 g fun e => ?_
          rcases nx108 with e' | ⟨q, hq, e'⟩
          · rw [e'] at hg; have := hownlt g hg; omega
          · rw [e'] at hg; cases hg; omega
        · intro s hs
          have hne : ∀ b, b < w98.heap.size → ¬ some b = (Value.slice av (used S) cv).ownBlock → some b ≠ (Value.slice a' (used S + 1 + V.length) c').ownBlock := by
            intro b hb hne e
            rcases nx108 with e' | ⟨q, hq, e'⟩
            · exact hne (e.trans e')
            · rw [e'] at e; cases e; omega
          rcases List.mem_append.1 hs with hs | hs
          · obtain ⟨k1, k2, k3, k4⟩ := h.hd s hs
            refine ⟨k1, by omega, hne _ (by omega) k3, ?_⟩
            exact (same134 _ (by omega)).trans ((c108.block _ k2 fun hk => by rcases hk with e | e; omega; exact k3 e).trans k4)
          · rw [List.mem_singleton] at hs
            subst hs
            refine ⟨by show hp < w16.heap.size; omega, by show w16.heap.size < _; omega, hne _ (by show w16.heap.size < _; omega) fun e => hXne (.inr e), ?_⟩
            show w134.heap[w16.heap.size]? = _
            rw [same134 _ (by omega), x108, at71]
            simp only [hdObj, St.size]
            congr 4
        · intro s hs
          rcases List.mem_append.1 hs with hs | hs
          · exact h.ok s hs
          · rw [List.mem_singleton] at hs
            subst hs
            exact ⟨by show 0 ≤ n; omega, hn, hl8, by show 1 ≤ 1 + sumN S V; omega, by show 1 + sumN S V ≤ 4096; omega, by show 1 ≤ maxD S V; omega, by show maxD S V ≤ 200; omega⟩
        · rw [List.map_append, List.nodup_append]
          refine ⟨h.nd, List.nodup_cons.2 ⟨by simp, List.nodup_nil⟩, fun x hx y hy e => ?_⟩
          obtain ⟨s, hs, rfl⟩ := List.mem_map.1 hx
          have h5 := (h.hd s hs).2.1
          have h6 : y = w16.heap.size := by simpa using hy
          omega
        · intro s hs
          rw [List.all_eq_true]
          rcases List.mem_append.1 hs with hs | hs
          · exact fun x hx => good_append (List.all_eq_true.1 (h.cl s hs) x hx)
          · rw [List.mem_singleton] at hs
            subst hs
            exact fun x hx => good_append (List.all_eq_true.1 hall x hx)
      · exact c108.trans (M' := fun k => k = w.heap.size) hg134 fun k hk e => by omega
      · rcases nx108 with e' | ⟨q, hq, e'⟩
        · exact .inl e'
        · exact .inr ⟨q, by omega, e'⟩

end Go.Proofs.YtfenhbjamohdgaaDoor.Vf
end

/- part H1C -/
section
namespace Go.Proofs.YtfenhbjamohdgaaDoor.Vf
open Go.Vx Go.Vx.Hp Go.RowKit

variable {hp : Nat} {w : World} {S : List St} {most : Int} {v : Value}

theorem Get_bad (h : Is hp w S most v) (E1 : Value) (h1 : w.cell? ⟨1, 0, none⟩ = some E1) (hlow : 2 < hp) (r : Bool) (n : Int) (hb : r = false ∨ good S ⟨r, n⟩ = false) :
    Calls Tryd.prog 11 #[.pointer (some ⟨hp, 0, none⟩), .agg #[.bool r, .int .i64 n]] w fun e w' => e = .returned (.tuple #[.int .i64 0, .slice none 0 0, E1]) ∧ Below w.heap.size w w' := by
  refine (Get.calls (R := fun x w' => x = .tuple #[.int .i64 0, .slice none 0 0, E1] ∧ Below w.heap.size w w') ?_).mono (fun x w' ⟨v, h1, h2, h3⟩ => ⟨by rw [h1, h2], h3⟩)
  unfold Get.W
  have hlt := lt_of_block h.blk
  refine box fun w3 at3 hb3 hs3 => ?_
  refine ⟨_, cell_of_block at3 rfl, ifN (fun hr => drewStep fun w5 e5 hb5 => ?_) (fun hr => ?_)⟩
  · have b5 : Below w.heap.size w w5 := hb3.trans (hb5.mono (by omega))
    exact ⟨_, cell_below b5 (by omega) h1, rfl, b5⟩
  · refine ⟨_, _, cellsAt_of_block at3 [.bool r, .int .i64 n] 0 rfl, (hgood_spec (h.below hb3) r n).mono ?_⟩
    rintro _ w9 ⟨rfl, hb9⟩
    have b9 := hb3.trans (hb9.mono (by omega))
    have hbad : good S ⟨r, n⟩ = false := by
      rcases hb with hb | hb
      · rw [hb] at hr; cases hr
      · exact hb
    refine ⟨_, rfl, ifN (fun _ => drewStep fun w12 e12 hb12 => ?_) (fun hg => absurd (hbad.symm.trans hg) (by decide))⟩
    have b12 : Below w.heap.size w w12 := b9.trans (hb12.mono b9.size)
    exact ⟨_, cell_below b12 (by omega) h1, rfl, b12⟩

def vflat (V : List Val) : List Value := V.flatMap Val.cs

theorem Get_ok (h : Is hp w S most v) (n : Int) (s : St) (hg : good S ⟨true, n⟩ = true) (hs : find S n.toNat = some s) :
    Calls Tryd.prog 11 #[.pointer (some ⟨hp, 0, none⟩), .agg #[.bool true, .int .i64 n]] w fun e w' => ∃ a c, e = .returned (.tuple #[.int .i64 s.ctor, .slice a s.args.length c, .nilIface]) ∧ Below w.heap.size w w' ∧
      w'.ownsRow w.heap.size 30 2 (.slice a s.args.length c) s.args.length (vflat s.args) := by
  refine (Get.calls (R := fun x w' => ∃ a c, x = .tuple #[.int .i64 s.ctor, .slice a s.args.length c, .nilIface] ∧ Below w.heap.size w w' ∧
      w'.ownsRow w.heap.size 30 2 (.slice a s.args.length c) s.args.length (vflat s.args)) ?_).mono (fun x w' ⟨v, h1, a, c, h2, h3⟩ => ⟨a, c, by rw [h1, h2], h3⟩)
  unfold Get.W
  have hlt := lt_of_block h.blk
  have hok := h.ok s (find_mem hs)
  refine box fun w3 at3 hb3 hs3 => ?_
  refine ⟨_, cell_of_block at3 rfl, ifN (fun h => nomatch h) (fun _ => ?_)⟩
  refine ⟨_, _, cellsAt_of_block at3 [.bool true, .int .i64 n] 0 rfl, (hgood_spec (h.below hb3) true n).mono ?_⟩
  rintro _ w9 ⟨rfl, hb9⟩
  have b9 := hb3.trans (hb9.mono (by omega))
  have at9 := block_below hb9 (by omega) at3
  refine ⟨_, rfl, ifN (fun hbad => absurd (hbad.symm.trans hg) (by decide)) (fun _ => ?_)⟩
  have h9 := h.below b9
  refine ⟨_, cell_of_block at9 rfl, (hargs_spec h9 n s hg hs).mono ?_⟩
  rintro _ w15 ⟨a17, c17, rfl, e15, hb15, hargs⟩
  have b15 := b9.trans (hb15.mono b9.size)
  have s15 : w15.heap.size = w9.heap.size := by rw [e15]
  have at15 : w15.heap[w.heap.size]? = _ := e15 ▸ at9
  have s9 := hb9.size
  have h8 : s.args.length ≤ 8 := hok.2.2.1
  refine ⟨_, _, _, rfl, fun us w2 => ∃ (j : Nat) (a' : Option Addr) (c' : Nat), j ≤ s.args.length ∧ us = [.slice a' j c', .int .i64 j] ∧ w2.ownsRow w15.heap.size 30 2 (.slice a' j c') j (vflat (s.args.take j)) ∧ Below w15.heap.size w15 w2,
    fun us _ => match us with | [_, .int _ j] => s.args.length - j.toNat | _ => 0, ⟨0, none, 0, Nat.zero_le _, rfl, World.ownsRow_nil _ _ _ _, Below.refl _ _⟩, ?_⟩
  rintro _ us w22 ⟨j, a', c', hj, rfl, own22, hb22⟩
  have s22 := hb22.size
  refine ⟨_, _, _, _, rfl, ifD (fun hlt' => ?_) (fun hge => ?_)⟩
  · have hjl : j < s.args.length := by omega
    obtain ⟨g, rfl, hgo, hcell⟩ := hargs (by omega)
    have hc := hcell j hjl
    have hc22 := cellsAt_below hb22 (cellsAt_lt hc) hc
    refine ⟨g, _, rfl, by omega, hlt', _, _, _, hc22, copyStep rfl rfl fun w35 at35 hb35 hs35 => ?_⟩
    refine ⟨_, _, cellsAt_of_block at35 [.bool s.args[j].ref, .int .i64 s.args[j].n] 0 rfl, box fun w38 at38 hb38 hs38 => ?_⟩
    have b38 : Below w22.heap.size w22 w38 := hb35.trans (hb38.mono (by omega))
    have own38 := own_below own22 b38 (Nat.le_refl _)
    obtain ⟨a39, k39, c39, w42, hr42, rfl, own42, hg42, hn42⟩ := append_own (P := Tryd.prog) (ty := 33) ty33 rfl ty30 (by decide) own38 (m := 1) (c := 1) (news := [.bool s.args[j].ref, .int .i64 s.args[j].n]) rfl (cellsAt_of_block at38 [.bool s.args[j].ref, .int .i64 s.args[j].n] 0 rfl) rfl (by dsimp only; omega) (by omega) (by omega)
    refine ⟨_, _, _, w42, hr42, ?_⟩
    rw [w64 (x := (j : Int) + 1) (by omega) (by omega)]
    have b42 : Below w15.heap.size w38 w42 := own_grown own38 hg42 (Nat.le_refl _) (by omega)
    refine ⟨⟨j + 1, a39, c39, hjl, rfl, ?_, (hb22.trans (b38.mono s22)).trans b42⟩, by simp only; omega⟩
    rw [List.take_succ_eq_append_getElem hjl, vflat, List.flatMap_append]
    exact own42
  · have : j = s.args.length := by omega
    subst this
    rw [List.take_length] at own22
    refine drewStep fun w43 e43 hb43 => ?_
    have b22 := b15.trans (hb22.mono (by omega))
    have b43 : Below w.heap.size w w43 := b22.trans (hb43.mono b22.size)
    have h43 := h.below b43
    have at22 := block_below hb22 (by omega) at15
    have at43 : w43.heap[w.heap.size]? = _ := e43 ▸ at22
    obtain ⟨s', g, c, hs', hm, h0, hl, rfl, hc, hh⟩ := is_at h43 hg
    rw [hs] at hs'; cases hs'
    have := s.size_pos
    refine ⟨_, _, rfl, _, _, _, cell_of_block h43.blk rfl, _, cell_of_block at43 rfl, g, 0, rfl, h0, by omega, _, hc, _, _, rfl, _, cell_of_block hh rfl, a', c', rfl, b43, ?_⟩
    have own43 := own_below own22 hb43 (Nat.le_refl _)
    exact own43.mono (by omega)

/-- a collection without roots -/
theorem Collect_none (h : Is hp w S most v) (c : Nat) : Calls Tryd.prog 13 #[.pointer (some ⟨hp, 0, none⟩), .slice none 0 c] w fun e w' => e = .returned .nilIface ∧ Is hp w' [] most (.slice none 0 0) ∧ Chg (fun k => k = hp) w w' := by
  refine (Collect.calls (R := fun x w' => x = .nilIface ∧ Is hp w' [] most (.slice none 0 0) ∧ Chg (fun k => k = hp) w w') ?_).mono (fun x w' ⟨v, h1, h2, h3⟩ => ⟨by rw [h1, h2], h3⟩)
  unfold Collect.W
  have hlt := lt_of_block h.blk
  refine ⟨fun us w2 => us = [.int .i64 0] ∧ w = w2, fun _ _ => 0, ⟨rfl, rfl⟩, ?_⟩
  rintro _ us _ ⟨rfl, rfl⟩
  refine ⟨_, rfl, ifD (fun h => absurd h (by decide)) (fun _ => ?_)⟩
  obtain ⟨av, cv, rfl, hcv, _⟩ := h.slice
  refine ⟨_, _, rfl, _, _, _, cell_of_block h.blk rfl, box fun w27 at27 hb27 hs27 => box fun w28 at28 hb28 hs28 => ?_⟩
  have b28 : Below w.heap.size w w28 := hb27.trans (hb28.mono (by omega))
  have at28' := block_below hb28 (by omega) at27
  refine ⟨fun us w2 => us = [.int .i64 0] ∧ w28 = w2, fun _ _ => 0, ⟨rfl, rfl⟩, ?_⟩
  rintro _ us _ ⟨rfl, rfl⟩
  refine ⟨_, rfl, ifD (fun h => absurd h (by decide)) (fun _ => ?_)⟩
  refine ⟨fun us w2 => us = [.int .i64 0] ∧ w28 = w2, fun _ _ => 0, ⟨rfl, rfl⟩, ?_⟩
  rintro _ us _ ⟨rfl, rfl⟩
  refine ⟨_, rfl, _, _, rfl, _, _, _, cell_of_block at28' rfl, ifD (fun h => absurd h (by decide)) (fun _ => ?_)⟩
  refine ⟨_, _, rfl, _, _, _, cell_of_block at28' rfl, fun us w2 => us = [.int .i64 0] ∧ w28 = w2, fun _ _ => 0, ⟨rfl, rfl⟩, ?_⟩
  rintro _ us _ ⟨rfl, rfl⟩
  refine ⟨_, rfl, ifD (fun h => absurd h (by decide)) (fun _ => ?_)⟩
  have h28 := block_below b28 hlt h.blk
  refine ⟨_, _, rfl, _, _, _, cell_of_block at28' rfl, _, _, rfl, setStep h28 (by simp) rfl fun w125 at125 same125 hsz125 hg125 => ⟨rfl, ⟨at125, World.ownsRow_nil _ _ _ _, (fun s hs => nomatch hs), (fun s hs => nomatch hs), h.most0, h.most1, by rw [used_nil]; exact h.most0, List.nodup_nil, (fun s hs => nomatch hs)⟩, ?_⟩⟩
  exact (Chg.of_below (M := fun k => k = hp) b28 fun k hk _ => hk).trans hg125 fun k _ hk => hk

end Go.Proofs.YtfenhbjamohdgaaDoor.Vf
end

/- part H1D -/
section
namespace Go.Proofs.YtfenhbjamohdgaaDoor.Vf
open Go.Vx Go.Vx.Hp Go.RowKit

theorem guard30 : Tryd.prog.eqGuardType Tryd.prog.depth 30 = false := by kernel_rfl
theorem held30 : Tryd.prog.stoodInHeld 30 = false := by kernel_rfl
theorem struct30 : Tryd.prog.underlying 30 = some (.struct (Tryd.prog.fieldsOf 30)) := by kernel_rfl

theorem val_eq (w : World) (xo yo : Operand) (a b : Val) : Runs Tryd.prog (semEq .eql 30 xo yo (.agg #[.bool a.ref, .int .i64 a.n]) (.agg #[.bool b.ref, .int .i64 b.n])) w (.bool (a.ref == b.ref && a.n == b.n)) w := by
  unfold Runs semEq
  rw [Sem.run_bind, run_eqGuard_agg w _ _ _ _ _ _ guard30, Result.andThen_ok, run_eql_struct, run_equalIn_agg w _ _ _ _ struct30 held30]
  obtain ⟨f, g, e, h1, h2, h3, h4, h5, h6⟩ : ∃ f g, (Tryd.prog.fieldsOf 30).toList = [f, g] ∧ f.name = "Ref" ∧ g.name = "N" ∧ f.type = 4 ∧ g.type = 3 ∧ f.offset = 0 ∧ g.offset = 1 := by
    have hm : (Tryd.prog.fieldsOf 30).toList.map (fun f => (f.name, f.type, f.offset)) = [("Ref", 4, 0), ("N", 3, 1)] := by kernel_rfl
    obtain ⟨f, t, e, hf, ht⟩ := List.map_eq_cons_iff.1 hm
    obtain ⟨g, t', e', hg, ht'⟩ := List.map_eq_cons_iff.1 ht
    have e2 : t' = [] := List.map_eq_nil_iff.1 ht'
    subst e2 e'
    simp only [Prod.mk.injEq] at hf hg
    exact ⟨f, g, e, hf.1, hg.1, hf.2.1, hg.2.1, hf.2.2, hg.2.2⟩
  rw [e]
  have p1 : ∀ (cs : Array Value) (x : Bool), cs[0]? = some (.bool x) → (part 4 cs 0).run Tryd.prog w = .ok (.bool x) w := fun cs x h => by simp [part, isAgg, run_underlying Tryd.underlying4, h]
  have p2 : ∀ (cs : Array Value) (x : Int), cs[1]? = some (.int .i64 x) → (part 3 cs 1).run Tryd.prog w = .ok (.int .i64 x) w := fun cs x h => by simp [part, isAgg, run_underlying Tryd.underlying3, h]
  simp only [Op.eqFields, h1, h2, h3, h4, h5, h6]
  rw [if_pos (by decide)]
  simp only [Sem.run_bind, p1 #[.bool a.ref, .int .i64 a.n] a.ref rfl, p1 #[.bool b.ref, .int .i64 b.n] b.ref rfl, Result.andThen_ok, run_equalIn_bool' w 9998 4 _ _ Tryd.underlying4, Sem.run_ite]
  cases hb : (a.ref == b.ref)
  · simp
  · simp only [Bool.not_true, Bool.false_eq_true, if_false, if_pos (show "N" ≠ "_" by decide), p2 #[.bool a.ref, .int .i64 a.n] a.n rfl, p2 #[.bool b.ref, .int .i64 b.n] b.n rfl, Result.andThen_ok, run_equalIn_int w 9998 3 .i64 .i64 _ _ Tryd.underlying3]
    cases hn : (a.n == b.n) <;> simp

end Go.Proofs.YtfenhbjamohdgaaDoor.Vf

namespace Go.Proofs.YtfenhbjamohdgaaDoor.Vf
open Go.Vx Go.Vx.Hp Go.RowKit

/-- the errors' variables: ErrHeap, ErrState, ErrLarge -/
structure Glob (w : World) (tE : Nat) (aH : Addr) (E1 E2 : Value) : Prop where
  heap : w.cell? ⟨0, 0, none⟩ = some (.iface tE (.pointer (some aH)))
  state : w.cell? ⟨1, 0, none⟩ = some E1
  large : w.cell? ⟨2, 0, none⟩ = some E2
  size : 3 ≤ w.heap.size
theorem Glob.kept {w w' : World} {tE : Nat} {aH : Addr} {E1 E2 : Value} (h : Glob w tE aH E1 E2) (hb : Below 3 w w') : Glob w' tE aH E1 E2 :=
  ⟨cell_below hb (by omega) h.heap, cell_below hb (by omega) h.state, cell_below hb (by omega) h.large, Nat.le_trans h.size hb.size⟩

/-- what says that the errors compare -/
structure ErrTy (tE : Nat) : Prop where
  eq : ∀ (w : World) (xo yo : Operand) (a : Addr), Runs Tryd.prog (semEq .eql 26 xo yo (.iface tE (.pointer (some a))) (.iface tE (.pointer (some a)))) w (.bool true) w
  ne : ∀ (w : World) (xo yo : Operand) (a : Addr), Runs Tryd.prog (semEq .neq 26 xo yo (.iface tE (.pointer (some a))) (.iface tE (.pointer (some a)))) w (.bool false) w

/-- Alloc where there is room -/
theorem Alloc_ok {hp : Nat} {w : World} {S : List St} {most : Int} {v : Value} {tE : Nat} {aH : Addr} {E1 E2 : Value} (h : Is hp w S most v) (hg : Glob w tE aH E1 E2) (hlow : 2 < hp) (n : Int) (hn0 : 0 ≤ n) (hn : n ≤ 9223372036854775807) (a : Option Addr) (c : Nat) (V : List Val) (hV : Vsl w a V)
    (hap : ∀ b o, a = some ⟨b, o, none⟩ → ¬ Mine hp S v b) (h8 : V.length ≤ 8) (hall : V.all (good S) = true) (h1 : 1 + sumN S V ≤ 4096) (h2 : maxD S V ≤ 200) (hroom : used S + 1 + V.length ≤ most) :
    Calls Tryd.prog 10 #[.pointer (some ⟨hp, 0, none⟩), .int .i64 n, .slice a V.length c] w fun e w' => e = .returned (.tuple #[.agg #[.bool true, .int .i64 (used S : Nat)], .nilIface]) ∧
      ∃ b v', w.heap.size ≤ b ∧ Is hp w' (S ++ [⟨b, n, V, 1 + sumN S V, maxD S V⟩]) most v' ∧ Chg (fun k => k = hp ∨ some k = v.ownBlock) w w' ∧ Nxt w.heap.size v v' := by
  refine (Alloc_spec h _ E1 E2 hg.heap hg.state hg.large hlow n hn a c V hV (by omega) hap).mono ?_
  rintro _ w' ⟨x, rfl, ⟨k, _⟩ | ⟨_, _, _, k, _⟩ | ⟨_, _, _, _, _, k, _⟩ | ⟨_, _, _, _, _, _, rfl, k⟩⟩
  · rcases k with k | k | k
    · omega
    · omega
    · rw [hall] at k; cases k
  · omega
  · omega
  · exact ⟨rfl, k⟩

theorem Alloc_full {hp : Nat} {w : World} {S : List St} {most : Int} {v : Value} {tE : Nat} {aH : Addr} {E1 E2 : Value} (h : Is hp w S most v) (hg : Glob w tE aH E1 E2) (hlow : 2 < hp) (n : Int) (hn0 : 0 ≤ n) (hn : n ≤ 9223372036854775807) (a : Option Addr) (c : Nat) (V : List Val) (hV : Vsl w a V)
    (hap : ∀ b o, a = some ⟨b, o, none⟩ → ¬ Mine hp S v b) (h8 : V.length ≤ 8) (hall : V.all (good S) = true) (h1 : 1 + sumN S V ≤ 4096) (h2 : maxD S V ≤ 200) (hroom : most < used S + 1 + V.length) :
    Calls Tryd.prog 10 #[.pointer (some ⟨hp, 0, none⟩), .int .i64 n, .slice a V.length c] w fun e w' => e = .returned (.tuple #[.agg #[.bool false, .int .i64 0], .iface tE (.pointer (some aH))]) ∧ Below w.heap.size w w' := by
  refine (Alloc_spec h _ E1 E2 hg.heap hg.state hg.large hlow n hn a c V hV (by omega) hap).mono ?_
  rintro _ w' ⟨x, rfl, ⟨k, _⟩ | ⟨_, _, _, k, _⟩ | ⟨_, _, _, _, _, k, rfl, hb⟩ | ⟨_, _, _, _, _, k, _⟩⟩
  · rcases k with k | k | k
    · omega
    · omega
    · rw [hall] at k; cases k
  · omega
  · exact ⟨rfl, hb⟩
  · omega

theorem vflat_get {w : World} {g : Nat} {V : List Val} (h : cellsAt w g 0 (vflat V)) {j : Nat} (hj : j < V.length) : cellsAt w g (0 + j * 2) V[j].cs := by
  have h1 := cellsAt_take 2 (cellsAt_drop (j * 2) h)
  have e : ((vflat V).drop (j * 2)).take 2 = V[j].cs := by
    clear h h1
    induction V generalizing j with
    | nil => simp at hj
    | cons x r ih =>
      cases j with
      | zero => simp [vflat, Val.cs]
      | succ j =>
        have := ih (j := j) (by simpa using hj)
        rw [List.getElem_cons_succ, ← this]
        simp only [vflat, List.flatMap_cons]
        rw [show (j + 1) * 2 = x.cs.length + j * 2 by simp [Val.cs]; omega, List.drop_append]
        simp [List.drop_of_length_le]
  rw [e] at h1; exact h1

/-- a row of values of one's own, read -/
theorem own_vals {w : World} {base n : Nat} {v : Value} {V : List Val} (h : w.ownsRow base 30 2 v n (vflat V)) (hn : n = V.length) : ∃ a c, v = .slice a n c ∧ ∀ j (hj : j < V.length), ∃ g, a = some ⟨g, 0, none⟩ ∧ base ≤ g ∧ g < w.heap.size ∧ cellsAt w g (0 + j * 2) V[j].cs := by
  obtain ⟨hxl, ⟨rfl, h0⟩ | ⟨g, cap, cur, rfl, hg, hh, h1, h2, h3, h4⟩⟩ := h
  · exact ⟨none, 0, by rw [h0], fun j hj => by omega⟩
  · refine ⟨_, cap, rfl, fun j hj => ⟨g, rfl, hg, lt_of_block hh, vflat_get (cellsAt_of_block hh _ 0 ?_) hj⟩⟩
    rw [List.drop_zero, hxl]; exact h4

set_option linter.unusedSimpArgs false in
set_option maxHeartbeats 1000000 in
theorem alive_spec {w : World} {tE : Nat} {aH : Addr} {E1 E2 : Value} (hg : Glob w tE aH E1 E2) (hE : ErrTy tE) : Calls Tryd.prog 8 #[] w fun e w' => e = .returned (.bool true) ∧ Below w.heap.size w w' := by
  refine (alive.calls (R := fun x w' => x = .bool true ∧ Below w.heap.size w w') ?_).mono (fun x w' ⟨v, h1, h2, h3⟩ => ⟨by rw [h1, h2], h3⟩)
  unfold alive.W
  have hsz := hg.size
  refine (New_ok 5 w (by decide) (by decide)).mono ?_
  rintro _ w1 ⟨rfl, hb1, h1⟩
  have s1 := lt_of_block h1.blk
  refine ⟨_, _, rfl, true, .inl ⟨rfl, rfl⟩, ifN (fun h => nomatch h) (fun _ => ?_)⟩
  show cond false _ _
  have g1 := hg.kept (hb1.mono (by omega))
  refine (Alloc_ok h1 g1 (by omega) 0 (by decide) (by decide) none 0 [] (fun j hj => by simp at hj) (fun b o e => nomatch e) (by decide) rfl (by decide) (by decide) (by decide)).mono ?_
  rintro _ w6 ⟨rfl, b0, v6, hb0, h6, c6, n6⟩
  have s6 := c6.size
  have low : ∀ {k : Nat} {u : Value} {W : World} {S : List St}, Is w.heap.size W S 5 u → k < 3 → ¬ (k = w.heap.size ∨ some k = u.ownBlock) := by
    intro k u W S hI hk
    rintro (e | e)
    · omega
    · have := hI.own.lt k e.symm; omega
  have b6 : Below w.heap.size w w6 := hb1.trans (c6.below (B := w.heap.size) (by omega) fun k hk => by
    rintro (e | e)
    · omega
    · cases e)
  refine ⟨_, _, _, rfl, copyStep rfl rfl fun w12 at12 hb12 hs12 => ?_⟩
  have h12 := h6.below hb12
  have b12 := b6.trans (hb12.mono (by omega))
  refine ⟨_, _, cellsAt_of_block at12 [.bool true, .int .i64 0] 0 rfl, box fun w15 at15 hb15 hs15 => ?_⟩
  have h15 := h12.below hb15
  have b15 := b12.trans (hb15.mono (by omega))
  have g15 := hg.kept (b15.mono (by omega))
  have hV2 : Vsl w15 (some ⟨w12.heap.size, 0, none⟩) [⟨true, 0⟩, ⟨false, 7⟩] := fun j hj => ⟨_, _, rfl, by
    match j, hj with
    | 0, _ => exact cellsAt_of_block at15 [.bool true, .int .i64 0] 0 rfl
    | 1, _ => exact cellsAt_of_block at15 [.bool false, .int .i64 7] 2 rfl⟩
  refine (Alloc_ok h15 g15 (by omega) 1 (by decide) (by decide) (some ⟨w12.heap.size, 0, none⟩) 2 [⟨true, 0⟩, ⟨false, 7⟩] hV2 (fun b o e hm => by cases e; have := h12.mine_lt hm; omega) (by decide) rfl (by simp [sumN, nodesOf, find, St.size]) (by simp [maxD, depthOf, find, St.size]; decide) (by simp [used, cells, St.cells])).mono ?_
  rintro _ w16 ⟨rfl, b1, v16, hb1', h16, c16, n16⟩
  have s16 := c16.size
  have b16 : Below w.heap.size w w16 := b15.trans (c16.below (B := w.heap.size) (by omega) fun k hk => by
    rintro (e | e)
    · omega
    · have := h15.own.lt k e.symm; omega)
  refine ⟨_, _, _, rfl, copyStep rfl rfl fun w22 at22 hb22 hs22 => box fun w23 at23 hb23 hs23 => ?_⟩
  have h22 := h16.below hb22
  have h23 := h22.below hb23
  have b22 := b16.trans (hb22.mono (by omega))
  have b23 := b22.trans (hb23.mono (by omega))
  have g23 := hg.kept (b23.mono (by omega))
  refine (Alloc_full h23 g23 (by omega) 0 (by decide) (by decide) (some ⟨w22.heap.size, 0, none⟩) 1 [⟨false, 1⟩] (fun j hj => ⟨_, _, rfl, by
    match j, hj with
    | 0, _ => exact cellsAt_of_block at23 [.bool false, .int .i64 1] 0 rfl⟩) (fun b o e hm => by cases e; have := h22.mine_lt hm; omega) (by decide) rfl (by simp [sumN, nodesOf, find, St.size]) (by simp [maxD, depthOf, find, St.size]; decide) (by simp [used, cells, St.cells])).mono ?_
  rintro _ w24 ⟨rfl, hb24⟩
  have h24 := h23.below hb24
  have b24 := b23.trans (hb24.mono (by omega))
  have s24 := hb24.size
  refine ⟨_, _, _, rfl, copyStep rfl rfl fun w30 at30 hb30 hs30 => ?_⟩
  have h30 := h24.below hb30
  have b30 := b24.trans (hb30.mono (by omega))
  have at22' := block_below hb30 (by omega) (block_below hb24 (by omega) (block_below hb23 (by omega) at22))
  refine ⟨_, _, cellsAt_of_block at22' [.bool true, .int .i64 1] 0 rfl, ?_⟩
  refine (Get_ok h30 1 ⟨b1, 1, [⟨true, 0⟩, ⟨false, 7⟩], _, _⟩ rfl rfl).mono ?_
  rintro _ w33 ⟨a33, c33, rfl, hb33, own33⟩
  have b33 := b30.trans (hb33.mono (by omega))
  have g33 := hg.kept (b33.mono (by omega))
  have h33 := h30.below hb33
  refine ⟨_, _, _, _, _, rfl, true, .inl ⟨rfl, rfl⟩, ?_⟩
  show ∃ r41, IsNil .nilIface r41 ∧ _
  refine ⟨true, .inl ⟨rfl, rfl⟩, ?_⟩
  show ∃ v42, World.cell? w33 ⟨0, 0, none⟩ = some v42 ∧ _
  refine ⟨_, g33.heap, true, hE.eq _ _ _ _, ?_⟩
  show ∃ r44, IsNil .nilIface r44 ∧ _
  refine ⟨true, .inl ⟨rfl, rfl⟩, ?_⟩
  refine (Used_spec h33).mono ?_
  rintro _ _ ⟨rfl, rfl⟩
  refine ⟨_, rfl, ?_⟩
  obtain ⟨a', c', e', hcell⟩ := own_vals own33 rfl
  cases e'
  obtain ⟨g, rfl, _, _, hc⟩ := hcell 1 (show 1 < 2 by decide)
  show ∃ b48 f49, _
  refine ⟨g, 0, rfl, by decide, (show (1 : Int) < ((2 : Nat) : Int) by decide), _, _, hc, _, val_eq _ _ _ ⟨false, 7⟩ ⟨false, 7⟩, rfl, b33⟩

end Go.Proofs.YtfenhbjamohdgaaDoor.Vf
end
