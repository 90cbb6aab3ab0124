/- The heap's Reach. -/
import Derived.Test.YtfenhbjamohdgaaDoorS1
import Derived.Test.YtfenhbjamohdgaaDoorS4
import Derived.Laws.StructEq
import Derived.Test.YtfenhbjamohdgaaDoorS5
/- part H1A -/
section
namespace Go.Vx.Hp
open Go.RowKit

structure Val where
  ref : Bool
  n : Int
deriving DecidableEq
def Val.cs (v : Val) : List Value := [.bool v.ref, .int .i64 v.n]

structure Cell where
  val : Val
  head : Option Nat
def Cell.cs (c : Cell) : List Value := [.bool c.val.ref, .int .i64 c.val.n, .pointer (c.head.map fun b => ⟨b, 0, none⟩)]
def flat (C : List Cell) : List Value := C.flatMap Cell.cs

/-- a structure: its head's block, and what it holds -/
structure St where
  blk : Nat
  ctor : Int
  args : List Val
  nodes : Int
  depth : Int
def St.size (s : St) : Nat := 1 + s.args.length
def St.cells (s : St) : List Cell := ⟨⟨false, 0⟩, some s.blk⟩ :: s.args.map fun v => ⟨v, none⟩
def cells (S : List St) : List Cell := S.flatMap St.cells
def used (S : List St) : Nat := (cells S).length

def find : List St → Nat → Option St
  | [], _ => none
  | s :: r, p => if p = 0 then some s else if p < s.size then none else find r (p - s.size)

theorem St.cells_length (s : St) : s.cells.length = s.size := by simp [St.cells, St.size]; omega
theorem used_nil : used [] = 0 := rfl
theorem used_cons (s : St) (r : List St) : used (s :: r) = s.size + used r := by simp [used, cells, St.cells_length]
theorem used_append (S T : List St) : used (S ++ T) = used S + used T := by simp [used, cells]
theorem cells_append (S T : List St) : cells (S ++ T) = cells S ++ cells T := by simp [cells]
theorem flat_append (C D : List Cell) : flat (C ++ D) = flat C ++ flat D := by simp [flat]
theorem flat_length (C : List Cell) : (flat C).length = C.length * 3 := by
  induction C with
  | nil => rfl
  | cons c r ih => simp only [flat, List.flatMap_cons, List.length_append, List.length_cons] at ih ⊢; rw [ih]; simp [Cell.cs]; omega
theorem flat_get (C : List Cell) (p : Nat) (h : p < C.length) : ((flat C).drop (p * 3)).take 3 = C[p].cs := by
  induction C generalizing p with
  | nil => simp at h
  | cons c r ih =>
    cases p with
    | zero => simp [flat, Cell.cs]
    | succ p =>
      have := ih p (by simpa using h)
      rw [List.getElem_cons_succ, ← this]
      simp only [flat, List.flatMap_cons]
      rw [show (p + 1) * 3 = c.cs.length + p * 3 by simp [Cell.cs]; omega, List.drop_append]
      simp [List.drop_of_length_le]

theorem St.size_pos (s : St) : 0 < s.size := by simp [St.size]; omega

theorem find_lt {S : List St} : ∀ {p : Nat} {s : St}, find S p = some s → p + s.size ≤ used S := by
  induction S with
  | nil => intro p s h; cases h
  | cons t r ih =>
    intro p s h
    rw [used_cons]
    simp only [find] at h
    split at h
    · cases h; omega
    · split at h
      · cases h
      · have := ih h; omega

/-- what stands at a place -/
theorem cells_at {S : List St} : ∀ {p : Nat} (h : p < (cells S).length), (cells S)[p].head = (find S p).map St.blk := by
  induction S with
  | nil => intro p h; simp [cells] at h
  | cons t r ih =>
    intro p h
    have e : cells (t :: r) = t.cells ++ cells r := by simp [cells]
    have hl := t.cells_length
    simp only [e, find]
    split
    · rename_i h0; subst h0
      rw [List.getElem_append_left (by have := t.size_pos; omega)]; rfl
    · split
      · rename_i h0 h1
        rw [List.getElem_append_left (by omega)]
        obtain ⟨q, rfl⟩ : ∃ q, p = q + 1 := ⟨p - 1, by omega⟩
        simp [St.cells]
      · rename_i h0 h1
        rw [List.getElem_append_right (by omega)]
        have h2 : p - t.cells.length < (cells r).length := by rw [e, List.length_append] at h; omega
        rw [ih h2, hl]

/-- a structure's arguments stand behind its head -/
theorem cells_args {S : List St} : ∀ {p : Nat} {s : St}, find S p = some s → ((cells S).drop (p + 1)).take s.args.length = s.args.map fun v => ⟨v, none⟩ := by
  induction S with
  | nil => intro p s h; cases h
  | cons t r ih =>
    intro p s h
    have e : cells (t :: r) = t.cells ++ cells r := by simp [cells]
    have hl := t.cells_length
    simp only [find] at h
    split at h
    · rename_i h0; subst h0; cases h
      simp only [e, St.cells]
      rw [List.cons_append, Nat.zero_add, List.drop_succ_cons, List.drop_zero, List.take_left' (by simp)]
    · split at h
      · cases h
      · rw [e, List.drop_append, List.drop_of_length_le (by omega), List.nil_append, show p + 1 - t.cells.length = p - t.size + 1 by omega]
        exact ih h

theorem find_append_left {S T : List St} : ∀ {p : Nat}, p < used S → find (S ++ T) p = find S p := by
  induction S with
  | nil => intro p h; simp [used_nil] at h
  | cons t r ih =>
    intro p h
    rw [used_cons] at h
    simp only [List.cons_append, find]
    split
    · rfl
    · split
      · rfl
      · exact ih (by omega)
theorem find_append_right {S T : List St} : ∀ {p : Nat}, used S ≤ p → find (S ++ T) p = find T (p - used S) := by
  induction S with
  | nil => intro p _; simp [used_nil]
  | cons t r ih =>
    intro p h
    rw [used_cons] at h ⊢
    have := t.size_pos
    simp only [List.cons_append, find]
    rw [if_neg (by omega), if_neg (by omega), ih (by omega)]
    congr 1; omega

def good (S : List St) (v : Val) : Bool := !v.ref || (decide (0 ≤ v.n) && (find S v.n.toNat).isSome)
def nodesOf (S : List St) (v : Val) : Int := if v.ref then (match find S v.n.toNat with | some s => s.nodes | none => 0) else 1
def depthOf (S : List St) (v : Val) : Int := if v.ref then (match find S v.n.toNat with | some s => s.depth | none => 0) else 1
def sumN (S : List St) : List Val → Int
  | [] => 0
  | v :: r => nodesOf S v + sumN S r
def maxD (S : List St) : List Val → Int
  | [] => 1
  | v :: r => max (depthOf S v + 1) (maxD S r)

theorem good_append {S T : List St} {v : Val} (h : good S v = true) : good (S ++ T) v = true := by
  unfold good at h ⊢
  cases hr : v.ref with
  | false => rfl
  | true =>
    simp only [hr, Bool.not_true, Bool.false_or, Bool.and_eq_true, Option.isSome_iff_exists] at h ⊢
    obtain ⟨h1, s, hs⟩ := h
    refine ⟨h1, s, ?_⟩
    rw [find_append_left (by have := find_lt hs; have := s.size_pos; omega)]; exact hs

/-- numbers in their bounds -/
def St.Ok (s : St) : Prop := 0 ≤ s.ctor ∧ s.ctor ≤ 9223372036854775807 ∧ s.args.length ≤ 8 ∧ 1 ≤ s.nodes ∧ s.nodes ≤ 4096 ∧ 1 ≤ s.depth ∧ s.depth ≤ 200

def hdObj (s : St) (moved : Int) : Obj := .cells #[.int .i64 s.ctor, .int .i64 (s.size : Nat), .int .i64 s.nodes, .int .i64 s.depth, .int .i64 moved] 80 (0, 0)

/-- the heap in block hp: its structures S, its limit; v: the slice of its cells -/
structure Is (hp : Nat) (w : World) (S : List St) (most : Int) (v : Value) : Prop where
  blk : w.heap[hp]? = some (.cells #[v, .int .i64 most] 76 (0, 0))
  own : w.ownsRow (hp + 1) 84 3 v (used S) (flat (cells S))
  hd : ∀ s ∈ S, hp < s.blk ∧ s.blk < w.heap.size ∧ some s.blk ≠ v.ownBlock ∧ w.heap[s.blk]? = some (hdObj s 0)
  ok : ∀ s ∈ S, s.Ok
  most0 : 0 ≤ most
  most1 : most ≤ 1048576
  fits : (used S : Int) ≤ most
  nd : (S.map St.blk).Nodup
  cl : ∀ s ∈ S, s.args.all (good S) = true

/-- the blocks that are the heap's -/
def Mine (hp : Nat) (S : List St) (v : Value) (k : Nat) : Prop := k = hp ∨ some k = v.ownBlock ∨ ∃ s ∈ S, s.blk = k

theorem find_mem {S : List St} : ∀ {p : Nat} {s : St}, find S p = some s → s ∈ S := by
  induction S with
  | nil => intro p s h; cases h
  | cons t r ih =>
    intro p s h
    simp only [find] at h
    split at h
    · cases h; exact List.mem_cons_self
    · split at h
      · cases h
      · exact List.mem_cons_of_mem _ (ih h)

theorem Is.slice {hp : Nat} {w : World} {S : List St} {most : Int} {v : Value} (h : Is hp w S most v) : ∃ a c, v = .slice a (used S) c ∧ used S ≤ c ∧ c ≤ maxLen := own_slice h.own

theorem Is.kept {hp : Nat} {w w' : World} {S : List St} {most : Int} {v : Value} (h : Is hp w S most v) (hb : ∀ k, Mine hp S v k → w'.heap[k]? = w.heap[k]?) (hs : w.heap.size ≤ w'.heap.size) : Is hp w' S most v :=
  ⟨(hb hp (.inl rfl)).trans h.blk, own_block h.own fun g hg => hb g (.inr (.inl hg.symm)), fun s hm => by
    obtain ⟨h1, h2, h3, h4⟩ := h.hd s hm
    exact ⟨h1, by omega, h3, (hb s.blk (.inr (.inr ⟨s, hm, rfl⟩))).trans h4⟩, h.ok, h.most0, h.most1, h.fits, h.nd, h.cl⟩

theorem Is.mine_lt {hp : Nat} {w : World} {S : List St} {most : Int} {v : Value} (h : Is hp w S most v) {k : Nat} (hk : Mine hp S v k) : hp ≤ k ∧ k < w.heap.size := by
  rcases hk with rfl | hk | ⟨s, hm, rfl⟩
  · exact ⟨Nat.le_refl _, lt_of_block h.blk⟩
  · have := h.own.lt k hk.symm; omega
  · have := h.hd s hm; omega

theorem Is.below {hp : Nat} {w w' : World} {S : List St} {most : Int} {v : Value} (h : Is hp w S most v) (hb : Below w.heap.size w w') : Is hp w' S most v :=
  h.kept (fun _ hk => hb.block _ (h.mine_lt hk).2) hb.size

/-- the cell at a place, in memory -/
theorem Is.cell {hp : Nat} {w : World} {S : List St} {most : Int} {v : Value} (h : Is hp w S most v) {p : Nat} (hp' : p < used S) :
    ∃ g c, v = .slice (some ⟨g, 0, none⟩) (used S) c ∧ cellsAt w g (0 + p * 3) ((cells S)[p]'hp').cs := by
  obtain ⟨hxl, ⟨rfl, hn⟩ | ⟨g, cap, cur, rfl, hg, hh, hc1, hc2, hc3, htake⟩⟩ := h.own
  · omega
  · refine ⟨g, cap, rfl, cellsAt_of_block hh _ _ ?_⟩
    rw [← flat_get _ _ hp', ← htake]
    simp only [List.length_take, List.length_drop, Array.length_toList, List.drop_take, List.take_take]
    congr 1
    · have := hc3; omega
    · congr 1; omega

end Go.Vx.Hp
end

/- part H2A -/
section
namespace Go.Vx.Hp

/-- what has been moved, in order: old place and structure -/
abbrev Mov := List (Nat × St)
def tot : Mov → Nat
  | [] => 0
  | x :: r => x.2.size + tot r
/-- where an old place lies now -/
def pos : Mov → Nat → Option Nat
  | [], _ => none
  | x :: r, p => if x.1 = p then some 0 else (pos r p).map (x.2.size + ·)
def markOf (M : Mov) (p : Nat) : Int := match pos M p with | some q => (q : Int) + 1 | none => 0
def raw (M : Mov) : List Cell := M.flatMap fun x => x.2.cells
def fwd (M : Mov) (v : Val) : Val := if v.ref then ⟨true, ((pos M v.n.toNat).getD 0 : Nat)⟩ else v
def fwdC (M : Mov) (c : Cell) : Cell := match c.head with | some _ => c | none => ⟨fwd M c.val, none⟩
def moved (M : Mov) : List St := M.map fun x => { x.2 with args := x.2.args.map (fwd M) }
/-- a value that points into what was moved -/
def In (M : Mov) (v : Val) : Prop := v.ref = true → (pos M v.n.toNat).isSome = true

theorem tot_append (M N : Mov) : tot (M ++ N) = tot M + tot N := by
  induction M with
  | nil => simp [tot]
  | cons x r ih => simp only [List.cons_append, tot, ih]; omega
theorem raw_length (M : Mov) : (raw M).length = tot M := by
  induction M with
  | nil => rfl
  | cons x r ih => simp only [raw, List.flatMap_cons, List.length_append, tot, St.cells_length] at ih ⊢; omega
theorem raw_append (M N : Mov) : raw (M ++ N) = raw M ++ raw N := by simp [raw]
theorem pos_append_left {M N : Mov} {p q : Nat} (h : pos M p = some q) : pos (M ++ N) p = some q := by
  induction M generalizing q with
  | nil => cases h
  | cons x r ih =>
    simp only [List.cons_append, pos] at h ⊢
    split at h
    · rename_i e; rw [if_pos e]; exact h
    · rename_i e
      rw [if_neg e]
      obtain ⟨q', h1, h2⟩ := Option.map_eq_some_iff.1 h
      rw [ih h1]; simp [h2]
theorem pos_new {M : Mov} {p : Nat} {s : St} (h : pos M p = none) : pos (M ++ [(p, s)]) p = some (tot M) := by
  induction M with
  | nil => simp [pos, tot]
  | cons x r ih =>
    simp only [List.cons_append, pos] at h ⊢
    split at h
    · cases h
    · rename_i e
      rw [if_neg e, ih (by simpa using h)]
      simp [tot]
theorem pos_other {M : Mov} {p p' : Nat} {s : St} (h : p' ≠ p) : pos (M ++ [(p, s)]) p' = pos M p' := by
  induction M with
  | nil => simp [pos, Ne.symm h]
  | cons x r ih => simp only [List.cons_append, pos, ih]
theorem pos_mem {M : Mov} {p : Nat} : (pos M p).isSome = true ↔ ∃ s, (p, s) ∈ M := by
  induction M with
  | nil => simp [pos]
  | cons x r ih =>
    simp only [pos]
    split
    · rename_i e
      exact ⟨fun _ => ⟨x.2, by rw [← e]; exact List.mem_cons_self⟩, fun _ => rfl⟩
    · rename_i e
      rw [Option.isSome_map, ih]
      constructor
      · rintro ⟨s, h⟩; exact ⟨s, List.mem_cons_of_mem _ h⟩
      · rintro ⟨s, h⟩
        rcases List.mem_cons.1 h with h | h
        · exact absurd (by rw [← h]) e
        · exact ⟨s, h⟩
theorem pos_lt {M : Mov} {p q : Nat} (h : pos M p = some q) : q < tot M := by
  induction M generalizing q with
  | nil => cases h
  | cons x r ih =>
    have := x.2.size_pos
    simp only [pos] at h
    simp only [tot]
    split at h
    · cases h; omega
    · obtain ⟨q', h1, h2⟩ := Option.map_eq_some_iff.1 h
      have := ih h1
      omega
theorem markOf_zero {M : Mov} {p : Nat} : markOf M p = 0 ↔ pos M p = none := by
  unfold markOf
  cases pos M p with
  | none => simp
  | some q => simp; omega

theorem fwd_append {M N : Mov} {v : Val} (h : In M v) : fwd (M ++ N) v = fwd M v := by
  unfold fwd
  split
  · rename_i hr
    obtain ⟨q, hq⟩ := Option.isSome_iff_exists.1 (h hr)
    rw [hq, pos_append_left hq]
  · rfl
theorem In.append {M N : Mov} {v : Val} (h : In M v) : In (M ++ N) v := fun hr => by
  obtain ⟨q, hq⟩ := Option.isSome_iff_exists.1 (h hr)
  rw [pos_append_left hq]; rfl

/-- where a moved structure's cells lie -/
theorem raw_at {M : Mov} {p q : Nat} (h : pos M p = some q) : ∃ s, (p, s) ∈ M ∧ ((raw M).drop q).take s.size = s.cells := by
  induction M generalizing q with
  | nil => cases h
  | cons x r ih =>
    simp only [pos] at h
    have e : raw (x :: r) = x.2.cells ++ raw r := by simp [raw]
    split at h
    · rename_i hx
      cases h
      refine ⟨x.2, by rw [← hx]; exact List.mem_cons_self, ?_⟩
      rw [e, List.drop_zero, ← x.2.cells_length, List.take_left]
    · obtain ⟨q', h1, rfl⟩ := Option.map_eq_some_iff.1 h
      obtain ⟨s, h2, h3⟩ := ih h1
      refine ⟨s, List.mem_cons_of_mem _ h2, ?_⟩
      rw [e, ← x.2.cells_length, List.drop_append, List.drop_of_length_le (by omega), List.nil_append, Nat.add_sub_cancel_left]
      exact h3

theorem cells_moved (M : Mov) : cells (moved M) = (raw M).map (fwdC M) := by
  have key : ∀ (N : Mov), cells (N.map fun x => { x.2 with args := x.2.args.map (fwd M) }) = (raw N).map (fwdC M) := by
    intro N
    induction N with
    | nil => rfl
    | cons x r ih =>
      have e1 : raw (x :: r) = x.2.cells ++ raw r := by simp [raw]
      have e2 : cells (({ x.2 with args := x.2.args.map (fwd M) } : St) :: (r.map fun x => { x.2 with args := x.2.args.map (fwd M) })) = ({ x.2 with args := x.2.args.map (fwd M) } : St).cells ++ cells (r.map fun x => { x.2 with args := x.2.args.map (fwd M) }) := by simp [cells]
      rw [List.map_cons, e2, e1, List.map_append, ih]
      congr 1
      simp [St.cells, fwdC]
  exact key M
theorem used_moved (M : Mov) : used (moved M) = tot M := by
  rw [used, cells_moved, List.length_map, raw_length]

/-- a structure's cells lie together -/
theorem cells_seg {S : List St} : ∀ {p : Nat} {s : St}, find S p = some s → ((cells S).drop p).take s.size = s.cells := by
  induction S with
  | nil => intro p s h; cases h
  | cons t r ih =>
    intro p s h
    have e : cells (t :: r) = t.cells ++ cells r := by simp [cells]
    have hl := t.cells_length
    simp only [find] at h
    split at h
    · rename_i h0; subst h0; cases h
      rw [e, List.drop_zero, ← hl, List.take_left]
    · split at h
      · cases h
      · rw [e, List.drop_append, List.drop_of_length_le (by omega), List.nil_append, hl]
        exact ih h

/-- distinct places are distinct structures -/
theorem find_inj {S : List St} (hnd : (S.map St.blk).Nodup) : ∀ {p q : Nat} {s t : St}, find S p = some s → find S q = some t → s.blk = t.blk → p = q := by
  induction S with
  | nil => intro p q s t h; cases h
  | cons x r ih =>
    intro p q s t h1 h2 e
    rw [List.map_cons, List.nodup_cons] at hnd
    have hx : ∀ {k : Nat} {u : St}, find r k = some u → u.blk ≠ x.blk := fun hk e' => hnd.1 (e' ▸ List.mem_map.2 ⟨_, find_mem hk, rfl⟩)
    simp only [find] at h1 h2
    split at h1
    · cases h1
      split at h2
      · omega
      · split at h2
        · cases h2
        · exact absurd e.symm (hx h2)
    · split at h1
      · cases h1
      · split at h2
        · cases h2; exact absurd e (hx h1)
        · split at h2
          · cases h2
          · have := ih hnd.2 h1 h2 e
            omega

theorem used_sum_le : ∀ (S L : List St), (L.map St.blk).Nodup → (∀ s ∈ L, s ∈ S) → used L ≤ used S := by
  intro S
  induction S with
  | nil =>
    intro L _ h
    cases L with
    | nil => exact Nat.le_refl _
    | cons x r => exact absurd (h x List.mem_cons_self) (by simp)
  | cons t r ih =>
    intro L hnd h
    by_cases ht : t ∈ L
    · obtain ⟨L1, L2, rfl⟩ := List.append_of_mem ht
      rw [List.map_append, List.map_cons, List.nodup_append, List.nodup_cons] at hnd
      obtain ⟨n1, ⟨n2, n3⟩, n4⟩ := hnd
      have h2 := ih (L1 ++ L2) (by
        rw [List.map_append, List.nodup_append]
        exact ⟨n1, n3, fun a ha b hb => n4 a ha b (List.mem_cons_of_mem _ hb)⟩) (fun s hs => by
          rcases List.mem_append.1 hs with hs | hs
          · rcases List.mem_cons.1 (h s (List.mem_append_left _ hs)) with e | e
            · exact absurd (by rw [e]) (n4 s.blk (List.mem_map.2 ⟨s, hs, rfl⟩) t.blk List.mem_cons_self)
            · exact e
          · rcases List.mem_cons.1 (h s (List.mem_append_right _ (List.mem_cons_of_mem _ hs))) with e | e
            · exact absurd (List.mem_map.2 ⟨s, hs, by rw [e]⟩) n2
            · exact e)
      rw [used_append] at h2 ⊢
      rw [used_cons, used_cons]; omega
    · have h2 := ih L hnd fun s hs => by
        rcases List.mem_cons.1 (h s hs) with e | e
        · exact absurd (e ▸ hs) ht
        · exact e
      rw [used_cons]; omega

/-- a list of moves out of S -/
structure Moves (S : List St) (M : Mov) : Prop where
  of : ∀ x ∈ M, find S x.1 = some x.2
  nd : (M.map (·.1)).Nodup
theorem Moves.blks {S : List St} {M : Mov} (h : Moves S M) (hnd : (S.map St.blk).Nodup) : ((moved M).map St.blk).Nodup := by
  have e : (moved M).map St.blk = M.map fun x => x.2.blk := by simp [moved]
  rw [e]
  have h1 := h.of
  have h2 := h.nd
  clear e h
  induction M with
  | nil => exact List.nodup_nil
  | cons x r ih =>
    rw [List.map_cons, List.nodup_cons] at h2 ⊢
    refine ⟨fun hm => ?_, ih (fun y hy => h1 y (List.mem_cons_of_mem _ hy)) h2.2⟩
    obtain ⟨y, hy, e⟩ := List.mem_map.1 hm
    have := find_inj hnd (h1 y (List.mem_cons_of_mem _ hy)) (h1 x List.mem_cons_self) e
    exact h2.1 (List.mem_map.2 ⟨y, hy, this⟩)
theorem Moves.tot_le {S : List St} {M : Mov} (h : Moves S M) (hnd : (S.map St.blk).Nodup) : tot M ≤ used S := by
  have e : tot M = used (M.map (·.2)) := by
    clear h
    induction M with
    | nil => rfl
    | cons x r ih => rw [List.map_cons, used_cons, tot, ih]
  rw [e]
  refine used_sum_le S _ ?_ fun s hs => ?_
  · have e2 : (M.map (·.2)).map St.blk = (moved M).map St.blk := by simp [moved, Function.comp_def]
    rw [e2]; exact h.blks hnd
  · obtain ⟨x, hx, rfl⟩ := List.mem_map.1 hs
    exact find_mem (h.of x hx)
theorem Moves.new {S : List St} {M : Mov} (h : Moves S M) {p : Nat} {s : St} (hs : find S p = some s) (hp : pos M p = none) : Moves S (M ++ [(p, s)]) := by
  refine ⟨fun x hx => ?_, ?_⟩
  · rcases List.mem_append.1 hx with hx | hx
    · exact h.of x hx
    · rw [List.mem_singleton] at hx; subst hx; exact hs
  · rw [List.map_append, List.nodup_append]
    refine ⟨h.nd, by simp, fun a ha b hb e => ?_⟩
    obtain ⟨x, hx, rfl⟩ := List.mem_map.1 ha
    have hb' : b = p := by simpa using hb
    subst hb'
    have := pos_mem.2 ⟨x.2, show (b, x.2) ∈ M by rw [← e]; exact hx⟩
    rw [hp] at this; cases this

end Go.Vx.Hp
end

/- part H2C -/
section
namespace Go.Vx.Hp
open Go.RowKit

/-- what is reached from values -/
inductive Rch (S : List St) (rs : List Val) : Nat → Prop
  | root (v : Val) (hv : v ∈ rs) (hr : v.ref = true) : Rch S rs v.n.toNat
  | step (p : Nat) (s : St) (a : Val) (h : Rch S rs p) (hs : find S p = some s) (ha : a ∈ s.args) (hr : a.ref = true) : Rch S rs a.n.toNat

theorem find_moved_aux (g : Val → Val) : ∀ (N : Mov) {p q : Nat}, pos N p = some q → ∃ s, (p, s) ∈ N ∧ find (N.map fun x => { x.2 with args := x.2.args.map g }) q = some { s with args := s.args.map g } := by
  intro N
  induction N with
  | nil => intro p q h; cases h
  | cons x r ih =>
    intro p q h
    have hsz : ({ x.2 with args := x.2.args.map g } : St).size = x.2.size := by simp [St.size]
    have hpos := x.2.size_pos
    simp only [pos] at h
    rw [List.map_cons]
    simp only [find]
    split at h
    · rename_i e
      cases h
      exact ⟨x.2, by rw [← e]; exact List.mem_cons_self, by rw [if_pos rfl]⟩
    · obtain ⟨q', h1, rfl⟩ := Option.map_eq_some_iff.1 h
      obtain ⟨s, h2, h3⟩ := ih h1
      refine ⟨s, List.mem_cons_of_mem _ h2, ?_⟩
      rw [if_neg (by omega), hsz, if_neg (by omega), Nat.add_sub_cancel_left]
      exact h3
theorem find_moved {M : Mov} {p q : Nat} (h : pos M p = some q) : ∃ s, (p, s) ∈ M ∧ find (moved M) q = some { s with args := s.args.map (fwd M) } := find_moved_aux (fwd M) M h

theorem good_fwd {M : Mov} {v : Val} (h : In M v) : good (moved M) (fwd M v) = true := by
  unfold fwd good
  cases hr : v.ref with
  | false => simp [hr]
  | true =>
    obtain ⟨q, hq⟩ := Option.isSome_iff_exists.1 (h hr)
    obtain ⟨s, _, hs⟩ := find_moved hq
    simp [hq, hs]

/-- the state of the scan: k cells are done -/
structure Scan (S : List St) (rs : List Val) (M : Mov) (X : List Cell) (k : Nat) : Prop where
  eq : X = ((raw M).take k).map (fwdC M) ++ (raw M).drop k
  le : k ≤ tot M
  inn : ∀ c ∈ (raw M).take k, c.head = none → In M c.val
  roots : ∀ v ∈ rs, In M v
  rch : ∀ x ∈ M, Rch S rs x.1
  mv : Moves S M

theorem raw_mem {M : Mov} {c : Cell} (h : c ∈ raw M) : (∃ x ∈ M, c.head = some x.2.blk ∧ c.val = ⟨false, 0⟩) ∨ ∃ x ∈ M, c.head = none ∧ c.val ∈ x.2.args := by
  obtain ⟨x, hx, hc⟩ := List.mem_flatMap.1 h
  simp only [St.cells, List.mem_cons, List.mem_map] at hc
  rcases hc with rfl | ⟨v, hv, rfl⟩
  · exact .inl ⟨x, hx, rfl, rfl⟩
  · exact .inr ⟨x, hx, rfl, hv⟩

theorem Scan.get {S : List St} {rs : List Val} {M : Mov} {X : List Cell} {k : Nat} (h : Scan S rs M X k) (hk : k < tot M) : ∃ (h1 : k < X.length) (h2 : k < (raw M).length), X[k] = (raw M)[k] := by
  have h2 : k < (raw M).length := by rw [raw_length]; exact hk
  have hl : (((raw M).take k).map (fwdC M)).length = k := by rw [List.length_map, List.length_take]; omega
  have h1 : k < X.length := by rw [h.eq, List.length_append, hl, List.length_drop]; omega
  refine ⟨h1, h2, ?_⟩
  have := h.eq
  subst this
  rw [List.getElem_append_right (by omega)]
  simp only [hl, List.getElem_drop]
  congr 1; omega

/-- a head: nothing to do -/
theorem Scan.head {S : List St} {rs : List Val} {M : Mov} {X : List Cell} {k : Nat} (h : Scan S rs M X k) (hk : k < tot M) {b : Nat} (hh : ((raw M)[k]'(by rw [raw_length]; exact hk)).head = some b) : Scan S rs M X (k + 1) := by
  have h2 : k < (raw M).length := by rw [raw_length]; exact hk
  have ht : (raw M).take (k + 1) = (raw M).take k ++ [(raw M)[k]] := by rw [List.take_succ_eq_append_getElem h2]
  refine ⟨?_, hk, fun c hc hn => ?_, h.roots, h.rch, h.mv⟩
  · rw [h.eq, ht, List.map_append, List.drop_eq_getElem_cons h2, List.append_assoc]
    congr 1
    simp [fwdC, hh]
  · rw [ht] at hc
    rcases List.mem_append.1 hc with hc | hc
    · exact h.inn c hc hn
    · rw [List.mem_singleton] at hc; subst hc; rw [hh] at hn; cases hn

/-- more is moved: behind what is there -/
theorem Scan.more {S : List St} {rs : List Val} {M : Mov} {X : List Cell} {k : Nat} (h : Scan S rs M X k) {p : Nat} {s : St} (hs : find S p = some s) (hp : pos M p = none) (hr : Rch S rs p) : Scan S rs (M ++ [(p, s)]) (X ++ s.cells) k := by
  have hl : k ≤ (raw M).length := by rw [raw_length]; exact h.le
  have er : raw (M ++ [(p, s)]) = raw M ++ s.cells := by rw [raw_append]; simp [raw]
  have ht : (raw (M ++ [(p, s)])).take k = (raw M).take k := by rw [er, List.take_append_of_le_length hl]
  refine ⟨?_, by rw [tot_append]; have := h.le; omega, fun c hc hn => ?_, fun v hv => (h.roots v hv).append, fun x hx => ?_, h.mv.new hs hp⟩
  · rw [ht, er, List.drop_append_of_le_length hl, h.eq, List.append_assoc]
    congr 1
    refine List.map_congr_left fun c hc => ?_
    cases hh : c.head with
    | some b => simp [fwdC, hh]
    | none => simp only [fwdC, hh]; rw [fwd_append (h.inn c hc hh)]
  · rw [ht] at hc; exact (h.inn c hc hn).append
  · rcases List.mem_append.1 hx with hx | hx
    · exact h.rch x hx
    · rw [List.mem_singleton] at hx; subst hx; exact hr

/-- an argument: forwarded -/
theorem Scan.arg {S : List St} {rs : List Val} {M : Mov} {X : List Cell} {k : Nat} (h : Scan S rs M X k) (hk : k < tot M) (hh : ((raw M)[k]'(by rw [raw_length]; exact hk)).head = none) (hin : In M ((raw M)[k]'(by rw [raw_length]; exact hk)).val) :
    Scan S rs M (X.set k ⟨fwd M ((raw M)[k]'(by rw [raw_length]; exact hk)).val, none⟩) (k + 1) := by
  have h2 : k < (raw M).length := by rw [raw_length]; exact hk
  have ht : (raw M).take (k + 1) = (raw M).take k ++ [(raw M)[k]] := by rw [List.take_succ_eq_append_getElem h2]
  have hl : (((raw M).take k).map (fwdC M)).length = k := by rw [List.length_map, List.length_take]; omega
  refine ⟨?_, hk, fun c hc hn => ?_, h.roots, h.rch, h.mv⟩
  · rw [h.eq, ht, List.map_append, List.drop_eq_getElem_cons h2, List.append_assoc, List.set_append_right _ _ (by omega), hl, Nat.sub_self, List.set_cons_zero]
    congr 1
    simp [fwdC, hh]
  · rw [ht] at hc
    rcases List.mem_append.1 hc with hc | hc
    · exact h.inn c hc hn
    · rw [List.mem_singleton] at hc; subst hc; exact hin

/-- at the end: the cells are those of a heap -/
theorem Scan.done {S : List St} {rs : List Val} {M : Mov} {X : List Cell} (h : Scan S rs M X (tot M)) : X = cells (moved M) ∧ ∀ x ∈ M, ∀ a ∈ x.2.args, In M a := by
  have hl : (raw M).length = tot M := raw_length M
  refine ⟨?_, fun x hx a ha => ?_⟩
  · rw [h.eq, cells_moved, List.take_of_length_le (by omega), List.drop_of_length_le (by omega), List.append_nil]
  · have hm : (⟨a, none⟩ : Cell) ∈ (raw M).take (tot M) := by
      rw [List.take_of_length_le (by omega)]
      exact List.mem_flatMap.2 ⟨x, hx, by simp only [St.cells, List.mem_cons, List.mem_map]; exact .inr ⟨a, ha, rfl⟩⟩
    exact h.inn _ hm rfl

theorem Scan.start {S : List St} {rs : List Val} {M : Mov} (hroots : ∀ v ∈ rs, In M v) (hrch : ∀ x ∈ M, Rch S rs x.1) (hm : Moves S M) : Scan S rs M (raw M) 0 :=
  ⟨by simp, Nat.zero_le _, fun c hc => by simp at hc, hroots, hrch, hm⟩

end Go.Vx.Hp
end

/- part H2L -/
section
namespace Go.Vx.Hp
open Go.RowKit

theorem tot_used (M : Mov) : tot M = used (M.map (·.2)) := by
  induction M with
  | nil => rfl
  | cons x r ih => rw [List.map_cons, used_cons, tot, ih]
theorem Moves.blk2 {S : List St} {M : Mov} (h : Moves S M) (hnd : (S.map St.blk).Nodup) : ((M.map (·.2)).map St.blk).Nodup := by
  have e2 : (M.map (·.2)).map St.blk = (moved M).map St.blk := by simp [moved, Function.comp_def]
  rw [e2]; exact h.blks hnd
theorem tot_le_of {S : List St} (hnd : (S.map St.blk).Nodup) {M Z : Mov} (hM : Moves S M) (hZ : Moves S Z) (h : ∀ x ∈ M, ∃ s, (x.1, s) ∈ Z) : tot M ≤ tot Z := by
  rw [tot_used, tot_used]
  refine used_sum_le _ _ (hM.blk2 hnd) fun s hs => ?_
  obtain ⟨x, hx, rfl⟩ := List.mem_map.1 hs
  obtain ⟨t, ht⟩ := h x hx
  have h1 := hM.of x hx
  have h2 := hZ.of _ ht
  simp only at h2
  rw [h1] at h2; cases h2
  exact List.mem_map.2 ⟨_, ht, rfl⟩

/-- the state of the count: Z is counted, todo is still to be seen -/
structure Cnt (S : List St) (rs : List Val) (Z : Mov) (todo : List Val) : Prop where
  mv : Moves S Z
  rch : ∀ x ∈ Z, Rch S rs x.1
  trch : ∀ v ∈ todo, v.ref = true → Rch S rs v.n.toNat
  good : ∀ v ∈ todo, good S v = true
  roots : ∀ v ∈ rs, v.ref = true → (pos Z v.n.toNat).isSome = true ∨ v ∈ todo
  args : ∀ x ∈ Z, ∀ a ∈ x.2.args, a.ref = true → (pos Z a.n.toNat).isSome = true ∨ a ∈ todo

theorem Cnt.start {S : List St} {rs : List Val} (hg : ∀ v ∈ rs, Hp.good S v = true) : Cnt S rs [] rs :=
  ⟨⟨fun x hx => (by cases hx), List.nodup_nil⟩, fun x hx => (by cases hx), fun v hv hr => .root v hv hr, hg, fun v hv _ => .inr hv, fun x hx => (by cases hx)⟩

/-- at the end all that is reached has been counted -/
theorem Cnt.all {S : List St} {rs : List Val} {Z : Mov} (h : Cnt S rs Z []) : ∀ p, Rch S rs p → ∃ s, (p, s) ∈ Z := by
  intro p hp
  induction hp with
  | root v hv hr => rcases h.roots v hv hr with k | k; exact pos_mem.1 k; cases k
  | step p s a _ hs ha hr ih =>
    obtain ⟨t, ht⟩ := ih
    have h2 := h.mv.of _ ht
    simp only at h2
    rw [hs] at h2; cases h2
    rcases h.args _ ht a ha hr with k | k
    · exact pos_mem.1 k
    · cases k

theorem Cnt.skip {S : List St} {rs : List Val} {Z : Mov} {t : List Val} {v : Val} (h : Cnt S rs Z (t ++ [v])) (hv : v.ref = true → (pos Z v.n.toNat).isSome = true) : Cnt S rs Z t := by
  have key : ∀ a : Val, a.ref = true → ((pos Z a.n.toNat).isSome = true ∨ a ∈ t ++ [v]) → (pos Z a.n.toNat).isSome = true ∨ a ∈ t := fun a hr k => by
    rcases k with k | k
    · exact .inl k
    · rcases List.mem_append.1 k with k | k
      · exact .inr k
      · rw [List.mem_singleton] at k; subst k; exact .inl (hv hr)
  exact ⟨h.mv, h.rch, fun a ha => h.trch a (List.mem_append_left _ ha), fun a ha => h.good a (List.mem_append_left _ ha), fun a ha hr => key a hr (h.roots a ha hr), fun x hx a ha hr => key a hr (h.args x hx a ha hr)⟩

theorem Cnt.push {S : List St} {rs : List Val} {Z : Mov} {t : List Val} {v : Val} (hcl : ∀ s ∈ S, s.args.all (Hp.good S) = true) (h : Cnt S rs Z (t ++ [v])) (hr : v.ref = true) {s : St} (hs : find S v.n.toNat = some s) (hp : pos Z v.n.toNat = none) : Cnt S rs (Z ++ [(v.n.toNat, s)]) (t ++ s.args) := by
  have hrv := h.trch v (by simp) hr
  have key : ∀ a : Val, ((pos Z a.n.toNat).isSome = true ∨ a ∈ t ++ [v]) → (pos (Z ++ [(v.n.toNat, s)]) a.n.toNat).isSome = true ∨ a ∈ t ++ s.args := fun a k => by
    rcases k with k | k
    · obtain ⟨q, hq⟩ := Option.isSome_iff_exists.1 k
      exact .inl (by rw [pos_append_left hq]; rfl)
    · rcases List.mem_append.1 k with k | k
      · exact .inr (List.mem_append_left _ k)
      · rw [List.mem_singleton] at k; subst k; exact .inl (by rw [pos_new hp]; rfl)
  refine ⟨h.mv.new hs hp, fun x hx => ?_, fun a ha har => ?_, fun a ha => ?_, fun a ha har => key a (h.roots a ha har), fun x hx a ha har => ?_⟩
  · rcases List.mem_append.1 hx with hx | hx
    · exact h.rch x hx
    · rw [List.mem_singleton] at hx; subst hx; exact hrv
  · rcases List.mem_append.1 ha with ha | ha
    · exact h.trch a (List.mem_append_left _ ha) har
    · exact .step _ s a hrv hs ha har
  · rcases List.mem_append.1 ha with ha | ha
    · exact h.good a (List.mem_append_left _ ha)
    · exact List.all_eq_true.1 (hcl s (find_mem hs)) a ha
  · rcases List.mem_append.1 hx with hx | hx
    · exact key a (h.args x hx a ha har)
    · rw [List.mem_singleton] at hx; subst hx; exact .inr (List.mem_append_right _ ha)

end Go.Vx.Hp
end

/- part H1S -/
section
namespace Go.Proofs.YtfenhbjamohdgaaDoor.Vf
open Go.Vx Go.Vx.Hp Go.RowKit

theorem New_ok (n : Int) (w : World) (h0 : 0 ≤ n) (h1 : n ≤ 1048576) :
    Calls Tryd.prog 9 #[.int .i64 n] w fun e w' => e = .returned (.tuple #[.pointer (some ⟨w.heap.size, 0, none⟩), .nilIface]) ∧ Below w.heap.size w w' ∧ Is w.heap.size w' [] n (.slice none 0 0) := by
  refine (New.calls (R := fun v w' => v = .tuple #[.pointer (some ⟨w.heap.size, 0, none⟩), .nilIface] ∧ Below w.heap.size w w' ∧ Is w.heap.size w' [] n (.slice none 0 0)) ?_).mono (fun x w' ⟨v, h1, h2, h3⟩ => ⟨by rw [h1, h2], h3⟩)
  unfold New.W
  refine ifD (fun h => absurd h (by omega)) (fun _ => ifD (fun h => absurd h (by omega)) (fun _ => box fun w6 at6 hb6 hs6 => ⟨rfl, hb6, ⟨at6, World.ownsRow_nil _ _ _ _, (fun s hs => nomatch hs), (fun s hs => nomatch hs), h0, h1, by simpa [used_nil] using h0, List.nodup_nil, (fun s hs => nomatch hs)⟩⟩))

theorem New_bad (n : Int) (w : World) (E : Value) (hE : w.cell? ⟨1, 0, none⟩ = some E) (hlt : 1 < w.heap.size) (h : n < 0 ∨ 1048576 < n) :
    Calls Tryd.prog 9 #[.int .i64 n] w fun e w' => e = .returned (.tuple #[.pointer none, E]) ∧ Below w.heap.size w w' := by
  refine (New.calls (R := fun v w' => v = .tuple #[.pointer none, E] ∧ Below w.heap.size w w') ?_).mono (fun x w' ⟨v, h1, h2, h3⟩ => ⟨by rw [h1, h2], h3⟩)
  unfold New.W
  have fin : withW (World.drew w) fun w2 => ∃ (v3 : Value), World.cell? w2 ⟨1, 0, none⟩ = some v3 ∧ (Value.tuple #[.pointer none, v3] = .tuple #[.pointer none, E] ∧ Below w.heap.size w w2) :=
    drewStep fun w2 e2 hb2 => ⟨_, cell_below hb2 hlt hE, rfl, hb2⟩
  refine ifD (fun _ => fin) (fun h0 => ifD (fun _ => fin) (fun h1 => absurd h (by omega)))

variable {hp : Nat} {w : World} {S : List St} {most : Int} {v : Value}

theorem Used_spec (h : Is hp w S most v) : Calls Tryd.prog 12 #[.pointer (some ⟨hp, 0, none⟩)] w fun e w' => e = .returned (.int .i64 (used S : Nat)) ∧ w = w' := by
  refine (Used.calls (R := fun x w' => x = .int .i64 (used S : Nat) ∧ w = w') ?_).mono (fun x w' ⟨v, h1, h2, h3⟩ => ⟨by rw [h1, h2], h3⟩)
  unfold Used.W
  obtain ⟨a, c, rfl, _⟩ := h.slice
  exact ⟨_, _, rfl, _, _, _, cell_of_block h.blk rfl, rfl, rfl⟩
theorem Cells_spec (h : Is hp w S most v) : Calls Tryd.prog 14 #[.pointer (some ⟨hp, 0, none⟩)] w fun e w' => e = .returned (.int .i64 most) ∧ w = w' := by
  refine (Cells.calls (R := fun x w' => x = .int .i64 most ∧ w = w') ?_).mono (fun x w' ⟨v, h1, h2, h3⟩ => ⟨by rw [h1, h2], h3⟩)
  unfold Cells.W
  exact ⟨_, _, rfl, _, cell_of_block h.blk rfl, rfl, rfl⟩

theorem isNone_map (o : Option Nat) : (o.map fun b => (⟨b, 0, none⟩ : Addr)).isNone = o.isNone := by cases o <;> rfl

theorem hgood_spec (h : Is hp w S most v) (r : Bool) (n : Int) : Calls Tryd.prog 25 #[.pointer (some ⟨hp, 0, none⟩), .agg #[.bool r, .int .i64 n]] w fun e w' => e = .returned (.bool (good S ⟨r, n⟩)) ∧ Below w.heap.size w w' := by
  refine (hgood.calls (R := fun x w' => x = .bool (good S ⟨r, n⟩) ∧ Below w.heap.size w w') ?_).mono (fun x w' ⟨v, h1, h2, h3⟩ => ⟨by rw [h1, h2], h3⟩)
  unfold hgood.W
  refine box fun w3 at3 hb3 hs3 => drewStep fun w4 e4 hb4 => ?_
  have at4 : w4.heap[w.heap.size]? = _ := e4 ▸ at3
  have b4 : Below w.heap.size w w4 := hb3.trans (hb4.mono (by omega))
  have h4 := h.below b4
  refine ⟨_, cell_of_block at4 rfl, ifN (fun hr => ⟨by simp [good, hr], b4⟩) (fun hr => ?_)⟩
  refine ⟨_, cell_of_block at4 rfl, ifD (fun h0 => ?_) (fun h0 => ⟨by simp only [good, hr, Bool.not_true, Bool.false_or]; rw [decide_eq_false (by omega)]; rfl, b4⟩)⟩
  obtain ⟨a, c, ev, _⟩ := h4.slice
  subst ev
  refine ⟨_, cell_of_block at4 rfl, _, _, rfl, _, _, _, cell_of_block h4.blk rfl, ifD (fun hlt => ?_) (fun hge => ⟨?_, b4⟩)⟩
  · have hlt' : n.toNat < used S := by omega
    obtain ⟨g, c', e, hc⟩ := h4.cell hlt'
    cases e
    refine ⟨_, _, rfl, _, _, _, cell_of_block h4.blk rfl, _, cell_of_block at4 rfl, g, 0, rfl, by omega, hlt, _, hc.2.2.1, ?_, b4⟩
    have hca := cells_at (S := S) hlt'
    rw [isNone_map, hca]
    simp only [good, hr, Bool.not_true, Bool.false_or]
    rw [decide_eq_true (by omega)]
    cases find S n.toNat <;> rfl
  · simp only [good, hr, Bool.not_true, Bool.false_or]
    have : find S n.toNat = none := by
      cases hf : find S n.toNat with
      | none => rfl
      | some s => have := find_lt hf; have := s.size_pos; omega
    rw [this]; simp

/-- a good reference: the structure there, in memory -/
theorem is_at (h : Is hp w S most v) {n : Int} (hg : good S ⟨true, n⟩ = true) : ∃ s g c, find S n.toNat = some s ∧ s ∈ S ∧ 0 ≤ n ∧ n.toNat + s.size ≤ used S ∧ v = .slice (some ⟨g, 0, none⟩) (used S) c ∧
    w.cell? ⟨g, 0 + n.toNat * 3 + 2, none⟩ = some (.pointer (some ⟨s.blk, 0, none⟩)) ∧ w.heap[s.blk]? = some (hdObj s 0) := by
  simp only [good, Bool.not_true, Bool.false_or, Bool.and_eq_true, decide_eq_true_eq, Option.isSome_iff_exists] at hg
  obtain ⟨h0, s, hs⟩ := hg
  have hl := find_lt hs
  have hlt : n.toNat < used S := by have := s.size_pos; omega
  obtain ⟨g, c, e, hc⟩ := h.cell hlt
  refine ⟨s, g, c, hs, find_mem hs, h0, hl, e, ?_, (h.hd s (find_mem hs)).2.2.2⟩
  have hca := cells_at (S := S) hlt
  have := hc.2.2.1
  rw [hca, hs] at this
  exact this

theorem measure_spec (h : Is hp w S most v) (r : Bool) (n : Int) (hg : good S ⟨r, n⟩ = true) : Calls Tryd.prog 24 #[.pointer (some ⟨hp, 0, none⟩), .agg #[.bool r, .int .i64 n]] w fun e w' => e = .returned (.tuple #[.int .i64 (nodesOf S ⟨r, n⟩), .int .i64 (depthOf S ⟨r, n⟩)]) ∧ Below w.heap.size w w' := by
  refine (measure.calls (R := fun x w' => x = .tuple #[.int .i64 (nodesOf S ⟨r, n⟩), .int .i64 (depthOf S ⟨r, n⟩)] ∧ Below w.heap.size w w') ?_).mono (fun x w' ⟨v, h1, h2, h3⟩ => ⟨by rw [h1, h2], h3⟩)
  unfold measure.W
  refine box fun w3 at3 hb3 hs3 => ?_
  refine ⟨_, cell_of_block at3 rfl, ifN (fun hr => ⟨by simp [nodesOf, depthOf, hr], hb3⟩) (fun hr => drewStep fun w5 e5 hb5 => ?_)⟩
  subst hr
  have at5 : w5.heap[w.heap.size]? = _ := e5 ▸ at3
  have b5 : Below w.heap.size w w5 := hb3.trans (hb5.mono (by omega))
  have h5 := h.below b5
  obtain ⟨s, g, c, hs, hm, h0, hl, rfl, hc, hh⟩ := is_at h5 hg
  have := s.size_pos
  refine ⟨_, _, rfl, _, _, _, cell_of_block h5.blk rfl, _, cell_of_block at5 rfl, g, 0, rfl, h0, by omega, _, hc, drewStep fun w15 e15 hb15 => ?_⟩
  have hh15 : w15.heap[s.blk]? = _ := e15 ▸ hh
  refine ⟨_, _, rfl, _, cell_of_block hh15 rfl, _, _, rfl, _, cell_of_block hh15 rfl, ?_, b5.trans (hb15.mono b5.size)⟩
  simp [nodesOf, depthOf, hs]

theorem hargs_spec (h : Is hp w S most v) (n : Int) (s : St) (hg : good S ⟨true, n⟩ = true) (hs : find S n.toNat = some s) : Calls Tryd.prog 26 #[.pointer (some ⟨hp, 0, none⟩), .int .i64 n] w fun e w' => ∃ a c, e = .returned (.slice a s.args.length c) ∧ w'.heap = w.heap ∧ Below w.heap.size w w' ∧
    (0 < s.args.length → ∃ g, a = some ⟨g, (n.toNat + 1) * 3, none⟩ ∧ some g = v.ownBlock ∧ ∀ j (hj : j < s.args.length), cellsAt w' g ((n.toNat + 1) * 3 + j * 3) (Cell.mk s.args[j] none).cs) := by
  refine (hargs.calls (R := fun x w' => ∃ a c, x = .slice a s.args.length c ∧ w'.heap = w.heap ∧ Below w.heap.size w w' ∧
    (0 < s.args.length → ∃ g, a = some ⟨g, (n.toNat + 1) * 3, none⟩ ∧ some g = v.ownBlock ∧ ∀ j (hj : j < s.args.length), cellsAt w' g ((n.toNat + 1) * 3 + j * 3) (Cell.mk s.args[j] none).cs)) ?_).mono (fun x w' ⟨v, h1, a, c, h2, h3⟩ => ⟨a, c, by rw [h1, h2], h3⟩)
  unfold hargs.W
  refine drewStep fun w2 e2 hb2 => ?_
  have h2 := h.below hb2
  obtain ⟨s', g, c, hs', hm, h0, hl, rfl, hc, hh⟩ := is_at h2 hg
  rw [hs] at hs'; cases hs'
  have hfit := h.fits
  have hmost := h.most1
  have hcap := h.slice
  obtain ⟨a', c', e', hle, hcm⟩ := hcap
  cases e'
  have hsz : s.size = 1 + s.args.length := rfl
  refine ⟨_, _, rfl, _, _, _, cell_of_block h2.blk rfl, _, _, rfl, _, _, _, cell_of_block h2.blk rfl, g, 0, rfl, h0, by omega, _, hc, _, _, rfl, _, cell_of_block hh rfl, ?_⟩
  rw [w64 (x := n + 1) (by omega) (by omega), w64 (x := n + (s.size : Int)) (by omega) (by omega)]
  have e1 : (n + 1).toNat = n.toNat + 1 := by omega
  have e2' : (n + (s.size : Int)).toNat - (n.toNat + 1) = s.args.length := by omega
  rw [e1, e2']
  refine ⟨by omega, by omega, by omega, _, _, rfl, e2, hb2, fun hpos => ⟨g, ?_, rfl, fun j hj => ?_⟩⟩
  · rw [cutA, if_neg (by omega)]; simp [Addr.add]
  · have hlt : n.toNat + 1 + j < used S := by omega
    obtain ⟨g', c'', e'', hc'⟩ := h2.cell hlt
    cases e''
    rw [Nat.zero_add, Nat.add_mul] at hc'
    have hca := cells_args hs
    have hget : (cells S)[n.toNat + 1 + j]'hlt = Cell.mk s.args[j] none := by
      have h3 := congrArg (fun l => l[j]?) hca
      simp only [List.getElem?_take, List.getElem?_drop, List.getElem?_map] at h3
      rw [if_pos hj, List.getElem?_eq_getElem hlt, List.getElem?_eq_getElem hj] at h3
      simpa using h3
    rw [hget] at hc'
    exact hc'

theorem cellsAt_lt {w : World} {b o : Nat} {v : Value} {vs : List Value} (h : cellsAt w b o (v :: vs)) : b < w.heap.size := by
  have h1 := h.1
  rcases Nat.lt_or_ge b w.heap.size with h | h
  · exact h
  · simp only [World.cell?, Array.getElem?_eq_none h] at h1; simp at h1

/-- values in memory, as a slice of the caller's -/
def Vsl (w : World) (a : Option Addr) (V : List Val) : Prop := ∀ j (h : j < V.length), ∃ b o, a = some ⟨b, o, none⟩ ∧ cellsAt w b (o + j * 2) V[j].cs

theorem Vsl.kept {w w' : World} {a : Option Addr} {V : List Val} (h : Vsl w a V) (hb : ∀ b o, b < w.heap.size → a = some ⟨b, o, none⟩ → w'.heap[b]? = w.heap[b]?) : Vsl w' a V := fun j hj => by
  obtain ⟨b, o, e, hc⟩ := h j hj
  exact ⟨b, o, e, cellsAt_same (hb b o (cellsAt_lt hc) e) hc⟩

theorem Vsl.lt {w : World} {a : Option Addr} {V : List Val} (h : Vsl w a V) (hV : 0 < V.length) {b o : Nat} (e : a = some ⟨b, o, none⟩) : b < w.heap.size := by
  obtain ⟨b', o', e', hc⟩ := h 0 hV
  rw [e] at e'; cases e'
  exact cellsAt_lt hc

theorem goodsF_spec (h : Is hp w S most v) (hb : Nat) (hbox : w.heap[hb]? = some (.cells #[.pointer (some ⟨hp, 0, none⟩)] 24 (0, 0))) (r : Bool) (n : Int) : Calls Tryd.prog 38 #[.agg #[.bool r, .int .i64 n], .pointer (some ⟨hb, 0, none⟩)] w fun e w' => e = .returned (.bool (!good S ⟨r, n⟩)) ∧ Below w.heap.size w w' := by
  refine (goodsF.calls (R := fun x w' => x = .bool (!good S ⟨r, n⟩) ∧ Below w.heap.size w w') ?_).mono (fun x w' ⟨v, h1, h2, h3⟩ => ⟨by rw [h1, h2], h3⟩)
  unfold goodsF.W
  refine box fun w3 at3 hb3 hs3 => ?_
  refine ⟨_, cell_of_block (block_below hb3 (lt_of_block hbox) hbox) rfl, _, _, cellsAt_of_block at3 [.bool r, .int .i64 n] 0 rfl, ?_⟩
  refine (hgood_spec (h.below hb3) r n).mono ?_
  rintro _ w7 ⟨rfl, hb7⟩
  exact ⟨_, rfl, rfl, hb3.trans (hb7.mono (by omega))⟩

theorem goods_spec (h : Is hp w S most v) (a : Option Addr) (c : Nat) (V : List Val) (hV : Vsl w a V) (hl : V.length ≤ 1048576) : Calls Tryd.prog 23 #[.pointer (some ⟨hp, 0, none⟩), .slice a V.length c] w fun e w' => e = .returned (.bool (V.all (good S))) ∧ Below w.heap.size w w' := by
  refine (goods.calls (R := fun x w' => x = .bool (V.all (good S)) ∧ Below w.heap.size w w') ?_).mono (fun x w' ⟨v, h1, h2, h3⟩ => ⟨by rw [h1, h2], h3⟩)
  unfold goods.W
  refine box fun w4 at4 hb4 hs4 => ?_
  have h4 := h.below hb4
  have hV4 : Vsl w4 a V := hV.kept fun b o hlt _ => hb4.block b hlt
  have idx : Calls Tryd.prog 39 #[.slice a V.length c, .func (.func 38) #[] #[.pointer (some ⟨w.heap.size, 0, none⟩)]] w4 fun e w' => ∃ z : Int, e = .returned (.int .i64 z) ∧ (decide (z ≥ 0) = !V.all (good S)) ∧ Below w4.heap.size w4 w' := by
    refine (IndexFunc.calls (R := fun x w' => ∃ z : Int, x = .int .i64 z ∧ (decide (z ≥ 0) = !V.all (good S)) ∧ Below w4.heap.size w4 w') ?_).mono (fun x w' ⟨v, h1, z, h2, h3⟩ => ⟨z, by rw [h1, h2], h3⟩)
    unfold IndexFunc.W
    refine ⟨fun us w2 => ∃ j : Nat, j ≤ V.length ∧ us = [.int .i64 j] ∧ (V.take j).all (good S) = true ∧ Below w4.heap.size w4 w2, fun us _ => match us with | [.int _ j] => V.length - j.toNat | _ => 0, ⟨0, Nat.zero_le _, rfl, by simp, Below.refl _ _⟩, ?_⟩
    rintro _ us w6 ⟨j, hj, rfl, hall, hb6⟩
    refine ⟨_, rfl, ifD (fun hlt => ?_) (fun hge => ⟨-1, rfl, ?_, hb6⟩)⟩
    · have hlt' : j < V.length := by omega
      obtain ⟨b, o, rfl, hc⟩ := hV4 j hlt'
      have hc6 := cellsAt_below hb6 (cellsAt_lt hc) hc
      refine ⟨b, o, rfl, by omega, hlt, _, _, hc6, ?_⟩
      refine (goodsF_spec (h4.below hb6) w.heap.size (block_below hb6 (lt_of_block at4) at4) _ _).mono ?_
      rintro _ w14 ⟨rfl, hb14⟩
      have b14 := hb6.trans (hb14.mono hb6.size)
      have ht : V.take (j + 1) = V.take j ++ [V[j]] := by rw [List.take_succ_eq_append_getElem hlt']
      refine ⟨_, rfl, ifB (fun hbad => ⟨j, rfl, ?_, b14⟩) (fun hgd => ?_)⟩
      · rw [decide_eq_true (by omega)]
        have : V.all (good S) = false := by
          rw [List.all_eq_false]
          exact ⟨V[j], List.getElem_mem _, by simpa using hbad⟩
        rw [this]; rfl
      · rw [w64 (x := (j : Int) + 1) (by omega) (by omega)]
        refine ⟨⟨j + 1, hlt', rfl, ?_, b14⟩, by simp only; omega⟩
        rw [ht, List.all_append, hall, Bool.true_and]
        simpa using hgd
    · have : j = V.length := by omega
      subst this
      rw [List.take_length] at hall
      rw [hall]; rfl
  have con : Calls Tryd.prog 37 #[.slice a V.length c, .func (.func 38) #[] #[.pointer (some ⟨w.heap.size, 0, none⟩)]] w4 fun e w' => e = .returned (.bool (!V.all (good S))) ∧ Below w4.heap.size w4 w' := by
    refine (ContainsFunc.calls (R := fun x w' => x = .bool (!V.all (good S)) ∧ Below w4.heap.size w4 w') ?_).mono (fun x w' ⟨v, h1, h2, h3⟩ => ⟨by rw [h1, h2], h3⟩)
    unfold ContainsFunc.W
    refine idx.mono ?_
    rintro _ w' ⟨z, rfl, hz, hb⟩
    exact ⟨_, rfl, by rw [hz], hb⟩
  refine con.mono ?_
  rintro _ w5 ⟨rfl, hb5⟩
  exact ⟨_, rfl, by rw [Bool.not_not], hb4.trans (hb5.mono (by omega))⟩

end Go.Proofs.YtfenhbjamohdgaaDoor.Vf
end

/- part H1B -/
section
namespace Go.Vx.Hp
open Go.RowKit

theorem sumN_snoc (S : List St) (l : List Val) (x : Val) : sumN S (l ++ [x]) = sumN S l + nodesOf S x := by
  induction l with
  | nil => simp [sumN]
  | cons a r ih => simp only [List.cons_append, sumN, ih]; omega
theorem maxD_snoc (S : List St) (l : List Val) (x : Val) : maxD S (l ++ [x]) = max (maxD S l) (depthOf S x + 1) := by
  induction l with
  | nil => simp only [List.nil_append, maxD]; omega
  | cons a r ih => simp only [List.cons_append, maxD, ih]; omega
theorem nodesOf_le {S : List St} (hok : ∀ s ∈ S, s.Ok) {x : Val} (hg : good S x = true) : 1 ≤ nodesOf S x ∧ nodesOf S x ≤ 4096 ∧ 1 ≤ depthOf S x ∧ depthOf S x ≤ 200 := by
  unfold nodesOf depthOf
  unfold good at hg
  split
  · rename_i hr
    simp only [hr, Bool.not_true, Bool.false_or, Bool.and_eq_true, Option.isSome_iff_exists] at hg
    obtain ⟨_, s, hs⟩ := hg
    have := hok s (find_mem hs)
    unfold St.Ok at this
    rw [hs]; simp only; omega
  · omega
theorem sumN_le {S : List St} (hok : ∀ s ∈ S, s.Ok) : ∀ {l : List Val}, l.all (good S) = true → (l.length : Int) ≤ sumN S l ∧ sumN S l ≤ 4096 * l.length ∧ 1 ≤ maxD S l ∧ maxD S l ≤ 201
  | [], _ => by simp [sumN, maxD]
  | a :: r, h => by
    simp only [List.all_cons, Bool.and_eq_true] at h
    have h1 := nodesOf_le hok h.1
    have h2 := sumN_le hok h.2
    simp only [sumN, maxD, List.length_cons]; omega

/-- one more cell of the row that hp holds -/
theorem push {P : Program} {y74 y84 : Ty} (h74 : y74.Ok P 74) (ht : y74.tk = .sl 84) (h84 : y84.Ok P 84) (hsz : y84.size = 3) (hby : y84.bytes = 24) {w1 : World} {hp nb n : Nat} {a : Option Addr} {m c : Nat} {most : Int} {xs news : List Value}
    (hhp : w1.heap[hp]? = some (.cells #[.slice a m c, .int .i64 most] 76 (0, 0))) (hown : w1.ownsRow (hp + 1) 84 3 (.slice a m c) n xs) (hl : news.length = 3) (hone : (news.all fun v => v.oneCell') = true) (hc : cellsAt w1 nb 0 news) (hn : n ≤ 2097152) :
    ∃ (a1 : Option Addr) (k c1 : Nat) (w2 : World), Runs P (Builtin.append_ #[74, 74] 74 #[.slice a m c, .slice (some ⟨nb, 0, none⟩) 1 1]) w1 (.slice a1 k c1) w2 ∧ k = n + 1 ∧
      ∀ G : World → Prop, (∀ w3, w3.heap[hp]? = some (.cells #[.slice a1 k c1, .int .i64 most] 76 (0, 0)) → w3.ownsRow (hp + 1) 84 3 (.slice a1 k c1) k (xs ++ news) → Chg (fun k => k = hp ∨ some k = (Value.slice a m c).ownBlock) w1 w3 →
        Nxt w1.heap.size (.slice a m c) (.slice a1 k c1) → G w3) → (canSt w2 hp 0 [.slice a1 k c1] ∧ withW (setL w2 hp 0 [.slice a1 k c1]) G) := by
  have hown' : w1.ownsRow (hp + 1) 84 y84.size (.slice a m c) n xs := by rw [hsz]; exact hown
  obtain ⟨a1, k1, c1, w2, hrun, rfl, hown2, hg, hnx⟩ := append_own (P := P) (ty := 74) h74 ht h84 (by omega) hown' (m := 1) (c := 1) (news := news) (by rw [hl, hsz]) hc hone (by rw [hby]; omega) (by omega) (by have := lt_of_block hhp; omega)
  rw [hsz] at hown2
  refine ⟨a1, _, c1, w2, hrun, rfl, fun G hG => ?_⟩
  have hne : some hp ≠ (Value.slice a m c).ownBlock := fun e => by have := hown.lt hp e.symm; omega
  refine setStep (grown_block hg hhp hne) (by simp) rfl fun w3 at3 same3 hsz3 hg3 => hG w3 at3 ?_ ?_ hnx
  · exact own_block hown2 fun g hg' => same3 g fun e => by have := hown2.lt g hg'; omega
  · exact ⟨hg3.os.trans hg.os, hg3.tape.trans hg.tape, hg3.output.trans hg.output, by rw [hsz3]; exact hg.size, fun k hk hn' => (same3 k fun e => hn' (.inl e)).trans (hg.block k hk fun e => hn' (.inr e))⟩

end Go.Vx.Hp

namespace Go.Proofs.YtfenhbjamohdgaaDoor.Vf
open Go.Vx Go.Vx.Hp Go.RowKit

/-- what Alloc tells -/
def AllocPost (hp : Nat) (w : World) (S : List St) (most : Int) (v : Value) (E0 E1 E2 : Value) (n : Int) (V : List Val) (x : Value) (w' : World) : Prop :=
  ((n < 0 ∨ 8 < V.length ∨ V.all (good S) = false) ∧ x = .tuple #[.agg #[.bool false, .int .i64 0], E1] ∧ Below w.heap.size w w') ∨
  (0 ≤ n ∧ V.length ≤ 8 ∧ V.all (good S) = true ∧ (4096 < 1 + sumN S V ∨ 200 < maxD S V) ∧ x = .tuple #[.agg #[.bool false, .int .i64 0], E2] ∧ Below w.heap.size w w') ∨
  (0 ≤ n ∧ V.length ≤ 8 ∧ V.all (good S) = true ∧ 1 + sumN S V ≤ 4096 ∧ maxD S V ≤ 200 ∧ most < used S + 1 + V.length ∧ x = .tuple #[.agg #[.bool false, .int .i64 0], E0] ∧ Below w.heap.size w w') ∨
  (0 ≤ n ∧ V.length ≤ 8 ∧ V.all (good S) = true ∧ 1 + sumN S V ≤ 4096 ∧ maxD S V ≤ 200 ∧ used S + 1 + V.length ≤ most ∧ x = .tuple #[.agg #[.bool true, .int .i64 (used S : Nat)], .nilIface] ∧
    ∃ b v', w.heap.size ≤ b ∧ Is hp w' (S ++ [⟨b, n, V, 1 + sumN S V, maxD S V⟩]) most v' ∧ Chg (fun k => k = hp ∨ some k = v.ownBlock) w w' ∧ Nxt w.heap.size v v')

set_option maxHeartbeats 1000000 in
theorem Alloc_spec {hp : Nat} {w : World} {S : List St} {most : Int} {v : Value} (h : Is hp w S most v) (E0 E1 E2 : Value) (h0 : w.cell? ⟨0, 0, none⟩ = some E0) (h1 : w.cell? ⟨1, 0, none⟩ = some E1) (h2 : w.cell? ⟨2, 0, none⟩ = some E2) (hlow : 2 < hp)
    (n : Int) (hn : n ≤ 9223372036854775807) (a : Option Addr) (c : Nat) (V : List Val) (hV : Vsl w a V) (hVl : V.length ≤ 1048576) (hap : ∀ b o, a = some ⟨b, o, none⟩ → ¬ Mine hp S v b) :
    Calls Tryd.prog 10 #[.pointer (some ⟨hp, 0, none⟩), .int .i64 n, .slice a V.length c] w fun e w' => ∃ x, e = .returned x ∧ AllocPost hp w S most v E0 E1 E2 n V x w' := by
  refine Alloc.calls (R := fun x w' => AllocPost hp w S most v E0 E1 E2 n V x w') ?_
  unfold Alloc.W
  have hhp := lt_of_block h.blk
  refine box fun w5 at5 hb5 hs5 => ?_
  -- an error is told
  have no : ∀ (w' : World) (g : Nat) (E : Value), w'.heap[w.heap.size]? = some (.cells #[.bool false, .int .i64 0] 30 (0, 0)) → Below w.heap.size w w' → g ≤ 2 → w.cell? ⟨g, 0, none⟩ = some E →
      (∀ w'', Below w.heap.size w w'' → AllocPost hp w S most v E0 E1 E2 n V (.tuple #[.agg #[.bool false, .int .i64 0], E]) w'') →
      withW (World.drew w') fun w6 => (∃ (v7 : Value), World.cell? w6 ⟨g, 0, none⟩ = some v7 ∧ (canSt w6 w.heap.size 0 [(.bool false), (.int .i64 0)] ∧ withW (setL w6 w.heap.size 0 [(.bool false), (.int .i64 0)]) fun w8 =>
        (cellsAt w8 g 0 [v7] ∧ (∃ (b9 : Bool) (n10 : Int), cellsAt w8 w.heap.size 0 [(.bool b9), (.int .i64 n10)] ∧ (AllocPost hp w S most v E0 E1 E2 n V (.tuple #[(.agg #[(.bool b9), (.int .i64 n10)]), v7]) w8))))) := by
    intro w' g E k1 k2 k3 k4 k5
    refine drewStep fun w6 e6 hb6 => ?_
    have b6 : Below w.heap.size w w6 := k2.trans (hb6.mono k2.size)
    have r6 : w6.heap[w.heap.size]? = _ := e6 ▸ k1
    refine ⟨_, cell_below b6 (by omega) k4, fillStep r6 rfl rfl fun w8 at8 same8 hsz8 hg8 => ?_⟩
    have b8 : Below w.heap.size w w8 := ⟨hg8.os.trans b6.os, hg8.tape.trans b6.tape, hg8.output.trans b6.output, by have := b6.size; omega, fun j hj => (same8 j (by omega)).trans (b6.block j hj)⟩
    exact ⟨⟨cell_below b8 (by omega) k4, trivial⟩, _, _, cellsAt_of_block at8 [.bool false, .int .i64 0] 0 rfl, k5 _ b8⟩
  refine ifD (fun hneg => no w5 1 E1 at5 hb5 (by omega) h1 fun w'' b => .inl ⟨.inl hneg, rfl, b⟩) (fun hn0 => ?_)
  refine ifD (fun hgt => no w5 1 E1 at5 hb5 (by omega) h1 fun w'' b => .inl ⟨.inr (.inl (by omega)), rfl, b⟩) (fun hle8 => ?_)
  have hl8 : V.length ≤ 8 := by omega
  have hV5 := hV.kept (w' := w5) fun b o hlt _ => hb5.block b hlt
  refine (goods_spec (h.below hb5) a c V hV5 hVl).mono ?_
  rintro _ w16 ⟨rfl, hb16⟩
  have b16 := hb5.trans (hb16.mono (by omega))
  have s16 := hb16.size
  have r16 := block_below hb16 (by omega) at5
  refine ⟨_, rfl, ifN (fun hbad => no w16 1 E1 r16 b16 (by omega) h1 fun w'' b => .inl ⟨.inr (.inr hbad), rfl, b⟩) (fun hall => ?_)⟩
  have hsum := sumN_le h.ok hall
  rw [w64 (x := 1 + (V.length : Int)) (by omega) (by omega)]
  refine box fun w24 at24 hb24 hs24 => ?_
  have hXlt : w16.heap.size < w24.heap.size := by omega
  -- the sums
  refine ⟨fun us w2 => ∃ j : Nat, j ≤ V.length ∧ us = [.int .i64 j] ∧ Below w16.heap.size w16 w2 ∧ w2.heap[w16.heap.size]? = some (.cells #[.int .i64 n, .int .i64 (1 + (V.length : Int)), .int .i64 (1 + sumN S (V.take j)), .int .i64 (maxD S (V.take j)), .int .i64 0] 80 (0, 0)),
    fun us _ => match us with | [.int _ j] => V.length - j.toNat | _ => 0, ⟨0, Nat.zero_le _, rfl, hb24, at24⟩, ?_⟩
  rintro _ us w27 ⟨j, hj, rfl, hb27, at27⟩
  have b27 := b16.trans (hb27.mono (by omega))
  have s27 := lt_of_block at27
  have r27 := block_below hb27 (by omega) r16
  have h27 := h.below b27
  have hV27 := hV.kept (w' := w27) fun b o hlt _ => b27.block b hlt
  refine ⟨_, rfl, ifD (fun hlt => ?_) (fun hge => ?_)⟩
  · have hlt' : j < V.length := by omega
    obtain ⟨b, o, rfl, hc⟩ := hV27 j hlt'
    refine ⟨b, o, rfl, by omega, hlt, _, _, hc, copyStep rfl rfl fun w36 at36 hb36 hs36 => ?_⟩
    have hgj : good S V[j] = true := by
      have := List.all_eq_true.1 hall V[j] (List.getElem_mem _); exact this
    refine ⟨_, _, cellsAt_of_block at36 [.bool V[j].ref, .int .i64 V[j].n] 0 rfl, ?_⟩
    refine (measure_spec (h27.below hb36) V[j].ref V[j].n hgj).mono ?_
    rintro _ w39 ⟨rfl, hb39⟩
    have at39 := block_below (hb36.trans (hb39.mono (by omega))) s27 at27
    have s39 := hb39.size
    have hnd := nodesOf_le h.ok hgj
    have hnd' : 1 ≤ nodesOf S ⟨V[j].ref, V[j].n⟩ ∧ nodesOf S ⟨V[j].ref, V[j].n⟩ ≤ 4096 ∧ 1 ≤ depthOf S ⟨V[j].ref, V[j].n⟩ ∧ depthOf S ⟨V[j].ref, V[j].n⟩ ≤ 200 := hnd
    have hT := sumN_le (S := S) h.ok (l := V.take j) (by
      rw [List.all_eq_true] at hall ⊢
      exact fun x hx => hall x (List.mem_of_mem_take hx))
    rw [List.length_take] at hT
    have ht : V.take (j + 1) = V.take j ++ [V[j]] := by rw [List.take_succ_eq_append_getElem hlt']
    have hT1 : sumN S (V.take (j + 1)) = sumN S (V.take j) + nodesOf S V[j] := by rw [ht, sumN_snoc]
    have hT2 : maxD S (V.take (j + 1)) = max (maxD S (V.take j)) (depthOf S V[j] + 1) := by rw [ht, maxD_snoc]
    refine ⟨_, _, rfl, _, _, rfl, _, cell_of_block at39 rfl, _, _, rfl, ?_⟩
    rw [w64 (x := 1 + sumN S (V.take j) + nodesOf S ⟨V[j].ref, V[j].n⟩) (by omega) (by omega)]
    refine setStep at39 (by simp) rfl fun w48 at48 same48 hsz48 hg48 => ?_
    refine ⟨_, _, rfl, _, cell_of_block at48 rfl, _, _, rfl, ?_⟩
    rw [w64 (x := depthOf S ⟨V[j].ref, V[j].n⟩ + 1) (by omega) (by omega), w64 (x := (j : Int) + 1) (by omega) (by omega)]
    refine setStep at48 (by show 4 ≤ 5; omega) rfl fun w54 at54 same54 hsz54 hg54 => ?_
    have bb : Below w16.heap.size w16 w54 := by
      have b39 := (hb27.trans (hb36.mono (by omega))).trans (hb39.mono (by omega))
      exact ⟨hg54.os.trans (hg48.os.trans b39.os), hg54.tape.trans (hg48.tape.trans b39.tape), hg54.output.trans (hg48.output.trans b39.output), by omega, fun k hk => (same54 k (by omega)).trans ((same48 k (by omega)).trans (b39.block k hk))⟩
    refine ⟨⟨j + 1, hlt', rfl, bb, ?_⟩, by simp only; omega⟩
    rw [at54, hT1, hT2]
    have e1 : 1 + sumN S (V.take j) + nodesOf S V[j] = 1 + (sumN S (V.take j) + nodesOf S V[j]) := by omega
    have e2 : (if maxD S (V.take j) < depthOf S V[j] + 1 then depthOf S V[j] + 1 else maxD S (V.take j)) = max (maxD S (V.take j)) (depthOf S V[j] + 1) := by split <;> omega
    rw [← e1, ← e2]
    rfl
  · have : j = V.length := by omega
    subst this
    rw [List.take_length] at at27
    refine ⟨_, _, rfl, _, cell_of_block at27 rfl, ifD (fun hl => no w27 2 E2 r27 b27 (by omega) h2 fun w'' b => .inr (.inl ⟨by omega, hl8, hall, .inl (by omega), rfl, b⟩)) (fun hl => ?_)⟩
    refine ⟨_, _, rfl, _, cell_of_block at27 rfl, ifD (fun hl => no w27 2 E2 r27 b27 (by omega) h2 fun w'' b => .inr (.inl ⟨by omega, hl8, hall, .inr (by omega), rfl, b⟩)) (fun hl' => ?_)⟩
    refine drewStep fun w71 e71 hb71 => ?_
    have b71 : Below w.heap.size w w71 := b27.trans (hb71.mono b27.size)
    have h71 := h.below b71
    have at71 : w71.heap[w16.heap.size]? = _ := e71 ▸ at27
    have r71 : w71.heap[w.heap.size]? = _ := e71 ▸ r27
    have s71 : w71.heap.size = w27.heap.size := by rw [e71]
    obtain ⟨av, cv, rfl, hcv, _⟩ := h.slice
    have hfits := h.fits
    have hm1 := h.most1
    refine ⟨_, _, rfl, _, _, _, cell_of_block h71.blk rfl, _, _, rfl, _, cell_of_block at71 rfl, _, _, rfl, _, cell_of_block h71.blk rfl, ?_⟩
    rw [w64 (x := (used S : Int) + (1 + (V.length : Int))) (by omega) (by omega)]
    refine ifD (fun hfull => no w71 0 E0 r71 b71 (by omega) h0 fun w'' b => .inr (.inr (.inl ⟨by omega, hl8, hall, by omega, by omega, by omega, rfl, b⟩))) (fun hroom => ?_)
    refine ⟨_, _, rfl, _, _, _, cell_of_block h71.blk rfl, _, _, rfl, _, _, _, cell_of_block h71.blk rfl, box fun w98 at98 hb98 hs98 => ?_⟩
    have h98 := h71.below hb98
    obtain ⟨a99, k99, c99, w102, hr102, rfl, hgo⟩ := push (P := Tryd.prog) ty74 rfl ty84 rfl rfl h98.blk h98.own (news := [.bool false, .int .i64 0, .pointer (some ⟨w16.heap.size, 0, none⟩)]) rfl rfl (cellsAt_of_block at98 [.bool false, .int .i64 0, .pointer (some ⟨w16.heap.size, 0, none⟩)] 0 rfl) (by omega)
    refine ⟨_, _, _, w102, hr102, _, _, rfl, hgo _ fun w105 at105 own105 chg105 nx105 => ?_⟩
    have b98 : Below w.heap.size w w98 := b71.trans (hb98.mono b71.size)
    have c105 : Chg (fun k => k = hp ∨ some k = (Value.slice av (used S) cv).ownBlock) w w105 := (Chg.of_below (M := fun k => k = hp ∨ some k = (Value.slice av (used S) cv).ownBlock) b98 fun k hk _ => hk).trans chg105 fun k _ hk => hk
    have hownlt : ∀ g, (Value.slice av (used S) cv).ownBlock = some g → hp < g ∧ g < w.heap.size := fun g hg => by have := h.own.lt g hg; omega
    have hXne : ¬ (w16.heap.size = hp ∨ some w16.heap.size = (Value.slice av (used S) cv).ownBlock) := by
      rintro (e | e)
      · omega
      · have := hownlt _ e.symm; omega
    have hRne : ¬ (w.heap.size = hp ∨ some w.heap.size = (Value.slice av (used S) cv).ownBlock) := by
      rintro (e | e)
      · omega
      · have := hownlt _ e.symm; omega
    have at98' := block_below hb98 (by omega) at71
    have r98 := block_below hb98 (by omega) r71
    -- the arguments
    refine ⟨fun us w2 => ∃ (j : Nat) (a' : Option Addr) (c' : Nat), j ≤ V.length ∧ us = [.int .i64 j] ∧ w2.heap[hp]? = some (.cells #[.slice a' (used S + 1 + j) c', .int .i64 most] 76 (0, 0)) ∧
        w2.ownsRow (hp + 1) 84 3 (.slice a' (used S + 1 + j) c') (used S + 1 + j) (flat (cells S) ++ (⟨⟨false, 0⟩, some w16.heap.size⟩ : Cell).cs ++ flat ((V.take j).map fun x => ⟨x, none⟩)) ∧
        Chg (fun k => k = hp ∨ some k = (Value.slice av (used S) cv).ownBlock) w w2 ∧ Nxt w98.heap.size (.slice av (used S) cv) (.slice a' (used S + 1 + j) c') ∧
        w2.heap[w16.heap.size]? = w71.heap[w16.heap.size]? ∧ w2.heap[w.heap.size]? = some (.cells #[.bool false, .int .i64 0] 30 (0, 0)) ∧ w98.heap.size ≤ w2.heap.size,
      fun us _ => match us with | [.int _ j] => V.length - j.toNat | _ => 0, ⟨0, a99, c99, Nat.zero_le _, rfl, at105, by simpa [flat, Cell.cs] using own105, c105, nx105, (chg105.block _ (by omega) hXne).trans (hb98.block _ (by omega)), (chg105.block _ (by omega) hRne).trans r98, chg105.size⟩, ?_⟩
    rintro _ us w108 ⟨i, a', c', hi, rfl, at108, own108, c108, nx108, x108, r108, s108⟩
    refine ⟨_, rfl, ifD (fun hlt => ?_) (fun hge => ?_)⟩
    · have hlt' : i < V.length := by omega
      have hV108 := hV.kept (w' := w108) fun b o hlt e => c108.block b hlt fun hk => hap b o e (hk.elim .inl fun hk => .inr (.inl hk))
      obtain ⟨b, o, rfl, hc⟩ := hV108 i hlt'
      refine ⟨b, o, rfl, by omega, hlt, _, _, hc, copyStep rfl rfl fun w117 at117 hb117 hs117 => drewStep fun w118 e118 hb118 => ?_⟩
      have at118 : w118.heap[w108.heap.size]? = _ := e118 ▸ at117
      have hhp108 := lt_of_block at108
      have hb118' : Below w108.heap.size w108 w118 := hb117.trans (hb118.mono (by omega))
      have hp118 := block_below hb118' hhp108 at108
      refine ⟨_, _, rfl, _, _, _, cell_of_block hp118 rfl, _, _, cellsAt_of_block at118 [.bool V[i].ref, .int .i64 V[i].n] 0 rfl, box fun w126 at126 hb126 hs126 => ?_⟩
      have s118 : w118.heap.size = w108.heap.size + 1 := by rw [e118]; omega
      have hb126' : Below w108.heap.size w108 w126 := hb118'.trans (hb126.mono (by omega))
      have hp126 := block_below hb126' hhp108 at108
      have own126 := own_below own108 hb126' (Nat.le_refl _)
      obtain ⟨a127, k127, c127, w130, hr130, rfl, hgo'⟩ := push (P := Tryd.prog) ty74 rfl ty84 rfl rfl hp126 own126 (news := [.bool V[i].ref, .int .i64 V[i].n, .pointer none]) rfl rfl (cellsAt_of_block at126 [.bool V[i].ref, .int .i64 V[i].n, .pointer none] 0 rfl) (by omega)
      refine ⟨cellsAt_of_block hp126 [_] 0 rfl, _, _, _, w130, hr130, _, _, rfl, hgo' _ fun w133 at133 own133 chg133 nx133 => ?_⟩
      rw [w64 (x := (i : Int) + 1) (by omega) (by omega)]
      have ht : V.take (i + 1) = V.take i ++ [V[i]] := by rw [List.take_succ_eq_append_getElem hlt']
      have hmine : ∀ k, k < w98.heap.size → (k = hp ∨ some k = (Value.slice a' (used S + 1 + i) c').ownBlock) → (k = hp ∨ some k = (Value.slice av (used S) cv).ownBlock) := by
        rintro k hk (e | e)
        · exact .inl e
        · rcases nx108 with e' | ⟨q, hq, e'⟩
          · exact .inr (e.trans e')
          · rw [e'] at e; cases e; omega
      have s133 := chg133.size
      refine ⟨⟨i + 1, a127, c127, hlt', rfl, at133, ?_, ?_, nx108.trans nx133 (by omega), ?_, ?_, by omega⟩, by simp only; omega⟩
      · rw [ht, List.map_append, flat_append, ← List.append_assoc]
        exact own133
      · exact (c108.trans (Chg.of_below (M := fun _ => False) hb126' fun k hk _ => hk) fun k _ hk => hk.elim).trans chg133 fun k hk hk' => hmine k (by have := b98.size; omega) hk'
      · exact (chg133.block _ (by omega) fun hk => hXne (hmine _ (by omega) hk)).trans ((hb126'.block _ (by omega)).trans x108)
      · exact (chg133.block _ (by omega) fun hk => hRne (hmine _ (by omega) hk)).trans ((hb126'.block _ (by omega)).trans r108)
    · have : i = V.length := by omega
      subst this
      rw [List.take_length] at own108
      refine fillStep r108 rfl rfl fun w134 at134 same134 hsz134 hg134 => ⟨_, _, cellsAt_of_block at134 [.bool true, .int .i64 (used S : Nat)] 0 rfl, ?_⟩
      refine .inr (.inr (.inr ⟨by omega, hl8, hall, by omega, by omega, by omega, rfl, w16.heap.size, .slice a' (used S + 1 + V.length) c', by omega, ?_, ?_, ?_⟩))
      · have hu : used (S ++ [⟨w16.heap.size, n, V, 1 + sumN S V, maxD S V⟩]) = used S + 1 + V.length := by
          rw [used_append, used_cons, used_nil]; simp [St.size]; omega
        have hcs : flat (cells (S ++ [⟨w16.heap.size, n, V, 1 + sumN S V, maxD S V⟩])) = flat (cells S) ++ (⟨⟨false, 0⟩, some w16.heap.size⟩ : Cell).cs ++ flat (V.map fun x => ⟨x, none⟩) := by
          rw [cells_append, flat_append]; simp [cells, St.cells, flat]
        refine ⟨(same134 hp (by omega)).trans at108, ?_, ?_, ?_, h.most0, h.most1, by rw [hu]; omega, ?_, ?_⟩
        · rw [hu, hcs]
          refine own_block own108 fun g hg => same134 g fun e => ?_
          rcases nx108 with e' | ⟨q, hq, e'⟩
          · rw [e'] at hg; have := hownlt g hg; omega
          · rw [e'] at hg; cases hg; omega
        · intro s hs
          have hne : ∀ b, b < w98.heap.size → ¬ some b = (Value.slice av (used S) cv).ownBlock → some b ≠ (Value.slice a' (used S + 1 + V.length) c').ownBlock := by
            intro b hb hne e
            rcases nx108 with e' | ⟨q, hq, e'⟩
            · exact hne (e.trans e')
            · rw [e'] at e; cases e; omega
          rcases List.mem_append.1 hs with hs | hs
          · obtain ⟨k1, k2, k3, k4⟩ := h.hd s hs
            refine ⟨k1, by omega, hne _ (by omega) k3, ?_⟩
            exact (same134 _ (by omega)).trans ((c108.block _ k2 fun hk => by rcases hk with e | e; omega; exact k3 e).trans k4)
          · rw [List.mem_singleton] at hs
            subst hs
            refine ⟨by show hp < w16.heap.size; omega, by show w16.heap.size < _; omega, hne _ (by show w16.heap.size < _; omega) fun e => hXne (.inr e), ?_⟩
            show w134.heap[w16.heap.size]? = _
            rw [same134 _ (by omega), x108, at71]
            simp only [hdObj, St.size]
            congr 4
        · intro s hs
          rcases List.mem_append.1 hs with hs | hs
          · exact h.ok s hs
          · rw [List.mem_singleton] at hs
            subst hs
            exact ⟨by show 0 ≤ n; omega, hn, hl8, by show 1 ≤ 1 + sumN S V; omega, by show 1 + sumN S V ≤ 4096; omega, by show 1 ≤ maxD S V; omega, by show maxD S V ≤ 200; omega⟩
        · rw [List.map_append, List.nodup_append]
          refine ⟨h.nd, List.nodup_cons.2 ⟨by simp, List.nodup_nil⟩, fun x hx y hy e => ?_⟩
          obtain ⟨s, hs, rfl⟩ := List.mem_map.1 hx
          have h5 := (h.hd s hs).2.1
          have h6 : y = w16.heap.size := by simpa using hy
          omega
        · intro s hs
          rw [List.all_eq_true]
          rcases List.mem_append.1 hs with hs | hs
          · exact fun x hx => good_append (List.all_eq_true.1 (h.cl s hs) x hx)
          · rw [List.mem_singleton] at hs
            subst hs
            exact fun x hx => good_append (List.all_eq_true.1 hall x hx)
      · exact c108.trans (M' := fun k => k = w.heap.size) hg134 fun k hk e => by omega
      · rcases nx108 with e' | ⟨q, hq, e'⟩
        · exact .inl e'
        · exact .inr ⟨q, by omega, e'⟩

end Go.Proofs.YtfenhbjamohdgaaDoor.Vf
end

/- part H1C -/
section
namespace Go.Proofs.YtfenhbjamohdgaaDoor.Vf
open Go.Vx Go.Vx.Hp Go.RowKit

variable {hp : Nat} {w : World} {S : List St} {most : Int} {v : Value}

theorem Get_bad (h : Is hp w S most v) (E1 : Value) (h1 : w.cell? ⟨1, 0, none⟩ = some E1) (hlow : 2 < hp) (r : Bool) (n : Int) (hb : r = false ∨ good S ⟨r, n⟩ = false) :
    Calls Tryd.prog 11 #[.pointer (some ⟨hp, 0, none⟩), .agg #[.bool r, .int .i64 n]] w fun e w' => e = .returned (.tuple #[.int .i64 0, .slice none 0 0, E1]) ∧ Below w.heap.size w w' := by
  refine (Get.calls (R := fun x w' => x = .tuple #[.int .i64 0, .slice none 0 0, E1] ∧ Below w.heap.size w w') ?_).mono (fun x w' ⟨v, h1, h2, h3⟩ => ⟨by rw [h1, h2], h3⟩)
  unfold Get.W
  have hlt := lt_of_block h.blk
  refine box fun w3 at3 hb3 hs3 => ?_
  refine ⟨_, cell_of_block at3 rfl, ifN (fun hr => drewStep fun w5 e5 hb5 => ?_) (fun hr => ?_)⟩
  · have b5 : Below w.heap.size w w5 := hb3.trans (hb5.mono (by omega))
    exact ⟨_, cell_below b5 (by omega) h1, rfl, b5⟩
  · refine ⟨_, _, cellsAt_of_block at3 [.bool r, .int .i64 n] 0 rfl, (hgood_spec (h.below hb3) r n).mono ?_⟩
    rintro _ w9 ⟨rfl, hb9⟩
    have b9 := hb3.trans (hb9.mono (by omega))
    have hbad : good S ⟨r, n⟩ = false := by
      rcases hb with hb | hb
      · rw [hb] at hr; cases hr
      · exact hb
    refine ⟨_, rfl, ifN (fun _ => drewStep fun w12 e12 hb12 => ?_) (fun hg => absurd (hbad.symm.trans hg) (by decide))⟩
    have b12 : Below w.heap.size w w12 := b9.trans (hb12.mono b9.size)
    exact ⟨_, cell_below b12 (by omega) h1, rfl, b12⟩

def vflat (V : List Val) : List Value := V.flatMap Val.cs

theorem Get_ok (h : Is hp w S most v) (n : Int) (s : St) (hg : good S ⟨true, n⟩ = true) (hs : find S n.toNat = some s) :
    Calls Tryd.prog 11 #[.pointer (some ⟨hp, 0, none⟩), .agg #[.bool true, .int .i64 n]] w fun e w' => ∃ a c, e = .returned (.tuple #[.int .i64 s.ctor, .slice a s.args.length c, .nilIface]) ∧ Below w.heap.size w w' ∧
      w'.ownsRow w.heap.size 30 2 (.slice a s.args.length c) s.args.length (vflat s.args) := by
  refine (Get.calls (R := fun x w' => ∃ a c, x = .tuple #[.int .i64 s.ctor, .slice a s.args.length c, .nilIface] ∧ Below w.heap.size w w' ∧
      w'.ownsRow w.heap.size 30 2 (.slice a s.args.length c) s.args.length (vflat s.args)) ?_).mono (fun x w' ⟨v, h1, a, c, h2, h3⟩ => ⟨a, c, by rw [h1, h2], h3⟩)
  unfold Get.W
  have hlt := lt_of_block h.blk
  have hok := h.ok s (find_mem hs)
  refine box fun w3 at3 hb3 hs3 => ?_
  refine ⟨_, cell_of_block at3 rfl, ifN (fun h => nomatch h) (fun _ => ?_)⟩
  refine ⟨_, _, cellsAt_of_block at3 [.bool true, .int .i64 n] 0 rfl, (hgood_spec (h.below hb3) true n).mono ?_⟩
  rintro _ w9 ⟨rfl, hb9⟩
  have b9 := hb3.trans (hb9.mono (by omega))
  have at9 := block_below hb9 (by omega) at3
  refine ⟨_, rfl, ifN (fun hbad => absurd (hbad.symm.trans hg) (by decide)) (fun _ => ?_)⟩
  have h9 := h.below b9
  refine ⟨_, cell_of_block at9 rfl, (hargs_spec h9 n s hg hs).mono ?_⟩
  rintro _ w15 ⟨a17, c17, rfl, e15, hb15, hargs⟩
  have b15 := b9.trans (hb15.mono b9.size)
  have s15 : w15.heap.size = w9.heap.size := by rw [e15]
  have at15 : w15.heap[w.heap.size]? = _ := e15 ▸ at9
  have s9 := hb9.size
  have h8 : s.args.length ≤ 8 := hok.2.2.1
  refine ⟨_, _, _, rfl, fun us w2 => ∃ (j : Nat) (a' : Option Addr) (c' : Nat), j ≤ s.args.length ∧ us = [.slice a' j c', .int .i64 j] ∧ w2.ownsRow w15.heap.size 30 2 (.slice a' j c') j (vflat (s.args.take j)) ∧ Below w15.heap.size w15 w2,
    fun us _ => match us with | [_, .int _ j] => s.args.length - j.toNat | _ => 0, ⟨0, none, 0, Nat.zero_le _, rfl, World.ownsRow_nil _ _ _ _, Below.refl _ _⟩, ?_⟩
  rintro _ us w22 ⟨j, a', c', hj, rfl, own22, hb22⟩
  have s22 := hb22.size
  refine ⟨_, _, _, _, rfl, ifD (fun hlt' => ?_) (fun hge => ?_)⟩
  · have hjl : j < s.args.length := by omega
    obtain ⟨g, rfl, hgo, hcell⟩ := hargs (by omega)
    have hc := hcell j hjl
    have hc22 := cellsAt_below hb22 (cellsAt_lt hc) hc
    refine ⟨g, _, rfl, by omega, hlt', _, _, _, hc22, copyStep rfl rfl fun w35 at35 hb35 hs35 => ?_⟩
    refine ⟨_, _, cellsAt_of_block at35 [.bool s.args[j].ref, .int .i64 s.args[j].n] 0 rfl, box fun w38 at38 hb38 hs38 => ?_⟩
    have b38 : Below w22.heap.size w22 w38 := hb35.trans (hb38.mono (by omega))
    have own38 := own_below own22 b38 (Nat.le_refl _)
    obtain ⟨a39, k39, c39, w42, hr42, rfl, own42, hg42, hn42⟩ := append_own (P := Tryd.prog) (ty := 33) ty33 rfl ty30 (by decide) own38 (m := 1) (c := 1) (news := [.bool s.args[j].ref, .int .i64 s.args[j].n]) rfl (cellsAt_of_block at38 [.bool s.args[j].ref, .int .i64 s.args[j].n] 0 rfl) rfl (by dsimp only; omega) (by omega) (by omega)
    refine ⟨_, _, _, w42, hr42, ?_⟩
    rw [w64 (x := (j : Int) + 1) (by omega) (by omega)]
    have b42 : Below w15.heap.size w38 w42 := own_grown own38 hg42 (Nat.le_refl _) (by omega)
    refine ⟨⟨j + 1, a39, c39, hjl, rfl, ?_, (hb22.trans (b38.mono s22)).trans b42⟩, by simp only; omega⟩
    rw [List.take_succ_eq_append_getElem hjl, vflat, List.flatMap_append]
    exact own42
  · have : j = s.args.length := by omega
    subst this
    rw [List.take_length] at own22
    refine drewStep fun w43 e43 hb43 => ?_
    have b22 := b15.trans (hb22.mono (by omega))
    have b43 : Below w.heap.size w w43 := b22.trans (hb43.mono b22.size)
    have h43 := h.below b43
    have at22 := block_below hb22 (by omega) at15
    have at43 : w43.heap[w.heap.size]? = _ := e43 ▸ at22
    obtain ⟨s', g, c, hs', hm, h0, hl, rfl, hc, hh⟩ := is_at h43 hg
    rw [hs] at hs'; cases hs'
    have := s.size_pos
    refine ⟨_, _, rfl, _, _, _, cell_of_block h43.blk rfl, _, cell_of_block at43 rfl, g, 0, rfl, h0, by omega, _, hc, _, _, rfl, _, cell_of_block hh rfl, a', c', rfl, b43, ?_⟩
    have own43 := own_below own22 hb43 (Nat.le_refl _)
    exact own43.mono (by omega)

/-- a collection without roots -/
theorem Collect_none (h : Is hp w S most v) (c : Nat) : Calls Tryd.prog 13 #[.pointer (some ⟨hp, 0, none⟩), .slice none 0 c] w fun e w' => e = .returned .nilIface ∧ Is hp w' [] most (.slice none 0 0) ∧ Chg (fun k => k = hp) w w' := by
  refine (Collect.calls (R := fun x w' => x = .nilIface ∧ Is hp w' [] most (.slice none 0 0) ∧ Chg (fun k => k = hp) w w') ?_).mono (fun x w' ⟨v, h1, h2, h3⟩ => ⟨by rw [h1, h2], h3⟩)
  unfold Collect.W
  have hlt := lt_of_block h.blk
  refine ⟨fun us w2 => us = [.int .i64 0] ∧ w = w2, fun _ _ => 0, ⟨rfl, rfl⟩, ?_⟩
  rintro _ us _ ⟨rfl, rfl⟩
  refine ⟨_, rfl, ifD (fun h => absurd h (by decide)) (fun _ => ?_)⟩
  obtain ⟨av, cv, rfl, hcv, _⟩ := h.slice
  refine ⟨_, _, rfl, _, _, _, cell_of_block h.blk rfl, box fun w27 at27 hb27 hs27 => box fun w28 at28 hb28 hs28 => ?_⟩
  have b28 : Below w.heap.size w w28 := hb27.trans (hb28.mono (by omega))
  have at28' := block_below hb28 (by omega) at27
  refine ⟨fun us w2 => us = [.int .i64 0] ∧ w28 = w2, fun _ _ => 0, ⟨rfl, rfl⟩, ?_⟩
  rintro _ us _ ⟨rfl, rfl⟩
  refine ⟨_, rfl, ifD (fun h => absurd h (by decide)) (fun _ => ?_)⟩
  refine ⟨fun us w2 => us = [.int .i64 0] ∧ w28 = w2, fun _ _ => 0, ⟨rfl, rfl⟩, ?_⟩
  rintro _ us _ ⟨rfl, rfl⟩
  refine ⟨_, rfl, _, _, rfl, _, _, _, cell_of_block at28' rfl, ifD (fun h => absurd h (by decide)) (fun _ => ?_)⟩
  refine ⟨_, _, rfl, _, _, _, cell_of_block at28' rfl, fun us w2 => us = [.int .i64 0] ∧ w28 = w2, fun _ _ => 0, ⟨rfl, rfl⟩, ?_⟩
  rintro _ us _ ⟨rfl, rfl⟩
  refine ⟨_, rfl, ifD (fun h => absurd h (by decide)) (fun _ => ?_)⟩
  have h28 := block_below b28 hlt h.blk
  refine ⟨_, _, rfl, _, _, _, cell_of_block at28' rfl, _, _, rfl, setStep h28 (by simp) rfl fun w125 at125 same125 hsz125 hg125 => ⟨rfl, ⟨at125, World.ownsRow_nil _ _ _ _, (fun s hs => nomatch hs), (fun s hs => nomatch hs), h.most0, h.most1, by rw [used_nil]; exact h.most0, List.nodup_nil, (fun s hs => nomatch hs)⟩, ?_⟩⟩
  exact (Chg.of_below (M := fun k => k = hp) b28 fun k hk _ => hk).trans hg125 fun k _ hk => hk

end Go.Proofs.YtfenhbjamohdgaaDoor.Vf
end

/- part H2B -/
section
namespace Go.Vx.Hp
open Go.RowKit

/-- while collecting: M has been moved; X: the new cells as they stand -/
structure Mv (hp C : Nat) (w : World) (S : List St) (most : Int) (F T : Value) (M : Mov) (X : List Cell) : Prop where
  hpb : w.heap[hp]? = some (.cells #[F, .int .i64 most] 76 (0, 0))
  fown : w.ownsRow (hp + 1) 84 3 F (used S) (flat (cells S))
  flt : ∀ g, F.ownBlock = some g → g < C
  cb : w.heap[C]? = some (.cells #[F, T] 89 (0, 0))
  town : w.ownsRow (C + 1) 84 3 T X.length (flat X)
  hd : ∀ p s, find S p = some s → hp < s.blk ∧ s.blk < C ∧ some s.blk ≠ F.ownBlock ∧ w.heap[s.blk]? = some (hdObj s (markOf M p))
  nd : (S.map St.blk).Nodup
  mv : Moves S M
  len : X.length = tot M
  hpC : hp < C
  lim : used S ≤ 1048576

/-- the blocks that a collection's step may change: C's, the new cells', the heads' -/
def Cm (C : Nat) (T : Value) (S : List St) (k : Nat) : Prop := k = C ∨ some k = T.ownBlock ∨ ∃ s ∈ S, s.blk = k

theorem Mv.below {hp C : Nat} {w w' : World} {S : List St} {most : Int} {F T : Value} {M : Mov} {X : List Cell} (h : Mv hp C w S most F T M X) (hb : Below w.heap.size w w') : Mv hp C w' S most F T M X :=
  ⟨block_below hb (lt_of_block h.hpb) h.hpb, own_below h.fown hb (Nat.le_refl _), h.flt, block_below hb (lt_of_block h.cb) h.cb, own_below h.town hb (Nat.le_refl _), fun p s hs => by
    obtain ⟨h1, h2, h3, h4⟩ := h.hd p s hs
    exact ⟨h1, h2, h3, block_below hb (lt_of_block h4) h4⟩, h.nd, h.mv, h.len, h.hpC, h.lim⟩

theorem flat_seg (C : List Cell) (p n : Nat) : ((flat C).drop (p * 3)).take (n * 3) = flat ((C.drop p).take n) := by
  induction C generalizing p n with
  | nil => simp [flat]
  | cons c r ih =>
    have e : flat (c :: r) = c.cs ++ flat r := rfl
    cases p with
    | zero =>
      cases n with
      | zero => simp [flat]
      | succ n =>
        have := ih 0 n
        simp only [Nat.zero_mul, List.drop_zero] at this ⊢
        rw [e, List.take_succ_cons]
        show (c.cs ++ flat r).take ((n + 1) * 3) = c.cs ++ flat (r.take n)
        rw [show (n + 1) * 3 = c.cs.length + n * 3 by simp [Cell.cs]; omega, List.take_length_add_append, this]
    | succ p =>
      rw [e, List.drop_succ_cons, ← ih p n, show (p + 1) * 3 = c.cs.length + p * 3 by simp [Cell.cs]; omega, List.drop_append, List.drop_of_length_le (by omega), List.nil_append, Nat.add_sub_cancel_left]

theorem flat_one (C : List Cell) : ((flat C).all fun v => v.oneCell') = true := by
  induction C with
  | nil => rfl
  | cons c r ih => show ((c.cs ++ flat r).all _) = true; rw [List.all_append, ih]; rfl

end Go.Vx.Hp

namespace Go.Proofs.YtfenhbjamohdgaaDoor.Vf
open Go.Vx Go.Vx.Hp Go.RowKit

set_option maxHeartbeats 1000000 in
theorem move_spec {hp C : Nat} {w : World} {S : List St} {most : Int} {F T : Value} {M : Mov} {X : List Cell} (h : Mv hp C w S most F T M X) (r : Bool) (n : Int) (hg : good S ⟨r, n⟩ = true) :
    Calls Tryd.prog 27 #[.pointer (some ⟨C, 0, none⟩), .agg #[.bool r, .int .i64 n]] w fun e w' => ∃ M' T' X', e = .returned (.agg #[.bool (fwd M' ⟨r, n⟩).ref, .int .i64 (fwd M' ⟨r, n⟩).n]) ∧ In M' ⟨r, n⟩ ∧
      ((M' = M ∧ X' = X) ∨ (r = true ∧ ∃ s, find S n.toNat = some s ∧ pos M n.toNat = none ∧ M' = M ++ [(n.toNat, s)] ∧ X' = X ++ s.cells)) ∧
      Mv hp C w' S most F T' M' X' ∧ Chg (Cm C T S) w w' ∧ Nxt w.heap.size T T' := by
  refine (move.calls (R := fun x w' => ∃ M' T' X', x = .agg #[.bool (fwd M' ⟨r, n⟩).ref, .int .i64 (fwd M' ⟨r, n⟩).n] ∧ In M' ⟨r, n⟩ ∧
      ((M' = M ∧ X' = X) ∨ (r = true ∧ ∃ s, find S n.toNat = some s ∧ pos M n.toNat = none ∧ M' = M ++ [(n.toNat, s)] ∧ X' = X ++ s.cells)) ∧
      Mv hp C w' S most F T' M' X' ∧ Chg (Cm C T S) w w' ∧ Nxt w.heap.size T T') ?_).mono (fun x w' ⟨v, h1, M', T', X', h2, h3⟩ => ⟨M', T', X', by rw [h1, h2], h3⟩)
  unfold move.W
  have hC := lt_of_block h.cb
  refine box fun w3 at3 hb3 hs3 => box fun w4 at4 hb4 hs4 => ?_
  have b4 : Below w.heap.size w w4 := hb3.trans (hb4.mono (by omega))
  have at3' := block_below hb4 (by omega) at3
  have h4 := h.below b4
  refine ⟨_, cell_of_block at3' rfl, ifN (fun hr => ?_) (fun hr => drewStep fun w11 e11 hb11 => ?_)⟩
  · refine ⟨_, _, cellsAt_of_block at3' [.bool r, .int .i64 n] 0 rfl, fillStep at4 rfl rfl fun w8 at8 same8 hsz8 hg8 => ⟨_, _, cellsAt_of_block at8 [.bool r, .int .i64 n] 0 rfl, ?_⟩⟩
    have b8 : Below w.heap.size w w8 := ⟨hg8.os.trans b4.os, hg8.tape.trans b4.tape, hg8.output.trans b4.output, by have := b4.size; omega, fun k hk => (same8 k (by omega)).trans (b4.block k hk)⟩
    refine ⟨M, T, X, by simp [fwd, hr], fun e => absurd (hr.symm.trans e) (by decide), .inl ⟨rfl, rfl⟩, h.below b8, Chg.of_below b8 fun k hk _ => hk, .inl rfl⟩
  · subst hr
    have b11 : Below w.heap.size w w11 := b4.trans (hb11.mono b4.size)
    have h11 := h.below b11
    have at3'' : w11.heap[w.heap.size]? = _ := e11 ▸ at3'
    have at4' : w11.heap[w3.heap.size]? = _ := e11 ▸ at4
    have s11 : w11.heap.size = w.heap.size + 2 := by rw [e11]; omega
    simp only [good, Bool.not_true, Bool.false_or, Bool.and_eq_true, decide_eq_true_eq, Option.isSome_iff_exists] at hg
    obtain ⟨h0, s, hs⟩ := hg
    obtain ⟨p, rfl⟩ : ∃ p : Nat, n = p := ⟨n.toNat, by omega⟩
    rw [Int.toNat_natCast] at hs ⊢
    have hl := find_lt hs
    have hsp := s.size_pos
    have hlim := h.lim
    have hsz : s.size = 1 + s.args.length := rfl
    have hlt : p < (cells S).length := by show p < used S; omega
    obtain ⟨k1, k2, k3, k4⟩ := h11.hd p s hs
    -- the cell
    obtain ⟨gF, cF, curF, hF, hgF, hhF, hcF1, hcF2, hcF3, htF⟩ : ∃ g cap cur, F = .slice (some ⟨g, 0, none⟩) (used S) cap ∧ hp + 1 ≤ g ∧ w11.heap[g]? = some (.cells cur 84 (0, 0)) ∧ used S ≤ cap ∧ cap ≤ maxLen ∧ cur.size = cap * 3 ∧ cur.toList.take (used S * 3) = flat (cells S) := by
      obtain ⟨_, ⟨_, hn⟩ | hx⟩ := h11.fown
      · omega
      · exact hx
    subst hF
    have hseg : ∀ q m, q + m ≤ used S → cellsAt w11 gF (q * 3) (flat (((cells S).drop q).take m)) := by
      intro q m hqm
      refine cellsAt_of_block hhF _ _ ?_
      have hlen : (flat (((cells S).drop q).take m)).length = m * 3 := by
        rw [flat_length, List.length_take, List.length_drop]
        show (min m (used S - q)) * 3 = _
        rw [Nat.min_eq_left (by omega)]
      rw [hlen, ← flat_seg, ← htF, List.drop_take, List.take_take]
      congr 1
      omega
    have hcell := hseg p 1 (by omega)
    have hc1 : ((cells S).drop p).take 1 = [(cells S)[p]'hlt] := by
      rw [List.drop_eq_getElem_cons hlt]; rfl
    rw [hc1] at hcell
    have hhead : ((cells S)[p]'hlt).head = some s.blk := by rw [cells_at hlt, hs]; rfl
    have hptr : w11.cell? ⟨gF, 0 + (p : Int).toNat * 3 + 2, none⟩ = some (.pointer (some ⟨s.blk, 0, none⟩)) := by
      have := hcell.2.2.1
      rw [hhead] at this
      rw [Int.toNat_natCast, Nat.zero_add]; exact this
    refine ⟨_, _, rfl, _, _, _, cell_of_block h11.cb rfl, _, cell_of_block at3'' rfl, gF, 0, rfl, by omega, by omega, _, hptr, _, _, rfl, _, cell_of_block k4 rfl, ?_⟩
    have hX := h.len
    have htot := h.mv.tot_le h.nd
    obtain ⟨aT, cT, rfl, hcT, _⟩ := own_slice h11.town
    refine ifE (fun hm0 => ?_) (fun hm0 => ?_)
    · have hpn : pos M p = none := markOf_zero.1 hm0
      have hmv := h.mv.new hs hpn
      have htot' := hmv.tot_le h.nd
      rw [tot_append] at htot'
      have htn : tot [(p, s)] = s.size := rfl
      refine ⟨_, _, rfl, _, _, _, cell_of_block h11.cb rfl, _, _, rfl, ?_⟩
      rw [w64 (x := (X.length : Int) + 1) (by omega) (by omega)]
      refine setStep k4 (by show 5 ≤ 5; omega) rfl fun w31 at31 same31 hsz31 hg31 => drewStep fun w32 e32 hb32 => ?_
      have same32 : ∀ k, k ≠ s.blk → w32.heap[k]? = w11.heap[k]? := fun k hk => by rw [e32]; exact same31 k hk
      have at32 : w32.heap[s.blk]? = some (hdObj s ((X.length : Int) + 1)) := by rw [e32]; exact at31
      have s32 : w32.heap.size = w11.heap.size := by rw [e32, hsz31]
      have cb32 := (same32 C (by omega)).trans h11.cb
      have at3w : w32.heap[w.heap.size]? = _ := (same32 _ (by omega)).trans at3''
      have at4w : w32.heap[w3.heap.size]? = _ := (same32 _ (by omega)).trans at4'
      have hgFne : gF ≠ s.blk := fun e => k3 (by rw [← e]; rfl)
      refine ⟨_, _, rfl, _, _, _, cell_of_block cb32 rfl, _, _, rfl, _, _, _, cell_of_block cb32 rfl, _, cell_of_block at3w rfl, _, cell_of_block at3w rfl, _, _, rfl, _, cell_of_block at32 rfl, ?_⟩
      rw [w64 (x := (p : Int) + (s.size : Int)) (by omega) (by omega)]
      have ee1 : ((p : Int) + (s.size : Int)).toNat - p = s.size := by omega
      rw [Int.toNat_natCast, ee1]
      have hcut : cutA (some ⟨gF, 0, none⟩) p cF 3 = some ⟨gF, p * 3, none⟩ := by rw [cutA, if_neg (by omega)]; simp [Addr.add]; omega
      rw [hcut]
      have town32 : w32.ownsRow (C + 1) 84 3 (.slice aT X.length cT) X.length (flat X) := own_block h11.town fun g hg' => same32 g fun e => by have := h11.town.lt g hg'; omega
      have hnews : cellsAt w32 gF (p * 3) (flat s.cells) := cellsAt_same (same32 gF hgFne) (by have := hseg p s.size (by omega); rw [cells_seg hs] at this; exact this)
      obtain ⟨a48, k48, c48, w51, hr51, rfl, own51, hg51, nx51⟩ := append_own (P := Tryd.prog) (ty := 74) ty74 rfl ty84 (by decide) (show w32.ownsRow (C + 1) 84 3 _ _ _ from town32) (m := s.size) (c := cF - p) (news := flat s.cells) (by rw [flat_length, St.cells_length]) hnews (flat_one _) (by dsimp only; omega) (by omega) (by omega)
      refine ⟨by omega, by omega, by omega, _, _, _, w51, hr51, _, _, rfl, ?_⟩
      have s51 := hg51.size
      have tne : ∀ k, k ≤ C → some k ≠ (Value.slice aT X.length cT).ownBlock := fun k hk e => by have := town32.lt k e.symm; omega
      have cb51 := grown_block hg51 cb32 (tne C (Nat.le_refl _))
      refine setStep cb51 (by simp) rfl fun w54 at54 same54 hsz54 hg54 => ?_
      -- what stays
      have keep : ∀ k, k < w32.heap.size → k ≠ C → some k ≠ (Value.slice aT X.length cT).ownBlock → w54.heap[k]? = w32.heap[k]? := fun k hk h1 h2 => (same54 k h1).trans (hg51.block k hk h2)
      have tne' : ∀ k, w.heap.size ≤ k → some k ≠ (Value.slice aT X.length cT).ownBlock := fun k hk e => by have := h.town.lt k e.symm; omega
      have at54h : w54.heap[s.blk]? = some (hdObj s ((X.length : Int) + 1)) := (keep s.blk (by omega) (by omega) (tne _ (by omega))).trans at32
      refine ⟨_, _, rfl, _, cell_of_block at54h rfl, ?_⟩
      rw [w64 (x := (X.length : Int) + 1 - 1) (by omega) (by omega)]
      have at4z : w54.heap[w3.heap.size]? = _ := (keep _ (by omega) (by omega) (tne' _ (by omega))).trans at4w
      refine fillStep at4z rfl rfl fun w58 at58 same58 hsz58 hg58 => ⟨_, _, cellsAt_of_block at58 [.bool true, .int .i64 ((X.length : Int) + 1 - 1)] 0 rfl, ?_⟩
      have keep58 : ∀ k, k < w32.heap.size → k ≠ C → k ≠ w3.heap.size → some k ≠ (Value.slice aT X.length cT).ownBlock → w58.heap[k]? = w32.heap[k]? := fun k hk h1 h2 h3 => (same58 k h2).trans (keep k hk h1 h3)
      have hnew : pos (M ++ [(p, s)]) p = some (tot M) := pos_new hpn
      refine ⟨M ++ [(p, s)], .slice a48 (X.length + s.size) c48, X ++ s.cells, ?_, ?_, .inr ⟨rfl, s, hs, hpn, rfl, rfl⟩, ?_, ?_, ?_⟩
      · simp only [fwd, if_true, Int.toNat_natCast, hnew, Option.getD_some]
        rw [hX, show ((tot M : Nat) : Int) + 1 - 1 = (tot M : Nat) by omega]
      · intro _; simp only [Int.toNat_natCast, hnew]; rfl
      · refine ⟨?_, ?_, h.flt, ?_, ?_, ?_, h.nd, hmv, ?_, h.hpC, h.lim⟩
        · have hh := lt_of_block h.hpb
          have hpC := h.hpC
          exact (keep58 hp (by omega) (by omega) (by omega) (tne _ (by omega))).trans ((same32 hp (by omega)).trans h11.hpb)
        · refine own_block h11.fown fun g hg' => ?_
          have := h.flt g hg'
          exact (keep58 g (by omega) (by omega) (by omega) (tne _ (by omega))).trans (same32 g (by rintro rfl; exact k3 hg'.symm))
        · exact (same58 C (by omega)).trans at54
        · rw [List.length_append, St.cells_length, flat_append]
          refine own_block own51 fun g hg' => ?_
          have hgl := own51.lt g hg'
          refine (same58 g fun e => ?_).trans (same54 g (by omega))
          subst e
          rcases nx51 with e' | ⟨q, hq, e'⟩
          · exact tne' _ (by omega) (hg'.symm.trans e')
          · rw [e'] at hg'; cases hg'; omega
        · intro p' s' hs'
          obtain ⟨j1, j2, j3, j4⟩ := h11.hd p' s' hs'
          refine ⟨j1, j2, j3, ?_⟩
          refine (keep58 s'.blk (by omega) (by omega) (by omega) (tne _ (by omega))).trans ?_
          by_cases hpp : p' = p
          · subst hpp
            rw [hs] at hs'; cases hs'
            rw [at32]
            simp only [markOf, hnew]
            rw [hX]
          · have hbne : s'.blk ≠ s.blk := fun e => hpp (find_inj h.nd hs' hs e)
            rw [same32 _ hbne, j4]
            simp only [markOf, pos_other hpp]
        · rw [List.length_append, St.cells_length, tot_append]
          omega
      · have sz : w.heap.size ≤ w58.heap.size := by omega
        refine ⟨hg58.os.trans (hg54.os.trans (hg51.os.trans (hb32.os.trans (hg31.os.trans b11.os)))), hg58.tape.trans (hg54.tape.trans (hg51.tape.trans (hb32.tape.trans (hg31.tape.trans b11.tape)))), hg58.output.trans (hg54.output.trans (hg51.output.trans (hb32.output.trans (hg31.output.trans b11.output)))), sz, fun k hk hn => ?_⟩
        have n1 : k ≠ C := fun e => hn (.inl e)
        have n2 : some k ≠ (Value.slice aT X.length cT).ownBlock := fun e => hn (.inr (.inl e))
        have n3 : k ≠ s.blk := fun e => hn (.inr (.inr ⟨s, find_mem hs, e.symm⟩))
        exact (keep58 k (by omega) n1 (by omega) n2).trans ((same32 k n3).trans (b11.block k hk))
      · rcases nx51 with e' | ⟨q, hq, e'⟩
        · exact .inl e'
        · exact .inr ⟨q, by omega, e'⟩
    · obtain ⟨q, hq⟩ : ∃ q, pos M p = some q := by
        cases hp' : pos M p with
        | none => exact absurd (markOf_zero.2 hp') hm0
        | some q => exact ⟨q, rfl⟩
      have hqt := pos_lt hq
      have hmk : markOf M p = (q : Int) + 1 := by simp only [markOf, hq]
      refine ⟨_, _, rfl, _, cell_of_block k4 rfl, ?_⟩
      rw [hmk, w64 (x := (q : Int) + 1 - 1) (by omega) (by omega)]
      refine fillStep at4' rfl rfl fun w64' at64 same64 hsz64 hg64 => ⟨_, _, cellsAt_of_block at64 [.bool true, .int .i64 ((q : Int) + 1 - 1)] 0 rfl, ?_⟩
      have b64 : Below w.heap.size w w64' := ⟨hg64.os.trans b11.os, hg64.tape.trans b11.tape, hg64.output.trans b11.output, by omega, fun k hk => (same64 k (by omega)).trans (b11.block k hk)⟩
      refine ⟨M, _, X, ?_, ?_, .inl ⟨rfl, rfl⟩, h.below b64, Chg.of_below b64 fun k hk _ => hk, .inl rfl⟩
      · simp only [fwd, if_true, Int.toNat_natCast, hq, Option.getD_some]
        rw [show ((q : Nat) : Int) + 1 - 1 = (q : Nat) by omega]
      · intro _; simp only [Int.toNat_natCast, hq]; rfl

end Go.Proofs.YtfenhbjamohdgaaDoor.Vf
end

/- part H2D -/
section
namespace Go.Vx.Hp
open Go.RowKit

theorem setAt_right (A : List Value) : ∀ (vs : List Value) (B : List Value) (i : Nat), setAt (A ++ B) (A.length + i) vs = A ++ setAt B i vs
  | [], _, _ => rfl
  | v :: vs, B, i => by
    simp only [setAt]
    rw [List.set_append_right _ _ (by omega), Nat.add_sub_cancel_left, Nat.add_assoc]
    exact setAt_right A vs _ _
theorem setAt_left : ∀ (vs : List Value) (A B : List Value) (i : Nat), i + vs.length ≤ A.length → setAt (A ++ B) i vs = setAt A i vs ++ B
  | [], _, _, _, _ => rfl
  | v :: vs, A, B, i, h => by
    simp only [List.length_cons] at h
    simp only [setAt]
    rw [List.set_append_left _ _ (by omega)]
    exact setAt_left vs _ B (i + 1) (by rw [List.length_set]; omega)
theorem setAt_length : ∀ (vs : List Value) (A : List Value) (i : Nat), (setAt A i vs).length = A.length
  | [], _, _ => rfl
  | v :: vs, A, i => by simp only [setAt]; rw [setAt_length vs]; simp

theorem flat_set : ∀ (X : List Cell) (k : Nat) (h : k < X.length) (v : Val), setAt (flat X) (k * 3) [.bool v.ref, .int .i64 v.n] = flat (X.set k ⟨v, X[k].head⟩)
  | c :: r, 0, _, v => rfl
  | c :: r, k + 1, h, v => by
    have ih := flat_set r k (by simpa using h) v
    have e : flat (c :: r) = c.cs ++ flat r := rfl
    rw [e, show (k + 1) * 3 = c.cs.length + k * 3 by simp [Cell.cs]; omega, setAt_right, ih]
    rfl

/-- one cell's value written in a row of one's own -/
theorem own_set {w w1 : World} {base g n cap : Nat} {X : List Cell} {k : Nat} (hk : k < X.length) {v : Val} (h : w.ownsRow base 84 3 (.slice (some ⟨g, 0, none⟩) n cap) n (flat X)) (hX : X.length = n)
    {cur : Array Value} (hc : w.heap[g]? = some (.cells cur 84 (0, 0))) (h1 : w1.heap[g]? = some (.cells (setAt cur.toList (k * 3) [.bool v.ref, .int .i64 v.n]).toArray 84 (0, 0))) :
    w1.ownsRow base 84 3 (.slice (some ⟨g, 0, none⟩) n cap) n (flat (X.set k ⟨v, X[k].head⟩)) := by
  obtain ⟨hxl, ⟨h, _⟩ | ⟨g', cap', cur', e, hg, hh, c1, c2, c3, c4⟩⟩ := h
  · cases h
  · cases e
    rw [hc] at hh
    simp only [Option.some.injEq, Obj.cells.injEq, and_true] at hh
    subst hh
    refine ⟨by rw [flat_length, List.length_set, hX], .inr ⟨g, cap, _, rfl, hg, h1, c1, c2, by rw [List.size_toArray, setAt_length, Array.length_toList]; exact c3, ?_⟩⟩
    have e : cur.toList = flat X ++ cur.toList.drop (n * 3) := by rw [← c4, List.take_append_drop]
    have hl : (flat X).length = n * 3 := by rw [flat_length, hX]
    rw [List.toList_toArray, e, setAt_left _ _ _ _ (by simp only [List.length_cons, List.length_nil]; omega), flat_set X k hk v]
    exact List.take_left' (by rw [flat_length, List.length_set, hX])

end Go.Vx.Hp
end

/- part H2E -/
section
namespace Go.Vx.Hp
open Go.RowKit

theorem setAt2_ne (L : List Value) (i : Nat) (u v : Value) (o : Nat) (h1 : o ≠ i) (h2 : o ≠ i + 1) : (setAt L i [u, v])[o]? = L[o]? := by
  simp only [setAt]
  rw [List.getElem?_set_ne (Ne.symm h2), List.getElem?_set_ne (Ne.symm h1)]
theorem setAt2_at (L : List Value) (i : Nat) (u v : Value) (h : i + 2 ≤ L.length) : (setAt L i [u, v])[i]? = some u ∧ (setAt L i [u, v])[i + 1]? = some v := by
  simp only [setAt]
  constructor
  · rw [List.getElem?_set_ne (by omega), List.getElem?_set_self (by omega)]
  · rw [List.getElem?_set_self (by rw [List.length_set]; omega)]

/-- a place of a root -/
abbrev Pl := Nat × Nat
def ad (x : Pl) : Addr := ⟨x.1, x.2, none⟩
theorem ad_inj {x y : Pl} (h : ad x = ad y) : x = y := by
  obtain ⟨a, b⟩ := x; obtain ⟨c, d⟩ := y
  simp only [ad, Addr.mk.injEq] at h
  rw [h.1, h.2.1]

/-- root blocks: as they were, but for the roots' cells -/
structure RB (R : List Pl) (w0 w : World) : Prop where
  shape : ∀ x ∈ R, ∃ cs t cs', w0.heap[x.1]? = some (.cells cs t (0, 0)) ∧ w.heap[x.1]? = some (.cells cs' t (0, 0)) ∧ cs'.size = cs.size
  other : ∀ b o, (∃ x ∈ R, x.1 = b) → (∀ x ∈ R, x.1 = b → o ≠ x.2 ∧ o ≠ x.2 + 1) → w.cell? ⟨b, o, none⟩ = w0.cell? ⟨b, o, none⟩

theorem RB.refl {R : List Pl} {w : World} (h : ∀ x ∈ R, ∃ cs t, w.heap[x.1]? = some (.cells cs t (0, 0))) : RB R w w :=
  ⟨fun x hx => by obtain ⟨cs, t, e⟩ := h x hx; exact ⟨cs, t, cs, e, e, rfl⟩, fun _ _ _ _ => rfl⟩
theorem RB.same {R : List Pl} {w0 w w' : World} (h : RB R w0 w) (hb : ∀ x ∈ R, w'.heap[x.1]? = w.heap[x.1]?) : RB R w0 w' := by
  refine ⟨fun x hx => ?_, fun b o hx ho => ?_⟩
  · obtain ⟨cs, t, cs', e1, e2, e3⟩ := h.shape x hx
    exact ⟨cs, t, cs', e1, (hb x hx).trans e2, e3⟩
  · obtain ⟨x, hx', rfl⟩ := hx
    have := h.other x.1 o ⟨x, hx', rfl⟩ ho
    rw [← this]
    simp only [World.cell?, hb x hx']
theorem RB.set {R : List Pl} {w0 w w' : World} (h : RB R w0 w) {x : Pl} (hx : x ∈ R) {cs : Array Value} {t : TypeId} {u v : Value} (hc : w.heap[x.1]? = some (.cells cs t (0, 0))) (h1 : w'.heap[x.1]? = some (.cells (setAt cs.toList x.2 [u, v]).toArray t (0, 0))) (hb : ∀ k, k ≠ x.1 → w'.heap[k]? = w.heap[k]?) : RB R w0 w' := by
  refine ⟨fun y hy => ?_, fun b o hb' ho => ?_⟩
  · obtain ⟨cs0, t0, cs', e1, e2, e3⟩ := h.shape y hy
    by_cases e : y.1 = x.1
    · rw [e] at e1 e2 ⊢
      rw [hc] at e2
      simp only [Option.some.injEq, Obj.cells.injEq, and_true] at e2
      obtain ⟨rfl, rfl⟩ := e2
      exact ⟨cs0, t, _, e1, h1, by rw [List.size_toArray, setAt_length, Array.length_toList]; exact e3⟩
    · exact ⟨cs0, t0, cs', e1, (hb _ e).trans e2, e3⟩
  · rw [← h.other b o hb' ho]
    by_cases e : b = x.1
    · subst e
      obtain ⟨n1, n2⟩ := ho x hx rfl
      simp only [World.cell?, h1, hc]
      rw [List.getElem?_toArray, setAt2_ne _ _ _ _ _ n1 n2, Array.getElem?_toList]
    · simp only [World.cell?, hb b e]

theorem cellsAt_vals {w : World} {b o : Nat} {v : Val} : cellsAt w b o v.cs ↔ w.cell? ⟨b, o, none⟩ = some (.bool v.ref) ∧ w.cell? ⟨b, o + 1, none⟩ = some (.int .i64 v.n) := by
  constructor
  · intro h; exact ⟨h.1, h.2.1⟩
  · intro h; exact ⟨h.1, h.2, trivial⟩

end Go.Vx.Hp
end

/- part H2F -/
section
namespace Go.Vx.Hp
open Go.RowKit

theorem find_of_mem {S : List St} {s : St} (hs : s ∈ S) : ∃ p, find S p = some s := by
  induction S with
  | nil => cases hs
  | cons t r ih =>
    rcases List.mem_cons.1 hs with rfl | hs
    · exact ⟨0, rfl⟩
    · obtain ⟨p, hp⟩ := ih hs
      refine ⟨t.size + p, ?_⟩
      have := t.size_pos
      simp only [find]
      rw [if_neg (by omega), if_neg (by omega), Nat.add_sub_cancel_left]; exact hp

/-- while the roots are moved: the first i are done -/
structure RInv (hp C : Nat) (w0 w : World) (S : List St) (most : Int) (F : Value) (R : List Pl) (V : Pl → Val) (i : Nat) (M : Mov) (T : Value) (ps : List Addr) : Prop where
  mv : Mv hp C w S most F T M (raw M)
  town : ∀ g, T.ownBlock = some g → C + 2 ≤ g
  map : PMap w (C + 1) ps
  key : ∀ x ∈ R, ad x ∈ ps ↔ x ∈ R.take i
  psR : ∀ p ∈ ps, ∃ x ∈ R, p = ad x
  cells : ∀ x ∈ R, (x ∈ R.take i → cellsAt w x.1 x.2 (fwd M (V x)).cs ∧ In M (V x)) ∧ (x ∉ R.take i → cellsAt w x.1 x.2 (V x).cs)
  rch : ∀ y ∈ M, Rch S (R.map V) y.1
  rb : RB R w0 w
  old : ∀ k, k < w0.heap.size → ¬ (∃ s ∈ S, s.blk = k) → (¬ ∃ x ∈ R, x.1 = k) → w.heap[k]? = w0.heap[k]?
  os : w.os = w0.os ∧ w.tape = w0.tape ∧ w.output = w0.output
  sz : C + 2 ≤ w.heap.size

end Go.Vx.Hp

namespace Go.Proofs.YtfenhbjamohdgaaDoor.Vf
open Go.Vx Go.Vx.Hp Go.RowKit

theorem map90 : Tryd.prog.underlying 90 = some (.map 39 4) := by kernel_rfl
theorem zero4 (w : World) : (zeroValue 4).run Tryd.prog w = .ok (.bool false) w := by
  have h : ((Tryd.prog.info? 4).bind (·.zero)) = some (.bool false) := by kernel_rfl
  obtain ⟨i, hi, hz⟩ := Option.bind_eq_some_iff.1 h
  simp [zeroValue, typeInfo, hi, hz]
theorem info30 : ∃ j, Tryd.prog.info? 30 = some j ∧ j.size ≠ 0 := by
  have h : (Tryd.prog.info? 30).map (·.size) = some 2 := by kernel_rfl
  obtain ⟨j, h1, h2⟩ := Option.map_eq_some_iff.1 h
  exact ⟨j, h1, by rw [h2]; decide⟩

/-- what the roots' slice holds -/
def Psl (w : World) (a : Option Addr) (R : List Pl) : Prop := ∀ j (h : j < R.length), ∃ b f, a = some ⟨b, f, none⟩ ∧ w.cell? ⟨b, f + j * 1, none⟩ = some (.pointer (some (ad R[j])))

/-- one root is moved -/
theorem root_step {hp C : Nat} {w0 w : World} {S : List St} {most : Int} {F T : Value} {R : List Pl} {V : Pl → Val} {i : Nat} {M : Mov} {ps : List Addr} (h : RInv hp C w0 w S most F R V i M T ps) (hi : i < R.length)
    (hC : w0.heap.size ≤ C) (hnm : ∀ x ∈ R, x.1 < w0.heap.size ∧ x.1 ≠ hp ∧ some x.1 ≠ F.ownBlock ∧ ¬ ∃ s ∈ S, s.blk = x.1) (hd : ∀ x ∈ R, ∀ y ∈ R, x ≠ y → x.1 ≠ y.1 ∨ x.2 + 2 ≤ y.2 ∨ y.2 + 2 ≤ x.2)
    (hnew : R[i] ∉ R.take i) (hgd : good S (V R[i]) = true) (G : World → Prop)
    (hG : ∀ w' M' T' ps', RInv hp C w0 w' S most F R V (i + 1) M' T' ps' → G w') :
    Calls Tryd.prog 27 #[.pointer (some ⟨C, 0, none⟩), .agg #[.bool (V R[i]).ref, .int .i64 (V R[i]).n]] w fun e44 w43 => ∃ (b45 : Bool) (n46 : Int), e44 = .returned (.agg #[(.bool b45), (.int .i64 n46)]) ∧ (∃ b47 f48, (some (ad R[i]) : Option Addr) = some ⟨b47, f48, none⟩ ∧ (canSt w43 b47 f48 [(.bool b45), (.int .i64 n46)] ∧ withW (setL w43 b47 f48 [(.bool b45), (.int .i64 n46)]) fun w49 =>
      (∃ w50, Runs Tryd.prog (Instr.mapUpdate 90 (.map (some (C + 1))) (.pointer (some (ad R[i]))) (.bool true)) w49 () w50 ∧ G w50))) := by
  have hmem : R[i] ∈ R := List.getElem_mem _
  obtain ⟨x, hx⟩ : ∃ x, x = R[i] := ⟨_, rfl⟩
  rw [← hx] at hmem hnew hgd ⊢
  refine (move_spec h.mv (V x).ref (V x).n hgd).mono ?_
  rintro _ w43 ⟨M', T', X', rfl, hin, hM, hmv, hchg, hnx⟩
  have hsz := h.sz
  have hts : ∀ g, T'.ownBlock = some g → C + 2 ≤ g := fun g hg => by
    rcases hnx with e | ⟨k, hk, e⟩
    · exact h.town g (e ▸ hg)
    · rw [e] at hg; cases hg; omega
  have hX' : X' = raw M' := by
    rcases hM with ⟨rfl, rfl⟩ | ⟨_, s, _, _, rfl, rfl⟩
    · rfl
    · rw [raw_append]; simp [raw]
  subst hX'
  -- what move leaves alone
  have keep : ∀ k, k < w.heap.size → k ≠ C → (∀ g, T.ownBlock = some g → k ≠ g) → (¬ ∃ s ∈ S, s.blk = k) → w43.heap[k]? = w.heap[k]? := fun k hk h1 h2 h3 => hchg.block k hk (by
    rintro (e | e | e)
    · exact h1 e
    · exact h2 k e.symm rfl
    · exact h3 e)
  have rkeep : ∀ y ∈ R, w43.heap[y.1]? = w.heap[y.1]? := fun y hy => by
    obtain ⟨n1, n2, n3, n4⟩ := hnm y hy
    exact keep y.1 (by omega) (by omega) (fun g hg => by have := h.town g hg; omega) n4
  have rb43 := h.rb.same rkeep
  obtain ⟨cs0, t, cs, e1, e2, e3⟩ := rb43.shape x hmem
  -- the cells of this root
  have hcx : cellsAt w43 x.1 x.2 (V x).cs := cellsAt_same (rkeep x hmem) ((h.cells x hmem).2 hnew)
  have hfit : x.2 + 2 ≤ cs.size := by
    have h1 := hcx.2.1
    simp only [World.cell?, e2] at h1
    have := (Array.getElem?_eq_some_iff.1 h1).1
    omega
  obtain ⟨n1, n2, n3, n4⟩ := hnm x hmem
  refine ⟨_, _, rfl, x.1, x.2, rfl, setStep e2 hfit rfl fun w49 at49 same49 hsz49 hg49 => ?_⟩
  have map49 : PMap w49 (C + 1) ps := by
    obtain ⟨es, clock, k1, k2⟩ := h.map
    refine ⟨es, clock, ?_, k2⟩
    rw [same49 _ (by omega), keep (C + 1) (by omega) (by omega) (fun g hg => by have := h.town g hg; omega) (by
      rintro ⟨s, hs, e⟩
      obtain ⟨p, hp'⟩ := find_of_mem hs
      have := (h.mv.hd p s hp').2.1
      omega)]
    exact k1
  have rb49 := rb43.set hmem e2 at49 same49
  have plain : ∀ y ∈ R, Plain w49 (ad y) := fun y hy => by
    obtain ⟨_, t', cs', _, k2, _⟩ := rb49.shape y hy
    exact ⟨cs', t', k2⟩
  obtain ⟨j30, hj1, hj2⟩ := info30
  obtain ⟨w50, hrun, map50, hsz50, same50, chg50⟩ := update_ptr (P := Tryd.prog) map90 Tryd.underlying39 hj1 hj2 (plain x hmem) map49 (fun p hp => by obtain ⟨y, hy, rfl⟩ := h.psR p hp; exact plain y hy) (fun hm => hnew ((h.key x hmem).1 hm))
  refine ⟨w50, hrun, hG w50 M' T' (ps ++ [ad x]) ?_⟩
  have all : ∀ k, k ≠ x.1 → k ≠ C + 1 → w50.heap[k]? = w43.heap[k]? := fun k h1 h2 => (same50 k h2).trans (same49 k h1)
  have ht : R.take (i + 1) = R.take i ++ [x] := by rw [List.take_succ_eq_append_getElem hi, hx]
  have s43 := hchg.size
  refine ⟨?_, hts, map50, fun y hy => ?_, fun p hp => ?_, fun y hy => ?_, fun y hy => ?_, rb49.same fun y hy => same50 _ (by have := (hnm y hy).1; omega), fun k hk h1 h2 => ?_, ?_, by omega⟩
  · have hpC := hmv.hpC
    refine ⟨(all hp (by omega) (by omega)).trans hmv.hpb, own_block hmv.fown fun g hg => all g (by rintro rfl; exact n3 hg.symm) (by have := hmv.flt g hg; omega), hmv.flt, (all C (by omega) (by omega)).trans hmv.cb, own_block hmv.town fun g hg => all g (by have := hts g hg; omega) (by have := hts g hg; omega), fun p s hs => ?_, hmv.nd, hmv.mv, hmv.len, hpC, hmv.lim⟩
    obtain ⟨k1, k2, k3, k4⟩ := hmv.hd p s hs
    exact ⟨k1, k2, k3, (all s.blk (fun e => n4 ⟨s, find_mem hs, e⟩) (by omega)).trans k4⟩
  · rw [ht, List.mem_append, List.mem_append, List.mem_singleton, List.mem_singleton, h.key y hy]
    constructor
    · rintro (k | k)
      · exact .inl k
      · exact .inr (ad_inj k)
    · rintro (k | k)
      · exact .inl k
      · exact .inr (by rw [k])
  · rcases List.mem_append.1 hp with hp | hp
    · exact h.psR p hp
    · rw [List.mem_singleton] at hp; exact ⟨x, hmem, hp⟩
  · have hxv : cellsAt w50 x.1 x.2 (fwd M' (V x)).cs := by
      rw [cellsAt_vals]
      have := setAt2_at cs.toList x.2 (.bool (fwd M' (V x)).ref) (.int .i64 (fwd M' (V x)).n) (by rw [Array.length_toList]; exact hfit)
      have at50 := (same50 x.1 (by omega)).trans at49
      simp only [World.cell?, at50, List.getElem?_toArray]
      exact this
    have other : ∀ u : Val, y ≠ x → cellsAt w43 y.1 y.2 u.cs → cellsAt w50 y.1 y.2 u.cs := by
      intro u hne hc
      rw [cellsAt_vals] at hc ⊢
      by_cases e : y.1 = x.1
      · have hdis := hd y hy x hmem hne
        have at50 := (same50 x.1 (by omega)).trans at49
        rw [e] at hc ⊢
        simp only [World.cell?, at50, e2, List.getElem?_toArray] at hc ⊢
        rw [setAt2_ne _ _ _ _ _ (by omega) (by omega), setAt2_ne _ _ _ _ _ (by omega) (by omega), Array.getElem?_toList, Array.getElem?_toList]
        exact hc
      · have := all y.1 e (by have := (hnm y hy).1; omega)
        simp only [World.cell?, this] at hc ⊢
        exact hc
    have inM : ∀ u : Val, In M u → fwd M' u = fwd M u ∧ In M' u := by
      intro u hu
      rcases hM with ⟨rfl, _⟩ | ⟨_, s, _, _, rfl, _⟩
      · exact ⟨rfl, hu⟩
      · exact ⟨fwd_append hu, hu.append⟩
    rw [ht]
    by_cases hyx : y = x
    · subst hyx
      exact ⟨fun _ => ⟨hxv, hin⟩, fun hn => absurd (by simp) hn⟩
    · have hiff : y ∈ R.take i ++ [x] ↔ y ∈ R.take i := by simp [hyx]
      rw [hiff]
      refine ⟨fun hm => ?_, fun hn => other _ hyx (cellsAt_same (rkeep y hy) ((h.cells y hy).2 hn))⟩
      obtain ⟨k1, k2⟩ := (h.cells y hy).1 hm
      obtain ⟨k3, k4⟩ := inM _ k2
      refine ⟨?_, k4⟩
      rw [k3]
      exact other _ hyx (cellsAt_same (rkeep y hy) k1)
  · rcases hM with ⟨rfl, _⟩ | ⟨hr, s, hs, _, rfl, _⟩
    · exact h.rch y hy
    · rcases List.mem_append.1 hy with hy | hy
      · exact h.rch y hy
      · rw [List.mem_singleton] at hy
        subst hy
        exact .root (V x) (List.mem_map.2 ⟨x, hmem, rfl⟩) hr
  · have hkx : k ≠ x.1 := fun e => h2 ⟨x, hmem, e.symm⟩
    exact ((all k hkx (by omega)).trans (keep k (by omega) (by omega) (fun g hg => by have := h.town g hg; omega) h1)).trans (h.old k hk h1 h2)
  · obtain ⟨o1, o2, o3⟩ := h.os
    exact ⟨chg50.os.trans (hg49.os.trans (hchg.os.trans o1)), chg50.tape.trans (hg49.tape.trans (hchg.tape.trans o2)), chg50.output.trans (hg49.output.trans (hchg.output.trans o3))⟩

end Go.Proofs.YtfenhbjamohdgaaDoor.Vf
end

/- part H2G -/
section
namespace Go.Vx.Hp
open Go.RowKit

theorem find_moved_inv_aux (g : Val → Val) : ∀ (N : Mov), (N.map (·.1)).Nodup → ∀ {q : Nat} {s' : St}, find (N.map fun x => { x.2 with args := x.2.args.map g }) q = some s' → ∃ p s, (p, s) ∈ N ∧ pos N p = some q ∧ s' = { s with args := s.args.map g } := by
  intro N
  induction N with
  | nil => intro _ q s' h; cases h
  | cons x r ih =>
    intro hnd q s' h
    rw [List.map_cons, List.nodup_cons] at hnd
    have hsz : ({ x.2 with args := x.2.args.map g } : St).size = x.2.size := by simp [St.size]
    rw [List.map_cons] at h
    simp only [find] at h
    split at h
    · rename_i e
      cases h
      exact ⟨x.1, x.2, List.mem_cons_self, by simp [pos, e], rfl⟩
    · split at h
      · cases h
      · rename_i e1 e2
        rw [hsz] at h e2
        obtain ⟨p, s, h1, h2, h3⟩ := ih hnd.2 h
        refine ⟨p, s, List.mem_cons_of_mem _ h1, ?_, h3⟩
        have hne : x.1 ≠ p := fun e => hnd.1 (List.mem_map.2 ⟨(p, s), h1, e.symm⟩)
        simp only [pos]
        rw [if_neg hne, h2]
        simp only [Option.map_some, Option.some.injEq]
        omega
theorem find_moved_inv {S : List St} {M : Mov} (hm : Moves S M) {q : Nat} {s' : St} (h : find (moved M) q = some s') : ∃ p s, (p, s) ∈ M ∧ pos M p = some q ∧ s' = { s with args := s.args.map (fwd M) } := find_moved_inv_aux (fwd M) M hm.nd h

/-- while the new cells are scanned -/
structure ScanW (hp C : Nat) (w0 w : World) (S : List St) (most : Int) (F : Value) (R : List Pl) (V : Pl → Val) (M : Mov) (T : Value) (X : List Cell) (k : Nat) : Prop where
  mv : Mv hp C w S most F T M X
  sc : Scan S (R.map V) M X k
  town : ∀ g, T.ownBlock = some g → C + 2 ≤ g
  cells : ∀ x ∈ R, cellsAt w x.1 x.2 (fwd M (V x)).cs
  rb : RB R w0 w
  old : ∀ k, k < w0.heap.size → ¬ (∃ s ∈ S, s.blk = k) → (¬ ∃ x ∈ R, x.1 = k) → w.heap[k]? = w0.heap[k]?
  os : w.os = w0.os ∧ w.tape = w0.tape ∧ w.output = w0.output
  sz : C + 2 ≤ w.heap.size

theorem RB.of {R : List Pl} {w w6 w' : World} (h : RB R w6 w') (hs : ∀ x ∈ R, w6.heap[x.1]? = w.heap[x.1]?) : RB R w w' := by
  refine ⟨fun x hx => ?_, fun b o hb ho => ?_⟩
  · obtain ⟨cs, t, cs', e1, e2, e3⟩ := h.shape x hx
    exact ⟨cs, t, cs', (hs x hx).symm.trans e1, e2, e3⟩
  · rw [h.other b o hb ho]
    obtain ⟨x, hx, rfl⟩ := hb
    simp only [World.cell?, hs x hx]

/-- the marks, i cells done -/
def mkAt (M : Mov) (i p : Nat) : Int := match pos M p with | some q => if q < i then 0 else (q : Int) + 1 | none => 0

/-- what a collection comes to -/
structure Col (hp : Nat) (w w' : World) (S : List St) (most : Int) (v : Value) (R : List Pl) (V : Pl → Val) (M : Mov) (T : Value) : Prop where
  is : Is hp w' (moved M) most T
  mv : Moves S M
  args : ∀ x ∈ M, ∀ a ∈ x.2.args, In M a
  roots : ∀ x ∈ R, In M (V x)
  rch : ∀ y ∈ M, Rch S (R.map V) y.1
  cells : ∀ x ∈ R, cellsAt w' x.1 x.2 (fwd M (V x)).cs
  rb : RB R w w'
  old : ∀ k, k < w.heap.size → ¬ Mine hp S v k → (¬ ∃ x ∈ R, x.1 = k) → w'.heap[k]? = w.heap[k]?
  os : w'.os = w.os ∧ w'.tape = w.tape ∧ w'.output = w.output
  sz : w.heap.size ≤ w'.heap.size
  town : ∀ g, T.ownBlock = some g → w.heap.size ≤ g
end Go.Vx.Hp

namespace Go.Proofs.YtfenhbjamohdgaaDoor.Vf
open Go.Vx Go.Vx.Hp Go.RowKit

set_option maxHeartbeats 2000000 in
theorem Collect_spec {hp : Nat} {w : World} {S : List St} {most : Int} {v : Value} (h : Is hp w S most v) (R : List Pl) (V : Pl → Val) (a : Option Addr) (c : Nat) (hl : R.length ≤ 1000000)
    (hcells : ∀ x ∈ R, cellsAt w x.1 x.2 (V x).cs) (hshape : ∀ x ∈ R, ∃ cs t, w.heap[x.1]? = some (.cells cs t (0, 0))) (hnm : ∀ x ∈ R, ¬ Mine hp S v x.1)
    (hd : ∀ x ∈ R, ∀ y ∈ R, x ≠ y → x.1 ≠ y.1 ∨ x.2 + 2 ≤ y.2 ∨ y.2 + 2 ≤ x.2) (hg : ∀ x ∈ R, good S (V x) = true)
    (hP : Psl w a R) (hPn : ∀ b f, a = some ⟨b, f, none⟩ → ¬ Mine hp S v b ∧ ¬ ∃ x ∈ R, x.1 = b) :
    Calls Tryd.prog 13 #[.pointer (some ⟨hp, 0, none⟩), .slice a R.length c] w fun e w' => e = .returned .nilIface ∧ ∃ M T, Col hp w w' S most v R V M T := by
  refine (Collect.calls (R := fun x w' => x = .nilIface ∧ ∃ M T, Col hp w w' S most v R V M T) ?_).mono (fun x w' ⟨v, h1, h2, h3⟩ => ⟨by rw [h1, h2], h3⟩)
  unfold Collect.W
  have hplt : ∀ j (hj : j < R.length), ∃ b f, a = some ⟨b, f, none⟩ ∧ b < w.heap.size ∧ w.cell? ⟨b, f + j * 1, none⟩ = some (.pointer (some (ad R[j]))) := fun j hj => by
    obtain ⟨b, f, e, hc⟩ := hP j hj
    refine ⟨b, f, e, ?_, hc⟩
    rcases Nat.lt_or_ge b w.heap.size with h | h
    · exact h
    · simp only [World.cell?, Array.getElem?_eq_none h] at hc; simp at hc
  have hxlt : ∀ x ∈ R, x.1 < w.heap.size := fun x hx => by obtain ⟨cs, t, e⟩ := hshape x hx; exact lt_of_block e
  -- the check
  refine ⟨fun us w2 => ∃ j : Nat, j ≤ R.length ∧ us = [.int .i64 j] ∧ Below w.heap.size w w2, fun us _ => match us with | [.int _ j] => R.length - j.toNat | _ => 0, ⟨0, Nat.zero_le _, rfl, Below.refl _ _⟩, ?_⟩
  rintro _ us w6 ⟨j, hj, rfl, b6⟩
  refine ⟨_, rfl, ifD (fun hlt => ?_) (fun _ => ?_)⟩
  · have hj' : j < R.length := by omega
    obtain ⟨b, f, rfl, hb, hc⟩ := hplt j hj'
    have hm := List.getElem_mem hj'
    refine ⟨b, f, rfl, by omega, hlt, _, cell_below b6 hb hc, ?_⟩
    show ∃ b14 f15, _
    refine ⟨_, _, rfl, _, _, cellsAt_below b6 (hxlt _ hm) (hcells _ hm), ?_⟩
    refine (hgood_spec (h.below b6) (V R[j]).ref (V R[j]).n).mono ?_
    rintro _ w18 ⟨rfl, hb18⟩
    refine ⟨_, rfl, ifN (fun hbad => absurd ((hg _ hm).symm.trans hbad) (by decide)) (fun _ => ?_)⟩
    rw [w64 (x := (j : Int) + 1) (by omega) (by omega)]
    exact ⟨⟨j + 1, hj', rfl, b6.trans (hb18.mono b6.size)⟩, by simp only; omega⟩
  have h6 := h.below b6
  have s6 := b6.size
  obtain ⟨av, cv, rfl, hcv, _⟩ := h.slice
  refine ⟨_, _, rfl, _, _, _, cell_of_block h6.blk rfl, box fun w27 at27 hb27 hs27 => box fun w28 at28 hb28 hs28 => ?_⟩
  have b28 : Below w6.heap.size w6 w28 := hb27.trans (hb28.mono (by omega))
  have h28 := h6.below b28
  have at27' := block_below hb28 (by omega) at27
  rw [hs27] at at28 ⊢
  have hhp := lt_of_block h6.blk
  have hnm' : ∀ x ∈ R, x.1 < w6.heap.size ∧ x.1 ≠ hp ∧ some x.1 ≠ (Value.slice av (used S) cv).ownBlock ∧ ¬ ∃ s ∈ S, s.blk = x.1 := fun x hx => by
    have h1 := hnm x hx
    have h2 := hxlt x hx
    exact ⟨by omega, fun e => h1 (.inl e), fun e => h1 (.inr (.inl e)), fun e => h1 (.inr (.inr e))⟩
  have init : RInv hp w6.heap.size w6 w28 S most (.slice av (used S) cv) R V 0 [] (.slice none 0 0) [] := by
    refine ⟨⟨h28.blk, h28.own, fun g hg' => (h6.own.lt g hg').2, at27', World.ownsRow_nil _ _ _ _, fun p s hs => ?_, h.nd, ⟨(fun x hx => nomatch hx), List.nodup_nil⟩, rfl, hhp, by have := h.fits; have := h.most1; omega⟩, (fun g hg' => nomatch hg'), ⟨#[], 0, at28, rfl⟩, fun x hx => by simp, (fun p hp' => nomatch hp'), fun x hx => ⟨fun hx' => by simp at hx', fun _ => cellsAt_below b28 (hnm' x hx).1 (cellsAt_below b6 (hxlt x hx) (hcells x hx))⟩, (fun y hy => nomatch hy), ?_, fun k hk _ _ => b28.block k hk, ⟨b28.os, b28.tape, b28.output⟩, by omega⟩
    · obtain ⟨k1, k2, k3, k4⟩ := h28.hd s (find_mem hs)
      exact ⟨k1, by have := (h6.hd s (find_mem hs)).2.1; omega, k3, k4⟩
    · refine (RB.refl fun x hx => ?_).same fun x hx => b28.block _ (hnm' x hx).1
      obtain ⟨cs, t, e⟩ := hshape x hx
      exact ⟨cs, t, block_below b6 (hxlt x hx) e⟩
  refine ⟨fun us w2 => ∃ (j : Nat) (M : Mov) (T : Value) (ps : List Addr), j ≤ R.length ∧ us = [.int .i64 j] ∧ RInv hp w6.heap.size w6 w2 S most (.slice av (used S) cv) R V j M T ps, fun us _ => match us with | [.int _ j] => R.length - j.toNat | _ => 0, ⟨0, _, _, _, Nat.zero_le _, rfl, init⟩, ?_⟩
  rintro _ us w31 ⟨j, M, T, ps, hj, rfl, hri⟩
  refine ⟨_, rfl, ifD (fun hlt => ?_) (fun hge => ?_)⟩
  · have hj' : j < R.length := by omega
    obtain ⟨b, f, rfl, hb, hc⟩ := hplt j hj'
    obtain ⟨hn1, hn2⟩ := hPn b f rfl
    have hm := List.getElem_mem hj'
    have hc31 := cell_same (hri.old b (by omega) (fun e => hn1 (.inr (.inr e))) hn2) (cell_below b6 hb hc)
    have plain : ∀ y ∈ R, Plain w31 (ad y) := fun y hy => by
      obtain ⟨_, t', cs', _, k2, _⟩ := hri.rb.shape y hy
      exact ⟨cs', t', k2⟩
    obtain ⟨j30, hj1, hj2⟩ := info30
    refine ⟨b, f, rfl, by omega, hlt, _, hc31, _, lookup_ptr map90 (zero4 _) Tryd.underlying39 hj1 hj2 (plain _ hm) hri.map (fun p hp' => by obtain ⟨y, hy, rfl⟩ := hri.psR p hp'; exact plain y hy), ?_⟩
    rw [w64 (x := (j : Int) + 1) (by omega) (by omega)]
    refine ifN (fun hno => ?_) (fun hyes => ?_)
    · have hnew : R[j] ∉ R.take j := fun hx => by
        have := (hri.key _ hm).2 hx
        exact of_decide_eq_false hno this
      refine ⟨_, _, rfl, _, _, (hri.cells _ hm).2 hnew, ?_⟩
      exact root_step hri hj' (Nat.le_refl _) hnm' hd hnew (hg _ hm) _ fun w' M' T' ps' hri' => ⟨⟨j + 1, M', T', ps', hj', rfl, hri'⟩, by simp only; omega⟩
    · have hin : R[j] ∈ R.take j := (hri.key _ hm).1 (of_decide_eq_true hyes)
      have ht : R.take (j + 1) = R.take j ++ [R[j]] := by rw [List.take_succ_eq_append_getElem hj']
      have hiff : ∀ x, x ∈ R.take (j + 1) ↔ x ∈ R.take j := fun x => by
        rw [ht, List.mem_append, List.mem_singleton]
        exact ⟨fun hx => hx.elim id fun e => e ▸ hin, .inl⟩
      exact ⟨⟨j + 1, M, T, ps, hj', rfl, ⟨hri.mv, hri.town, hri.map, fun x hx => by rw [hiff]; exact hri.key x hx, hri.psR, fun x hx => by rw [hiff]; exact hri.cells x hx, hri.rch, hri.rb, hri.old, hri.os, hri.sz⟩⟩, by simp only; omega⟩
  · have : j = R.length := by omega
    subst this
    have hins : ∀ x ∈ R, In M (V x) := fun x hx => ((hri.cells x hx).1 (by rw [List.take_length]; exact hx)).2
    have sw0 : ScanW hp w6.heap.size w6 w31 S most (.slice av (used S) cv) R V M T (raw M) 0 :=
      ⟨hri.mv, Scan.start (fun v hv => by obtain ⟨x, hx, rfl⟩ := List.mem_map.1 hv; exact hins x hx) hri.rch hri.mv.mv, hri.town, fun x hx => ((hri.cells x hx).1 (by rw [List.take_length]; exact hx)).1, hri.rb, hri.old, hri.os, hri.sz⟩
    refine ⟨fun us w2 => ∃ (k : Nat) (M : Mov) (T : Value) (X : List Cell), us = [.int .i64 k] ∧ ScanW hp w6.heap.size w6 w2 S most (.slice av (used S) cv) R V M T X k, fun us _ => match us with | [.int _ k] => used S - k.toNat | _ => 0, ⟨0, M, T, _, rfl, sw0⟩, ?_⟩
    clear sw0 hins hri init
    rintro _ us w53 ⟨k, M, T, X, rfl, sw⟩
    have hX := sw.mv.len
    have htot := sw.mv.mv.tot_le sw.mv.nd
    have hlim := sw.mv.lim
    obtain ⟨aT, cT, rfl, hcT, _⟩ := own_slice sw.mv.town
    have hsz := sw.sz
    refine ⟨_, rfl, _, _, rfl, _, _, _, cell_of_block sw.mv.cb rfl, ifD (fun hlt => ?_) (fun hge => ?_)⟩
    · have hk : k < tot M := by omega
      obtain ⟨hkX, hkr, hXk⟩ := sw.sc.get hk
      obtain ⟨g, cT', curT, eT, hgT, hhT, hcT1, hcT2, hcT3, htT⟩ : ∃ g cap cur, Value.slice aT X.length cT = .slice (some ⟨g, 0, none⟩) X.length cap ∧ w6.heap.size + 1 ≤ g ∧ w53.heap[g]? = some (.cells cur 84 (0, 0)) ∧ X.length ≤ cap ∧ cap ≤ maxLen ∧ cur.size = cap * 3 ∧ cur.toList.take (X.length * 3) = flat X := by
        obtain ⟨_, ⟨_, hn⟩ | hx⟩ := sw.mv.town
        · omega
        · exact hx
      cases eT
      have hcell : cellsAt w53 g (k * 3) (X[k]'hkX).cs := by
        refine cellsAt_of_block hhT _ _ ?_
        rw [← flat_get X k hkX, ← htT, List.drop_take, List.take_take]
        simp only [List.length_take, List.length_drop, Array.length_toList]
        congr 1
        omega
      rw [hXk] at hcell
      have hptr : w53.cell? ⟨g, 0 + (k : Int).toNat * 3 + 2, none⟩ = some (.pointer (((raw M)[k]'hkr).head.map fun b => ⟨b, 0, none⟩)) := by
        have := hcell.2.2.1
        rw [Int.toNat_natCast, Nat.zero_add]; exact this
      rw [w64 (x := (k : Int) + 1) (by omega) (by omega)]
      refine ⟨_, _, rfl, _, _, _, cell_of_block sw.mv.cb rfl, g, 0, rfl, by omega, hlt, _, hptr, ?_⟩
      cases hh : ((raw M)[k]'hkr).head with
      | some b =>
        refine ifB (fun h => nomatch h) (fun _ => ?_)
        exact ⟨⟨k + 1, M, _, X, rfl, ⟨sw.mv, sw.sc.head hk hh, sw.town, sw.cells, sw.rb, sw.old, sw.os, sw.sz⟩⟩, by simp only; omega⟩
      | none =>
        refine ifB (fun _ => ?_) (fun h => nomatch h)
        have hcm : ((raw M)[k]'hkr) ∈ raw M := List.getElem_mem _
        obtain ⟨x, hx, hav⟩ : ∃ x ∈ M, ((raw M)[k]'hkr).val ∈ x.2.args := by
          rcases raw_mem hcm with ⟨x, _, e, _⟩ | ⟨x, hx, _, e⟩
          · rw [hh] at e; cases e
          · exact ⟨x, hx, e⟩
        have hgood := List.all_eq_true.1 (h.cl x.2 (find_mem (sw.mv.mv.of x hx))) _ hav
        obtain ⟨u, hu⟩ : ∃ u, u = ((raw M)[k]'hkr).val := ⟨_, rfl⟩
        have hc2 : cellsAt w53 g (0 + (k : Int).toNat * 3) [.bool u.ref, .int .i64 u.n] := by
          rw [Int.toNat_natCast, Nat.zero_add, hu]; exact ⟨hcell.1, hcell.2.1, trivial⟩
        rw [← hu] at hgood hav
        refine ⟨_, _, rfl, _, _, _, cell_of_block sw.mv.cb rfl, g, 0, rfl, by omega, hlt, _, _, hc2, ?_⟩
        refine (move_spec sw.mv u.ref u.n hgood).mono ?_
        rintro _ w79 ⟨M', T', X', rfl, hin, hM, hmv, hchg, hnx⟩
        have s79 := hchg.size
        have hts : ∀ g, T'.ownBlock = some g → w6.heap.size + 2 ≤ g := fun g hg => by
          rcases hnx with e | ⟨q, hq, e⟩
          · exact sw.town g (e ▸ hg)
          · rw [e] at hg; cases hg; omega
        -- the plain side
        have hsc : Scan S (R.map V) M' X' k ∧ k < tot M' ∧ (∀ z, In M z → fwd M' z = fwd M z) ∧ ∃ hk2 : k < (raw M').length, (raw M')[k] = (raw M)[k] := by
          rcases hM with ⟨rfl, rfl⟩ | ⟨hr, s, hs, hp', rfl, rfl⟩
          · exact ⟨sw.sc, hk, fun _ _ => rfl, hkr, rfl⟩
          · refine ⟨sw.sc.more hs hp' (.step x.1 x.2 u (sw.sc.rch x hx) (sw.mv.mv.of x hx) hav hr), by rw [tot_append]; omega, fun z hz => fwd_append hz, ?_⟩
            have er : raw (M ++ [(u.n.toNat, s)]) = raw M ++ s.cells := by rw [raw_append]; simp [raw]
            refine ⟨by rw [er, List.length_append]; omega, ?_⟩
            simp only [er]
            rw [List.getElem_append_left hkr]
        obtain ⟨hsc, hk', hfw, hk2, hrk⟩ := hsc
        have hsc2 := hsc.arg hk' (by rw [hrk]; exact hh) (by rw [hrk, ← hu]; exact hin)
        rw [hrk, ← hu] at hsc2
        have hX' := hmv.len
        obtain ⟨aT', cT2, rfl, hcT', _⟩ := own_slice hmv.town
        refine ⟨_, _, rfl, copyStep rfl rfl fun w84 at84 hb84 hs84 => drewStep fun w85 e85 hb85 => ?_⟩
        have b85 : Below w79.heap.size w79 w85 := hb84.trans (hb85.mono hb84.size)
        have hmv85 := hmv.below b85
        have at85 : w85.heap[w79.heap.size]? = _ := e85 ▸ at84
        obtain ⟨g2, cT3, curT2, eT2, hgT2, hhT2, hc21, hc22, hc23, htT2⟩ : ∃ g cap cur, Value.slice aT' X'.length cT2 = .slice (some ⟨g, 0, none⟩) X'.length cap ∧ w6.heap.size + 1 ≤ g ∧ w85.heap[g]? = some (.cells cur 84 (0, 0)) ∧ X'.length ≤ cap ∧ cap ≤ maxLen ∧ cur.size = cap * 3 ∧ cur.toList.take (X'.length * 3) = flat X' := by
          obtain ⟨_, ⟨_, hn⟩ | hx⟩ := hmv85.town
          · omega
          · exact hx
        cases eT2
        refine ⟨_, _, rfl, _, _, _, cell_of_block hmv85.cb rfl, _, _, cellsAt_of_block at85 [.bool (fwd M' u).ref, .int .i64 (fwd M' u).n] 0 rfl, g2, 0, rfl, by omega, by omega, ?_⟩
        rw [Int.toNat_natCast, Nat.zero_add]
        refine setStep hhT2 (by show k * 3 + 2 ≤ _; omega) rfl fun w95 at95 same95 hsz95 hg95 => ?_
        have s85 := b85.size
        have hg2 := hts g2 rfl
        have hg2lt : g2 < w79.heap.size := (hmv.town.lt g2 rfl).2
        have hkX' : k < X'.length := by omega
        have hhead : (X'[k]'hkX').head = none := by
          obtain ⟨q1, q2, q3⟩ := hsc.get hk'
          rw [q3, hrk]; exact hh
        have htot' := hmv.mv.tot_le hmv.nd
        have keep : ∀ q, q < w53.heap.size → q ≠ w6.heap.size → (¬ ∃ s ∈ S, s.blk = q) → (∀ g', (Value.slice (some ⟨g, 0, none⟩) X.length cT).ownBlock = some g' → q ≠ g') → q ≠ g2 → w95.heap[q]? = w53.heap[q]? := fun q hq n1 n2 n3 n4 =>
          (same95 q n4).trans ((b85.block q (by omega)).trans (hchg.block q hq (by
            rintro (e | e | e)
            · exact n1 e
            · exact n3 q e.symm rfl
            · exact n2 e)))
        have rkeep : ∀ y ∈ R, w95.heap[y.1]? = w53.heap[y.1]? := fun y hy => by
          obtain ⟨n1, n2, n3, n4⟩ := hnm' y hy
          exact keep y.1 (by omega) (by omega) n4 (fun g' hg' => by have := sw.town g' hg'; omega) (by omega)
        refine ⟨⟨k + 1, M', _, _, rfl, ⟨⟨?_, ?_, hmv.flt, ?_, ?_, ?_, hmv.nd, hmv.mv, by rw [List.length_set]; exact hX', hmv.hpC, hmv.lim⟩, hsc2, hts, fun y hy => ?_, sw.rb.same rkeep, fun q hq n1 n2 => ?_, ?_, by omega⟩⟩, by simp only; omega⟩
        · exact (same95 hp (by have := hmv.hpC; omega)).trans hmv85.hpb
        · exact own_block hmv85.fown fun q hq => same95 q (by have := hmv.flt q hq; omega)
        · exact (same95 _ (by omega)).trans hmv85.cb
        · rw [List.length_set]
          have := own_set (k := k) hkX' (v := fwd M' u) hmv85.town rfl hhT2 at95
          rw [hhead] at this
          exact this
        · intro p s hs
          obtain ⟨k1, k2, k3, k4⟩ := hmv85.hd p s hs
          exact ⟨k1, k2, k3, (same95 _ (by omega)).trans k4⟩
        · rw [hfw _ (sw.sc.roots _ (List.mem_map.2 ⟨y, hy, rfl⟩))]
          exact cellsAt_same (rkeep y hy) (sw.cells y hy)
        · exact (keep q (by omega) (by omega) n1 (fun g' hg' => by have := sw.town g' hg'; omega) (by omega)).trans (sw.old q hq n1 n2)
        · obtain ⟨o1, o2, o3⟩ := sw.os
          exact ⟨hg95.os.trans (b85.os.trans (hchg.os.trans o1)), hg95.tape.trans (b85.tape.trans (hchg.tape.trans o2)), hg95.output.trans (b85.output.trans (hchg.output.trans o3))⟩
    · have hkt : k = tot M := by have := sw.sc.le; omega
      subst hkt
      obtain ⟨hXc, hargs⟩ := sw.sc.done
      refine ⟨_, _, rfl, _, _, _, cell_of_block sw.mv.cb rfl, fun us w2 => ∃ i : Nat, i ≤ X.length ∧ us = [.int .i64 i] ∧ (∀ q, (¬ ∃ s ∈ S, s.blk = q) → w2.heap[q]? = w53.heap[q]?) ∧ (∀ p s, find S p = some s → w2.heap[s.blk]? = some (hdObj s (mkAt M i p))) ∧ w2.heap.size = w53.heap.size ∧ Chg (fun q => ∃ s ∈ S, s.blk = q) w53 w2,
        fun us _ => match us with | [.int _ i] => X.length - i.toNat | _ => 0, ⟨0, Nat.zero_le _, rfl, fun _ _ => rfl, fun p s hs => ?_, rfl, Chg.refl _ _⟩, ?_⟩
      · have := (sw.mv.hd p s hs).2.2.2
        rw [this]
        simp only [mkAt, markOf]
        cases pos M p <;> rfl
      rintro _ us w103 ⟨i, hi, rfl, hno, hhd, hsz103, hchg⟩
      have notHead : ∀ q, w6.heap.size ≤ q → ¬ ∃ s ∈ S, s.blk = q := by
        rintro q hq ⟨s, hs, rfl⟩
        obtain ⟨p, hp'⟩ := find_of_mem hs
        have := (sw.mv.hd p s hp').2.1; omega
      have hpNot : ¬ ∃ s ∈ S, s.blk = hp := by
        rintro ⟨s, hs, e⟩
        obtain ⟨p, hp'⟩ := find_of_mem hs
        have := (sw.mv.hd p s hp').1; omega
      have cb103 := (hno _ (notHead _ (Nat.le_refl _))).trans sw.mv.cb
      have own103 : w103.ownsRow (w6.heap.size + 1) 84 3 (.slice aT X.length cT) X.length (flat X) := own_block sw.mv.town fun g hg => hno g (notHead g (by have := sw.town g hg; omega))
      refine ⟨_, rfl, ifD (fun hlt => ?_) (fun hge' => ?_)⟩
      · have hiX : i < X.length := by omega
        obtain ⟨g, cT', curT, eT, hgT, hhT, hcT1, hcT2, hcT3, htT⟩ : ∃ g cap cur, Value.slice aT X.length cT = .slice (some ⟨g, 0, none⟩) X.length cap ∧ w6.heap.size + 1 ≤ g ∧ w103.heap[g]? = some (.cells cur 84 (0, 0)) ∧ X.length ≤ cap ∧ cap ≤ maxLen ∧ cur.size = cap * 3 ∧ cur.toList.take (X.length * 3) = flat X := by
          obtain ⟨_, ⟨_, hn⟩ | hx⟩ := own103
          · omega
          · exact hx
        cases eT
        have hcell : cellsAt w103 g (i * 3) (X[i]'hiX).cs := by
          refine cellsAt_of_block hhT _ _ ?_
          rw [← flat_get X i hiX, ← htT, List.drop_take, List.take_take]
          simp only [List.length_take, List.length_drop, Array.length_toList]
          congr 1
          omega
        have hptr : w103.cell? ⟨g, 0 + (i : Int).toNat * 3 + 2, none⟩ = some (.pointer ((X[i]'hiX).head.map fun b => ⟨b, 0, none⟩)) := by
          have := hcell.2.2.1
          rw [Int.toNat_natCast, Nat.zero_add]; exact this
        have hXh : (X[i]'hiX).head = (find (moved M) i).map St.blk := by
          subst hXc
          exact cells_at hiX
        rw [w64 (x := (i : Int) + 1) (by omega) (by omega)]
        refine ⟨_, _, rfl, _, _, _, cell_of_block cb103 rfl, g, 0, rfl, by omega, hlt, _, hptr, ?_⟩
        rw [hXh]
        cases hf : find (moved M) i with
        | none =>
          refine ifN (fun h => nomatch h) (fun _ => ⟨⟨i + 1, hiX, rfl, hno, fun p s hs => ?_, hsz103, hchg⟩, by simp only; omega⟩)
          rw [hhd p s hs]
          simp only [mkAt]
          cases hp' : pos M p with
          | none => rfl
          | some q =>
            have hqi : q ≠ i := fun e => by
              subst e
              obtain ⟨_, _, h2⟩ := find_moved hp'
              rw [hf] at h2; cases h2
            simp only
            have e : (if q < i + 1 then (0 : Int) else (q : Int) + 1) = (if q < i then 0 else (q : Int) + 1) := by
              split <;> split <;> omega
            rw [e]
        | some s' =>
          obtain ⟨p, s, hps, hpos, rfl⟩ := find_moved_inv sw.mv.mv hf
          have hs := sw.mv.mv.of _ hps
          have hb := hhd p s hs
          refine ifN (fun _ => ⟨s.blk, 0, rfl, setStep hb (by show 5 ≤ 5; omega) rfl fun w117 at117 same117 hsz117 hg117 => ?_⟩) (fun h => nomatch h)
          have hhead : ∃ t ∈ S, t.blk = s.blk := ⟨s, find_mem hs, rfl⟩
          refine ⟨⟨i + 1, hiX, rfl, fun q hq => (same117 q (fun e => hq (e ▸ hhead))).trans (hno q hq), fun p2 s2 hs2 => ?_, by omega, ?_⟩, by simp only; omega⟩
          · by_cases hpp : p2 = p
            · subst hpp
              rw [hs] at hs2; cases hs2
              rw [at117]
              simp only [mkAt, hpos]
              rw [if_pos (Nat.lt_succ_self _)]
              rfl
            · have hbne : s2.blk ≠ s.blk := fun e => hpp (find_inj sw.mv.nd hs2 hs e)
              rw [same117 _ hbne, hhd p2 s2 hs2]
              simp only [mkAt]
              cases hp2 : pos M p2 with
              | none => rfl
              | some q =>
                have hqi : q ≠ i := fun e => by
                  subst e
                  obtain ⟨t, ht1, ht2⟩ := find_moved hp2
                  rw [hf] at ht2
                  simp only [Option.some.injEq, St.mk.injEq] at ht2
                  exact hpp (find_inj sw.mv.nd (sw.mv.mv.of _ ht1) hs ht2.1.symm)
                simp only
                have e : (if q < i + 1 then (0 : Int) else (q : Int) + 1) = (if q < i then 0 else (q : Int) + 1) := by
                  split <;> split <;> omega
                rw [e]
          · exact hchg.trans hg117 fun q _ e => e ▸ hhead
      · have : i = X.length := by omega
        subst this
        have hp103 := (hno hp hpNot).trans sw.mv.hpb
        refine ⟨_, _, rfl, _, _, _, cell_of_block cb103 rfl, _, _, rfl, setStep hp103 (by simp) rfl fun w125 at125 same125 hsz125 hg125 => ⟨rfl, M, .slice aT X.length cT, ?_⟩⟩
        have hu : used (moved M) = X.length := by rw [used_moved]; omega
        have s125 : w125.heap.size = w53.heap.size := by omega
        have nonhead : ∀ q, q ≠ hp → (¬ ∃ s ∈ S, s.blk = q) → w125.heap[q]? = w53.heap[q]? := fun q h1 h2 => (same125 q h1).trans (hno q h2)
        have rkeep : ∀ y ∈ R, w125.heap[y.1]? = w53.heap[y.1]? := fun y hy => by
          obtain ⟨n1, n2, n3, n4⟩ := hnm' y hy
          exact nonhead y.1 n2 n4
        refine ⟨⟨at125, ?_, fun s' hs' => ?_, fun s' hs' => ?_, h.most0, h.most1, by rw [hu]; have := h.fits; omega, sw.mv.mv.blks sw.mv.nd, fun s' hs' => ?_⟩, sw.mv.mv, hargs, fun x hx => sw.sc.roots _ (List.mem_map.2 ⟨x, hx, rfl⟩), sw.sc.rch, fun x hx => cellsAt_same (rkeep x hx) (sw.cells x hx), (sw.rb.same rkeep).of fun x hx => b6.block _ (hxlt x hx), fun q hq h1 h2 => ?_, ?_, by omega, fun g hg' => by have := sw.town g hg'; omega⟩
        · rw [hu, ← hXc]
          exact (own_block own103 fun g hg => same125 g (by have := sw.town g hg; omega)).mono (by omega)
        · obtain ⟨x, hx, rfl⟩ := List.mem_map.1 hs'
          have hs := sw.mv.mv.of x hx
          obtain ⟨k1, k2, k3, _⟩ := sw.mv.hd x.1 x.2 hs
          refine ⟨k1, by show x.2.blk < _; omega, fun e => by have := sw.town x.2.blk e.symm; omega, ?_⟩
          show w125.heap[x.2.blk]? = _
          rw [same125 _ (by omega), hhd x.1 x.2 hs]
          have hz : mkAt M X.length x.1 = 0 := by
            simp only [mkAt]
            cases hp' : pos M x.1 with
            | none => rfl
            | some q => have := pos_lt hp'; simp only; rw [if_pos (by omega)]
          rw [hz]
          simp [hdObj, St.size]
        · obtain ⟨x, hx, rfl⟩ := List.mem_map.1 hs'
          have := h.ok x.2 (find_mem (sw.mv.mv.of x hx))
          unfold St.Ok at this ⊢
          simpa using this
        · obtain ⟨x, hx, rfl⟩ := List.mem_map.1 hs'
          rw [List.all_eq_true]
          intro z hz
          obtain ⟨y, hy, rfl⟩ := List.mem_map.1 hz
          exact good_fwd (hargs x hx y hy)
        · have hn : ¬ ∃ s ∈ S, s.blk = q := fun e => h1 (.inr (.inr e))
          exact (nonhead q (fun e => h1 (.inl e)) hn).trans ((sw.old q (by omega) hn h2).trans (b6.block q hq))
        · obtain ⟨o1, o2, o3⟩ := sw.os
          exact ⟨hg125.os.trans (hchg.os.trans (o1.trans b6.os)), hg125.tape.trans (hchg.tape.trans (o2.trans b6.tape)), hg125.output.trans (hchg.output.trans (o3.trans b6.output))⟩

end Go.Proofs.YtfenhbjamohdgaaDoor.Vf
end

/- part H2H -/
section
namespace Go.Vx.Hp
open Go.RowKit

/-- the value is the list k-1, .., 0 -/
inductive Lst (S : List St) : Val → Nat → Prop
  | nil (p : Nat) (s : St) (hs : find S p = some s) (h1 : s.ctor = 0) (h2 : s.args = []) (h3 : s.nodes = 1) (h4 : s.depth = 1) : Lst S ⟨true, (p : Nat)⟩ 0
  | cons (p : Nat) (s : St) (k : Nat) (v : Val) (hs : find S p = some s) (h1 : s.ctor = 1) (h2 : s.args = [⟨false, (k : Nat)⟩, v]) (h3 : s.nodes = 2 * k + 3) (h4 : s.depth = k + 2) (h : Lst S v k) : Lst S ⟨true, (p : Nat)⟩ (k + 1)

theorem Lst.append {S T : List St} {v : Val} {k : Nat} (h : Lst S v k) : Lst (S ++ T) v k := by
  have key : ∀ {p : Nat} {s : St}, find S p = some s → find (S ++ T) p = some s := fun {p s} hs => by
    rw [find_append_left (by have := find_lt hs; have := s.size_pos; omega)]; exact hs
  induction h with
  | nil p s hs h1 h2 h3 h4 => exact .nil p s (key hs) h1 h2 h3 h4
  | cons p s k v hs h1 h2 h3 h4 _ ih => exact .cons p s k v (key hs) h1 h2 h3 h4 ih

theorem Lst.at {S : List St} {v : Val} {k : Nat} (h : Lst S v k) : v.ref = true ∧ good S v = true ∧ nodesOf S v = 2 * k + 1 ∧ depthOf S v = k + 1 := by
  cases h with
  | nil p s hs h1 h2 h3 h4 => simp [good, nodesOf, depthOf, hs, h3, h4]
  | cons p s k v hs h1 h2 h3 h4 _ => simp [good, nodesOf, depthOf, hs, h3, h4]; omega

theorem Lst.moved {S : List St} {M : Mov} (hm : Moves S M) (hargs : ∀ x ∈ M, ∀ a ∈ x.2.args, In M a) {v : Val} {k : Nat} (h : Lst S v k) (hin : In M v) : Lst (moved M) (fwd M v) k := by
  induction h with
  | nil p s hs h1 h2 h3 h4 =>
    obtain ⟨q, hq⟩ := Option.isSome_iff_exists.1 (hin rfl)
    simp only [Int.toNat_natCast] at hq
    obtain ⟨s', hs', hf⟩ := find_moved hq
    have := hm.of _ hs'
    simp only at this
    rw [hs] at this; cases this
    have e : fwd M ⟨true, (p : Nat)⟩ = ⟨true, (q : Nat)⟩ := by simp [fwd, hq]
    rw [e]
    exact .nil q _ hf h1 (by simp [h2]) h3 h4
  | cons p s k v hs h1 h2 h3 h4 _ ih =>
    obtain ⟨q, hq⟩ := Option.isSome_iff_exists.1 (hin rfl)
    simp only [Int.toNat_natCast] at hq
    obtain ⟨s', hs', hf⟩ := find_moved hq
    have := hm.of _ hs'
    simp only at this
    rw [hs] at this; cases this
    have e : fwd M ⟨true, (p : Nat)⟩ = ⟨true, (q : Nat)⟩ := by simp [fwd, hq]
    rw [e]
    exact .cons q _ k (fwd M v) hf h1 (by simp [h2, fwd]) h3 h4 (ih (hargs _ hs' v (by simp [h2])))

/-- the list's structures -/
theorem Lst.chain {S : List St} {v : Val} {k : Nat} (h : Lst S v k) : ∃ C : List St, used C = 3 * k + 1 ∧ (∀ s ∈ C, s.nodes ≤ 2 * k + 1 ∧ ∃ p, find S p = some s ∧ Rch S [v] p) ∧ (C.map St.nodes).Nodup ∧
    (∀ p, Rch S [v] p → ∃ s ∈ C, find S p = some s) := by
  induction h with
  | nil p s hs h1 h2 h3 h4 =>
    refine ⟨[s], by rw [used_cons, used_nil]; simp [St.size, h2], fun t ht => ?_, by simp, fun q hq => ?_⟩
    · rw [List.mem_singleton] at ht; subst ht
      refine ⟨by omega, p, hs, ?_⟩
      have := Rch.root (S := S) (rs := [⟨true, (p : Nat)⟩]) ⟨true, (p : Nat)⟩ List.mem_cons_self rfl
      simpa using this
    · have hqp : q = p := by
        induction hq with
        | root v hv hr => rw [List.mem_singleton] at hv; subst hv; simp
        | step p' s' a _ hs' ha hr ih =>
          subst ih
          rw [hs] at hs'; cases hs'
          rw [h2] at ha; cases ha
      subst hqp
      exact ⟨s, List.mem_cons_self, hs⟩
  | cons p s k v hs h1 h2 h3 h4 _ ih =>
    obtain ⟨C, c1, c2, c3, c4⟩ := ih
    have up : ∀ q, Rch S [v] q → Rch S [⟨true, (p : Nat)⟩] q := by
      intro q hq
      induction hq with
      | root u hu hr =>
        rw [List.mem_singleton] at hu; subst hu
        have := Rch.root (S := S) (rs := [⟨true, (p : Nat)⟩]) ⟨true, (p : Nat)⟩ List.mem_cons_self rfl
        simp only [Int.toNat_natCast] at this
        exact .step p s u this hs (by simp [h2]) hr
      | step p' s' a _ hs' ha hr ih => exact .step p' s' a ih hs' ha hr
    refine ⟨s :: C, by rw [used_cons, c1]; simp [St.size, h2]; omega, fun t ht => ?_, ?_, fun q hq => ?_⟩
    · rcases List.mem_cons.1 ht with rfl | ht
      · refine ⟨by omega, p, hs, ?_⟩
        have := Rch.root (S := S) (rs := [⟨true, (p : Nat)⟩]) ⟨true, (p : Nat)⟩ List.mem_cons_self rfl
        simpa using this
      · obtain ⟨k1, q, k2, k3⟩ := c2 t ht
        exact ⟨by omega, q, k2, up q k3⟩
    · rw [List.map_cons, List.nodup_cons]
      refine ⟨fun hm => ?_, c3⟩
      obtain ⟨t, ht, e⟩ := List.mem_map.1 hm
      have := (c2 t ht).1
      omega
    · have : q = p ∨ Rch S [v] q := by
        induction hq with
        | root u hu hr => rw [List.mem_singleton] at hu; subst hu; left; simp
        | step p' s' a _ hs' ha hr ih =>
          rcases ih with rfl | ih
          · rw [hs] at hs'; cases hs'
            rw [h2] at ha
            rcases List.mem_cons.1 ha with rfl | ha
            · cases hr
            · rw [List.mem_singleton] at ha; subst ha
              exact .inr (.root a List.mem_cons_self hr)
          · exact .inr (.step p' s' a ih hs' ha hr)
      rcases this with rfl | hq'
      · exact ⟨s, List.mem_cons_self, hs⟩
      · obtain ⟨t, ht, hf⟩ := c4 q hq'
        exact ⟨t, List.mem_cons_of_mem _ ht, hf⟩

theorem nodup_of_map {f : St → Int} {g : St → Nat} : ∀ {L : List St}, (L.map f).Nodup → (∀ s ∈ L, ∀ t ∈ L, g s = g t → f s = f t) → (L.map g).Nodup
  | [], _, _ => List.nodup_nil
  | x :: r, h, hg => by
    rw [List.map_cons, List.nodup_cons] at h ⊢
    refine ⟨fun hm => ?_, nodup_of_map h.2 fun s hs t ht => hg s (List.mem_cons_of_mem _ hs) t (List.mem_cons_of_mem _ ht)⟩
    obtain ⟨t, ht, e⟩ := List.mem_map.1 hm
    exact h.1 (List.mem_map.2 ⟨t, ht, hg t (List.mem_cons_of_mem _ ht) x List.mem_cons_self e⟩)

/-- what a collection of the list alone keeps -/
theorem Lst.size {S : List St} (hnd : (S.map St.blk).Nodup) {M : Mov} (hm : Moves S M) (hargs : ∀ x ∈ M, ∀ a ∈ x.2.args, In M a) {v : Val} {k : Nat} (h : Lst S v k) (hin : In M v) (hrch : ∀ y ∈ M, Rch S [v] y.1) : Hp.tot M = 3 * k + 1 := by
  obtain ⟨C, c1, c2, c3, c4⟩ := h.chain
  have et : Hp.tot M = used (M.map (·.2)) := by
    clear hm hargs hin hrch
    induction M with
    | nil => rfl
    | cons x r ih => rw [List.map_cons, used_cons, Hp.tot, ih]
  have cb : (C.map St.blk).Nodup := nodup_of_map (f := St.nodes) c3 fun s hs t ht e => by
    obtain ⟨_, p, hp, _⟩ := c2 s hs
    obtain ⟨_, q, hq, _⟩ := c2 t ht
    have := find_inj hnd hp hq e
    subst this
    rw [hp] at hq; cases hq; rfl
  have mb : ((M.map (·.2)).map St.blk).Nodup := by
    have e2 : (M.map (·.2)).map St.blk = (Hp.moved M).map St.blk := by simp [Hp.moved, Function.comp_def]
    rw [e2]; exact hm.blks hnd
  have inM : ∀ p, Rch S [v] p → ∃ s, (p, s) ∈ M := by
    intro p hp
    induction hp with
    | root u hu hr => rw [List.mem_singleton] at hu; subst hu; exact pos_mem.1 (hin hr)
    | step p' s' a _ hs' ha hr ih =>
      obtain ⟨s, hs⟩ := ih
      have := hm.of _ hs
      simp only at this
      rw [hs'] at this; cases this
      exact pos_mem.1 (hargs _ hs a ha hr)
  have u1 : used (M.map (·.2)) ≤ used C := used_sum_le C _ mb fun s hs => by
    obtain ⟨x, hx, rfl⟩ := List.mem_map.1 hs
    obtain ⟨t, ht, hf⟩ := c4 _ (hrch x hx)
    have := hm.of x hx
    rw [hf] at this; cases this; exact ht
  have u2 : used C ≤ used (M.map (·.2)) := used_sum_le _ C cb fun s hs => by
    obtain ⟨_, p, hp, hr⟩ := c2 s hs
    obtain ⟨t, ht⟩ := inM p hr
    have := hm.of _ ht
    simp only at this
    rw [hp] at this; cases this
    exact List.mem_map.2 ⟨_, ht, rfl⟩
  omega

end Go.Vx.Hp
end

/- part H1D -/
section
namespace Go.Proofs.YtfenhbjamohdgaaDoor.Vf
open Go.Vx Go.Vx.Hp Go.RowKit

theorem guard30 : Tryd.prog.eqGuardType Tryd.prog.depth 30 = false := by kernel_rfl
theorem held30 : Tryd.prog.stoodInHeld 30 = false := by kernel_rfl
theorem struct30 : Tryd.prog.underlying 30 = some (.struct (Tryd.prog.fieldsOf 30)) := by kernel_rfl

theorem val_eq (w : World) (xo yo : Operand) (a b : Val) : Runs Tryd.prog (semEq .eql 30 xo yo (.agg #[.bool a.ref, .int .i64 a.n]) (.agg #[.bool b.ref, .int .i64 b.n])) w (.bool (a.ref == b.ref && a.n == b.n)) w := by
  unfold Runs semEq
  rw [Sem.run_bind, run_eqGuard_agg w _ _ _ _ _ _ guard30, Result.andThen_ok, run_eql_struct, run_equalIn_agg w _ _ _ _ struct30 held30]
  obtain ⟨f, g, e, h1, h2, h3, h4, h5, h6⟩ : ∃ f g, (Tryd.prog.fieldsOf 30).toList = [f, g] ∧ f.name = "Ref" ∧ g.name = "N" ∧ f.type = 4 ∧ g.type = 3 ∧ f.offset = 0 ∧ g.offset = 1 := by
    have hm : (Tryd.prog.fieldsOf 30).toList.map (fun f => (f.name, f.type, f.offset)) = [("Ref", 4, 0), ("N", 3, 1)] := by kernel_rfl
    obtain ⟨f, t, e, hf, ht⟩ := List.map_eq_cons_iff.1 hm
    obtain ⟨g, t', e', hg, ht'⟩ := List.map_eq_cons_iff.1 ht
    have e2 : t' = [] := List.map_eq_nil_iff.1 ht'
    subst e2 e'
    simp only [Prod.mk.injEq] at hf hg
    exact ⟨f, g, e, hf.1, hg.1, hf.2.1, hg.2.1, hf.2.2, hg.2.2⟩
  rw [e]
  have p1 : ∀ (cs : Array Value) (x : Bool), cs[0]? = some (.bool x) → (part 4 cs 0).run Tryd.prog w = .ok (.bool x) w := fun cs x h => by simp [part, isAgg, run_underlying Tryd.underlying4, h]
  have p2 : ∀ (cs : Array Value) (x : Int), cs[1]? = some (.int .i64 x) → (part 3 cs 1).run Tryd.prog w = .ok (.int .i64 x) w := fun cs x h => by simp [part, isAgg, run_underlying Tryd.underlying3, h]
  simp only [Op.eqFields, h1, h2, h3, h4, h5, h6]
  rw [if_pos (by decide)]
  simp only [Sem.run_bind, p1 #[.bool a.ref, .int .i64 a.n] a.ref rfl, p1 #[.bool b.ref, .int .i64 b.n] b.ref rfl, Result.andThen_ok, run_equalIn_bool' w 9998 4 _ _ Tryd.underlying4, Sem.run_ite]
  cases hb : (a.ref == b.ref)
  · simp
  · simp only [Bool.not_true, Bool.false_eq_true, if_false, if_pos (show "N" ≠ "_" by decide), p2 #[.bool a.ref, .int .i64 a.n] a.n rfl, p2 #[.bool b.ref, .int .i64 b.n] b.n rfl, Result.andThen_ok, run_equalIn_int w 9998 3 .i64 .i64 _ _ Tryd.underlying3]
    cases hn : (a.n == b.n) <;> simp

end Go.Proofs.YtfenhbjamohdgaaDoor.Vf

namespace Go.Proofs.YtfenhbjamohdgaaDoor.Vf
open Go.Vx Go.Vx.Hp Go.RowKit

/-- the errors' variables: ErrHeap, ErrState, ErrLarge -/
structure Glob (w : World) (tE : Nat) (aH : Addr) (E1 E2 : Value) : Prop where
  heap : w.cell? ⟨0, 0, none⟩ = some (.iface tE (.pointer (some aH)))
  state : w.cell? ⟨1, 0, none⟩ = some E1
  large : w.cell? ⟨2, 0, none⟩ = some E2
  size : 3 ≤ w.heap.size
theorem Glob.kept {w w' : World} {tE : Nat} {aH : Addr} {E1 E2 : Value} (h : Glob w tE aH E1 E2) (hb : Below 3 w w') : Glob w' tE aH E1 E2 :=
  ⟨cell_below hb (by omega) h.heap, cell_below hb (by omega) h.state, cell_below hb (by omega) h.large, Nat.le_trans h.size hb.size⟩

/-- what says that the errors compare -/
structure ErrTy (tE : Nat) : Prop where
  eq : ∀ (w : World) (xo yo : Operand) (a : Addr), Runs Tryd.prog (semEq .eql 26 xo yo (.iface tE (.pointer (some a))) (.iface tE (.pointer (some a)))) w (.bool true) w
  ne : ∀ (w : World) (xo yo : Operand) (a : Addr), Runs Tryd.prog (semEq .neq 26 xo yo (.iface tE (.pointer (some a))) (.iface tE (.pointer (some a)))) w (.bool false) w

/-- Alloc where there is room -/
theorem Alloc_ok {hp : Nat} {w : World} {S : List St} {most : Int} {v : Value} {tE : Nat} {aH : Addr} {E1 E2 : Value} (h : Is hp w S most v) (hg : Glob w tE aH E1 E2) (hlow : 2 < hp) (n : Int) (hn0 : 0 ≤ n) (hn : n ≤ 9223372036854775807) (a : Option Addr) (c : Nat) (V : List Val) (hV : Vsl w a V)
    (hap : ∀ b o, a = some ⟨b, o, none⟩ → ¬ Mine hp S v b) (h8 : V.length ≤ 8) (hall : V.all (good S) = true) (h1 : 1 + sumN S V ≤ 4096) (h2 : maxD S V ≤ 200) (hroom : used S + 1 + V.length ≤ most) :
    Calls Tryd.prog 10 #[.pointer (some ⟨hp, 0, none⟩), .int .i64 n, .slice a V.length c] w fun e w' => e = .returned (.tuple #[.agg #[.bool true, .int .i64 (used S : Nat)], .nilIface]) ∧
      ∃ b v', w.heap.size ≤ b ∧ Is hp w' (S ++ [⟨b, n, V, 1 + sumN S V, maxD S V⟩]) most v' ∧ Chg (fun k => k = hp ∨ some k = v.ownBlock) w w' ∧ Nxt w.heap.size v v' := by
  refine (Alloc_spec h _ E1 E2 hg.heap hg.state hg.large hlow n hn a c V hV (by omega) hap).mono ?_
  rintro _ w' ⟨x, rfl, ⟨k, _⟩ | ⟨_, _, _, k, _⟩ | ⟨_, _, _, _, _, k, _⟩ | ⟨_, _, _, _, _, _, rfl, k⟩⟩
  · rcases k with k | k | k
    · omega
    · omega
    · rw [hall] at k; cases k
  · omega
  · omega
  · exact ⟨rfl, k⟩

theorem Alloc_full {hp : Nat} {w : World} {S : List St} {most : Int} {v : Value} {tE : Nat} {aH : Addr} {E1 E2 : Value} (h : Is hp w S most v) (hg : Glob w tE aH E1 E2) (hlow : 2 < hp) (n : Int) (hn0 : 0 ≤ n) (hn : n ≤ 9223372036854775807) (a : Option Addr) (c : Nat) (V : List Val) (hV : Vsl w a V)
    (hap : ∀ b o, a = some ⟨b, o, none⟩ → ¬ Mine hp S v b) (h8 : V.length ≤ 8) (hall : V.all (good S) = true) (h1 : 1 + sumN S V ≤ 4096) (h2 : maxD S V ≤ 200) (hroom : most < used S + 1 + V.length) :
    Calls Tryd.prog 10 #[.pointer (some ⟨hp, 0, none⟩), .int .i64 n, .slice a V.length c] w fun e w' => e = .returned (.tuple #[.agg #[.bool false, .int .i64 0], .iface tE (.pointer (some aH))]) ∧ Below w.heap.size w w' := by
  refine (Alloc_spec h _ E1 E2 hg.heap hg.state hg.large hlow n hn a c V hV (by omega) hap).mono ?_
  rintro _ w' ⟨x, rfl, ⟨k, _⟩ | ⟨_, _, _, k, _⟩ | ⟨_, _, _, _, _, k, rfl, hb⟩ | ⟨_, _, _, _, _, k, _⟩⟩
  · rcases k with k | k | k
    · omega
    · omega
    · rw [hall] at k; cases k
  · omega
  · exact ⟨rfl, hb⟩
  · omega

theorem vflat_get {w : World} {g : Nat} {V : List Val} (h : cellsAt w g 0 (vflat V)) {j : Nat} (hj : j < V.length) : cellsAt w g (0 + j * 2) V[j].cs := by
  have h1 := cellsAt_take 2 (cellsAt_drop (j * 2) h)
  have e : ((vflat V).drop (j * 2)).take 2 = V[j].cs := by
    clear h h1
    induction V generalizing j with
    | nil => simp at hj
    | cons x r ih =>
      cases j with
      | zero => simp [vflat, Val.cs]
      | succ j =>
        have := ih (j := j) (by simpa using hj)
        rw [List.getElem_cons_succ, ← this]
        simp only [vflat, List.flatMap_cons]
        rw [show (j + 1) * 2 = x.cs.length + j * 2 by simp [Val.cs]; omega, List.drop_append]
        simp [List.drop_of_length_le]
  rw [e] at h1; exact h1

/-- a row of values of one's own, read -/
theorem own_vals {w : World} {base n : Nat} {v : Value} {V : List Val} (h : w.ownsRow base 30 2 v n (vflat V)) (hn : n = V.length) : ∃ a c, v = .slice a n c ∧ ∀ j (hj : j < V.length), ∃ g, a = some ⟨g, 0, none⟩ ∧ base ≤ g ∧ g < w.heap.size ∧ cellsAt w g (0 + j * 2) V[j].cs := by
  obtain ⟨hxl, ⟨rfl, h0⟩ | ⟨g, cap, cur, rfl, hg, hh, h1, h2, h3, h4⟩⟩ := h
  · exact ⟨none, 0, by rw [h0], fun j hj => by omega⟩
  · refine ⟨_, cap, rfl, fun j hj => ⟨g, rfl, hg, lt_of_block hh, vflat_get (cellsAt_of_block hh _ 0 ?_) hj⟩⟩
    rw [List.drop_zero, hxl]; exact h4

set_option linter.unusedSimpArgs false in
set_option maxHeartbeats 1000000 in
theorem alive_spec {w : World} {tE : Nat} {aH : Addr} {E1 E2 : Value} (hg : Glob w tE aH E1 E2) (hE : ErrTy tE) : Calls Tryd.prog 8 #[] w fun e w' => e = .returned (.bool true) ∧ Below w.heap.size w w' := by
  refine (alive.calls (R := fun x w' => x = .bool true ∧ Below w.heap.size w w') ?_).mono (fun x w' ⟨v, h1, h2, h3⟩ => ⟨by rw [h1, h2], h3⟩)
  unfold alive.W
  have hsz := hg.size
  refine (New_ok 5 w (by decide) (by decide)).mono ?_
  rintro _ w1 ⟨rfl, hb1, h1⟩
  have s1 := lt_of_block h1.blk
  refine ⟨_, _, rfl, true, .inl ⟨rfl, rfl⟩, ifN (fun h => nomatch h) (fun _ => ?_)⟩
  show cond false _ _
  have g1 := hg.kept (hb1.mono (by omega))
  refine (Alloc_ok h1 g1 (by omega) 0 (by decide) (by decide) none 0 [] (fun j hj => by simp at hj) (fun b o e => nomatch e) (by decide) rfl (by decide) (by decide) (by decide)).mono ?_
  rintro _ w6 ⟨rfl, b0, v6, hb0, h6, c6, n6⟩
  have s6 := c6.size
  have low : ∀ {k : Nat} {u : Value} {W : World} {S : List St}, Is w.heap.size W S 5 u → k < 3 → ¬ (k = w.heap.size ∨ some k = u.ownBlock) := by
    intro k u W S hI hk
    rintro (e | e)
    · omega
    · have := hI.own.lt k e.symm; omega
  have b6 : Below w.heap.size w w6 := hb1.trans (c6.below (B := w.heap.size) (by omega) fun k hk => by
    rintro (e | e)
    · omega
    · cases e)
  refine ⟨_, _, _, rfl, copyStep rfl rfl fun w12 at12 hb12 hs12 => ?_⟩
  have h12 := h6.below hb12
  have b12 := b6.trans (hb12.mono (by omega))
  refine ⟨_, _, cellsAt_of_block at12 [.bool true, .int .i64 0] 0 rfl, box fun w15 at15 hb15 hs15 => ?_⟩
  have h15 := h12.below hb15
  have b15 := b12.trans (hb15.mono (by omega))
  have g15 := hg.kept (b15.mono (by omega))
  have hV2 : Vsl w15 (some ⟨w12.heap.size, 0, none⟩) [⟨true, 0⟩, ⟨false, 7⟩] := fun j hj => ⟨_, _, rfl, by
    match j, hj with
    | 0, _ => exact cellsAt_of_block at15 [.bool true, .int .i64 0] 0 rfl
    | 1, _ => exact cellsAt_of_block at15 [.bool false, .int .i64 7] 2 rfl⟩
  refine (Alloc_ok h15 g15 (by omega) 1 (by decide) (by decide) (some ⟨w12.heap.size, 0, none⟩) 2 [⟨true, 0⟩, ⟨false, 7⟩] hV2 (fun b o e hm => by cases e; have := h12.mine_lt hm; omega) (by decide) rfl (by simp [sumN, nodesOf, find, St.size]) (by simp [maxD, depthOf, find, St.size]; decide) (by simp [used, cells, St.cells])).mono ?_
  rintro _ w16 ⟨rfl, b1, v16, hb1', h16, c16, n16⟩
  have s16 := c16.size
  have b16 : Below w.heap.size w w16 := b15.trans (c16.below (B := w.heap.size) (by omega) fun k hk => by
    rintro (e | e)
    · omega
    · have := h15.own.lt k e.symm; omega)
  refine ⟨_, _, _, rfl, copyStep rfl rfl fun w22 at22 hb22 hs22 => box fun w23 at23 hb23 hs23 => ?_⟩
  have h22 := h16.below hb22
  have h23 := h22.below hb23
  have b22 := b16.trans (hb22.mono (by omega))
  have b23 := b22.trans (hb23.mono (by omega))
  have g23 := hg.kept (b23.mono (by omega))
  refine (Alloc_full h23 g23 (by omega) 0 (by decide) (by decide) (some ⟨w22.heap.size, 0, none⟩) 1 [⟨false, 1⟩] (fun j hj => ⟨_, _, rfl, by
    match j, hj with
    | 0, _ => exact cellsAt_of_block at23 [.bool false, .int .i64 1] 0 rfl⟩) (fun b o e hm => by cases e; have := h22.mine_lt hm; omega) (by decide) rfl (by simp [sumN, nodesOf, find, St.size]) (by simp [maxD, depthOf, find, St.size]; decide) (by simp [used, cells, St.cells])).mono ?_
  rintro _ w24 ⟨rfl, hb24⟩
  have h24 := h23.below hb24
  have b24 := b23.trans (hb24.mono (by omega))
  have s24 := hb24.size
  refine ⟨_, _, _, rfl, copyStep rfl rfl fun w30 at30 hb30 hs30 => ?_⟩
  have h30 := h24.below hb30
  have b30 := b24.trans (hb30.mono (by omega))
  have at22' := block_below hb30 (by omega) (block_below hb24 (by omega) (block_below hb23 (by omega) at22))
  refine ⟨_, _, cellsAt_of_block at22' [.bool true, .int .i64 1] 0 rfl, ?_⟩
  refine (Get_ok h30 1 ⟨b1, 1, [⟨true, 0⟩, ⟨false, 7⟩], _, _⟩ rfl rfl).mono ?_
  rintro _ w33 ⟨a33, c33, rfl, hb33, own33⟩
  have b33 := b30.trans (hb33.mono (by omega))
  have g33 := hg.kept (b33.mono (by omega))
  have h33 := h30.below hb33
  refine ⟨_, _, _, _, _, rfl, true, .inl ⟨rfl, rfl⟩, ?_⟩
  show ∃ r41, IsNil .nilIface r41 ∧ _
  refine ⟨true, .inl ⟨rfl, rfl⟩, ?_⟩
  show ∃ v42, World.cell? w33 ⟨0, 0, none⟩ = some v42 ∧ _
  refine ⟨_, g33.heap, true, hE.eq _ _ _ _, ?_⟩
  show ∃ r44, IsNil .nilIface r44 ∧ _
  refine ⟨true, .inl ⟨rfl, rfl⟩, ?_⟩
  refine (Used_spec h33).mono ?_
  rintro _ _ ⟨rfl, rfl⟩
  refine ⟨_, rfl, ?_⟩
  obtain ⟨a', c', e', hcell⟩ := own_vals own33 rfl
  cases e'
  obtain ⟨g, rfl, _, _, hc⟩ := hcell 1 (show 1 < 2 by decide)
  show ∃ b48 f49, _
  refine ⟨g, 0, rfl, by decide, (show (1 : Int) < ((2 : Nat) : Int) by decide), _, _, hc, _, val_eq _ _ _ ⟨false, 7⟩ ⟨false, 7⟩, rfl, b33⟩

end Go.Proofs.YtfenhbjamohdgaaDoor.Vf
end

/- part H1E -/
section
namespace Go.Vx
theorem tmod_pos (n : Int) (m : Nat) (h0 : 0 < m) (h1 : m ≤ 1048576) : ∃ k : Nat, k < m ∧ Int.tmod (IntKind.i64.wrap (Int.tmod n (m : Int) + (m : Int))) (m : Int) = (k : Int) := by
  have a1 : Int.tmod n (m : Int) < m := Int.tmod_lt_of_pos n (by omega)
  have a2 : -(m : Int) < Int.tmod n (m : Int) := by
    have := Int.tmod_lt_of_pos (-n) (b := (m : Int)) (by omega)
    rw [Int.neg_tmod] at this; omega
  rw [w64 (x := Int.tmod n (m : Int) + (m : Int)) (by omega) (by omega)]
  have a3 := Int.tmod_nonneg (m : Int) (a := Int.tmod n (m : Int) + (m : Int)) (by omega)
  have a4 := Int.tmod_lt_of_pos (Int.tmod n (m : Int) + (m : Int)) (b := (m : Int)) (by omega)
  exact ⟨(Int.tmod (Int.tmod n (m : Int) + (m : Int)) (m : Int)).toNat, by omega, by omega⟩
end Go.Vx

namespace Go.Proofs.YtfenhbjamohdgaaDoor.Vf
open Go.Vx Go.Vx.Hp Go.RowKit

/-- ints in memory, as a slice that came in -/
def Isl (B : Nat) (w : World) (a : Option Addr) (L : List Int) : Prop := ∀ j (h : j < L.length), ∃ b o, a = some ⟨b, o, none⟩ ∧ b < B ∧ w.cell? ⟨b, o + j * 1, none⟩ = some (.int .i64 L[j])

theorem zeros_vals {w : World} {b k : Nat} (h : w.heap[b]? = some (.cells (zerosA [.bool false, .int .i64 0] k) 30 (0, 0))) : Vsl w (some ⟨b, 0, none⟩) (List.replicate k ⟨false, 0⟩) := by
  intro j hj
  rw [List.length_replicate] at hj
  refine ⟨b, 0, rfl, ?_⟩
  rw [List.getElem_replicate]
  have hz : ∀ i, i < k * 2 → (zerosA [.bool false, .int .i64 0] k).toList[i]? = some (if i % 2 = 0 then Value.bool false else .int .i64 0) := by
    intro i hi
    have hsz : (zerosA [.bool false, .int .i64 0] k).size = k * 2 := by simp [zerosA]
    rw [Array.getElem?_toList, Array.getElem?_eq_getElem (by omega)]
    simp only [zerosA, Array.getElem_map, Array.getElem_range]
    congr 1
    have h2 : i % 2 = 0 ∨ i % 2 = 1 := by omega
    rcases h2 with h2 | h2 <;> simp [h2]
  refine ⟨?_, ?_, trivial⟩
  · exact cell_of_block h ((hz _ (by omega)).trans (by rw [if_pos (by omega)]))
  · exact cell_of_block h ((hz _ (by omega)).trans (by rw [if_neg (by omega)]))

theorem sumN_zeros (S : List St) (k : Nat) : sumN S (List.replicate k ⟨false, 0⟩) = k ∧ maxD S (List.replicate k ⟨false, 0⟩) ≤ 2 ∧ (List.replicate k (⟨false, 0⟩ : Val)).all (good S) = true := by
  induction k with
  | zero => exact ⟨rfl, (show (1 : Int) ≤ 2 by decide), rfl⟩
  | succ k ih =>
    obtain ⟨h1, h2, h3⟩ := ih
    refine ⟨?_, ?_, ?_⟩
    · rw [List.replicate_succ, sumN, h1]; simp [nodesOf]; omega
    · rw [List.replicate_succ, maxD]; simp only [depthOf, Bool.false_eq_true, if_false]; omega
    · rw [List.replicate_succ, List.all_cons, h3]; rfl

theorem find_new (S : List St) (s : St) : find (S ++ [s]) (used S) = some s := by
  rw [find_append_right (Nat.le_refl _), Nat.sub_self]; rfl

set_option maxHeartbeats 1000000 in
theorem HeapRoom_spec {w : World} {tE : Nat} {aH : Addr} {E1 E2 : Value} (hg : Glob w tE aH E1 E2) (hE : ErrTy tE) (n : Int) (a : Option Addr) (c : Nat) (L : List Int) (hs : Isl w.heap.size w a L) :
    Calls Tryd.prog 3 #[.int .i64 n, .slice a L.length c] w fun e w' => e = .returned (.bool true) ∧ Below w.heap.size w w' := by
  refine (HeapRoom.calls (R := fun x w' => x = .bool true ∧ Below w.heap.size w w') ?_).mono (fun x w' ⟨v, h1, h2, h3⟩ => ⟨by rw [h1, h2], h3⟩)
  unfold HeapRoom.W
  have hsz := hg.size
  refine (alive_spec hg hE).mono ?_
  rintro _ w5 ⟨rfl, hb5⟩
  have s5 := hb5.size
  refine ⟨_, rfl, ifN (fun h => nomatch h) (fun _ => ?_)⟩
  obtain ⟨K, hK, eK⟩ := tmod_pos n 200 (by decide) (by decide)
  have eK' : Int.tmod (IntKind.i64.wrap (Int.tmod n 200 + 200)) 200 = (K : Int) := eK
  rw [eK']
  refine ⟨rfl, by decide, rfl, by decide, (New_ok (K : Int) w5 (by omega) (by omega)).mono ?_⟩
  rintro _ w8 ⟨rfl, hb8, h8⟩
  have b8 := hb5.trans (hb8.mono s5)
  have s8 := lt_of_block h8.blk
  refine ⟨_, _, rfl, true, .inl ⟨rfl, rfl⟩, ifN (fun h => nomatch h) (fun _ => ?_)⟩
  show cond false _ _
  -- the end
  have fin : ∀ (w15 : World) (S : List St) (v : Value), Is w5.heap.size w15 S K v → Below w.heap.size w w15 →
      (Calls Tryd.prog 13 #[(.pointer (some ⟨w5.heap.size, 0, none⟩)), (.slice none 0 0)] w15 fun e24 w23 => ∃ (v25 : Value), e24 = .returned v25 ∧ (∃ r26, IsNil v25 r26 ∧ (bif r26 then (Calls Tryd.prog 12 #[(.pointer (some ⟨w5.heap.size, 0, none⟩))] w23 fun e28 w27 => ∃ (n29 : Int), e28 = .returned (.int .i64 n29) ∧ (bif (n29 == (0 : Int)) then (Calls Tryd.prog 14 #[(.pointer (some ⟨w5.heap.size, 0, none⟩))] w27 fun e31 w30 => ∃ (n32 : Int), e31 = .returned (.int .i64 n32) ∧ (Value.bool (n32 == (K : Int)) = .bool true ∧ Below w.heap.size w w30)) else (Value.bool false = .bool true ∧ Below w.heap.size w w27))) else (Value.bool false = .bool true ∧ Below w.heap.size w w23)))) := by
    intro w15 S v h15 b15
    refine (Collect_none h15 0).mono ?_
    rintro _ w23 ⟨rfl, h23, c23⟩
    have b23 : Below w.heap.size w w23 := b15.trans (c23.below b15.size fun k hk e => by omega)
    refine ⟨_, rfl, true, .inl ⟨rfl, rfl⟩, (Used_spec h23).mono ?_⟩
    rintro _ _ ⟨rfl, rfl⟩
    refine ⟨_, rfl, ifE (fun _ => (Cells_spec h23).mono ?_) (fun h => absurd rfl h)⟩
    rintro _ _ ⟨rfl, rfl⟩
    exact ⟨_, rfl, by simp, b23⟩
  refine ⟨fun us w2 => ∃ (j : Nat) (S : List St) (v : Value), j ≤ L.length ∧ j ≤ 101 ∧ us = [.int .i64 (used S : Nat), .int .i64 j] ∧ Is w5.heap.size w2 S K v ∧ Below w.heap.size w w2,
    fun us _ => match us with | [_, .int _ j] => L.length - j.toNat | _ => 0, ⟨0, [], _, Nat.zero_le _, by decide, rfl, h8, b8⟩, ?_⟩
  rintro _ us w15 ⟨j, S, v, hj, hj2, rfl, h15, b15⟩
  refine ⟨_, _, rfl, ifD (fun hlt => ?_) (fun _ => fin w15 S v h15 b15)⟩
  have hlt' : j < L.length := by omega
  obtain ⟨b, o, rfl, hbB, hc⟩ := hs j hlt'
  refine ⟨b, o, rfl, by omega, hlt, _, cell_below b15 hbB hc, ifD (fun _ => fin w15 S v h15 b15) (fun hj3 => ?_)⟩
  obtain ⟨k, hk, ek⟩ := tmod_pos L[j] 9 (by decide) (by decide)
  have ek' : Int.tmod (IntKind.i64.wrap (Int.tmod L[j] 9 + 9)) 9 = (k : Int) := ek
  rw [ek']
  have hfit := h15.fits
  have s15 := b15.size
  rw [Int.toNat_natCast, w64 (x := (used S : Int) + 1) (by omega) (by omega), w64 (x := (used S : Int) + 1 + (k : Int)) (by omega) (by omega), w64 (x := 1 + (k : Int)) (by omega) (by omega), w64 (x := (used S : Int) + (1 + (k : Int))) (by omega) (by omega), w64 (x := (j : Int) + 1) (by omega) (by omega)]
  refine ⟨rfl, by decide, rfl, by decide, by omega, by omega, by omega, by omega, box fun w33 at33 hb33 hs33 => ?_⟩
  have h33 := h15.below hb33
  have b33 := b15.trans (hb33.mono b15.size)
  have g33 := hg.kept (b33.mono (by omega))
  obtain ⟨z1, z2, z3⟩ := sumN_zeros S k
  have hl : (List.replicate k (⟨false, 0⟩ : Val)).length = k := List.length_replicate
  have hap : ∀ b o, (some ⟨w15.heap.size, 0, none⟩ : Option Addr) = some ⟨b, o, none⟩ → ¬ Mine w5.heap.size S v b := fun b o e hm => by cases e; have := h15.mine_lt hm; omega
  have hlow : 2 < w5.heap.size := by omega
  have hownlt : ∀ g, v.ownBlock = some g → w5.heap.size < g := fun g hg => by have := h15.own.lt g hg; omega
  by_cases hroom : used S + 1 + k ≤ K
  · have hA := Alloc_ok h33 g33 hlow (j : Int) (by omega) (by omega) (some ⟨w15.heap.size, 0, none⟩) k (List.replicate k ⟨false, 0⟩) (zeros_vals at33) hap (by omega) z3 (by omega) (by omega) (by omega)
    rw [hl] at hA
    refine hA.mono ?_
    rintro _ w34 ⟨rfl, b0, v34, hb0, h34, c34, n34⟩
    have b34 : Below w.heap.size w w34 := b33.trans (c34.below (by omega) fun q hq => by
      rintro (e | e)
      · omega
      · have := hownlt q e.symm; omega)
    refine ⟨_, _, _, rfl, copyStep rfl rfl fun w40 at40 hb40 hs40 => ?_⟩
    have h40 := h34.below hb40
    have b40 := b34.trans (hb40.mono b34.size)
    have g40 := hg.kept (b40.mono (by omega))
    refine ⟨true, .inl ⟨rfl, rfl⟩, ifN (fun h => ?_) (fun _ => ?_)⟩
    · rw [decide_eq_true (by omega)] at h; cases h
    refine ⟨true, .inl ⟨rfl, rfl⟩, ifN (fun h => nomatch h) (fun _ => ?_)⟩
    refine ⟨true, .inl ⟨rfl, rfl⟩, ?_⟩
    show ∃ b46 n47, _
    refine ⟨_, _, cellsAt_of_block at40 [.bool true, .int .i64 (used S : Nat)] 0 rfl, ?_⟩
    have hf := find_new S ⟨b0, (j : Int), List.replicate k ⟨false, 0⟩, 1 + sumN S (List.replicate k ⟨false, 0⟩), maxD S (List.replicate k ⟨false, 0⟩)⟩
    refine (Get_ok h40 (used S : Nat) _ (by simp only [good, Bool.not_true, Bool.false_or, Int.toNat_natCast]; rw [hf, decide_eq_true (by omega)]; rfl) (by rw [Int.toNat_natCast]; exact hf)).mono ?_
    rintro _ w48 ⟨a48, c48, rfl, hb48, own48⟩
    have h48 := h40.below hb48
    have b48 := b40.trans (hb48.mono b40.size)
    refine ⟨_, _, _, _, _, rfl, true, .inl ⟨rfl, rfl⟩, ifN (fun h => nomatch h) (fun _ => ?_)⟩
    refine ifNE (fun h => absurd rfl h) (fun _ => ifNE (fun h => absurd (by simp) h) (fun _ => ?_))
    refine (Used_spec h48).mono ?_
    rintro _ _ ⟨rfl, rfl⟩
    have hu : used (S ++ [⟨b0, (j : Int), List.replicate k ⟨false, 0⟩, 1 + sumN S (List.replicate k ⟨false, 0⟩), maxD S (List.replicate k ⟨false, 0⟩)⟩]) = used S + (1 + k) := by
      rw [used_append, used_cons, used_nil]; simp [St.size]
    refine ⟨_, rfl, ifNE (fun h => absurd (by rw [hu]; omega) h) (fun _ => ?_)⟩
    refine ⟨⟨j + 1, _, _, hlt', by omega, ?_, h48, b48⟩, by simp only; omega⟩
    rw [hu]; simp
  · have hA := Alloc_full h33 g33 hlow (j : Int) (by omega) (by omega) (some ⟨w15.heap.size, 0, none⟩) k (List.replicate k ⟨false, 0⟩) (zeros_vals at33) hap (by omega) z3 (by omega) (by omega) (by omega)
    rw [hl] at hA
    refine hA.mono ?_
    rintro _ w34 ⟨rfl, hb34⟩
    have b34 := b33.trans (hb34.mono b33.size)
    have h34 := h33.below hb34
    refine ⟨_, _, _, rfl, copyStep rfl rfl fun w40 at40 hb40 hs40 => ?_⟩
    have h40 := h34.below hb40
    have b40 := b34.trans (hb40.mono b34.size)
    have g40 := hg.kept (b40.mono (by omega))
    refine ⟨false, .inr ⟨_, _, rfl, rfl⟩, ifN (fun h => ?_) (fun _ => ?_)⟩
    · rw [decide_eq_false (by omega)] at h; cases h
    refine ⟨false, .inr ⟨_, _, rfl, rfl⟩, ifN (fun _ => ?_) (fun h => nomatch h)⟩
    refine ⟨_, g40.heap, false, hE.ne _ _ _ _, ?_⟩
    show ∃ r45, _
    refine ⟨false, .inr ⟨_, _, rfl, rfl⟩, ?_⟩
    refine (Used_spec h40).mono ?_
    rintro _ _ ⟨rfl, rfl⟩
    refine ⟨_, rfl, ifNE (fun h => absurd rfl h) (fun _ => ?_)⟩
    exact ⟨⟨j + 1, S, v, hlt', by omega, rfl, h40, b40⟩, by simp only; omega⟩

end Go.Proofs.YtfenhbjamohdgaaDoor.Vf
end

/- part H2I -/
section
namespace Go.Proofs.YtfenhbjamohdgaaDoor.Vf
open Go.Vx Go.Vx.Hp Go.RowKit

theorem val_ne (w : World) (xo yo : Operand) (a b : Val) : Runs Tryd.prog (semEq .neq 30 xo yo (.agg #[.bool a.ref, .int .i64 a.n]) (.agg #[.bool b.ref, .int .i64 b.n])) w (.bool (!(a.ref == b.ref && a.n == b.n))) w := by
  have h := val_eq w xo yo a b
  unfold Runs semEq at h ⊢
  rw [Sem.run_bind, run_eqGuard_agg w _ _ _ _ _ _ guard30, Result.andThen_ok] at h ⊢
  rw [run_eql_struct] at h
  rw [run_neq_struct]
  generalize (Op.equalIn 10000 30 (.agg #[.bool a.ref, .int .i64 a.n]) (.agg #[.bool b.ref, .int .i64 b.n])).run Tryd.prog w = r at h ⊢
  cases r with
  | ok x w' =>
    simp only [Result.andThen_ok, Result.ok.injEq, Value.bool.injEq] at h ⊢
    exact ⟨by rw [h.1], h.2⟩
  | halt x w' => simp [Result.andThen] at h

/-- the list and the heap between two rounds -/
structure LInv (hp L : Nat) (w0 w : World) (most : Int) (k : Nat) (S : List St) (v : Value) (x : Val) : Prop where
  is : Is hp w S most v
  lst : Lst S x k
  blk : w.heap[L]? = some (.cells #[.bool x.ref, .int .i64 x.n] 30 (0, 0))
  not : ¬ Mine hp S v L
  below : Below w0.heap.size w0 w

theorem coll_step {hp L : Nat} {w0 w : World} {most : Int} {k : Nat} {S : List St} {v : Value} {x : Val} (h : LInv hp L w0 w most k S v x) (hL : w0.heap.size ≤ L) (hhp : w0.heap.size ≤ hp) (i : Nat) (hi : k = i + 1) (hi2 : i ≤ 1000) (B1 B2 G : World → Prop)
    (hG : ∀ w' S' v' x', LInv hp L w0 w' most k S' v' x' → used S' = 3 * k + 1 → G w') :
    withW (World.alloc w (.cells #[(.pointer (some ⟨L, 0, none⟩ : Option Addr))] 39)) fun w44 =>
      (Calls Tryd.prog 13 #[(.pointer (some ⟨hp, 0, none⟩)), (.slice (some ⟨w.heap.size, 0, none⟩ : Option Addr) 1 1)] w44 fun e46 w45 => ∃ (v47 : Value), e46 = .returned v47 ∧ (∃ r48, IsNil v47 r48 ∧ (bif (!r48) then B1 w45 else (Calls Tryd.prog 12 #[(.pointer (some ⟨hp, 0, none⟩))] w45 fun e50 w49 => ∃ (n51 : Int), e50 = .returned (.int .i64 n51) ∧ (bif (n51 != (IntKind.i64.wrap ((IntKind.i64.wrap (3 * (IntKind.i64.wrap ((i : Int) + 1)))) + 1))) then B2 w49 else G w49))))) := by
  refine box fun w44 at44 hb44 hs44 => ?_
  have hLlt := lt_of_block h.blk
  have h44 := h.is.below hb44
  have L44 := block_below hb44 hLlt h.blk
  refine (Collect_spec h44 [(L, 0)] (fun _ => x) (some ⟨w.heap.size, 0, none⟩) 1 (by simp) (fun y hy => ?_) (fun y hy => ?_) (fun y hy => ?_) (fun y hy z hz hne => ?_) (fun y hy => h.lst.at.2.1) (fun j hj => ?_) (fun b f e => ?_)).mono ?_
  · rw [List.mem_singleton] at hy; subst hy
    exact cellsAt_of_block L44 _ 0 rfl
  · rw [List.mem_singleton] at hy; subst hy; exact ⟨_, _, L44⟩
  · rw [List.mem_singleton] at hy; subst hy; exact h.not
  · rw [List.mem_singleton] at hy hz; subst hy hz; exact absurd rfl hne
  · have : j = 0 := by simp at hj; exact hj
    subst this
    exact ⟨w.heap.size, 0, rfl, cell_of_block at44 rfl⟩
  · cases e
    refine ⟨fun hm => by have := h.is.mine_lt hm; omega, ?_⟩
    rintro ⟨y, hy, e⟩
    rw [List.mem_singleton] at hy; subst hy
    simp only at e; omega
  · rintro _ w45 ⟨rfl, M, T, col⟩
    refine ⟨_, rfl, true, .inl ⟨rfl, rfl⟩, ifN (fun h => nomatch h) (fun _ => ?_)⟩
    refine (Used_spec col.is).mono ?_
    rintro _ _ ⟨rfl, rfl⟩
    have hin := col.roots (L, 0) (by simp)
    have hsize := Lst.size h.is.nd col.mv col.args h.lst hin (fun y hy => by have := col.rch y hy; simpa using this)
    have hu : used (moved M) = 3 * k + 1 := by rw [used_moved]; exact hsize
    rw [w64 (x := (i : Int) + 1) (by omega) (by omega), w64 (x := 3 * ((i : Int) + 1)) (by omega) (by omega), w64 (x := 3 * ((i : Int) + 1) + 1) (by omega) (by omega)]
    refine ⟨_, rfl, ifNE (fun hne => absurd (by rw [hu]; omega) hne) (fun _ => hG w45 (moved M) T (fwd M x) ⟨col.is, h.lst.moved col.mv col.args hin, ?_, ?_, ?_⟩ hu)⟩
    · obtain ⟨cs, t, cs', e1, e2, e3⟩ := col.rb.shape (L, 0) (by simp)
      have hc := col.cells (L, 0) (by simp)
      rw [L44] at e1
      simp only [Option.some.injEq, Obj.cells.injEq, and_true] at e1
      obtain ⟨rfl, rfl⟩ := e1
      have h0 := hc.1
      have h1 := hc.2.1
      simp only [World.cell?, e2] at h0 h1
      rw [e2]
      congr 2
      apply Array.ext_getElem?
      intro o
      match o with
      | 0 => simpa using h0
      | 1 => simpa using h1
      | o + 2 => rw [Array.getElem?_eq_none (by rw [e3]; show 2 ≤ o + 2; omega)]; simp
    · rintro (e | e | ⟨s, hs, e⟩)
      · exact h.not (.inl e)
      · have := col.town L e.symm; omega
      · obtain ⟨y, hy, rfl⟩ := List.mem_map.1 hs
        exact h.not (.inr (.inr ⟨y.2, find_mem (col.mv.of y hy), e⟩))
    · refine (h.below.trans (hb44.mono h.below.size)).trans ⟨col.os.1, col.os.2.1, col.os.2.2, col.sz, fun q hq => col.old q (by have := h.below.size; omega) (fun hm => ?_) ?_⟩
      · have : hp ≤ q := by
          rcases hm with e | e | ⟨s, hs, e⟩
          · omega
          · have := h.is.own.lt q e.symm; omega
          · have := (h.is.hd s hs).1; omega
        omega
      · rintro ⟨y, hy, e⟩
        rw [List.mem_singleton] at hy; subst hy
        simp only at e; omega

set_option maxHeartbeats 2000000 in
theorem HeapLists_spec {w : World} {tE : Nat} {aH : Addr} {E1 E2 : Value} (hg : Glob w tE aH E1 E2) (hE : ErrTy tE) (n m : Int) :
    Calls Tryd.prog 4 #[.int .i64 n, .int .i64 m] w fun e w' => e = .returned (.bool true) ∧ Below w.heap.size w w' := by
  refine (HeapLists.calls (R := fun x w' => x = .bool true ∧ Below w.heap.size w w') ?_).mono (fun x w' ⟨v, h1, h2, h3⟩ => ⟨by rw [h1, h2], h3⟩)
  unfold HeapLists.W
  have hsz := hg.size
  refine (alive_spec hg hE).mono ?_
  rintro _ w3 ⟨rfl, hb3⟩
  have s3 := hb3.size
  refine ⟨_, rfl, ifN (fun h => nomatch h) (fun _ => ?_)⟩
  obtain ⟨N, hN, eN⟩ := tmod_pos n 199 (by decide) (by decide)
  have eN' : Int.tmod (IntKind.i64.wrap (Int.tmod n 199 + 199)) 199 = (N : Int) := eN
  obtain ⟨E, hEv, eE⟩ := tmod_pos m 20 (by decide) (by decide)
  have eE' : Int.tmod (IntKind.i64.wrap (Int.tmod m 20 + 20)) 20 = (E : Int) := eE
  rw [eN', eE']
  rw [w64 (x := 3 * (N : Int)) (by omega) (by omega), w64 (x := 3 * (N : Int) + 40) (by omega) (by omega), w64 (x := 1 + (E : Int)) (by omega) (by omega), w64 (x := (N : Int) - 1) (by omega) (by omega)]
  refine ⟨rfl, by decide, rfl, by decide, rfl, by decide, rfl, by decide, (New_ok (3 * (N : Int) + 40) w3 (by omega) (by omega)).mono ?_⟩
  rintro _ w6 ⟨rfl, hb6, h6⟩
  have b6 := hb3.trans (hb6.mono s3)
  have s6 := lt_of_block h6.blk
  have hlow : 2 < w3.heap.size := by omega
  refine ⟨_, _, rfl, true, .inl ⟨rfl, rfl⟩, ifN (fun h => nomatch h) (fun _ => ?_)⟩
  show cond false _ _
  refine (Alloc_ok h6 (hg.kept (b6.mono (by omega))) hlow 0 (by decide) (by decide) none 0 [] (fun j hj => by simp at hj) (fun b o e => nomatch e) (by decide) rfl (by decide) (by decide) (by show (0 : Int) + 1 + 0 ≤ _; omega)).mono ?_
  rintro _ w11 ⟨rfl, b0, v11, hb0, h11, c11, n11⟩
  have s11 := c11.size
  have b11 : Below w.heap.size w w11 := b6.trans (c11.below (by omega) fun q hq => by
    rintro (e | e)
    · omega
    · cases e)
  refine ⟨_, _, _, rfl, copyStep rfl rfl fun w17 at17 hb17 hs17 => ?_⟩
  have h17 := h11.below hb17
  refine ⟨true, .inl ⟨rfl, rfl⟩, ifN (fun h => nomatch h) (fun _ => ?_)⟩
  have lst0 : Lst ([] ++ [⟨b0, 0, [], 1 + sumN [] [], maxD [] []⟩]) ⟨true, (used [] : Nat)⟩ 0 := .nil 0 _ rfl rfl rfl rfl rfl
  have inv0 : LInv w3.heap.size w11.heap.size w w17 (3 * (N : Int) + 40) 0 _ v11 ⟨true, (used [] : Nat)⟩ := ⟨h17, lst0, at17, fun hm => by have := h11.mine_lt hm; omega, b11.trans (hb17.mono b11.size)⟩
  refine ⟨fun us w2 => ∃ (i : Nat) (S : List St) (v : Value) (x : Val), i ≤ N ∧ us = [.int .i64 i] ∧ LInv w3.heap.size w11.heap.size w w2 (3 * (N : Int) + 40) i S v x ∧ (used S : Int) + 5 ≤ 3 * (N : Int) + 40, fun us _ => match us with | [.int _ i] => N - i.toNat | _ => 0, ⟨0, _, _, _, Nat.zero_le _, rfl, inv0, by show (1 : Int) + 5 ≤ _; omega⟩, ?_⟩
  clear inv0 lst0 h17 h11 at17
  rintro _ us w21 ⟨i, S, v, x, hi, rfl, inv, hroom⟩
  have s21 := inv.below.size
  have hLlt := lt_of_block inv.blk
  refine ⟨_, rfl, ifD (fun hlt => ?_) (fun hge => ?_)⟩
  · rw [w64 (x := (i : Int) + 1) (by omega) (by omega)]
    refine box fun w25 at25 hb25 hs25 => ?_
    have h25 := inv.is.below hb25
    have b25 := inv.below.trans (hb25.mono s21)
    refine (Alloc_ok h25 (hg.kept (b25.mono (by omega))) hlow 7 (by decide) (by decide) (some ⟨w21.heap.size, 0, none⟩) 1 [⟨false, (i : Nat)⟩] (fun j hj => ⟨_, _, rfl, by
      match j, hj with
      | 0, _ => exact cellsAt_of_block at25 [.bool false, .int .i64 (i : Nat)] 0 rfl⟩) (fun b o e hm => by cases e; have := inv.is.mine_lt hm; omega) (by show 1 ≤ 8; omega) rfl (by show (1 : Int) + (1 + 0) ≤ 4096; omega) (by show max ((1 : Int) + 1) 1 ≤ 200; omega) (by show (used S : Int) + 1 + 1 ≤ _; omega)).mono ?_
    rintro _ w26 ⟨rfl, b7, v26, hb7, h26, c26, n26⟩
    have s26 := c26.size
    have own21 : ∀ g, v.ownBlock = some g → w3.heap.size < g ∧ g < w21.heap.size := fun g hg' => by have := inv.is.own.lt g hg'; omega
    have b26 : Below w.heap.size w w26 := b25.trans (c26.below (by omega) fun q hq => by
      rintro (e | e)
      · omega
      · have := own21 q e.symm; omega)
    have L26 : w26.heap[w11.heap.size]? = _ := (c26.block _ (by omega) fun e => inv.not (e.imp id .inl)).trans (block_below hb25 hLlt inv.blk)
    refine ⟨_, _, _, rfl, copyStep rfl rfl fun w32 at32 hb32 hs32 => ?_⟩
    have h32 := h26.below hb32
    have b32 := b26.trans (hb32.mono b26.size)
    have L32 := block_below hb32 (by omega) L26
    refine ⟨true, .inl ⟨rfl, rfl⟩, ifN (fun h => nomatch h) (fun _ => ?_)⟩
    refine ⟨_, _, cellsAt_of_block L32 [.bool x.ref, .int .i64 x.n] 0 rfl, box fun w36 at36 hb36 hs36 => ?_⟩
    have h36 := h32.below hb36
    have b36 := b32.trans (hb36.mono b32.size)
    have L36 := block_below hb36 (by omega) L32
    obtain ⟨q1, q2, q3, q4⟩ := (inv.lst.append (T := [⟨b7, 7, [⟨false, (i : Nat)⟩], 1 + sumN S [⟨false, (i : Nat)⟩], maxD S [⟨false, (i : Nat)⟩]⟩])).at
    have u26 : used (S ++ [⟨b7, 7, [⟨false, (i : Nat)⟩], 1 + sumN S [⟨false, (i : Nat)⟩], maxD S [⟨false, (i : Nat)⟩]⟩]) = used S + 2 := by rw [used_append, used_cons, used_nil]; simp [St.size]
    generalize hS2 : S ++ [⟨b7, 7, [⟨false, (i : Nat)⟩], 1 + sumN S [⟨false, (i : Nat)⟩], maxD S [⟨false, (i : Nat)⟩]⟩] = S2 at *
    have sumv : 1 + sumN S2 [⟨false, (i : Nat)⟩, x] = 2 * (i : Int) + 3 := by
      have e1 : nodesOf S2 ⟨false, (i : Nat)⟩ = 1 := rfl
      simp only [sumN, e1, q3]; omega
    have maxv : maxD S2 [⟨false, (i : Nat)⟩, x] = (i : Int) + 2 := by
      have e1 : depthOf S2 ⟨false, (i : Nat)⟩ = 1 := rfl
      simp only [maxD, e1, q4]; omega
    refine (Alloc_ok h36 (hg.kept (b36.mono (by omega))) hlow 1 (by decide) (by decide) (some ⟨w32.heap.size, 0, none⟩) 2 [⟨false, (i : Nat)⟩, x] (fun j hj => ⟨_, _, rfl, by
      match j, hj with
      | 0, _ => exact cellsAt_of_block at36 [.bool false, .int .i64 (i : Nat)] 0 rfl
      | 1, _ => exact cellsAt_of_block at36 [.bool x.ref, .int .i64 x.n] 2 rfl⟩) (fun b o e hm => by cases e; have := h32.mine_lt hm; omega) (by show 2 ≤ 8; omega) (by simp only [List.all_cons, List.all_nil, q2]; rfl) (by rw [sumv]; omega) (by rw [maxv]; omega) (by rw [u26]; show ((used S + 2 : Nat) : Int) + 1 + 2 ≤ _; omega)).mono ?_
    rintro _ w37 ⟨rfl, b8, v37, hb8, h37, c37, n37⟩
    have s37 := c37.size
    have own26 : ∀ g, v26.ownBlock = some g → w3.heap.size < g ∧ g ≠ w11.heap.size := fun g hg' => by
      have := h26.own.lt g hg'
      refine ⟨by omega, fun e => ?_⟩
      subst e
      rcases n26 with e | ⟨k, hk, e⟩
      · exact inv.not (.inr (.inl (by rw [← e]; exact hg'.symm)))
      · rw [e] at hg'; cases hg'; omega
    have b37 : Below w.heap.size w w37 := b36.trans (c37.below (by omega) fun q hq => by
      rintro (e | e)
      · omega
      · have := own26 q e.symm; omega)
    have L37 : w37.heap[w11.heap.size]? = _ := (c37.block _ (by omega) (by
      rintro (e | e)
      · omega
      · exact (own26 _ e.symm).2 rfl)).trans L36
    have hf37 := find_new S2 ⟨b8, 1, [⟨false, (i : Nat)⟩, x], 1 + sumN S2 [⟨false, (i : Nat)⟩, x], maxD S2 [⟨false, (i : Nat)⟩, x]⟩
    have lst37 : Lst (S2 ++ [⟨b8, 1, [⟨false, (i : Nat)⟩, x], 1 + sumN S2 [⟨false, (i : Nat)⟩, x], maxD S2 [⟨false, (i : Nat)⟩, x]⟩]) ⟨true, (used S2 : Nat)⟩ (i + 1) := .cons (used S2) _ i x hf37 rfl rfl sumv maxv (by rw [← hS2]; exact inv.lst.append.append)
    have not37 : ¬ Mine w3.heap.size (S2 ++ [⟨b8, 1, [⟨false, (i : Nat)⟩, x], 1 + sumN S2 [⟨false, (i : Nat)⟩, x], maxD S2 [⟨false, (i : Nat)⟩, x]⟩]) v37 w11.heap.size := by
      rintro (e | e | ⟨s, hs, e⟩)
      · omega
      · rcases n37 with e' | ⟨k, hk, e'⟩
        · exact (own26 _ (by rw [← e']; exact e.symm)).2 rfl
        · rw [e'] at e; cases e; omega
      · rcases List.mem_append.1 hs with hs | hs
        · rw [← hS2] at hs
          rcases List.mem_append.1 hs with hs | hs
          · exact inv.not (.inr (.inr ⟨s, hs, e⟩))
          · rw [List.mem_singleton] at hs; subst hs; simp only at e; omega
        · rw [List.mem_singleton] at hs; subst hs; simp only at e; omega
    have u37 : used (S2 ++ [⟨b8, 1, [⟨false, (i : Nat)⟩, x], 1 + sumN S2 [⟨false, (i : Nat)⟩, x], maxD S2 [⟨false, (i : Nat)⟩, x]⟩]) = used S + 5 := by rw [used_append, used_cons, used_nil, u26]; simp [St.size]
    generalize S2 ++ [⟨b8, 1, [⟨false, (i : Nat)⟩, x], 1 + sumN S2 [⟨false, (i : Nat)⟩, x], maxD S2 [⟨false, (i : Nat)⟩, x]⟩] = S3 at *
    refine ⟨_, _, _, rfl, fillStep L37 rfl rfl fun w42 at42 same42 hsz42 hg42 => ?_⟩
    have inv42 : LInv w3.heap.size w11.heap.size w w42 (3 * (N : Int) + 40) (i + 1) S3 v37 ⟨true, (used S2 : Nat)⟩ :=
      ⟨h37.kept (fun k hk => same42 k fun e => not37 (e ▸ hk)) (by omega), lst37, at42, not37, ⟨hg42.os.trans b37.os, hg42.tape.trans b37.tape, hg42.output.trans b37.output, by have := b37.size; omega, fun q hq => (same42 q (by omega)).trans (b37.block q hq)⟩⟩
    refine ⟨true, .inl ⟨rfl, rfl⟩, ifN (fun h => nomatch h) (fun _ => ?_)⟩
    have fin : ∀ w' S' v' x', LInv w3.heap.size w11.heap.size w w' (3 * (N : Int) + 40) (i + 1) S' v' x' → used S' = 3 * (i + 1) + 1 → ((∃ (i' : Nat) (S : List St) (v : Value) (x : Val), i' ≤ N ∧ [Value.int .i64 ((i : Int) + 1)] = [.int .i64 i'] ∧ LInv w3.heap.size w11.heap.size w w' (3 * (N : Int) + 40) i' S v x ∧ (used S : Int) + 5 ≤ 3 * (N : Int) + 40) ∧ N - ((i : Int) + 1).toNat < N - (i : Int).toNat) :=
      fun w' S' v' x' hh hu => ⟨⟨i + 1, S', v', x', by omega, rfl, hh, by rw [hu]; omega⟩, by omega⟩
    have cs := coll_step inv42 (by omega) (by omega) i rfl (by omega)
    rw [w64 (x := (i : Int) + 1) (by omega) (by omega)] at cs
    refine ⟨rfl, by omega, ifE (fun _ => cs _ _ _ fin) (fun _ => ?_)⟩
    refine (Used_spec inv42.is).mono ?_
    rintro _ _ ⟨rfl, rfl⟩
    refine ⟨_, rfl, (Cells_spec inv42.is).mono ?_⟩
    rintro _ _ ⟨rfl, rfl⟩
    rw [w64 (x := (used S3 : Int) + 8) (by omega) (by omega)]
    refine ⟨_, rfl, ifD (fun _ => cs _ _ _ fin) (fun hle => ?_)⟩
    exact ⟨⟨i + 1, S3, v37, _, by omega, rfl, inv42, by omega⟩, by simp only; omega⟩
  · have : i = N := by omega
    subst this
    refine ⟨fun us w2 => ∃ (k : Nat) (x : Val), k ≤ i ∧ us = [.int .i64 ((k : Int) - 1)] ∧ LInv w3.heap.size w11.heap.size w w2 (3 * (i : Int) + 40) k S v x, fun us _ => match us with | [.int _ z] => (z + 1).toNat | _ => 0, ⟨i, x, Nat.le_refl _, rfl, inv⟩, ?_⟩
    rintro _ us w68 ⟨k, y, hk, rfl, inv⟩
    have hLlt := lt_of_block inv.blk
    refine ⟨_, rfl, ifD (fun hlt => ?_) (fun hge' => ?_)⟩
    · refine ⟨_, _, cellsAt_of_block inv.blk [.bool y.ref, .int .i64 y.n] 0 rfl, ?_⟩
      have hlst := inv.lst
      have hgd := hlst.at.2.1
      cases hlst with
      | nil p s hs h1 h2 h3 h4 => exact absurd hlt (by decide)
      | cons p s k' z hs h1 h2 h3 h4 hl =>
        refine (Get_ok inv.is (p : Nat) s hgd (by rw [Int.toNat_natCast]; exact hs)).mono ?_
        rintro _ w74 ⟨a74, c74, rfl, hb74, own74⟩
        have hlen : s.args.length = 2 := by rw [h2]; rfl
        obtain ⟨a', c', e', hcell⟩ := own_vals own74 rfl
        cases e'
        refine ⟨_, _, _, _, _, rfl, true, .inl ⟨rfl, rfl⟩, ifN (fun h => nomatch h) (fun _ => ifNE (fun hne => absurd h1 hne) (fun _ => ifNE (fun hne => absurd (by rw [hlen]; rfl) hne) (fun _ => ?_)))⟩
        obtain ⟨g, rfl, hg1, hg2, hc0⟩ := hcell 0 (by omega)
        obtain ⟨g', e', _, _, hc1⟩ := hcell 1 (by omega)
        cases e'
        have e0 : s.args[0]'(by omega) = ⟨false, (k' : Nat)⟩ := by simp [h2]
        have e1 : s.args[1]'(by omega) = z := by simp [h2]
        rw [e0] at hc0
        rw [e1] at hc1
        have ek : ((k' + 1 : Nat) : Int) - 1 = (k' : Int) := by omega
        rw [ek]
        refine ⟨g, 0, rfl, by decide, by omega, _, _, hc0, _, val_ne _ _ _ ⟨false, (k' : Nat)⟩ ⟨false, (k' : Nat)⟩, ?_⟩
        refine ifB (fun h => by simp at h) (fun _ => ?_)
        have b74 := inv.below.trans (hb74.mono inv.below.size)
        have L74 := block_below hb74 hLlt inv.blk
        refine ⟨g, 0, rfl, by decide, by omega, _, _, hc1, fillStep L74 rfl rfl fun w91 at91 same91 hsz91 hg91 => ?_⟩
        rw [w64 (x := (k' : Int) - 1) (by omega) (by omega)]
        have hi74 := inv.is.below hb74
        refine ⟨⟨k', z, by omega, rfl, ⟨hi74.kept (fun q hq => same91 q fun e => inv.not (e ▸ hq)) (by omega), hl, at91, inv.not, ⟨hg91.os.trans b74.os, hg91.tape.trans b74.tape, hg91.output.trans b74.output, by have := b74.size; omega, fun q hq => (same91 q (by omega)).trans (b74.block q hq)⟩⟩⟩, by simp only; omega⟩
    · refine ⟨_, _, cellsAt_of_block inv.blk [.bool y.ref, .int .i64 y.n] 0 rfl, ?_⟩
      have hlst := inv.lst
      have hgd := hlst.at.2.1
      cases hlst with
      | cons p s k' z hs h1 h2 h3 h4 hl => exact absurd (by omega) hge'
      | nil p s hs h1 h2 h3 h4 =>
        refine (Get_ok inv.is (p : Nat) s hgd (by rw [Int.toNat_natCast]; exact hs)).mono ?_
        rintro _ w94 ⟨a94, c94, rfl, hb94, own94⟩
        refine ⟨_, _, _, _, _, rfl, true, .inl ⟨rfl, rfl⟩, ?_⟩
        show cond (s.ctor == 0) _ _
        refine ifE (fun _ => ⟨?_, inv.below.trans (hb94.mono inv.below.size)⟩) (fun hne => absurd h1 hne)
        rw [h2]; rfl

end Go.Proofs.YtfenhbjamohdgaaDoor.Vf
end

/- part H2M -/
section
namespace Go.Proofs.YtfenhbjamohdgaaDoor.Vf
open Go.Vx Go.Vx.Hp Go.RowKit

theorem vflat_length (V : List Val) : (vflat V).length = V.length * 2 := by
  induction V with
  | nil => rfl
  | cons x r ih => show (x.cs ++ vflat r).length = _; rw [List.length_append, ih]; simp [Val.cs]; omega
theorem vflat_one (V : List Val) : ((vflat V).all fun v => v.oneCell') = true := by
  induction V with
  | nil => rfl
  | cons x r ih => show ((x.cs ++ vflat r).all _) = true; rw [List.all_append, ih]; rfl

theorem Clone_spec (w : World) (a : Option Addr) (c : Nat) (V : List Val) (hl : V.length ≤ 1000000) (hV : 0 < V.length → ∃ b o, a = some ⟨b, o, none⟩ ∧ cellsAt w b o (vflat V)) :
    Calls Tryd.prog 28 #[.slice a V.length c] w fun e w' => ∃ a' c', e = .returned (.slice a' V.length c') ∧ Below w.heap.size w w' ∧ w'.ownsRow w.heap.size 30 2 (.slice a' V.length c') V.length (vflat V) := by
  refine (Vg.Clone.calls (R := fun x w' => ∃ a' c', x = .slice a' V.length c' ∧ Below w.heap.size w w' ∧ w'.ownsRow w.heap.size 30 2 (.slice a' V.length c') V.length (vflat V)) ?_).mono (fun x w' ⟨v, h1, a', c', h2, h3⟩ => ⟨a', c', by rw [h1, h2], h3⟩)
  unfold Vg.Clone.W
  refine ifB (fun hn => ?_) (fun _ => ?_)
  · have : V.length = 0 := by
      rcases Nat.eq_zero_or_pos V.length with h | h
      · exact h
      · obtain ⟨b, o, rfl, _⟩ := hV h
        cases hn
    have e : V = [] := List.eq_nil_of_length_eq_zero this
    subst e
    exact ⟨none, 0, rfl, Below.refl _ _, World.ownsRow_nil _ _ _ _⟩
  · refine box fun w4 at4 hb4 hs4 => ?_
    have own4 : w4.ownsRow w.heap.size 30 2 (.slice (some ⟨w.heap.size, 0, none⟩) 0 0) 0 [] := ⟨by simp, .inr ⟨w.heap.size, 0, _, rfl, Nat.le_refl _, at4, Nat.le_refl _, by simp [maxLen], by simp, by simp⟩⟩
    obtain ⟨a5, k5, c5, w8, hr5, rfl, ho5, hg5, _⟩ := append_in (P := Tryd.prog) (ty := 33) ty33 rfl ty30 (by decide) own4 (a := a) (m := V.length) (c := c) (news := vflat V) (vflat_length V) (fun h => by
      obtain ⟨b, o, e, hc⟩ := hV h
      refine ⟨b, o, e, ?_⟩
      have hne : vflat V ≠ [] := fun e' => by have := vflat_length V; rw [e'] at this; simp at this; omega
      obtain ⟨u, us, e2⟩ := List.exists_cons_of_ne_nil hne
      exact cellsAt_below hb4 (by rw [e2] at hc; exact cellsAt_lt hc) hc) (vflat_one V) (by dsimp only; omega) (by omega) (by omega)
    rw [List.nil_append, Nat.zero_add] at ho5
    refine ⟨_, _, _, w8, by rw [Nat.zero_add] at hr5; exact hr5, a5, c5, rfl, hb4.trans (own_grown own4 hg5 (Nat.le_refl _) (by omega)), ho5⟩

end Go.Proofs.YtfenhbjamohdgaaDoor.Vf
end

/- part H2N -/
section
namespace Go.Proofs.YtfenhbjamohdgaaDoor.Vf
open Go.Vx Go.Vx.Hp Go.RowKit

theorem vflat_at {w : World} {g o : Nat} {V : List Val} (h : cellsAt w g o (vflat V)) {j : Nat} (hj : j < V.length) : cellsAt w g (o + j * 2) V[j].cs := by
  have h1 := cellsAt_take 2 (cellsAt_drop (j * 2) h)
  have e : ((vflat V).drop (j * 2)).take 2 = V[j].cs := by
    clear h h1
    induction V generalizing j with
    | nil => simp at hj
    | cons x r ih =>
      cases j with
      | zero => simp [vflat, Val.cs]
      | succ j =>
        have := ih (j := j) (by simpa using hj)
        rw [List.getElem_cons_succ, ← this]
        simp only [vflat, List.flatMap_cons]
        rw [show (j + 1) * 2 = x.cs.length + j * 2 by simp [Val.cs]; omega, List.drop_append]
        simp [List.drop_of_length_le]
  rw [e] at h1; exact h1

theorem map92 : Tryd.prog.underlying 92 = some (.map 3 4) := by kernel_rfl

/-- the last value dropped -/
theorem own_drop {w : World} {base g n c : Nat} {t : List Val} {x : Val} (h : w.ownsRow base 30 2 (.slice (some ⟨g, 0, none⟩) n c) n (vflat (t ++ [x]))) : w.ownsRow base 30 2 (.slice (cutA (some ⟨g, 0, none⟩) 0 c 2) t.length c) t.length (vflat t) := by
  obtain ⟨hxl, ⟨h1, _⟩ | ⟨g', cap, cur, e, hg, hh, h1, h2, h3, h4⟩⟩ := h
  · cases h1
  · cases e
    have hl := vflat_length (t ++ [x])
    rw [List.length_append, List.length_singleton] at hl
    have hn : n = t.length + 1 := by omega
    have ea : cutA (some ⟨g, 0, none⟩) 0 c 2 = some (⟨g, 0, none⟩ : Addr) := by
      unfold cutA; split
      · rfl
      · simp [Addr.add]
    rw [ea]
    refine ⟨vflat_length t, .inr ⟨g, c, cur, rfl, hg, hh, by omega, h2, h3, ?_⟩⟩
    have e2 : (cur.toList.take (n * 2)).take (t.length * 2) = vflat t := by
      rw [h4, vflat, List.flatMap_append]
      show (vflat t ++ _).take _ = _
      rw [List.take_left' (vflat_length t)]
    rw [List.take_take, Nat.min_eq_left (by omega)] at e2
    exact e2

variable {hp : Nat} {w : World} {S : List St} {most : Int} {v : Value}

theorem Reach_bad (h : Is hp w S most v) (E1 : Value) (h1 : w.cell? ⟨1, 0, none⟩ = some E1) (hlow : 2 < hp) (a : Option Addr) (c : Nat) (V : List Val) (hV : Vsl w a V) (hl : V.length ≤ 1048576) (hg : V.all (good S) = false) :
    Calls Tryd.prog 15 #[.pointer (some ⟨hp, 0, none⟩), .slice a V.length c] w fun e w' => e = .returned (.tuple #[.int .i64 0, E1]) ∧ Below w.heap.size w w' := by
  refine (Vg.Reach.calls (R := fun x w' => x = .tuple #[.int .i64 0, E1] ∧ Below w.heap.size w w') ?_).mono (fun x w' ⟨v, h1, h2, h3⟩ => ⟨by rw [h1, h2], h3⟩)
  unfold Vg.Reach.W
  have hlt := lt_of_block h.blk
  refine (goods_spec h a c V hV hl).mono ?_
  rintro _ w4 ⟨rfl, hb4⟩
  rw [hg]
  exact ⟨_, rfl, ifN (fun _ => drewStep fun w7 e7 hb7 => ⟨_, cell_below (hb4.trans (hb7.mono hb4.size)) (by omega) h1, rfl, hb4.trans (hb7.mono hb4.size)⟩) (fun h => nomatch h)⟩

set_option maxHeartbeats 1000000 in
theorem Reach_ok (h : Is hp w S most v) (a : Option Addr) (c : Nat) (V : List Val) (hl : V.length ≤ 1000000) (hV : 0 < V.length → ∃ b o, a = some ⟨b, o, none⟩ ∧ cellsAt w b o (vflat V)) (hg : ∀ x ∈ V, good S x = true) :
    Calls Tryd.prog 15 #[.pointer (some ⟨hp, 0, none⟩), .slice a V.length c] w fun e w' => ∃ Z, e = .returned (.tuple #[.int .i64 (tot Z : Nat), .nilIface]) ∧ Below w.heap.size w w' ∧ Cnt S V Z [] := by
  refine (Vg.Reach.calls (R := fun x w' => ∃ Z, x = .tuple #[.int .i64 (tot Z : Nat), .nilIface] ∧ Below w.heap.size w w' ∧ Cnt S V Z []) ?_).mono (fun x w' ⟨v, h1, Z, h2, h3⟩ => ⟨Z, by rw [h1, h2], h3⟩)
  unfold Vg.Reach.W
  have hlt := lt_of_block h.blk
  have hVs : Vsl w a V := fun j hj => by
    obtain ⟨b, o, e, hc⟩ := hV (by omega)
    exact ⟨b, o, e, vflat_at hc hj⟩
  have hall : V.all (good S) = true := List.all_eq_true.2 hg
  refine (goods_spec h a c V hVs (by omega)).mono ?_
  rintro _ w4 ⟨rfl, hb4⟩
  rw [hall]
  refine ⟨_, rfl, ifN (fun h => nomatch h) (fun _ => ?_)⟩
  have s4 := hb4.size
  refine box fun w9 at9 hb9 hs9 => ?_
  have b9 : Below w.heap.size w w9 := hb4.trans (hb9.mono s4)
  refine (Clone_spec w9 a c V hl fun hpos => ?_).mono ?_
  · obtain ⟨b, o, e, hc⟩ := hV hpos
    have hne : vflat V ≠ [] := fun e' => by have := vflat_length V; rw [e'] at this; simp at this; omega
    obtain ⟨u, us, e2⟩ := List.exists_cons_of_ne_nil hne
    exact ⟨b, o, e, cellsAt_below b9 (by rw [e2] at hc; exact cellsAt_lt hc) hc⟩
  rintro _ w10 ⟨a12, c14, rfl, hb10, own10⟩
  have b10 : Below w.heap.size w w10 := b9.trans (hb10.mono (by omega))
  have s10 := hb10.size
  have at10 := block_below hb10 (by omega) at9
  refine ⟨_, _, _, rfl, fun us w2 => ∃ (Z : Mov) (todo : List Val) (a' : Option Addr) (c' : Nat), us = [.int .i64 (tot Z : Nat), .slice a' todo.length c'] ∧ Cnt S V Z todo ∧ w2.ownsRow w9.heap.size 30 2 (.slice a' todo.length c') todo.length (vflat todo) ∧
      IMap w2 w4.heap.size (Z.map fun x => (x.1 : Int)) ∧ Below w.heap.size w w2 ∧ w9.heap.size ≤ w2.heap.size ∧ todo.length ≤ 1000000 + 8 * tot Z,
    fun us _ => match us with | [.int _ z, .slice _ n _] => (used S - z.toNat) * 2 + n | _ => 0, ⟨[], V, a12, c14, rfl, .start hg, own10, ⟨#[], 0, at10, rfl⟩, b10, by omega, by simp [tot]; omega⟩, ?_⟩
  rintro _ us w17 ⟨Z, todo, a21, c23, rfl, hcnt, own17, map17, b17, s17, hlen⟩
  have hfit := h.fits
  have hm1 := h.most1
  have hZ := hcnt.mv.tot_le h.nd
  refine ⟨_, _, _, _, rfl, ifD (fun hpos => ?_) (fun hz => ?_)⟩
  · obtain ⟨t, x, rfl⟩ : ∃ t x, todo = t ++ [x] := by
      rcases List.eq_nil_or_concat todo with e | ⟨t, x, e⟩
      · subst e; simp at hpos
      · exact ⟨t, x, by rw [e]; simp⟩
    have hlt1 : (t ++ [x]).length = t.length + 1 := by simp
    obtain ⟨a', c', e', hcell⟩ := own_vals own17 rfl
    cases e'
    obtain ⟨g, rfl, hg0, hg1, hc⟩ := hcell t.length (by omega)
    have ew : IntKind.i64.wrap (((t ++ [x]).length : Int) - 1) = (t.length : Int) := by rw [hlt1, w64 (by omega) (by omega)]; omega
    rw [ew]
    have ex : (t ++ [x])[t.length]'(by omega) = x := by simp
    rw [ex] at hc
    have own17' := own_drop own17
    have hcap : t.length ≤ c23 := by obtain ⟨_, _, e, h1, _⟩ := own_slice own17; cases e; omega
    refine ⟨g, 0, rfl, by omega, by omega, x.ref, x.n, (by simpa [Val.cs] using hc), copyStep rfl rfl fun w29 at29 hb29 hs29 => ?_⟩
    have h29 := (h.below b17).below hb29
    have b29 : Below w.heap.size w w29 := b17.trans (hb29.mono b17.size)
    have own29 := own_below own17' hb29 (Nat.le_refl _)
    have map29 : IMap w29 w4.heap.size (Z.map fun x => (x.1 : Int)) := by
      obtain ⟨es, ck, hb, he⟩ := map17
      exact ⟨es, ck, block_below hb29 (by omega) hb, he⟩
    have tn : ((t.length : Nat) : Int).toNat = t.length := by simp
    rw [tn]
    have back : ∀ (w' : World) (P : Prop), Below w17.heap.size w17 w' → (Cnt S V Z t) → True := fun _ _ _ _ => trivial
    have skip : (x.ref = true → (pos Z x.n.toNat).isSome = true) → (∃ (Z' : Mov) (todo : List Val) (a' : Option Addr) (c' : Nat), [Value.int .i64 (tot Z : Nat), .slice (cutA (some ⟨g, 0, none⟩) 0 c23 2) t.length c23] = [.int .i64 (tot Z' : Nat), .slice a' todo.length c'] ∧ Cnt S V Z' todo ∧ w29.ownsRow w9.heap.size 30 2 (.slice a' todo.length c') todo.length (vflat todo) ∧
      IMap w29 w4.heap.size (Z'.map fun x => (x.1 : Int)) ∧ Below w.heap.size w w29 ∧ w9.heap.size ≤ w29.heap.size ∧ todo.length ≤ 1000000 + 8 * tot Z') := fun hx =>
      ⟨Z, t, _, _, rfl, hcnt.skip hx, own29, map29, b29, by omega, by omega⟩
    refine ⟨by omega, by omega, _, cell_of_block at29 rfl, ifN (fun hr => ⟨skip fun k => absurd (k.symm.trans hr) (by decide), by simp only [hlt1]; omega⟩) (fun hr => ?_)⟩
    have xgood : good S x = true := hcnt.good x (by simp)
    have xgood' : good S ⟨true, x.n⟩ = true := by have e : x = ⟨true, x.n⟩ := by cases x; simp at hr; simp [hr]
                                                  rw [← e]; exact xgood
    have hx0 : 0 ≤ x.n := by
      simp only [good, Bool.not_true, Bool.false_or, Bool.and_eq_true, decide_eq_true_eq] at xgood'
      exact xgood'.1
    have hmem : decide (x.n ∈ Z.map fun x => (x.1 : Int)) = (pos Z x.n.toNat).isSome := by
      rw [Bool.eq_iff_iff, decide_eq_true_iff, pos_mem]
      constructor
      · intro hm
        obtain ⟨y, hy, e⟩ := List.mem_map.1 hm
        exact ⟨y.2, by have : x.n.toNat = y.1 := by omega
                       rw [this]; exact hy⟩
      · rintro ⟨s, hs⟩
        exact List.mem_map.2 ⟨_, hs, by simp only; omega⟩
    refine ⟨_, cell_of_block at29 rfl, _, lookup_int map92 (zero4 _) Tryd.underlying3 map29, ?_⟩
    rw [hmem]
    refine ifB (fun hin => ⟨skip fun _ => hin, by simp only [hlt1]; omega⟩) (fun hnew => ?_)
    have hpn : pos Z x.n.toNat = none := by cases hp' : pos Z x.n.toNat with | none => rfl | some q => rw [hp'] at hnew; cases hnew
    have hnm : x.n ∉ Z.map fun x => (x.1 : Int) := by rw [hnew] at hmem; exact of_decide_eq_false hmem
    obtain ⟨w34, hr34, map34, hs34, same34, chg34⟩ := update_int (P := Tryd.prog) map92 Tryd.underlying3 map29 hnm
    refine ⟨_, cell_of_block at29 rfl, w34, hr34, drewStep fun w35 e35 hb35 => ?_⟩
    have b34 : Below w.heap.size w w34 := b29.trans (chg34.below (B := w.heap.size) (by omega) fun k hk e => by omega)
    have b35 : Below w.heap.size w w35 := b34.trans (hb35.mono b34.size)
    have h35 := h.below b35
    have at35 : w35.heap[w17.heap.size]? = _ := (congrArg (fun h => h[w17.heap.size]?) e35).trans ((same34 _ (by omega)).trans at29)
    obtain ⟨s, g', c', hs, hm, h0, hle, ev, hc', hh⟩ := is_at h35 xgood'
    have own35 : w35.ownsRow w9.heap.size 30 2 (.slice (cutA (some ⟨g, 0, none⟩) 0 c23 2) t.length c23) t.length (vflat t) := by
      refine own_block own29 fun k hk => (congrArg (fun h => h[k]?) e35).trans (same34 k ?_)
      have := own29.lt k hk; omega
    have map35 : IMap w35 w4.heap.size (Z.map (fun x => (x.1 : Int)) ++ [x.n]) := by
      obtain ⟨es, ck, hb, he⟩ := map34
      exact ⟨es, ck, (congrArg (fun h => h[w4.heap.size]?) e35).trans hb, he⟩
    have spos := s.size_pos
    subst ev
    refine ⟨_, _, rfl, _, _, _, cell_of_block h35.blk rfl, _, cell_of_block at35 rfl, g', 0, rfl, h0, by omega, _, hc', _, _, rfl, _, cell_of_block hh rfl, _, cell_of_block at35 rfl, ?_⟩
    refine (hargs_spec h35 x.n s xgood' hs).mono ?_
    rintro _ w49 ⟨a51, c53, rfl, e49, hb49, hargs⟩
    have s35 : w35.heap.size = w34.heap.size := by rw [e35]
    have s49 : w49.heap.size = w35.heap.size := by rw [e49]
    have own49 : w49.ownsRow w9.heap.size 30 2 (.slice (cutA (some ⟨g, 0, none⟩) 0 c23 2) t.length c23) t.length (vflat t) := own_block own35 fun k _ => by rw [e49]
    have map49 : w49.heap[w4.heap.size]? = w35.heap[w4.heap.size]? := by rw [e49]
    have b49 : Below w.heap.size w w49 := b35.trans (hb49.mono b35.size)
    have sok := h.ok s hm
    have h8 : s.args.length ≤ 8 := sok.2.2.1
    have hpush := hcnt.push h.cl hr hs hpn
    have htot : tot (Z ++ [(x.n.toNat, s)]) = tot Z + s.size := by rw [tot_append]; simp [tot]
    have hZ' := hpush.mv.tot_le h.nd
    have hsz : s.size = 1 + s.args.length := rfl
    refine ⟨_, _, _, rfl, fun us w2 => ∃ (j : Nat) (a' : Option Addr) (c' : Nat), j ≤ s.args.length ∧ us = [.slice a' (t.length + j) c', .int .i64 j] ∧ w2.ownsRow w9.heap.size 30 2 (.slice a' (t.length + j) c') (t.length + j) (vflat (t ++ s.args.take j)) ∧ w2.heap[w4.heap.size]? = w35.heap[w4.heap.size]? ∧
        Chg (fun k => w9.heap.size ≤ k) w49 w2,
      fun us _ => match us with | [_, .int _ j] => s.args.length - j.toNat | _ => 0, ⟨0, _, c23, Nat.zero_le _, rfl, by simpa using own49, map49, Chg.refl _ _⟩, ?_⟩
    rintro _ us w56 ⟨j, a59, c61, hj, rfl, own56, map56, chg56⟩
    have s56 := chg56.size
    refine ⟨_, _, _, _, rfl, ifD (fun hlt' => ?_) (fun hge => ?_)⟩
    · have hjl : j < s.args.length := by omega
      obtain ⟨g2, rfl, hgo, hcell2⟩ := hargs (by omega)
      have hgg : g2 < w.heap.size := by
        have h3 := h.own
        obtain ⟨a0, c0, e0, _⟩ := h.slice
        have hlt3 := (h35.own.lt g2 hgo.symm).2
        have := h.own.lt
        have h4 := h35.own
        have : g2 < w.heap.size := (h.own.lt g2 hgo.symm).2
        exact this
      have hc2 := hcell2 j hjl
      have hc56 := cellsAt_same (chg56.block g2 (by omega) (by omega)) hc2
      refine ⟨g2, _, rfl, by omega, hlt', _, _, _, hc56, copyStep rfl rfl fun w69 at69 hb69 hs69 => ?_⟩
      refine ⟨_, _, cellsAt_of_block at69 [.bool s.args[j].ref, .int .i64 s.args[j].n] 0 rfl, box fun w72 at72 hb72 hs72 => ?_⟩
      have b72 : Below w56.heap.size w56 w72 := hb69.trans (hb72.mono (by omega))
      have own72 := own_below own56 b72 (Nat.le_refl _)
      have hbase : w9.heap.size ≤ w72.heap.size := by omega
      obtain ⟨a73, k73, c75, w76, hr76, rfl, own76, hg76, hn76⟩ := append_own (P := Tryd.prog) (ty := 33) Vg.ty33 rfl Vg.ty30 (by decide) own72 (m := 1) (c := 1) (news := [.bool s.args[j].ref, .int .i64 s.args[j].n]) rfl (cellsAt_of_block at72 [.bool s.args[j].ref, .int .i64 s.args[j].n] 0 rfl) rfl (by dsimp only; omega) (by omega) hbase
      refine ⟨_, _, _, w76, hr76, ?_⟩
      rw [w64 (x := (j : Int) + 1) (by omega) (by omega)]
      refine ⟨⟨j + 1, a73, c75, hjl, rfl, ?_, ?_, ?_⟩, by simp only; omega⟩
      · rw [List.take_succ_eq_append_getElem hjl, ← List.append_assoc, vflat, List.flatMap_append]
        exact own76
      · exact (hg76.block _ (by omega) (fun e => by have := (own72.lt _ e.symm).1; omega)).trans ((b72.block _ (by omega)).trans map56)
      · exact (chg56.trans (Chg.of_below (M := fun _ => False) b72 fun k hk _ => hk) fun k _ hk => hk.elim).trans (Chg.of_grown hg76) fun k _ hk => (own72.lt k hk.symm).1
    · have : j = s.args.length := by omega
      subst this
      rw [List.take_length] at own56
      have el : t.length + s.args.length = (t ++ s.args).length := by simp
      have hwr : IntKind.i64.wrap ((tot Z : Nat) + (s.size : Nat) : Int) = ((tot (Z ++ [(x.n.toNat, s)]) : Nat) : Int) := by rw [htot, w64 (by omega) (by omega)]; omega
      rw [hwr]
      refine ⟨⟨Z ++ [(x.n.toNat, s)], t ++ s.args, a59, c61, by rw [el], hpush, by rw [← el]; exact own56, ?_, ?_, by omega, by rw [htot, ← el]; rw [hlt1] at hlen; omega⟩, ?_⟩
      · obtain ⟨es, ck, hb, he⟩ := map35
        refine ⟨es, ck, map56.trans hb, ?_⟩
        rw [he, List.map_append]
        simp [Int.toNat_of_nonneg hx0]
      · exact b49.trans (chg56.below (B := w.heap.size) (by omega) fun k hk e => by omega)
      · simp only [hlt1]
        rw [htot] at hZ' ⊢
        simp only [Int.toNat_natCast]
        omega
  · have e : todo = [] := List.eq_nil_of_length_eq_zero (by omega)
    subst e
    exact ⟨Z, rfl, b17, hcnt⟩

end Go.Proofs.YtfenhbjamohdgaaDoor.Vf
end
