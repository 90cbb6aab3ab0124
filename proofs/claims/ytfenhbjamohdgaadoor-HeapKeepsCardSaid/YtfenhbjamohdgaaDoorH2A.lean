/- Collection, in plain Lean: what is moved, and where to. -/
import Derived.Test.YtfenhbjamohdgaaDoorH1A
namespace Go.Vx.Hp

/-- what has been moved, in order: old place and structure -/
abbrev Mov := List (Nat × St)
def tot : Mov → Nat
  | [] => 0
  | x :: r => x.2.size + tot r
/-- where an old place lies now -/
def pos : Mov → Nat → Option Nat
  | [], _ => none
  | x :: r, p => if x.1 = p then some 0 else (pos r p).map (x.2.size + ·)
def markOf (M : Mov) (p : Nat) : Int := match pos M p with | some q => (q : Int) + 1 | none => 0
def raw (M : Mov) : List Cell := M.flatMap fun x => x.2.cells
def fwd (M : Mov) (v : Val) : Val := if v.ref then ⟨true, ((pos M v.n.toNat).getD 0 : Nat)⟩ else v
def fwdC (M : Mov) (c : Cell) : Cell := match c.head with | some _ => c | none => ⟨fwd M c.val, none⟩
def moved (M : Mov) : List St := M.map fun x => { x.2 with args := x.2.args.map (fwd M) }
/-- a value that points into what was moved -/
def In (M : Mov) (v : Val) : Prop := v.ref = true → (pos M v.n.toNat).isSome = true

theorem tot_append (M N : Mov) : tot (M ++ N) = tot M + tot N := by
  induction M with
  | nil => simp [tot]
  | cons x r ih => simp only [List.cons_append, tot, ih]; omega
theorem raw_length (M : Mov) : (raw M).length = tot M := by
  induction M with
  | nil => rfl
  | cons x r ih => simp only [raw, List.flatMap_cons, List.length_append, tot, St.cells_length] at ih ⊢; omega
theorem raw_append (M N : Mov) : raw (M ++ N) = raw M ++ raw N := by simp [raw]
theorem pos_append_left {M N : Mov} {p q : Nat} (h : pos M p = some q) : pos (M ++ N) p = some q := by
  induction M generalizing q with
  | nil => cases h
  | cons x r ih =>
    simp only [List.cons_append, pos] at h ⊢
    split at h
    · rename_i e; rw [if_pos e]; exact h
    · rename_i e
      rw [if_neg e]
      obtain ⟨q', h1, h2⟩ := Option.map_eq_some_iff.1 h
      rw [ih h1]; simp [h2]
theorem pos_new {M : Mov} {p : Nat} {s : St} (h : pos M p = none) : pos (M ++ [(p, s)]) p = some (tot M) := by
  induction M with
  | nil => simp [pos, tot]
  | cons x r ih =>
    simp only [List.cons_append, pos] at h ⊢
    split at h
    · cases h
    · rename_i e
      rw [if_neg e, ih (by simpa using h)]
      simp [tot]
theorem pos_other {M : Mov} {p p' : Nat} {s : St} (h : p' ≠ p) : pos (M ++ [(p, s)]) p' = pos M p' := by
  induction M with
  | nil => simp [pos, Ne.symm h]
  | cons x r ih => simp only [List.cons_append, pos, ih]
theorem pos_mem {M : Mov} {p : Nat} : (pos M p).isSome = true ↔ ∃ s, (p, s) ∈ M := by
  induction M with
  | nil => simp [pos]
  | cons x r ih =>
    simp only [pos]
    split
    · rename_i e
      exact ⟨fun _ => ⟨x.2, by rw [← e]; exact List.mem_cons_self⟩, fun _ => rfl⟩
    · rename_i e
      rw [Option.isSome_map, ih]
      constructor
      · rintro ⟨s, h⟩; exact ⟨s, List.mem_cons_of_mem _ h⟩
      · rintro ⟨s, h⟩
        rcases List.mem_cons.1 h with h | h
        · exact absurd (by rw [← h]) e
        · exact ⟨s, h⟩
theorem pos_lt {M : Mov} {p q : Nat} (h : pos M p = some q) : q < tot M := by
  induction M generalizing q with
  | nil => cases h
  | cons x r ih =>
    have := x.2.size_pos
    simp only [pos] at h
    simp only [tot]
    split at h
    · cases h; omega
    · obtain ⟨q', h1, h2⟩ := Option.map_eq_some_iff.1 h
      have := ih h1
      omega
theorem markOf_zero {M : Mov} {p : Nat} : markOf M p = 0 ↔ pos M p = none := by
  unfold markOf
  cases pos M p with
  | none => simp
  | some q => simp; omega

theorem fwd_append {M N : Mov} {v : Val} (h : In M v) : fwd (M ++ N) v = fwd M v := by
  unfold fwd
  split
  · rename_i hr
    obtain ⟨q, hq⟩ := Option.isSome_iff_exists.1 (h hr)
    rw [hq, pos_append_left hq]
  · rfl
theorem In.append {M N : Mov} {v : Val} (h : In M v) : In (M ++ N) v := fun hr => by
  obtain ⟨q, hq⟩ := Option.isSome_iff_exists.1 (h hr)
  rw [pos_append_left hq]; rfl

/-- where a moved structure's cells lie -/
theorem raw_at {M : Mov} {p q : Nat} (h : pos M p = some q) : ∃ s, (p, s) ∈ M ∧ ((raw M).drop q).take s.size = s.cells := by
  induction M generalizing q with
  | nil => cases h
  | cons x r ih =>
    simp only [pos] at h
    have e : raw (x :: r) = x.2.cells ++ raw r := by simp [raw]
    split at h
    · rename_i hx
      cases h
      refine ⟨x.2, by rw [← hx]; exact List.mem_cons_self, ?_⟩
      rw [e, List.drop_zero, ← x.2.cells_length, List.take_left]
    · obtain ⟨q', h1, rfl⟩ := Option.map_eq_some_iff.1 h
      obtain ⟨s, h2, h3⟩ := ih h1
      refine ⟨s, List.mem_cons_of_mem _ h2, ?_⟩
      rw [e, ← x.2.cells_length, List.drop_append, List.drop_of_length_le (by omega), List.nil_append, Nat.add_sub_cancel_left]
      exact h3

theorem cells_moved (M : Mov) : cells (moved M) = (raw M).map (fwdC M) := by
  have key : ∀ (N : Mov), cells (N.map fun x => { x.2 with args := x.2.args.map (fwd M) }) = (raw N).map (fwdC M) := by
    intro N
    induction N with
    | nil => rfl
    | cons x r ih =>
      have e1 : raw (x :: r) = x.2.cells ++ raw r := by simp [raw]
      have e2 : cells (({ x.2 with args := x.2.args.map (fwd M) } : St) :: (r.map fun x => { x.2 with args := x.2.args.map (fwd M) })) = ({ x.2 with args := x.2.args.map (fwd M) } : St).cells ++ cells (r.map fun x => { x.2 with args := x.2.args.map (fwd M) }) := by simp [cells]
      rw [List.map_cons, e2, e1, List.map_append, ih]
      congr 1
      simp [St.cells, fwdC]
  exact key M
theorem used_moved (M : Mov) : used (moved M) = tot M := by
  rw [used, cells_moved, List.length_map, raw_length]

/-- a structure's cells lie together -/
theorem cells_seg {S : List St} : ∀ {p : Nat} {s : St}, find S p = some s → ((cells S).drop p).take s.size = s.cells := by
  induction S with
  | nil => intro p s h; cases h
  | cons t r ih =>
    intro p s h
    have e : cells (t :: r) = t.cells ++ cells r := by simp [cells]
    have hl := t.cells_length
    simp only [find] at h
    split at h
    · rename_i h0; subst h0; cases h
      rw [e, List.drop_zero, ← hl, List.take_left]
    · split at h
      · cases h
      · rw [e, List.drop_append, List.drop_of_length_le (by omega), List.nil_append, hl]
        exact ih h

/-- distinct places are distinct structures -/
theorem find_inj {S : List St} (hnd : (S.map St.blk).Nodup) : ∀ {p q : Nat} {s t : St}, find S p = some s → find S q = some t → s.blk = t.blk → p = q := by
  induction S with
  | nil => intro p q s t h; cases h
  | cons x r ih =>
    intro p q s t h1 h2 e
    rw [List.map_cons, List.nodup_cons] at hnd
    have hx : ∀ {k : Nat} {u : St}, find r k = some u → u.blk ≠ x.blk := fun hk e' => hnd.1 (e' ▸ List.mem_map.2 ⟨_, find_mem hk, rfl⟩)
    simp only [find] at h1 h2
    split at h1
    · cases h1
      split at h2
      · omega
      · split at h2
        · cases h2
        · exact absurd e.symm (hx h2)
    · split at h1
      · cases h1
      · split at h2
        · cases h2; exact absurd e (hx h1)
        · split at h2
          · cases h2
          · have := ih hnd.2 h1 h2 e
            omega

theorem used_sum_le : ∀ (S L : List St), (L.map St.blk).Nodup → (∀ s ∈ L, s ∈ S) → used L ≤ used S := by
  intro S
  induction S with
  | nil =>
    intro L _ h
    cases L with
    | nil => exact Nat.le_refl _
    | cons x r => exact absurd (h x List.mem_cons_self) (by simp)
  | cons t r ih =>
    intro L hnd h
    by_cases ht : t ∈ L
    · obtain ⟨L1, L2, rfl⟩ := List.append_of_mem ht
      rw [List.map_append, List.map_cons, List.nodup_append, List.nodup_cons] at hnd
      obtain ⟨n1, ⟨n2, n3⟩, n4⟩ := hnd
      have h2 := ih (L1 ++ L2) (by
        rw [List.map_append, List.nodup_append]
        exact ⟨n1, n3, fun a ha b hb => n4 a ha b (List.mem_cons_of_mem _ hb)⟩) (fun s hs => by
          rcases List.mem_append.1 hs with hs | hs
          · rcases List.mem_cons.1 (h s (List.mem_append_left _ hs)) with e | e
            · exact absurd (by rw [e]) (n4 s.blk (List.mem_map.2 ⟨s, hs, rfl⟩) t.blk List.mem_cons_self)
            · exact e
          · rcases List.mem_cons.1 (h s (List.mem_append_right _ (List.mem_cons_of_mem _ hs))) with e | e
            · exact absurd (List.mem_map.2 ⟨s, hs, by rw [e]⟩) n2
            · exact e)
      rw [used_append] at h2 ⊢
      rw [used_cons, used_cons]; omega
    · have h2 := ih L hnd fun s hs => by
        rcases List.mem_cons.1 (h s hs) with e | e
        · exact absurd (e ▸ hs) ht
        · exact e
      rw [used_cons]; omega

/-- a list of moves out of S -/
structure Moves (S : List St) (M : Mov) : Prop where
  of : ∀ x ∈ M, find S x.1 = some x.2
  nd : (M.map (·.1)).Nodup
theorem Moves.blks {S : List St} {M : Mov} (h : Moves S M) (hnd : (S.map St.blk).Nodup) : ((moved M).map St.blk).Nodup := by
  have e : (moved M).map St.blk = M.map fun x => x.2.blk := by simp [moved]
  rw [e]
  have h1 := h.of
  have h2 := h.nd
  clear e h
  induction M with
  | nil => exact List.nodup_nil
  | cons x r ih =>
    rw [List.map_cons, List.nodup_cons] at h2 ⊢
    refine ⟨fun hm => ?_, ih (fun y hy => h1 y (List.mem_cons_of_mem _ hy)) h2.2⟩
    obtain ⟨y, hy, e⟩ := List.mem_map.1 hm
    have := find_inj hnd (h1 y (List.mem_cons_of_mem _ hy)) (h1 x List.mem_cons_self) e
    exact h2.1 (List.mem_map.2 ⟨y, hy, this⟩)
theorem Moves.tot_le {S : List St} {M : Mov} (h : Moves S M) (hnd : (S.map St.blk).Nodup) : tot M ≤ used S := by
  have e : tot M = used (M.map (·.2)) := by
    clear h
    induction M with
    | nil => rfl
    | cons x r ih => rw [List.map_cons, used_cons, tot, ih]
  rw [e]
  refine used_sum_le S _ ?_ fun s hs => ?_
  · have e2 : (M.map (·.2)).map St.blk = (moved M).map St.blk := by simp [moved, Function.comp_def]
    rw [e2]; exact h.blks hnd
  · obtain ⟨x, hx, rfl⟩ := List.mem_map.1 hs
    exact find_mem (h.of x hx)
theorem Moves.new {S : List St} {M : Mov} (h : Moves S M) {p : Nat} {s : St} (hs : find S p = some s) (hp : pos M p = none) : Moves S (M ++ [(p, s)]) := by
  refine ⟨fun x hx => ?_, ?_⟩
  · rcases List.mem_append.1 hx with hx | hx
    · exact h.of x hx
    · rw [List.mem_singleton] at hx; subst hx; exact hs
  · rw [List.map_append, List.nodup_append]
    refine ⟨h.nd, by simp, fun a ha b hb e => ?_⟩
    obtain ⟨x, hx, rfl⟩ := List.mem_map.1 ha
    have hb' : b = p := by simpa using hb
    subst hb'
    have := pos_mem.2 ⟨x.2, show (b, x.2) ∈ M by rw [← e]; exact hx⟩
    rw [hp] at this; cases this

end Go.Vx.Hp
