/- Collection: what is reached; the scan; the result is a heap. -/
import Derived.Test.YtfenhbjamohdgaaDoorH2A
namespace Go.Vx.Hp
open Go.RowKit

/-- what is reached from values -/
inductive Rch (S : List St) (rs : List Val) : Nat → Prop
  | root (v : Val) (hv : v ∈ rs) (hr : v.ref = true) : Rch S rs v.n.toNat
  | step (p : Nat) (s : St) (a : Val) (h : Rch S rs p) (hs : find S p = some s) (ha : a ∈ s.args) (hr : a.ref = true) : Rch S rs a.n.toNat

theorem find_moved_aux (g : Val → Val) : ∀ (N : Mov) {p q : Nat}, pos N p = some q → ∃ s, (p, s) ∈ N ∧ find (N.map fun x => { x.2 with args := x.2.args.map g }) q = some { s with args := s.args.map g } := by
  intro N
  induction N with
  | nil => intro p q h; cases h
  | cons x r ih =>
    intro p q h
    have hsz : ({ x.2 with args := x.2.args.map g } : St).size = x.2.size := by simp [St.size]
    have hpos := x.2.size_pos
    simp only [pos] at h
    rw [List.map_cons]
    simp only [find]
    split at h
    · rename_i e
      cases h
      exact ⟨x.2, by rw [← e]; exact List.mem_cons_self, by rw [if_pos rfl]⟩
    · obtain ⟨q', h1, rfl⟩ := Option.map_eq_some_iff.1 h
      obtain ⟨s, h2, h3⟩ := ih h1
      refine ⟨s, List.mem_cons_of_mem _ h2, ?_⟩
      rw [if_neg (by omega), hsz, if_neg (by omega), Nat.add_sub_cancel_left]
      exact h3
theorem find_moved {M : Mov} {p q : Nat} (h : pos M p = some q) : ∃ s, (p, s) ∈ M ∧ find (moved M) q = some { s with args := s.args.map (fwd M) } := find_moved_aux (fwd M) M h

theorem good_fwd {M : Mov} {v : Val} (h : In M v) : good (moved M) (fwd M v) = true := by
  unfold fwd good
  cases hr : v.ref with
  | false => simp [hr]
  | true =>
    obtain ⟨q, hq⟩ := Option.isSome_iff_exists.1 (h hr)
    obtain ⟨s, _, hs⟩ := find_moved hq
    simp [hq, hs]

/-- the state of the scan: k cells are done -/
structure Scan (S : List St) (rs : List Val) (M : Mov) (X : List Cell) (k : Nat) : Prop where
  eq : X = ((raw M).take k).map (fwdC M) ++ (raw M).drop k
  le : k ≤ tot M
  inn : ∀ c ∈ (raw M).take k, c.head = none → In M c.val
  roots : ∀ v ∈ rs, In M v
  rch : ∀ x ∈ M, Rch S rs x.1
  mv : Moves S M

theorem raw_mem {M : Mov} {c : Cell} (h : c ∈ raw M) : (∃ x ∈ M, c.head = some x.2.blk ∧ c.val = ⟨false, 0⟩) ∨ ∃ x ∈ M, c.head = none ∧ c.val ∈ x.2.args := by
  obtain ⟨x, hx, hc⟩ := List.mem_flatMap.1 h
  simp only [St.cells, List.mem_cons, List.mem_map] at hc
  rcases hc with rfl | ⟨v, hv, rfl⟩
  · exact .inl ⟨x, hx, rfl, rfl⟩
  · exact .inr ⟨x, hx, rfl, hv⟩

theorem Scan.get {S : List St} {rs : List Val} {M : Mov} {X : List Cell} {k : Nat} (h : Scan S rs M X k) (hk : k < tot M) : ∃ (h1 : k < X.length) (h2 : k < (raw M).length), X[k] = (raw M)[k] := by
  have h2 : k < (raw M).length := by rw [raw_length]; exact hk
  have hl : (((raw M).take k).map (fwdC M)).length = k := by rw [List.length_map, List.length_take]; omega
  have h1 : k < X.length := by rw [h.eq, List.length_append, hl, List.length_drop]; omega
  refine ⟨h1, h2, ?_⟩
  have := h.eq
  subst this
  rw [List.getElem_append_right (by omega)]
  simp only [hl, List.getElem_drop]
  congr 1; omega

/-- a head: nothing to do -/
theorem Scan.head {S : List St} {rs : List Val} {M : Mov} {X : List Cell} {k : Nat} (h : Scan S rs M X k) (hk : k < tot M) {b : Nat} (hh : ((raw M)[k]'(by rw [raw_length]; exact hk)).head = some b) : Scan S rs M X (k + 1) := by
  have h2 : k < (raw M).length := by rw [raw_length]; exact hk
  have ht : (raw M).take (k + 1) = (raw M).take k ++ [(raw M)[k]] := by rw [List.take_succ_eq_append_getElem h2]
  refine ⟨?_, hk, fun c hc hn => ?_, h.roots, h.rch, h.mv⟩
  · rw [h.eq, ht, List.map_append, List.drop_eq_getElem_cons h2, List.append_assoc]
    congr 1
    simp [fwdC, hh]
  · rw [ht] at hc
    rcases List.mem_append.1 hc with hc | hc
    · exact h.inn c hc hn
    · rw [List.mem_singleton] at hc; subst hc; rw [hh] at hn; cases hn

/-- more is moved: behind what is there -/
theorem Scan.more {S : List St} {rs : List Val} {M : Mov} {X : List Cell} {k : Nat} (h : Scan S rs M X k) {p : Nat} {s : St} (hs : find S p = some s) (hp : pos M p = none) (hr : Rch S rs p) : Scan S rs (M ++ [(p, s)]) (X ++ s.cells) k := by
  have hl : k ≤ (raw M).length := by rw [raw_length]; exact h.le
  have er : raw (M ++ [(p, s)]) = raw M ++ s.cells := by rw [raw_append]; simp [raw]
  have ht : (raw (M ++ [(p, s)])).take k = (raw M).take k := by rw [er, List.take_append_of_le_length hl]
  refine ⟨?_, by rw [tot_append]; have := h.le; omega, fun c hc hn => ?_, fun v hv => (h.roots v hv).append, fun x hx => ?_, h.mv.new hs hp⟩
  · rw [ht, er, List.drop_append_of_le_length hl, h.eq, List.append_assoc]
    congr 1
    refine List.map_congr_left fun c hc => ?_
    cases hh : c.head with
    | some b => simp [fwdC, hh]
    | none => simp only [fwdC, hh]; rw [fwd_append (h.inn c hc hh)]
  · rw [ht] at hc; exact (h.inn c hc hn).append
  · rcases List.mem_append.1 hx with hx | hx
    · exact h.rch x hx
    · rw [List.mem_singleton] at hx; subst hx; exact hr

/-- an argument: forwarded -/
theorem Scan.arg {S : List St} {rs : List Val} {M : Mov} {X : List Cell} {k : Nat} (h : Scan S rs M X k) (hk : k < tot M) (hh : ((raw M)[k]'(by rw [raw_length]; exact hk)).head = none) (hin : In M ((raw M)[k]'(by rw [raw_length]; exact hk)).val) :
    Scan S rs M (X.set k ⟨fwd M ((raw M)[k]'(by rw [raw_length]; exact hk)).val, none⟩) (k + 1) := by
  have h2 : k < (raw M).length := by rw [raw_length]; exact hk
  have ht : (raw M).take (k + 1) = (raw M).take k ++ [(raw M)[k]] := by rw [List.take_succ_eq_append_getElem h2]
  have hl : (((raw M).take k).map (fwdC M)).length = k := by rw [List.length_map, List.length_take]; omega
  refine ⟨?_, hk, fun c hc hn => ?_, h.roots, h.rch, h.mv⟩
  · rw [h.eq, ht, List.map_append, List.drop_eq_getElem_cons h2, List.append_assoc, List.set_append_right _ _ (by omega), hl, Nat.sub_self, List.set_cons_zero]
    congr 1
    simp [fwdC, hh]
  · rw [ht] at hc
    rcases List.mem_append.1 hc with hc | hc
    · exact h.inn c hc hn
    · rw [List.mem_singleton] at hc; subst hc; exact hin

/-- at the end: the cells are those of a heap -/
theorem Scan.done {S : List St} {rs : List Val} {M : Mov} {X : List Cell} (h : Scan S rs M X (tot M)) : X = cells (moved M) ∧ ∀ x ∈ M, ∀ a ∈ x.2.args, In M a := by
  have hl : (raw M).length = tot M := raw_length M
  refine ⟨?_, fun x hx a ha => ?_⟩
  · rw [h.eq, cells_moved, List.take_of_length_le (by omega), List.drop_of_length_le (by omega), List.append_nil]
  · have hm : (⟨a, none⟩ : Cell) ∈ (raw M).take (tot M) := by
      rw [List.take_of_length_le (by omega)]
      exact List.mem_flatMap.2 ⟨x, hx, by simp only [St.cells, List.mem_cons, List.mem_map]; exact .inr ⟨a, ha, rfl⟩⟩
    exact h.inn _ hm rfl

theorem Scan.start {S : List St} {rs : List Val} {M : Mov} (hroots : ∀ v ∈ rs, In M v) (hrch : ∀ x ∈ M, Rch S rs x.1) (hm : Moves S M) : Scan S rs M (raw M) 0 :=
  ⟨by simp, Nat.zero_le _, fun c hc => by simp at hc, hroots, hrch, hm⟩

end Go.Vx.Hp
