/- What is reached, counted: plain Lean. -/
import Derived.Test.YtfenhbjamohdgaaDoorH2C
namespace Go.Vx.Hp
open Go.RowKit

theorem tot_used (M : Mov) : tot M = used (M.map (·.2)) := by
  induction M with
  | nil => rfl
  | cons x r ih => rw [List.map_cons, used_cons, tot, ih]
theorem Moves.blk2 {S : List St} {M : Mov} (h : Moves S M) (hnd : (S.map St.blk).Nodup) : ((M.map (·.2)).map St.blk).Nodup := by
  have e2 : (M.map (·.2)).map St.blk = (moved M).map St.blk := by simp [moved, Function.comp_def]
  rw [e2]; exact h.blks hnd
theorem tot_le_of {S : List St} (hnd : (S.map St.blk).Nodup) {M Z : Mov} (hM : Moves S M) (hZ : Moves S Z) (h : ∀ x ∈ M, ∃ s, (x.1, s) ∈ Z) : tot M ≤ tot Z := by
  rw [tot_used, tot_used]
  refine used_sum_le _ _ (hM.blk2 hnd) fun s hs => ?_
  obtain ⟨x, hx, rfl⟩ := List.mem_map.1 hs
  obtain ⟨t, ht⟩ := h x hx
  have h1 := hM.of x hx
  have h2 := hZ.of _ ht
  simp only at h2
  rw [h1] at h2; cases h2
  exact List.mem_map.2 ⟨_, ht, rfl⟩

/-- the state of the count: Z is counted, todo is still to be seen -/
structure Cnt (S : List St) (rs : List Val) (Z : Mov) (todo : List Val) : Prop where
  mv : Moves S Z
  rch : ∀ x ∈ Z, Rch S rs x.1
  trch : ∀ v ∈ todo, v.ref = true → Rch S rs v.n.toNat
  good : ∀ v ∈ todo, good S v = true
  roots : ∀ v ∈ rs, v.ref = true → (pos Z v.n.toNat).isSome = true ∨ v ∈ todo
  args : ∀ x ∈ Z, ∀ a ∈ x.2.args, a.ref = true → (pos Z a.n.toNat).isSome = true ∨ a ∈ todo

theorem Cnt.start {S : List St} {rs : List Val} (hg : ∀ v ∈ rs, Hp.good S v = true) : Cnt S rs [] rs :=
  ⟨⟨fun x hx => (by cases hx), List.nodup_nil⟩, fun x hx => (by cases hx), fun v hv hr => .root v hv hr, hg, fun v hv _ => .inr hv, fun x hx => (by cases hx)⟩

/-- at the end all that is reached has been counted -/
theorem Cnt.all {S : List St} {rs : List Val} {Z : Mov} (h : Cnt S rs Z []) : ∀ p, Rch S rs p → ∃ s, (p, s) ∈ Z := by
  intro p hp
  induction hp with
  | root v hv hr => rcases h.roots v hv hr with k | k; exact pos_mem.1 k; cases k
  | step p s a _ hs ha hr ih =>
    obtain ⟨t, ht⟩ := ih
    have h2 := h.mv.of _ ht
    simp only at h2
    rw [hs] at h2; cases h2
    rcases h.args _ ht a ha hr with k | k
    · exact pos_mem.1 k
    · cases k

theorem Cnt.skip {S : List St} {rs : List Val} {Z : Mov} {t : List Val} {v : Val} (h : Cnt S rs Z (t ++ [v])) (hv : v.ref = true → (pos Z v.n.toNat).isSome = true) : Cnt S rs Z t := by
  have key : ∀ a : Val, a.ref = true → ((pos Z a.n.toNat).isSome = true ∨ a ∈ t ++ [v]) → (pos Z a.n.toNat).isSome = true ∨ a ∈ t := fun a hr k => by
    rcases k with k | k
    · exact .inl k
    · rcases List.mem_append.1 k with k | k
      · exact .inr k
      · rw [List.mem_singleton] at k; subst k; exact .inl (hv hr)
  exact ⟨h.mv, h.rch, fun a ha => h.trch a (List.mem_append_left _ ha), fun a ha => h.good a (List.mem_append_left _ ha), fun a ha hr => key a hr (h.roots a ha hr), fun x hx a ha hr => key a hr (h.args x hx a ha hr)⟩

theorem Cnt.push {S : List St} {rs : List Val} {Z : Mov} {t : List Val} {v : Val} (hcl : ∀ s ∈ S, s.args.all (Hp.good S) = true) (h : Cnt S rs Z (t ++ [v])) (hr : v.ref = true) {s : St} (hs : find S v.n.toNat = some s) (hp : pos Z v.n.toNat = none) : Cnt S rs (Z ++ [(v.n.toNat, s)]) (t ++ s.args) := by
  have hrv := h.trch v (by simp) hr
  have key : ∀ a : Val, ((pos Z a.n.toNat).isSome = true ∨ a ∈ t ++ [v]) → (pos (Z ++ [(v.n.toNat, s)]) a.n.toNat).isSome = true ∨ a ∈ t ++ s.args := fun a k => by
    rcases k with k | k
    · obtain ⟨q, hq⟩ := Option.isSome_iff_exists.1 k
      exact .inl (by rw [pos_append_left hq]; rfl)
    · rcases List.mem_append.1 k with k | k
      · exact .inr (List.mem_append_left _ k)
      · rw [List.mem_singleton] at k; subst k; exact .inl (by rw [pos_new hp]; rfl)
  refine ⟨h.mv.new hs hp, fun x hx => ?_, fun a ha har => ?_, fun a ha => ?_, fun a ha har => key a (h.roots a ha har), fun x hx a ha har => ?_⟩
  · rcases List.mem_append.1 hx with hx | hx
    · exact h.rch x hx
    · rw [List.mem_singleton] at hx; subst hx; exact hrv
  · rcases List.mem_append.1 ha with ha | ha
    · exact h.trch a (List.mem_append_left _ ha) har
    · exact .step _ s a hrv hs ha har
  · rcases List.mem_append.1 ha with ha | ha
    · exact h.good a (List.mem_append_left _ ha)
    · exact List.all_eq_true.1 (hcl s (find_mem hs)) a ha
  · rcases List.mem_append.1 hx with hx | hx
    · exact key a (h.args x hx a ha har)
    · rw [List.mem_singleton] at hx; subst hx; exact .inr (List.mem_append_right _ ha)

end Go.Vx.Hp
