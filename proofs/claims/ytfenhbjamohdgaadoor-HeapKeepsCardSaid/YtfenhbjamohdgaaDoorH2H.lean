/- Lists in the heap, in plain Lean. -/
import Derived.Test.YtfenhbjamohdgaaDoorH2G
namespace Go.Vx.Hp
open Go.RowKit

/-- the value is the list k-1, .., 0 -/
inductive Lst (S : List St) : Val → Nat → Prop
  | nil (p : Nat) (s : St) (hs : find S p = some s) (h1 : s.ctor = 0) (h2 : s.args = []) (h3 : s.nodes = 1) (h4 : s.depth = 1) : Lst S ⟨true, (p : Nat)⟩ 0
  | cons (p : Nat) (s : St) (k : Nat) (v : Val) (hs : find S p = some s) (h1 : s.ctor = 1) (h2 : s.args = [⟨false, (k : Nat)⟩, v]) (h3 : s.nodes = 2 * k + 3) (h4 : s.depth = k + 2) (h : Lst S v k) : Lst S ⟨true, (p : Nat)⟩ (k + 1)

theorem Lst.append {S T : List St} {v : Val} {k : Nat} (h : Lst S v k) : Lst (S ++ T) v k := by
  have key : ∀ {p : Nat} {s : St}, find S p = some s → find (S ++ T) p = some s := fun {p s} hs => by
    rw [find_append_left (by have := find_lt hs; have := s.size_pos; omega)]; exact hs
  induction h with
  | nil p s hs h1 h2 h3 h4 => exact .nil p s (key hs) h1 h2 h3 h4
  | cons p s k v hs h1 h2 h3 h4 _ ih => exact .cons p s k v (key hs) h1 h2 h3 h4 ih

theorem Lst.at {S : List St} {v : Val} {k : Nat} (h : Lst S v k) : v.ref = true ∧ good S v = true ∧ nodesOf S v = 2 * k + 1 ∧ depthOf S v = k + 1 := by
  cases h with
  | nil p s hs h1 h2 h3 h4 => simp [good, nodesOf, depthOf, hs, h3, h4]
  | cons p s k v hs h1 h2 h3 h4 _ => simp [good, nodesOf, depthOf, hs, h3, h4]; omega

theorem Lst.moved {S : List St} {M : Mov} (hm : Moves S M) (hargs : ∀ x ∈ M, ∀ a ∈ x.2.args, In M a) {v : Val} {k : Nat} (h : Lst S v k) (hin : In M v) : Lst (moved M) (fwd M v) k := by
  induction h with
  | nil p s hs h1 h2 h3 h4 =>
    obtain ⟨q, hq⟩ := Option.isSome_iff_exists.1 (hin rfl)
    simp only [Int.toNat_natCast] at hq
    obtain ⟨s', hs', hf⟩ := find_moved hq
    have := hm.of _ hs'
    simp only at this
    rw [hs] at this; cases this
    have e : fwd M ⟨true, (p : Nat)⟩ = ⟨true, (q : Nat)⟩ := by simp [fwd, hq]
    rw [e]
    exact .nil q _ hf h1 (by simp [h2]) h3 h4
  | cons p s k v hs h1 h2 h3 h4 _ ih =>
    obtain ⟨q, hq⟩ := Option.isSome_iff_exists.1 (hin rfl)
    simp only [Int.toNat_natCast] at hq
    obtain ⟨s', hs', hf⟩ := find_moved hq
    have := hm.of _ hs'
    simp only at this
    rw [hs] at this; cases this
    have e : fwd M ⟨true, (p : Nat)⟩ = ⟨true, (q : Nat)⟩ := by simp [fwd, hq]
    rw [e]
    exact .cons q _ k (fwd M v) hf h1 (by simp [h2, fwd]) h3 h4 (ih (hargs _ hs' v (by simp [h2])))

/-- the list's structures -/
theorem Lst.chain {S : List St} {v : Val} {k : Nat} (h : Lst S v k) : ∃ C : List St, used C = 3 * k + 1 ∧ (∀ s ∈ C, s.nodes ≤ 2 * k + 1 ∧ ∃ p, find S p = some s ∧ Rch S [v] p) ∧ (C.map St.nodes).Nodup ∧
    (∀ p, Rch S [v] p → ∃ s ∈ C, find S p = some s) := by
  induction h with
  | nil p s hs h1 h2 h3 h4 =>
    refine ⟨[s], by rw [used_cons, used_nil]; simp [St.size, h2], fun t ht => ?_, by simp, fun q hq => ?_⟩
    · rw [List.mem_singleton] at ht; subst ht
      refine ⟨by omega, p, hs, ?_⟩
      have := Rch.root (S := S) (rs := [⟨true, (p : Nat)⟩]) ⟨true, (p : Nat)⟩ List.mem_cons_self rfl
      simpa using this
    · have hqp : q = p := by
        induction hq with
        | root v hv hr => rw [List.mem_singleton] at hv; subst hv; simp
        | step p' s' a _ hs' ha hr ih =>
          subst ih
          rw [hs] at hs'; cases hs'
          rw [h2] at ha; cases ha
      subst hqp
      exact ⟨s, List.mem_cons_self, hs⟩
  | cons p s k v hs h1 h2 h3 h4 _ ih =>
    obtain ⟨C, c1, c2, c3, c4⟩ := ih
    have up : ∀ q, Rch S [v] q → Rch S [⟨true, (p : Nat)⟩] q := by
      intro q hq
      induction hq with
      | root u hu hr =>
        rw [List.mem_singleton] at hu; subst hu
        have := Rch.root (S := S) (rs := [⟨true, (p : Nat)⟩]) ⟨true, (p : Nat)⟩ List.mem_cons_self rfl
        simp only [Int.toNat_natCast] at this
        exact .step p s u this hs (by simp [h2]) hr
      | step p' s' a _ hs' ha hr ih => exact .step p' s' a ih hs' ha hr
    refine ⟨s :: C, by rw [used_cons, c1]; simp [St.size, h2]; omega, fun t ht => ?_, ?_, fun q hq => ?_⟩
    · rcases List.mem_cons.1 ht with rfl | ht
      · refine ⟨by omega, p, hs, ?_⟩
        have := Rch.root (S := S) (rs := [⟨true, (p : Nat)⟩]) ⟨true, (p : Nat)⟩ List.mem_cons_self rfl
        simpa using this
      · obtain ⟨k1, q, k2, k3⟩ := c2 t ht
        exact ⟨by omega, q, k2, up q k3⟩
    · rw [List.map_cons, List.nodup_cons]
      refine ⟨fun hm => ?_, c3⟩
      obtain ⟨t, ht, e⟩ := List.mem_map.1 hm
      have := (c2 t ht).1
      omega
    · have : q = p ∨ Rch S [v] q := by
        induction hq with
        | root u hu hr => rw [List.mem_singleton] at hu; subst hu; left; simp
        | step p' s' a _ hs' ha hr ih =>
          rcases ih with rfl | ih
          · rw [hs] at hs'; cases hs'
            rw [h2] at ha
            rcases List.mem_cons.1 ha with rfl | ha
            · cases hr
            · rw [List.mem_singleton] at ha; subst ha
              exact .inr (.root a List.mem_cons_self hr)
          · exact .inr (.step p' s' a ih hs' ha hr)
      rcases this with rfl | hq'
      · exact ⟨s, List.mem_cons_self, hs⟩
      · obtain ⟨t, ht, hf⟩ := c4 q hq'
        exact ⟨t, List.mem_cons_of_mem _ ht, hf⟩

theorem nodup_of_map {f : St → Int} {g : St → Nat} : ∀ {L : List St}, (L.map f).Nodup → (∀ s ∈ L, ∀ t ∈ L, g s = g t → f s = f t) → (L.map g).Nodup
  | [], _, _ => List.nodup_nil
  | x :: r, h, hg => by
    rw [List.map_cons, List.nodup_cons] at h ⊢
    refine ⟨fun hm => ?_, nodup_of_map h.2 fun s hs t ht => hg s (List.mem_cons_of_mem _ hs) t (List.mem_cons_of_mem _ ht)⟩
    obtain ⟨t, ht, e⟩ := List.mem_map.1 hm
    exact h.1 (List.mem_map.2 ⟨t, ht, hg t (List.mem_cons_of_mem _ ht) x List.mem_cons_self e⟩)

/-- what a collection of the list alone keeps -/
theorem Lst.size {S : List St} (hnd : (S.map St.blk).Nodup) {M : Mov} (hm : Moves S M) (hargs : ∀ x ∈ M, ∀ a ∈ x.2.args, In M a) {v : Val} {k : Nat} (h : Lst S v k) (hin : In M v) (hrch : ∀ y ∈ M, Rch S [v] y.1) : Hp.tot M = 3 * k + 1 := by
  obtain ⟨C, c1, c2, c3, c4⟩ := h.chain
  have et : Hp.tot M = used (M.map (·.2)) := by
    clear hm hargs hin hrch
    induction M with
    | nil => rfl
    | cons x r ih => rw [List.map_cons, used_cons, Hp.tot, ih]
  have cb : (C.map St.blk).Nodup := nodup_of_map (f := St.nodes) c3 fun s hs t ht e => by
    obtain ⟨_, p, hp, _⟩ := c2 s hs
    obtain ⟨_, q, hq, _⟩ := c2 t ht
    have := find_inj hnd hp hq e
    subst this
    rw [hp] at hq; cases hq; rfl
  have mb : ((M.map (·.2)).map St.blk).Nodup := by
    have e2 : (M.map (·.2)).map St.blk = (Hp.moved M).map St.blk := by simp [Hp.moved, Function.comp_def]
    rw [e2]; exact hm.blks hnd
  have inM : ∀ p, Rch S [v] p → ∃ s, (p, s) ∈ M := by
    intro p hp
    induction hp with
    | root u hu hr => rw [List.mem_singleton] at hu; subst hu; exact pos_mem.1 (hin hr)
    | step p' s' a _ hs' ha hr ih =>
      obtain ⟨s, hs⟩ := ih
      have := hm.of _ hs
      simp only at this
      rw [hs'] at this; cases this
      exact pos_mem.1 (hargs _ hs a ha hr)
  have u1 : used (M.map (·.2)) ≤ used C := used_sum_le C _ mb fun s hs => by
    obtain ⟨x, hx, rfl⟩ := List.mem_map.1 hs
    obtain ⟨t, ht, hf⟩ := c4 _ (hrch x hx)
    have := hm.of x hx
    rw [hf] at this; cases this; exact ht
  have u2 : used C ≤ used (M.map (·.2)) := used_sum_le _ C cb fun s hs => by
    obtain ⟨_, p, hp, hr⟩ := c2 s hs
    obtain ⟨t, ht⟩ := inM p hr
    have := hm.of _ ht
    simp only at this
    rw [hp] at this; cases this
    exact List.mem_map.2 ⟨_, ht, rfl⟩
  omega

end Go.Vx.Hp
