/- What a collection leaves is all reached: plain Lean. -/
import Derived.Test.YtfenhbjamohdgaaDoorH2L
import Derived.Test.YtfenhbjamohdgaaDoorH2G
namespace Go.Vx.Hp
open Go.RowKit

theorem reached_in {S : List St} {rs : List Val} {M : Mov} (hm : Moves S M) (hr : ∀ v ∈ rs, In M v) (ha : ∀ x ∈ M, ∀ a ∈ x.2.args, In M a) : ∀ p, Rch S rs p → ∃ s, (p, s) ∈ M := by
  intro p hp
  induction hp with
  | root v hv hr' => exact pos_mem.1 (hr v hv hr')
  | step p s a _ hs ha' hr' ih =>
    obtain ⟨t, ht⟩ := ih
    have h2 := hm.of _ ht
    simp only at h2
    rw [hs] at h2; cases h2
    exact pos_mem.1 (ha _ ht a ha' hr')

/-- all of it is reached, and all that is reached is in Z: Z is as large as all of it -/
theorem tot_full {S : List St} {rs : List Val} {Z : Mov} (hnd : (S.map St.blk).Nodup) (hall : ∀ q s, find S q = some s → Rch S rs q) (hZ : Moves S Z) (hin : ∀ p, Rch S rs p → ∃ s, (p, s) ∈ Z) : tot Z = used S := by
  apply Nat.le_antisymm (hZ.tot_le hnd)
  rw [tot_used]
  refine used_sum_le _ _ hnd fun s hs => ?_
  obtain ⟨p, hp⟩ := find_of_mem hs
  obtain ⟨t, ht⟩ := hin p (hall p s hp)
  have h2 := hZ.of _ ht
  simp only at h2
  rw [hp] at h2; cases h2
  exact List.mem_map.2 ⟨_, ht, rfl⟩

theorem rch_moved {S : List St} {rs : List Val} {M : Mov} (hm : Moves S M) (hr : ∀ v ∈ rs, In M v) (ha : ∀ x ∈ M, ∀ a ∈ x.2.args, In M a) : ∀ p, Rch S rs p → ∀ q, pos M p = some q → Rch (moved M) (rs.map (fwd M)) q := by
  intro p hp
  have key : ∀ a : Val, a.ref = true → ∀ q, pos M a.n.toNat = some q → (fwd M a).ref = true ∧ (fwd M a).n.toNat = q := fun a har q hq => by
    simp [fwd, har, hq]
  induction hp with
  | root v hv hr' =>
    intro q hq
    obtain ⟨h1, h2⟩ := key v hr' q hq
    rw [← h2]
    exact .root _ (List.mem_map.2 ⟨v, hv, rfl⟩) h1
  | step p s a hp' hs ha' hr' ih =>
    intro q hq
    obtain ⟨t, ht⟩ := reached_in hm hr ha p hp'
    obtain ⟨q0, hq0⟩ := Option.isSome_iff_exists.1 (pos_mem.2 ⟨t, ht⟩)
    obtain ⟨s', hs', hf⟩ := find_moved hq0
    have h2 := hm.of _ hs'
    simp only at h2
    rw [hs] at h2; cases h2
    obtain ⟨h1, h3⟩ := key a hr' q hq
    rw [← h3]
    exact .step _ _ _ (ih q0 hq0) hf (List.mem_map.2 ⟨a, ha', rfl⟩) h1

theorem all_reached {S : List St} {rs : List Val} {M : Mov} (hm : Moves S M) (hr : ∀ v ∈ rs, In M v) (ha : ∀ x ∈ M, ∀ a ∈ x.2.args, In M a) (hrch : ∀ y ∈ M, Rch S rs y.1) : ∀ q s, find (moved M) q = some s → Rch (moved M) (rs.map (fwd M)) q := by
  intro q s hq
  obtain ⟨p, s0, h1, h2, _⟩ := find_moved_inv hm hq
  exact rch_moved hm hr ha p (hrch _ h1) q h2

theorem tot_same {S : List St} {rs : List Val} {M Z : Mov} (hnd : (S.map St.blk).Nodup) (hm : Moves S M) (hr : ∀ v ∈ rs, In M v) (ha : ∀ x ∈ M, ∀ a ∈ x.2.args, In M a) (hrch : ∀ y ∈ M, Rch S rs y.1) (hZ : Cnt S rs Z []) : tot M = tot Z := by
  apply Nat.le_antisymm
  · exact tot_le_of hnd hm hZ.mv fun x hx => hZ.all _ (hrch x hx)
  · exact tot_le_of hnd hZ.mv hm fun x hx => reached_in hm hr ha _ (hZ.rch x hx)

end Go.Vx.Hp
