/- Clone of a row of values. -/
import Derived.Test.YtfenhbjamohdgaaDoorH2L
import Derived.Test.YtfenhbjamohdgaaDoorH2I
import Derived.Test.YtfenhbjamohdgaaDoorVxP
import Derived.Test.YtfenhbjamohdgaaDoorH1K
namespace Go.Proofs.YtfenhbjamohdgaaDoor.Vf
open Go.Vx Go.Vx.Hp Go.RowKit

theorem vflat_length (V : List Val) : (vflat V).length = V.length * 2 := by
  induction V with
  | nil => rfl
  | cons x r ih => show (x.cs ++ vflat r).length = _; rw [List.length_append, ih]; simp [Val.cs]; omega
theorem vflat_one (V : List Val) : ((vflat V).all fun v => v.oneCell') = true := by
  induction V with
  | nil => rfl
  | cons x r ih => show ((x.cs ++ vflat r).all _) = true; rw [List.all_append, ih]; rfl

theorem Clone_spec (w : World) (a : Option Addr) (c : Nat) (V : List Val) (hl : V.length ≤ 1000000) (hV : 0 < V.length → ∃ b o, a = some ⟨b, o, none⟩ ∧ cellsAt w b o (vflat V)) :
    Calls Tryd.prog 28 #[.slice a V.length c] w fun e w' => ∃ a' c', e = .returned (.slice a' V.length c') ∧ Below w.heap.size w w' ∧ w'.ownsRow w.heap.size 30 2 (.slice a' V.length c') V.length (vflat V) := by
  refine (Vg.Clone.calls (R := fun x w' => ∃ a' c', x = .slice a' V.length c' ∧ Below w.heap.size w w' ∧ w'.ownsRow w.heap.size 30 2 (.slice a' V.length c') V.length (vflat V)) ?_).mono (fun x w' ⟨v, h1, a', c', h2, h3⟩ => ⟨a', c', by rw [h1, h2], h3⟩)
  unfold Vg.Clone.W
  refine ifB (fun hn => ?_) (fun _ => ?_)
  · have : V.length = 0 := by
      rcases Nat.eq_zero_or_pos V.length with h | h
      · exact h
      · obtain ⟨b, o, rfl, _⟩ := hV h
        cases hn
    have e : V = [] := List.eq_nil_of_length_eq_zero this
    subst e
    exact ⟨none, 0, rfl, Below.refl _ _, World.ownsRow_nil _ _ _ _⟩
  · refine box fun w4 at4 hb4 hs4 => ?_
    have own4 : w4.ownsRow w.heap.size 30 2 (.slice (some ⟨w.heap.size, 0, none⟩) 0 0) 0 [] := ⟨by simp, .inr ⟨w.heap.size, 0, _, rfl, Nat.le_refl _, at4, Nat.le_refl _, by simp [maxLen], by simp, by simp⟩⟩
    obtain ⟨a5, k5, c5, w8, hr5, rfl, ho5, hg5, _⟩ := append_in (P := Tryd.prog) (ty := 33) ty33 rfl ty30 (by decide) own4 (a := a) (m := V.length) (c := c) (news := vflat V) (vflat_length V) (fun h => by
      obtain ⟨b, o, e, hc⟩ := hV h
      refine ⟨b, o, e, ?_⟩
      have hne : vflat V ≠ [] := fun e' => by have := vflat_length V; rw [e'] at this; simp at this; omega
      obtain ⟨u, us, e2⟩ := List.exists_cons_of_ne_nil hne
      exact cellsAt_below hb4 (by rw [e2] at hc; exact cellsAt_lt hc) hc) (vflat_one V) (by dsimp only; omega) (by omega) (by omega)
    rw [List.nil_append, Nat.zero_add] at ho5
    refine ⟨_, _, _, w8, by rw [Nat.zero_add] at hr5; exact hr5, a5, c5, rfl, hb4.trans (own_grown own4 hg5 (Nat.le_refl _) (by omega)), ho5⟩

end Go.Proofs.YtfenhbjamohdgaaDoor.Vf
