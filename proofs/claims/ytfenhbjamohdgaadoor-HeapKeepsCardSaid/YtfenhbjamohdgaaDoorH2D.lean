/- Collect. -/
import Derived.Test.YtfenhbjamohdgaaDoorH2B
import Derived.Test.YtfenhbjamohdgaaDoorH2C
import Derived.Test.YtfenhbjamohdgaaDoorVxO
namespace Go.Vx.Hp
open Go.RowKit

theorem setAt_right (A : List Value) : ∀ (vs : List Value) (B : List Value) (i : Nat), setAt (A ++ B) (A.length + i) vs = A ++ setAt B i vs
  | [], _, _ => rfl
  | v :: vs, B, i => by
    simp only [setAt]
    rw [List.set_append_right _ _ (by omega), Nat.add_sub_cancel_left, Nat.add_assoc]
    exact setAt_right A vs _ _
theorem setAt_left : ∀ (vs : List Value) (A B : List Value) (i : Nat), i + vs.length ≤ A.length → setAt (A ++ B) i vs = setAt A i vs ++ B
  | [], _, _, _, _ => rfl
  | v :: vs, A, B, i, h => by
    simp only [List.length_cons] at h
    simp only [setAt]
    rw [List.set_append_left _ _ (by omega)]
    exact setAt_left vs _ B (i + 1) (by rw [List.length_set]; omega)
theorem setAt_length : ∀ (vs : List Value) (A : List Value) (i : Nat), (setAt A i vs).length = A.length
  | [], _, _ => rfl
  | v :: vs, A, i => by simp only [setAt]; rw [setAt_length vs]; simp

theorem flat_set : ∀ (X : List Cell) (k : Nat) (h : k < X.length) (v : Val), setAt (flat X) (k * 3) [.bool v.ref, .int .i64 v.n] = flat (X.set k ⟨v, X[k].head⟩)
  | c :: r, 0, _, v => rfl
  | c :: r, k + 1, h, v => by
    have ih := flat_set r k (by simpa using h) v
    have e : flat (c :: r) = c.cs ++ flat r := rfl
    rw [e, show (k + 1) * 3 = c.cs.length + k * 3 by simp [Cell.cs]; omega, setAt_right, ih]
    rfl

/-- one cell's value written in a row of one's own -/
theorem own_set {w w1 : World} {base g n cap : Nat} {X : List Cell} {k : Nat} (hk : k < X.length) {v : Val} (h : w.ownsRow base 84 3 (.slice (some ⟨g, 0, none⟩) n cap) n (flat X)) (hX : X.length = n)
    {cur : Array Value} (hc : w.heap[g]? = some (.cells cur 84 (0, 0))) (h1 : w1.heap[g]? = some (.cells (setAt cur.toList (k * 3) [.bool v.ref, .int .i64 v.n]).toArray 84 (0, 0))) :
    w1.ownsRow base 84 3 (.slice (some ⟨g, 0, none⟩) n cap) n (flat (X.set k ⟨v, X[k].head⟩)) := by
  obtain ⟨hxl, ⟨h, _⟩ | ⟨g', cap', cur', e, hg, hh, c1, c2, c3, c4⟩⟩ := h
  · cases h
  · cases e
    rw [hc] at hh
    simp only [Option.some.injEq, Obj.cells.injEq, and_true] at hh
    subst hh
    refine ⟨by rw [flat_length, List.length_set, hX], .inr ⟨g, cap, _, rfl, hg, h1, c1, c2, by rw [List.size_toArray, setAt_length, Array.length_toList]; exact c3, ?_⟩⟩
    have e : cur.toList = flat X ++ cur.toList.drop (n * 3) := by rw [← c4, List.take_append_drop]
    have hl : (flat X).length = n * 3 := by rw [flat_length, hX]
    rw [List.toList_toArray, e, setAt_left _ _ _ _ (by simp only [List.length_cons, List.length_nil]; omega), flat_set X k hk v]
    exact List.take_left' (by rw [flat_length, List.length_set, hX])

end Go.Vx.Hp
