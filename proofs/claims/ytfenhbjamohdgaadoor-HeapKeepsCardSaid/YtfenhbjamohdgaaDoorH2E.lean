/- Collect, in general: the roots. -/
import Derived.Test.YtfenhbjamohdgaaDoorH2D
namespace Go.Vx.Hp
open Go.RowKit

theorem setAt2_ne (L : List Value) (i : Nat) (u v : Value) (o : Nat) (h1 : o ≠ i) (h2 : o ≠ i + 1) : (setAt L i [u, v])[o]? = L[o]? := by
  simp only [setAt]
  rw [List.getElem?_set_ne (Ne.symm h2), List.getElem?_set_ne (Ne.symm h1)]
theorem setAt2_at (L : List Value) (i : Nat) (u v : Value) (h : i + 2 ≤ L.length) : (setAt L i [u, v])[i]? = some u ∧ (setAt L i [u, v])[i + 1]? = some v := by
  simp only [setAt]
  constructor
  · rw [List.getElem?_set_ne (by omega), List.getElem?_set_self (by omega)]
  · rw [List.getElem?_set_self (by rw [List.length_set]; omega)]

/-- a place of a root -/
abbrev Pl := Nat × Nat
def ad (x : Pl) : Addr := ⟨x.1, x.2, none⟩
theorem ad_inj {x y : Pl} (h : ad x = ad y) : x = y := by
  obtain ⟨a, b⟩ := x; obtain ⟨c, d⟩ := y
  simp only [ad, Addr.mk.injEq] at h
  rw [h.1, h.2.1]

/-- root blocks: as they were, but for the roots' cells -/
structure RB (R : List Pl) (w0 w : World) : Prop where
  shape : ∀ x ∈ R, ∃ cs t cs', w0.heap[x.1]? = some (.cells cs t (0, 0)) ∧ w.heap[x.1]? = some (.cells cs' t (0, 0)) ∧ cs'.size = cs.size
  other : ∀ b o, (∃ x ∈ R, x.1 = b) → (∀ x ∈ R, x.1 = b → o ≠ x.2 ∧ o ≠ x.2 + 1) → w.cell? ⟨b, o, none⟩ = w0.cell? ⟨b, o, none⟩

theorem RB.refl {R : List Pl} {w : World} (h : ∀ x ∈ R, ∃ cs t, w.heap[x.1]? = some (.cells cs t (0, 0))) : RB R w w :=
  ⟨fun x hx => by obtain ⟨cs, t, e⟩ := h x hx; exact ⟨cs, t, cs, e, e, rfl⟩, fun _ _ _ _ => rfl⟩
theorem RB.same {R : List Pl} {w0 w w' : World} (h : RB R w0 w) (hb : ∀ x ∈ R, w'.heap[x.1]? = w.heap[x.1]?) : RB R w0 w' := by
  refine ⟨fun x hx => ?_, fun b o hx ho => ?_⟩
  · obtain ⟨cs, t, cs', e1, e2, e3⟩ := h.shape x hx
    exact ⟨cs, t, cs', e1, (hb x hx).trans e2, e3⟩
  · obtain ⟨x, hx', rfl⟩ := hx
    have := h.other x.1 o ⟨x, hx', rfl⟩ ho
    rw [← this]
    simp only [World.cell?, hb x hx']
theorem RB.set {R : List Pl} {w0 w w' : World} (h : RB R w0 w) {x : Pl} (hx : x ∈ R) {cs : Array Value} {t : TypeId} {u v : Value} (hc : w.heap[x.1]? = some (.cells cs t (0, 0))) (h1 : w'.heap[x.1]? = some (.cells (setAt cs.toList x.2 [u, v]).toArray t (0, 0))) (hb : ∀ k, k ≠ x.1 → w'.heap[k]? = w.heap[k]?) : RB R w0 w' := by
  refine ⟨fun y hy => ?_, fun b o hb' ho => ?_⟩
  · obtain ⟨cs0, t0, cs', e1, e2, e3⟩ := h.shape y hy
    by_cases e : y.1 = x.1
    · rw [e] at e1 e2 ⊢
      rw [hc] at e2
      simp only [Option.some.injEq, Obj.cells.injEq, and_true] at e2
      obtain ⟨rfl, rfl⟩ := e2
      exact ⟨cs0, t, _, e1, h1, by rw [List.size_toArray, setAt_length, Array.length_toList]; exact e3⟩
    · exact ⟨cs0, t0, cs', e1, (hb _ e).trans e2, e3⟩
  · rw [← h.other b o hb' ho]
    by_cases e : b = x.1
    · subst e
      obtain ⟨n1, n2⟩ := ho x hx rfl
      simp only [World.cell?, h1, hc]
      rw [List.getElem?_toArray, setAt2_ne _ _ _ _ _ n1 n2, Array.getElem?_toList]
    · simp only [World.cell?, hb b e]

theorem cellsAt_vals {w : World} {b o : Nat} {v : Val} : cellsAt w b o v.cs ↔ w.cell? ⟨b, o, none⟩ = some (.bool v.ref) ∧ w.cell? ⟨b, o + 1, none⟩ = some (.int .i64 v.n) := by
  constructor
  · intro h; exact ⟨h.1, h.2.1⟩
  · intro h; exact ⟨h.1, h.2, trivial⟩

end Go.Vx.Hp
