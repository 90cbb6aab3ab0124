/- Worlds that change in few blocks; variables written. -/
import Derived.Test.YtfenhbjamohdgaaDoorVxM
namespace Go.Vx
open Go.RowKit

theorem cellsAt_same {w w' : World} {b : Nat} (h : w'.heap[b]? = w.heap[b]?) {o : Nat} {vs : List Value} (hc : cellsAt w b o vs) : cellsAt w' b o vs :=
  cellsAt_mono (fun o => by simp only [World.cell?, h]) hc
theorem cell_same {w w' : World} {b o : Nat} (h : w'.heap[b]? = w.heap[b]?) {v : Value} (hc : w.cell? ⟨b, o, none⟩ = some v) : w'.cell? ⟨b, o, none⟩ = some v := by
  simp only [World.cell?, h] at hc ⊢; exact hc
theorem lt_of_block {w : World} {b : Nat} {o : Obj} (h : w.heap[b]? = some o) : b < w.heap.size := by
  rcases Nat.lt_or_ge b w.heap.size with h1 | h1
  · exact h1
  · rw [Array.getElem?_eq_none h1] at h; cases h

/-- blocks outside M stay -/
structure Chg (M : Nat → Prop) (w w' : World) : Prop where
  os : w'.os = w.os
  tape : w'.tape = w.tape
  output : w'.output = w.output
  size : w.heap.size ≤ w'.heap.size
  block : ∀ k, k < w.heap.size → ¬ M k → w'.heap[k]? = w.heap[k]?

theorem Chg.refl (M : Nat → Prop) (w : World) : Chg M w w := ⟨rfl, rfl, rfl, Nat.le_refl _, fun _ _ _ => rfl⟩
theorem Chg.trans {M M' : Nat → Prop} {w w1 w2 : World} (h : Chg M w w1) (h' : Chg M' w1 w2) (hM : ∀ k, k < w.heap.size → M' k → M k) : Chg M w w2 :=
  ⟨h'.os.trans h.os, h'.tape.trans h.tape, h'.output.trans h.output, Nat.le_trans h.size h'.size, fun k hk hn => (h'.block k (by have := h.size; omega) (fun h2 => hn (hM k hk h2))).trans (h.block k hk hn)⟩
theorem Chg.mono {M M' : Nat → Prop} {w w1 : World} (h : Chg M w w1) (hM : ∀ k, M k → M' k) : Chg M' w w1 :=
  ⟨h.os, h.tape, h.output, h.size, fun k hk hn => h.block k hk (fun h2 => hn (hM k h2))⟩
theorem Chg.of_below {M : Nat → Prop} {B : Nat} {w w1 : World} (h : Below B w w1) (hB : ∀ k, k < w.heap.size → ¬ M k → k < B) : Chg M w w1 :=
  ⟨h.os, h.tape, h.output, h.size, fun k hk hn => h.block k (hB k hk hn)⟩
theorem Chg.below {M : Nat → Prop} {B : Nat} {w w1 : World} (h : Chg M w w1) (hB : B ≤ w.heap.size) (hM : ∀ k, k < B → ¬ M k) : Below B w w1 :=
  ⟨h.os, h.tape, h.output, h.size, fun k hk => h.block k (by omega) (hM k hk)⟩
theorem Chg.of_grown {w w1 : World} {r : Option Nat} (h : w.grownBy w1 r) : Chg (fun k => some k = r) w w1 := ⟨h.os, h.tape, h.output, h.size, h.block⟩

/-- cells of a variable written -/
theorem setStep {w : World} {b o : Nat} {cs : Array Value} {t : TypeId} {vs : List Value} {G : World → Prop} (h : w.heap[b]? = some (.cells cs t (0, 0))) (hl : o + vs.length ≤ cs.size) (h1 : (vs.all fun v => v.oneCell') = true)
    (hG : ∀ w', w'.heap[b]? = some (.cells (setAt cs.toList o vs).toArray t (0, 0)) → (∀ k, k ≠ b → w'.heap[k]? = w.heap[k]?) → w'.heap.size = w.heap.size → Chg (fun k => k = b) w w' → G w') :
    canSt w b o vs ∧ withW (setL w b o vs) G := by
  obtain ⟨g1, g2⟩ := setL_block vs o w cs h
  obtain ⟨e1, e2, e3⟩ := setL_streams (b := b) vs o w
  exact ⟨canSt_of_block h vs o hl h1, hG _ g1 g2 (setL_size b vs o w) ⟨e1, e2, e3, Nat.le_of_eq (setL_size b vs o w).symm, fun k _ hne => g2 k hne⟩⟩

/-- a whole variable written -/
theorem fillStep {w : World} {b : Nat} {cs : Array Value} {t : TypeId} {vs : List Value} {G : World → Prop} (h : w.heap[b]? = some (.cells cs t (0, 0))) (hl : cs.toList.length = vs.length) (h1 : (vs.all fun v => v.oneCell') = true)
    (hG : ∀ w', w'.heap[b]? = some (.cells vs.toArray t (0, 0)) → (∀ k, k ≠ b → w'.heap[k]? = w.heap[k]?) → w'.heap.size = w.heap.size → Chg (fun k => k = b) w w' → G w') :
    canSt w b 0 vs ∧ withW (setL w b 0 vs) G := by
  refine setStep h (by rw [← Array.length_toList, hl]; omega) h1 fun w' g1 g2 g3 g4 => hG w' ?_ g2 g3 g4
  have := setAt_all vs [] cs.toList hl
  simp only [List.nil_append, List.length_nil] at this
  rw [g1, this]

theorem cellsAt_drop {w : World} {b : Nat} : ∀ {vs : List Value} {o : Nat} (n : Nat), cellsAt w b o vs → cellsAt w b (o + n) (vs.drop n)
  | _, _, 0, h => by simpa using h
  | [], _, _ + 1, _ => by simp [cellsAt]
  | _ :: _, o, n + 1, h => by
    have := cellsAt_drop n h.2
    rw [show o + (n + 1) = o + 1 + n by omega]; simpa using this
theorem cellsAt_take {w : World} {b : Nat} : ∀ {vs : List Value} {o : Nat} (n : Nat), cellsAt w b o vs → cellsAt w b o (vs.take n)
  | _, _, 0, _ => by simp [cellsAt]
  | [], _, _ + 1, _ => by simp [cellsAt]
  | _ :: _, _, n + 1, h => ⟨h.1, cellsAt_take n h.2⟩
end Go.Vx
