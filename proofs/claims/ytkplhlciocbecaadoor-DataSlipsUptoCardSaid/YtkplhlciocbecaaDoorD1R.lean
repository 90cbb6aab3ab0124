/- Data: an argument's reading, and what the listed variables hold. -/
import Derived.Test.YtkplhlciocbecaaDoorD1Q
import Derived.Test.YtkplhlciocbecaaDoorCards
import Derived.Test.YtkplhlciocbecaaDoorTie
import Derived.WalkKit
import Derived.ProofKit
import Derived.OpenShut
import Derived.ChangeOld
import Derived.Lib.SmallJoins
import Derived.Deep.Slices
import Derived.Deep.DeepHandedRow
import Derived.Deep.DeepWitnessRowRef
import Derived.Lib.LaidTab
import Derived.LaidMore
import Derived.Stop.LaidErr
import Derived.Stop.LaidTwo
namespace Go.Proofs.YtkplhlciocbecaaDoor.Vf
open Go.Vx Go.Vx.Da Go.RowKit Go.ChangeShapes Go.WideShapes Go.ChangeAt

variable {H : Type} {enc : TypeId × Value → H} {W : World} {sp : Nat → Bool} {held : Bool}

theorem cells24 : Tryd.prog.cellsOf 24 = 4 := by kernel_rfl
theorem cells3 : Tryd.prog.cellsOf 3 = 1 := by kernel_rfl
theorem cells4 : Tryd.prog.cellsOf 4 = 1 := by kernel_rfl
theorem cells9 : Tryd.prog.cellsOf 9 = 1 := by kernel_rfl
theorem cells22 : Tryd.prog.cellsOf 22 = 1 := by kernel_rfl

theorem cellsAt_of_cells {a : Addr} {n : Nat} {cs : List Value} (h : W.cells? 0 a n = some cs) (hn : 0 < n) : ∃ b o, a = ⟨b, o, none⟩ ∧ cellsAt W b o cs := by
  obtain ⟨_, hl, hc⟩ := World.cells?_some h
  obtain ⟨b, o, s⟩ := a
  have h0 := hc 0 hn
  have hs : s = none := by
    cases s with
    | none => rfl
    | some k =>
      rw [List.getElem?_eq_getElem (by omega)] at h0
      simp only [Addr.add, if_true, World.cell?] at h0
      split at h0 <;> simp at h0
  subst hs
  refine ⟨b, o, rfl, ?_⟩
  have hc' : ∀ i, i < cs.length → W.cell? ⟨b, o + i, none⟩ = cs[i]? := fun i hi => by rw [← add_none]; exact hc i (by omega)
  clear h hc h0 hl
  have key : ∀ (l : List Value) (o : Nat), (∀ i, i < l.length → W.cell? ⟨b, o + i, none⟩ = l[i]?) → cellsAt W b o l := by
    intro l
    induction l with
    | nil => intro o _; trivial
    | cons v l ih =>
      intro o h
      exact ⟨by have := h 0 (by simp); simpa using this, ih (o + 1) (fun i hi => by have := h (i + 1) (by simpa using hi); rw [show o + 1 + i = o + (i + 1) by omega]; simpa using this)⟩
  exact key cs o hc'

theorem rep_of_trod : ∀ (fuel : Nat) (cs : List Value) (x : DataW H × List MemPlace), DataW.trod enc Tryd.prog W 0 sp held fuel 24 cs = some x → ∃ d, Rep W.heap.size W d cs ∧ Wf d := by
  intro fuel
  induction fuel using Nat.strongRecOn with
  | _ fuel ih =>
  intro cs x h
  obtain ⟨xs, n, rfl, _, hl, hxs, hf⟩ := DataW.trod_struct Tryd.underlying24 h
  rw [cells24] at hl
  match cs, hl with
  | [c0, c1, c2, c3], _ =>
    have hlen : xs.length = 4 := hxs
    match xs, hlen with
    | [x0, x1, x2, x3], _ =>
      have h0 : DataW.trod enc Tryd.prog W 0 sp held n 4 (([c0, c1, c2, c3].drop 0).take (Tryd.prog.cellsOf 4)) = some x0 := hf 0 _ rfl
      have h1 : DataW.trod enc Tryd.prog W 0 sp held n 3 (([c0, c1, c2, c3].drop 1).take (Tryd.prog.cellsOf 3)) = some x1 := hf 1 _ rfl
      have h2 : DataW.trod enc Tryd.prog W 0 sp held n 9 (([c0, c1, c2, c3].drop 2).take (Tryd.prog.cellsOf 9)) = some x2 := hf 2 _ rfl
      have h3 : DataW.trod enc Tryd.prog W 0 sp held n 22 (([c0, c1, c2, c3].drop 3).take (Tryd.prog.cellsOf 22)) = some x3 := hf 3 _ rfl
      rw [cells4] at h0
      rw [cells3] at h1
      rw [cells9] at h2
      rw [cells22] at h3
      replace h0 : DataW.trod enc Tryd.prog W 0 sp held n 4 [c0] = some x0 := h0
      replace h1 : DataW.trod enc Tryd.prog W 0 sp held n 3 [c1] = some x1 := h1
      replace h2 : DataW.trod enc Tryd.prog W 0 sp held n 9 [c2] = some x2 := h2
      replace h3 : DataW.trod enc Tryd.prog W 0 sp held n 22 [c3] = some x3 := h3
      obtain ⟨b, e0, _⟩ := DataW.trod_bool Tryd.underlying4 h0
      obtain ⟨i, e1, _, hi⟩ := DataW.trod_int Tryd.underlying3 h1
      obtain ⟨s, e2, _, hs⟩ := DataW.trod_string Tryd.underlying9 h2
      simp only [List.cons.injEq, and_true] at e0 e1 e2
      subst e0 e1 e2
      have hi' := bounds_i64 hi
      rcases DataW.trod_slice Tryd.underlying22 h3 with ⟨e3, _⟩ | ⟨a, len, cap, elems, rest, k, hkn, e3, _, _, hlc, hcm, hlen2, hel, _⟩
      · simp only [List.cons.injEq, and_true] at e3
        subst e3
        exact ⟨⟨b, i, s, []⟩, .mk b i s [] none 0 (fun _ => []) (Nat.le_refl _) (fun j hj => by simp at hj) (fun j hj => by simp at hj), .mk b i s [] hi'.1 hi'.2 hs (fun j hj => by simp at hj)⟩
      · simp only [List.cons.injEq, and_true] at e3
        subst e3
        have pick : ∀ j, ∃ (d : D) (cs : List Value), j < len → ∃ b o, some a = some (⟨b, o, none⟩ : Addr) ∧ b < W.heap.size ∧ cellsAt W b (o + j * 4) cs ∧ Rep W.heap.size W d cs ∧ Wf d := by
          intro j
          by_cases hj : j < len
          · have h4 := hel j hj
            rw [cells24, List.getElem?_eq_getElem (by omega)] at h4
            obtain ⟨cs', hc', ht'⟩ := Option.bind_eq_some_iff.1 h4
            obtain ⟨d, hd, hwf⟩ := ih k (by omega) cs' _ ht'
            obtain ⟨b1, o1, ea, hca⟩ := cellsAt_of_cells hc' (by decide)
            have hblt := World.cells?_block hc' (by decide)
            have h40 := hel 0 (by omega)
            rw [cells24, List.getElem?_eq_getElem (by omega)] at h40
            obtain ⟨cs0, hc0, _⟩ := Option.bind_eq_some_iff.1 h40
            obtain ⟨b0, o0, ea0, _⟩ := cellsAt_of_cells hc0 (by decide)
            have ha : a = ⟨b0, o0, none⟩ := by simpa [Addr.add] using ea0
            subst ha
            rw [add_none] at ea hblt
            simp only [Addr.mk.injEq] at ea
            obtain ⟨rfl, rfl, _⟩ := ea
            exact ⟨d, cs', fun _ => ⟨b0, o0, rfl, hblt, hca, hd, hwf⟩⟩
          · exact ⟨⟨false, 0, ⟨#[]⟩, []⟩, [], fun h => absurd h hj⟩
        have hpick := fun j => (pick j).choose_spec
        let ds : Nat → D := fun j => (pick j).choose
        let cf : Nat → List Value := fun j => (hpick j).choose
        have hds : ∀ j, j < len → ∃ b o, some a = some (⟨b, o, none⟩ : Addr) ∧ b < W.heap.size ∧ cellsAt W b (o + j * 4) (cf j) ∧ Rep W.heap.size W (ds j) (cf j) ∧ Wf (ds j) := fun j hj => (hpick j).choose_spec hj
        have hyl : ((List.range len).map ds).length = len := by simp
        refine ⟨⟨b, i, s, (List.range len).map ds⟩, ?_, .mk b i s _ hi'.1 hi'.2 hs (fun j hj => ?_)⟩
        · have := Rep.mk (B := W.heap.size) (w := W) b i s ((List.range len).map ds) (some a) cap cf (by rw [hyl]; exact hlc) (fun j hj => ?_) (fun j hj => ?_)
          · rw [hyl] at this; exact this
          · obtain ⟨b1, o1, h5, h6, h7, _⟩ := hds j (by rw [hyl] at hj; exact hj)
            exact ⟨b1, o1, h5, h6, h7⟩
          · obtain ⟨b1, o1, _, _, _, h8, _⟩ := hds j (by rw [hyl] at hj; exact hj)
            simp only [List.getElem_map, List.getElem_range]; exact h8
        · obtain ⟨b1, o1, _, _, _, _, h9⟩ := hds j (by rw [hyl] at hj; exact hj)
          simp only [List.getElem_map, List.getElem_range]; exact h9

end Go.Proofs.YtkplhlciocbecaaDoor.Vf
