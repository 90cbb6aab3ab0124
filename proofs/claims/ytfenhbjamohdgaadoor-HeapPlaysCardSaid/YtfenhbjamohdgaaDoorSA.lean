/- augurlaw19.HeapPlays returns true for every input and leaves it as it was: the row and its card, the first form (conditions: the listed error variables hold what the program's text lays, as the card ties it). -/
import Derived.Test.YtfenhbjamohdgaaDoorS9
import Derived.Test.YtfenhbjamohdgaaDoorS3
import Derived.Test.YtfenhbjamohdgaaDoorCards
import Derived.Test.YtfenhbjamohdgaaDoorTie
import Derived.WalkKit
import Derived.ProofKit
import Derived.OpenShut
import Derived.ChangeOld
import Derived.Lib.SmallJoins
import Derived.Deep.Slices
import Derived.Deep.DeepHandedRow
import Derived.Deep.DeepWitnessRowRef
import Derived.Lib.LaidTab
import Derived.LaidMore
import Derived.Stop.LaidErr
import Derived.Stop.LaidTwo
import Derived.Stop.Joined
/- part H6B -/
section
namespace Go.Proofs.YtfenhbjamohdgaaDoor.Vf
open Go.Vx Go.Vx.Hp Go.RowKit Go.ChangeShapes Go.WideShapes Go.ChangeAt

theorem own : ownKnob Tryd.prog.godebug = none := by kernel_rfl
theorem laidOut : laidOutB Tryd.prog = true := by kernel_rfl
theorem gHeap : Tryd.prog.globalNamed "augur/api.ErrHeap" = some 0 := by kernel_rfl
theorem gState : Tryd.prog.globalNamed "augur/api.ErrState" = some 1 := by kernel_rfl
theorem gLarge : Tryd.prog.globalNamed "augur/api.ErrLarge" = some 2 := by kernel_rfl
theorem tHeap : (Tryd.prog.globals[0]?).map (·.type) = some 26 := by kernel_rfl
theorem tState : (Tryd.prog.globals[1]?).map (·.type) = some 26 := by kernel_rfl
theorem tLarge : (Tryd.prog.globals[2]?).map (·.type) = some 26 := by kernel_rfl
theorem cells126 : Tryd.prog.cellsOf 126 = 1 := by kernel_rfl
theorem cells9 : Tryd.prog.cellsOf 9 = 1 := by kernel_rfl
theorem cells3 : Tryd.prog.cellsOf 3 = 1 := by kernel_rfl
theorem star : "*" ++ "errors.errorString" = "*errors.errorString" := by decide
theorem row109 (u : TypeId) (h : Tryd.prog.typeName? 3 u = some "*errors.errorString") : u = 109 :=
  typeName_ptr_named (nm := "errors.errorString") (by rw [star]; kernel_rfl) (by kernel_rfl) (by decide) u (by rw [star]; exact h)
theorem hi26 : ∃ ms, Tryd.prog.underlying 26 = some (.interface ms) := ⟨_, Tryd.underlying26⟩
theorem cmp109 : (Tryd.prog.info? 109).map (·.comparable) = some true := by kernel_rfl
theorem is126 : (Tryd.prog.info? 126).isSome = true := by kernel_rfl

theorem errTy : ErrTy 109 := by
  obtain ⟨ms, h1⟩ := hi26
  obtain ⟨i, h3, h4⟩ := Option.map_eq_some_iff.1 cmp109
  obtain ⟨j, h5⟩ := Option.isSome_iff_exists.1 is126
  exact ⟨fun w xo yo a => err_same h1 Tryd.underlying109 h3 h4 h5, fun w xo yo a => err_neq h1 Tryd.underlying109 h3 h4 h5⟩

section
variable {H : Type} {enc : TypeId × Value → H} {W : World} {sp : Nat → Bool} {held : Bool}
theorem cells4 : Tryd.prog.cellsOf 4 = 1 := by kernel_rfl
theorem cells22 : Tryd.prog.cellsOf 22 = 1 := by kernel_rfl
theorem cells43 : Tryd.prog.cellsOf 43 = 1 := by kernel_rfl
theorem cells45 : Tryd.prog.cellsOf 45 = 5 := by kernel_rfl
theorem cells47 : Tryd.prog.cellsOf 47 = 2 := by kernel_rfl

theorem cellsAt_of_cells {a : Addr} {n : Nat} {cs : List Value} (h : W.cells? 0 a n = some cs) (hn : 0 < n) : ∃ b o, a = ⟨b, o, none⟩ ∧ cellsAt W b o cs := by
  obtain ⟨_, hl, hc⟩ := World.cells?_some h
  obtain ⟨b, o, s⟩ := a
  have h0 := hc 0 hn
  have hs : s = none := by
    cases s with
    | none => rfl
    | some k =>
      rw [List.getElem?_eq_getElem (by omega)] at h0
      simp only [Addr.add, if_true, World.cell?] at h0
      split at h0 <;> simp at h0
  subst hs
  refine ⟨b, o, rfl, ?_⟩
  have hc' : ∀ i, i < cs.length → W.cell? ⟨b, o + i, none⟩ = cs[i]? := fun i hi => by rw [← add_none]; exact hc i (by omega)
  clear h hc h0 hl
  have key : ∀ (l : List Value) (o : Nat), (∀ i, i < l.length → W.cell? ⟨b, o + i, none⟩ = l[i]?) → cellsAt W b o l := by
    intro l
    induction l with
    | nil => intro o _; trivial
    | cons v l ih =>
      intro o h
      exact ⟨by have := h 0 (by simp); simpa using this, ih (o + 1) (fun i hi => by have := h (i + 1) (by simpa using hi); rw [show o + 1 + i = o + (i + 1) by omega]; simpa using this)⟩
  exact key cs o hc'


end

theorem cell_of_cells1 {W : World} {a : Addr} {v : Value} (h : W.cells? 0 a 1 = some [v]) : ∃ b o, a = ⟨b, o, none⟩ ∧ W.cell? ⟨b, o, none⟩ = some v := by
  obtain ⟨_, hl, hc⟩ := World.cells?_some h
  obtain ⟨b, o, s⟩ := a
  have h0 := hc 0 (by decide)
  have hs : s = none := by
    cases s with
    | none => rfl
    | some k =>
      simp only [Addr.add, if_true, World.cell?] at h0
      split at h0 <;> simp at h0
  subst hs
  exact ⟨b, o, rfl, by simpa [Addr.add] using h0⟩

/-- a slice of ints that came in -/
theorem ints_of_trod {H : Type} {enc : TypeId × Value → H} {W : World} {sp : Nat → Bool} {held : Bool} {fuel : Nat} {cs : List Value} {x : DataW H × List MemPlace} (h : DataW.trod enc Tryd.prog W 0 sp held fuel 22 cs = some x) :
    ∃ a c L, cs = [.slice a L.length c] ∧ Isl W.heap.size W a L := by
  rcases DataW.trod_slice Tryd.underlying22 h with ⟨e3, rfl⟩ | ⟨a, len, cap, elems, rest, k, hkn, e3, rfl, _, hlc, hcm, hlen2, hel, _⟩
  · exact ⟨none, 0, [], e3, fun j hj => by simp at hj⟩
  · have pick : ∀ j, ∃ u : Int, j < len → ∃ b o, a.add j = (⟨b, o, none⟩ : Addr) ∧ b < W.heap.size ∧ W.cell? ⟨b, o, none⟩ = some (.int .i64 u) := by
      intro j
      by_cases hj : j < len
      · have h4 := hel j hj
        rw [cells3, List.getElem?_eq_getElem (by omega)] at h4
        obtain ⟨cs', hc', ht'⟩ := Option.bind_eq_some_iff.1 h4
        obtain ⟨n, rfl, _, hw⟩ := DataW.trod_int Tryd.underlying3 ht'
        obtain ⟨b1, o1, ea, hca⟩ := cell_of_cells1 hc'
        have hblt := World.cells?_block hc' (by decide)
        rw [Nat.mul_one] at ea hblt
        rw [ea] at hblt
        exact ⟨n, fun _ => ⟨b1, o1, ea, hblt, hca⟩⟩
      · exact ⟨0, fun h => absurd h hj⟩
    let u : Nat → Int := fun j => (pick j).choose
    have hu : ∀ j, j < len → ∃ b o, a.add j = (⟨b, o, none⟩ : Addr) ∧ b < W.heap.size ∧ W.cell? ⟨b, o, none⟩ = some (.int .i64 (u j)) := fun j => (pick j).choose_spec
    have hl : ((List.range len).map u).length = len := by simp
    refine ⟨some a, cap, (List.range len).map u, by rw [hl]; exact e3, fun j hj => ?_⟩
    have hj' : j < len := by omega
    obtain ⟨b0, o0, e0, hb0, hc0⟩ := hu 0 (by omega)
    have ha : a = ⟨b0, o0, none⟩ := by simpa [Addr.add] using e0
    subst ha
    obtain ⟨b1, o1, e1, hb1, hc1⟩ := hu j hj'
    rw [add_none] at e1
    cases e1
    refine ⟨b0, o0, rfl, hb0, ?_⟩
    rw [Nat.mul_one, hc1]; simp


theorem len2 {α : Type} {l : List α} (h : l.length = 2) : ∃ a b, l = [a, b] := by
  match l, h with
  | [a, b], _ => exact ⟨a, b, rfl⟩
theorem len5 {α : Type} {l : List α} (h : l.length = 5) : ∃ a b c d e, l = [a, b, c, d, e] := by
  match l, h with
  | [a, b, c, d, e], _ => exact ⟨a, b, c, d, e, rfl⟩

theorem len_of_trod {H : Type} {enc : TypeId × Value → H} {W : World} {sp : Nat → Bool} {held : Bool} {fuel : Nat} {t e : TypeId} (ht : Tryd.prog.underlying t = some (.slice e)) {a : Option Addr} {n c : Nat} {x : DataW H × List MemPlace} (h : DataW.trod enc Tryd.prog W 0 sp held fuel t [.slice a n c] = some x) : n ≤ 9223372036854775807 := by
  rcases DataW.trod_slice ht h with ⟨e3, _⟩ | ⟨a, len, cap, elems, rest, k, hkn, e3, _, _, hlc, hcm, hlen2, hel, _⟩
  · simp only [List.cons.injEq, Value.slice.injEq, and_true] at e3; omega
  · simp only [List.cons.injEq, Value.slice.injEq, and_true] at e3
    have : maxLen = 9223372036854775807 := rfl
    omega

/-- arguments of an operation that came in -/
theorem vals_of_trod {H : Type} {enc : TypeId × Value → H} {W : World} {sp : Nat → Bool} {held : Bool} {fuel : Nat} {cs : List Value} {x : DataW H × List MemPlace} (h : DataW.trod enc Tryd.prog W 0 sp held fuel 43 cs = some x) :
    ∃ a m c, cs = [.slice a m c] ∧ ∀ i, i < m → ∃ b o r z, a = some ⟨b, o, none⟩ ∧ b < W.heap.size ∧ cellsAt W b (o + i * 2) [.bool r, .int .i64 z] := by
  rcases DataW.trod_slice Tryd.underlying43 h with ⟨e3, rfl⟩ | ⟨a, len, cap, elems, rest, k, hkn, e3, rfl, _, hlc, hcm, hlen2, hel, _⟩
  · exact ⟨none, 0, 0, e3, fun j hj => by omega⟩
  · have pick : ∀ j, j < len → ∃ b o r z, a.add (j * 2) = (⟨b, o, none⟩ : Addr) ∧ b < W.heap.size ∧ cellsAt W b o [.bool r, .int .i64 z] := by
      intro j hj
      have h4 := hel j hj
      rw [cells47, List.getElem?_eq_getElem (by omega)] at h4
      obtain ⟨cs', hc', ht'⟩ := Option.bind_eq_some_iff.1 h4
      obtain ⟨xs, n, _, _, hl, hxs, hf⟩ := DataW.trod_struct Tryd.underlying47 ht'
      rw [cells47] at hl
      obtain ⟨c0, c1, rfl⟩ := len2 hl
      obtain ⟨x0, x1, rfl⟩ := len2 (show xs.length = 2 from hxs)
      have h0 : DataW.trod enc Tryd.prog W 0 sp held n 4 (([c0, c1].drop 0).take (Tryd.prog.cellsOf 4)) = some x0 := hf 0 _ rfl
      have h1 : DataW.trod enc Tryd.prog W 0 sp held n 3 (([c0, c1].drop 1).take (Tryd.prog.cellsOf 3)) = some x1 := hf 1 _ rfl
      rw [cells4] at h0
      rw [cells3] at h1
      replace h0 : DataW.trod enc Tryd.prog W 0 sp held n 4 [c0] = some x0 := h0
      replace h1 : DataW.trod enc Tryd.prog W 0 sp held n 3 [c1] = some x1 := h1
      obtain ⟨b, e0, _⟩ := DataW.trod_bool Tryd.underlying4 h0
      obtain ⟨i, e1, _, hi⟩ := DataW.trod_int Tryd.underlying3 h1
      simp only [List.cons.injEq, and_true] at e0 e1
      subst e0 e1
      obtain ⟨b1, o1, ea, hca⟩ := cellsAt_of_cells hc' (by decide)
      have hblt := World.cells?_block hc' (by decide)
      rw [ea] at hblt
      exact ⟨b1, o1, b, i, ea, hblt, hca⟩
    refine ⟨some a, len, cap, e3, fun j hj => ?_⟩
    obtain ⟨b0, o0, _, _, e0, hb0, _⟩ := pick 0 (by omega)
    have ha : a = ⟨b0, o0, none⟩ := by simpa [Addr.add] using e0
    subst ha
    obtain ⟨b1, o1, r, z, e1, hb1, hc1⟩ := pick j hj
    rw [add_none] at e1
    cases e1
    exact ⟨b0, o0, r, z, rfl, hb0, hc1⟩

/-- operations that came in -/
theorem opm_of_trod {H : Type} {enc : TypeId × Value → H} {W : World} {sp : Nat → Bool} {held : Bool} {fuel : Nat} {a : Option Addr} {len c : Nat} {x : DataW H × List MemPlace} (h : DataW.trod enc Tryd.prog W 0 sp held fuel 41 [.slice a len c] = some x) :
    ∃ X : List OpM, X.length = len ∧ (∀ x ∈ X, x.Ok W) ∧ ∀ j (h : j < X.length), ∃ b o, a = some ⟨b, o, none⟩ ∧ b < W.heap.size ∧ cellsAt W b (o + j * 5) X[j].cs := by
  rcases DataW.trod_slice Tryd.underlying41 h with ⟨e3, rfl⟩ | ⟨a', len', cap, elems, rest, k, hkn, e3, rfl, _, hlc, hcm, hlen2, hel, _⟩
  · simp only [List.cons.injEq, Value.slice.injEq, and_true] at e3
    exact ⟨[], by simp; omega, fun x hx => (by cases hx), fun j hj => by simp at hj⟩
  · simp only [List.cons.injEq, Value.slice.injEq, and_true] at e3
    obtain ⟨rfl, rfl, rfl⟩ := e3
    have pick : ∀ j, ∃ x : OpM, j < len → ∃ b o, a'.add (j * 5) = (⟨b, o, none⟩ : Addr) ∧ b < W.heap.size ∧ cellsAt W b o x.cs ∧ x.Ok W := by
      intro j
      by_cases hj : j < len
      · have h4 := hel j hj
        rw [cells45, List.getElem?_eq_getElem (by omega)] at h4
        obtain ⟨cs', hc', ht'⟩ := Option.bind_eq_some_iff.1 h4
        obtain ⟨xs, n, _, _, hl, hxs, hf⟩ := DataW.trod_struct Tryd.underlying45 ht'
        rw [cells45] at hl
        obtain ⟨c0, c1, c2, c3, c4, rfl⟩ := len5 hl
        obtain ⟨x0, x1, x2, x3, x4, rfl⟩ := len5 (show xs.length = 5 from hxs)
        have h0 : DataW.trod enc Tryd.prog W 0 sp held n 3 (([c0, c1, c2, c3, c4].drop 0).take (Tryd.prog.cellsOf 3)) = some x0 := hf 0 _ rfl
        have h1 : DataW.trod enc Tryd.prog W 0 sp held n 3 (([c0, c1, c2, c3, c4].drop 1).take (Tryd.prog.cellsOf 3)) = some x1 := hf 1 _ rfl
        have h2 : DataW.trod enc Tryd.prog W 0 sp held n 3 (([c0, c1, c2, c3, c4].drop 2).take (Tryd.prog.cellsOf 3)) = some x2 := hf 2 _ rfl
        have h3 : DataW.trod enc Tryd.prog W 0 sp held n 43 (([c0, c1, c2, c3, c4].drop 3).take (Tryd.prog.cellsOf 43)) = some x3 := hf 3 _ rfl
        have h4 : DataW.trod enc Tryd.prog W 0 sp held n 22 (([c0, c1, c2, c3, c4].drop 4).take (Tryd.prog.cellsOf 22)) = some x4 := hf 4 _ rfl
        rw [cells3] at h0 h1 h2
        rw [cells43] at h3
        rw [cells22] at h4
        replace h0 : DataW.trod enc Tryd.prog W 0 sp held n 3 [c0] = some x0 := h0
        replace h1 : DataW.trod enc Tryd.prog W 0 sp held n 3 [c1] = some x1 := h1
        replace h2 : DataW.trod enc Tryd.prog W 0 sp held n 3 [c2] = some x2 := h2
        replace h3 : DataW.trod enc Tryd.prog W 0 sp held n 43 [c3] = some x3 := h3
        replace h4 : DataW.trod enc Tryd.prog W 0 sp held n 22 [c4] = some x4 := h4
        obtain ⟨i0, e0, _, hi0⟩ := DataW.trod_int Tryd.underlying3 h0
        obtain ⟨i1, e1, _, hi1⟩ := DataW.trod_int Tryd.underlying3 h1
        obtain ⟨i2, e2, _, hi2⟩ := DataW.trod_int Tryd.underlying3 h2
        obtain ⟨a1, m1, k1, e3, hv⟩ := vals_of_trod h3
        obtain ⟨a2, k2, L2, e4, hL2⟩ := ints_of_trod h4
        simp only [List.cons.injEq, and_true] at e0 e1 e2 e3 e4
        subst e0 e1 e2 e3 e4
        have hl2 := len_of_trod Tryd.underlying22 h4
        obtain ⟨b1, o1, ea, hca⟩ := cellsAt_of_cells hc' (by decide)
        have hblt := World.cells?_block hc' (by decide)
        rw [ea] at hblt
        -- the arguments as a list
        have vp : ∀ i, ∃ p : Bool × Int, i < m1 → ∃ b' o', a1 = some ⟨b', o', none⟩ ∧ b' < W.heap.size ∧ cellsAt W b' (o' + i * 2) [.bool p.1, .int .i64 p.2] := fun i => by
          by_cases hi : i < m1
          · obtain ⟨b', o', r, z, q1, q2, q3⟩ := hv i hi
            exact ⟨(r, z), fun _ => ⟨b', o', q1, q2, q3⟩⟩
          · exact ⟨(false, 0), fun h => absurd h hi⟩
        let L1 : List (Bool × Int) := (List.range m1).map fun i => (vp i).choose
        have hL1 : L1.length = m1 := by simp [L1]
        refine ⟨⟨i0, i1, i2, L1, a1, k1, L2, a2, k2⟩, fun _ => ⟨b1, o1, ea, hblt, by simp only [OpM.cs, hL1]; exact hca, ⟨by have := (bounds_i64 hi2).2; simp only; omega, fun i hi => ?_, hL2, hl2⟩⟩⟩
        have hi' : i < m1 := by simp only at hi; omega
        have := (vp i).choose_spec hi'
        simpa [L1] using this
      · exact ⟨⟨0, 0, 0, [], none, 0, [], none, 0⟩, fun h => absurd h hj⟩
    let X : List OpM := (List.range len).map fun j => (pick j).choose
    have hXl : X.length = len := by simp [X]
    have hX : ∀ j (h : j < X.length), ∃ b o, a'.add (j * 5) = (⟨b, o, none⟩ : Addr) ∧ b < W.heap.size ∧ cellsAt W b o X[j].cs ∧ X[j].Ok W := fun j hj => by
      have := (pick j).choose_spec (by omega)
      simpa [X] using this
    refine ⟨X, hXl, fun x hx => ?_, fun j hj => ?_⟩
    · obtain ⟨j, hj, rfl⟩ := List.mem_iff_getElem.1 hx
      exact (hX j hj).choose_spec.choose_spec.2.2.2
    · obtain ⟨b0, o0, e0, hb0, _⟩ := hX 0 (by omega)
      have ha : a' = ⟨b0, o0, none⟩ := by simpa [Addr.add] using e0
      subst ha
      obtain ⟨b1, o1, e1, hb1, hr, _⟩ := hX j hj
      rw [add_none] at e1
      cases e1
      exact ⟨b0, o0, rfl, hb0, hr⟩
end Go.Proofs.YtfenhbjamohdgaaDoor.Vf
end

/- part H6C -/
section
namespace Go.Proofs.YtfenhbjamohdgaaDoor.Vf
open Go.Vx Go.Vx.Hp Go.RowKit Go.ChangeShapes Go.WideShapes Go.ChangeAt

def heapPlays_es : List (String × Nat × List UInt8) := [("augur/api.ErrText", 3, [97, 117, 103, 117, 114, 58, 32, 116, 101, 120, 116]), ("augur/api.ErrSyntax", 4, [97, 117, 103, 117, 114, 58, 32, 115, 121, 110, 116, 97, 120]), ("augur/api.ErrNest", 5, [97, 117, 103, 117, 114, 58, 32, 110, 101, 115, 116]), ("augur/api.ErrLarge", 2, [97, 117, 103, 117, 114, 58, 32, 108, 97, 114, 103, 101]), ("augur/api.ErrNames", 6, [97, 117, 103, 117, 114, 58, 32, 110, 97, 109, 101, 115]), ("augur/api.ErrTypes", 7, [97, 117, 103, 117, 114, 58, 32, 116, 121, 112, 101, 115]), ("augur/api.ErrModes", 8, [97, 117, 103, 117, 114, 58, 32, 109, 111, 100, 101, 115]), ("augur/api.ErrDet", 9, [97, 117, 103, 117, 114, 58, 32, 100, 101, 116, 101, 114, 109, 105, 110, 105, 115, 109]), ("augur/api.ErrNone", 10, [97, 117, 103, 117, 114, 58, 32, 110, 111, 110, 101]), ("augur/api.ErrData", 11, [97, 117, 103, 117, 114, 58, 32, 100, 97, 116, 97]), ("augur/api.ErrBytes", 12, [97, 117, 103, 117, 114, 58, 32, 98, 121, 116, 101, 115]), ("augur/api.ErrCode", 13, [97, 117, 103, 117, 114, 58, 32, 99, 111, 100, 101]), ("augur/api.ErrFuel", 14, [97, 117, 103, 117, 114, 58, 32, 102, 117, 101, 108]), ("augur/api.ErrHeap", 0, [97, 117, 103, 117, 114, 58, 32, 104, 101, 97, 112]), ("augur/api.ErrFrames", 15, [97, 117, 103, 117, 114, 58, 32, 102, 114, 97, 109, 101, 115]), ("augur/api.ErrState", 1, [97, 117, 103, 117, 114, 58, 32, 115, 116, 97, 116, 101])]
theorem sz126 : (Tryd.prog.info? 126).map (fun j => decide (j.size ≠ 0)) = some true := by kernel_rfl
theorem st126 : ∃ f, Tryd.prog.underlying 126 = some (.struct #[f]) ∧ f.type = 9 ∧ f.offset = 0 := ⟨_, Tryd.underlying126, rfl, rfl⟩
theorem errTab : ∃ ms f i j, Go.Av.ErrTab Vn.ax.P "*errors.errorString" 26 109 126 9 ms f i j := by
  obtain ⟨ms, h1⟩ := hi26
  obtain ⟨i, h3, h4⟩ := Option.map_eq_some_iff.1 cmp109
  obtain ⟨j, h5, h6⟩ := Option.map_eq_some_iff.1 sz126
  obtain ⟨f, h7, h8, h9⟩ := st126
  exact ⟨ms, f, i, j, h1, row109, Tryd.underlying109, h7, h8, h9, Tryd.underlying9, cells126, cells9, h3, h4, h5, of_decide_eq_true h6⟩
theorem heapPlays_errs {W : World} (h : laidMet Tryd.prog Rows.heapPlaysRow.laid W) : ∃ G, Vn.Errs W G := by
  obtain ⟨ms, f, i, j, T⟩ := errTab
  obtain ⟨G, h1, h2⟩ := Go.Av.errs_of_laid (ax := Vn.ax) T (es := heapPlays_es) (r := []) h (by
    intro e he
    simp only [heapPlays_es, List.mem_cons, List.not_mem_nil, or_false] at he
    rcases he with rfl | rfl | rfl | rfl | rfl | rfl | rfl | rfl | rfl | rfl | rfl | rfl | rfl | rfl | rfl | rfl <;> exact ⟨by kernel_rfl, by kernel_rfl⟩) (by
    intro g hg
    have : g ∈ heapPlays_es.map fun e => e.2.1 := (show ∀ g ∈ Vn.ax.gs, g ∈ heapPlays_es.map fun e => e.2.1 by decide) g hg
    obtain ⟨e, he, hh⟩ := List.mem_map.1 this
    exact ⟨e, he, hh⟩) (by decide) (by decide) rfl
  exact ⟨G, h1, h2⟩
theorem glob_of_laidP {W : World} (hL : laidMet Tryd.prog Rows.heapPlaysRow.laid W) :
    ∃ aH aS aL, Glob W 109 aH (.iface 109 (.pointer (some aS))) (.iface 109 (.pointer (some aL))) := by
  obtain ⟨a2, s2, hv2, _⟩ := laid_sentinel hL.tail.tail.tail gLarge tLarge Tryd.underlying26 row109 Tryd.underlying109 Tryd.underlying126 rfl rfl Tryd.underlying9 cells126 cells9
  obtain ⟨a0, s0, hv0, _⟩ := laid_sentinel hL.tail.tail.tail.tail.tail.tail.tail.tail.tail.tail.tail.tail.tail gHeap tHeap Tryd.underlying26 row109 Tryd.underlying109 Tryd.underlying126 rfl rfl Tryd.underlying9 cells126 cells9
  obtain ⟨a1, s1, hv1, _⟩ := laid_sentinel hL.tail.tail.tail.tail.tail.tail.tail.tail.tail.tail.tail.tail.tail.tail.tail gState tState Tryd.underlying26 row109 Tryd.underlying109 Tryd.underlying126 rfl rfl Tryd.underlying9 cells126 cells9
  have c0 := World.var?_cell gHeap hv0 0
  have c1 := World.var?_cell gState hv1 0
  have c2 := World.var?_cell gLarge hv2 0
  refine ⟨a0, a1, a2, by simpa using c0, by simpa using c1, by simpa using c2, ?_⟩
  rcases Nat.lt_or_ge 2 W.heap.size with h | h
  · exact h
  · simp only [World.cell?, Array.getElem?_eq_none h] at c2
    simp at c2

set_option maxRecDepth 100000 in
theorem heapPlays_contract (H : Type) (enc : TypeId × Value → H) (W : World) (base : Nat) (args : Array Value) (ds gs : List (DataW H)) (before : List MemPlace)
    (hval : ∀ (j : Nat) t v, Tryd.f7.params[j]? = some t → args[j]? = some v → Value.okWide Tryd.prog W .any base t v)
    (hW : DataW.Whole enc Tryd.prog Tryd.f7.params.toList Rows.heapPlaysSpec.vars false W args.toList ds gs before) (hL : laidMetH Tryd.prog Rows.heapPlaysRow.laid W) :
    Calls Tryd.prog 7 args W fun e W' => ∃ v, e = .returned v ∧ Rows.heapPlaysSpec.post enc Tryd.prog Tryd.f7 false true false false W args v W' := by
  have hW' := hW
  obtain ⟨p, q, hA0, hV, rfl, hfz, hnd⟩ := hW
  have hA : DataW.TrodAll enc Tryd.prog W 0 (fun _ => true) true Tryd.f7.params.toList args.toList ds p := hA0
  have params7 : Tryd.f7.params = #[3, 41] := rfl
  rw [params7] at hA hval
  obtain ⟨v0, vs0, d0, ds0, p0, q0, hargs, rfl, rfl, h0, r0⟩ := trodAll_cons hA
  obtain ⟨v1, vs1, d1, ds1, p1, q1, rfl, rfl, rfl, h1, r1⟩ := trodAll_cons r0
  obtain ⟨rfl, rfl, rfl⟩ := trodAll_nil r1
  obtain rfl : args = #[v0, v1] := by cases args; simp_all
  obtain ⟨rfl, rfl⟩ := trodVars_none hV
  obtain ⟨n0, rfl, rfl, rfl, w0⟩ := open_int Tryd.underlying3 (hval 0 3 v0 rfl rfl) h0
  have k1 := h1
  have lt1 : ∀ x ∈ p1, x.block < W.heap.size := by obtain ⟨m, hm⟩ := k1; exact DataW.trod_lt m _ _ _ hm
  obtain ⟨a0, l0, c0, rfl⟩ := okWide_slice Tryd.underlying41 (hval 1 41 v1 rfl rfl)
  obtain ⟨fuel1, hf1⟩ := h1
  obtain ⟨X, rfl, hX, hmem⟩ := opm_of_trod (a := a0) (len := l0) (c := c0) hf1
  have hlen1 := len_of_trod (a := a0) (n := X.length) (c := c0) Tryd.underlying41 hf1
  obtain ⟨aH, aS, aL, hg⟩ := glob_of_laidP hL
  obtain ⟨G, hE⟩ := heapPlays_errs hL
  clear hA0 hval
  refine (HeapPlays_spec hE hg errTy n0 X hX hlen1 a0 c0 hmem).mono fun e W' ⟨he, bel⟩ => ?_
  subst he
  exact ⟨_, rfl, _, _, _, [], _, [], hW', trodAll_mk1 (shut_bool Tryd.underlying4 _),
    (trodAll_cons_mk (shut_int Tryd.underlying3 w0)
      (trodAll_cons_mk (Below.trod laidOut (by kernel_rfl) (of_decide_eq_true (by kernel_rfl)) k1 bel lt1) trodAll_mk0)), rfl, bel.frame _, fun h => by cases h⟩

theorem laid_metP (os : Os) (args : Array Value) : laidMet Tryd.prog Rows.heapPlaysRow.laid ((World.doorLaid Tryd.prog 400 os).forCall (fun _ _ => 0) ⟨#[], args, []⟩).memory :=
  laidMet_of_run' 8 (by kernel_rfl) (by kernel_rfl)

set_option maxRecDepth 100000 in
theorem heapPlays_lifted (os : Os) (started : os.Started) (H : Type) (enc : TypeId × Value → H) (F : Stop.Interp) :
    ReturnsInHanded {} Tryd.checked os 7 .any ((OpenSpec.ofChange Rows.heapPlaysSpec).preRow enc Tryd.prog Tryd.f7 Rows.heapPlaysRow.domain false Rows.heapPlaysRow.laid) (((OpenSpec.ofChange Rows.heapPlaysSpec).at F).post enc Tryd.prog Tryd.f7 false true false false) := by
  have hw : (DataW.whole enc Tryd.prog ((World.doorLaid Tryd.prog 400 os).forCall (fun _ _ => 0) ⟨#[], #[.int .i64 0, .slice none 0 0], []⟩).memory Tryd.f7.params.toList Rows.heapPlaysSpec.vars false #[Value.int .i64 0, .slice none 0 0].toList 8).map (fun x => (x.1, x.2.1)) =
      some ([.lit (.int .i64 0), .nil], []) := by kernel_rfl
  obtain ⟨⟨x1, x2, x3⟩, hx, hx1⟩ := Option.map_eq_some_iff.1 hw
  simp only [Prod.mk.injEq] at hx1
  obtain ⟨rfl, rfl⟩ := hx1
  refine returnsInHanded_of_row (C := Tryd.checked) (s := OpenSpec.ofChange Rows.heapPlaysSpec) own started (by kernel_rfl) Tryd.func7
    (witness_row_atRef (enc := enc) (C := Tryd.checked) false (World.doorLaid Tryd.prog 400 os) #[.int .i64 0, .slice none 0 0] rfl (by kernel_rfl) (by kernel_rfl) (by kernel_rfl)
      (OpenSpec.preRow_of_cond 8 hx (by kernel_rfl) (fun k hk => by cases hk) (by kernel_rfl) (laid_metP os _))) ?_
  intro W base args ds gs before hval hW _ _ _ hL _ _
  exact heapPlays_contract H enc W base args ds gs before hval hW hL

theorem heapPlays_said : Rows.HeapPlaysSaid :=
  OpenClaim.holds_of_cond 7 Tryd.f7 rfl rfl rfl rfl rfl rfl rfl ⟨rfl, rfl, rfl, rfl, rfl⟩ rfl rfl rfl rfl rfl (by kernel_rfl) Tryd.func7 (by kernel_rfl)
    (of_decide_eq_true (by kernel_rfl)) (by unfold Func.isWrapper; first | (rw [if_pos (by decide +kernel)]; kernel_rfl) | (rw [if_neg (by decide +kernel)]; exact ⟨rfl, rfl⟩))
    (fun os started H enc _ F => by rw [OpenClaim.pre_eq_preRow]; exact heapPlays_lifted os started H enc F)

theorem heapPlays_plain (f : FuncId) (fn : Func) (hf : Tryd.pinned.checked.prog.funcNamed "augur/augurlaw19.HeapPlays" = some f) (hfn : Tryd.pinned.checked.prog.funcs[f]? = some fn) :
    true = Tryd.pinned.checked.prog.looks [] ∧ ∀ (j : Nat) t, fn.params[j]? = some t → Tryd.pinned.checked.prog.wantsStandIn t = false := by
  obtain rfl : f = 7 := Option.some.inj ((show Tryd.prog.funcNamed "augur/augurlaw19.HeapPlays" = some 7 by kernel_rfl).symm.trans hf) |>.symm
  obtain rfl : fn = Tryd.f7 := (Option.some.inj (Tryd.func7.symm.trans hfn)).symm
  refine ⟨by kernel_rfl, fun j t ht => ?_⟩
  have params7 : Tryd.f7.params = #[3, 41] := rfl
  rw [params7] at ht
  have h3 : t = 3 ∨ t = 41 := by simpa using Array.mem_of_getElem? ht
  rcases h3 with rfl | rfl
  · exact (show Tryd.prog.wantsStandIn 3 = false by kernel_rfl)
  · exact (show Tryd.prog.wantsStandIn 41 = false by kernel_rfl)

end Go.Proofs.YtfenhbjamohdgaaDoor.Vf

namespace Go.Proofs.YtfenhbjamohdgaaDoor
theorem heapPlays_card : Rows.HeapPlaysCardSaid :=
  Claim7.holds_tied_plain_at .later [] _ _ _ _ Vf.heapPlays_said (fun _ h => by cases h) (by kernel_rfl) (fun _ h => by cases h) heapPlays_row_tie rfl ⟨rfl, rfl⟩ (by kernel_rfl) rfl Vf.heapPlays_plain (by kernel_rfl)
#print axioms heapPlays_card
end Go.Proofs.YtfenhbjamohdgaaDoor
end
