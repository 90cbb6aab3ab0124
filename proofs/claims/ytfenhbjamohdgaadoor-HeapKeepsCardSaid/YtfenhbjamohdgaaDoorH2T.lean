/- augurlaw19.HeapKeeps: the row and its card. -/
import Derived.Test.YtfenhbjamohdgaaDoorH2S
import Derived.Test.YtfenhbjamohdgaaDoorH2J
namespace Go.Proofs.YtfenhbjamohdgaaDoor.Vf
open Go.Vx Go.Vx.Hp Go.RowKit Go.ChangeShapes Go.WideShapes Go.ChangeAt

section
variable {H : Type} {enc : TypeId × Value → H} {W : World} {sp : Nat → Bool} {held : Bool}
theorem cells4 : Tryd.prog.cellsOf 4 = 1 := by kernel_rfl
theorem cells22 : Tryd.prog.cellsOf 22 = 1 := by kernel_rfl
theorem cells43 : Tryd.prog.cellsOf 43 = 1 := by kernel_rfl
theorem cells45 : Tryd.prog.cellsOf 45 = 5 := by kernel_rfl
theorem cells47 : Tryd.prog.cellsOf 47 = 2 := by kernel_rfl

theorem cellsAt_of_cells {a : Addr} {n : Nat} {cs : List Value} (h : W.cells? 0 a n = some cs) (hn : 0 < n) : ∃ b o, a = ⟨b, o, none⟩ ∧ cellsAt W b o cs := by
  obtain ⟨_, hl, hc⟩ := World.cells?_some h
  obtain ⟨b, o, s⟩ := a
  have h0 := hc 0 hn
  have hs : s = none := by
    cases s with
    | none => rfl
    | some k =>
      rw [List.getElem?_eq_getElem (by omega)] at h0
      simp only [Addr.add, if_true, World.cell?] at h0
      split at h0 <;> simp at h0
  subst hs
  refine ⟨b, o, rfl, ?_⟩
  have hc' : ∀ i, i < cs.length → W.cell? ⟨b, o + i, none⟩ = cs[i]? := fun i hi => by rw [← add_none]; exact hc i (by omega)
  clear h hc h0 hl
  have key : ∀ (l : List Value) (o : Nat), (∀ i, i < l.length → W.cell? ⟨b, o + i, none⟩ = l[i]?) → cellsAt W b o l := by
    intro l
    induction l with
    | nil => intro o _; trivial
    | cons v l ih =>
      intro o h
      exact ⟨by have := h 0 (by simp); simpa using this, ih (o + 1) (fun i hi => by have := h (i + 1) (by simpa using hi); rw [show o + 1 + i = o + (i + 1) by omega]; simpa using this)⟩
  exact key cs o hc'


end

theorem cell_of_cells1 {W : World} {a : Addr} {v : Value} (h : W.cells? 0 a 1 = some [v]) : ∃ b o, a = ⟨b, o, none⟩ ∧ W.cell? ⟨b, o, none⟩ = some v := by
  obtain ⟨_, hl, hc⟩ := World.cells?_some h
  obtain ⟨b, o, s⟩ := a
  have h0 := hc 0 (by decide)
  have hs : s = none := by
    cases s with
    | none => rfl
    | some k =>
      simp only [Addr.add, if_true, World.cell?] at h0
      split at h0 <;> simp at h0
  subst hs
  exact ⟨b, o, rfl, by simpa [Addr.add] using h0⟩

/-- a slice of ints that came in -/
theorem ints_of_trod {H : Type} {enc : TypeId × Value → H} {W : World} {sp : Nat → Bool} {held : Bool} {fuel : Nat} {cs : List Value} {x : DataW H × List MemPlace} (h : DataW.trod enc Tryd.prog W 0 sp held fuel 22 cs = some x) :
    ∃ a c L, cs = [.slice a L.length c] ∧ Isl W.heap.size W a L := by
  rcases DataW.trod_slice Tryd.underlying22 h with ⟨e3, rfl⟩ | ⟨a, len, cap, elems, rest, k, hkn, e3, rfl, _, hlc, hcm, hlen2, hel, _⟩
  · exact ⟨none, 0, [], e3, fun j hj => by simp at hj⟩
  · have pick : ∀ j, ∃ u : Int, j < len → ∃ b o, a.add j = (⟨b, o, none⟩ : Addr) ∧ b < W.heap.size ∧ W.cell? ⟨b, o, none⟩ = some (.int .i64 u) := by
      intro j
      by_cases hj : j < len
      · have h4 := hel j hj
        rw [cells3, List.getElem?_eq_getElem (by omega)] at h4
        obtain ⟨cs', hc', ht'⟩ := Option.bind_eq_some_iff.1 h4
        obtain ⟨n, rfl, _, hw⟩ := DataW.trod_int Tryd.underlying3 ht'
        obtain ⟨b1, o1, ea, hca⟩ := cell_of_cells1 hc'
        have hblt := World.cells?_block hc' (by decide)
        rw [Nat.mul_one] at ea hblt
        rw [ea] at hblt
        exact ⟨n, fun _ => ⟨b1, o1, ea, hblt, hca⟩⟩
      · exact ⟨0, fun h => absurd h hj⟩
    let u : Nat → Int := fun j => (pick j).choose
    have hu : ∀ j, j < len → ∃ b o, a.add j = (⟨b, o, none⟩ : Addr) ∧ b < W.heap.size ∧ W.cell? ⟨b, o, none⟩ = some (.int .i64 (u j)) := fun j => (pick j).choose_spec
    have hl : ((List.range len).map u).length = len := by simp
    refine ⟨some a, cap, (List.range len).map u, by rw [hl]; exact e3, fun j hj => ?_⟩
    have hj' : j < len := by omega
    obtain ⟨b0, o0, e0, hb0, hc0⟩ := hu 0 (by omega)
    have ha : a = ⟨b0, o0, none⟩ := by simpa [Addr.add] using e0
    subst ha
    obtain ⟨b1, o1, e1, hb1, hc1⟩ := hu j hj'
    rw [add_none] at e1
    cases e1
    refine ⟨b0, o0, rfl, hb0, ?_⟩
    rw [Nat.mul_one, hc1]; simp


theorem len2 {α : Type} {l : List α} (h : l.length = 2) : ∃ a b, l = [a, b] := by
  match l, h with
  | [a, b], _ => exact ⟨a, b, rfl⟩
theorem len5 {α : Type} {l : List α} (h : l.length = 5) : ∃ a b c d e, l = [a, b, c, d, e] := by
  match l, h with
  | [a, b, c, d, e], _ => exact ⟨a, b, c, d, e, rfl⟩

theorem len_of_trod {H : Type} {enc : TypeId × Value → H} {W : World} {sp : Nat → Bool} {held : Bool} {fuel : Nat} {t e : TypeId} (ht : Tryd.prog.underlying t = some (.slice e)) {a : Option Addr} {n c : Nat} {x : DataW H × List MemPlace} (h : DataW.trod enc Tryd.prog W 0 sp held fuel t [.slice a n c] = some x) : n ≤ 9223372036854775807 := by
  rcases DataW.trod_slice ht h with ⟨e3, _⟩ | ⟨a, len, cap, elems, rest, k, hkn, e3, _, _, hlc, hcm, hlen2, hel, _⟩
  · simp only [List.cons.injEq, Value.slice.injEq, and_true] at e3; omega
  · simp only [List.cons.injEq, Value.slice.injEq, and_true] at e3
    have : maxLen = 9223372036854775807 := rfl
    omega

/-- arguments of an operation that came in -/
theorem vals_of_trod {H : Type} {enc : TypeId × Value → H} {W : World} {sp : Nat → Bool} {held : Bool} {fuel : Nat} {cs : List Value} {x : DataW H × List MemPlace} (h : DataW.trod enc Tryd.prog W 0 sp held fuel 43 cs = some x) :
    ∃ a m c, cs = [.slice a m c] ∧ ∀ i, i < m → ∃ b o r z, a = some ⟨b, o, none⟩ ∧ b < W.heap.size ∧ cellsAt W b (o + i * 2) [.bool r, .int .i64 z] := by
  rcases DataW.trod_slice Tryd.underlying43 h with ⟨e3, rfl⟩ | ⟨a, len, cap, elems, rest, k, hkn, e3, rfl, _, hlc, hcm, hlen2, hel, _⟩
  · exact ⟨none, 0, 0, e3, fun j hj => by omega⟩
  · have pick : ∀ j, j < len → ∃ b o r z, a.add (j * 2) = (⟨b, o, none⟩ : Addr) ∧ b < W.heap.size ∧ cellsAt W b o [.bool r, .int .i64 z] := by
      intro j hj
      have h4 := hel j hj
      rw [cells47, List.getElem?_eq_getElem (by omega)] at h4
      obtain ⟨cs', hc', ht'⟩ := Option.bind_eq_some_iff.1 h4
      obtain ⟨xs, n, _, _, hl, hxs, hf⟩ := DataW.trod_struct Tryd.underlying47 ht'
      rw [cells47] at hl
      obtain ⟨c0, c1, rfl⟩ := len2 hl
      obtain ⟨x0, x1, rfl⟩ := len2 (show xs.length = 2 from hxs)
      have h0 : DataW.trod enc Tryd.prog W 0 sp held n 4 (([c0, c1].drop 0).take (Tryd.prog.cellsOf 4)) = some x0 := hf 0 _ rfl
      have h1 : DataW.trod enc Tryd.prog W 0 sp held n 3 (([c0, c1].drop 1).take (Tryd.prog.cellsOf 3)) = some x1 := hf 1 _ rfl
      rw [cells4] at h0
      rw [cells3] at h1
      replace h0 : DataW.trod enc Tryd.prog W 0 sp held n 4 [c0] = some x0 := h0
      replace h1 : DataW.trod enc Tryd.prog W 0 sp held n 3 [c1] = some x1 := h1
      obtain ⟨b, e0, _⟩ := DataW.trod_bool Tryd.underlying4 h0
      obtain ⟨i, e1, _, hi⟩ := DataW.trod_int Tryd.underlying3 h1
      simp only [List.cons.injEq, and_true] at e0 e1
      subst e0 e1
      obtain ⟨b1, o1, ea, hca⟩ := cellsAt_of_cells hc' (by decide)
      have hblt := World.cells?_block hc' (by decide)
      rw [ea] at hblt
      exact ⟨b1, o1, b, i, ea, hblt, hca⟩
    refine ⟨some a, len, cap, e3, fun j hj => ?_⟩
    obtain ⟨b0, o0, _, _, e0, hb0, _⟩ := pick 0 (by omega)
    have ha : a = ⟨b0, o0, none⟩ := by simpa [Addr.add] using e0
    subst ha
    obtain ⟨b1, o1, r, z, e1, hb1, hc1⟩ := pick j hj
    rw [add_none] at e1
    cases e1
    exact ⟨b0, o0, r, z, rfl, hb0, hc1⟩

/-- operations that came in -/
theorem ops_of_trod {H : Type} {enc : TypeId × Value → H} {W : World} {sp : Nat → Bool} {held : Bool} {fuel : Nat} {a : Option Addr} {len c : Nat} {x : DataW H × List MemPlace} (h : DataW.trod enc Tryd.prog W 0 sp held fuel 41 [.slice a len c] = some x) :
    OpsIn W.heap.size W a len := by
  rcases DataW.trod_slice Tryd.underlying41 h with ⟨e3, rfl⟩ | ⟨a', len', cap, elems, rest, k, hkn, e3, rfl, _, hlc, hcm, hlen2, hel, _⟩
  · simp only [List.cons.injEq, Value.slice.injEq, and_true] at e3
    intro j hj
    omega
  · simp only [List.cons.injEq, Value.slice.injEq, and_true] at e3
    obtain ⟨rfl, rfl, rfl⟩ := e3
    have pick : ∀ j, j < len → ∃ b o, a'.add (j * 5) = (⟨b, o, none⟩ : Addr) ∧ b < W.heap.size ∧ ∃ (n1 n2 n3 : Int) (a1 : Option Addr) (m1 c1 : Nat) (a2 : Option Addr) (m2 c2 : Nat),
        cellsAt W b o [.int .i64 n1, .int .i64 n2, .int .i64 n3, .slice a1 m1 c1, .slice a2 m2 c2] ∧ n3 ≤ 9223372036854775807 ∧
        ∀ i, i < m1 → ∃ b' o' r z, a1 = some ⟨b', o', none⟩ ∧ b' < W.heap.size ∧ cellsAt W b' (o' + i * 2) [.bool r, .int .i64 z] := by
      intro j hj
      have h4 := hel j hj
      rw [cells45, List.getElem?_eq_getElem (by omega)] at h4
      obtain ⟨cs', hc', ht'⟩ := Option.bind_eq_some_iff.1 h4
      obtain ⟨xs, n, _, _, hl, hxs, hf⟩ := DataW.trod_struct Tryd.underlying45 ht'
      rw [cells45] at hl
      obtain ⟨c0, c1, c2, c3, c4, rfl⟩ := len5 hl
      obtain ⟨x0, x1, x2, x3, x4, rfl⟩ := len5 (show xs.length = 5 from hxs)
      have h0 : DataW.trod enc Tryd.prog W 0 sp held n 3 (([c0, c1, c2, c3, c4].drop 0).take (Tryd.prog.cellsOf 3)) = some x0 := hf 0 _ rfl
      have h1 : DataW.trod enc Tryd.prog W 0 sp held n 3 (([c0, c1, c2, c3, c4].drop 1).take (Tryd.prog.cellsOf 3)) = some x1 := hf 1 _ rfl
      have h2 : DataW.trod enc Tryd.prog W 0 sp held n 3 (([c0, c1, c2, c3, c4].drop 2).take (Tryd.prog.cellsOf 3)) = some x2 := hf 2 _ rfl
      have h3 : DataW.trod enc Tryd.prog W 0 sp held n 43 (([c0, c1, c2, c3, c4].drop 3).take (Tryd.prog.cellsOf 43)) = some x3 := hf 3 _ rfl
      have h4 : DataW.trod enc Tryd.prog W 0 sp held n 22 (([c0, c1, c2, c3, c4].drop 4).take (Tryd.prog.cellsOf 22)) = some x4 := hf 4 _ rfl
      rw [cells3] at h0 h1 h2
      rw [cells43] at h3
      rw [cells22] at h4
      replace h0 : DataW.trod enc Tryd.prog W 0 sp held n 3 [c0] = some x0 := h0
      replace h1 : DataW.trod enc Tryd.prog W 0 sp held n 3 [c1] = some x1 := h1
      replace h2 : DataW.trod enc Tryd.prog W 0 sp held n 3 [c2] = some x2 := h2
      replace h3 : DataW.trod enc Tryd.prog W 0 sp held n 43 [c3] = some x3 := h3
      replace h4 : DataW.trod enc Tryd.prog W 0 sp held n 22 [c4] = some x4 := h4
      obtain ⟨i0, e0, _, hi0⟩ := DataW.trod_int Tryd.underlying3 h0
      obtain ⟨i1, e1, _, hi1⟩ := DataW.trod_int Tryd.underlying3 h1
      obtain ⟨i2, e2, _, hi2⟩ := DataW.trod_int Tryd.underlying3 h2
      obtain ⟨a1, m1, k1, e3, hv⟩ := vals_of_trod h3
      obtain ⟨a2, k2, L2, e4, _⟩ := ints_of_trod h4
      simp only [List.cons.injEq, and_true] at e0 e1 e2 e3 e4
      subst e0 e1 e2 e3 e4
      obtain ⟨b1, o1, ea, hca⟩ := cellsAt_of_cells hc' (by decide)
      have hblt := World.cells?_block hc' (by decide)
      rw [ea] at hblt
      exact ⟨b1, o1, ea, hblt, i0, i1, i2, a1, m1, k1, a2, _, k2, hca, by have := (bounds_i64 hi2).2; omega, hv⟩
    intro j hj
    obtain ⟨b0, o0, e0, hb0, _⟩ := pick 0 (by omega)
    have ha : a' = ⟨b0, o0, none⟩ := by simpa [Addr.add] using e0
    subst ha
    obtain ⟨b1, o1, e1, hb1, hr⟩ := pick j hj
    rw [add_none] at e1
    cases e1
    exact ⟨b0, o0, rfl, hb0, hr⟩

set_option maxRecDepth 100000 in
theorem heapKeeps_contract (H : Type) (enc : TypeId × Value → H) (W : World) (base : Nat) (args : Array Value) (ds gs : List (DataW H)) (before : List MemPlace)
    (hval : ∀ (j : Nat) t v, Tryd.f5.params[j]? = some t → args[j]? = some v → Value.okWide Tryd.prog W .any base t v)
    (hW : DataW.Whole enc Tryd.prog Tryd.f5.params.toList Rows.heapKeepsSpec.vars false W args.toList ds gs before) (hL : laidMetH Tryd.prog Rows.heapKeepsRow.laid W) :
    Calls Tryd.prog 5 args W fun e W' => ∃ v, e = .returned v ∧ Rows.heapKeepsSpec.post enc Tryd.prog Tryd.f5 false true false false W args v W' := by
  have hW' := hW
  obtain ⟨p, q, hA0, hV, rfl, hfz, hnd⟩ := hW
  have hA : DataW.TrodAll enc Tryd.prog W 0 (fun _ => true) true Tryd.f5.params.toList args.toList ds p := hA0
  have params5 : Tryd.f5.params = #[41, 22] := rfl
  rw [params5] at hA hval
  obtain ⟨v0, vs0, d0, ds0, p0, q0, hargs, rfl, rfl, h0, r0⟩ := trodAll_cons hA
  obtain ⟨v1, vs1, d1, ds1, p1, q1, rfl, rfl, rfl, h1, r1⟩ := trodAll_cons r0
  obtain ⟨rfl, rfl, rfl⟩ := trodAll_nil r1
  obtain rfl : args = #[v0, v1] := by cases args; simp_all
  obtain ⟨rfl, rfl⟩ := trodVars_none hV
  have k0 := h0
  have lt0 : ∀ x ∈ p0, x.block < W.heap.size := by obtain ⟨m, hm⟩ := k0; exact DataW.trod_lt m _ _ _ hm
  have k1 := h1
  have lt1 : ∀ x ∈ p1, x.block < W.heap.size := by obtain ⟨m, hm⟩ := k1; exact DataW.trod_lt m _ _ _ hm
  obtain ⟨a0, l0, c0, rfl⟩ := okWide_slice Tryd.underlying41 (hval 0 41 v0 rfl rfl)
  obtain ⟨fuel0, hf0⟩ := h0
  have hops := ops_of_trod (a := a0) (len := l0) (c := c0) hf0
  have hlen0 := len_of_trod (a := a0) (n := l0) (c := c0) Tryd.underlying41 hf0
  obtain ⟨fuel, hf⟩ := h1
  obtain ⟨a, c, L, hcs, hsl⟩ := ints_of_trod hf
  obtain ⟨a', l', c', rfl⟩ := okWide_slice Tryd.underlying22 (hval 1 22 v1 rfl rfl)
  have hlen1 := len_of_trod (a := a') (n := l') (c := c') Tryd.underlying22 hf
  have hcs' : [Value.slice a' l' c'] = [Value.slice a L.length c] := hcs
  simp only [List.cons.injEq, Value.slice.injEq, and_true] at hcs'
  obtain ⟨rfl, rfl, rfl⟩ := hcs'
  obtain ⟨aH, aS, aL, hg⟩ := glob_of_laid (r := []) hL
  clear hA0 hval
  refine (HeapKeeps_spec hg errTy a0 l0 c0 hlen0 hops a' c' L hsl hlen1).mono fun e W' ⟨he, bel⟩ => ?_
  subst he
  exact ⟨_, rfl, _, _, _, [], _, [], hW', trodAll_mk1 (shut_bool Tryd.underlying4 _),
    (trodAll_cons_mk (Below.trod laidOut (by kernel_rfl) (of_decide_eq_true (by kernel_rfl)) k0 bel lt0)
      (trodAll_cons_mk (Below.trod laidOut (by kernel_rfl) (of_decide_eq_true (by kernel_rfl)) k1 bel lt1) trodAll_mk0)), rfl, bel.frame _, fun h => by cases h⟩

theorem laid_metK (os : Os) (args : Array Value) : laidMet Tryd.prog Rows.heapKeepsRow.laid ((World.doorLaid Tryd.prog 400 os).forCall (fun _ _ => 0) ⟨#[], args, []⟩).memory :=
  laidMet_of_run' 8 (by kernel_rfl) (by kernel_rfl)

set_option maxRecDepth 100000 in
theorem heapKeeps_lifted (os : Os) (started : os.Started) (H : Type) (enc : TypeId × Value → H) (F : Stop.Interp) :
    ReturnsInHanded {} Tryd.checked os 5 .any ((OpenSpec.ofChange Rows.heapKeepsSpec).preRow enc Tryd.prog Tryd.f5 Rows.heapKeepsRow.domain false Rows.heapKeepsRow.laid) (((OpenSpec.ofChange Rows.heapKeepsSpec).at F).post enc Tryd.prog Tryd.f5 false true false false) := by
  have hw : (DataW.whole enc Tryd.prog ((World.doorLaid Tryd.prog 400 os).forCall (fun _ _ => 0) ⟨#[], #[.slice none 0 0, .slice none 0 0], []⟩).memory Tryd.f5.params.toList Rows.heapKeepsSpec.vars false #[Value.slice none 0 0, .slice none 0 0].toList 8).map (fun x => (x.1, x.2.1)) =
      some ([.nil, .nil], []) := by kernel_rfl
  obtain ⟨⟨x1, x2, x3⟩, hx, hx1⟩ := Option.map_eq_some_iff.1 hw
  simp only [Prod.mk.injEq] at hx1
  obtain ⟨rfl, rfl⟩ := hx1
  refine returnsInHanded_of_row (C := Tryd.checked) (s := OpenSpec.ofChange Rows.heapKeepsSpec) own started (by kernel_rfl) Tryd.func5
    (witness_row_atRef (enc := enc) (C := Tryd.checked) false (World.doorLaid Tryd.prog 400 os) #[.slice none 0 0, .slice none 0 0] rfl (by kernel_rfl) (by kernel_rfl) (by kernel_rfl)
      (OpenSpec.preRow_of_cond 8 hx (by kernel_rfl) (fun k hk => by cases hk) (by kernel_rfl) (laid_metK os _))) ?_
  intro W base args ds gs before hval hW _ _ _ hL _ _
  exact heapKeeps_contract H enc W base args ds gs before hval hW hL

theorem heapKeeps_said : Rows.HeapKeepsSaid :=
  OpenClaim.holds_of_cond 5 Tryd.f5 rfl rfl rfl rfl rfl rfl rfl ⟨rfl, rfl, rfl, rfl, rfl⟩ rfl rfl rfl rfl rfl (by kernel_rfl) Tryd.func5 (by kernel_rfl)
    (of_decide_eq_true (by kernel_rfl)) (by unfold Func.isWrapper; first | (rw [if_pos (by decide +kernel)]; kernel_rfl) | (rw [if_neg (by decide +kernel)]; exact ⟨rfl, rfl⟩))
    (fun os started H enc _ F => by rw [OpenClaim.pre_eq_preRow]; exact heapKeeps_lifted os started H enc F)

theorem heapKeeps_plain (f : FuncId) (fn : Func) (hf : Tryd.pinned.checked.prog.funcNamed "augur/augurlaw19.HeapKeeps" = some f) (hfn : Tryd.pinned.checked.prog.funcs[f]? = some fn) :
    true = Tryd.pinned.checked.prog.looks [] ∧ ∀ (j : Nat) t, fn.params[j]? = some t → Tryd.pinned.checked.prog.wantsStandIn t = false := by
  obtain rfl : f = 5 := Option.some.inj ((show Tryd.prog.funcNamed "augur/augurlaw19.HeapKeeps" = some 5 by kernel_rfl).symm.trans hf) |>.symm
  obtain rfl : fn = Tryd.f5 := (Option.some.inj (Tryd.func5.symm.trans hfn)).symm
  refine ⟨by kernel_rfl, fun j t ht => ?_⟩
  have params5 : Tryd.f5.params = #[41, 22] := rfl
  rw [params5] at ht
  have h3 : t = 41 ∨ t = 22 := by simpa using Array.mem_of_getElem? ht
  rcases h3 with rfl | rfl
  · exact (show Tryd.prog.wantsStandIn 41 = false by kernel_rfl)
  · exact (show Tryd.prog.wantsStandIn 22 = false by kernel_rfl)

end Go.Proofs.YtfenhbjamohdgaaDoor.Vf

namespace Go.Proofs.YtfenhbjamohdgaaDoor
theorem heapKeeps_card : Rows.HeapKeepsCardSaid :=
  Claim7.holds_tied_plain_at .later [] _ _ _ _ Vf.heapKeeps_said (fun _ h => by cases h) (by kernel_rfl) (fun _ h => by cases h) heapKeeps_row_tie rfl ⟨rfl, rfl⟩ (by kernel_rfl) rfl Vf.heapKeeps_plain (by kernel_rfl)
#print axioms heapKeeps_card
end Go.Proofs.YtfenhbjamohdgaaDoor
