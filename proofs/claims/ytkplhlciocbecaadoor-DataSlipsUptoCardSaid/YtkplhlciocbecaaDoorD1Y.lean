/- augurlaw10.DataDecodes: the row and its card, the second form. -/
import Derived.Test.YtkplhlciocbecaaDoorD1X
import Derived.Test.YtkplhlciocbecaaDoorD1T
namespace Go.Proofs.YtkplhlciocbecaaDoor.Vf
open Go.Vx Go.Vx.Da Go.RowKit Go.ChangeShapes Go.WideShapes Go.ChangeAt

theorem bulk_one {H : Type} (d : DataW H) : 1 ≤ Rows.uptoBulk d := by
  cases d with
  | lit l => cases l <;> simp [Rows.uptoBulk]
  | nil => simp [Rows.uptoBulk]
  | ptr d => simp [Rows.uptoBulk]
  | slice elems spare => simp [Rows.uptoBulk]
  | agg parts => simp [Rows.uptoBulk]
  | iface t d => simp [Rows.uptoBulk]
  | map entries => simp [Rows.uptoBulk]
  | held h => simp [Rows.uptoBulk]
theorem bulk_len {H : Type} (l : List (DataW H)) : l.length ≤ Rows.uptoBulkAll l := by
  induction l with
  | nil => simp [Rows.uptoBulkAll]
  | cons x r ih => have := bulk_one x; simp only [Rows.uptoBulkAll, List.length_cons]; omega

theorem cellsAt_of_get {W : World} {b : Nat} : ∀ (l : List Value) (o : Nat), (∀ i (h : i < l.length), W.cell? ⟨b, o + i, none⟩ = some l[i]) → cellsAt W b o l := by
  intro l
  induction l with
  | nil => intro o _; trivial
  | cons v l ih =>
    intro o h
    exact ⟨by have := h 0 (by simp); simpa using this, ih (o + 1) (fun i hi => by have := h (i + 1) (by simpa using hi); rw [show o + 1 + i = o + (i + 1) by omega]; simpa using this)⟩

theorem cells5 : Tryd.prog.cellsOf 5 = 1 := by kernel_rfl

/-- a slice of bytes that came in -/
theorem bytes_of_trod {H : Type} {enc : TypeId × Value → H} {W : World} {sp : Nat → Bool} {held : Bool} {fuel : Nat} {cs : List Value} {x : DataW H × List MemPlace} (h : DataW.trod enc Tryd.prog W 0 sp held fuel 30 cs = some x) :
    ∃ a c L, cs = [.slice a L.length c] ∧ Bsl W.heap.size W a L c ∧ c ≤ maxLen ∧ L.length ≤ Rows.uptoBulk x.1 := by
  rcases DataW.trod_slice Tryd.underlying30 h with ⟨e3, rfl⟩ | ⟨a, len, cap, elems, rest, k, hkn, e3, rfl, _, hlc, hcm, hlen2, hel, _⟩
  · exact ⟨none, 0, [], e3, ⟨Nat.le_refl _, fun h => by simp at h⟩, by simp [maxLen], by simp⟩
  · have pick : ∀ j, ∃ u : UInt8, j < len → ∃ b o, a.add j = (⟨b, o, none⟩ : Addr) ∧ b < W.heap.size ∧ W.cell? ⟨b, o, none⟩ = some (.int .u8 (u.toNat : Int)) := by
      intro j
      by_cases hj : j < len
      · have h4 := hel j hj
        rw [cells5, List.getElem?_eq_getElem (by omega)] at h4
        obtain ⟨cs', hc', ht'⟩ := Option.bind_eq_some_iff.1 h4
        obtain ⟨n, rfl, _, hw⟩ := DataW.trod_int Tryd.underlying5 ht'
        obtain ⟨b1, o1, ea, hca⟩ := cellsAt_of_cells hc' (by decide)
        have hblt := World.cells?_block hc' (by decide)
        rw [Nat.mul_one] at ea hblt
        rw [ea] at hblt
        have hn : 0 ≤ n ∧ n ≤ 255 := by
          simp only [Lit.wf, IntKind.min, IntKind.max, IntKind.signed, IntKind.bits] at hw
          revert hw; simp; try omega
        refine ⟨UInt8.ofNat n.toNat, fun _ => ⟨b1, o1, ea, hblt, ?_⟩⟩
        rw [UInt8.toNat_ofNat_of_lt' (by show n.toNat < 256; omega), Int.toNat_of_nonneg hn.1]
        exact hca.1
      · exact ⟨0, fun h => absurd h hj⟩
    let u : Nat → UInt8 := fun j => (pick j).choose
    have hu : ∀ j, j < len → ∃ b o, a.add j = (⟨b, o, none⟩ : Addr) ∧ b < W.heap.size ∧ W.cell? ⟨b, o, none⟩ = some (.int .u8 ((u j).toNat : Int)) := fun j => (pick j).choose_spec
    have hl : ((List.range len).map u).length = len := by simp
    refine ⟨some a, cap, (List.range len).map u, by rw [hl]; exact e3, ⟨by omega, fun h0 => ?_⟩, hcm, ?_⟩
    · rw [hl] at h0
      obtain ⟨b0, o0, e0, hb0, hc0⟩ := hu 0 h0
      have ha : a = ⟨b0, o0, none⟩ := by simpa [Addr.add] using e0
      subst ha
      refine ⟨b0, o0, rfl, hb0, cellsAt_of_get _ _ fun i hi => ?_⟩
      have hi' : i < len := by simpa [bv] using hi
      obtain ⟨b1, o1, e1, _, hc1⟩ := hu i hi'
      rw [add_none] at e1
      cases e1
      rw [hc1]; simp [bv]
    · rw [hl, ← hlen2]
      have := bulk_len (elems.map (·.1))
      simp only [Rows.uptoBulk]
      rw [List.length_map] at this
      omega

theorem glob3_of_laid {W : World} (hL : laidMet Tryd.prog Rows.dataDecodesRow.laid W) :
    ∃ xL xD aB, Glob W 64 xL xD ∧ W.cell? ⟨0, 0, none⟩ = some (.iface 64 (.pointer (some aB))) := by
  obtain ⟨xL, xD, hg⟩ := glob_of_laid hL
  obtain ⟨a0, s0, hv0, _⟩ := laid_sentinel hL.tail.tail (show Tryd.prog.globalNamed "augur/api.ErrBytes" = some 0 by kernel_rfl) (show (Tryd.prog.globals[0]?).map (·.type) = some 33 by kernel_rfl) Tryd.underlying33 row64 Tryd.underlying64 Tryd.underlying82 rfl rfl Tryd.underlying9 cells82 cells9
  have c0 := World.var?_cell (show Tryd.prog.globalNamed "augur/api.ErrBytes" = some 0 by kernel_rfl) hv0 0
  exact ⟨xL, xD, a0, hg, by simpa using c0⟩

theorem dataDecodes_contract (H : Type) (enc : TypeId × Value → H) (W : World) (base : Nat) (args : Array Value) (ds gs : List (DataW H)) (before : List MemPlace)
    (hval : ∀ (j : Nat) t v, Tryd.f5.params[j]? = some t → args[j]? = some v → Value.okWide Tryd.prog W .any base t v)
    (hW : DataW.Whole enc Tryd.prog Tryd.f5.params.toList Rows.dataDecodesSpec.vars false W args.toList ds gs before) (hL : laidMetH Tryd.prog Rows.dataDecodesRow.laid W) (hk : Rows.uptoSmall H (ds ++ gs) = true) :
    Calls Tryd.prog 5 args W fun e W' => ∃ v, e = .returned v ∧ Rows.dataDecodesSpec.post enc Tryd.prog Tryd.f5 false true false false W args v W' := by
  have hW' := hW
  obtain ⟨p, q, hA0, hV, rfl, hfz, hnd⟩ := hW
  have hA : DataW.TrodAll enc Tryd.prog W 0 (fun _ => true) true Tryd.f5.params.toList args.toList ds p := hA0
  have params5 : Tryd.f5.params = #[30] := rfl
  rw [params5] at hA hval
  obtain ⟨v0, vs0, d0, ds0, p0, q0, hargs, rfl, rfl, h0, r0⟩ := trodAll_cons hA
  obtain ⟨rfl, rfl, rfl⟩ := trodAll_nil r0
  obtain rfl : args = #[v0] := by cases args; simp_all
  obtain ⟨rfl, rfl⟩ := trodVars_none hV
  have k0 := h0
  have lt0 : ∀ x ∈ p0, x.block < W.heap.size := by obtain ⟨m, hm⟩ := k0; exact DataW.trod_lt m _ _ _ hm
  obtain ⟨fuel, hf⟩ := h0
  obtain ⟨a, c, L, hcs, hsl, hcm, hbulk⟩ := bytes_of_trod hf
  obtain ⟨a', l', c', rfl⟩ := okWide_slice Tryd.underlying30 (hval 0 30 v0 rfl rfl)
  have hcs' : [Value.slice a' l' c'] = [Value.slice a L.length c] := hcs
  simp only [List.cons.injEq, Value.slice.injEq, and_true] at hcs'
  obtain ⟨rfl, rfl, rfl⟩ := hcs'
  have hLn : L.length ≤ 1048576 := by
    have : Rows.uptoBulk d0 ≤ 1048576 := by simpa [Rows.uptoSmall, Rows.uptoBulkAll] using hk
    simp only at hbulk
    omega
  obtain ⟨xL, xD, aB, hg, hE⟩ := glob3_of_laid hL
  clear hA0 hval
  refine (DataDecodes_spec 64 xL xD aB L W.heap.size W a' c' hsl (Nat.le_refl _) hLn hg hE).mono fun e W' ⟨he, bel⟩ => ?_
  subst he
  exact ⟨_, rfl, _, _, _, [], _, [], hW', trodAll_mk1 (shut_bool Tryd.underlying4 _),
    (trodAll_cons_mk (Below.trod laidOut (by kernel_rfl) (of_decide_eq_true (by kernel_rfl)) k0 bel lt0) trodAll_mk0), rfl, bel.frame _, fun h => by cases h⟩

theorem laid_metD (os : Os) (args : Array Value) : laidMet Tryd.prog Rows.dataDecodesUptoRow.laid ((World.doorLaid Tryd.prog 400 os).forCall (fun _ _ => 0) ⟨#[], args, []⟩).memory :=
  laidMet_of_run' 8 (by kernel_rfl) (by kernel_rfl)

set_option maxRecDepth 100000 in
theorem dataDecodes_lifted (os : Os) (started : os.Started) (H : Type) (enc : TypeId × Value → H) (F : Stop.Interp) :
    ReturnsInHanded {} Tryd.checked os 5 .any ((Rows.OpenSpec.upto Rows.dataDecodesSpec).preRow enc Tryd.prog Tryd.f5 Rows.dataDecodesUptoRow.domain false Rows.dataDecodesUptoRow.laid) (((Rows.OpenSpec.upto Rows.dataDecodesSpec).at F).post enc Tryd.prog Tryd.f5 false true false false) := by
  have hw : (DataW.whole enc Tryd.prog ((World.doorLaid Tryd.prog 400 os).forCall (fun _ _ => 0) ⟨#[], #[.slice none 0 0], []⟩).memory Tryd.f5.params.toList Rows.dataDecodesSpec.vars false #[Value.slice none 0 0].toList 8).map (fun x => (x.1, x.2.1)) =
      some ([.nil], []) := by kernel_rfl
  obtain ⟨⟨x1, x2, x3⟩, hx, hx1⟩ := Option.map_eq_some_iff.1 hw
  simp only [Prod.mk.injEq] at hx1
  obtain ⟨rfl, rfl⟩ := hx1
  refine returnsInHanded_of_row (C := Tryd.checked) (s := Rows.OpenSpec.upto Rows.dataDecodesSpec) own started (by kernel_rfl) Tryd.func5
    (witness_row_atRef (enc := enc) (C := Tryd.checked) false (World.doorLaid Tryd.prog 400 os) #[.slice none 0 0] rfl (by kernel_rfl) (by kernel_rfl) (by kernel_rfl)
      (OpenSpec.preRow_of_cond 8 hx (by kernel_rfl) (fun k hk => by cases hk; kernel_rfl) (by kernel_rfl) (laid_metD os _))) ?_
  intro W base args ds gs before hval hW h1 h2 h3 hL h4 h5
  exact dataDecodes_contract H enc W base args ds gs before hval hW hL (h2 _ rfl)

theorem dataDecodes_said : Rows.DataDecodesUptoSaid :=
  OpenClaim.holds_of_cond 5 Tryd.f5 rfl rfl rfl rfl rfl rfl rfl ⟨rfl, rfl, rfl, rfl, rfl⟩ rfl rfl rfl rfl rfl (by kernel_rfl) Tryd.func5 (by kernel_rfl)
    (of_decide_eq_true (by kernel_rfl)) (by unfold Func.isWrapper; first | (rw [if_pos (by decide +kernel)]; kernel_rfl) | (rw [if_neg (by decide +kernel)]; exact ⟨rfl, rfl⟩))
    (fun os started H enc _ F => by rw [OpenClaim.pre_eq_preRow]; exact dataDecodes_lifted os started H enc F)

theorem dataDecodes_plain (f : FuncId) (fn : Func) (hf : Tryd.pinned.checked.prog.funcNamed "augur/augurlaw10.DataDecodes" = some f) (hfn : Tryd.pinned.checked.prog.funcs[f]? = some fn) :
    true = Tryd.pinned.checked.prog.looks [] ∧ ∀ (j : Nat) t, fn.params[j]? = some t → Tryd.pinned.checked.prog.wantsStandIn t = false := by
  obtain rfl : f = 5 := Option.some.inj ((show Tryd.prog.funcNamed "augur/augurlaw10.DataDecodes" = some 5 by kernel_rfl).symm.trans hf) |>.symm
  obtain rfl : fn = Tryd.f5 := (Option.some.inj (Tryd.func5.symm.trans hfn)).symm
  refine ⟨by kernel_rfl, fun j t ht => ?_⟩
  have params5 : Tryd.f5.params = #[30] := rfl
  rw [params5] at ht
  obtain rfl : t = 30 := by simpa using Array.mem_of_getElem? ht
  exact (show Tryd.prog.wantsStandIn 30 = false by kernel_rfl)

end Go.Proofs.YtkplhlciocbecaaDoor.Vf

namespace Go.Proofs.YtkplhlciocbecaaDoor
theorem dataDecodesUpto_card : Rows.DataDecodesUptoCardSaid :=
  Claim7.holds_tied_plain_at .later [] _ _ _ _ Vf.dataDecodes_said (fun _ h => by cases h) (by kernel_rfl) (fun _ h => by cases h) dataDecodesUpto_row_tie rfl ⟨rfl, rfl⟩ (by kernel_rfl) rfl Vf.dataDecodes_plain (by kernel_rfl)
#print axioms dataDecodesUpto_card
end Go.Proofs.YtkplhlciocbecaaDoor
