/- augurlaw10.DataSizes returns true for every datum, and leaves it as it was: the row and its card (conditions: the listed error variables hold what the program's text lays, as the card ties it). -/
import Derived.Test.YtkplhlciocbecaaDoorD1R
import Derived.Stop.Joined
namespace Go.Proofs.YtkplhlciocbecaaDoor.Vf
open Go.Vx Go.Vx.Da Go.RowKit Go.ChangeShapes Go.WideShapes Go.ChangeAt

theorem own : ownKnob Tryd.prog.godebug = none := by kernel_rfl
theorem laidOut : laidOutB Tryd.prog = true := by kernel_rfl
theorem gLarge : Tryd.prog.globalNamed "augur/api.ErrLarge" = some 1 := by kernel_rfl
theorem gData : Tryd.prog.globalNamed "augur/api.ErrData" = some 2 := by kernel_rfl
theorem tLarge : (Tryd.prog.globals[1]?).map (·.type) = some 33 := by kernel_rfl
theorem tData : (Tryd.prog.globals[2]?).map (·.type) = some 33 := by kernel_rfl
theorem cells82 : Tryd.prog.cellsOf 82 = 1 := by kernel_rfl
theorem star : "*" ++ "errors.errorString" = "*errors.errorString" := by decide
theorem row64 (u : TypeId) (h : Tryd.prog.typeName? 3 u = some "*errors.errorString") : u = 64 :=
  typeName_ptr_named (nm := "errors.errorString") (by rw [star]; kernel_rfl) (by kernel_rfl) (by decide) u (by rw [star]; exact h)

theorem glob_of_laid {W : World} {r : List (String × DataW Unit)} (hL : laidMet Tryd.prog (("augur/api.ErrLarge", Rows.laid_augur_api_ErrLarge) :: ("augur/api.ErrData", Rows.laid_augur_api_ErrData) :: r) W) :
    ∃ xL xD, Glob W 64 xL xD := by
  obtain ⟨a0, s0, hv0, _⟩ := laid_sentinel hL gLarge tLarge Tryd.underlying33 row64 Tryd.underlying64 Tryd.underlying82 rfl rfl Tryd.underlying9 cells82 cells9
  obtain ⟨a1, s1, hv1, _⟩ := laid_sentinel hL.tail gData tData Tryd.underlying33 row64 Tryd.underlying64 Tryd.underlying82 rfl rfl Tryd.underlying9 cells82 cells9
  have c0 := World.var?_cell gLarge hv0 0
  have c1 := World.var?_cell gData hv1 0
  refine ⟨_, _, by simpa using c0, by simpa using c1, ?_⟩
  rcases Nat.lt_or_ge 2 W.heap.size with h | h
  · exact h
  · simp only [World.cell?, Array.getElem?_eq_none h] at c1
    simp at c1

/-- WHAT THE WALK GIVES, for every argument and every world that holds the listed variables. -/
theorem dataSizes_contract (H : Type) (enc : TypeId × Value → H) (W : World) (base : Nat) (args : Array Value) (ds gs : List (DataW H)) (before : List MemPlace)
    (hval : ∀ (j : Nat) t v, Tryd.f3.params[j]? = some t → args[j]? = some v → Value.okWide Tryd.prog W .any base t v)
    (hW : DataW.Whole enc Tryd.prog Tryd.f3.params.toList Rows.dataSizesSpec.vars false W args.toList ds gs before) (hL : laidMetH Tryd.prog Rows.dataSizesRow.laid W) :
    Calls Tryd.prog 3 args W fun e W' => ∃ v, e = .returned v ∧ Rows.dataSizesSpec.post enc Tryd.prog Tryd.f3 false true false false W args v W' := by
  have hW' := hW
  obtain ⟨p, q, hA0, hV, rfl, hfz, hnd⟩ := hW
  have hA : DataW.TrodAll enc Tryd.prog W 0 (fun _ => true) true Tryd.f3.params.toList args.toList ds p := hA0
  rw [Tryd.params3] at hA hval
  obtain ⟨v0, vs0, d0, ds0, p0, q0, hargs, rfl, rfl, h0, r0⟩ := trodAll_cons hA
  obtain ⟨rfl, rfl, rfl⟩ := trodAll_nil r0
  obtain rfl : args = #[v0] := by cases args; simp_all
  obtain ⟨rfl, rfl⟩ := trodVars_none hV
  obtain ⟨cs, rfl, hcs⟩ := okWide_struct Tryd.underlying24 (hval 0 24 v0 rfl rfl)
  have k0 := h0
  have lt0 : ∀ x ∈ p0, x.block < W.heap.size := by obtain ⟨m, hm⟩ := k0; exact DataW.trod_lt m _ _ _ hm
  obtain ⟨fuel, hf⟩ := h0
  obtain ⟨d, hr, _⟩ := rep_of_trod fuel _ _ hf
  obtain ⟨xL, xD, hg⟩ := glob_of_laid (r := []) hL
  clear hA0 hval
  have hrun := DataSizes_spec 64 xL xD d W.heap.size W cs.toList hr (Nat.le_refl _) hg
  rw [Array.toArray_toList] at hrun
  refine hrun.mono fun e W' ⟨he, bel⟩ => ?_
  subst he
  exact ⟨_, rfl, _, _, _, [], _, [], hW', trodAll_mk1 (shut_bool Tryd.underlying4 _), (trodAll_cons_mk (Below.trod laidOut (by kernel_rfl) (of_decide_eq_true (by kernel_rfl)) k0 bel lt0) trodAll_mk0), rfl, bel.frame _, fun h => by cases h⟩

theorem laid_met (os : Os) (args : Array Value) : laidMet Tryd.prog Rows.dataSizesRow.laid ((World.doorLaid Tryd.prog 400 os).forCall (fun _ _ => 0) ⟨#[], args, []⟩).memory :=
  laidMet_of_run' 8 (by kernel_rfl) (by kernel_rfl)

set_option maxRecDepth 100000 in
theorem dataSizes_lifted (os : Os) (started : os.Started) (H : Type) (enc : TypeId × Value → H) (F : Stop.Interp) :
    ReturnsInHanded {} Tryd.checked os 3 .any ((OpenSpec.ofChange Rows.dataSizesSpec).preRow enc Tryd.prog Tryd.f3 Rows.dataSizesRow.domain false Rows.dataSizesRow.laid) (((OpenSpec.ofChange Rows.dataSizesSpec).at F).post enc Tryd.prog Tryd.f3 false true false false) := by
  have hw : (DataW.whole enc Tryd.prog ((World.doorLaid Tryd.prog 400 os).forCall (fun _ _ => 0) ⟨#[], #[.agg #[.bool false, .int .i64 0, .string ⟨#[]⟩, .slice none 0 0]], []⟩).memory Tryd.f3.params.toList Rows.dataSizesSpec.vars false #[Value.agg #[.bool false, .int .i64 0, .string ⟨#[]⟩, .slice none 0 0]].toList 8).map (fun x => (x.1, x.2.1)) =
      some ([.agg [.lit (.bool false), .lit (.int .i64 0), .lit (.string []), .nil]], []) := by kernel_rfl
  obtain ⟨⟨x1, x2, x3⟩, hx, hx1⟩ := Option.map_eq_some_iff.1 hw
  simp only [Prod.mk.injEq] at hx1
  obtain ⟨rfl, rfl⟩ := hx1
  refine returnsInHanded_of_row (C := Tryd.checked) (s := OpenSpec.ofChange Rows.dataSizesSpec) own started (by kernel_rfl) Tryd.func3
    (witness_row_atRef (enc := enc) (C := Tryd.checked) false (World.doorLaid Tryd.prog 400 os) #[.agg #[.bool false, .int .i64 0, .string ⟨#[]⟩, .slice none 0 0]] rfl (by kernel_rfl) (by kernel_rfl) (by kernel_rfl)
      (OpenSpec.preRow_of_cond 8 hx (by kernel_rfl) (fun k hk => by cases hk) (by kernel_rfl) (laid_met os _))) ?_
  intro W base args ds gs before hval hW _ _ _ hL _ _
  exact dataSizes_contract H enc W base args ds gs before hval hW hL

theorem dataSizes_said : Rows.DataSizesSaid :=
  OpenClaim.holds_of_cond 3 Tryd.f3 rfl rfl rfl rfl rfl rfl rfl ⟨rfl, rfl, rfl, rfl, rfl⟩ rfl rfl rfl rfl rfl (by kernel_rfl) Tryd.func3 (by kernel_rfl)
    (of_decide_eq_true (by kernel_rfl)) (by unfold Func.isWrapper; first | (rw [if_pos (by decide +kernel)]; kernel_rfl) | (rw [if_neg (by decide +kernel)]; exact ⟨rfl, rfl⟩))
    (fun os started H enc _ F => by rw [OpenClaim.pre_eq_preRow]; exact dataSizes_lifted os started H enc F)

theorem dataSizes_plain (f : FuncId) (fn : Func) (hf : Tryd.pinned.checked.prog.funcNamed "augur/augurlaw10.DataSizes" = some f) (hfn : Tryd.pinned.checked.prog.funcs[f]? = some fn) :
    true = Tryd.pinned.checked.prog.looks [] ∧ ∀ (j : Nat) t, fn.params[j]? = some t → Tryd.pinned.checked.prog.wantsStandIn t = false := by
  obtain rfl : f = 3 := Option.some.inj ((show Tryd.prog.funcNamed "augur/augurlaw10.DataSizes" = some 3 by kernel_rfl).symm.trans hf) |>.symm
  obtain rfl : fn = Tryd.f3 := (Option.some.inj (Tryd.func3.symm.trans hfn)).symm
  refine ⟨by kernel_rfl, fun j t ht => ?_⟩
  rw [Tryd.params3] at ht
  obtain rfl : t = 24 := by simpa using Array.mem_of_getElem? ht
  exact (show Tryd.prog.wantsStandIn 24 = false by kernel_rfl)

end Go.Proofs.YtkplhlciocbecaaDoor.Vf

namespace Go.Proofs.YtkplhlciocbecaaDoor
theorem dataSizes_card : Rows.DataSizesCardSaid :=
  Claim7.holds_tied_plain_at .later [] _ _ _ _ Vf.dataSizes_said (fun _ h => by cases h) (by kernel_rfl) (fun _ h => by cases h) dataSizes_row_tie rfl ⟨rfl, rfl⟩ (by kernel_rfl) rfl Vf.dataSizes_plain (by kernel_rfl)
#print axioms dataSizes_card
end Go.Proofs.YtkplhlciocbecaaDoor
