/- augurlaw10.DataOrders: the row and its card. -/
import Derived.Test.YtkplhlciocbecaaDoorD1V
import Derived.Test.YtkplhlciocbecaaDoorD1T
namespace Go.Proofs.YtkplhlciocbecaaDoor.Vf
open Go.Vx Go.Vx.Da Go.RowKit Go.ChangeShapes Go.WideShapes Go.ChangeAt

theorem dataOrders_contract (H : Type) (enc : TypeId × Value → H) (W : World) (base : Nat) (args : Array Value) (ds gs : List (DataW H)) (before : List MemPlace)
    (hval : ∀ (j : Nat) t v, Tryd.f4.params[j]? = some t → args[j]? = some v → Value.okWide Tryd.prog W .any base t v)
    (hW : DataW.Whole enc Tryd.prog Tryd.f4.params.toList Rows.dataOrdersSpec.vars false W args.toList ds gs before) (hL : laidMetH Tryd.prog Rows.dataOrdersRow.laid W) :
    Calls Tryd.prog 4 args W fun e W' => ∃ v, e = .returned v ∧ Rows.dataOrdersSpec.post enc Tryd.prog Tryd.f4 false true false false W args v W' := by
  have hW' := hW
  obtain ⟨p, q, hA0, hV, rfl, hfz, hnd⟩ := hW
  have hA : DataW.TrodAll enc Tryd.prog W 0 (fun _ => true) true Tryd.f4.params.toList args.toList ds p := hA0
  have params4 : Tryd.f4.params = #[24, 24, 24] := rfl
  rw [params4] at hA hval
  obtain ⟨v0, vs0, d0, ds0, p0, q0, hargs, rfl, rfl, h0, r0⟩ := trodAll_cons hA
  obtain ⟨v1, vs1, d1, ds1, p1, q1, rfl, rfl, rfl, h1, r1⟩ := trodAll_cons r0
  obtain ⟨v2, vs2, d2, ds2, p2, q2, rfl, rfl, rfl, h2, r2⟩ := trodAll_cons r1
  obtain ⟨rfl, rfl, rfl⟩ := trodAll_nil r2
  obtain rfl : args = #[v0, v1, v2] := by cases args; simp_all
  obtain ⟨rfl, rfl⟩ := trodVars_none hV
  obtain ⟨cs, rfl, hcs⟩ := okWide_struct Tryd.underlying24 (hval 0 24 v0 rfl rfl)
  obtain ⟨cs1, rfl, hcs1⟩ := okWide_struct Tryd.underlying24 (hval 1 24 v1 rfl rfl)
  obtain ⟨cs2, rfl, hcs2⟩ := okWide_struct Tryd.underlying24 (hval 2 24 v2 rfl rfl)
  have k0 := h0
  have k1 := h1
  have k2 := h2
  have lt0 : ∀ x ∈ p0, x.block < W.heap.size := by obtain ⟨m, hm⟩ := k0; exact DataW.trod_lt m _ _ _ hm
  have lt1 : ∀ x ∈ p1, x.block < W.heap.size := by obtain ⟨m, hm⟩ := k1; exact DataW.trod_lt m _ _ _ hm
  have lt2 : ∀ x ∈ p2, x.block < W.heap.size := by obtain ⟨m, hm⟩ := k2; exact DataW.trod_lt m _ _ _ hm
  obtain ⟨fuel, hf⟩ := h0
  obtain ⟨d, hr, _⟩ := rep_of_trod fuel _ _ hf
  obtain ⟨fuel1, hf1⟩ := h1
  obtain ⟨e, hr1, _⟩ := rep_of_trod fuel1 _ _ hf1
  obtain ⟨fuel2, hf2⟩ := h2
  obtain ⟨f, hr2, _⟩ := rep_of_trod fuel2 _ _ hf2
  obtain ⟨xL, xD, hg⟩ := glob_of_laid (r := []) hL
  clear hA0 hval
  have hrun := DataOrders_spec 64 xL xD d e f W.heap.size W cs.toList cs1.toList cs2.toList hr hr1 hr2 (Nat.le_refl _) hg
  rw [Array.toArray_toList, Array.toArray_toList, Array.toArray_toList] at hrun
  refine hrun.mono fun e W' ⟨he, bel⟩ => ?_
  subst he
  exact ⟨_, rfl, _, _, _, [], _, [], hW', trodAll_mk1 (shut_bool Tryd.underlying4 _),
    (trodAll_cons_mk (Below.trod laidOut (by kernel_rfl) (of_decide_eq_true (by kernel_rfl)) k0 bel lt0)
      (trodAll_cons_mk (Below.trod laidOut (by kernel_rfl) (of_decide_eq_true (by kernel_rfl)) k1 bel lt1)
        (trodAll_cons_mk (Below.trod laidOut (by kernel_rfl) (of_decide_eq_true (by kernel_rfl)) k2 bel lt2) trodAll_mk0))), rfl, bel.frame _, fun h => by cases h⟩

theorem laid_metO (os : Os) (args : Array Value) : laidMet Tryd.prog Rows.dataOrdersRow.laid ((World.doorLaid Tryd.prog 400 os).forCall (fun _ _ => 0) ⟨#[], args, []⟩).memory :=
  laidMet_of_run' 8 (by kernel_rfl) (by kernel_rfl)

def wit : Value := .agg #[.bool false, .int .i64 0, .string ⟨#[]⟩, .slice none 0 0]
set_option maxRecDepth 100000 in
theorem dataOrders_lifted (os : Os) (started : os.Started) (H : Type) (enc : TypeId × Value → H) (F : Stop.Interp) :
    ReturnsInHanded {} Tryd.checked os 4 .any ((OpenSpec.ofChange Rows.dataOrdersSpec).preRow enc Tryd.prog Tryd.f4 Rows.dataOrdersRow.domain false Rows.dataOrdersRow.laid) (((OpenSpec.ofChange Rows.dataOrdersSpec).at F).post enc Tryd.prog Tryd.f4 false true false false) := by
  have hw : (DataW.whole enc Tryd.prog ((World.doorLaid Tryd.prog 400 os).forCall (fun _ _ => 0) ⟨#[], #[wit, wit, wit], []⟩).memory Tryd.f4.params.toList Rows.dataOrdersSpec.vars false #[wit, wit, wit].toList 8).map (fun x => (x.1, x.2.1)) =
      some ([.agg [.lit (.bool false), .lit (.int .i64 0), .lit (.string []), .nil], .agg [.lit (.bool false), .lit (.int .i64 0), .lit (.string []), .nil], .agg [.lit (.bool false), .lit (.int .i64 0), .lit (.string []), .nil]], []) := by kernel_rfl
  obtain ⟨⟨x1, x2, x3⟩, hx, hx1⟩ := Option.map_eq_some_iff.1 hw
  simp only [Prod.mk.injEq] at hx1
  obtain ⟨rfl, rfl⟩ := hx1
  refine returnsInHanded_of_row (C := Tryd.checked) (s := OpenSpec.ofChange Rows.dataOrdersSpec) own started (by kernel_rfl) Tryd.func4
    (witness_row_atRef (enc := enc) (C := Tryd.checked) false (World.doorLaid Tryd.prog 400 os) #[wit, wit, wit] rfl (by kernel_rfl) (by kernel_rfl) (by kernel_rfl)
      (OpenSpec.preRow_of_cond 8 hx (by kernel_rfl) (fun k hk => by cases hk) (by kernel_rfl) (laid_metO os _))) ?_
  intro W base args ds gs before hval hW _ _ _ hL _ _
  exact dataOrders_contract H enc W base args ds gs before hval hW hL

theorem dataOrders_said : Rows.DataOrdersSaid :=
  OpenClaim.holds_of_cond 4 Tryd.f4 rfl rfl rfl rfl rfl rfl rfl ⟨rfl, rfl, rfl, rfl, rfl⟩ rfl rfl rfl rfl rfl (by kernel_rfl) Tryd.func4 (by kernel_rfl)
    (of_decide_eq_true (by kernel_rfl)) (by unfold Func.isWrapper; first | (rw [if_pos (by decide +kernel)]; kernel_rfl) | (rw [if_neg (by decide +kernel)]; exact ⟨rfl, rfl⟩))
    (fun os started H enc _ F => by rw [OpenClaim.pre_eq_preRow]; exact dataOrders_lifted os started H enc F)

theorem dataOrders_plain (f : FuncId) (fn : Func) (hf : Tryd.pinned.checked.prog.funcNamed "augur/augurlaw10.DataOrders" = some f) (hfn : Tryd.pinned.checked.prog.funcs[f]? = some fn) :
    true = Tryd.pinned.checked.prog.looks [] ∧ ∀ (j : Nat) t, fn.params[j]? = some t → Tryd.pinned.checked.prog.wantsStandIn t = false := by
  obtain rfl : f = 4 := Option.some.inj ((show Tryd.prog.funcNamed "augur/augurlaw10.DataOrders" = some 4 by kernel_rfl).symm.trans hf) |>.symm
  obtain rfl : fn = Tryd.f4 := (Option.some.inj (Tryd.func4.symm.trans hfn)).symm
  refine ⟨by kernel_rfl, fun j t ht => ?_⟩
  have params4 : Tryd.f4.params = #[24, 24, 24] := rfl
  rw [params4] at ht
  obtain rfl : t = 24 := by simpa using Array.mem_of_getElem? ht
  exact (show Tryd.prog.wantsStandIn 24 = false by kernel_rfl)

end Go.Proofs.YtkplhlciocbecaaDoor.Vf

namespace Go.Proofs.YtkplhlciocbecaaDoor
theorem dataOrders_card : Rows.DataOrdersCardSaid :=
  Claim7.holds_tied_plain_at .later [] _ _ _ _ Vf.dataOrders_said (fun _ h => by cases h) (by kernel_rfl) (fun _ h => by cases h) dataOrders_row_tie rfl ⟨rfl, rfl⟩ (by kernel_rfl) rfl Vf.dataOrders_plain (by kernel_rfl)
#print axioms dataOrders_card
end Go.Proofs.YtkplhlciocbecaaDoor
