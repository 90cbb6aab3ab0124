/- augurlaw19.HeapStrange returns true for every input and leaves it as it was: the row and its card, the first form (conditions: the listed error variables hold what the program's text lays, as the card ties it). -/
import Derived.Test.YtfenhbjamohdgaaDoorS5
import Derived.Test.YtfenhbjamohdgaaDoorCards
import Derived.Test.YtfenhbjamohdgaaDoorTie
import Derived.WalkKit
import Derived.ProofKit
import Derived.OpenShut
import Derived.ChangeOld
import Derived.Lib.SmallJoins
import Derived.Deep.Slices
import Derived.Deep.DeepHandedRow
import Derived.Deep.DeepWitnessRowRef
import Derived.Lib.LaidTab
import Derived.LaidMore
import Derived.Stop.LaidErr
import Derived.Stop.LaidTwo
import Derived.Stop.Joined
/- part H3C -/
section
namespace Go.Proofs.YtfenhbjamohdgaaDoor.Vf
open Go.Vx Go.Vx.Hp Go.RowKit Go.ChangeShapes Go.WideShapes Go.ChangeAt

theorem own : ownKnob Tryd.prog.godebug = none := by kernel_rfl
theorem laidOut : laidOutB Tryd.prog = true := by kernel_rfl
theorem gHeap : Tryd.prog.globalNamed "augur/api.ErrHeap" = some 0 := by kernel_rfl
theorem gState : Tryd.prog.globalNamed "augur/api.ErrState" = some 1 := by kernel_rfl
theorem gLarge : Tryd.prog.globalNamed "augur/api.ErrLarge" = some 2 := by kernel_rfl
theorem tHeap : (Tryd.prog.globals[0]?).map (·.type) = some 26 := by kernel_rfl
theorem tState : (Tryd.prog.globals[1]?).map (·.type) = some 26 := by kernel_rfl
theorem tLarge : (Tryd.prog.globals[2]?).map (·.type) = some 26 := by kernel_rfl
theorem cells126 : Tryd.prog.cellsOf 126 = 1 := by kernel_rfl
theorem cells9 : Tryd.prog.cellsOf 9 = 1 := by kernel_rfl
theorem cells3 : Tryd.prog.cellsOf 3 = 1 := by kernel_rfl
theorem star : "*" ++ "errors.errorString" = "*errors.errorString" := by decide
theorem row109 (u : TypeId) (h : Tryd.prog.typeName? 3 u = some "*errors.errorString") : u = 109 :=
  typeName_ptr_named (nm := "errors.errorString") (by rw [star]; kernel_rfl) (by kernel_rfl) (by decide) u (by rw [star]; exact h)
theorem hi26 : ∃ ms, Tryd.prog.underlying 26 = some (.interface ms) := ⟨_, Tryd.underlying26⟩
theorem cmp109 : (Tryd.prog.info? 109).map (·.comparable) = some true := by kernel_rfl
theorem is126 : (Tryd.prog.info? 126).isSome = true := by kernel_rfl

theorem errTy : ErrTy 109 := by
  obtain ⟨ms, h1⟩ := hi26
  obtain ⟨i, h3, h4⟩ := Option.map_eq_some_iff.1 cmp109
  obtain ⟨j, h5⟩ := Option.isSome_iff_exists.1 is126
  exact ⟨fun w xo yo a => err_same h1 Tryd.underlying109 h3 h4 h5, fun w xo yo a => err_neq h1 Tryd.underlying109 h3 h4 h5⟩

theorem glob_of_laid {W : World} {r : List (String × DataW Unit)} (hL : laidMet Tryd.prog (("augur/api.ErrLarge", Rows.laid_augur_api_ErrLarge) :: ("augur/api.ErrHeap", Rows.laid_augur_api_ErrHeap) :: ("augur/api.ErrState", Rows.laid_augur_api_ErrState) :: r) W) :
    ∃ aH aS aL, Glob W 109 aH (.iface 109 (.pointer (some aS))) (.iface 109 (.pointer (some aL))) := by
  obtain ⟨a2, s2, hv2, _⟩ := laid_sentinel hL gLarge tLarge Tryd.underlying26 row109 Tryd.underlying109 Tryd.underlying126 rfl rfl Tryd.underlying9 cells126 cells9
  obtain ⟨a0, s0, hv0, _⟩ := laid_sentinel hL.tail gHeap tHeap Tryd.underlying26 row109 Tryd.underlying109 Tryd.underlying126 rfl rfl Tryd.underlying9 cells126 cells9
  obtain ⟨a1, s1, hv1, _⟩ := laid_sentinel hL.tail.tail gState tState Tryd.underlying26 row109 Tryd.underlying109 Tryd.underlying126 rfl rfl Tryd.underlying9 cells126 cells9
  have c0 := World.var?_cell gHeap hv0 0
  have c1 := World.var?_cell gState hv1 0
  have c2 := World.var?_cell gLarge hv2 0
  refine ⟨a0, a1, a2, by simpa using c0, by simpa using c1, by simpa using c2, ?_⟩
  rcases Nat.lt_or_ge 2 W.heap.size with h | h
  · exact h
  · simp only [World.cell?, Array.getElem?_eq_none h] at c2
    simp at c2

set_option maxRecDepth 100000 in
theorem heapStrange_contract (H : Type) (enc : TypeId × Value → H) (W : World) (base : Nat) (args : Array Value) (ds gs : List (DataW H)) (before : List MemPlace)
    (hval : ∀ (j : Nat) t v, Tryd.f6.params[j]? = some t → args[j]? = some v → Value.okWide Tryd.prog W .any base t v)
    (hW : DataW.Whole enc Tryd.prog Tryd.f6.params.toList Rows.heapStrangeSpec.vars false W args.toList ds gs before) (hL : laidMetH Tryd.prog Rows.heapStrangeRow.laid W) :
    Calls Tryd.prog 6 args W fun e W' => ∃ v, e = .returned v ∧ Rows.heapStrangeSpec.post enc Tryd.prog Tryd.f6 false true false false W args v W' := by
  have hW' := hW
  obtain ⟨p, q, hA0, hV, rfl, hfz, hnd⟩ := hW
  have hA : DataW.TrodAll enc Tryd.prog W 0 (fun _ => true) true Tryd.f6.params.toList args.toList ds p := hA0
  have params6 : Tryd.f6.params = #[3] := rfl
  rw [params6] at hA hval
  obtain ⟨v0, vs0, d0, ds0, p0, q0, hargs, rfl, rfl, h0, r0⟩ := trodAll_cons hA
  obtain ⟨rfl, rfl, rfl⟩ := trodAll_nil r0
  obtain rfl : args = #[v0] := by cases args; simp_all
  obtain ⟨rfl, rfl⟩ := trodVars_none hV
  obtain ⟨n0, rfl, rfl, rfl, w0⟩ := open_int Tryd.underlying3 (hval 0 3 v0 rfl rfl) h0
  obtain ⟨aH, aS, aL, hg⟩ := glob_of_laid (r := []) hL
  clear hA0 hval
  refine (HeapStrange_spec hg errTy n0).mono fun e W' ⟨he, bel⟩ => ?_
  subst he
  exact ⟨_, rfl, _, _, _, [], _, [], hW', trodAll_mk1 (shut_bool Tryd.underlying4 _),
    (trodAll_cons_mk (shut_int Tryd.underlying3 w0) trodAll_mk0), rfl, bel.frame _, fun h => by cases h⟩

theorem laid_metS (os : Os) (args : Array Value) : laidMet Tryd.prog Rows.heapStrangeRow.laid ((World.doorLaid Tryd.prog 400 os).forCall (fun _ _ => 0) ⟨#[], args, []⟩).memory :=
  laidMet_of_run' 8 (by kernel_rfl) (by kernel_rfl)

set_option maxRecDepth 100000 in
theorem heapStrange_lifted (os : Os) (started : os.Started) (H : Type) (enc : TypeId × Value → H) (F : Stop.Interp) :
    ReturnsInHanded {} Tryd.checked os 6 .any ((OpenSpec.ofChange Rows.heapStrangeSpec).preRow enc Tryd.prog Tryd.f6 Rows.heapStrangeRow.domain false Rows.heapStrangeRow.laid) (((OpenSpec.ofChange Rows.heapStrangeSpec).at F).post enc Tryd.prog Tryd.f6 false true false false) := by
  have hw : (DataW.whole enc Tryd.prog ((World.doorLaid Tryd.prog 400 os).forCall (fun _ _ => 0) ⟨#[], #[.int .i64 0], []⟩).memory Tryd.f6.params.toList Rows.heapStrangeSpec.vars false #[Value.int .i64 0].toList 8).map (fun x => (x.1, x.2.1)) =
      some ([.lit (.int .i64 0)], []) := by kernel_rfl
  obtain ⟨⟨x1, x2, x3⟩, hx, hx1⟩ := Option.map_eq_some_iff.1 hw
  simp only [Prod.mk.injEq] at hx1
  obtain ⟨rfl, rfl⟩ := hx1
  refine returnsInHanded_of_row (C := Tryd.checked) (s := OpenSpec.ofChange Rows.heapStrangeSpec) own started (by kernel_rfl) Tryd.func6
    (witness_row_atRef (enc := enc) (C := Tryd.checked) false (World.doorLaid Tryd.prog 400 os) #[.int .i64 0] rfl (by kernel_rfl) (by kernel_rfl) (by kernel_rfl)
      (OpenSpec.preRow_of_cond 8 hx (by kernel_rfl) (fun k hk => by cases hk) (by kernel_rfl) (laid_metS os _))) ?_
  intro W base args ds gs before hval hW _ _ _ hL _ _
  exact heapStrange_contract H enc W base args ds gs before hval hW hL

theorem heapStrange_said : Rows.HeapStrangeSaid :=
  OpenClaim.holds_of_cond 6 Tryd.f6 rfl rfl rfl rfl rfl rfl rfl ⟨rfl, rfl, rfl, rfl, rfl⟩ rfl rfl rfl rfl rfl (by kernel_rfl) Tryd.func6 (by kernel_rfl)
    (of_decide_eq_true (by kernel_rfl)) (by unfold Func.isWrapper; first | (rw [if_pos (by decide +kernel)]; kernel_rfl) | (rw [if_neg (by decide +kernel)]; exact ⟨rfl, rfl⟩))
    (fun os started H enc _ F => by rw [OpenClaim.pre_eq_preRow]; exact heapStrange_lifted os started H enc F)

theorem heapStrange_plain (f : FuncId) (fn : Func) (hf : Tryd.pinned.checked.prog.funcNamed "augur/augurlaw19.HeapStrange" = some f) (hfn : Tryd.pinned.checked.prog.funcs[f]? = some fn) :
    true = Tryd.pinned.checked.prog.looks [] ∧ ∀ (j : Nat) t, fn.params[j]? = some t → Tryd.pinned.checked.prog.wantsStandIn t = false := by
  obtain rfl : f = 6 := Option.some.inj ((show Tryd.prog.funcNamed "augur/augurlaw19.HeapStrange" = some 6 by kernel_rfl).symm.trans hf) |>.symm
  obtain rfl : fn = Tryd.f6 := (Option.some.inj (Tryd.func6.symm.trans hfn)).symm
  refine ⟨by kernel_rfl, fun j t ht => ?_⟩
  have params6 : Tryd.f6.params = #[3] := rfl
  rw [params6] at ht
  obtain rfl : t = 3 := by simpa using Array.mem_of_getElem? ht
  exact (show Tryd.prog.wantsStandIn 3 = false by kernel_rfl)

end Go.Proofs.YtfenhbjamohdgaaDoor.Vf

namespace Go.Proofs.YtfenhbjamohdgaaDoor
theorem heapStrange_card : Rows.HeapStrangeCardSaid :=
  Claim7.holds_tied_plain_at .later [] _ _ _ _ Vf.heapStrange_said (fun _ h => by cases h) (by kernel_rfl) (fun _ h => by cases h) heapStrange_row_tie rfl ⟨rfl, rfl⟩ (by kernel_rfl) rfl Vf.heapStrange_plain (by kernel_rfl)
#print axioms heapStrange_card
end Go.Proofs.YtfenhbjamohdgaaDoor
end
