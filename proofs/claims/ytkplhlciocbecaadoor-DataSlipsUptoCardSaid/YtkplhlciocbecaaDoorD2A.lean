/- augurlaw10.DataSlips: the row and its card, the second form. -/
import Derived.Test.YtkplhlciocbecaaDoorD1Y
import Derived.Test.YtkplhlciocbecaaDoorD1Z
namespace Go.Proofs.YtkplhlciocbecaaDoor.Vf
open Go.Vx Go.Vx.Da Go.RowKit Go.ChangeShapes Go.WideShapes Go.ChangeAt

theorem dataSlips_contract (H : Type) (enc : TypeId × Value → H) (W : World) (base : Nat) (args : Array Value) (ds gs : List (DataW H)) (before : List MemPlace)
    (hval : ∀ (j : Nat) t v, Tryd.f6.params[j]? = some t → args[j]? = some v → Value.okWide Tryd.prog W .any base t v)
    (hW : DataW.Whole enc Tryd.prog Tryd.f6.params.toList Rows.dataSlipsSpec.vars false W args.toList ds gs before) (hL : laidMetH Tryd.prog Rows.dataSlipsRow.laid W) (hk : Rows.uptoSmall H (ds ++ gs) = true) :
    Calls Tryd.prog 6 args W fun e W' => ∃ v, e = .returned v ∧ Rows.dataSlipsSpec.post enc Tryd.prog Tryd.f6 false true false false W args v W' := by
  have hW' := hW
  obtain ⟨p, q, hA0, hV, rfl, hfz, hnd⟩ := hW
  have hA : DataW.TrodAll enc Tryd.prog W 0 (fun _ => true) true Tryd.f6.params.toList args.toList ds p := hA0
  have params6 : Tryd.f6.params = #[24, 3, 30] := rfl
  rw [params6] at hA hval
  obtain ⟨v0, vs0, d0, ds0, p0, q0, hargs, rfl, rfl, h0, r0⟩ := trodAll_cons hA
  obtain ⟨v1, vs1, d1, ds1, p1, q1, rfl, rfl, rfl, h1, r1⟩ := trodAll_cons r0
  obtain ⟨v2, vs2, d2, ds2, p2, q2, rfl, rfl, rfl, h2, r2⟩ := trodAll_cons r1
  obtain ⟨rfl, rfl, rfl⟩ := trodAll_nil r2
  obtain rfl : args = #[v0, v1, v2] := by cases args; simp_all
  obtain ⟨rfl, rfl⟩ := trodVars_none hV
  obtain ⟨cs0, rfl, hcs0⟩ := okWide_struct Tryd.underlying24 (hval 0 24 v0 rfl rfl)
  obtain ⟨n1, rfl, rfl, rfl, w1⟩ := open_int Tryd.underlying3 (hval 1 3 v1 rfl rfl) h1
  have k0 := h0
  have k2 := h2
  have lt0 : ∀ x ∈ p0, x.block < W.heap.size := by obtain ⟨m, hm⟩ := k0; exact DataW.trod_lt m _ _ _ hm
  have lt2 : ∀ x ∈ p2, x.block < W.heap.size := by obtain ⟨m, hm⟩ := k2; exact DataW.trod_lt m _ _ _ hm
  obtain ⟨fuel, hf⟩ := h0
  obtain ⟨d, hr, _⟩ := rep_of_trod fuel _ _ hf
  obtain ⟨fuel2, hf2⟩ := h2
  obtain ⟨a, c, L, hcs, hsl, hcm, hbulk⟩ := bytes_of_trod hf2
  obtain ⟨a', l', c', rfl⟩ := okWide_slice Tryd.underlying30 (hval 2 30 v2 rfl rfl)
  have hcs' : [Value.slice a' l' c'] = [Value.slice a L.length c] := hcs
  simp only [List.cons.injEq, Value.slice.injEq, and_true] at hcs'
  obtain ⟨rfl, rfl, rfl⟩ := hcs'
  have hLn : L.length ≤ 1048576 := by
    have hk' := hk
    simp only [Rows.uptoSmall, List.append_nil, Rows.uptoBulkAll, decide_eq_true_eq] at hk'
    simp only at hbulk
    omega
  obtain ⟨xL, xD, aB, hg, hE⟩ := glob3_of_laid hL
  clear hA0 hval
  have hrun := DataSlips_spec 64 xL xD aB d n1 L W.heap.size W cs0.toList a' c' hr hsl (Nat.le_refl _) hLn hg hE
  rw [Array.toArray_toList] at hrun
  refine hrun.mono fun e W' ⟨he, bel⟩ => ?_
  subst he
  exact ⟨_, rfl, _, _, _, [], _, [], hW', trodAll_mk1 (shut_bool Tryd.underlying4 _),
    (trodAll_cons_mk (Below.trod laidOut (by kernel_rfl) (of_decide_eq_true (by kernel_rfl)) k0 bel lt0)
      (trodAll_cons_mk (shut_int Tryd.underlying3 w1)
        (trodAll_cons_mk (Below.trod laidOut (by kernel_rfl) (of_decide_eq_true (by kernel_rfl)) k2 bel lt2) trodAll_mk0))), rfl, bel.frame _, fun h => by cases h⟩

theorem laid_metS (os : Os) (args : Array Value) : laidMet Tryd.prog Rows.dataSlipsUptoRow.laid ((World.doorLaid Tryd.prog 400 os).forCall (fun _ _ => 0) ⟨#[], args, []⟩).memory :=
  laidMet_of_run' 8 (by kernel_rfl) (by kernel_rfl)

set_option maxRecDepth 100000 in
theorem dataSlips_lifted (os : Os) (started : os.Started) (H : Type) (enc : TypeId × Value → H) (F : Stop.Interp) :
    ReturnsInHanded {} Tryd.checked os 6 .any ((Rows.OpenSpec.upto Rows.dataSlipsSpec).preRow enc Tryd.prog Tryd.f6 Rows.dataSlipsUptoRow.domain false Rows.dataSlipsUptoRow.laid) (((Rows.OpenSpec.upto Rows.dataSlipsSpec).at F).post enc Tryd.prog Tryd.f6 false true false false) := by
  have hw : (DataW.whole enc Tryd.prog ((World.doorLaid Tryd.prog 400 os).forCall (fun _ _ => 0) ⟨#[], #[.agg #[.bool false, .int .i64 0, .string ⟨#[]⟩, .slice none 0 0], .int .i64 0, .slice none 0 0], []⟩).memory Tryd.f6.params.toList Rows.dataSlipsSpec.vars false #[Value.agg #[.bool false, .int .i64 0, .string ⟨#[]⟩, .slice none 0 0], .int .i64 0, .slice none 0 0].toList 8).map (fun x => (x.1, x.2.1)) =
      some ([.agg [.lit (.bool false), .lit (.int .i64 0), .lit (.string []), .nil], .lit (.int .i64 0), .nil], []) := by kernel_rfl
  obtain ⟨⟨x1, x2, x3⟩, hx, hx1⟩ := Option.map_eq_some_iff.1 hw
  simp only [Prod.mk.injEq] at hx1
  obtain ⟨rfl, rfl⟩ := hx1
  refine returnsInHanded_of_row (C := Tryd.checked) (s := Rows.OpenSpec.upto Rows.dataSlipsSpec) own started (by kernel_rfl) Tryd.func6
    (witness_row_atRef (enc := enc) (C := Tryd.checked) false (World.doorLaid Tryd.prog 400 os) #[.agg #[.bool false, .int .i64 0, .string ⟨#[]⟩, .slice none 0 0], .int .i64 0, .slice none 0 0] rfl (by kernel_rfl) (by kernel_rfl) (by kernel_rfl)
      (OpenSpec.preRow_of_cond 8 hx (by kernel_rfl) (fun k hk => by cases hk; kernel_rfl) (by kernel_rfl) (laid_metS os _))) ?_
  intro W base args ds gs before hval hW h1 h2 h3 hL h4 h5
  exact dataSlips_contract H enc W base args ds gs before hval hW hL (h2 _ rfl)

theorem dataSlips_said : Rows.DataSlipsUptoSaid :=
  OpenClaim.holds_of_cond 6 Tryd.f6 rfl rfl rfl rfl rfl rfl rfl ⟨rfl, rfl, rfl, rfl, rfl⟩ rfl rfl rfl rfl rfl (by kernel_rfl) Tryd.func6 (by kernel_rfl)
    (of_decide_eq_true (by kernel_rfl)) (by unfold Func.isWrapper; first | (rw [if_pos (by decide +kernel)]; kernel_rfl) | (rw [if_neg (by decide +kernel)]; exact ⟨rfl, rfl⟩))
    (fun os started H enc _ F => by rw [OpenClaim.pre_eq_preRow]; exact dataSlips_lifted os started H enc F)

theorem dataSlips_plain (f : FuncId) (fn : Func) (hf : Tryd.pinned.checked.prog.funcNamed "augur/augurlaw10.DataSlips" = some f) (hfn : Tryd.pinned.checked.prog.funcs[f]? = some fn) :
    true = Tryd.pinned.checked.prog.looks [] ∧ ∀ (j : Nat) t, fn.params[j]? = some t → Tryd.pinned.checked.prog.wantsStandIn t = false := by
  obtain rfl : f = 6 := Option.some.inj ((show Tryd.prog.funcNamed "augur/augurlaw10.DataSlips" = some 6 by kernel_rfl).symm.trans hf) |>.symm
  obtain rfl : fn = Tryd.f6 := (Option.some.inj (Tryd.func6.symm.trans hfn)).symm
  refine ⟨by kernel_rfl, fun j t ht => ?_⟩
  have params6 : Tryd.f6.params = #[24, 3, 30] := rfl
  rw [params6] at ht
  have h3 : t = 24 ∨ t = 3 ∨ t = 30 := by simpa using Array.mem_of_getElem? ht
  rcases h3 with rfl | rfl | rfl
  · exact (show Tryd.prog.wantsStandIn 24 = false by kernel_rfl)
  · exact (show Tryd.prog.wantsStandIn 3 = false by kernel_rfl)
  · exact (show Tryd.prog.wantsStandIn 30 = false by kernel_rfl)

end Go.Proofs.YtkplhlciocbecaaDoor.Vf

namespace Go.Proofs.YtkplhlciocbecaaDoor
theorem dataSlipsUpto_card : Rows.DataSlipsUptoCardSaid :=
  Claim7.holds_tied_plain_at .later [] _ _ _ _ Vf.dataSlips_said (fun _ h => by cases h) (by kernel_rfl) (fun _ h => by cases h) dataSlipsUpto_row_tie rfl ⟨rfl, rfl⟩ (by kernel_rfl) rfl Vf.dataSlips_plain (by kernel_rfl)
#print axioms dataSlipsUpto_card
end Go.Proofs.YtkplhlciocbecaaDoor
