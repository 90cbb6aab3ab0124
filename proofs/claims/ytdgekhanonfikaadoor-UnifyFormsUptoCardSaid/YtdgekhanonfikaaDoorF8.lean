/- augurlaw06.UnifyForms returns true for every input of bulk at most 1048576, and leaves it as it was: the row and its card, the second form (conditions: the listed error variables hold what the program's text lays, as the card ties it). -/
import Derived.Test.YtdgekhanonfikaaDoorF7
/- part U5V -/
section
namespace Go.Proofs.YtdgekhanonfikaaDoor.Va
open Go.Vx Go.Av Go.Uni Go.RowKit Go.ChangeShapes Go.WideShapes Go.ChangeAt
def unifyForms_es : List (String × Nat × List UInt8) := [("augur/api.ErrLarge", 0, [97, 117, 103, 117, 114, 58, 32, 108, 97, 114, 103, 101]), ("augur/api.ErrTypes", 2, [97, 117, 103, 117, 114, 58, 32, 116, 121, 112, 101, 115]), ("augur/api.ErrState", 1, [97, 117, 103, 117, 114, 58, 32, 115, 116, 97, 116, 101])]
theorem unifyForms_errs {W : World} (h : laidMet Tryd.prog Rows.unifyFormsUptoRow.laid W) : ∃ G, ErrOk ax.P ax.gs ax.ift ax.tabs G ∧ ∀ β, Sim ax.gs G W (fun b _ => b < W.heap.size) β (mkS []) := by
  obtain ⟨ms, f, i, j, T⟩ := errTab
  have htb := tab_of (h.tail.tail)
  refine errs_tabs T (es := unifyForms_es) (r := []) (h.tail.tail.tail) ?_ ?_ (by decide) (by decide) (fun p hp => ⟨by rw [(htb p hp).1]; decide, (htb p hp).2⟩) (by decide)
  · intro e he
    simp only [unifyForms_es, List.mem_cons, List.not_mem_nil, or_false] at he
    rcases he with rfl | rfl | rfl <;> exact ⟨by kernel_rfl, by kernel_rfl⟩
  · intro g hg
    have : g ∈ unifyForms_es.map fun e => e.2.1 := (show ∀ g ∈ ax.gs, g ∈ unifyForms_es.map fun e => e.2.1 by decide) g hg
    obtain ⟨e, he, hh⟩ := List.mem_map.1 this
    exact ⟨e, he, hh⟩
set_option maxRecDepth 100000 in
theorem unifyForms_contract (H : Type) (enc : TypeId × Value → H) (W : World) (base : Nat) (args : Array Value) (ds gs : List (DataW H)) (before : List MemPlace)
    (hval : ∀ (j : Nat) t v, Tryd.f7.params[j]? = some t → args[j]? = some v → Value.okWide Tryd.prog W .any base t v)
    (hW : DataW.Whole enc Tryd.prog Tryd.f7.params.toList Rows.unifyFormsSpec.vars false W args.toList ds gs before) (hL : laidMetH Tryd.prog Rows.unifyFormsUptoRow.laid W) (hk : Rows.uptoSmall H (ds ++ gs) = true) :
    Calls Tryd.prog 7 args W fun e W' => ∃ v, e = .returned v ∧ Rows.unifyFormsSpec.post enc Tryd.prog Tryd.f7 false true false false W args v W' := by
  have hW' := hW
  obtain ⟨p, q, hA0, hV, rfl, _, _⟩ := hW
  have hA : DataW.TrodAll enc Tryd.prog W 0 (fun _ => true) true Tryd.f7.params.toList args.toList ds p := hA0
  have hparams : Tryd.f7.params = #[27, 54] := rfl
  rw [hparams] at hA hval
  obtain ⟨v0, vs0, d0, ds0, p0, q0, hargs, rfl, rfl, h0, r0⟩ := trodAll_cons hA
  obtain ⟨v1, vs1, d1, ds1, p1, q1, rfl, rfl, rfl, h1, r1⟩ := trodAll_cons r0
  obtain ⟨rfl, rfl, rfl⟩ := trodAll_nil r1
  obtain rfl : args = #[v0, v1] := by cases args; simp_all
  obtain ⟨rfl, rfl⟩ := trodVars_none hV
  have hsm : Rows.uptoBulk d0 + Rows.uptoBulk d1 ≤ 1048576 := by simpa [Rows.uptoSmall, Rows.uptoBulkAll, Nat.add_assoc] using hk
  obtain ⟨G, hE, hS⟩ := unifyForms_errs hL
  obtain ⟨a0, l0, c0, rfl⟩ := okWide_slice Tryd.underlying27 (hval 0 27 v0 rfl rfl)
  obtain ⟨a1, l1, c1, rfl⟩ := okWide_slice Tryd.underlying54 (hval 1 54 v1 rfl rfl)
  have k0 := h0
  have lt0 : ∀ x ∈ p0, x.block < W.heap.size := by obtain ⟨m, hm⟩ := k0; exact DataW.trod_lt m _ _ _ hm
  obtain ⟨fuel0, hf0⟩ := h0
  obtain ⟨us0, ok0, rl0⟩ := data_of_trod (gs := ax.gs) (G := G) datOk bulkOk fuel0 27 _ _ (by simp [Ds]) hf0
  replace ok0 : okV Tryd.prog fuel0 27 us0 (Rows.uptoBulk d0) := ok0
  obtain ⟨xs0, rfl, xw0, xv0⟩ := ok_tms ok0
  obtain ⟨w0, ws0, e0, x0, y0⟩ := rl0.cons_inv
  obtain rfl := y0.nil_inv
  obtain rfl := (List.cons.inj e0).1
  have k1 := h1
  have lt1 : ∀ x ∈ p1, x.block < W.heap.size := by obtain ⟨m, hm⟩ := k1; exact DataW.trod_lt m _ _ _ hm
  obtain ⟨fuel1, hf1⟩ := h1
  obtain ⟨us1, ok1, rl1⟩ := data_of_trod (gs := ax.gs) (G := G) datOk bulkOk fuel1 54 _ _ (by simp [Ds]) hf1
  replace ok1 : okV Tryd.prog fuel1 54 us1 (Rows.uptoBulk d1) := ok1
  obtain ⟨zs1, rfl, zw1⟩ := ok_tes ok1
  obtain ⟨w1, ws1, e1, x1, y1⟩ := rl1.cons_inv
  obtain rfl := y1.nil_inv
  obtain rfl := (List.cons.inj e1).1
  clear hA0 hval
  refine (law_run (Forms_spec xs0 zs1 (by have hb : big = 1099511627776 := rfl; omega) xv0 (by have hb : big = 1099511627776 := rfl; omega)) hE hS (.cons (.fz _ _ x0) (.cons (.fz _ _ x1) .nil))).mono fun e W' ⟨he, bel⟩ => ?_
  subst he
  exact ⟨_, rfl, _, _, _, [], _, [], hW', trodAll_mk1 (shut_bool Tryd.underlying4 _), (trodAll_cons_mk (Below.trod laidOut (by kernel_rfl) (of_decide_eq_true (by kernel_rfl)) k0 bel lt0) (trodAll_cons_mk (Below.trod laidOut (by kernel_rfl) (of_decide_eq_true (by kernel_rfl)) k1 bel lt1) trodAll_mk0)), rfl, bel.frame _, fun h => by cases h⟩
theorem unifyForms_met (os : Os) (args : Array Value) : laidMet Tryd.prog Rows.unifyFormsUptoRow.laid ((World.doorLaid Tryd.prog 400 os).forCall (fun _ _ => 0) ⟨#[], args, []⟩).memory :=
  laidMet_of_run' 8 (by kernel_rfl) (by kernel_rfl)
set_option maxRecDepth 100000 in
theorem unifyForms_lifted (os : Os) (started : os.Started) (H : Type) (enc : TypeId × Value → H) (F : Stop.Interp) :
    ReturnsInHanded {} Tryd.checked os 7 .any ((Rows.OpenSpec.upto Rows.unifyFormsSpec).preRow enc Tryd.prog Tryd.f7 Rows.unifyFormsUptoRow.domain false Rows.unifyFormsUptoRow.laid) (((Rows.OpenSpec.upto Rows.unifyFormsSpec).at F).post enc Tryd.prog Tryd.f7 false true false false) := by
  have hw : (DataW.whole enc Tryd.prog ((World.doorLaid Tryd.prog 400 os).forCall (fun _ _ => 0) ⟨#[], #[.slice none 0 0, .slice none 0 0], []⟩).memory Tryd.f7.params.toList Rows.unifyFormsSpec.vars false #[.slice none 0 0, .slice none 0 0].toList 8).map (fun x => (x.1, x.2.1)) =
      some ([.nil, .nil], []) := by kernel_rfl
  obtain ⟨⟨x1, x2, x3⟩, hx, hx1⟩ := Option.map_eq_some_iff.1 hw
  simp only [Prod.mk.injEq] at hx1
  obtain ⟨rfl, rfl⟩ := hx1
  refine returnsInHanded_of_row (C := Tryd.checked) (s := Rows.OpenSpec.upto Rows.unifyFormsSpec) own started (by kernel_rfl) Tryd.func7
    (witness_row_atRef (enc := enc) (C := Tryd.checked) false (World.doorLaid Tryd.prog 400 os) #[.slice none 0 0, .slice none 0 0] rfl (by kernel_rfl) (by kernel_rfl) (by kernel_rfl)
      (OpenSpec.preRow_of_cond 8 hx (by kernel_rfl) (fun k hk => by cases hk; kernel_rfl) (by kernel_rfl) (unifyForms_met os _))) ?_
  intro W base args ds gs before hval hW h1 h2 h3 hL h4 h5
  exact unifyForms_contract H enc W base args ds gs before hval hW hL (h2 _ rfl)
theorem unifyForms_said : Rows.UnifyFormsUptoSaid :=
  OpenClaim.holds_of_cond 7 Tryd.f7 rfl rfl rfl rfl rfl rfl rfl ⟨rfl, rfl, rfl, rfl, rfl⟩ rfl rfl rfl rfl rfl (by kernel_rfl) Tryd.func7 (by kernel_rfl)
    (of_decide_eq_true (by kernel_rfl)) (by unfold Func.isWrapper; first | (rw [if_pos (by decide +kernel)]; kernel_rfl) | (rw [if_neg (by decide +kernel)]; exact ⟨rfl, rfl⟩))
    (fun os started H enc _ F => by rw [OpenClaim.pre_eq_preRow]; exact unifyForms_lifted os started H enc F)
theorem unifyForms_plain (f : FuncId) (fn : Func) (hf : Tryd.pinned.checked.prog.funcNamed "augur/augurlaw06.UnifyForms" = some f) (hfn : Tryd.pinned.checked.prog.funcs[f]? = some fn) :
    true = Tryd.pinned.checked.prog.looks [] ∧ ∀ (j : Nat) t, fn.params[j]? = some t → Tryd.pinned.checked.prog.wantsStandIn t = false := by
  obtain rfl : f = 7 := Option.some.inj ((show Tryd.prog.funcNamed "augur/augurlaw06.UnifyForms" = some 7 by kernel_rfl).symm.trans hf) |>.symm
  obtain rfl : fn = Tryd.f7 := (Option.some.inj (Tryd.func7.symm.trans hfn)).symm
  refine ⟨by kernel_rfl, fun j t ht => ?_⟩
  have hparams : Tryd.f7.params = #[27, 54] := rfl
  rw [hparams] at ht
  have h3 : t = 27 ∨ t = 54 := by simpa [or_comm] using Array.mem_of_getElem? ht
  rcases h3 with rfl | rfl
  · exact (show Tryd.prog.wantsStandIn 27 = false by kernel_rfl)
  · exact (show Tryd.prog.wantsStandIn 54 = false by kernel_rfl)
end Go.Proofs.YtdgekhanonfikaaDoor.Va
namespace Go.Proofs.YtdgekhanonfikaaDoor
theorem unifyFormsUpto_card : Rows.UnifyFormsUptoCardSaid :=
  Claim7.holds_tied_plain_at .later [] _ _ _ _ Va.unifyForms_said (fun _ h => by cases h) (by kernel_rfl) (fun _ h => by cases h) unifyFormsUpto_row_tie rfl ⟨rfl, rfl⟩ (by kernel_rfl) rfl Va.unifyForms_plain (by kernel_rfl)
#print axioms unifyFormsUpto_card
end Go.Proofs.YtdgekhanonfikaaDoor
end
