/- augurlaw06.UnifyTurns returns true for every input of bulk at most 1048576, and leaves it as it was: the row and its card, the second form (conditions: the listed error variables hold what the program's text lays, as the card ties it). -/
import Derived.Test.YtdgekhanonfikaaDoorT6
/- part U4T -/
section
namespace Go.Proofs.YtdgekhanonfikaaDoor.Va
open Go.Vx Go.Av Go.Uni Go.RowKit Go.ChangeShapes Go.WideShapes Go.ChangeAt
def unifyTurns_es : List (String × Nat × List UInt8) := [("augur/api.ErrText", 3, [97, 117, 103, 117, 114, 58, 32, 116, 101, 120, 116]), ("augur/api.ErrSyntax", 4, [97, 117, 103, 117, 114, 58, 32, 115, 121, 110, 116, 97, 120]), ("augur/api.ErrNest", 5, [97, 117, 103, 117, 114, 58, 32, 110, 101, 115, 116]), ("augur/api.ErrLarge", 0, [97, 117, 103, 117, 114, 58, 32, 108, 97, 114, 103, 101]), ("augur/api.ErrNames", 6, [97, 117, 103, 117, 114, 58, 32, 110, 97, 109, 101, 115]), ("augur/api.ErrTypes", 2, [97, 117, 103, 117, 114, 58, 32, 116, 121, 112, 101, 115]), ("augur/api.ErrModes", 7, [97, 117, 103, 117, 114, 58, 32, 109, 111, 100, 101, 115]), ("augur/api.ErrDet", 8, [97, 117, 103, 117, 114, 58, 32, 100, 101, 116, 101, 114, 109, 105, 110, 105, 115, 109]), ("augur/api.ErrNone", 9, [97, 117, 103, 117, 114, 58, 32, 110, 111, 110, 101]), ("augur/api.ErrData", 10, [97, 117, 103, 117, 114, 58, 32, 100, 97, 116, 97]), ("augur/api.ErrBytes", 11, [97, 117, 103, 117, 114, 58, 32, 98, 121, 116, 101, 115]), ("augur/api.ErrCode", 12, [97, 117, 103, 117, 114, 58, 32, 99, 111, 100, 101]), ("augur/api.ErrFuel", 13, [97, 117, 103, 117, 114, 58, 32, 102, 117, 101, 108]), ("augur/api.ErrHeap", 14, [97, 117, 103, 117, 114, 58, 32, 104, 101, 97, 112]), ("augur/api.ErrFrames", 15, [97, 117, 103, 117, 114, 58, 32, 102, 114, 97, 109, 101, 115]), ("augur/api.ErrState", 1, [97, 117, 103, 117, 114, 58, 32, 115, 116, 97, 116, 101])]
theorem unifyTurns_errs {W : World} (h : laidMet Tryd.prog Rows.unifyTurnsUptoRow.laid W) : ∃ G, ErrOk ax.P ax.gs ax.ift ax.tabs G ∧ ∀ β, Sim ax.gs G W (fun b _ => b < W.heap.size) β (mkS []) := by
  obtain ⟨ms, f, i, j, T⟩ := errTab
  refine errs_of_laid T (es := unifyTurns_es) (r := []) h ?_ ?_ (by decide) (by decide) rfl
  · intro e he
    simp only [unifyTurns_es, List.mem_cons, List.not_mem_nil, or_false] at he
    rcases he with rfl | rfl | rfl | rfl | rfl | rfl | rfl | rfl | rfl | rfl | rfl | rfl | rfl | rfl | rfl | rfl <;> exact ⟨by kernel_rfl, by kernel_rfl⟩
  · intro g hg
    have : g ∈ unifyTurns_es.map fun e => e.2.1 := (show ∀ g ∈ ax.gs, g ∈ unifyTurns_es.map fun e => e.2.1 by decide) g hg
    obtain ⟨e, he, hh⟩ := List.mem_map.1 this
    exact ⟨e, he, hh⟩
set_option maxRecDepth 100000 in
theorem unifyTurns_contract (H : Type) (enc : TypeId × Value → H) (W : World) (base : Nat) (args : Array Value) (ds gs : List (DataW H)) (before : List MemPlace)
    (hval : ∀ (j : Nat) t v, Tryd.f6.params[j]? = some t → args[j]? = some v → Value.okWide Tryd.prog W .any base t v)
    (hW : DataW.Whole enc Tryd.prog Tryd.f6.params.toList Rows.unifyTurnsSpec.vars false W args.toList ds gs before) (hL : laidMetH Tryd.prog Rows.unifyTurnsUptoRow.laid W) (hk : Rows.uptoSmall H (ds ++ gs) = true) :
    Calls Tryd.prog 6 args W fun e W' => ∃ v, e = .returned v ∧ Rows.unifyTurnsSpec.post enc Tryd.prog Tryd.f6 false true false false W args v W' := by
  have hW' := hW
  obtain ⟨p, q, hA0, hV, rfl, _, _⟩ := hW
  have hA : DataW.TrodAll enc Tryd.prog W 0 (fun _ => true) true Tryd.f6.params.toList args.toList ds p := hA0
  have hparams : Tryd.f6.params = #[3, 35] := rfl
  rw [hparams] at hA hval
  obtain ⟨v0, vs0, d0, ds0, p0, q0, hargs, rfl, rfl, h0, r0⟩ := trodAll_cons hA
  obtain ⟨v1, vs1, d1, ds1, p1, q1, rfl, rfl, rfl, h1, r1⟩ := trodAll_cons r0
  obtain ⟨rfl, rfl, rfl⟩ := trodAll_nil r1
  obtain rfl : args = #[v0, v1] := by cases args; simp_all
  obtain ⟨rfl, rfl⟩ := trodVars_none hV
  have hsm : Rows.uptoBulk d0 + Rows.uptoBulk d1 ≤ 1048576 := by simpa [Rows.uptoSmall, Rows.uptoBulkAll, Nat.add_assoc] using hk
  obtain ⟨G, hE, hS⟩ := unifyTurns_errs hL
  obtain ⟨n0, rfl⟩ := okWide_int Tryd.underlying3 (hval 0 3 v0 rfl rfl)
  obtain ⟨cs1, rfl, _⟩ := okWide_struct Tryd.underlying35 (hval 1 35 v1 rfl rfl)
  have k0 := h0
  have lt0 : ∀ x ∈ p0, x.block < W.heap.size := by obtain ⟨m, hm⟩ := k0; exact DataW.trod_lt m _ _ _ hm
  obtain ⟨fuel0, hf0⟩ := h0
  obtain ⟨us0, ok0, rl0⟩ := data_of_trod (gs := ax.gs) (G := G) datOk bulkOk fuel0 3 _ _ (by simp [Ds]) hf0
  replace ok0 : okV Tryd.prog fuel0 3 us0 (Rows.uptoBulk d0) := ok0
  obtain ⟨i0, rfl, _, _⟩ := ok_int Tryd.underlying3 ok0
  obtain ⟨w0, ws0, e0, x0, y0⟩ := rl0.cons_inv
  obtain rfl := y0.nil_inv
  obtain rfl := (List.cons.inj e0).1
  have k1 := h1
  have lt1 : ∀ x ∈ p1, x.block < W.heap.size := by obtain ⟨m, hm⟩ := k1; exact DataW.trod_lt m _ _ _ hm
  obtain ⟨fuel1, hf1⟩ := h1
  obtain ⟨us1, ok1, rl1⟩ := data_of_trod (gs := ax.gs) (G := G) datOk bulkOk fuel1 35 _ _ (by simp [Ds]) hf1
  replace ok1 : okV Tryd.prog fuel1 35 us1 (Rows.uptoBulk d1) := ok1
  obtain ⟨t1, rfl, tz1, _⟩ := ok_pair ok1
  have rv1 : RV ax.gs G W (fun b _ => b < W.heap.size) (fun _ => .bool false) (mkS []) (.agg (Uni.encP t1)) (.agg cs1) := by
    have := RV.mk_agg (rl1.mono fun u v h => RV.fz (gs := ax.gs) (G := G) (w := W) (F := fun b _ => b < W.heap.size) (β := fun _ => .bool false) (σ := mkS []) u v h)
    rwa [show (Value.agg cs1).cells.toList.toArray = cs1 from by simp [Value.cells]] at this
  clear hA0 hval
  refine (law_run (Turns_spec _ t1.1 t1.2 (by have hb : big = 1099511627776 := rfl; omega)) hE hS (.cons (.fz _ _ x0) (.cons rv1 .nil))).mono fun e W' ⟨he, bel⟩ => ?_
  subst he
  exact ⟨_, rfl, _, _, _, [], _, [], hW', trodAll_mk1 (shut_bool Tryd.underlying4 _), (trodAll_cons_mk (Below.trod laidOut (by kernel_rfl) (of_decide_eq_true (by kernel_rfl)) k0 bel lt0) (trodAll_cons_mk (Below.trod laidOut (by kernel_rfl) (of_decide_eq_true (by kernel_rfl)) k1 bel lt1) trodAll_mk0)), rfl, bel.frame _, fun h => by cases h⟩
theorem unifyTurns_met (os : Os) (args : Array Value) : laidMet Tryd.prog Rows.unifyTurnsUptoRow.laid ((World.doorLaid Tryd.prog 400 os).forCall (fun _ _ => 0) ⟨#[], args, []⟩).memory :=
  laidMet_of_run' 8 (by kernel_rfl) (by kernel_rfl)
set_option maxRecDepth 100000 in
theorem unifyTurns_lifted (os : Os) (started : os.Started) (H : Type) (enc : TypeId × Value → H) (F : Stop.Interp) :
    ReturnsInHanded {} Tryd.checked os 6 .any ((Rows.OpenSpec.upto Rows.unifyTurnsSpec).preRow enc Tryd.prog Tryd.f6 Rows.unifyTurnsUptoRow.domain false Rows.unifyTurnsUptoRow.laid) (((Rows.OpenSpec.upto Rows.unifyTurnsSpec).at F).post enc Tryd.prog Tryd.f6 false true false false) := by
  have hw : (DataW.whole enc Tryd.prog ((World.doorLaid Tryd.prog 400 os).forCall (fun _ _ => 0) ⟨#[], #[.int .i64 0, .agg #[.int .i64 0, .string ⟨#[]⟩, .int .i64 0, .slice none 0 0, .int .i64 0, .string ⟨#[]⟩, .int .i64 0, .slice none 0 0]], []⟩).memory Tryd.f6.params.toList Rows.unifyTurnsSpec.vars false #[.int .i64 0, .agg #[.int .i64 0, .string ⟨#[]⟩, .int .i64 0, .slice none 0 0, .int .i64 0, .string ⟨#[]⟩, .int .i64 0, .slice none 0 0]].toList 8).map (fun x => (x.1, x.2.1)) =
      some ([.lit (.int .i64 0), .agg [.agg [.lit (.int .i64 0), .lit (.string []), .lit (.int .i64 0), .nil], .agg [.lit (.int .i64 0), .lit (.string []), .lit (.int .i64 0), .nil]]], []) := by kernel_rfl
  obtain ⟨⟨x1, x2, x3⟩, hx, hx1⟩ := Option.map_eq_some_iff.1 hw
  simp only [Prod.mk.injEq] at hx1
  obtain ⟨rfl, rfl⟩ := hx1
  refine returnsInHanded_of_row (C := Tryd.checked) (s := Rows.OpenSpec.upto Rows.unifyTurnsSpec) own started (by kernel_rfl) Tryd.func6
    (witness_row_atRef (enc := enc) (C := Tryd.checked) false (World.doorLaid Tryd.prog 400 os) #[.int .i64 0, .agg #[.int .i64 0, .string ⟨#[]⟩, .int .i64 0, .slice none 0 0, .int .i64 0, .string ⟨#[]⟩, .int .i64 0, .slice none 0 0]] rfl (by kernel_rfl) (by kernel_rfl) (by kernel_rfl)
      (OpenSpec.preRow_of_cond 8 hx (by kernel_rfl) (fun k hk => by cases hk; kernel_rfl) (by kernel_rfl) (unifyTurns_met os _))) ?_
  intro W base args ds gs before hval hW h1 h2 h3 hL h4 h5
  exact unifyTurns_contract H enc W base args ds gs before hval hW hL (h2 _ rfl)
theorem unifyTurns_said : Rows.UnifyTurnsUptoSaid :=
  OpenClaim.holds_of_cond 6 Tryd.f6 rfl rfl rfl rfl rfl rfl rfl ⟨rfl, rfl, rfl, rfl, rfl⟩ rfl rfl rfl rfl rfl (by kernel_rfl) Tryd.func6 (by kernel_rfl)
    (of_decide_eq_true (by kernel_rfl)) (by unfold Func.isWrapper; first | (rw [if_pos (by decide +kernel)]; kernel_rfl) | (rw [if_neg (by decide +kernel)]; exact ⟨rfl, rfl⟩))
    (fun os started H enc _ F => by rw [OpenClaim.pre_eq_preRow]; exact unifyTurns_lifted os started H enc F)
theorem unifyTurns_plain (f : FuncId) (fn : Func) (hf : Tryd.pinned.checked.prog.funcNamed "augur/augurlaw06.UnifyTurns" = some f) (hfn : Tryd.pinned.checked.prog.funcs[f]? = some fn) :
    true = Tryd.pinned.checked.prog.looks [] ∧ ∀ (j : Nat) t, fn.params[j]? = some t → Tryd.pinned.checked.prog.wantsStandIn t = false := by
  obtain rfl : f = 6 := Option.some.inj ((show Tryd.prog.funcNamed "augur/augurlaw06.UnifyTurns" = some 6 by kernel_rfl).symm.trans hf) |>.symm
  obtain rfl : fn = Tryd.f6 := (Option.some.inj (Tryd.func6.symm.trans hfn)).symm
  refine ⟨by kernel_rfl, fun j t ht => ?_⟩
  have hparams : Tryd.f6.params = #[3, 35] := rfl
  rw [hparams] at ht
  have h3 : t = 3 ∨ t = 35 := by simpa using Array.mem_of_getElem? ht
  rcases h3 with rfl | rfl
  · exact (show Tryd.prog.wantsStandIn 3 = false by kernel_rfl)
  · exact (show Tryd.prog.wantsStandIn 35 = false by kernel_rfl)
end Go.Proofs.YtdgekhanonfikaaDoor.Va
namespace Go.Proofs.YtdgekhanonfikaaDoor
theorem unifyTurnsUpto_card : Rows.UnifyTurnsUptoCardSaid :=
  Claim7.holds_tied_plain_at .later [] _ _ _ _ Va.unifyTurns_said (fun _ h => by cases h) (by kernel_rfl) (fun _ h => by cases h) unifyTurnsUpto_row_tie rfl ⟨rfl, rfl⟩ (by kernel_rfl) rfl Va.unifyTurns_plain (by kernel_rfl)
#print axioms unifyTurnsUpto_card
end Go.Proofs.YtdgekhanonfikaaDoor
end
