/- augurlaw01.LexTexts returns true for every input, and leaves it as it was: the row and its card, the first form (conditions: the listed error variables hold what the program's text lays, as the card ties it). -/
import Derived.Test.YtadgcpjobhgkiaaDoorN8
/- part T2C -/
section
namespace Go.Proofs.YtadgcpjobhgkiaaDoor.Vt
open Go.Vx Go.Av Go.Lx Go.RowKit Go.ChangeShapes Go.WideShapes Go.ChangeAt
def lexTexts_es : List (String × Nat × List UInt8) := [("augur/api.ErrText", 0, [97, 117, 103, 117, 114, 58, 32, 116, 101, 120, 116]), ("augur/api.ErrSyntax", 2, [97, 117, 103, 117, 114, 58, 32, 115, 121, 110, 116, 97, 120]), ("augur/api.ErrNest", 3, [97, 117, 103, 117, 114, 58, 32, 110, 101, 115, 116]), ("augur/api.ErrLarge", 1, [97, 117, 103, 117, 114, 58, 32, 108, 97, 114, 103, 101]), ("augur/api.ErrNames", 4, [97, 117, 103, 117, 114, 58, 32, 110, 97, 109, 101, 115]), ("augur/api.ErrTypes", 5, [97, 117, 103, 117, 114, 58, 32, 116, 121, 112, 101, 115]), ("augur/api.ErrModes", 6, [97, 117, 103, 117, 114, 58, 32, 109, 111, 100, 101, 115]), ("augur/api.ErrDet", 7, [97, 117, 103, 117, 114, 58, 32, 100, 101, 116, 101, 114, 109, 105, 110, 105, 115, 109]), ("augur/api.ErrNone", 8, [97, 117, 103, 117, 114, 58, 32, 110, 111, 110, 101]), ("augur/api.ErrData", 9, [97, 117, 103, 117, 114, 58, 32, 100, 97, 116, 97]), ("augur/api.ErrBytes", 10, [97, 117, 103, 117, 114, 58, 32, 98, 121, 116, 101, 115]), ("augur/api.ErrCode", 11, [97, 117, 103, 117, 114, 58, 32, 99, 111, 100, 101]), ("augur/api.ErrFuel", 12, [97, 117, 103, 117, 114, 58, 32, 102, 117, 101, 108]), ("augur/api.ErrHeap", 13, [97, 117, 103, 117, 114, 58, 32, 104, 101, 97, 112]), ("augur/api.ErrFrames", 14, [97, 117, 103, 117, 114, 58, 32, 102, 114, 97, 109, 101, 115]), ("augur/api.ErrState", 15, [97, 117, 103, 117, 114, 58, 32, 115, 116, 97, 116, 101]), ("strconv.ErrRange", 18, [118, 97, 108, 117, 101, 32, 111, 117, 116, 32, 111, 102, 32, 114, 97, 110, 103, 101]), ("strconv.ErrSyntax", 17, [105, 110, 118, 97, 108, 105, 100, 32, 115, 121, 110, 116, 97, 120])]
theorem lexTexts_errs {W : World} (h : laidMet Tryd.prog Rows.lexTextsRow.laid W) : ∃ G, ErrOk ax.P ax.gs ax.ift ax.tabs G ∧ ∀ β, Sim ax.gs G W (fun b _ => b < W.heap.size) β (mkS []) := by
  obtain ⟨ms, f, i, j, T⟩ := errTab
  have htb := tab_of (h.tail.tail)
  refine errs_tabs T (es := lexTexts_es) (r := []) (h.tail.tail.tail) ?_ ?_ (by decide) (by decide) (fun p hp => ⟨by rw [(htb p hp).1]; decide, (htb p hp).2⟩) (by decide)
  · intro e he
    simp only [lexTexts_es, List.mem_cons, List.not_mem_nil, or_false] at he
    rcases he with rfl | rfl | rfl | rfl | rfl | rfl | rfl | rfl | rfl | rfl | rfl | rfl | rfl | rfl | rfl | rfl | rfl | rfl <;> exact ⟨by kernel_rfl, by kernel_rfl⟩
  · intro g hg
    have : g ∈ lexTexts_es.map fun e => e.2.1 := (show ∀ g ∈ ax.gs, g ∈ lexTexts_es.map fun e => e.2.1 by decide) g hg
    obtain ⟨e, he, hh⟩ := List.mem_map.1 this
    exact ⟨e, he, hh⟩
set_option maxRecDepth 100000 in
theorem lexTexts_contract (H : Type) (enc : TypeId × Value → H) (W : World) (base : Nat) (args : Array Value) (ds gs : List (DataW H)) (before : List MemPlace)
    (hval : ∀ (j : Nat) t v, Tryd.f3.params[j]? = some t → args[j]? = some v → Value.okWide Tryd.prog W .any base t v)
    (hW : DataW.Whole enc Tryd.prog Tryd.f3.params.toList Rows.lexTextsSpec.vars false W args.toList ds gs before) (hL : laidMetH Tryd.prog Rows.lexTextsRow.laid W) :
    Calls Tryd.prog 3 args W fun e W' => ∃ v, e = .returned v ∧ Rows.lexTextsSpec.post enc Tryd.prog Tryd.f3 false true false false W args v W' := by
  have hW' := hW
  obtain ⟨p, q, hA0, hV, rfl, _, _⟩ := hW
  have hA : DataW.TrodAll enc Tryd.prog W 0 (fun _ => true) true Tryd.f3.params.toList args.toList ds p := hA0
  have hparams : Tryd.f3.params = #[9] := rfl
  rw [hparams] at hA hval
  obtain ⟨v0, vs0, d0, ds0, p0, q0, hargs, rfl, rfl, h0, r0⟩ := trodAll_cons hA
  obtain ⟨rfl, rfl, rfl⟩ := trodAll_nil r0
  obtain rfl : args = #[v0] := by cases args; simp_all
  obtain ⟨rfl, rfl⟩ := trodVars_none hV
  obtain ⟨G, hE, hS⟩ := lexTexts_errs hL
  obtain ⟨n0, rfl⟩ := okWide_string Tryd.underlying9 (hval 0 9 v0 rfl rfl)
  have k0 := h0
  have lt0 : ∀ x ∈ p0, x.block < W.heap.size := by obtain ⟨m, hm⟩ := k0; exact DataW.trod_lt m _ _ _ hm
  obtain ⟨fuel0, hf0⟩ := h0
  obtain ⟨us0, ok0, rl0⟩ := data_of_trod (gs := ax.gs) (G := G) datOk bulkOk fuel0 9 _ _ (by simp [Ds]) hf0
  replace ok0 : okV Tryd.prog fuel0 9 us0 (Rows.uptoBulk d0) := ok0
  obtain ⟨z0, rfl, _⟩ := ok_str ok0
  obtain ⟨w0, ws0, e0, x0, y0⟩ := rl0.cons_inv
  obtain rfl := y0.nil_inv
  obtain rfl := (List.cons.inj e0).1
  clear hA0 hval
  refine (law_run (Texts_spec z0) hE hS (.cons (.fz _ _ x0) .nil)).mono fun e W' ⟨he, bel⟩ => ?_
  subst he
  exact ⟨_, rfl, _, _, _, [], _, [], hW', trodAll_mk1 (shut_bool Tryd.underlying4 _), (trodAll_cons_mk (Below.trod laidOut (by kernel_rfl) (of_decide_eq_true (by kernel_rfl)) k0 bel lt0) trodAll_mk0), rfl, bel.frame _, fun h => by cases h⟩
theorem lexTexts_met (os : Os) (args : Array Value) : laidMet Tryd.prog Rows.lexTextsRow.laid ((World.doorLaid Tryd.prog 400 os).forCall (fun _ _ => 0) ⟨#[], args, []⟩).memory :=
  laidMet_of_run' 8 (by kernel_rfl) (by kernel_rfl)
set_option maxRecDepth 100000 in
theorem lexTexts_lifted (os : Os) (started : os.Started) (H : Type) (enc : TypeId × Value → H) (F : Stop.Interp) :
    ReturnsInHanded {} Tryd.checked os 3 .any ((OpenSpec.ofChange Rows.lexTextsSpec).preRow enc Tryd.prog Tryd.f3 Rows.lexTextsRow.domain false Rows.lexTextsRow.laid) (((OpenSpec.ofChange Rows.lexTextsSpec).at F).post enc Tryd.prog Tryd.f3 false true false false) := by
  have hw : (DataW.whole enc Tryd.prog ((World.doorLaid Tryd.prog 400 os).forCall (fun _ _ => 0) ⟨#[], #[.string ⟨#[]⟩], []⟩).memory Tryd.f3.params.toList Rows.lexTextsSpec.vars false #[.string ⟨#[]⟩].toList 8).map (fun x => (x.1, x.2.1)) =
      some ([.lit (.string [])], []) := by kernel_rfl
  obtain ⟨⟨x1, x2, x3⟩, hx, hx1⟩ := Option.map_eq_some_iff.1 hw
  simp only [Prod.mk.injEq] at hx1
  obtain ⟨rfl, rfl⟩ := hx1
  refine returnsInHanded_of_row (C := Tryd.checked) (s := OpenSpec.ofChange Rows.lexTextsSpec) own started (by kernel_rfl) Tryd.func3
    (witness_row_atRef (enc := enc) (C := Tryd.checked) false (World.doorLaid Tryd.prog 400 os) #[.string ⟨#[]⟩] rfl (by kernel_rfl) (by kernel_rfl) (by kernel_rfl)
      (OpenSpec.preRow_of_cond 8 hx (by kernel_rfl) (fun k hk => by cases hk) (by kernel_rfl) (lexTexts_met os _))) ?_
  intro W base args ds gs before hval hW _ _ _ hL _ _
  exact lexTexts_contract H enc W base args ds gs before hval hW hL
theorem lexTexts_said : Rows.LexTextsSaid :=
  OpenClaim.holds_of_cond 3 Tryd.f3 rfl rfl rfl rfl rfl rfl rfl ⟨rfl, rfl, rfl, rfl, rfl⟩ rfl rfl rfl rfl rfl (by kernel_rfl) Tryd.func3 (by kernel_rfl)
    (of_decide_eq_true (by kernel_rfl)) (by unfold Func.isWrapper; first | (rw [if_pos (by decide +kernel)]; kernel_rfl) | (rw [if_neg (by decide +kernel)]; exact ⟨rfl, rfl⟩))
    (fun os started H enc _ F => by rw [OpenClaim.pre_eq_preRow]; exact lexTexts_lifted os started H enc F)
theorem lexTexts_plain (f : FuncId) (fn : Func) (hf : Tryd.pinned.checked.prog.funcNamed "augur/augurlaw01.LexTexts" = some f) (hfn : Tryd.pinned.checked.prog.funcs[f]? = some fn) :
    true = Tryd.pinned.checked.prog.looks [] ∧ ∀ (j : Nat) t, fn.params[j]? = some t → Tryd.pinned.checked.prog.wantsStandIn t = false := by
  obtain rfl : f = 3 := Option.some.inj ((show Tryd.prog.funcNamed "augur/augurlaw01.LexTexts" = some 3 by kernel_rfl).symm.trans hf) |>.symm
  obtain rfl : fn = Tryd.f3 := (Option.some.inj (Tryd.func3.symm.trans hfn)).symm
  refine ⟨by kernel_rfl, fun j t ht => ?_⟩
  have hparams : Tryd.f3.params = #[9] := rfl
  rw [hparams] at ht
  have h3 : t = 9 := by simpa using Array.mem_of_getElem? ht
  rcases h3 with rfl
  · exact (show Tryd.prog.wantsStandIn 9 = false by kernel_rfl)
end Go.Proofs.YtadgcpjobhgkiaaDoor.Vt
namespace Go.Proofs.YtadgcpjobhgkiaaDoor
theorem lexTexts_card : Rows.LexTextsCardSaid :=
  Claim7.holds_tied_plain_at .later [] _ _ _ _ Vt.lexTexts_said (fun _ h => by cases h) (by kernel_rfl) (fun _ h => by cases h) lexTexts_row_tie rfl ⟨rfl, rfl⟩ (by kernel_rfl) rfl Vt.lexTexts_plain (by kernel_rfl)
#print axioms lexTexts_card
end Go.Proofs.YtadgcpjobhgkiaaDoor
end
