/- augurlaw10.DataReads returns true for every input, and leaves it as it was: the row and its card, the first form (conditions: the listed error variables hold what the program's text lays, as the card ties it). -/
import Derived.Test.YtgjifgjjcaohoaaGreatDoorRA
import Derived.Test.YtgjifgjjcaohoaaGreatDoorCards
import Derived.Test.YtgjifgjjcaohoaaGreatDoorTie
import Derived.WalkKit
import Derived.ProofKit
import Derived.OpenShut
import Derived.ChangeOld
import Derived.Lib.SmallJoins
import Derived.Deep.Slices
import Derived.Deep.DeepHandedRow
import Derived.Deep.DeepWitnessRowRef
import Derived.Lib.LaidTab
import Derived.LaidMore
import Derived.Stop.LaidErr
import Derived.Stop.LaidTwo
import Derived.Stop.Joined
/- part Z6Y -/
section
namespace Go.Proofs.YtgjifgjjcaohoaaGreatDoor.Va
open Go.Vx Go.Av Go.Lx Go.RowKit Go.ChangeShapes Go.WideShapes Go.ChangeAt

theorem own : ownKnob Tryz.prog.godebug = none := by kernel_rfl
theorem laidOut : laidOutB Tryz.prog = true := by kernel_rfl
theorem star : "*" ++ "errors.errorString" = "*errors.errorString" := by decide
theorem row157 (u : TypeId) (h : Tryz.prog.typeName? 3 u = some "*errors.errorString") : u = 157 :=
  typeName_ptr_named (nm := "errors.errorString") (by rw [star]; kernel_rfl) (by kernel_rfl) (by decide) u (by rw [star]; exact h)
theorem hi27 : ∃ ms, Tryz.prog.underlying 27 = some (.interface ms) := ⟨_, Tryz.underlying27⟩
theorem cmp157 : (Tryz.prog.info? 157).map (·.comparable) = some true := by kernel_rfl
theorem sz159 : (Tryz.prog.info? 159).map (fun j => decide (j.size ≠ 0)) = some true := by kernel_rfl
theorem st159 : ∃ f, Tryz.prog.underlying 159 = some (.struct #[f]) ∧ f.type = 9 ∧ f.offset = 0 := ⟨_, Tryz.underlying159, rfl, rfl⟩
theorem cells159 : Tryz.prog.cellsOf 159 = 1 := by kernel_rfl
theorem cells9 : Tryz.prog.cellsOf 9 = 1 := by kernel_rfl
theorem errTab : ∃ ms f i j, ErrTab ax.P "*errors.errorString" 27 157 159 9 ms f i j := by
  obtain ⟨ms, h1⟩ := hi27
  obtain ⟨i, h3, h4⟩ := Option.map_eq_some_iff.1 cmp157
  obtain ⟨j, h5, h6⟩ := Option.map_eq_some_iff.1 sz159
  obtain ⟨f, h7, h8, h9⟩ := st159
  exact ⟨ms, f, i, j, h1, row157, Tryz.underlying157, h7, h8, h9, Tryz.underlying9, cells159, cells9, h3, h4, h5, of_decide_eq_true h6⟩

/-- the table of powers of ten, as the row lays it -/
theorem tab_eq : (Rows.laid_internal_strconv_uint64pow10 : DataW Unit) = Lib.tabData .u64 Lib.pow10Tab := by rfl
theorem tab_of {W : World} {r : List (String × DataW Unit)} (h : laidMet Tryz.prog (("internal/strconv.uint64pow10", Rows.laid_internal_strconv_uint64pow10) :: r) W) :
    ∀ p ∈ ax.tabs, p.1 = 16 ∧ p.1 < W.heap.size ∧ ∃ t q, W.heap[p.1]? = some (.cells p.2 t q) := by
  rw [tab_eq] at h
  have ht := Lib.tabIs_of_head (P := Tryz.prog) (g := 16) (t := 132) (e := 82) (n := 20) (by kernel_rfl) (by kernel_rfl) Tryz.underlying132 Tryz.underlying82 (by kernel_rfl) (by kernel_rfl) h
  intro p hp
  have hp' : p = (16, (Lib.pow10Tab.map fun z => Value.int .u64 z).toArray) := by simpa using hp
  subst hp'
  unfold Lib.TabIs World.var? at ht
  rw [show Tryz.prog.globalNamed "internal/strconv.uint64pow10" = some 16 by kernel_rfl] at ht
  simp only [Option.bind_some] at ht
  refine ⟨rfl, ?_⟩
  cases hh : W.heap[16]? with
  | none => rw [hh] at ht; cases ht
  | some o =>
    rw [hh] at ht
    refine ⟨(Array.getElem?_eq_some_iff.1 hh).1, ?_⟩
    cases o with
    | cells cs t q => simp only [Option.some.injEq] at ht; subst ht; exact ⟨t, q, rfl⟩
    | _ => cases ht

theorem bulkL {H : Type} : ∀ l : List (DataW H), (l.map Rows.uptoBulk).sum = Rows.uptoBulkAll l
  | [] => rfl
  | d :: r => by simp only [List.map_cons, List.sum_cons, Rows.uptoBulkAll, bulkL r]
theorem bulkOk {H : Type} : Bulk (Rows.uptoBulk (H := H)) := by
  refine ⟨fun d => ?_, fun s => ?_, fun d => ?_, fun l r => ?_, fun l => ?_⟩
  · cases d with
    | lit l => cases l <;> simp [Rows.uptoBulk]
    | nil => simp [Rows.uptoBulk]
    | ptr d => simp [Rows.uptoBulk]
    | slice elems spare => simp [Rows.uptoBulk]
    | agg parts => simp [Rows.uptoBulk]
    | iface t d => simp [Rows.uptoBulk]
    | map entries => simp [Rows.uptoBulk]
    | held h => simp [Rows.uptoBulk]
  · simp [Rows.uptoBulk]
  · simp [Rows.uptoBulk]
  · simp only [Rows.uptoBulk, bulkL]; omega
  · simp only [Rows.uptoBulk, bulkL]; omega
abbrev Ds : List TypeId := [9]
theorem datOk : ∀ t ∈ Ds, Dat Tryz.prog Ds t := by
  intro t ht
  simp only [Ds, List.mem_cons, List.not_mem_nil, or_false] at ht
  unfold Dat
  rcases ht with rfl
  rw [Tryz.underlying9]; trivial
set_option maxRecDepth 100000 in
theorem ok_str {n : Nat} {us : List V} {s : Nat} (h : okV Tryz.prog n 9 us s) : ∃ x : List UInt8, us = [.str (bs x)] ∧ x.length + 1 ≤ s := by
  cases n with
  | zero => exact h.elim
  | succ n =>
    unfold okV at h
    rw [Tryz.underlying9] at h
    obtain ⟨x, rfl, _, h2⟩ := h
    exact ⟨x.data.toList, by rw [bs_of], by rw [Array.length_toList]; exact h2⟩
end Go.Proofs.YtgjifgjjcaohoaaGreatDoor.Va
end

/- part Z6C -/
section
namespace Go.Proofs.YtgjifgjjcaohoaaGreatDoor.Va
open Go.Vx Go.Av Go.Lx Go.RowKit Go.ChangeShapes Go.WideShapes Go.ChangeAt
def dataReads_es : List (String × Nat × List UInt8) := [("augur/api.ErrText", 2, [97, 117, 103, 117, 114, 58, 32, 116, 101, 120, 116]), ("augur/api.ErrSyntax", 3, [97, 117, 103, 117, 114, 58, 32, 115, 121, 110, 116, 97, 120]), ("augur/api.ErrNest", 4, [97, 117, 103, 117, 114, 58, 32, 110, 101, 115, 116]), ("augur/api.ErrLarge", 0, [97, 117, 103, 117, 114, 58, 32, 108, 97, 114, 103, 101]), ("augur/api.ErrNames", 5, [97, 117, 103, 117, 114, 58, 32, 110, 97, 109, 101, 115]), ("augur/api.ErrTypes", 6, [97, 117, 103, 117, 114, 58, 32, 116, 121, 112, 101, 115]), ("augur/api.ErrModes", 7, [97, 117, 103, 117, 114, 58, 32, 109, 111, 100, 101, 115]), ("augur/api.ErrDet", 8, [97, 117, 103, 117, 114, 58, 32, 100, 101, 116, 101, 114, 109, 105, 110, 105, 115, 109]), ("augur/api.ErrNone", 9, [97, 117, 103, 117, 114, 58, 32, 110, 111, 110, 101]), ("augur/api.ErrData", 1, [97, 117, 103, 117, 114, 58, 32, 100, 97, 116, 97]), ("augur/api.ErrBytes", 10, [97, 117, 103, 117, 114, 58, 32, 98, 121, 116, 101, 115]), ("augur/api.ErrCode", 11, [97, 117, 103, 117, 114, 58, 32, 99, 111, 100, 101]), ("augur/api.ErrFuel", 12, [97, 117, 103, 117, 114, 58, 32, 102, 117, 101, 108]), ("augur/api.ErrHeap", 13, [97, 117, 103, 117, 114, 58, 32, 104, 101, 97, 112]), ("augur/api.ErrFrames", 14, [97, 117, 103, 117, 114, 58, 32, 102, 114, 97, 109, 101, 115]), ("augur/api.ErrState", 15, [97, 117, 103, 117, 114, 58, 32, 115, 116, 97, 116, 101]), ("strconv.ErrRange", 21, [118, 97, 108, 117, 101, 32, 111, 117, 116, 32, 111, 102, 32, 114, 97, 110, 103, 101]), ("strconv.ErrSyntax", 20, [105, 110, 118, 97, 108, 105, 100, 32, 115, 121, 110, 116, 97, 120])]
theorem dataReads_errs {W : World} (h : laidMet Tryz.prog Rows.dataReadsRow.laid W) : ∃ G, ErrOk ax.P ax.gs ax.ift ax.tabs G ∧ ∀ β, Sim ax.gs G W (fun b _ => b < W.heap.size) β (mkS []) := by
  obtain ⟨ms, f, i, j, T⟩ := errTab
  have htb := tab_of (h.tail.tail)
  refine errs_tabs T (es := dataReads_es) (r := []) (h.tail.tail.tail) ?_ ?_ (by decide) (by decide) (fun p hp => ⟨by rw [(htb p hp).1]; decide, (htb p hp).2⟩) (by decide)
  · intro e he
    simp only [dataReads_es, List.mem_cons, List.not_mem_nil, or_false] at he
    rcases he with rfl | rfl | rfl | rfl | rfl | rfl | rfl | rfl | rfl | rfl | rfl | rfl | rfl | rfl | rfl | rfl | rfl | rfl <;> exact ⟨by kernel_rfl, by kernel_rfl⟩
  · intro g hg
    have : g ∈ dataReads_es.map fun e => e.2.1 := (show ∀ g ∈ ax.gs, g ∈ dataReads_es.map fun e => e.2.1 by decide) g hg
    obtain ⟨e, he, hh⟩ := List.mem_map.1 this
    exact ⟨e, he, hh⟩
set_option maxRecDepth 100000 in
theorem dataReads_contract (H : Type) (enc : TypeId × Value → H) (W : World) (base : Nat) (args : Array Value) (ds gs : List (DataW H)) (before : List MemPlace)
    (hval : ∀ (j : Nat) t v, Tryz.f3.params[j]? = some t → args[j]? = some v → Value.okWide Tryz.prog W .any base t v)
    (hW : DataW.Whole enc Tryz.prog Tryz.f3.params.toList Rows.dataReadsSpec.vars false W args.toList ds gs before) (hL : laidMetH Tryz.prog Rows.dataReadsRow.laid W) :
    Calls Tryz.prog 3 args W fun e W' => ∃ v, e = .returned v ∧ Rows.dataReadsSpec.post enc Tryz.prog Tryz.f3 false true false false W args v W' := by
  have hW' := hW
  obtain ⟨p, q, hA0, hV, rfl, _, _⟩ := hW
  have hA : DataW.TrodAll enc Tryz.prog W 0 (fun _ => true) true Tryz.f3.params.toList args.toList ds p := hA0
  have hparams : Tryz.f3.params = #[9] := rfl
  rw [hparams] at hA hval
  obtain ⟨v0, vs0, d0, ds0, p0, q0, hargs, rfl, rfl, h0, r0⟩ := trodAll_cons hA
  obtain ⟨rfl, rfl, rfl⟩ := trodAll_nil r0
  obtain rfl : args = #[v0] := by cases args; simp_all
  obtain ⟨rfl, rfl⟩ := trodVars_none hV
  obtain ⟨G, hE, hS⟩ := dataReads_errs hL
  obtain ⟨n0, rfl⟩ := okWide_string Tryz.underlying9 (hval 0 9 v0 rfl rfl)
  have k0 := h0
  have lt0 : ∀ x ∈ p0, x.block < W.heap.size := by obtain ⟨m, hm⟩ := k0; exact DataW.trod_lt m _ _ _ hm
  obtain ⟨fuel0, hf0⟩ := h0
  obtain ⟨us0, ok0, rl0⟩ := data_of_trod (gs := ax.gs) (G := G) datOk bulkOk fuel0 9 _ _ (by simp [Ds]) hf0
  replace ok0 : okV Tryz.prog fuel0 9 us0 (Rows.uptoBulk d0) := ok0
  obtain ⟨z0, rfl, _⟩ := ok_str ok0
  obtain ⟨w0, ws0, e0, x0, y0⟩ := rl0.cons_inv
  obtain rfl := y0.nil_inv
  obtain rfl := (List.cons.inj e0).1
  clear hA0 hval
  refine (law_run (Reads_spec z0) hE hS (.cons (.fz _ _ x0) .nil)).mono fun e W' ⟨he, bel⟩ => ?_
  subst he
  exact ⟨_, rfl, _, _, _, [], _, [], hW', trodAll_mk1 (shut_bool Tryz.underlying4 _), (trodAll_cons_mk (Below.trod laidOut (by kernel_rfl) (of_decide_eq_true (by kernel_rfl)) k0 bel lt0) trodAll_mk0), rfl, bel.frame _, fun h => by cases h⟩
theorem dataReads_met (os : Os) (args : Array Value) : laidMet Tryz.prog Rows.dataReadsRow.laid ((World.doorLaid Tryz.prog 400 os).forCall (fun _ _ => 0) ⟨#[], args, []⟩).memory :=
  laidMet_of_run' 8 (by kernel_rfl) (by kernel_rfl)
set_option maxRecDepth 100000 in
theorem dataReads_lifted (os : Os) (started : os.Started) (H : Type) (enc : TypeId × Value → H) (F : Stop.Interp) :
    ReturnsInHanded {} Tryz.checked os 3 .any ((OpenSpec.ofChange Rows.dataReadsSpec).preRow enc Tryz.prog Tryz.f3 Rows.dataReadsRow.domain false Rows.dataReadsRow.laid) (((OpenSpec.ofChange Rows.dataReadsSpec).at F).post enc Tryz.prog Tryz.f3 false true false false) := by
  have hw : (DataW.whole enc Tryz.prog ((World.doorLaid Tryz.prog 400 os).forCall (fun _ _ => 0) ⟨#[], #[.string ⟨#[]⟩], []⟩).memory Tryz.f3.params.toList Rows.dataReadsSpec.vars false #[.string ⟨#[]⟩].toList 8).map (fun x => (x.1, x.2.1)) =
      some ([.lit (.string [])], []) := by kernel_rfl
  obtain ⟨⟨x1, x2, x3⟩, hx, hx1⟩ := Option.map_eq_some_iff.1 hw
  simp only [Prod.mk.injEq] at hx1
  obtain ⟨rfl, rfl⟩ := hx1
  refine returnsInHanded_of_row (C := Tryz.checked) (s := OpenSpec.ofChange Rows.dataReadsSpec) own started (by kernel_rfl) Tryz.func3
    (witness_row_atRef (enc := enc) (C := Tryz.checked) false (World.doorLaid Tryz.prog 400 os) #[.string ⟨#[]⟩] rfl (by kernel_rfl) (by kernel_rfl) (by kernel_rfl)
      (OpenSpec.preRow_of_cond 8 hx (by kernel_rfl) (fun k hk => by cases hk) (by kernel_rfl) (dataReads_met os _))) ?_
  intro W base args ds gs before hval hW _ _ _ hL _ _
  exact dataReads_contract H enc W base args ds gs before hval hW hL
theorem dataReads_said : Rows.DataReadsSaid :=
  OpenClaim.holds_of_cond 3 Tryz.f3 rfl rfl rfl rfl rfl rfl rfl ⟨rfl, rfl, rfl, rfl, rfl⟩ rfl rfl rfl rfl rfl (by kernel_rfl) Tryz.func3 (by kernel_rfl)
    (of_decide_eq_true (by kernel_rfl)) (by unfold Func.isWrapper; first | (rw [if_pos (by decide +kernel)]; kernel_rfl) | (rw [if_neg (by decide +kernel)]; exact ⟨rfl, rfl⟩))
    (fun os started H enc _ F => by rw [OpenClaim.pre_eq_preRow]; exact dataReads_lifted os started H enc F)
theorem dataReads_plain (f : FuncId) (fn : Func) (hf : Tryz.pinned.checked.prog.funcNamed "augur/augurlaw10.DataReads" = some f) (hfn : Tryz.pinned.checked.prog.funcs[f]? = some fn) :
    true = Tryz.pinned.checked.prog.looks [] ∧ ∀ (j : Nat) t, fn.params[j]? = some t → Tryz.pinned.checked.prog.wantsStandIn t = false := by
  obtain rfl : f = 3 := Option.some.inj ((show Tryz.prog.funcNamed "augur/augurlaw10.DataReads" = some 3 by kernel_rfl).symm.trans hf) |>.symm
  obtain rfl : fn = Tryz.f3 := (Option.some.inj (Tryz.func3.symm.trans hfn)).symm
  refine ⟨by kernel_rfl, fun j t ht => ?_⟩
  have hparams : Tryz.f3.params = #[9] := rfl
  rw [hparams] at ht
  have h3 : t = 9 := by simpa [or_comm] using Array.mem_of_getElem? ht
  rcases h3 with rfl
  · exact (show Tryz.prog.wantsStandIn 9 = false by kernel_rfl)
end Go.Proofs.YtgjifgjjcaohoaaGreatDoor.Va
namespace Go.Proofs.YtgjifgjjcaohoaaGreatDoor
theorem dataReads_card : Rows.DataReadsCardSaid :=
  Claim7.holds_tied_plain_at .later [] _ _ _ _ Va.dataReads_said (fun _ h => by cases h) (by kernel_rfl) (fun _ h => by cases h) dataReads_row_tie rfl ⟨rfl, rfl⟩ (by kernel_rfl) rfl Va.dataReads_plain (by kernel_rfl)
#print axioms dataReads_card
end Go.Proofs.YtgjifgjjcaohoaaGreatDoor
end
