/- augurlaw10.DataDomains returns true for every input of bulk at most 1048576, and leaves it as it was: the row and its card, the second form (conditions: the listed error variables hold what the program's text lays, as the card ties it). -/
import Derived.Test.YtahagnfdpemmaaaDoorFC
import Derived.Test.YtahagnfdpemmaaaDoorF3
import Derived.Test.YtahagnfdpemmaaaDoorCards
import Derived.Test.YtahagnfdpemmaaaDoorTie
import Derived.WalkKit
import Derived.ProofKit
import Derived.OpenShut
import Derived.ChangeOld
import Derived.Lib.SmallJoins
import Derived.Deep.Slices
import Derived.Deep.DeepHandedRow
import Derived.Deep.DeepWitnessRowRef
import Derived.Lib.LaidTab
import Derived.LaidMore
import Derived.Stop.LaidErr
import Derived.Stop.LaidTwo
import Derived.Stop.Joined
/- part Y5A -/
section
namespace Go.Proofs.YtahagnfdpemmaaaDoor.Va
open Go.Vx Go.Av Go.Lx Go.Dr Go.Dm Go.Uni Go.RowKit Go.ChangeShapes Go.WideShapes Go.ChangeAt

theorem own : ownKnob Tryd.prog.godebug = none := by kernel_rfl
theorem laidOut : laidOutB Tryd.prog = true := by kernel_rfl
theorem star : "*" ++ "errors.errorString" = "*errors.errorString" := by decide
theorem row143 (u : TypeId) (h : Tryd.prog.typeName? 3 u = some "*errors.errorString") : u = 143 :=
  typeName_ptr_named (nm := "errors.errorString") (by rw [star]; kernel_rfl) (by kernel_rfl) (by decide) u (by rw [star]; exact h)
theorem hi43 : ∃ ms, Tryd.prog.underlying 43 = some (.interface ms) := ⟨_, Tryd.underlying43⟩
theorem cmp143 : (Tryd.prog.info? 143).map (·.comparable) = some true := by kernel_rfl
theorem sz160 : (Tryd.prog.info? 160).map (fun j => decide (j.size ≠ 0)) = some true := by kernel_rfl
theorem st160 : ∃ f, Tryd.prog.underlying 160 = some (.struct #[f]) ∧ f.type = 9 ∧ f.offset = 0 := ⟨_, Tryd.underlying160, rfl, rfl⟩
theorem cells160 : Tryd.prog.cellsOf 160 = 1 := by kernel_rfl
theorem cells9 : Tryd.prog.cellsOf 9 = 1 := by kernel_rfl
theorem errTab : ∃ ms f i j, ErrTab ax.P "*errors.errorString" 43 143 160 9 ms f i j := by
  obtain ⟨ms, h1⟩ := hi43
  obtain ⟨i, h3, h4⟩ := Option.map_eq_some_iff.1 cmp143
  obtain ⟨j, h5, h6⟩ := Option.map_eq_some_iff.1 sz160
  obtain ⟨f, h7, h8, h9⟩ := st160
  exact ⟨ms, f, i, j, h1, row143, Tryd.underlying143, h7, h8, h9, Tryd.underlying9, cells160, cells9, h3, h4, h5, of_decide_eq_true h6⟩

theorem bulkL {H : Type} : ∀ l : List (DataW H), (l.map Rows.uptoBulk).sum = Rows.uptoBulkAll l
  | [] => rfl
  | d :: r => by simp only [List.map_cons, List.sum_cons, Rows.uptoBulkAll, bulkL r]
theorem bulkOk {H : Type} : Bulk (Rows.uptoBulk (H := H)) := by
  refine ⟨fun d => ?_, fun s => ?_, fun d => ?_, fun l r => ?_, fun l => ?_⟩
  · cases d with
    | lit l => cases l <;> simp [Rows.uptoBulk]
    | nil => simp [Rows.uptoBulk]
    | ptr d => simp [Rows.uptoBulk]
    | slice elems spare => simp [Rows.uptoBulk]
    | agg parts => simp [Rows.uptoBulk]
    | iface t d => simp [Rows.uptoBulk]
    | map entries => simp [Rows.uptoBulk]
    | held h => simp [Rows.uptoBulk]
  · simp [Rows.uptoBulk]
  · simp [Rows.uptoBulk]
  · simp only [Rows.uptoBulk, bulkL]; omega
  · simp only [Rows.uptoBulk, bulkL]; omega

abbrev Ds : List TypeId := [3, 9, 22, 24]
theorem cells24 : Tryd.prog.cellsOf 24 = 4 := by kernel_rfl
set_option maxRecDepth 100000 in
theorem datOk : ∀ t ∈ Ds, Dat Tryd.prog Ds t := by
  intro t ht
  simp only [Ds, List.mem_cons, List.not_mem_nil, or_false] at ht
  unfold Dat
  rcases ht with rfl | rfl | rfl | rfl
  · rw [Tryd.underlying3]; trivial
  · rw [Tryd.underlying9]; trivial
  · rw [Tryd.underlying22]; exact ⟨by decide, by rw [cells24]; decide⟩
  · rw [Tryd.underlying24]; exact ⟨by decide, by kernel_rfl, by kernel_rfl, by kernel_rfl, by kernel_rfl, (show _ = _ by kernel_rfl)⟩

theorem ok_int {n : Nat} {t : TypeId} {us : List V} {s : Nat} {k : IntKind} (hu : Tryd.prog.underlying t = some (.int k)) (h : okV Tryd.prog n t us s) : ∃ i, us = [.int k i] ∧ (Lit.int k i).wf = true ∧ 1 ≤ s := by
  cases n with
  | zero => exact h.elim
  | succ n => unfold okV at h; rw [hu] at h; exact h
theorem ok_str {n : Nat} {t : TypeId} {us : List V} {s : Nat} (hu : Tryd.prog.underlying t = some .string) (h : okV Tryd.prog n t us s) : ∃ x : ByteArray, us = [.str x] ∧ x.size ≤ maxLen ∧ x.size + 1 ≤ s := by
  cases n with
  | zero => exact h.elim
  | succ n => unfold okV at h; rw [hu] at h; exact h
theorem sum_rows {xs : List Tm} {ss : List Nat} (hl : xs.length = ss.length) (h : ∀ (i : Nat) x m, xs[i]? = some x → ss[i]? = some m → size x ≤ m) : sizes xs ≤ ss.sum := by
  induction xs generalizing ss with
  | nil => simp [sizes]
  | cons x r ih => cases ss with
    | nil => simp at hl
    | cons m ss =>
      have := h 0 x m rfl rfl
      have := ih (ss := ss) (by simpa using hl) (fun i x m hx hm => h (i + 1) x m hx hm)
      simp only [sizes, List.sum_cons]; omega
theorem list_pick {α β : Type} {p : Nat → α → β → Prop} : ∀ l : List α, (∀ (i : Nat) a, l[i]? = some a → ∃ b, p i a b) → ∃ r : List β, r.length = l.length ∧ ∀ (i : Nat) a b, l[i]? = some a → r[i]? = some b → p i a b
  | [], _ => ⟨[], rfl, fun i a b h => by simp at h⟩
  | a :: l, h => by
    obtain ⟨b, hb⟩ := h 0 a rfl
    obtain ⟨r, h1, h2⟩ := list_pick (p := fun i => p (i + 1)) l (fun i a ha => h (i + 1) a (by simpa using ha))
    refine ⟨b :: r, by simp [h1], fun i x y hx hy => ?_⟩
    cases i with
    | zero => simp at hx hy; subst hx; subst hy; exact hb
    | succ i => exact h2 i x y (by simpa using hx) (by simpa using hy)
set_option maxRecDepth 100000 in
/-- a type that came in, as a tree -/
theorem ok_tm : ∀ (n : Nat) (us : List V) (s : Nat), okV Tryd.prog n 24 us s → ∃ t : Tm, us = enc t ∧ size t ≤ s := by
  intro n
  induction n using Nat.strongRecOn with
  | _ n ih =>
  intro us s h
  cases n with
  | zero => exact h.elim
  | succ n =>
    unfold okV at h
    rw [Tryd.underlying24] at h
    obtain ⟨m, hf, hm⟩ := h
    obtain ⟨a0, b0, m0, k0, rfl, h0, hf, e0⟩ := hf
    obtain ⟨a1, b1, m1, k1, rfl, h1, hf, e1⟩ := hf
    obtain ⟨a2, b2, m2, k2, rfl, h2, hf, e2⟩ := hf
    obtain ⟨a3, b3, m3, k3, rfl, h3, hf, e3⟩ := hf
    obtain rfl : b3 = [] := hf
    obtain ⟨i0, rfl, _, _⟩ := ok_int Tryd.underlying3 h0
    obtain ⟨s1, rfl, _, _⟩ := ok_str Tryd.underlying9 h1
    obtain ⟨i2, rfl, _, _⟩ := ok_int Tryd.underlying3 h2
    cases n with
    | zero => exact h3.elim
    | succ n =>
      simp only at h3
      unfold okV at h3
      rw [Tryd.underlying22] at h3
      obtain ⟨l, ss, rfl, _, hl2, hss, hr⟩ := h3
      obtain ⟨xs, hx1, hx2⟩ := list_pick (p := fun i r (t : Tm) => ∀ m, ss[i]? = some m → r = enc t ∧ size t ≤ m) l (fun i r hi => by
        have hlt : i < ss.length := by rw [hl2]; exact (List.getElem?_eq_some_iff.1 hi).1
        obtain ⟨t, ht1, ht2⟩ := ih n (by omega) r _ (hr i r _ hi (List.getElem?_eq_getElem hlt))
        exact ⟨t, fun m hm => by rw [List.getElem?_eq_getElem hlt] at hm; cases hm; exact ⟨ht1, ht2⟩⟩)
      have hle : l = encs xs := by
        rw [encs_eq]
        refine List.ext_getElem? fun i => ?_
        rw [List.getElem?_map]
        rcases Nat.lt_or_ge i l.length with hi | hi
        · have hx := hx2 i l[i] xs[i] (List.getElem?_eq_getElem hi) (List.getElem?_eq_getElem (by omega)) ss[i] (List.getElem?_eq_getElem (by omega))
          rw [List.getElem?_eq_getElem hi, List.getElem?_eq_getElem (by omega), hx.1]; rfl
        · rw [List.getElem?_eq_none hi, List.getElem?_eq_none (by omega)]; rfl
      have hsum := sum_rows (xs := xs) (ss := ss) (by omega) (fun i x m hx hm => by
        have hi : i < l.length := by rw [← hx1]; exact (List.getElem?_eq_some_iff.1 hx).1
        exact (hx2 i l[i] x (List.getElem?_eq_getElem hi) hx m hm).2)
      refine ⟨.mk i0 s1 i2 xs, ?_, ?_⟩
      · rw [hle, cells24]; rfl
      · simp only [size]; omega
theorem ok_strB {n : Nat} {us : List V} {s : Nat} (h : okV Tryd.prog n 9 us s) : ∃ x : List UInt8, us = [.str (bs x)] ∧ x.length + 1 ≤ s := by
  obtain ⟨x, rfl, _, h2⟩ := ok_str Tryd.underlying9 h
  exact ⟨x.data.toList, rfl, by rw [Array.length_toList]; exact h2⟩
end Go.Proofs.YtahagnfdpemmaaaDoor.Va
end

/- part Y5C -/
section
namespace Go.Proofs.YtahagnfdpemmaaaDoor.Va
open Go.Vx Go.Av Go.Lx Go.Dr Go.Dm Go.Uni Go.RowKit Go.ChangeShapes Go.WideShapes Go.ChangeAt
def dataDomains_es : List (String × Nat × List UInt8) := [("augur/api.ErrLarge", 0, [97, 117, 103, 117, 114, 58, 32, 108, 97, 114, 103, 101]), ("augur/api.ErrData", 1, [97, 117, 103, 117, 114, 58, 32, 100, 97, 116, 97])]
theorem dataDomains_errs {W : World} (h : laidMet Tryd.prog Rows.dataDomainsUptoRow.laid W) : ∃ G, ErrOk ax.P ax.gs ax.ift ax.tabs G ∧ ∀ β, Sim ax.gs G W (fun b _ => b < W.heap.size) β (mkS []) := by
  obtain ⟨ms, f, i, j, T⟩ := errTab
  refine errs_of_laid T (es := dataDomains_es) (r := []) h ?_ ?_ (by decide) (by decide) rfl
  · intro e he
    simp only [dataDomains_es, List.mem_cons, List.not_mem_nil, or_false] at he
    rcases he with rfl | rfl <;> exact ⟨by kernel_rfl, by kernel_rfl⟩
  · intro g hg
    have : g ∈ dataDomains_es.map fun e => e.2.1 := (show ∀ g ∈ ax.gs, g ∈ dataDomains_es.map fun e => e.2.1 by decide) g hg
    obtain ⟨e, he, hh⟩ := List.mem_map.1 this
    exact ⟨e, he, hh⟩
set_option maxRecDepth 100000 in
theorem dataDomains_contract (H : Type) (enc : TypeId × Value → H) (W : World) (base : Nat) (args : Array Value) (ds gs : List (DataW H)) (before : List MemPlace)
    (hval : ∀ (j : Nat) t v, Tryd.f3.params[j]? = some t → args[j]? = some v → Value.okWide Tryd.prog W .any base t v)
    (hW : DataW.Whole enc Tryd.prog Tryd.f3.params.toList Rows.dataDomainsSpec.vars false W args.toList ds gs before) (hL : laidMetH Tryd.prog Rows.dataDomainsUptoRow.laid W) (hk : Rows.uptoSmall H (ds ++ gs) = true) :
    Calls Tryd.prog 3 args W fun e W' => ∃ v, e = .returned v ∧ Rows.dataDomainsSpec.post enc Tryd.prog Tryd.f3 false true false false W args v W' := by
  have hW' := hW
  obtain ⟨p, q, hA0, hV, rfl, _, _⟩ := hW
  have hA : DataW.TrodAll enc Tryd.prog W 0 (fun _ => true) true Tryd.f3.params.toList args.toList ds p := hA0
  have hparams : Tryd.f3.params = #[9, 24, 3] := rfl
  rw [hparams] at hA hval
  obtain ⟨v0, vs0, d0, ds0, p0, q0, hargs, rfl, rfl, h0, r0⟩ := trodAll_cons hA
  obtain ⟨v1, vs1, d1, ds1, p1, q1, rfl, rfl, rfl, h1, r1⟩ := trodAll_cons r0
  obtain ⟨v2, vs2, d2, ds2, p2, q2, rfl, rfl, rfl, h2, r2⟩ := trodAll_cons r1
  obtain ⟨rfl, rfl, rfl⟩ := trodAll_nil r2
  obtain rfl : args = #[v0, v1, v2] := by cases args; simp_all
  obtain ⟨rfl, rfl⟩ := trodVars_none hV
  have hsm : Rows.uptoBulk d0 + Rows.uptoBulk d1 + Rows.uptoBulk d2 ≤ 1048576 := by simpa [Rows.uptoSmall, Rows.uptoBulkAll, Nat.add_assoc] using hk
  obtain ⟨G, hE, hS⟩ := dataDomains_errs hL
  obtain ⟨n0, rfl⟩ := okWide_string Tryd.underlying9 (hval 0 9 v0 rfl rfl)
  obtain ⟨cs1, rfl, _⟩ := okWide_struct Tryd.underlying24 (hval 1 24 v1 rfl rfl)
  obtain ⟨n2, rfl⟩ := okWide_int Tryd.underlying3 (hval 2 3 v2 rfl rfl)
  have k0 := h0
  have lt0 : ∀ x ∈ p0, x.block < W.heap.size := by obtain ⟨m, hm⟩ := k0; exact DataW.trod_lt m _ _ _ hm
  obtain ⟨fuel0, hf0⟩ := h0
  obtain ⟨us0, ok0, rl0⟩ := data_of_trod (gs := ax.gs) (G := G) datOk bulkOk fuel0 9 _ _ (by simp [Ds]) hf0
  replace ok0 : okV Tryd.prog fuel0 9 us0 (Rows.uptoBulk d0) := ok0
  obtain ⟨z0, rfl, zl0⟩ := ok_strB ok0
  obtain ⟨w0, ws0, e0, x0, y0⟩ := rl0.cons_inv
  obtain rfl := y0.nil_inv
  obtain rfl := (List.cons.inj e0).1
  have k1 := h1
  have lt1 : ∀ x ∈ p1, x.block < W.heap.size := by obtain ⟨m, hm⟩ := k1; exact DataW.trod_lt m _ _ _ hm
  obtain ⟨fuel1, hf1⟩ := h1
  obtain ⟨us1, ok1, rl1⟩ := data_of_trod (gs := ax.gs) (G := G) datOk bulkOk fuel1 24 _ _ (by simp [Ds]) hf1
  replace ok1 : okV Tryd.prog fuel1 24 us1 (Rows.uptoBulk d1) := ok1
  obtain ⟨t1, rfl, tz1⟩ := ok_tm _ _ _ ok1
  have rv1 : RV ax.gs G W (fun b _ => b < W.heap.size) (fun _ => .bool false) (mkS []) (.agg (Go.Uni.enc t1)) (.agg cs1) := by
    have := RV.mk_agg (rl1.mono fun u v h => RV.fz (gs := ax.gs) (G := G) (w := W) (F := fun b _ => b < W.heap.size) (β := fun _ => .bool false) (σ := mkS []) u v h)
    rwa [show (Value.agg cs1).cells.toList.toArray = cs1 from by simp [Value.cells]] at this
  have k2 := h2
  have lt2 : ∀ x ∈ p2, x.block < W.heap.size := by obtain ⟨m, hm⟩ := k2; exact DataW.trod_lt m _ _ _ hm
  obtain ⟨fuel2, hf2⟩ := h2
  obtain ⟨us2, ok2, rl2⟩ := data_of_trod (gs := ax.gs) (G := G) datOk bulkOk fuel2 3 _ _ (by simp [Ds]) hf2
  replace ok2 : okV Tryd.prog fuel2 3 us2 (Rows.uptoBulk d2) := ok2
  obtain ⟨i2, rfl, _, _⟩ := ok_int Tryd.underlying3 ok2
  obtain ⟨w2, ws2, e2, x2, y2⟩ := rl2.cons_inv
  obtain rfl := y2.nil_inv
  obtain rfl := (List.cons.inj e2).1
  clear hA0 hval
  refine (law_run (Domains_spec z0 t1 (by omega) i2) hE hS (.cons (.fz _ _ x0) (.cons rv1 (.cons (.fz _ _ x2) .nil)))).mono fun e W' ⟨he, bel⟩ => ?_
  subst he
  exact ⟨_, rfl, _, _, _, [], _, [], hW', trodAll_mk1 (shut_bool Tryd.underlying4 _), (trodAll_cons_mk (Below.trod laidOut (by kernel_rfl) (of_decide_eq_true (by kernel_rfl)) k0 bel lt0) (trodAll_cons_mk (Below.trod laidOut (by kernel_rfl) (of_decide_eq_true (by kernel_rfl)) k1 bel lt1) (trodAll_cons_mk (Below.trod laidOut (by kernel_rfl) (of_decide_eq_true (by kernel_rfl)) k2 bel lt2) trodAll_mk0))), rfl, bel.frame _, fun h => by cases h⟩
theorem dataDomains_met (os : Os) (args : Array Value) : laidMet Tryd.prog Rows.dataDomainsUptoRow.laid ((World.doorLaid Tryd.prog 400 os).forCall (fun _ _ => 0) ⟨#[], args, []⟩).memory :=
  laidMet_of_run' 8 (by kernel_rfl) (by kernel_rfl)
set_option maxRecDepth 100000 in
theorem dataDomains_lifted (os : Os) (started : os.Started) (H : Type) (enc : TypeId × Value → H) (F : Stop.Interp) :
    ReturnsInHanded {} Tryd.checked os 3 .any ((Rows.OpenSpec.upto Rows.dataDomainsSpec).preRow enc Tryd.prog Tryd.f3 Rows.dataDomainsUptoRow.domain false Rows.dataDomainsUptoRow.laid) (((Rows.OpenSpec.upto Rows.dataDomainsSpec).at F).post enc Tryd.prog Tryd.f3 false true false false) := by
  have hw : (DataW.whole enc Tryd.prog ((World.doorLaid Tryd.prog 400 os).forCall (fun _ _ => 0) ⟨#[], #[.string ⟨#[]⟩, .agg #[.int .i64 0, .string ⟨#[]⟩, .int .i64 0, .slice none 0 0], .int .i64 0], []⟩).memory Tryd.f3.params.toList Rows.dataDomainsSpec.vars false #[.string ⟨#[]⟩, .agg #[.int .i64 0, .string ⟨#[]⟩, .int .i64 0, .slice none 0 0], .int .i64 0].toList 8).map (fun x => (x.1, x.2.1)) =
      some ([.lit (.string []), .agg [.lit (.int .i64 0), .lit (.string []), .lit (.int .i64 0), .nil], .lit (.int .i64 0)], []) := by kernel_rfl
  obtain ⟨⟨x1, x2, x3⟩, hx, hx1⟩ := Option.map_eq_some_iff.1 hw
  simp only [Prod.mk.injEq] at hx1
  obtain ⟨rfl, rfl⟩ := hx1
  refine returnsInHanded_of_row (C := Tryd.checked) (s := Rows.OpenSpec.upto Rows.dataDomainsSpec) own started (by kernel_rfl) Tryd.func3
    (witness_row_atRef (enc := enc) (C := Tryd.checked) false (World.doorLaid Tryd.prog 400 os) #[.string ⟨#[]⟩, .agg #[.int .i64 0, .string ⟨#[]⟩, .int .i64 0, .slice none 0 0], .int .i64 0] rfl (by kernel_rfl) (by kernel_rfl) (by kernel_rfl)
      (OpenSpec.preRow_of_cond 8 hx (by kernel_rfl) (fun k hk => by cases hk; kernel_rfl) (by kernel_rfl) (dataDomains_met os _))) ?_
  intro W base args ds gs before hval hW h1 h2 h3 hL h4 h5
  exact dataDomains_contract H enc W base args ds gs before hval hW hL (h2 _ rfl)
theorem dataDomains_said : Rows.DataDomainsUptoSaid :=
  OpenClaim.holds_of_cond 3 Tryd.f3 rfl rfl rfl rfl rfl rfl rfl ⟨rfl, rfl, rfl, rfl, rfl⟩ rfl rfl rfl rfl rfl (by kernel_rfl) Tryd.func3 (by kernel_rfl)
    (of_decide_eq_true (by kernel_rfl)) (by unfold Func.isWrapper; first | (rw [if_pos (by decide +kernel)]; kernel_rfl) | (rw [if_neg (by decide +kernel)]; exact ⟨rfl, rfl⟩))
    (fun os started H enc _ F => by rw [OpenClaim.pre_eq_preRow]; exact dataDomains_lifted os started H enc F)
theorem dataDomains_plain (f : FuncId) (fn : Func) (hf : Tryd.pinned.checked.prog.funcNamed "augur/augurlaw10.DataDomains" = some f) (hfn : Tryd.pinned.checked.prog.funcs[f]? = some fn) :
    false = Tryd.pinned.checked.prog.looks [] ∧ ∀ (j : Nat) t, fn.params[j]? = some t → Tryd.pinned.checked.prog.wantsStandIn t = false := by
  obtain rfl : f = 3 := Option.some.inj ((show Tryd.prog.funcNamed "augur/augurlaw10.DataDomains" = some 3 by kernel_rfl).symm.trans hf) |>.symm
  obtain rfl : fn = Tryd.f3 := (Option.some.inj (Tryd.func3.symm.trans hfn)).symm
  refine ⟨by kernel_rfl, fun j t ht => ?_⟩
  have hparams : Tryd.f3.params = #[9, 24, 3] := rfl
  rw [hparams] at ht
  have h3 : t = 3 ∨ t = 9 ∨ t = 24 := by have h := Array.mem_of_getElem? ht; simp at h; rcases h with h | h | h <;> simp [h]
  rcases h3 with rfl | rfl | rfl
  · exact (show Tryd.prog.wantsStandIn 3 = false by kernel_rfl)
  · exact (show Tryd.prog.wantsStandIn 9 = false by kernel_rfl)
  · exact (show Tryd.prog.wantsStandIn 24 = false by kernel_rfl)
end Go.Proofs.YtahagnfdpemmaaaDoor.Va
namespace Go.Proofs.YtahagnfdpemmaaaDoor
theorem dataDomainsUpto_card : Rows.DataDomainsUptoCardSaid :=
  Claim7.holds_tied_plain_at .later [] _ _ _ _ Va.dataDomains_said (fun _ h => by cases h) (by kernel_rfl) (fun _ h => by cases h) dataDomainsUpto_row_tie rfl ⟨rfl, rfl⟩ (by kernel_rfl) rfl Va.dataDomains_plain (by kernel_rfl)
#print axioms dataDomainsUpto_card
end Go.Proofs.YtahagnfdpemmaaaDoor
end
