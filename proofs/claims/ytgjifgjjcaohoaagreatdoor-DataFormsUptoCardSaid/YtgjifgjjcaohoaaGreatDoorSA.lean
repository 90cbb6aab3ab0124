/- augurlaw10.DataForms returns true for every input of bulk at most 1048576, and leaves it as it was: the row and its card, the second form (conditions: the listed error variables hold what the program's text lays, as the card ties it). -/
import Derived.Test.YtgjifgjjcaohoaaGreatDoorS9
import Derived.Test.YtgjifgjjcaohoaaGreatDoorCards
import Derived.Test.YtgjifgjjcaohoaaGreatDoorTie
import Derived.WalkKit
import Derived.ProofKit
import Derived.OpenShut
import Derived.ChangeOld
import Derived.Lib.SmallJoins
import Derived.Deep.Slices
import Derived.Deep.DeepHandedRow
import Derived.Deep.DeepWitnessRowRef
import Derived.Lib.LaidTab
import Derived.LaidMore
import Derived.Stop.LaidErr
import Derived.Stop.LaidTwo
import Derived.Stop.Joined
/- part Z9Y -/
section
namespace Go.Proofs.YtgjifgjjcaohoaaGreatDoor.Va
open Go.Vx Go.Av Go.Lx Go.RowKit Go.ChangeShapes Go.WideShapes Go.ChangeAt

theorem own : ownKnob Tryz.prog.godebug = none := by kernel_rfl
theorem laidOut : laidOutB Tryz.prog = true := by kernel_rfl
theorem star : "*" ++ "errors.errorString" = "*errors.errorString" := by decide
theorem row157 (u : TypeId) (h : Tryz.prog.typeName? 3 u = some "*errors.errorString") : u = 157 :=
  typeName_ptr_named (nm := "errors.errorString") (by rw [star]; kernel_rfl) (by kernel_rfl) (by decide) u (by rw [star]; exact h)
theorem hi27 : ∃ ms, Tryz.prog.underlying 27 = some (.interface ms) := ⟨_, Tryz.underlying27⟩
theorem cmp157 : (Tryz.prog.info? 157).map (·.comparable) = some true := by kernel_rfl
theorem sz159 : (Tryz.prog.info? 159).map (fun j => decide (j.size ≠ 0)) = some true := by kernel_rfl
theorem st159 : ∃ f, Tryz.prog.underlying 159 = some (.struct #[f]) ∧ f.type = 9 ∧ f.offset = 0 := ⟨_, Tryz.underlying159, rfl, rfl⟩
theorem cells159 : Tryz.prog.cellsOf 159 = 1 := by kernel_rfl
theorem cells9 : Tryz.prog.cellsOf 9 = 1 := by kernel_rfl
theorem errTab : ∃ ms f i j, ErrTab ax.P "*errors.errorString" 27 157 159 9 ms f i j := by
  obtain ⟨ms, h1⟩ := hi27
  obtain ⟨i, h3, h4⟩ := Option.map_eq_some_iff.1 cmp157
  obtain ⟨j, h5, h6⟩ := Option.map_eq_some_iff.1 sz159
  obtain ⟨f, h7, h8, h9⟩ := st159
  exact ⟨ms, f, i, j, h1, row157, Tryz.underlying157, h7, h8, h9, Tryz.underlying9, cells159, cells9, h3, h4, h5, of_decide_eq_true h6⟩

/-- the table of powers of ten, as the row lays it -/
theorem tab_eq : (Rows.laid_internal_strconv_uint64pow10 : DataW Unit) = Lib.tabData .u64 Lib.pow10Tab := by rfl
theorem tab_of {W : World} {r : List (String × DataW Unit)} (h : laidMet Tryz.prog (("internal/strconv.uint64pow10", Rows.laid_internal_strconv_uint64pow10) :: r) W) :
    ∀ p ∈ ax.tabs, p.1 = 16 ∧ p.1 < W.heap.size ∧ ∃ t q, W.heap[p.1]? = some (.cells p.2 t q) := by
  rw [tab_eq] at h
  have ht := Lib.tabIs_of_head (P := Tryz.prog) (g := 16) (t := 132) (e := 82) (n := 20) (by kernel_rfl) (by kernel_rfl) Tryz.underlying132 Tryz.underlying82 (by kernel_rfl) (by kernel_rfl) h
  intro p hp
  have hp' : p = (16, (Lib.pow10Tab.map fun z => Value.int .u64 z).toArray) := by simpa using hp
  subst hp'
  unfold Lib.TabIs World.var? at ht
  rw [show Tryz.prog.globalNamed "internal/strconv.uint64pow10" = some 16 by kernel_rfl] at ht
  simp only [Option.bind_some] at ht
  refine ⟨rfl, ?_⟩
  cases hh : W.heap[16]? with
  | none => rw [hh] at ht; cases ht
  | some o =>
    rw [hh] at ht
    refine ⟨(Array.getElem?_eq_some_iff.1 hh).1, ?_⟩
    cases o with
    | cells cs t q => simp only [Option.some.injEq] at ht; subst ht; exact ⟨t, q, rfl⟩
    | _ => cases ht

theorem bulkL {H : Type} : ∀ l : List (DataW H), (l.map Rows.uptoBulk).sum = Rows.uptoBulkAll l
  | [] => rfl
  | d :: r => by simp only [List.map_cons, List.sum_cons, Rows.uptoBulkAll, bulkL r]
theorem bulkOk {H : Type} : Bulk (Rows.uptoBulk (H := H)) := by
  refine ⟨fun d => ?_, fun s => ?_, fun d => ?_, fun l r => ?_, fun l => ?_⟩
  · cases d with
    | lit l => cases l <;> simp [Rows.uptoBulk]
    | nil => simp [Rows.uptoBulk]
    | ptr d => simp [Rows.uptoBulk]
    | slice elems spare => simp [Rows.uptoBulk]
    | agg parts => simp [Rows.uptoBulk]
    | iface t d => simp [Rows.uptoBulk]
    | map entries => simp [Rows.uptoBulk]
    | held h => simp [Rows.uptoBulk]
  · simp [Rows.uptoBulk]
  · simp [Rows.uptoBulk]
  · simp only [Rows.uptoBulk, bulkL]; omega
  · simp only [Rows.uptoBulk, bulkL]; omega
open Go.Dr
abbrev Ds : List TypeId := [3, 4, 9, 23, 25]
theorem cells25 : Tryz.prog.cellsOf 25 = 4 := by kernel_rfl
set_option maxRecDepth 100000 in
theorem datOk : ∀ t ∈ Ds, Dat Tryz.prog Ds t := by
  intro t ht
  simp only [Ds, List.mem_cons, List.not_mem_nil, or_false] at ht
  unfold Dat
  rcases ht with rfl | rfl | rfl | rfl | rfl
  · rw [Tryz.underlying3]; trivial
  · rw [Tryz.underlying4]; trivial
  · rw [Tryz.underlying9]; trivial
  · rw [Tryz.underlying23]; exact ⟨by decide, by rw [cells25]; decide⟩
  · rw [Tryz.underlying25]; exact ⟨by decide, by kernel_rfl, by kernel_rfl, by kernel_rfl, by kernel_rfl, (show _ = _ by kernel_rfl)⟩
set_option maxRecDepth 100000 in
theorem ok_int {n : Nat} {t : TypeId} {us : List V} {s : Nat} {k : IntKind} (hu : Tryz.prog.underlying t = some (.int k)) (h : okV Tryz.prog n t us s) : ∃ i, us = [.int k i] ∧ (Lit.int k i).wf = true ∧ 1 ≤ s := by
  cases n with
  | zero => exact h.elim
  | succ n => unfold okV at h; rw [hu] at h; exact h
set_option maxRecDepth 100000 in
theorem ok_bool {n : Nat} {t : TypeId} {us : List V} {s : Nat} (hu : Tryz.prog.underlying t = some .bool) (h : okV Tryz.prog n t us s) : ∃ b, us = [.bool b] ∧ 1 ≤ s := by
  cases n with
  | zero => exact h.elim
  | succ n => unfold okV at h; rw [hu] at h; exact h
set_option maxRecDepth 100000 in
theorem ok_str {n : Nat} {us : List V} {s : Nat} (h : okV Tryz.prog n 9 us s) : ∃ x : List UInt8, us = [.str (bs x)] ∧ x.length + 1 ≤ s := by
  cases n with
  | zero => exact h.elim
  | succ n =>
    unfold okV at h
    rw [Tryz.underlying9] at h
    obtain ⟨x, rfl, _, h2⟩ := h
    exact ⟨x.data.toList, by rw [bs_of], by rw [Array.length_toList]; exact h2⟩
theorem list_pick {α β : Type} {p : Nat → α → β → Prop} : ∀ l : List α, (∀ (i : Nat) a, l[i]? = some a → ∃ b, p i a b) → ∃ r : List β, r.length = l.length ∧ ∀ (i : Nat) a b, l[i]? = some a → r[i]? = some b → p i a b
  | [], _ => ⟨[], rfl, fun i a b h => by simp at h⟩
  | a :: l, h => by
    obtain ⟨b, hb⟩ := h 0 a rfl
    obtain ⟨r, h1, h2⟩ := list_pick (p := fun i => p (i + 1)) l (fun i a ha => h (i + 1) a (by simpa using ha))
    refine ⟨b :: r, by simp [h1], fun i x y hx hy => ?_⟩
    cases i with
    | zero => simp at hx hy; subst hx; subst hy; exact hb
    | succ i => exact h2 i x y (by simpa using hx) (by simpa using hy)
theorem sum_rows {xs : List Dt} {ss : List Nat} (hl : xs.length = ss.length) (h : ∀ (i : Nat) x m, xs[i]? = some x → ss[i]? = some m → wtD x ≤ 24 * m ∧ rngD x) : wtDs xs ≤ 24 * ss.sum ∧ rngDs xs := by
  induction xs generalizing ss with
  | nil => simp [wtDs, rngDs]
  | cons x r ih => cases ss with
    | nil => simp at hl
    | cons m ss =>
      have h0 := h 0 x m rfl rfl
      have h1 := ih (ss := ss) (by simpa using hl) (fun i x m hx hm => h (i + 1) x m hx hm)
      simp only [wtDs, rngDs, List.sum_cons]; exact ⟨by omega, h0.2, h1.2⟩
set_option maxRecDepth 100000 in
/-- data that came in, as a tree -/
theorem ok_dat : ∀ (n : Nat) (us : List V) (s : Nat), okV Tryz.prog n 25 us s → ∃ t : Dt, us = encD t ∧ wtD t ≤ 24 * s ∧ rngD t := by
  intro n
  induction n using Nat.strongRecOn with
  | _ n ih =>
  intro us s h
  cases n with
  | zero => exact h.elim
  | succ n =>
    unfold okV at h
    rw [Tryz.underlying25] at h
    obtain ⟨m, hf, hm⟩ := h
    obtain ⟨a0, b0, m0, k0, rfl, h0, hf, e0⟩ := hf
    obtain ⟨a1, b1, m1, k1, rfl, h1, hf, e1⟩ := hf
    obtain ⟨a2, b2, m2, k2, rfl, h2, hf, e2⟩ := hf
    obtain ⟨a3, b3, m3, k3, rfl, h3, hf, e3⟩ := hf
    obtain rfl : b3 = [] := hf
    obtain ⟨c0, rfl, _⟩ := ok_bool Tryz.underlying4 h0
    obtain ⟨i1, rfl, hw1, _⟩ := ok_int Tryz.underlying3 h1
    obtain ⟨s2, rfl, _⟩ := ok_str h2
    have hrng : -9223372036854775808 ≤ i1 ∧ i1 ≤ 9223372036854775807 := by
      have := hw1
      simp [Lit.wf, IntKind.min, IntKind.max, IntKind.signed, IntKind.bits] at this
      omega
    cases n with
    | zero => exact h3.elim
    | succ n =>
      simp only at h3
      unfold okV at h3
      rw [Tryz.underlying23] at h3
      obtain ⟨l, ss, rfl, _, hl2, hss, hr⟩ := h3
      obtain ⟨xs, hx1, hx2⟩ := list_pick (p := fun i r (t : Dt) => ∀ m, ss[i]? = some m → r = encD t ∧ wtD t ≤ 24 * m ∧ rngD t) l (fun i r hi => by
        have hlt : i < ss.length := by rw [hl2]; exact (List.getElem?_eq_some_iff.1 hi).1
        obtain ⟨t, ht1, ht2⟩ := ih n (by omega) r _ (hr i r _ hi (List.getElem?_eq_getElem hlt))
        exact ⟨t, fun m hm => by rw [List.getElem?_eq_getElem hlt] at hm; cases hm; exact ⟨ht1, ht2⟩⟩)
      have hle : l = encDs xs := by
        rw [encDs_eq]
        refine List.ext_getElem? fun i => ?_
        rw [List.getElem?_map]
        rcases Nat.lt_or_ge i l.length with hi | hi
        · have hx := hx2 i l[i] xs[i] (List.getElem?_eq_getElem hi) (List.getElem?_eq_getElem (by omega)) ss[i] (List.getElem?_eq_getElem (by omega))
          rw [List.getElem?_eq_getElem hi, List.getElem?_eq_getElem (by omega), hx.1]; rfl
        · rw [List.getElem?_eq_none hi, List.getElem?_eq_none (by omega)]; rfl
      have hsum := sum_rows (xs := xs) (ss := ss) (by omega) (fun i x m hx hm => by
        have hi : i < l.length := by rw [← hx1]; exact (List.getElem?_eq_some_iff.1 hx).1
        exact (hx2 i l[i] x (List.getElem?_eq_getElem hi) hx m hm).2)
      refine ⟨.mk c0 i1 s2 xs, ?_, ?_, hrng, hsum.2⟩
      · rw [hle, cells25]; rfl
      · have := hsum.1
        simp only [wtD]; omega
end Go.Proofs.YtgjifgjjcaohoaaGreatDoor.Va
end

/- part Z9C -/
section
namespace Go.Proofs.YtgjifgjjcaohoaaGreatDoor.Va
open Go.Vx Go.Av Go.Lx Go.Dr Go.RowKit Go.ChangeShapes Go.WideShapes Go.ChangeAt
def dataForms_es : List (String × Nat × List UInt8) := [("augur/api.ErrText", 2, [97, 117, 103, 117, 114, 58, 32, 116, 101, 120, 116]), ("augur/api.ErrSyntax", 3, [97, 117, 103, 117, 114, 58, 32, 115, 121, 110, 116, 97, 120]), ("augur/api.ErrNest", 4, [97, 117, 103, 117, 114, 58, 32, 110, 101, 115, 116]), ("augur/api.ErrLarge", 0, [97, 117, 103, 117, 114, 58, 32, 108, 97, 114, 103, 101]), ("augur/api.ErrNames", 5, [97, 117, 103, 117, 114, 58, 32, 110, 97, 109, 101, 115]), ("augur/api.ErrTypes", 6, [97, 117, 103, 117, 114, 58, 32, 116, 121, 112, 101, 115]), ("augur/api.ErrModes", 7, [97, 117, 103, 117, 114, 58, 32, 109, 111, 100, 101, 115]), ("augur/api.ErrDet", 8, [97, 117, 103, 117, 114, 58, 32, 100, 101, 116, 101, 114, 109, 105, 110, 105, 115, 109]), ("augur/api.ErrNone", 9, [97, 117, 103, 117, 114, 58, 32, 110, 111, 110, 101]), ("augur/api.ErrData", 1, [97, 117, 103, 117, 114, 58, 32, 100, 97, 116, 97]), ("augur/api.ErrBytes", 10, [97, 117, 103, 117, 114, 58, 32, 98, 121, 116, 101, 115]), ("augur/api.ErrCode", 11, [97, 117, 103, 117, 114, 58, 32, 99, 111, 100, 101]), ("augur/api.ErrFuel", 12, [97, 117, 103, 117, 114, 58, 32, 102, 117, 101, 108]), ("augur/api.ErrHeap", 13, [97, 117, 103, 117, 114, 58, 32, 104, 101, 97, 112]), ("augur/api.ErrFrames", 14, [97, 117, 103, 117, 114, 58, 32, 102, 114, 97, 109, 101, 115]), ("augur/api.ErrState", 15, [97, 117, 103, 117, 114, 58, 32, 115, 116, 97, 116, 101]), ("strconv.ErrRange", 21, [118, 97, 108, 117, 101, 32, 111, 117, 116, 32, 111, 102, 32, 114, 97, 110, 103, 101]), ("strconv.ErrSyntax", 20, [105, 110, 118, 97, 108, 105, 100, 32, 115, 121, 110, 116, 97, 120])]
theorem dataForms_errs {W : World} (h : laidMet Tryz.prog Rows.dataFormsUptoRow.laid W) : ∃ G, ErrOk ax.P ax.gs ax.ift ax.tabs G ∧ ∀ β, Sim ax.gs G W (fun b _ => b < W.heap.size) β (mkS []) := by
  obtain ⟨ms, f, i, j, T⟩ := errTab
  have htb := tab_of (h.tail.tail)
  refine errs_tabs T (es := dataForms_es) (r := []) (h.tail.tail.tail) ?_ ?_ (by decide) (by decide) (fun p hp => ⟨by rw [(htb p hp).1]; decide, (htb p hp).2⟩) (by decide)
  · intro e he
    simp only [dataForms_es, List.mem_cons, List.not_mem_nil, or_false] at he
    rcases he with rfl | rfl | rfl | rfl | rfl | rfl | rfl | rfl | rfl | rfl | rfl | rfl | rfl | rfl | rfl | rfl | rfl | rfl <;> exact ⟨by kernel_rfl, by kernel_rfl⟩
  · intro g hg
    have : g ∈ dataForms_es.map fun e => e.2.1 := (show ∀ g ∈ ax.gs, g ∈ dataForms_es.map fun e => e.2.1 by decide) g hg
    obtain ⟨e, he, hh⟩ := List.mem_map.1 this
    exact ⟨e, he, hh⟩
set_option maxRecDepth 100000 in
theorem dataForms_contract (H : Type) (enc : TypeId × Value → H) (W : World) (base : Nat) (args : Array Value) (ds gs : List (DataW H)) (before : List MemPlace)
    (hval : ∀ (j : Nat) t v, Tryz.f4.params[j]? = some t → args[j]? = some v → Value.okWide Tryz.prog W .any base t v)
    (hW : DataW.Whole enc Tryz.prog Tryz.f4.params.toList Rows.dataFormsSpec.vars false W args.toList ds gs before) (hL : laidMetH Tryz.prog Rows.dataFormsUptoRow.laid W) (hk : Rows.uptoSmall H (ds ++ gs) = true) :
    Calls Tryz.prog 4 args W fun e W' => ∃ v, e = .returned v ∧ Rows.dataFormsSpec.post enc Tryz.prog Tryz.f4 false true false false W args v W' := by
  have hW' := hW
  obtain ⟨p, q, hA0, hV, rfl, _, _⟩ := hW
  have hA : DataW.TrodAll enc Tryz.prog W 0 (fun _ => true) true Tryz.f4.params.toList args.toList ds p := hA0
  have hparams : Tryz.f4.params = #[25] := rfl
  rw [hparams] at hA hval
  obtain ⟨v0, vs0, d0, ds0, p0, q0, hargs, rfl, rfl, h0, r0⟩ := trodAll_cons hA
  obtain ⟨rfl, rfl, rfl⟩ := trodAll_nil r0
  obtain rfl : args = #[v0] := by cases args; simp_all
  obtain ⟨rfl, rfl⟩ := trodVars_none hV
  have hsm : Rows.uptoBulk d0 ≤ 1048576 := by simpa [Rows.uptoSmall, Rows.uptoBulkAll, Nat.add_assoc] using hk
  obtain ⟨G, hE, hS⟩ := dataForms_errs hL
  obtain ⟨cs0, rfl, _⟩ := okWide_struct Tryz.underlying25 (hval 0 25 v0 rfl rfl)
  have k0 := h0
  have lt0 : ∀ x ∈ p0, x.block < W.heap.size := by obtain ⟨m, hm⟩ := k0; exact DataW.trod_lt m _ _ _ hm
  obtain ⟨fuel0, hf0⟩ := h0
  obtain ⟨us0, ok0, rl0⟩ := data_of_trod (gs := ax.gs) (G := G) datOk bulkOk fuel0 25 _ _ (by simp [Ds]) hf0
  replace ok0 : okV Tryz.prog fuel0 25 us0 (Rows.uptoBulk d0) := ok0
  obtain ⟨t0, rfl, tz0, tr0⟩ := ok_dat _ _ _ ok0
  have rv0 : RV ax.gs G W (fun b _ => b < W.heap.size) (fun _ => .bool false) (mkS []) (.agg (Go.Dr.encD t0)) (.agg cs0) := by
    have := RV.mk_agg (rl0.mono fun u v h => RV.fz (gs := ax.gs) (G := G) (w := W) (F := fun b _ => b < W.heap.size) (β := fun _ => .bool false) (σ := mkS []) u v h)
    rwa [show (Value.agg cs0).cells.toList.toArray = cs0 from by simp [Value.cells]] at this
  clear hA0 hval
  refine (law_run (Forms_spec t0 (by have hb : big = 1099511627776 := rfl; omega) tr0) hE hS (.cons rv0 .nil)).mono fun e W' ⟨he, bel⟩ => ?_
  subst he
  exact ⟨_, rfl, _, _, _, [], _, [], hW', trodAll_mk1 (shut_bool Tryz.underlying4 _), (trodAll_cons_mk (Below.trod laidOut (by kernel_rfl) (of_decide_eq_true (by kernel_rfl)) k0 bel lt0) trodAll_mk0), rfl, bel.frame _, fun h => by cases h⟩
theorem dataForms_met (os : Os) (args : Array Value) : laidMet Tryz.prog Rows.dataFormsUptoRow.laid ((World.doorLaid Tryz.prog 400 os).forCall (fun _ _ => 0) ⟨#[], args, []⟩).memory :=
  laidMet_of_run' 8 (by kernel_rfl) (by kernel_rfl)
set_option maxRecDepth 100000 in
theorem dataForms_lifted (os : Os) (started : os.Started) (H : Type) (enc : TypeId × Value → H) (F : Stop.Interp) :
    ReturnsInHanded {} Tryz.checked os 4 .any ((Rows.OpenSpec.upto Rows.dataFormsSpec).preRow enc Tryz.prog Tryz.f4 Rows.dataFormsUptoRow.domain false Rows.dataFormsUptoRow.laid) (((Rows.OpenSpec.upto Rows.dataFormsSpec).at F).post enc Tryz.prog Tryz.f4 false true false false) := by
  have hw : (DataW.whole enc Tryz.prog ((World.doorLaid Tryz.prog 400 os).forCall (fun _ _ => 0) ⟨#[], #[.agg #[.bool false, .int .i64 0, .string ⟨#[]⟩, .slice none 0 0]], []⟩).memory Tryz.f4.params.toList Rows.dataFormsSpec.vars false #[.agg #[.bool false, .int .i64 0, .string ⟨#[]⟩, .slice none 0 0]].toList 8).map (fun x => (x.1, x.2.1)) =
      some ([.agg [.lit (.bool false), .lit (.int .i64 0), .lit (.string []), .nil]], []) := by kernel_rfl
  obtain ⟨⟨x1, x2, x3⟩, hx, hx1⟩ := Option.map_eq_some_iff.1 hw
  simp only [Prod.mk.injEq] at hx1
  obtain ⟨rfl, rfl⟩ := hx1
  refine returnsInHanded_of_row (C := Tryz.checked) (s := Rows.OpenSpec.upto Rows.dataFormsSpec) own started (by kernel_rfl) Tryz.func4
    (witness_row_atRef (enc := enc) (C := Tryz.checked) false (World.doorLaid Tryz.prog 400 os) #[.agg #[.bool false, .int .i64 0, .string ⟨#[]⟩, .slice none 0 0]] rfl (by kernel_rfl) (by kernel_rfl) (by kernel_rfl)
      (OpenSpec.preRow_of_cond 8 hx (by kernel_rfl) (fun k hk => by cases hk; kernel_rfl) (by kernel_rfl) (dataForms_met os _))) ?_
  intro W base args ds gs before hval hW h1 h2 h3 hL h4 h5
  exact dataForms_contract H enc W base args ds gs before hval hW hL (h2 _ rfl)
theorem dataForms_said : Rows.DataFormsUptoSaid :=
  OpenClaim.holds_of_cond 4 Tryz.f4 rfl rfl rfl rfl rfl rfl rfl ⟨rfl, rfl, rfl, rfl, rfl⟩ rfl rfl rfl rfl rfl (by kernel_rfl) Tryz.func4 (by kernel_rfl)
    (of_decide_eq_true (by kernel_rfl)) (by unfold Func.isWrapper; first | (rw [if_pos (by decide +kernel)]; kernel_rfl) | (rw [if_neg (by decide +kernel)]; exact ⟨rfl, rfl⟩))
    (fun os started H enc _ F => by rw [OpenClaim.pre_eq_preRow]; exact dataForms_lifted os started H enc F)
theorem dataForms_plain (f : FuncId) (fn : Func) (hf : Tryz.pinned.checked.prog.funcNamed "augur/augurlaw10.DataForms" = some f) (hfn : Tryz.pinned.checked.prog.funcs[f]? = some fn) :
    true = Tryz.pinned.checked.prog.looks [] ∧ ∀ (j : Nat) t, fn.params[j]? = some t → Tryz.pinned.checked.prog.wantsStandIn t = false := by
  obtain rfl : f = 4 := Option.some.inj ((show Tryz.prog.funcNamed "augur/augurlaw10.DataForms" = some 4 by kernel_rfl).symm.trans hf) |>.symm
  obtain rfl : fn = Tryz.f4 := (Option.some.inj (Tryz.func4.symm.trans hfn)).symm
  refine ⟨by kernel_rfl, fun j t ht => ?_⟩
  have hparams : Tryz.f4.params = #[25] := rfl
  rw [hparams] at ht
  have h3 : t = 25 := by simpa [or_comm] using Array.mem_of_getElem? ht
  rcases h3 with rfl
  · exact (show Tryz.prog.wantsStandIn 25 = false by kernel_rfl)
end Go.Proofs.YtgjifgjjcaohoaaGreatDoor.Va
namespace Go.Proofs.YtgjifgjjcaohoaaGreatDoor
theorem dataFormsUpto_card : Rows.DataFormsUptoCardSaid :=
  Claim7.holds_tied_plain_at .later [] _ _ _ _ Va.dataForms_said (fun _ h => by cases h) (by kernel_rfl) (fun _ h => by cases h) dataFormsUpto_row_tie rfl ⟨rfl, rfl⟩ (by kernel_rfl) rfl Va.dataForms_plain (by kernel_rfl)
#print axioms dataFormsUpto_card
end Go.Proofs.YtgjifgjjcaohoaaGreatDoor
end
