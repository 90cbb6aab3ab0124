/- Data that came in; the variables that the program's text lays. -/
import Derived.Test.YtadgcpjobhgkiaaDoorM8
import Derived.Test.YtadgcpjobhgkiaaDoorCards
import Derived.Test.YtadgcpjobhgkiaaDoorTie
import Derived.WalkKit
import Derived.ProofKit
import Derived.OpenShut
import Derived.ChangeOld
import Derived.Lib.SmallJoins
import Derived.Deep.Slices
import Derived.Deep.DeepHandedRow
import Derived.Deep.DeepWitnessRowRef
import Derived.Lib.LaidTab
import Derived.LaidMore
import Derived.Stop.LaidErr
import Derived.Stop.LaidTwo
import Derived.Stop.Joined
/- part L1Y -/
section
namespace Go.Proofs.YtadgcpjobhgkiaaDoor.Va
open Go.Vx Go.Av Go.Lx Go.RowKit Go.ChangeShapes Go.WideShapes Go.ChangeAt

theorem own : ownKnob Tryd.prog.godebug = none := by kernel_rfl
theorem laidOut : laidOutB Tryd.prog = true := by kernel_rfl
theorem star : "*" ++ "errors.errorString" = "*errors.errorString" := by decide
theorem row95 (u : TypeId) (h : Tryd.prog.typeName? 3 u = some "*errors.errorString") : u = 95 :=
  typeName_ptr_named (nm := "errors.errorString") (by rw [star]; kernel_rfl) (by kernel_rfl) (by decide) u (by rw [star]; exact h)
theorem hi25 : ∃ ms, Tryd.prog.underlying 25 = some (.interface ms) := ⟨_, Tryd.underlying25⟩
theorem cmp95 : (Tryd.prog.info? 95).map (·.comparable) = some true := by kernel_rfl
theorem sz97 : (Tryd.prog.info? 97).map (fun j => decide (j.size ≠ 0)) = some true := by kernel_rfl
theorem st97 : ∃ f, Tryd.prog.underlying 97 = some (.struct #[f]) ∧ f.type = 9 ∧ f.offset = 0 := ⟨_, Tryd.underlying97, rfl, rfl⟩
theorem cells97 : Tryd.prog.cellsOf 97 = 1 := by kernel_rfl
theorem cells9 : Tryd.prog.cellsOf 9 = 1 := by kernel_rfl
theorem errTab : ∃ ms f i j, ErrTab ax.P "*errors.errorString" 25 95 97 9 ms f i j := by
  obtain ⟨ms, h1⟩ := hi25
  obtain ⟨i, h3, h4⟩ := Option.map_eq_some_iff.1 cmp95
  obtain ⟨j, h5, h6⟩ := Option.map_eq_some_iff.1 sz97
  obtain ⟨f, h7, h8, h9⟩ := st97
  exact ⟨ms, f, i, j, h1, row95, Tryd.underlying95, h7, h8, h9, Tryd.underlying9, cells97, cells9, h3, h4, h5, of_decide_eq_true h6⟩

/-- the table of powers of ten, as the row lays it -/
theorem tab_eq : (Rows.laid_internal_strconv_uint64pow10 : DataW Unit) = Lib.tabData .u64 Lib.pow10Tab := by rfl
theorem tab_of {W : World} {r : List (String × DataW Unit)} (h : laidMet Tryd.prog (("internal/strconv.uint64pow10", Rows.laid_internal_strconv_uint64pow10) :: r) W) :
    ∀ p ∈ ax.tabs, p.1 = 19 ∧ p.1 < W.heap.size ∧ ∃ t q, W.heap[p.1]? = some (.cells p.2 t q) := by
  rw [tab_eq] at h
  have ht := Lib.tabIs_of_head (P := Tryd.prog) (g := 19) (t := 100) (e := 81) (n := 20) (by kernel_rfl) (by kernel_rfl) Tryd.underlying100 Tryd.underlying81 (by kernel_rfl) (by kernel_rfl) h
  intro p hp
  have hp' : p = (19, (Lib.pow10Tab.map fun z => Value.int .u64 z).toArray) := by simpa using hp
  subst hp'
  unfold Lib.TabIs World.var? at ht
  rw [show Tryd.prog.globalNamed "internal/strconv.uint64pow10" = some 19 by kernel_rfl] at ht
  simp only [Option.bind_some] at ht
  refine ⟨rfl, ?_⟩
  cases hh : W.heap[19]? with
  | none => rw [hh] at ht; cases ht
  | some o =>
    rw [hh] at ht
    refine ⟨(Array.getElem?_eq_some_iff.1 hh).1, ?_⟩
    cases o with
    | cells cs t q => simp only [Option.some.injEq] at ht; subst ht; exact ⟨t, q, rfl⟩
    | _ => cases ht

theorem bulkL {H : Type} : ∀ l : List (DataW H), (l.map Rows.uptoBulk).sum = Rows.uptoBulkAll l
  | [] => rfl
  | d :: r => by simp only [List.map_cons, List.sum_cons, Rows.uptoBulkAll, bulkL r]
theorem bulkOk {H : Type} : Bulk (Rows.uptoBulk (H := H)) := by
  refine ⟨fun d => ?_, fun s => ?_, fun d => ?_, fun l r => ?_, fun l => ?_⟩
  · cases d with
    | lit l => cases l <;> simp [Rows.uptoBulk]
    | nil => simp [Rows.uptoBulk]
    | ptr d => simp [Rows.uptoBulk]
    | slice elems spare => simp [Rows.uptoBulk]
    | agg parts => simp [Rows.uptoBulk]
    | iface t d => simp [Rows.uptoBulk]
    | map entries => simp [Rows.uptoBulk]
    | held h => simp [Rows.uptoBulk]
  · simp [Rows.uptoBulk]
  · simp [Rows.uptoBulk]
  · simp only [Rows.uptoBulk, bulkL]; omega
  · simp only [Rows.uptoBulk, bulkL]; omega
end Go.Proofs.YtadgcpjobhgkiaaDoor.Va
namespace Go.Proofs.YtadgcpjobhgkiaaDoor.Va
open Go.Vx Go.Av Go.Lx Go.RowKit Go.ChangeShapes Go.WideShapes Go.ChangeAt
abbrev Ds : List TypeId := [3, 9, 33, 35, 23]
theorem cells35 : Tryd.prog.cellsOf 35 = 3 := by kernel_rfl
set_option maxRecDepth 100000 in
theorem datOk : ∀ t ∈ Ds, Dat Tryd.prog Ds t := by
  intro t ht
  simp only [Ds, List.mem_cons, List.not_mem_nil, or_false] at ht
  unfold Dat
  rcases ht with rfl | rfl | rfl | rfl | rfl
  · rw [Tryd.underlying3]; trivial
  · rw [Tryd.underlying9]; trivial
  · rw [Tryd.underlying33]; exact ⟨by decide, by rw [cells9]; decide⟩
  · rw [Tryd.underlying35]; exact ⟨by decide, by kernel_rfl, by kernel_rfl, by kernel_rfl, (show _ = _ by kernel_rfl)⟩
  · rw [Tryd.underlying23]; exact ⟨by decide, by rw [cells35]; decide⟩
theorem ok_int {n : Nat} {t : TypeId} {us : List V} {s : Nat} {k : IntKind} (hu : Tryd.prog.underlying t = some (.int k)) (h : okV Tryd.prog n t us s) : ∃ i, us = [.int k i] ∧ (Lit.int k i).wf = true ∧ 1 ≤ s := by
  cases n with
  | zero => exact h.elim
  | succ n => unfold okV at h; rw [hu] at h; exact h
set_option maxRecDepth 100000 in
theorem ok_str {n : Nat} {us : List V} {s : Nat} (h : okV Tryd.prog n 9 us s) : ∃ x : List UInt8, us = [.str (bs x)] ∧ x.length + 1 ≤ s := by
  cases n with
  | zero => exact h.elim
  | succ n =>
    unfold okV at h
    rw [Tryd.underlying9] at h
    obtain ⟨x, rfl, _, h2⟩ := h
    exact ⟨x.data.toList, by rw [bs_of], by rw [Array.length_toList]; exact h2⟩
theorem list_pick {α β : Type} {p : Nat → α → β → Prop} : ∀ l : List α, (∀ (i : Nat) a, l[i]? = some a → ∃ b, p i a b) → ∃ r : List β, r.length = l.length ∧ ∀ (i : Nat) a b, l[i]? = some a → r[i]? = some b → p i a b
  | [], _ => ⟨[], rfl, fun i a b h => by simp at h⟩
  | a :: l, h => by
    obtain ⟨b, hb⟩ := h 0 a rfl
    obtain ⟨r, h1, h2⟩ := list_pick (p := fun i => p (i + 1)) l (fun i a ha => h (i + 1) a (by simpa using ha))
    refine ⟨b :: r, by simp [h1], fun i x y hx hy => ?_⟩
    cases i with
    | zero => simp at hx hy; subst hx; subst hy; exact hb
    | succ i => exact h2 i x y (by simpa using hx) (by simpa using hy)
theorem mem_sum {ss : List Nat} {i m : Nat} (h : ss[i]? = some m) : m ≤ ss.sum := by
  induction ss generalizing i with
  | nil => simp at h
  | cons x r ih => cases i with
    | zero => simp at h; subst h; simp
    | succ i => have := ih (i := i) (by simpa using h); simp only [List.sum_cons]; omega
theorem len_sum {ss : List Nat} (h : ∀ (i m : Nat), ss[i]? = some m → 1 ≤ m) : ss.length ≤ ss.sum := by
  induction ss with
  | nil => simp
  | cons x r ih =>
    have := h 0 x rfl
    have := ih fun i m hm => h (i + 1) m (by simpa using hm)
    simp only [List.sum_cons, List.length_cons]; omega
/-- rows of a type whose form is known -/
theorem ok_rows {α : Type} {n : Nat} {e t : TypeId} {us : List V} {s : Nat} (enc : α → List V) (sz : α → Nat) (hu : Tryd.prog.underlying t = some (.slice e))
    (hrow : ∀ (n : Nat) (us : List V) (s : Nat), okV Tryd.prog n e us s → ∃ x : α, us = enc x ∧ sz x + 1 ≤ s) (h : okV Tryd.prog n t us s) : ∃ xs : List α, us = [.sl (Tryd.prog.cellsOf e) (xs.map enc)] ∧ (xs.map fun x => sz x + 1).sum ≤ s := by
  cases n with
  | zero => exact h.elim
  | succ n =>
    unfold okV at h
    rw [hu] at h
    obtain ⟨l, ss, rfl, _, hl2, hss, hr⟩ := h
    obtain ⟨xs, hx1, hx2⟩ := list_pick (p := fun i r (t : α) => ∀ m, ss[i]? = some m → r = enc t ∧ sz t + 1 ≤ m) l (fun i r hi => by
      have hlt : i < ss.length := by rw [hl2]; exact (List.getElem?_eq_some_iff.1 hi).1
      obtain ⟨t, ht1, ht2⟩ := hrow n r _ (hr i r _ hi (List.getElem?_eq_getElem hlt))
      exact ⟨t, fun m hm => by rw [List.getElem?_eq_getElem hlt] at hm; cases hm; exact ⟨ht1, ht2⟩⟩)
    have hle : l = xs.map enc := by
      refine List.ext_getElem? fun i => ?_
      rw [List.getElem?_map]
      rcases Nat.lt_or_ge i l.length with hi | hi
      · have hx := hx2 i l[i] xs[i] (List.getElem?_eq_getElem hi) (List.getElem?_eq_getElem (by omega)) ss[i] (List.getElem?_eq_getElem (by omega))
        rw [List.getElem?_eq_getElem hi, List.getElem?_eq_getElem (by omega), hx.1]; rfl
      · rw [List.getElem?_eq_none hi, List.getElem?_eq_none (by omega)]; rfl
    have hsum : ∀ (xs : List α) (ss : List Nat), xs.length = ss.length → (∀ (i : Nat) x m, xs[i]? = some x → ss[i]? = some m → sz x + 1 ≤ m) → (xs.map fun x => sz x + 1).sum ≤ ss.sum := by
      intro xs
      induction xs with
      | nil => intro ss _ _; simp
      | cons x r ih =>
        intro ss hl h
        cases ss with
        | nil => simp at hl
        | cons m ss =>
          have := h 0 x m rfl rfl
          have := ih ss (by simpa using hl) (fun i x m hx hm => h (i + 1) x m hx hm)
          simp only [List.map_cons, List.sum_cons]; omega
    have := hsum xs ss (by omega) (fun i x m hx hm => by
      have hi : i < l.length := by rw [← hx1]; exact (List.getElem?_eq_some_iff.1 hx).1
      exact (hx2 i l[i] x (List.getElem?_eq_getElem hi) hx m hm).2)
    exact ⟨xs, by rw [hle], by omega⟩
theorem ok_strs {n : Nat} {us : List V} {s : Nat} (h : okV Tryd.prog n 33 us s) : ∃ xs : List (List UInt8), us = [.sl 1 (xs.map fun x => [.str (bs x)])] ∧ (xs.map fun x => x.length + 1).sum ≤ s := by
  have := ok_rows (fun x : List UInt8 => [V.str (bs x)]) (fun x => x.length) Tryd.underlying33 (fun n us s h => ok_str h) h
  rwa [cells9] at this
set_option maxRecDepth 100000 in
theorem ok_tok {n : Nat} {us : List V} {s : Nat} (h : okV Tryd.prog n 35 us s) : ∃ t : Lx.Tok, us = encT t ∧ t.t.length + 1 ≤ s := by
  cases n with
  | zero => exact h.elim
  | succ n =>
    unfold okV at h
    rw [Tryd.underlying35] at h
    obtain ⟨m, hf, hm⟩ := h
    obtain ⟨a0, b0, m0, k0, rfl, h0, hf, e0⟩ := hf
    obtain ⟨a1, b1, m1, k1, rfl, h1, hf, e1⟩ := hf
    obtain ⟨a2, b2, m2, k2, rfl, h2, hf, e2⟩ := hf
    obtain rfl : b2 = [] := hf
    obtain ⟨i0, rfl, _, _⟩ := ok_int Tryd.underlying3 h0
    obtain ⟨s1, rfl, _⟩ := ok_str h1
    obtain ⟨i2, rfl, _, _⟩ := ok_int Tryd.underlying3 h2
    exact ⟨⟨i0, s1, i2⟩, rfl, by simp only; omega⟩
theorem ok_toks {n : Nat} {us : List V} {s : Nat} (h : okV Tryd.prog n 23 us s) : ∃ xs : List Lx.Tok, us = [.sl 3 (encTs xs)] ∧ (xs.map fun x => x.t.length + 1).sum ≤ s := by
  have := ok_rows encT (fun x => x.t.length) Tryd.underlying23 (fun n us s h => ok_tok h) h
  rw [cells35] at this
  exact this
end Go.Proofs.YtadgcpjobhgkiaaDoor.Va
end
