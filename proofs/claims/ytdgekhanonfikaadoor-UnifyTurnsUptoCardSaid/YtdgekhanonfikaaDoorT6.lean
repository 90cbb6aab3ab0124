/- Pairs of types that came in. -/
import Derived.Test.YtdgekhanonfikaaDoorT5
import Derived.Test.YtdgekhanonfikaaDoorT3
import Derived.Test.YtdgekhanonfikaaDoorCards
import Derived.Test.YtdgekhanonfikaaDoorTie
import Derived.WalkKit
import Derived.ProofKit
import Derived.OpenShut
import Derived.ChangeOld
import Derived.Lib.SmallJoins
import Derived.Deep.Slices
import Derived.Deep.DeepHandedRow
import Derived.Deep.DeepWitnessRowRef
import Derived.Lib.LaidTab
import Derived.LaidMore
import Derived.Stop.LaidErr
import Derived.Stop.LaidTwo
import Derived.Stop.Joined
/- part U3A -/
section
namespace Go.Proofs.YtdgekhanonfikaaDoor.Va
open Go.Vx Go.Av Go.Uni Go.RowKit Go.ChangeShapes Go.WideShapes Go.ChangeAt

theorem own : ownKnob Tryd.prog.godebug = none := by kernel_rfl
theorem laidOut : laidOutB Tryd.prog = true := by kernel_rfl
theorem star : "*" ++ "errors.errorString" = "*errors.errorString" := by decide
theorem row124 (u : TypeId) (h : Tryd.prog.typeName? 3 u = some "*errors.errorString") : u = 124 :=
  typeName_ptr_named (nm := "errors.errorString") (by rw [star]; kernel_rfl) (by kernel_rfl) (by decide) u (by rw [star]; exact h)
theorem hi38 : ∃ ms, Tryd.prog.underlying 38 = some (.interface ms) := ⟨_, Tryd.underlying38⟩
theorem cmp124 : (Tryd.prog.info? 124).map (·.comparable) = some true := by kernel_rfl
theorem sz138 : (Tryd.prog.info? 138).map (fun j => decide (j.size ≠ 0)) = some true := by kernel_rfl
theorem st138 : ∃ f, Tryd.prog.underlying 138 = some (.struct #[f]) ∧ f.type = 9 ∧ f.offset = 0 := ⟨_, Tryd.underlying138, rfl, rfl⟩
theorem cells138 : Tryd.prog.cellsOf 138 = 1 := by kernel_rfl
theorem cells9 : Tryd.prog.cellsOf 9 = 1 := by kernel_rfl
theorem errTab : ∃ ms f i j, ErrTab ax.P "*errors.errorString" 38 124 138 9 ms f i j := by
  obtain ⟨ms, h1⟩ := hi38
  obtain ⟨i, h3, h4⟩ := Option.map_eq_some_iff.1 cmp124
  obtain ⟨j, h5, h6⟩ := Option.map_eq_some_iff.1 sz138
  obtain ⟨f, h7, h8, h9⟩ := st138
  exact ⟨ms, f, i, j, h1, row124, Tryd.underlying124, h7, h8, h9, Tryd.underlying9, cells138, cells9, h3, h4, h5, of_decide_eq_true h6⟩

theorem bulkL {H : Type} : ∀ l : List (DataW H), (l.map Rows.uptoBulk).sum = Rows.uptoBulkAll l
  | [] => rfl
  | d :: r => by simp only [List.map_cons, List.sum_cons, Rows.uptoBulkAll, bulkL r]
theorem bulkOk {H : Type} : Bulk (Rows.uptoBulk (H := H)) := by
  refine ⟨fun d => ?_, fun s => ?_, fun d => ?_, fun l r => ?_, fun l => ?_⟩
  · cases d with
    | lit l => cases l <;> simp [Rows.uptoBulk]
    | nil => simp [Rows.uptoBulk]
    | ptr d => simp [Rows.uptoBulk]
    | slice elems spare => simp [Rows.uptoBulk]
    | agg parts => simp [Rows.uptoBulk]
    | iface t d => simp [Rows.uptoBulk]
    | map entries => simp [Rows.uptoBulk]
    | held h => simp [Rows.uptoBulk]
  · simp [Rows.uptoBulk]
  · simp [Rows.uptoBulk]
  · simp only [Rows.uptoBulk, bulkL]; omega
  · simp only [Rows.uptoBulk, bulkL]; omega

abbrev Ds : List TypeId := [3, 9, 27, 32, 35, 22]
theorem cells32 : Tryd.prog.cellsOf 32 = 4 := by kernel_rfl
theorem cells35 : Tryd.prog.cellsOf 35 = 8 := by kernel_rfl
set_option maxRecDepth 100000 in
theorem datOk : ∀ t ∈ Ds, Dat Tryd.prog Ds t := by
  intro t ht
  simp only [Ds, List.mem_cons, List.not_mem_nil, or_false] at ht
  unfold Dat
  rcases ht with rfl | rfl | rfl | rfl | rfl | rfl
  · rw [Tryd.underlying3]; trivial
  · rw [Tryd.underlying9]; trivial
  · rw [Tryd.underlying27]; exact ⟨by decide, by rw [cells32]; decide⟩
  · rw [Tryd.underlying32]; exact ⟨by decide, by kernel_rfl, by kernel_rfl, by kernel_rfl, by kernel_rfl, (show _ = _ by kernel_rfl)⟩
  · rw [Tryd.underlying35]; exact ⟨by decide, by kernel_rfl, by kernel_rfl, (show _ = _ by kernel_rfl)⟩
  · rw [Tryd.underlying22]; exact ⟨by decide, by rw [cells35]; decide⟩

theorem ok_int {n : Nat} {t : TypeId} {us : List V} {s : Nat} {k : IntKind} (hu : Tryd.prog.underlying t = some (.int k)) (h : okV Tryd.prog n t us s) : ∃ i, us = [.int k i] ∧ (Lit.int k i).wf = true ∧ 1 ≤ s := by
  cases n with
  | zero => exact h.elim
  | succ n => unfold okV at h; rw [hu] at h; exact h
theorem ok_str {n : Nat} {t : TypeId} {us : List V} {s : Nat} (hu : Tryd.prog.underlying t = some .string) (h : okV Tryd.prog n t us s) : ∃ x : ByteArray, us = [.str x] ∧ x.size ≤ maxLen ∧ x.size + 1 ≤ s := by
  cases n with
  | zero => exact h.elim
  | succ n => unfold okV at h; rw [hu] at h; exact h
theorem sum_rows {xs : List Tm} {ss : List Nat} (hl : xs.length = ss.length) (h : ∀ (i : Nat) x m, xs[i]? = some x → ss[i]? = some m → size x ≤ m) : sizes xs ≤ ss.sum := by
  induction xs generalizing ss with
  | nil => simp [sizes]
  | cons x r ih => cases ss with
    | nil => simp at hl
    | cons m ss =>
      have := h 0 x m rfl rfl
      have := ih (ss := ss) (by simpa using hl) (fun i x m hx hm => h (i + 1) x m hx hm)
      simp only [sizes, List.sum_cons]; omega
theorem list_pick {α β : Type} {p : Nat → α → β → Prop} : ∀ l : List α, (∀ (i : Nat) a, l[i]? = some a → ∃ b, p i a b) → ∃ r : List β, r.length = l.length ∧ ∀ (i : Nat) a b, l[i]? = some a → r[i]? = some b → p i a b
  | [], _ => ⟨[], rfl, fun i a b h => by simp at h⟩
  | a :: l, h => by
    obtain ⟨b, hb⟩ := h 0 a rfl
    obtain ⟨r, h1, h2⟩ := list_pick (p := fun i => p (i + 1)) l (fun i a ha => h (i + 1) a (by simpa using ha))
    refine ⟨b :: r, by simp [h1], fun i x y hx hy => ?_⟩
    cases i with
    | zero => simp at hx hy; subst hx; subst hy; exact hb
    | succ i => exact h2 i x y (by simpa using hx) (by simpa using hy)
set_option maxRecDepth 100000 in
/-- a type that came in, as a tree -/
theorem ok_tm : ∀ (n : Nat) (us : List V) (s : Nat), okV Tryd.prog n 32 us s → ∃ t : Tm, us = enc t ∧ size t ≤ s := by
  intro n
  induction n using Nat.strongRecOn with
  | _ n ih =>
  intro us s h
  cases n with
  | zero => exact h.elim
  | succ n =>
    unfold okV at h
    rw [Tryd.underlying32] at h
    obtain ⟨m, hf, hm⟩ := h
    obtain ⟨a0, b0, m0, k0, rfl, h0, hf, e0⟩ := hf
    obtain ⟨a1, b1, m1, k1, rfl, h1, hf, e1⟩ := hf
    obtain ⟨a2, b2, m2, k2, rfl, h2, hf, e2⟩ := hf
    obtain ⟨a3, b3, m3, k3, rfl, h3, hf, e3⟩ := hf
    obtain rfl : b3 = [] := hf
    obtain ⟨i0, rfl, _, _⟩ := ok_int Tryd.underlying3 h0
    obtain ⟨s1, rfl, _, _⟩ := ok_str Tryd.underlying9 h1
    obtain ⟨i2, rfl, _, _⟩ := ok_int Tryd.underlying3 h2
    cases n with
    | zero => exact h3.elim
    | succ n =>
      simp only at h3
      unfold okV at h3
      rw [Tryd.underlying27] at h3
      obtain ⟨l, ss, rfl, _, hl2, hss, hr⟩ := h3
      obtain ⟨xs, hx1, hx2⟩ := list_pick (p := fun i r (t : Tm) => ∀ m, ss[i]? = some m → r = enc t ∧ size t ≤ m) l (fun i r hi => by
        have hlt : i < ss.length := by rw [hl2]; exact (List.getElem?_eq_some_iff.1 hi).1
        obtain ⟨t, ht1, ht2⟩ := ih n (by omega) r _ (hr i r _ hi (List.getElem?_eq_getElem hlt))
        exact ⟨t, fun m hm => by rw [List.getElem?_eq_getElem hlt] at hm; cases hm; exact ⟨ht1, ht2⟩⟩)
      have hle : l = encs xs := by
        rw [encs_eq]
        refine List.ext_getElem? fun i => ?_
        rw [List.getElem?_map]
        rcases Nat.lt_or_ge i l.length with hi | hi
        · have hx := hx2 i l[i] xs[i] (List.getElem?_eq_getElem hi) (List.getElem?_eq_getElem (by omega)) ss[i] (List.getElem?_eq_getElem (by omega))
          rw [List.getElem?_eq_getElem hi, List.getElem?_eq_getElem (by omega), hx.1]; rfl
        · rw [List.getElem?_eq_none hi, List.getElem?_eq_none (by omega)]; rfl
      have hsum := sum_rows (xs := xs) (ss := ss) (by omega) (fun i x m hx hm => by
        have hi : i < l.length := by rw [← hx1]; exact (List.getElem?_eq_some_iff.1 hx).1
        exact (hx2 i l[i] x (List.getElem?_eq_getElem hi) hx m hm).2)
      refine ⟨.mk i0 s1 i2 xs, ?_, ?_⟩
      · rw [hle, cells32]; rfl
      · simp only [size]; omega
end Go.Proofs.YtdgekhanonfikaaDoor.Va
end

/- part U3B -/
section
namespace Go.Proofs.YtdgekhanonfikaaDoor.Va
open Go.Vx Go.Av Go.Uni Go.RowKit Go.ChangeShapes Go.WideShapes Go.ChangeAt
theorem mem_sum {ss : List Nat} {i m : Nat} (h : ss[i]? = some m) : m ≤ ss.sum := by
  induction ss generalizing i with
  | nil => simp at h
  | cons x r ih => cases i with
    | zero => simp at h; subst h; simp
    | succ i => have := ih (i := i) (by simpa using h); simp only [List.sum_cons]; omega
theorem len_sum {ss : List Nat} (h : ∀ (i m : Nat), ss[i]? = some m → 1 ≤ m) : ss.length ≤ ss.sum := by
  induction ss with
  | nil => simp
  | cons x r ih =>
    have := h 0 x rfl
    have := ih fun i m hm => h (i + 1) m (by simpa using hm)
    simp only [List.sum_cons, List.length_cons]; omega
set_option maxRecDepth 100000 in
/-- two types that came in -/
theorem ok_pair {n : Nat} {us : List V} {s : Nat} (h : okV Tryd.prog n 35 us s) : ∃ p : Tm × Tm, us = encP p ∧ size p.1 + size p.2 ≤ s ∧ 1 ≤ s := by
  cases n with
  | zero => exact h.elim
  | succ n =>
    unfold okV at h
    rw [Tryd.underlying35] at h
    obtain ⟨m, hf, hm⟩ := h
    obtain ⟨a0, b0, m0, k0, rfl, h0, hf, e0⟩ := hf
    obtain ⟨a1, b1, m1, k1, rfl, h1, hf, e1⟩ := hf
    obtain rfl : b1 = [] := hf
    obtain ⟨t0, rfl, s0⟩ := ok_tm n a0 m0 h0
    obtain ⟨t1, rfl, s1⟩ := ok_tm n a1 m1 h1
    exact ⟨(t0, t1), by simp [encP], by simp only; omega, by omega⟩
set_option maxRecDepth 100000 in
theorem ok_pairs {n : Nat} {us : List V} {s : Nat} (h : okV Tryd.prog n 22 us s) : ∃ ps : List (Tm × Tm), us = [.sl 8 (ps.map encP)] ∧ ps.length ≤ s ∧ ∀ p ∈ ps, size p.1 + size p.2 ≤ s := by
  cases n with
  | zero => exact h.elim
  | succ n =>
    unfold okV at h
    rw [Tryd.underlying22] at h
    obtain ⟨l, ss, rfl, _, hl2, hss, hr⟩ := h
    have rowOk : ∀ (i : Nat) r m, l[i]? = some r → ss[i]? = some m → ∃ p : Tm × Tm, r = encP p ∧ size p.1 + size p.2 ≤ m ∧ 1 ≤ m := fun i r m hi hm => ok_pair (hr i r m hi hm)
    obtain ⟨xs, hx1, hx2⟩ := list_pick (p := fun i r (t : Tm × Tm) => ∀ m, ss[i]? = some m → r = encP t ∧ size t.1 + size t.2 ≤ m) l (fun i r hi => by
      have hlt : i < ss.length := by rw [hl2]; exact (List.getElem?_eq_some_iff.1 hi).1
      obtain ⟨t, ht1, ht2, _⟩ := rowOk i r _ hi (List.getElem?_eq_getElem hlt)
      exact ⟨t, fun m hm => by rw [List.getElem?_eq_getElem hlt] at hm; cases hm; exact ⟨ht1, ht2⟩⟩)
    have hle : l = xs.map encP := by
      refine List.ext_getElem? fun i => ?_
      rw [List.getElem?_map]
      rcases Nat.lt_or_ge i l.length with hi | hi
      · have hx := hx2 i l[i] xs[i] (List.getElem?_eq_getElem hi) (List.getElem?_eq_getElem (by omega)) ss[i] (List.getElem?_eq_getElem (by omega))
        rw [List.getElem?_eq_getElem hi, List.getElem?_eq_getElem (by omega), hx.1]; rfl
      · rw [List.getElem?_eq_none hi, List.getElem?_eq_none (by omega)]; rfl
    have hlen := len_sum (ss := ss) fun i m hm => by
      have hi : i < l.length := by rw [← hl2]; exact (List.getElem?_eq_some_iff.1 hm).1
      obtain ⟨_, _, _, h⟩ := rowOk i _ m (List.getElem?_eq_getElem hi) hm
      exact h
    refine ⟨xs, by rw [hle, cells35], by omega, fun p hp => ?_⟩
    obtain ⟨i, hi, rfl⟩ := List.getElem_of_mem hp
    have hx := hx2 i l[i] xs[i] (List.getElem?_eq_getElem (by omega)) (List.getElem?_eq_getElem hi) ss[i] (List.getElem?_eq_getElem (by omega))
    have := mem_sum (ss := ss) (i := i) (List.getElem?_eq_getElem (by omega))
    omega
end Go.Proofs.YtdgekhanonfikaaDoor.Va
end
