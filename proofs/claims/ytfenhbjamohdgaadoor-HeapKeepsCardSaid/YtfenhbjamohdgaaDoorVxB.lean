/- An executor over the model's code: each operation's step is the model's. -/
import Derived.Test.YtfenhbjamohdgaaDoorVxA
import Derived.Laws.Strings
import Derived.Laws.IdiomArrays
namespace Go.Vx

variable {P : Program} {tys : Tys} {fns : Fns} {w : World}

def FnsOk (P : Program) : Fns → Prop
  | [] => True
  | (i, _) :: r => (∃ fn, P.funcs[i]? = some fn ∧ (fn.name == "runtime.NumGoroutine") = false ∧ fn.body.isNone = false) ∧ FnsOk P r

theorem fn_of_look : ∀ {fns : Fns}, FnsOk P fns → ∀ {g rs}, lookF fns g = some rs → ∃ fn, P.funcs[g]? = some fn ∧ (fn.name == "runtime.NumGoroutine") = false ∧ fn.body.isNone = false
  | (i, z) :: r, h, t, y, hl => by
    simp only [lookF] at hl
    cases hb : Nat.beq i t with
    | true => exact Nat.eq_of_beq_eq_true hb ▸ h.1
    | false => rw [hb] at hl; exact fn_of_look h.2 hl

section types
variable {t : Nat} {y : Ty}
theorem run_under {d : TypeDesc} (h : P.underlying t = some d) : (underlying t).run P w = .ok d w := by
  simp [underlying, h]
theorem run_info (h : y.Ok P t) : ∃ i, P.info? t = some i ∧ i.size = y.size ∧ i.bytes = y.bytes ∧ ∃ z, i.zero = some z ∧ z.cells.toList = y.zero := by
  have h1 := h.info; have h2 := h.zero
  cases hi : P.info? t with
  | none => rw [hi] at h1; cases h1
  | some i =>
    rw [hi] at h1 h2
    simp only [Option.map_some, Option.some.injEq, Prod.mk.injEq] at h1
    cases hz : i.zero with
    | none => simp [hz] at h2
    | some z => exact ⟨i, rfl, h1.1, h1.2, z, hz, by simpa [hz] using h2⟩
theorem run_typeInfo (h : y.Ok P t) : ∃ i, (typeInfo t).run P w = .ok i w ∧ i.size = y.size ∧ i.bytes = y.bytes := by
  obtain ⟨i, h1, h2, h3, _⟩ := run_info h
  exact ⟨i, by simp [typeInfo, h1], h2, h3⟩
theorem run_sizeOf (h : y.Ok P t) : (sizeOf t).run P w = .ok y.size w := by
  obtain ⟨i, h1, h2, _⟩ := run_info h
  simp [sizeOf, typeInfo, h1, h2]
theorem run_zero (h : y.Ok P t) : ∃ z, (zeroValue t).run P w = .ok z w ∧ z.cells.toList = y.zero := by
  obtain ⟨i, h1, _, _, z, h2, h3⟩ := run_info h
  exact ⟨z, by simp [zeroValue, typeInfo, h1, h2], h3⟩
end types

theorem run_isAgg_yes {t : Nat} {fs : List (Nat × Nat)} (h : (TK.agg fs).ok P t) : (isAgg t).run P w = .ok true w := by
  obtain ⟨f, hf, _⟩ := h
  simp [isAgg, run_under hf]
theorem run_isAgg_arr {t n e : Nat} (h : (TK.arr n e).ok P t) : (isAgg t).run P w = .ok true w := by
  simp [isAgg, run_under (show P.underlying t = _ from h)]
def TK.plain : TK → Bool
  | .agg _ | .arr _ _ | .tuple _ | .other => false
  | _ => true
theorem run_isAgg_no {t : Nat} {k : TK} (h : k.ok P t) (hp : k.plain = true) : (isAgg t).run P w = .ok false w := by
  cases k <;> simp [TK.plain] at hp <;> simp only [TK.ok] at h
  case iface => obtain ⟨_, h⟩ := h; simp [isAgg, run_under h]
  case fn => obtain ⟨_, _, _, h⟩ := h; simp [isAgg, run_under h]
  all_goals simp [isAgg, run_under h]

theorem add_none (b f n : Nat) : (⟨b, f, none⟩ : Addr).add n = ⟨b, f + n, none⟩ := by
  unfold Addr.add
  by_cases h : n = 0
  · subst h; simp
  · simp [h]

/-! ### loads and stores -/
theorem run_loadFrom (P : Program) (w : World) (b : Nat) : ∀ (vs : List Value) (f i : Nat) (acc : Array Value), cellsAt w b (f + i) vs →
    (loadCellsFrom ⟨b, f, none⟩ i vs.length acc).run P w = .ok (acc ++ vs.toArray) w
  | [], f, i, acc, _ => by simp [loadCellsFrom]
  | v :: vs, f, i, acc, h => by
    obtain ⟨h1, h2⟩ := h
    have ih := run_loadFrom P w b vs f (i + 1) (acc.push v) (by simpa [Nat.add_assoc] using h2)
    simp only [List.length_cons, loadCellsFrom, add_none, Sem.run_bind, run_load, h1, Result.andThen_ok, ih]
    simp

theorem run_load_agg {t b f : Nat} {vs : List Value} {y : Ty} (hy : y.Ok P t) (ha : (isAgg t).run P w = .ok true w) (hl : vs.length = y.size) (h : cellsAt w b f vs) :
    (Instr.loadAt t (.pointer (some ⟨b, f, none⟩))).run P w = .ok (.agg vs.toArray) w := by
  have := run_loadFrom P w b vs f 0 #[] (by simpa using h)
  simp [Instr.loadAt, Instr.sureAddr, loadVar, ha, run_sizeOf hy, loadCells, ← hl, this]

theorem run_load_one {t b f : Nat} {v : Value} (ha : (isAgg t).run P w = .ok false w) (h : w.cell? ⟨b, f, none⟩ = some v) :
    (Instr.loadAt t (.pointer (some ⟨b, f, none⟩))).run P w = .ok v w := by
  simp [Instr.loadAt, Instr.sureAddr, loadVar, ha, h]

theorem loadW_run {t b f : Nat} {K : List Value → Value → Prop} (hT : AllOk P tys) (h : loadW tys t b f w K) :
    ∃ vs v, cellsAt w b f vs ∧ K vs v ∧ ∀ w', cellsAt w' b f vs → (Instr.loadAt t (.pointer (some ⟨b, f, none⟩))).run P w' = .ok v w' := by
  unfold loadW at h
  cases hl : look tys t with
  | none => rw [hl] at h; exact h.elim
  | some y =>
    rw [hl] at h; dsimp only at h
    have hy := ok_of_look hT hl
    have htk := hy.tk
    cases hk : y.tk with
    | agg fs =>
      rw [hk] at h; dsimp only at h
      cases hb : Nat.beq y.sh.length y.size with
      | false => rw [hb] at h; exact h.elim
      | true =>
        rw [hb] at h
        obtain ⟨vs, hlen, hc, hK⟩ := exL_elim h
        exact ⟨vs, _, hc, hK, fun w' hc' => run_load_agg hy (run_isAgg_yes (hk ▸ htk)) (hlen.trans (Nat.eq_of_beq_eq_true hb)) hc'⟩
    | arr n e =>
      rw [hk] at h; dsimp only at h
      cases hb : Nat.beq y.sh.length y.size with
      | false => rw [hb] at h; exact h.elim
      | true =>
        rw [hb] at h
        obtain ⟨vs, hlen, hc, hK⟩ := exL_elim h
        exact ⟨vs, _, hc, hK, fun w' hc' => run_load_agg hy (run_isAgg_arr (hk ▸ htk)) (hlen.trans (Nat.eq_of_beq_eq_true hb)) hc'⟩
    | tuple ts => rw [hk] at h; exact h.elim
    | other => rw [hk] at h; exact h.elim
    | _ =>
      rw [hk] at h htk; dsimp only at h
      split at h
      · obtain ⟨v, hc, hK⟩ := Sh.ex_elim h
        exact ⟨[v], v, ⟨hc, trivial⟩, hK, fun w' hc' => run_load_one (run_isAgg_no htk rfl) hc'.1⟩
      · exact h.elim

theorem canSt_set {w : World} {b : Nat} {u : Value} {g : Nat} : ∀ (vs : List Value) (o : Nat), canSt w b o vs → canSt (w.setCell ⟨b, g, none⟩ u) b o vs
  | [], _, _ => trivial
  | v :: vs, o, ⟨⟨⟨x, h1⟩, h2, h3⟩, h⟩ => by
    refine ⟨⟨?_, ?_, h3⟩, canSt_set vs (o + 1) h⟩
    · exact (RowKit.cell?_setCell_some h1)
    · rw [World.frozen?_setCell]; exact h2

theorem run_store_cell {P : Program} {w : World} {b o : Nat} {v : Value} (h : ∃ u, w.cell? ⟨b, o, none⟩ = some u) (hf : w.frozen? ⟨b, o, none⟩ = false) (ho : v.oneCell' = true) :
    (store ⟨b, o, none⟩ v).run P w = .ok () (w.setCell ⟨b, o, none⟩ v) := by
  obtain ⟨u, h⟩ := h
  cases v <;> simp [Value.oneCell'] at ho <;> simp [store, Sem.run, h, hf]

theorem run_storeL (P : Program) (b : Nat) : ∀ (vs : List Value) (f i : Nat) (w : World), canSt w b (f + i) vs →
    (storeCells ⟨b, f, none⟩ vs i).run P w = .ok () (setL w b (f + i) vs)
  | [], _, _, _, _ => by simp [storeCells, setL]
  | v :: vs, f, i, w, ⟨⟨h1, h2, h3⟩, h⟩ => by
    have ih := run_storeL P b vs f (i + 1) _ (canSt_set (u := v) (g := f + i) vs (f + i + 1) h)
    simp only [storeCells, add_none, Sem.run_bind, run_store_cell h1 h2 h3, Result.andThen_ok, setL]
    exact ih

theorem run_storeAt {t b f : Nat} {v : Value} {y : Ty} (hy : y.Ok P t) (hl : v.cells.toList.length = y.size) (h : canSt w b f v.cells.toList) :
    (Instr.storeAt t (.pointer (some ⟨b, f, none⟩)) v).run P w = .ok () (setL w b f v.cells.toList) := by
  have := run_storeL P b v.cells.toList f 0 w (by simpa using h)
  simp only [Instr.storeAt, Instr.sureAddr, storeVar, Sem.run_bind, Sem.run_pure, Result.andThen_ok, run_sizeOf hy]
  rw [Array.length_toList] at hl
  simp [hl, this]

end Go.Vx
