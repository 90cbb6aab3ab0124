/- Maps whose keys are ints, whose values are true: sets of numbers. -/
import Derived.Test.YtfenhbjamohdgaaDoorVxO
namespace Go.Vx
open Go.RowKit

def IMap (w : World) (r : Nat) (zs : List Int) : Prop := ∃ es clock, w.heap[r]? = some (.map es clock) ∧ es.toList.map (fun e => (e.key, e.val)) = zs.map fun z => (Value.int .i64 z, Value.bool true)

section
variable {P : Program} {w : World} {tp : TypeId}

theorem findNow_int {q : Int} : ∀ (es : List MapEntry) (zs : List Int) (i : Nat), es.map (fun e => (e.key, e.val)) = zs.map (fun z => (Value.int .i64 z, Value.bool true)) →
    (q ∈ zs → ∃ k, Instr.findNow (.int .i64) (.int .i64 q) es i = some (some (k, .bool true))) ∧ (q ∉ zs → Instr.findNow (.int .i64) (.int .i64 q) es i = some none) := by
  intro es
  induction es with
  | nil =>
    intro zs i h
    cases zs with
    | nil => exact ⟨fun h => absurd h (by simp), fun _ => rfl⟩
    | cons z zs => simp at h
  | cons e es ih =>
    intro zs i h
    cases zs with
    | nil => simp at h
    | cons z zs =>
      simp only [List.map_cons, List.cons.injEq, Prod.mk.injEq] at h
      obtain ⟨⟨hk, hv⟩, hr⟩ := h
      have ih' := ih zs (i + 1) hr
      by_cases hqz : q = z
      · subst hqz
        exact ⟨fun _ => ⟨i, by simp [Instr.findNow, Instr.sameNow, hk, hv]⟩, fun hn => absurd List.mem_cons_self hn⟩
      · have hbz : (q == z) = false := by simpa using hqz
        have hmem : q ∈ z :: zs ↔ q ∈ zs := by simp [hqz]
        rw [hmem]
        refine ⟨fun hm => ?_, fun hn => ?_⟩
        · obtain ⟨k, hk'⟩ := ih'.1 hm
          exact ⟨k, by simp [Instr.findNow, Instr.sameNow, hk, hbz, hk']⟩
        · simp [Instr.findNow, Instr.sameNow, hk, hbz, ih'.2 hn]

theorem check_int (hp : P.underlying tp = some (.int .i64)) (z : Int) (e : Bool) (n : Nat) : (Instr.checkKey e (n + 1) tp (.int .i64 z)).run P w = .ok () w := by
  unfold Instr.checkKey
  simp only [Sem.run_bind, run_underlying hp, Result.andThen, Sem.run_pure]

theorem lookup_int {t kb : TypeId} (ht : P.underlying t = some (.map tp kb)) (hz : (zeroValue kb).run P w = .ok (.bool false) w) (hp : P.underlying tp = some (.int .i64)) {q : Int} {r : Nat} {zs : List Int} (hm : IMap w r zs) :
    Runs P (Instr.lookup t (.map (some r)) (.int .i64 q) false) w (.bool (decide (q ∈ zs))) w := by
  obtain ⟨es, clock, hb, he⟩ := hm
  have hf := findNow_int (q := q) es.toList zs 0 he
  unfold Runs
  by_cases hq' : q ∈ zs
  · obtain ⟨k, hk⟩ := hf.1 hq'
    simp [Instr.lookup, run_underlying ht, MapKept.run_getObj_map hb, check_int (P := P) (w := w) hp, MapKept.run_findKey hp hk, hq', Result.andThen]
  · simp [Instr.lookup, run_underlying ht, MapKept.run_getObj_map hb, check_int (P := P) (w := w) hp, MapKept.run_findKey hp (hf.2 hq'), hq', hz, Result.andThen]

theorem update_int {t kb : TypeId} (ht : P.underlying t = some (.map tp kb)) (hp : P.underlying tp = some (.int .i64)) {q : Int} {r : Nat} {zs : List Int} (hm : IMap w r zs) (hn : q ∉ zs) :
    ∃ w', Runs P (Instr.mapUpdate t (.map (some r)) (.int .i64 q) (.bool true)) w () w' ∧ IMap w' r (zs ++ [q]) ∧ w'.heap.size = w.heap.size ∧ (∀ k, k ≠ r → w'.heap[k]? = w.heap[k]?) ∧ Chg (fun k => k = r) w w' := by
  obtain ⟨es, clock, hb, he⟩ := hm
  have hf := (findNow_int (q := q) es.toList zs 0 he).2 hn
  obtain ⟨g1, g2⟩ := MapKept.heap_set (o' := .map (es.push { key := .int .i64 q, val := .bool true, born := clock }) (clock + 1)) hb
  refine ⟨{ w with heap := w.heap.setIfInBounds r (.map (es.push { key := .int .i64 q, val := .bool true, born := clock }) (clock + 1)) }, ?_, ⟨_, _, g1, ?_⟩, by simp, g2, ⟨rfl, rfl, rfl, by simp, fun k _ hk => g2 k hk⟩⟩
  · unfold Runs
    simp [Instr.mapUpdate, run_underlying ht, MapKept.run_getObj_map hb, check_int (P := P) (w := w) hp, MapKept.run_findKey hp hf, MapKept.run_setObj_map _ hb, Result.andThen]
  · simp [he]
end
end Go.Vx
