/- Maps whose keys are pointers, whose values are true: sets of places. -/
import Derived.Test.YtfenhbjamohdgaaDoorVxN
import Derived.MapKept
namespace Go.Vx
open Go.RowKit

def PMap (w : World) (r : Nat) (ps : List Addr) : Prop := ∃ es clock, w.heap[r]? = some (.map es clock) ∧ es.toList.map (fun e => (e.key, e.val)) = ps.map fun p => (Value.pointer (some p), Value.bool true)
/-- places in memory that compare at once -/
def Plain (w : World) (p : Addr) : Prop := ∃ cs t, w.heap[p.block]? = some (.cells cs t (0, 0))

section
variable {P : Program} {w : World} {tp te : TypeId} {j : TypeInfo}

theorem equal_places (hp : P.underlying tp = some (.pointer te)) (hte : P.info? te = some j) (hsz : j.size ≠ 0) {a b : Addr} (ha : Plain w a) (hb : Plain w b) :
    (Op.equal tp (.pointer (some a)) (.pointer (some b))).run P w = .ok (decide (a = b)) w := by
  obtain ⟨ca, ta, ha⟩ := ha
  obtain ⟨cb, tb, hb⟩ := hb
  have h : ∀ d, (Op.equalIn (d + 1) tp (.pointer (some a)) (.pointer (some b))).run P w = .ok (decide (a = b)) w := by
    intro d
    by_cases e : a = b
    · subst e
      simp [Op.equalIn, run_underlying hp, sizeOf, typeInfo, hte, run_sameAddr_same]
    · simp [Op.equalIn, run_underlying hp, sizeOf, typeInfo, hte, hsz, run_sameAddr_other w e ha hb, e]
  simp [Op.equal, Op.maxDepth, h 9999]

theorem findAsking_ptr (hp : P.underlying tp = some (.pointer te)) (hte : P.info? te = some j) (hsz : j.size ≠ 0) {q : Addr} (hq : Plain w q) : ∀ (es : List MapEntry) (ps : List Addr) (i : Nat), es.map (fun e => (e.key, e.val)) = ps.map (fun p => (Value.pointer (some p), Value.bool true)) → (∀ p ∈ ps, Plain w p) →
    (q ∈ ps → ∃ k, (Instr.findAsking tp (.pointer (some q)) es i).run P w = .ok (some (k, .bool true)) w) ∧ (q ∉ ps → (Instr.findAsking tp (.pointer (some q)) es i).run P w = .ok none w) := by
  intro es
  induction es with
  | nil =>
    intro ps i h _
    cases ps with
    | nil => exact ⟨fun h => absurd h (by simp), fun _ => by simp [Instr.findAsking]⟩
    | cons p ps => simp at h
  | cons e es ih =>
    intro ps i h hpl
    cases ps with
    | nil => simp at h
    | cons p ps =>
      simp only [List.map_cons, List.cons.injEq, Prod.mk.injEq] at h
      obtain ⟨⟨hk, hv⟩, hr⟩ := h
      have ih' := ih ps (i + 1) hr (fun x hx => hpl x (List.mem_cons_of_mem _ hx))
      have heq := equal_places (P := P) hp hte hsz hq (hpl p List.mem_cons_self)
      by_cases hqp : q = p
      · subst hqp
        refine ⟨fun _ => ⟨i, ?_⟩, fun hn => absurd List.mem_cons_self hn⟩
        simp [Instr.findAsking, hk, heq, hv]
      · have hmem : q ∈ p :: ps ↔ q ∈ ps := by simp [hqp]
        rw [hmem]
        refine ⟨fun hm => ?_, fun hn => ?_⟩
        · obtain ⟨k, hk'⟩ := ih'.1 hm
          exact ⟨k, by simp [Instr.findAsking, hk, heq, hqp, hk']⟩
        · simp [Instr.findAsking, hk, heq, hqp, ih'.2 hn]

theorem findKey_ptr (hp : P.underlying tp = some (.pointer te)) (hte : P.info? te = some j) (hsz : j.size ≠ 0) {q : Addr} (hq : Plain w q) (es : List MapEntry) (ps : List Addr) (h : es.map (fun e => (e.key, e.val)) = ps.map (fun p => (Value.pointer (some p), Value.bool true))) (hpl : ∀ p ∈ ps, Plain w p) :
    (q ∈ ps → ∃ k, (Instr.findKey tp (.pointer (some q)) es).run P w = .ok (some (k, .bool true)) w) ∧ (q ∉ ps → (Instr.findKey tp (.pointer (some q)) es).run P w = .ok none w) := by
  have hf := findAsking_ptr (P := P) hp hte hsz hq es ps 0 h hpl
  cases es with
  | nil =>
    cases ps with
    | nil => exact ⟨fun h => absurd h (by simp), fun _ => by simp [Instr.findKey, run_underlying hp, Instr.findNow]⟩
    | cons p ps => simp at h
  | cons e es =>
    have hn : Instr.findNow (.pointer te) (.pointer (some q)) (e :: es) 0 = none := by simp [Instr.findNow, Instr.sameNow]
    refine ⟨fun hm => ?_, fun hm => ?_⟩
    · obtain ⟨k, hk⟩ := hf.1 hm
      exact ⟨k, by simp [Instr.findKey, run_underlying hp, hn, hk]⟩
    · simp [Instr.findKey, run_underlying hp, hn, hf.2 hm]

theorem check_ptr (hp : P.underlying tp = some (.pointer te)) (v : Option Addr) (e : Bool) (n : Nat) : (Instr.checkKey e (n + 1) tp (.pointer v)).run P w = .ok () w := by
  unfold Instr.checkKey
  simp only [Sem.run_bind, run_underlying hp, Result.andThen, Sem.run_pure]

theorem lookup_ptr {t kb : TypeId} (ht : P.underlying t = some (.map tp kb)) (hz : (zeroValue kb).run P w = .ok (.bool false) w) (hp : P.underlying tp = some (.pointer te)) (hte : P.info? te = some j) (hsz : j.size ≠ 0) {q : Addr} (hq : Plain w q) {r : Nat} {ps : List Addr} (hm : PMap w r ps) (hpl : ∀ p ∈ ps, Plain w p) :
    Runs P (Instr.lookup t (.map (some r)) (.pointer (some q)) false) w (.bool (decide (q ∈ ps))) w := by
  obtain ⟨es, clock, hb, he⟩ := hm
  have hf := findKey_ptr (P := P) hp hte hsz hq es.toList ps he hpl
  unfold Runs
  by_cases hq' : q ∈ ps
  · obtain ⟨k, hk⟩ := hf.1 hq'
    simp [Instr.lookup, run_underlying ht, MapKept.run_getObj_map hb, check_ptr (P := P) (w := w) hp, hk, hq', Result.andThen]
  · simp [Instr.lookup, run_underlying ht, MapKept.run_getObj_map hb, check_ptr (P := P) (w := w) hp, hf.2 hq', hq', hz, Result.andThen]

theorem update_ptr {t kb : TypeId} (ht : P.underlying t = some (.map tp kb)) (hp : P.underlying tp = some (.pointer te)) (hte : P.info? te = some j) (hsz : j.size ≠ 0) {q : Addr} (hq : Plain w q) {r : Nat} {ps : List Addr} (hm : PMap w r ps) (hpl : ∀ p ∈ ps, Plain w p) (hn : q ∉ ps) :
    ∃ w', Runs P (Instr.mapUpdate t (.map (some r)) (.pointer (some q)) (.bool true)) w () w' ∧ PMap w' r (ps ++ [q]) ∧ w'.heap.size = w.heap.size ∧ (∀ k, k ≠ r → w'.heap[k]? = w.heap[k]?) ∧ Chg (fun k => k = r) w w' := by
  obtain ⟨es, clock, hb, he⟩ := hm
  have hf := (findKey_ptr (P := P) hp hte hsz hq es.toList ps he hpl).2 hn
  obtain ⟨g1, g2⟩ := MapKept.heap_set (o' := .map (es.push { key := .pointer (some q), val := .bool true, born := clock }) (clock + 1)) hb
  refine ⟨{ w with heap := w.heap.setIfInBounds r (.map (es.push { key := .pointer (some q), val := .bool true, born := clock }) (clock + 1)) }, ?_, ⟨_, _, g1, ?_⟩, by simp, g2, ⟨rfl, rfl, rfl, by simp, fun k _ hk => g2 k hk⟩⟩
  · unfold Runs
    simp [Instr.mapUpdate, run_underlying ht, MapKept.run_getObj_map hb, check_ptr (P := P) (w := w) hp, hf, MapKept.run_setObj_map _ hb, Result.andThen]
  · simp [he]
end
end Go.Vx
