/- Named at the model's run: the constructors of an index. -/
import Derived.Test.YtahagnfdpemmaaaDoorF9
import Derived.Test.YtahagnfdpemmaaaDoorF1
import Derived.Test.YtahagnfdpemmaaaDoorF5
import Derived.Test.YtahagnfdpemmaaaDoorF6
/- part Y3R -/
section
namespace Go.Proofs.YtahagnfdpemmaaaDoor.Va
open Go.Vx Go.Av Go.Lx Go.Dr Go.Dm Go.RowKit

theorem zget {ts : List Tok} {i : Nat} (h : i < ts.length) : ∃ t, ts[i]? = some t := ⟨ts[i], List.getElem?_eq_getElem h⟩
theorem zstep {i : Nat} (h : i ≤ 9007199254740992) : IntKind.i64.wrap ((i : Int) + 1) = ((i + 1 : Nat) : Int) := by rw [w64 (by omega) (by omega)]; push_cast; rfl
theorem big9 : big = 1099511627776 := rfl
/-- the reader: its place, its error -/
abbrev RBx (ts : List Tok) (i : Nat) (e : Int) : Ob := .box [.sl 3 (encTs ts), .int .i64 i, .int .i64 e]
def endZ (ts : List Tok) (i : Nat) (e : Int) : Bool := decide (e ≠ 0) || decide (ts.length ≤ i)
/-- a reader's answer: it went on, and keeps an error -/
def Wk (ts : List Tok) (i : Nat) (e : Int) (far : Nat) (R : List V → Prop) (r : List V) (o : List Ob) : Prop :=
  ∃ (i' : Nat) (e' : Int), o = [RBx ts i' e'] ∧ i ≤ i' ∧ i' ≤ ts.length ∧ (e' = 0 → e = 0 ∧ i + far ≤ i') ∧ R r

theorem rend_spec (ts : List Tok) (i : Nat) (e : Int) : SCalls ax 26 [.ptr 0 0] [RBx ts i e] fun r o => r = [.bool (endZ ts i e)] ∧ o = [RBx ts i e] := by
  refine rend.calls (K := fun r o => r = [.bool (endZ ts i e)] ∧ o = [RBx ts i e]) ?_
  unfold rend.W endZ
  rw [encTs_length]
  refine ifNE (fun h => ?_) (fun h => ?_)
  · simp [h]
  · refine ⟨?_, rfl⟩
    have : decide ((i : Int) ≥ (ts.length : Int)) = decide (ts.length ≤ i) := decide_eq_decide.2 (by omega)
    rw [this]; simp [h]
theorem fail_spec (c : Int) (ts : List Tok) (i : Nat) (e : Int) : SCalls ax 27 [.ptr 0 0, .int .i64 c] [RBx ts i e] fun r o => r = [] ∧ o = [RBx ts i (if e = 0 then c else e)] := by
  refine rfail.calls (K := fun r o => r = [] ∧ o = [RBx ts i (if e = 0 then c else e)]) ?_
  unfold rfail.W
  exact ifE (fun h => by rw [if_pos h]; exact ⟨rfl, rfl⟩) (fun h => by rw [if_neg h]; exact ⟨rfl, rfl⟩)
theorem row1 {ts : List Tok} {i : Nat} {t : Tok} (h : ts[i]? = some t) : List.take 1 (Av.rowAt (encTs ts) ((i : Int)).toNat) = [.int .i64 t.k] ∧ List.take 1 (List.drop 1 (Av.rowAt (encTs ts) ((i : Int)).toNat)) = [.str (bs t.t)] ∧ List.take 1 (List.drop 2 (Av.rowAt (encTs ts) ((i : Int)).toNat)) = [.int .i64 t.n] := by
  rw [Int.toNat_natCast, encTs, Av.rowAt, List.getD_eq_getElem?_getD, List.getElem?_map, h]
  exact ⟨rfl, rfl, rfl⟩
theorem endZ_false {ts : List Tok} {i : Nat} {e : Int} (h : endZ ts i e = false) : e = 0 ∧ i < ts.length := by
  simp only [endZ, Bool.or_eq_false_iff, decide_eq_false_iff_not] at h
  omega
theorem failed (c e : Int) (hc : c ≠ 0) : (if e = 0 then c else e) ≠ 0 := by split <;> assumption
theorem ris_spec (s : ByteArray) (ts : List Tok) (i : Nat) (e : Int) : SCalls ax 64 [.ptr 0 0, .str s] [RBx ts i e] fun r o => (∃ b : Bool, r = [.bool b] ∧ (b = true → e = 0 ∧ i < ts.length)) ∧ o = [RBx ts i e] := by
  refine ris.calls (K := fun r o => (∃ b : Bool, r = [.bool b] ∧ (b = true → e = 0 ∧ i < ts.length)) ∧ o = [RBx ts i e]) ?_
  unfold ris.W
  refine (rend_spec ts i e).mono fun r o ⟨hr, ho⟩ => ⟨_, _, _, _, hr, ho, ifN (fun h => ?_) (fun h => ?_)⟩
  · have hz := endZ_false h
    obtain ⟨t, ht⟩ := zget hz.2
    obtain ⟨r1, r2, _⟩ := row1 ht
    rw [encTs_length]
    refine ⟨by omega, by omega, bs t.t, r2, ?_⟩
    refine ifB (fun hs => ⟨by omega, by omega, t.k, r1, ifE (fun h1 => ?_) (fun h1 => ⟨by omega, by omega, t.k, r1, ?_⟩)⟩) (fun hs => ?_)
    · exact ⟨⟨_, rfl, fun _ => hz⟩, rfl⟩
    · exact ⟨⟨_, rfl, fun _ => hz⟩, rfl⟩
    · exact ⟨⟨_, rfl, fun h => by cases h⟩, rfl⟩
  · exact ⟨⟨_, rfl, fun h => by cases h⟩, rfl⟩
theorem got_spec (s : ByteArray) (ts : List Tok) (i : Nat) (e : Int) (hi : i ≤ big) : SCalls ax 44 [.ptr 0 0, .str s] [RBx ts i e] fun r o => (r = [.bool true] ∧ e = 0 ∧ i < ts.length ∧ o = [RBx ts (i + 1) e]) ∨ (r = [.bool false] ∧ o = [RBx ts i e]) := by
  have hb := big9
  refine rgot.calls (K := fun r o => (r = [.bool true] ∧ e = 0 ∧ i < ts.length ∧ o = [RBx ts (i + 1) e]) ∨ (r = [.bool false] ∧ o = [RBx ts i e])) ?_
  unfold rgot.W
  refine (ris_spec s ts i e).mono fun r o ⟨⟨b, hr, hb1⟩, ho⟩ => ⟨_, _, _, _, hr, ho, ifB (fun h => ?_) (fun h => ?_)⟩
  · rw [zstep (by omega)]; exact .inl ⟨rfl, (hb1 h).1, (hb1 h).2, rfl⟩
  · exact .inr ⟨rfl, rfl⟩
theorem need_spec (s : ByteArray) (ts : List Tok) (i : Nat) (e : Int) (hl : ts.length ≤ big) (hi : i ≤ ts.length) : SCalls ax 29 [.ptr 0 0, .str s] [RBx ts i e] (Wk ts i e 1 fun r => r = []) := by
  refine rneed.calls (K := Wk ts i e 1 fun r => r = []) ?_
  unfold rneed.W
  refine ifE (fun h0 => ?_) (fun h => ⟨i, e, rfl, Nat.le_refl _, hi, fun h' => absurd h' h, rfl⟩)
  refine (got_spec s ts i e (by omega)).mono fun r o hh => ?_
  rcases hh with ⟨hr, he, hlt, ho⟩ | ⟨hr, ho⟩
  · exact ⟨_, _, _, _, hr, ho, i + 1, e, rfl, by omega, by omega, fun _ => ⟨he, Nat.le_refl _⟩, rfl⟩
  · refine ⟨_, _, _, _, hr, ho, ?_⟩
    refine (fail_spec 2 ts i e).mono fun r o ⟨hr, ho⟩ => ⟨_, _, _, hr, ho, i, _, rfl, Nat.le_refl _, hi, fun h => absurd h (failed 2 e (by decide)), rfl⟩
theorem RReserved_spec (s : ByteArray) : PCalls ax 65 [.str s] fun r => r = [.bool (isIn s wordsB)] := by
  refine RReserved.calls (K := fun r => r = [.bool (isIn s wordsB)]) ?_
  unfold RReserved.W
  have hlen : ((wordsB.map fun w => [V.str w]).length : Int) = 18 := rfl
  have hl0 : (wordsB.map fun w => [V.str w]) = [[(.str (⟨#[116, 121, 112, 101]⟩ : ByteArray))], [(.str (⟨#[112, 114, 101, 100]⟩ : ByteArray))], [(.str (⟨#[109, 111, 100, 101]⟩ : ByteArray))], [(.str (⟨#[105, 115]⟩ : ByteArray))], [(.str (⟨#[100, 101, 116]⟩ : ByteArray))], [(.str (⟨#[115, 101, 109, 105, 100, 101, 116]⟩ : ByteArray))], [(.str (⟨#[109, 117, 108, 116, 105]⟩ : ByteArray))], [(.str (⟨#[110, 111, 110, 100, 101, 116]⟩ : ByteArray))], [(.str (⟨#[105, 110]⟩ : ByteArray))], [(.str (⟨#[111, 117, 116]⟩ : ByteArray))], [(.str (⟨#[116, 114, 117, 101]⟩ : ByteArray))], [(.str (⟨#[102, 97, 105, 108]⟩ : ByteArray))], [(.str (⟨#[110, 111, 116]⟩ : ByteArray))], [(.str (⟨#[116, 104, 114, 111, 119]⟩ : ByteArray))], [(.str (⟨#[116, 114, 121]⟩ : ByteArray))], [(.str (⟨#[99, 97, 116, 99, 104]⟩ : ByteArray))], [(.str (⟨#[116, 104, 101, 110]⟩ : ByteArray))], [(.str (⟨#[105, 110, 116]⟩ : ByteArray))]] := rfl
  rw [← hl0, hlen]
  refine ⟨fun us => ∃ i : Nat, i ≤ 18 ∧ us = [.int .i64 i] ∧ ∀ k < i, wordsB[k]? ≠ some s, fun us => match us with | .int _ i :: _ => 18 - i.toNat | _ => 0, ⟨0, by omega, rfl, fun k h => by omega⟩, ?_⟩
  rintro n ⟨i, hi, e, hno⟩
  cases e
  refine ifD (fun hlt => ?_) (fun hge => ?_)
  · obtain ⟨w, hw⟩ : ∃ w, wordsB[i]? = some w := ⟨_, List.getElem?_eq_getElem (show i < wordsB.length by show i < 18; omega)⟩
    have hrow : List.take 1 (Av.rowAt (wordsB.map fun w => [V.str w]) ((i : Int)).toNat) = [.str w] := by
      rw [Int.toNat_natCast, Av.rowAt, List.getD_eq_getElem?_getD, List.getElem?_map, hw]; rfl
    refine ⟨by omega, hlt, w, hrow, ifB (fun h => ?_) (fun h => ?_)⟩
    · have : w = s := by simpa [strEq] using h
      subst this
      rw [isIn_mem.2 (List.mem_of_getElem? hw)]
    · have : w ≠ s := by simpa [strEq] using h
      rw [wadd1 (by omega)]
      refine ⟨⟨i + 1, by omega, rfl, fun k hk => ?_⟩, by simp only [Int.toNat_natCast]; omega⟩
      rcases Nat.lt_or_ge k i with h | h
      · exact hno k h
      · have : k = i := by omega
        subst this
        rw [hw]
        intro h2
        exact absurd (Option.some.inj h2) ‹w ≠ s›
  · have : s ∉ wordsB := fun hm => by
      obtain ⟨k, hk, hk2⟩ := List.getElem_of_mem hm
      have hk18 : k < 18 := hk
      exact hno k (by omega) (by rw [List.getElem?_eq_getElem hk, hk2])
    rw [show isIn s wordsB = false from Bool.eq_false_iff.2 fun h => this (isIn_mem.1 h)]
theorem rword_spec (k : Int) (ts : List Tok) (i : Nat) (e : Int) (hl : ts.length ≤ big) (hi : i ≤ ts.length) : SCalls ax 45 [.ptr 0 0, .int .i64 k] [RBx ts i e] (Wk ts i e 1 fun r => ∃ s : List UInt8, r = [.str (bs s)]) := by
  have hb := big9
  refine rword.calls (K := Wk ts i e 1 fun r => ∃ s : List UInt8, r = [.str (bs s)]) ?_
  unfold rword.W
  have bad : SCalls ax 27 [.ptr 0 0, .int .i64 2] [RBx ts i e] fun r o => ∃ l n m, r = [] ∧ o = [.box [.sl 3 l, .int .i64 n, .int .i64 m]] ∧ Wk ts i e 1 (fun r => ∃ s : List UInt8, r = [.str (bs s)]) [.str ⟨#[]⟩] [.box [.sl 3 l, .int .i64 n, .int .i64 m]] :=
    (fail_spec 2 ts i e).mono fun r o ⟨hr, ho⟩ => ⟨_, _, _, hr, ho, i, _, rfl, Nat.le_refl _, hi, fun h => absurd h (failed 2 e (by decide)), [], rfl⟩
  refine ⟨fun us => us = [.sl 3 (encTs ts), .int .i64 i, .int .i64 e] ∧ e = 0 ∧ i < ts.length, ?_, ?_⟩
  · refine (rend_spec ts i e).mono fun r o ⟨hr, ho⟩ => ⟨_, _, _, _, hr, ho, ifB (fun h => bad) (fun h => ?_)⟩
    have hz := endZ_false h
    obtain ⟨t, ht⟩ := zget hz.2
    obtain ⟨r1, r2, _⟩ := row1 ht
    rw [encTs_length]
    refine ⟨by omega, by omega, t.k, r1, ifNE (fun hk => bad) (fun hk => ?_)⟩
    refine ifE (fun _ => ⟨by omega, by omega, bs t.t, r2, ?_⟩) (fun hh => ⟨rfl, hz⟩)
    exact (RReserved_spec (bs t.t)).mono fun r hr => ⟨_, hr, ifB (fun hres => bad) (fun hres => ⟨rfl, hz⟩)⟩
  · rintro l53 n54 n55 ⟨e', h0, hlt⟩
    cases e'
    obtain ⟨t, ht⟩ := zget hlt
    obtain ⟨_, r2, _⟩ := row1 ht
    have hw : IntKind.i64.wrap (IntKind.i64.wrap ((i : Int) + 1) - 1) = (i : Int) := by rw [zstep (by omega), w64 (by omega) (by omega)]; omega
    rw [hw, encTs_length, zstep (by omega)]
    exact ⟨by omega, by omega, bs t.t, r2, i + 1, e, rfl, by omega, by omega, fun _ => ⟨h0, Nat.le_refl _⟩, t.t, rfl⟩
theorem rnest_spec (n : Int) (ts : List Tok) (i : Nat) (e : Int) : SCalls ax 66 [.ptr 0 0, .int .i64 n] [RBx ts i e] fun r o => r = [] ∧ ∃ e', o = [RBx ts i e'] ∧ (e' = 0 → e = 0) := by
  refine rnest.calls (K := fun r o => r = [] ∧ ∃ e', o = [RBx ts i e'] ∧ (e' = 0 → e = 0)) ?_
  unfold rnest.W
  refine ifD (fun hn => ?_) (fun hn => ⟨rfl, e, rfl, id⟩)
  refine (rend_spec ts i e).mono fun r o ⟨hr, ho⟩ => ⟨_, _, _, _, hr, ho, ifN (fun h => ?_) (fun h => ⟨rfl, e, rfl, id⟩)⟩
  exact (fail_spec 3 ts i e).mono fun r o ⟨hr, ho⟩ => ⟨_, _, _, hr, ho, rfl, _, rfl, fun h => absurd h (failed 3 e (by decide))⟩
theorem done_spec (ts : List Tok) (i : Nat) (e : Int) : SCalls ax 30 [.ptr 0 0] [RBx ts i e] fun r o => ∃ c : Int, r = [.int .i64 c] ∧ o = [RBx ts i c] := by
  refine rdone.calls (K := fun r o => ∃ c : Int, r = [.int .i64 c] ∧ o = [RBx ts i c]) ?_
  unfold rdone.W
  rw [encTs_length]
  refine ifE (fun h => ifD (fun h2 => ?_) (fun h2 => ?_)) (fun h => ?_)
  · exact ⟨_, rfl, rfl⟩
  · exact ⟨_, rfl, rfl⟩
  · exact ⟨_, rfl, rfl⟩
/-- is there one more? -/
theorem more_spec (m : Int) (ts : List Tok) (i : Nat) (e : Int) (hl : ts.length ≤ big) (hi : i ≤ ts.length) : SCalls ax 46 [.ptr 0 0, .int .i64 m] [RBx ts i e] fun r o => ∃ b : Bool, r = [.bool b] ∧ ∃ (i' : Nat) (e' : Int), o = [RBx ts i' e'] ∧ i ≤ i' ∧ i' ≤ ts.length ∧ (e' = 0 → e = 0) ∧ (b = true → e' = 0 ∧ i < i') := by
  refine rmore.calls (K := fun r o => ∃ b : Bool, r = [.bool b] ∧ ∃ (i' : Nat) (e' : Int), o = [RBx ts i' e'] ∧ i ≤ i' ∧ i' ≤ ts.length ∧ (e' = 0 → e = 0) ∧ (b = true → e' = 0 ∧ i < i')) ?_
  unfold rmore.W
  refine ⟨fun us => ∃ (i' : Nat) (e' : Int), us = [.sl 3 (encTs ts), .int .i64 i', .int .i64 e'] ∧ i ≤ i' ∧ i' ≤ ts.length ∧ (e' = 0 → e = 0 ∧ i < i'), ?_, ?_⟩
  · refine ifE (fun _ => ?_) (fun _ => ?_)
    · refine (got_spec _ ts i e (by omega)).mono fun r o hh => ?_
      rcases hh with ⟨hr, he, hlt, ho⟩ | ⟨hr, ho⟩
      · exact ⟨_, _, _, _, hr, ho, i + 1, e, rfl, by omega, by omega, fun _ => ⟨he, by omega⟩⟩
      · exact ⟨_, _, _, _, hr, ho, false, rfl, i, e, rfl, Nat.le_refl _, hi, id, fun h => by cases h⟩
    · refine (got_spec _ ts i e (by omega)).mono fun r o hh => ?_
      rcases hh with ⟨hr, he, hlt, ho⟩ | ⟨hr, ho⟩
      · exact ⟨_, _, _, _, hr, ho, false, rfl, i + 1, e, rfl, by omega, by omega, id, fun h => by cases h⟩
      · refine ⟨_, _, _, _, hr, ho, ifNE (fun h => ⟨false, rfl, i, e, rfl, Nat.le_refl _, hi, id, fun h => by cases h⟩) (fun h => ?_)⟩
        refine (need_spec _ ts i e hl hi).mono fun r o ⟨i', e', ho, h1, h2, h3, hr⟩ => ⟨_, _, _, hr, ho, i', e', rfl, h1, h2, fun h => ⟨(h3 h).1, (h3 h).2⟩⟩
  · rintro l37 n38 n39 ⟨i', e0', eq, h1, h2, h3⟩
    cases eq
    have fin : ∃ b : Bool, [V.bool (n39 == (0 : Int))] = [.bool b] ∧ ∃ (i2 : Nat) (e2 : Int), [RBx ts i' n39] = [RBx ts i2 e2] ∧ i ≤ i2 ∧ i2 ≤ ts.length ∧ (e2 = 0 → e = 0) ∧ (b = true → e2 = 0 ∧ i < i2) :=
      ⟨_, rfl, i', n39, rfl, h1, h2, fun h => (h3 h).1, fun h => have h0 : n39 = 0 := (by simpa using h); ⟨h0, (h3 h0).2⟩⟩
    refine ifE (fun _ => ?_) (fun _ => fin)
    refine (rend_spec ts i' n39).mono fun r o ⟨hr, ho⟩ => ⟨_, _, _, _, hr, ho, ifN (fun h => ?_) (fun h => fin)⟩
    refine (fail_spec 4 ts i' n39).mono fun r o ⟨hr, ho⟩ => ⟨_, _, _, hr, ho, _, rfl, i', _, rfl, h1, h2, fun h => absurd h (failed 4 n39 (by decide)), fun h => ?_⟩
    have := failed 4 n39 (by decide)
    simp [this] at h

theorem rterm_spec (ts : List Tok) (hl : ts.length ≤ 16384) : ∀ (m i : Nat) (e n : Int), ts.length - i < m → i ≤ ts.length → SCalls ax 49 [.ptr 0 0, .int .i64 n] [RBx ts i e] (Wk ts i e 1 fun r => ∃ t, wideR 20000 t ∧ r = [.agg (encR t)])
  | 0, i, e, n, h, _ => by omega
  | m + 1, i, e, n, hm, hi => by
    have hb := big9
    refine rterm.calls (K := Wk ts i e 1 fun r => ∃ t, wideR 20000 t ∧ r = [.agg (encR t)]) ?_
    unfold rterm.W
    refine (rnest_spec n ts i e).mono fun r o ⟨hr, e1, ho, he1⟩ => ⟨_, _, _, hr, ho, ?_⟩
    have hw : IntKind.i64.wrap (IntKind.i64.wrap ((i : Int) + 1) - 1) = (i : Int) := by rw [zstep (by omega), w64 (by omega) (by omega)]; omega
    refine ⟨fun us => ∃ b : Bool, us = [.bool b, .sl 3 (encTs ts), .int .i64 i, .int .i64 e1] ∧ (b = true → e1 = 0 ∧ i < ts.length), ?_, ?_⟩
    · refine (rend_spec ts i e1).mono fun r o ⟨hr, ho⟩ => ⟨_, _, _, _, hr, ho, ifN (fun h => ?_) (fun h => ⟨false, rfl, fun h => by cases h⟩)⟩
      have hz := endZ_false h
      obtain ⟨t, ht⟩ := zget hz.2
      obtain ⟨r1, _, _⟩ := row1 ht
      rw [encTs_length]
      exact ⟨by omega, by omega, t.k, r1, _, rfl, fun _ => hz⟩
    rintro b47 l48 n49 n50 ⟨b, eq, hb1⟩
    cases eq
    refine ifB (fun h => ?_) (fun h => ?_)
    · obtain ⟨h0, hlt⟩ := hb1 h
      obtain ⟨t, ht⟩ := zget hlt
      obtain ⟨_, _, r3⟩ := row1 ht
      rw [hw, encTs_length, zstep (by omega)]
      exact ⟨by omega, by omega, t.n, r3, i + 1, e1, rfl, by omega, by omega, fun h => ⟨he1 h, Nat.le_refl _⟩, .mk 2 [] t.n [], ⟨Nat.zero_le _, trivial⟩, rfl⟩
    clear hb1
    refine ⟨fun us => ∃ b : Bool, us = [.bool b, .sl 3 (encTs ts), .int .i64 i, .int .i64 e1] ∧ (b = true → e1 = 0 ∧ i < ts.length), ?_, ?_⟩
    · refine (rend_spec ts i e1).mono fun r o ⟨hr, ho⟩ => ⟨_, _, _, _, hr, ho, ifN (fun h => ?_) (fun h => ⟨false, rfl, fun h => by cases h⟩)⟩
      have hz := endZ_false h
      obtain ⟨t, ht⟩ := zget hz.2
      obtain ⟨r1, _, _⟩ := row1 ht
      rw [encTs_length]
      exact ⟨by omega, by omega, t.k, r1, _, rfl, fun _ => hz⟩
    rintro b87 l88 n89 n90 ⟨b', eq, hb1⟩
    cases eq
    refine ifB (fun h => ?_) (fun h => ?_)
    · obtain ⟨h0, hlt⟩ := hb1 h
      obtain ⟨t, ht⟩ := zget hlt
      obtain ⟨_, r2, _⟩ := row1 ht
      rw [hw, encTs_length, zstep (by omega)]
      exact ⟨by omega, by omega, bs t.t, r2, i + 1, e1, rfl, by omega, by omega, fun h => ⟨he1 h, Nat.le_refl _⟩, .mk 1 t.t 0 [], ⟨Nat.zero_le _, trivial⟩, rfl⟩
    refine (rword_spec 1 ts i e1 (by omega) hi).mono fun r o ⟨i2, e2, ho, g1, g2, g3, s, hr⟩ => ⟨_, _, _, _, hr, ho, ?_⟩
    refine ⟨fun us => ∃ (j : Nat) (e : Int) (acc : List Tr), us = [.sl 3 (encTs ts), .int .i64 j, .int .i64 e, .int .i64 3, .str (bs s), .int .i64 0, .sl 4 (encRs acc)] ∧ i ≤ j ∧ j ≤ ts.length ∧ acc.length ≤ j ∧ wideRs 20000 acc ∧ (e = 0 → e1 = 0 ∧ i + 1 ≤ j),
      fun us => match us with | _ :: .int _ j :: _ => ts.length - j.toNat | _ => 0, ⟨i2, e2, [], rfl, g1, g2, Nat.zero_le _, trivial, g3⟩, ?_⟩
    rintro l143 n144 e3 n146 s147 n148 l149 ⟨j, e3', acc, eq, k1, k2, k3, k4, k5⟩
    cases eq
    rw [encRs_length]
    have fin : ∀ (j' : Nat) (e' : Int), i ≤ j' → j' ≤ ts.length → (e' = 0 → e1 = 0 ∧ i + 1 ≤ j') → Wk ts i e 1 (fun r => ∃ t, wideR 20000 t ∧ r = [.agg (encR t)]) [.agg [.int .i64 3, .str (bs s), .int .i64 0, .sl 4 (encRs acc)]] [.box [.sl 3 (encTs ts), .int .i64 j', .int .i64 e']] :=
      fun j' e' q1 q2 q3 => ⟨j', e', rfl, q1, q2, fun h => ⟨he1 (q3 h).1, (q3 h).2⟩, .mk 3 s 0 acc, ⟨by omega, k4⟩, rfl⟩
    refine ifE (fun h0 => ?_) (fun h0 => fin j e3 k1 k2 k5)
    refine (more_spec acc.length ts j e3 (by omega) k2).mono fun r o ⟨b, hr, j', e', ho, q1, q2, q3, q4⟩ => ⟨b, _, _, _, hr, ho, ifB (fun hbt => ?_) (fun hbf => fin j' e' (by omega) q2 fun h => ⟨(k5 (q3 h)).1, by have := (k5 (q3 h)).2; omega⟩)⟩
    obtain ⟨z0, hlt⟩ := q4 hbt
    refine (rterm_spec ts hl m j' e' _ (by omega) q2).mono fun r o ⟨j3, e4, ho, p1, p2, p3, t, ht, hr⟩ => ?_
    obtain ⟨tk, tn, ti, tl, rfl⟩ := tr_cases t
    refine ⟨_, _, _, _, _, _, _, hr, ho, ?_, ?_, ⟨j3, e4, acc ++ [.mk tk tn ti tl], ?_, by omega, p2, ?_, ?_, fun h => ⟨(k5 (q3 (p3 h).1)).1, by omega⟩⟩, ?_⟩
    · simp only [List.length_cons, List.length_nil]; omega
    · simp only [List.length_cons, List.length_nil]; omega
    · rw [encRs_append]; rfl
    · rw [List.length_append]; simp only [List.length_cons, List.length_nil]; omega
    · rw [wideRs_iff] at k4 ⊢
      intro z hz
      rcases List.mem_append.1 hz with h | h
      · exact k4 z h
      · rw [List.mem_singleton.1 h]; exact ht
    · simp only [Int.toNat_natCast]; omega

theorem rtype_spec (ts : List Tok) (hl : ts.length ≤ 16384) : ∀ (m i : Nat) (e n : Int), ts.length - i < m → i ≤ ts.length → SCalls ax 48 [.ptr 0 0, .int .i64 n] [RBx ts i e] (Wk ts i e 1 fun r => ∃ t, wideE 20000 t ∧ r = [.agg (encE t)])
  | 0, i, e, n, h, _ => by omega
  | m + 1, i, e, n, hm, hi => by
    have hb := big9
    refine rtype.calls (K := Wk ts i e 1 fun r => ∃ t, wideE 20000 t ∧ r = [.agg (encE t)]) ?_
    unfold rtype.W
    refine (rnest_spec n ts i e).mono fun r o ⟨hr, e1, ho, he1⟩ => ⟨_, _, _, hr, ho, ?_⟩
    have hw : IntKind.i64.wrap (IntKind.i64.wrap ((i : Int) + 1) - 1) = (i : Int) := by rw [zstep (by omega), w64 (by omega) (by omega)]; omega
    refine ⟨fun us => ∃ b : Bool, us = [.bool b, .sl 3 (encTs ts), .int .i64 i, .int .i64 e1] ∧ (b = true → e1 = 0 ∧ i < ts.length), ?_, ?_⟩
    · refine (rend_spec ts i e1).mono fun r o ⟨hr, ho⟩ => ⟨_, _, _, _, hr, ho, ifN (fun h => ?_) (fun h => ⟨false, rfl, fun h => by cases h⟩)⟩
      have hz := endZ_false h
      obtain ⟨t, ht⟩ := zget hz.2
      obtain ⟨r1, _, _⟩ := row1 ht
      rw [encTs_length]
      exact ⟨by omega, by omega, t.k, r1, _, rfl, fun _ => hz⟩
    rintro b47 l48 n49 n50 ⟨b, eq, hb1⟩
    cases eq
    refine ifB (fun h => ?_) (fun h => ?_)
    · obtain ⟨h0, hlt⟩ := hb1 h
      obtain ⟨t, ht⟩ := zget hlt
      obtain ⟨_, r2, _⟩ := row1 ht
      rw [hw, encTs_length, zstep (by omega)]
      exact ⟨by omega, by omega, bs t.t, r2, i + 1, e1, rfl, by omega, by omega, fun h => ⟨he1 h, Nat.le_refl _⟩, .mk true (bs t.t) [], ⟨Nat.zero_le _, trivial⟩, rfl⟩
    refine (got_spec _ ts i e1 (by omega)).mono fun r o hh => ?_
    rcases hh with ⟨hr, he, hlt, ho⟩ | ⟨hr, ho⟩
    · exact ⟨_, _, _, _, hr, ho, i + 1, e1, rfl, by omega, by omega, fun h => ⟨he1 h, Nat.le_refl _⟩, .mk false _ [], ⟨Nat.zero_le _, trivial⟩, rfl⟩
    refine ⟨_, _, _, _, hr, ho, ?_⟩
    refine (rword_spec 1 ts i e1 (by omega) hi).mono fun r o ⟨i2, e2, ho, g1, g2, g3, s, hr⟩ => ⟨_, _, _, _, hr, ho, ?_⟩
    refine ⟨fun us => ∃ (j : Nat) (e : Int) (acc : List Te), us = [.sl 3 (encTs ts), .int .i64 j, .int .i64 e, .bool false, .str (bs s), .sl 3 (encEs acc)] ∧ i ≤ j ∧ j ≤ ts.length ∧ acc.length ≤ j ∧ wideEs 20000 acc ∧ (e = 0 → e1 = 0 ∧ i + 1 ≤ j),
      fun us => match us with | _ :: .int _ j :: _ => ts.length - j.toNat | _ => 0, ⟨i2, e2, [], rfl, g1, g2, Nat.zero_le _, trivial, g3⟩, ?_⟩
    rintro l112 n113 e3 b115 s116 l117 ⟨j, e3', acc, eq, k1, k2, k3, k4, k5⟩
    cases eq
    rw [encEs_length]
    have fin : ∀ (j' : Nat) (e' : Int), i ≤ j' → j' ≤ ts.length → (e' = 0 → e1 = 0 ∧ i + 1 ≤ j') → Wk ts i e 1 (fun r => ∃ t, wideE 20000 t ∧ r = [.agg (encE t)]) [.agg [.bool false, .str (bs s), .sl 3 (encEs acc)]] [.box [.sl 3 (encTs ts), .int .i64 j', .int .i64 e']] :=
      fun j' e' q1 q2 q3 => ⟨j', e', rfl, q1, q2, fun h => ⟨he1 (q3 h).1, (q3 h).2⟩, .mk false (bs s) acc, ⟨by omega, k4⟩, rfl⟩
    refine ifE (fun h0 => ?_) (fun h0 => fin j e3 k1 k2 k5)
    refine (more_spec acc.length ts j e3 (by omega) k2).mono fun r o ⟨b, hr, j', e', ho, q1, q2, q3, q4⟩ => ⟨b, _, _, _, hr, ho, ifB (fun hbt => ?_) (fun hbf => fin j' e' (by omega) q2 fun h => ⟨(k5 (q3 h)).1, by have := (k5 (q3 h)).2; omega⟩)⟩
    obtain ⟨z0, hlt⟩ := q4 hbt
    refine (rtype_spec ts hl m j' e' _ (by omega) q2).mono fun r o ⟨j3, e4, ho, p1, p2, p3, t, ht, hr⟩ => ?_
    obtain ⟨tb, tn, tl, rfl⟩ := te_cases t
    refine ⟨_, _, _, _, _, _, hr, ho, ?_, ?_, ⟨j3, e4, acc ++ [.mk tb tn tl], ?_, by omega, p2, ?_, ?_, fun h => ⟨(k5 (q3 (p3 h).1)).1, by omega⟩⟩, ?_⟩
    · simp only [List.length_cons, List.length_nil]; omega
    · simp only [List.length_cons, List.length_nil]; omega
    · rw [encEs_append]; rfl
    · rw [List.length_append]; simp only [List.length_cons, List.length_nil]; omega
    · rw [wideEs_iff] at k4 ⊢
      intro z hz
      rcases List.mem_append.1 hz with h | h
      · exact k4 z h
      · rw [List.mem_singleton.1 h]; exact ht
    · simp only [Int.toNat_natCast]; omega
end Go.Proofs.YtahagnfdpemmaaaDoor.Va
end

/- part Y3S -/
section
namespace Go.Proofs.YtahagnfdpemmaaaDoor.Va
open Go.Vx Go.Av Go.Lx Go.Dr Go.Dm Go.RowKit

def GR (r : List V) : Prop := ∃ g, wideG 20000 g ∧ r = [.agg (encG g)]
theorem wide_snoc {c : Nat} {gs : List Gl} {g : Gl} (h : wideGs c gs) (k : wideG c g) : wideGs c (gs ++ [g]) := by
  rw [wideGs_iff] at h ⊢
  intro z hz
  rcases List.mem_append.1 hz with h' | h'
  · exact h z h'
  · rw [List.mem_singleton.1 h']; exact k
theorem get0 {gs : List Gl} (h : 0 < gs.length) : ∃ g, g ∈ gs ∧ List.take 12 (Av.rowAt (encGs gs) 0) = encG g := by
  have he := List.getElem?_eq_getElem h
  exact ⟨gs[0], List.getElem_mem h, row_encGs he⟩
theorem wide_mk {k : Int} {s : List UInt8} {n : Nat} {gs : List Gl} (hl : gs.length ≤ n) (h : wideGs n gs) : wideG n (.mk k zeroT zeroT s [] gs) := ⟨wide_zeroT _, wide_zeroT _, Nat.zero_le _, trivial, hl, h⟩

/-- a prim, a goal -/
def PrimOk (ts : List Tok) (m : Nat) : Prop := ∀ (i : Nat) (e n : Int), 2 * (ts.length - i) < m → i ≤ ts.length → SCalls ax 67 [.ptr 0 0, .int .i64 n] [RBx ts i e] (Wk ts i e 0 GR)
def GoalOk (ts : List Tok) (m : Nat) : Prop := ∀ (i : Nat) (e n : Int), 2 * (ts.length - i) + 1 < m → i ≤ ts.length → SCalls ax 50 [.ptr 0 0, .int .i64 n] [RBx ts i e] (Wk ts i e 0 GR)

theorem goal_step (ts : List Tok) (hl : ts.length ≤ 16384) {m : Nat} (hP : PrimOk ts m) : GoalOk ts (m + 1) := by
  intro i e n hm hi
  have hb := big9
  refine rgoal.calls (K := Wk ts i e 0 GR) ?_
  unfold rgoal.W
  refine ⟨fun us => ∃ (j : Nat) (e1 : Int) (ors : List Gl), us = [.sl 12 (encGs ors), .sl 3 (encTs ts), .int .i64 j, .int .i64 e1] ∧ i ≤ j ∧ j ≤ ts.length ∧ ors.length ≤ j ∧ wideGs 20000 ors ∧ (e1 = 0 → e = 0),
    fun us => match us with | [_, _, .int _ j, _] => ts.length - j.toNat | _ => 0, ⟨i, e, [], rfl, Nat.le_refl _, hi, Nat.zero_le _, trivial, id⟩, ?_⟩
  rintro l440 l441 n442 e1 ⟨j, e1', ors, eq, k1, k2, k3, k4, k5⟩
  cases eq
  -- what goes back
  have fin : ∀ (os : List Gl) (j' : Nat) (e' : Int), os.length ≤ 20000 → wideGs 20000 os → i ≤ j' → j' ≤ ts.length → (e' = 0 → e = 0) →
      (bif ((List.length (encGs os) : Int) == (1 : Int)) then
        (0 ≤ (0 : Int) ∧ (0 : Int) < (List.length (encGs os) : Int) ∧ (∃ (n1 : Int) (n2 : Int) (s3 : ByteArray) (n4 : Int) (l5 : List (List V)) (n6 : Int) (s7 : ByteArray) (n8 : Int) (l9 : List (List V)) (s10 : ByteArray) (l11 : List (List V)) (l12 : List (List V)), List.take 12 (Av.rowAt (encGs os) (0)) = [(.int .i64 n1), (.int .i64 n2), (.str s3), (.int .i64 n4), (.sl 4 l5), (.int .i64 n6), (.str s7), (.int .i64 n8), (.sl 4 l9), (.str s10), (.sl 4 l11), (.sl 12 l12)] ∧ (Wk ts i e 0 GR [(.agg [(.int .i64 n1), (.int .i64 n2), (.str s3), (.int .i64 n4), (.sl 4 l5), (.int .i64 n6), (.str s7), (.int .i64 n8), (.sl 4 l9), (.str s10), (.sl 4 l11), (.sl 12 l12)])] [RBx ts j' e'])))
        else
        (Wk ts i e 0 GR [(.agg [(.int .i64 6), (.int .i64 0), (.str (⟨#[]⟩ : ByteArray)), (.int .i64 0), (.sl 4 []), (.int .i64 0), (.str (⟨#[]⟩ : ByteArray)), (.int .i64 0), (.sl 4 []), (.str (⟨#[]⟩ : ByteArray)), (.sl 4 []), (.sl 12 (encGs os))])] [RBx ts j' e'])) := by
    intro os j' e' h1 h2 h3 h4 h5
    rw [encGs_length]
    refine ifE (fun h => ?_) (fun h => ⟨j', e', rfl, h3, h4, fun h => ⟨h5 h, h3⟩, .mk 6 zeroT zeroT [] [] os, wide_mk h1 h2, rfl⟩)
    obtain ⟨g, hg, hr⟩ := get0 (gs := os) (by omega)
    obtain ⟨a1, a2, a3, a4, a5, a6, a7, a8, a9, a10, a11, a12, he⟩ := gl_enc g
    refine ⟨by omega, by omega, a1, a2, a3, a4, a5, a6, a7, a8, a9, a10, a11, a12, hr.trans he, j', e', rfl, h3, h4, fun h => ⟨h5 h, h3⟩, g, (wideGs_iff _).1 h2 g hg, by rw [he]⟩
  refine ifE (fun h0 => ?_) (fun h0 => fin ors j e1 (by omega) k4 k1 k2 k5)
  refine (hP j e1 n (by omega) k2).mono fun r o ⟨j2, e2, ho, p1, p2, p3, g, hg, hr⟩ => ?_
  obtain ⟨gk, ⟨ak, as_, an, az⟩, ⟨bk, bs_, bn, bz⟩, gs_, gx, gg⟩ := g
  refine ⟨_, _, _, _, _, _, _, _, _, _, _, _, _, _, _, hr, ho, ?_⟩
  refine ⟨fun us => ∃ (q : Nat) (e3 : Int) (ands : List Gl), us = [.sl 12 (encGs ands), .sl 3 (encTs ts), .int .i64 q, .int .i64 e3] ∧ j ≤ q ∧ q ≤ ts.length ∧ 0 < ands.length ∧ ands.length ≤ q + 1 ∧ (e3 = 0 → e = 0) ∧ wideGs 20000 ands,
    fun us => match us with | [_, _, .int _ j, _] => ts.length - j.toNat | _ => 0, ⟨j2, e2, [.mk gk (.mk ak as_ an az) (.mk bk bs_ bn bz) gs_ gx gg], rfl, p1, p2, Nat.one_pos, by simp, fun h => k5 (p3 h).1, ⟨hg, trivial⟩⟩, ?_⟩
  rintro l609 l610 n611 e3 ⟨q, e3', ands, eq, q1, q2, q3, q4, q5, q6⟩
  cases eq
  refine (got_spec _ ts q e3 (by omega)).mono fun r o hh => ?_
  rcases hh with ⟨hr, he, hlt, ho⟩ | ⟨hr, ho⟩
  · refine ⟨_, _, _, _, hr, ho, ?_⟩
    refine (hP (q + 1) e3 n (by omega) (by omega)).mono fun r o ⟨j4, e4, ho, p1, p2, p3, g', hg', hr⟩ => ?_
    obtain ⟨gk', ⟨ak', as', an', az'⟩, ⟨bk', bs', bn', bz'⟩, gs', gx', gg'⟩ := g'
    rw [encGs_length]
    refine ⟨_, _, _, _, _, _, _, _, _, _, _, _, _, _, _, hr, ho, ?_, ?_, ⟨j4, e4, ands ++ [.mk gk' (.mk ak' as' an' az') (.mk bk' bs' bn' bz') gs' gx' gg'], ?_, by omega, p2, by simp, ?_, fun h => q5 (p3 h).1, wide_snoc q6 hg'⟩, ?_⟩
    · simp only [List.length_cons, List.length_nil]; omega
    · simp only [List.length_cons, List.length_nil]; omega
    · rw [encGs_append]; rfl
    · rw [List.length_append]; simp only [List.length_cons, List.length_nil]; omega
    · simp only [Int.toNat_natCast]; omega
  · refine ⟨_, _, _, _, hr, ho, ?_⟩
    -- one more among those of ';'
    have more : ∀ g : Gl, wideG 20000 g → ∀ row, row = encG g → SCalls ax 44 [.ptr 0 0, .str ⟨#[59]⟩] [RBx ts q e3] fun r o => ∃ (b : Bool) (l : List (List V)) (m5 : Int) (m6 : Int), r = [.bool b] ∧ o = [.box [.sl 3 l, .int .i64 m5, .int .i64 m6]] ∧ (bif (!b) then
        (bif ((List.length (encGs ors ++ [row]) : Int) == (1 : Int)) then
        (0 ≤ (0 : Int) ∧ (0 : Int) < (List.length (encGs ors ++ [row]) : Int) ∧ (∃ (n1 : Int) (n2 : Int) (s3 : ByteArray) (n4 : Int) (l5 : List (List V)) (n6 : Int) (s7 : ByteArray) (n8 : Int) (l9 : List (List V)) (s10 : ByteArray) (l11 : List (List V)) (l12 : List (List V)), List.take 12 (Av.rowAt (encGs ors ++ [row]) (0)) = [(.int .i64 n1), (.int .i64 n2), (.str s3), (.int .i64 n4), (.sl 4 l5), (.int .i64 n6), (.str s7), (.int .i64 n8), (.sl 4 l9), (.str s10), (.sl 4 l11), (.sl 12 l12)] ∧ (Wk ts i e 0 GR [(.agg [(.int .i64 n1), (.int .i64 n2), (.str s3), (.int .i64 n4), (.sl 4 l5), (.int .i64 n6), (.str s7), (.int .i64 n8), (.sl 4 l9), (.str s10), (.sl 4 l11), (.sl 12 l12)])] [.box [.sl 3 l, .int .i64 m5, .int .i64 m6]])))
        else
        (Wk ts i e 0 GR [(.agg [(.int .i64 6), (.int .i64 0), (.str (⟨#[]⟩ : ByteArray)), (.int .i64 0), (.sl 4 []), (.int .i64 0), (.str (⟨#[]⟩ : ByteArray)), (.int .i64 0), (.sl 4 []), (.str (⟨#[]⟩ : ByteArray)), (.sl 4 []), (.sl 12 (encGs ors ++ [row]))])] [.box [.sl 3 l, .int .i64 m5, .int .i64 m6]]))
        else
        ((∃ (j : Nat) (e1 : Int) (os : List Gl), [V.sl 12 (encGs ors ++ [row]), .sl 3 l, .int .i64 m5, .int .i64 m6] = [V.sl 12 (encGs os), .sl 3 (encTs ts), .int .i64 j, .int .i64 e1] ∧ i ≤ j ∧ j ≤ ts.length ∧ os.length ≤ j ∧ wideGs 20000 os ∧ (e1 = 0 → e = 0)) ∧ ts.length - m5.toNat < ts.length - j)) := by
      intro g hg row hrow
      have e0 : encGs ors ++ [row] = encGs (ors ++ [g]) := by rw [encGs_append, hrow]; rfl
      refine (got_spec _ ts q e3 (by omega)).mono fun r o hh => ?_
      rcases hh with ⟨hr, he, hlt, ho⟩ | ⟨hr, ho⟩
      · refine ⟨_, _, _, _, hr, ho, ⟨q + 1, e3, ors ++ [g], by rw [e0], by omega, by omega, ?_, wide_snoc k4 hg, q5⟩, ?_⟩
        · rw [List.length_append]; simp only [List.length_cons, List.length_nil]; omega
        · simp only [Int.toNat_natCast]; omega
      · refine ⟨_, _, _, _, hr, ho, ?_⟩
        rw [e0]
        exact fin (ors ++ [g]) q e3 (by rw [List.length_append]; simp only [List.length_cons, List.length_nil]; omega) (wide_snoc k4 hg) (by omega) q2 q5
    rw [encGs_length]
    refine ifD (fun h => ⟨?_, ?_, more (.mk 5 zeroT zeroT [] [] ands) (wide_mk (by omega) q6) [.int .i64 5, .int .i64 0, .str ⟨#[]⟩, .int .i64 0, .sl 4 [], .int .i64 0, .str ⟨#[]⟩, .int .i64 0, .sl 4 [], .str ⟨#[]⟩, .sl 4 [], .sl 12 (encGs ands)] rfl⟩) (fun h => ?_)
    · rw [encGs_length]; simp only [List.length_cons, List.length_nil]; omega
    · rw [encGs_length]; simp only [List.length_cons, List.length_nil]; omega
    · obtain ⟨g, hg', hr⟩ := get0 q3
      obtain ⟨a1, a2, a3, a4, a5, a6, a7, a8, a9, a10, a11, a12, he⟩ := gl_enc g
      refine ⟨by omega, by omega, a1, a2, a3, a4, a5, a6, a7, a8, a9, a10, a11, a12, hr.trans he, ?_, ?_, more g ((wideGs_iff _).1 q6 g hg') _ he.symm⟩
      · rw [encGs_length]; simp only [List.length_cons, List.length_nil]; omega
      · rw [encGs_length]; simp only [List.length_cons, List.length_nil]; omega

theorem prim_step (ts : List Tok) (hl : ts.length ≤ 16384) {m : Nat} (hP : PrimOk ts m) (hG : GoalOk ts m) : PrimOk ts (m + 1) := by
  intro i e n hm hi
  have hb := big9
  refine rprim.calls (K := Wk ts i e 0 GR) ?_
  unfold rprim.W
  refine (rnest_spec n ts i e).mono fun r o ⟨hr, e1, ho, he1⟩ => ⟨_, _, _, hr, ho, ?_⟩
  have fin : ∀ (g : Gl) (j : Nat) (e' : Int), wideG 20000 g → i ≤ j → j ≤ ts.length → (e' = 0 → e = 0) → Wk ts i e 0 GR [.agg (encG g)] [RBx ts j e'] := fun g j e' h1 h2 h3 h4 => ⟨j, e', rfl, h2, h3, fun h => ⟨h4 h, h2⟩, g, h1, rfl⟩
  have w0 : wideG 20000 (.mk 1 zeroT zeroT [] [] []) := wide_mk (Nat.zero_le _) trivial
  refine (got_spec _ ts i e1 (by omega)).mono fun r o hh => ?_
  rcases hh with ⟨hr, he, hlt, ho⟩ | ⟨hr, ho⟩
  · exact ⟨_, _, _, _, hr, ho, fin (.mk 1 zeroT zeroT [] [] []) (i + 1) e1 w0 (by omega) (by omega) he1⟩
  refine ⟨_, _, _, _, hr, ho, ?_⟩
  refine (got_spec _ ts i e1 (by omega)).mono fun r o hh => ?_
  rcases hh with ⟨hr, he, hlt, ho⟩ | ⟨hr, ho⟩
  · exact ⟨_, _, _, _, hr, ho, fin (.mk 2 zeroT zeroT [] [] []) (i + 1) e1 w0 (by omega) (by omega) he1⟩
  refine ⟨_, _, _, _, hr, ho, ?_⟩
  -- not
  refine (got_spec _ ts i e1 (by omega)).mono fun r o hh => ?_
  rcases hh with ⟨hr, he, hlt, ho⟩ | ⟨hr, ho⟩
  · refine ⟨_, _, _, _, hr, ho, (hP (i + 1) e1 _ (by omega) (by omega)).mono fun r o ⟨j2, e2, ho, p1, p2, p3, g, hg, hr⟩ => ?_⟩
    obtain ⟨gk, ⟨ak, as_, an, az⟩, ⟨bk, bs_, bn, bz⟩, gs_, gx, gg⟩ := g
    exact ⟨_, _, _, _, _, _, _, _, _, _, _, _, _, _, _, hr, ho, fin (.mk 7 zeroT zeroT [] [] [.mk gk (.mk ak as_ an az) (.mk bk bs_ bn bz) gs_ gx gg]) j2 e2 (wide_mk (by simp) ⟨hg, trivial⟩) (by omega) p2 fun h => he1 (p3 h).1⟩
  refine ⟨_, _, _, _, hr, ho, ?_⟩
  -- throw
  refine (got_spec _ ts i e1 (by omega)).mono fun r o hh => ?_
  rcases hh with ⟨hr, he, hlt, ho⟩ | ⟨hr, ho⟩
  · refine ⟨_, _, _, _, hr, ho, (rterm_spec ts hl (ts.length + 1) (i + 1) e1 _ (by omega) (by omega)).mono fun r o ⟨j2, e2, ho, p1, p2, p3, t, ht, hr⟩ => ?_⟩
    obtain ⟨tk, tn, ti, tl, rfl⟩ := tr_cases t
    exact ⟨_, _, _, _, _, _, _, hr, ho, fin (.mk 8 (.mk tk tn ti tl) zeroT [] [] []) j2 e2 ⟨ht, wide_zeroT _, Nat.zero_le _, trivial, Nat.zero_le _, trivial⟩ (by omega) p2 fun h => he1 (p3 h).1⟩
  refine ⟨_, _, _, _, hr, ho, ?_⟩
  -- try
  refine (got_spec _ ts i e1 (by omega)).mono fun r o hh => ?_
  rcases hh with ⟨hr, he, hlt, ho⟩ | ⟨hr, ho⟩
  · refine ⟨_, _, _, _, hr, ho, (hP (i + 1) e1 _ (by omega) (by omega)).mono fun r o ⟨j2, e2, ho, p1, p2, p3, g, hg, hr⟩ => ?_⟩
    obtain ⟨gk, ⟨ak, as_, an, az⟩, ⟨bk, bs_, bn, bz⟩, gs_, gx, gg⟩ := g
    refine ⟨_, _, _, _, _, _, _, _, _, _, _, _, _, _, _, hr, ho, ?_⟩
    refine (need_spec _ ts j2 e2 (by omega) p2).mono fun r o ⟨j3, e3, ho, q1, q2, q3, hr⟩ => ⟨_, _, _, hr, ho, ?_⟩
    refine (rword_spec 2 ts j3 e3 (by omega) q2).mono fun r o ⟨j4, e4, ho, q4, q5, q6, s, hr⟩ => ⟨_, _, _, _, hr, ho, ?_⟩
    refine (need_spec _ ts j4 e4 (by omega) q5).mono fun r o ⟨j5, e5, ho, q7, q8, q9, hr⟩ => ⟨_, _, _, hr, ho, ?_⟩
    refine (hP j5 e5 _ (by omega) q8).mono fun r o ⟨j6, e6, ho, u1, u2, u3, g', hg', hr⟩ => ?_
    obtain ⟨gk', ⟨ak', as', an', az'⟩, ⟨bk', bs', bn', bz'⟩, gs', gx', gg'⟩ := g'
    exact ⟨_, _, _, _, _, _, _, _, _, _, _, _, _, _, _, hr, ho, fin (.mk 9 zeroT zeroT s [] [.mk gk (.mk ak as_ an az) (.mk bk bs_ bn bz) gs_ gx gg, .mk gk' (.mk ak' as' an' az') (.mk bk' bs' bn' bz') gs' gx' gg']) j6 e6 (wide_mk (by simp) ⟨hg, hg', trivial⟩) (by omega) u2 fun h => he1 (p3 (q3 (q6 (q9 (u3 h).1).1).1).1).1⟩
  refine ⟨_, _, _, _, hr, ho, ?_⟩
  -- ( goal )
  refine (got_spec _ ts i e1 (by omega)).mono fun r o hh => ?_
  rcases hh with ⟨hr, he, hlt, ho⟩ | ⟨hr, ho⟩
  · refine ⟨_, _, _, _, hr, ho, (hG (i + 1) e1 _ (by omega) (by omega)).mono fun r o ⟨j2, e2, ho, p1, p2, p3, g, hg, hr⟩ => ?_⟩
    obtain ⟨gk, ⟨ak, as_, an, az⟩, ⟨bk, bs_, bn, bz⟩, gs_, gx, gg⟩ := g
    refine ⟨_, _, _, _, _, _, _, _, _, _, _, _, _, _, _, hr, ho, ?_⟩
    refine (need_spec _ ts j2 e2 (by omega) p2).mono fun r o ⟨j3, e3, ho, q1, q2, q3, hr⟩ => ⟨_, _, _, hr, ho, ?_⟩
    exact fin _ j3 e3 hg (by omega) q2 fun h => he1 (p3 (q3 h).1).1
  refine ⟨_, _, _, _, hr, ho, ?_⟩
  -- a term, and perhaps a second one
  refine (rterm_spec ts hl (ts.length + 1) i e1 _ (by omega) hi).mono fun r o ⟨j2, e2, ho, p1, p2, p3, t, ht, hr⟩ => ?_
  obtain ⟨tk, tn, ti, tl, rfl⟩ := tr_cases t
  refine ⟨_, _, _, _, _, _, _, hr, ho, ?_⟩
  have hwt : wideG 20000 (.mk 4 zeroT zeroT tn tl []) := ⟨wide_zeroT _, wide_zeroT _, ht.1, ht.2, Nat.zero_le _, trivial⟩
  refine (got_spec _ ts j2 e2 (by omega)).mono fun r o hh => ?_
  rcases hh with ⟨hr, he, hlt, ho⟩ | ⟨hr, ho⟩
  · refine ⟨_, _, _, _, hr, ho, (rterm_spec ts hl (ts.length + 1) (j2 + 1) e2 _ (by omega) (by omega)).mono fun r o ⟨j3, e3, ho, u1, u2, u3, t', ht', hr⟩ => ?_⟩
    obtain ⟨tk', tn', ti', tl', rfl⟩ := tr_cases t'
    exact ⟨_, _, _, _, _, _, _, hr, ho, fin (.mk 3 (.mk tk tn ti tl) (.mk tk' tn' ti' tl') [] [] []) j3 e3 ⟨ht, ht', Nat.zero_le _, trivial, Nat.zero_le _, trivial⟩ (by omega) u2 fun h => he1 (p3 (u3 h).1).1⟩
  refine ⟨_, _, _, _, hr, ho, ifNE (fun h => ?_) (fun h => ?_)⟩
  · exact (fail_spec 2 ts j2 e2).mono fun r o ⟨hr, ho⟩ => ⟨_, _, _, hr, ho, fin (.mk 4 zeroT zeroT tn tl []) j2 _ hwt (by omega) p2 fun h => absurd h (failed 2 e2 (by decide))⟩
  · exact fin (.mk 4 zeroT zeroT tn tl []) j2 e2 hwt (by omega) p2 fun h => he1 (p3 h).1

theorem both_spec (ts : List Tok) (hl : ts.length ≤ 16384) : ∀ m, PrimOk ts m ∧ GoalOk ts m
  | 0 => ⟨fun i e n h _ => by omega, fun i e n h _ => by omega⟩
  | m + 1 => ⟨prim_step ts hl (both_spec ts hl m).1 (both_spec ts hl m).2, goal_step ts hl (both_spec ts hl m).1⟩
theorem rgoal_spec (ts : List Tok) (hl : ts.length ≤ 16384) (i : Nat) (e n : Int) (hi : i ≤ ts.length) : SCalls ax 50 [.ptr 0 0, .int .i64 n] [RBx ts i e] (Wk ts i e 0 GR) := (both_spec ts hl _).2 i e n (Nat.lt_succ_self _) hi

def CR (r : List V) : Prop := ∃ c, wideC 20000 c ∧ r = [.agg (encC c)]
theorem rctor_spec (ts : List Tok) (hl : ts.length ≤ 16384) (i : Nat) (e : Int) (hi : i ≤ ts.length) : SCalls ax 47 [.ptr 0 0] [RBx ts i e] (Wk ts i e 1 CR) := by
  have hb := big9
  refine rctor.calls (K := Wk ts i e 1 CR) ?_
  unfold rctor.W
  refine (rword_spec 1 ts i e (by omega) hi).mono fun r o ⟨i2, e2, ho, g1, g2, g3, s, hr⟩ => ⟨_, _, _, _, hr, ho, ?_⟩
  refine ⟨fun us => ∃ (j : Nat) (e3 : Int) (acc : List Te), us = [.sl 3 (encTs ts), .int .i64 j, .int .i64 e3, .str (bs s), .sl 3 (encEs acc)] ∧ i ≤ j ∧ j ≤ ts.length ∧ acc.length ≤ j ∧ wideEs 20000 acc ∧ (e3 = 0 → e = 0 ∧ i + 1 ≤ j),
    fun us => match us with | _ :: .int _ j :: _ => ts.length - j.toNat | _ => 0, ⟨i2, e2, [], rfl, g1, g2, Nat.zero_le _, trivial, g3⟩, ?_⟩
  rintro l48 n49 e3 s51 l52 ⟨j, e3', acc, eq, k1, k2, k3, k4, k5⟩
  cases eq
  rw [encEs_length]
  have fin : ∀ (j' : Nat) (e' : Int), i ≤ j' → j' ≤ ts.length → (e' = 0 → e = 0 ∧ i + 1 ≤ j') → Wk ts i e 1 CR [.agg [.str (bs s), .sl 3 (encEs acc)]] [.box [.sl 3 (encTs ts), .int .i64 j', .int .i64 e']] :=
    fun j' e' q1 q2 q3 => ⟨j', e', rfl, q1, q2, q3, ⟨s, acc⟩, ⟨by show acc.length ≤ _; omega, k4⟩, rfl⟩
  refine ifE (fun h0 => ?_) (fun h0 => fin j e3 k1 k2 k5)
  refine (more_spec acc.length ts j e3 (by omega) k2).mono fun r o ⟨b, hr, j', e', ho, q1, q2, q3, q4⟩ => ⟨b, _, _, _, hr, ho, ifB (fun hbt => ?_) (fun hbf => fin j' e' (by omega) q2 fun h => ⟨(k5 (q3 h)).1, by have := (k5 (q3 h)).2; omega⟩)⟩
  obtain ⟨z0, hlt⟩ := q4 hbt
  refine (rtype_spec ts hl (ts.length + 1) j' e' _ (by omega) q2).mono fun r o ⟨j3, e4, ho, p1, p2, p3, t, ht, hr⟩ => ?_
  obtain ⟨tb, tn, tl, rfl⟩ := te_cases t
  refine ⟨_, _, _, _, _, _, hr, ho, ?_, ?_, ⟨j3, e4, acc ++ [.mk tb tn tl], ?_, by omega, p2, ?_, ?_, fun h => ⟨(k5 (q3 (p3 h).1)).1, by omega⟩⟩, ?_⟩
  · simp only [List.length_cons, List.length_nil]; omega
  · simp only [List.length_cons, List.length_nil]; omega
  · rw [encEs_append]; rfl
  · rw [List.length_append]; simp only [List.length_cons, List.length_nil]; omega
  · rw [wideEs_iff] at k4 ⊢
    intro z hz
    rcases List.mem_append.1 hz with h | h
    · exact k4 z h
    · rw [List.mem_singleton.1 h]; exact ht
  · simp only [Int.toNat_natCast]; omega
end Go.Proofs.YtahagnfdpemmaaaDoor.Va
end

/- part Y3T -/
section
namespace Go.Proofs.YtahagnfdpemmaaaDoor.Va
open Go.Vx Go.Av Go.Lx Go.Dr Go.Dm Go.RowKit

abbrev itS (ts : List Tok) (j : Nat) (e : Int) (kd : Int) (s : List UInt8) (vs cs tys ins xs : List (List V)) : List V :=
  [.sl 3 (encTs ts), .int .i64 j, .int .i64 e, .int .i64 kd, .str (bs s), .sl 1 vs, .sl 2 cs, .sl 3 tys, .sl 1 ins, .int .i64 0, .sl 4 xs, .int .i64 0, .int .i64 0, .str ⟨#[]⟩, .int .i64 0, .sl 4 [], .int .i64 0, .str ⟨#[]⟩, .int .i64 0, .sl 4 [], .str ⟨#[]⟩, .sl 4 [], .sl 12 []]
abbrev muJ (ts : List Tok) : List V → Nat := fun us => match us with | _ :: .int _ j :: _ => ts.length - j.toNat | _ => 0
def IR (r : List V) : Prop := ∃ t, wideI 20000 t ∧ r = [.agg (encI t)]
def zG : Gl := .mk 0 zeroT zeroT [] [] []
theorem wide_zG : wideG 20000 zG := wide_mk (Nat.zero_le _) trivial
theorem wide_it {k d : Int} {s : List UInt8} {vs : List (List UInt8)} {cs : List Cd} {ty : List Te} {ins : List Bool} {xs : List Tr} {g : Gl} (h1 : vs.length ≤ 20000) (h2 : cs.length ≤ 20000) (h3 : ∀ x ∈ cs, wideC 20000 x) (h4 : ty.length ≤ 20000) (h5 : wideEs 20000 ty) (h6 : ins.length ≤ 20000) (h7 : xs.length ≤ 20000) (h8 : wideRs 20000 xs) (h9 : wideG 20000 g) :
    wideI 20000 ⟨k, s, vs, cs, ty, ins, d, xs, g⟩ := ⟨h1, h2, h3, h4, h5, h6, h7, h8, h9⟩

theorem ritem_spec (ts : List Tok) (hl : ts.length ≤ 16384) (i : Nat) (e : Int) (hi : i ≤ ts.length) : SCalls ax 28 [.ptr 0 0] [RBx ts i e] (Wk ts i e 0 IR) := by
  have hb := big9
  refine ritem.calls (K := Wk ts i e 0 IR) ?_
  unfold ritem.W
  have fin : ∀ (t : It) (j : Nat) (e' : Int), wideI 20000 t → i ≤ j → j ≤ ts.length → (e' = 0 → e = 0) → Wk ts i e 0 IR [.agg (encI t)] [RBx ts j e'] := fun t j e' h1 h2 h3 h4 => ⟨j, e', rfl, h2, h3, fun h => ⟨h4 h, h2⟩, t, h1, rfl⟩
  -- a type
  refine (got_spec _ ts i e (by omega)).mono fun r o hh => ?_
  rcases hh with ⟨hr, he, hlt, ho⟩ | ⟨hr, ho⟩
  · refine ⟨_, _, _, _, hr, ho, (rword_spec 1 ts (i + 1) e (by omega) (by omega)).mono fun r o ⟨i2, e2, ho, g1, g2, g3, s, hr⟩ => ⟨_, _, _, _, hr, ho, ?_⟩⟩
    refine ⟨fun us => ∃ (j : Nat) (e3 : Int) (vs : List (List UInt8)), us = itS ts j e3 1 s (rowsN vs) [] [] [] [] ∧ i ≤ j ∧ j ≤ ts.length ∧ vs.length ≤ j ∧ (e3 = 0 → e = 0), ?_, ?_⟩
    · refine ⟨fun us => ∃ (j : Nat) (e3 : Int) (vs : List (List UInt8)), us = itS ts j e3 1 s (rowsN vs) [] [] [] [] ∧ i ≤ j ∧ j ≤ ts.length ∧ vs.length ≤ j ∧ (e3 = 0 → e = 0), muJ ts, ⟨i2, e2, [], rfl, by omega, g2, Nat.zero_le _, fun h => (g3 h).1⟩, ?_⟩
      rintro l159 n160 e3 n162 s163 l164 l165 l166 l167 n168 l169 n170 n171 s172 n173 l174 n175 s176 n177 l178 s179 l180 l181 ⟨j, e3', vs, eq, k1, k2, k3, k5⟩
      cases eq
      rw [rowsN_length]
      refine ifE (fun h0 => ?_) (fun h0 => ⟨j, e3, vs, rfl, k1, k2, k3, k5⟩)
      refine (more_spec vs.length ts j e3 (by omega) k2).mono fun r o ⟨b, hr, j', e', ho, q1, q2, q3, q4⟩ => ⟨b, _, _, _, hr, ho, ifB (fun hbt => ?_) (fun hbf => ⟨j', e', vs, rfl, by omega, q2, by omega, fun h => k5 (q3 h)⟩)⟩
      obtain ⟨z0, hlt'⟩ := q4 hbt
      refine (rword_spec 2 ts j' e' (by omega) q2).mono fun r o ⟨j3, e4, ho, p1, p2, p3, v, hr⟩ => ⟨_, _, _, _, hr, ho, ?_, ?_, ⟨j3, e4, vs ++ [v], ?_, by omega, p2, ?_, fun h => k5 (q3 (p3 h).1)⟩, ?_⟩
      · simp only [List.length_cons, List.length_nil]; omega
      · simp only [List.length_cons, List.length_nil]; omega
      · simp [rowsN]
      · rw [List.length_append]; simp only [List.length_cons, List.length_nil]; omega
      · simp only [muJ, Int.toNat_natCast]; omega
    rintro l194 n195 e3 n197 s198 l199 l200 l201 l202 n203 l204 n205 n206 s207 n208 l209 n210 s211 n212 l213 s214 l215 l216 ⟨j, e3', vs, eq, k1, k2, k3, k5⟩
    cases eq
    refine (need_spec _ ts j e3 (by omega) k2).mono fun r o ⟨j2, e4, ho, p1, p2, p3, hr⟩ => ⟨_, _, _, hr, ho, ?_⟩
    refine (rctor_spec ts hl j2 e4 p2).mono fun r o ⟨j3, e5, ho, p4, p5, p6, c, hc, hr⟩ => ⟨_, _, _, _, _, hr, ho, ?_, ?_, ?_⟩
    · simp
    · simp
    refine ⟨fun us => ∃ (q : Nat) (e6 : Int) (cs : List Cd), us = [.sl 3 (encTs ts), .int .i64 q, .int .i64 e6, .int .i64 1, .str (bs s), .sl 2 (cs.map encC), .int .i64 0, .int .i64 0, .int .i64 0, .str ⟨#[]⟩, .int .i64 0, .int .i64 0, .str ⟨#[]⟩, .int .i64 0, .str ⟨#[]⟩] ∧ i ≤ q ∧ q ≤ ts.length ∧ cs.length ≤ q + 1 ∧ (∀ x ∈ cs, wideC 20000 x) ∧ (e6 = 0 → e = 0), muJ ts,
      ⟨j3, e5, [c], rfl, by omega, p5, by simp, fun x hx => by rw [List.mem_singleton.1 hx]; exact hc, fun h => k5 (p3 (p6 h).1).1⟩, ?_⟩
    rintro l277 n278 e6 n280 s281 l282 n283 n284 n285 s286 n287 n288 s289 n290 s291 ⟨q, e6', cs, eq, q1, q2, q3, q4, q5⟩
    cases eq
    refine (got_spec _ ts q e6 (by omega)).mono fun r o hh => ?_
    rcases hh with ⟨hr, he', hlt', ho⟩ | ⟨hr, ho⟩
    · refine ⟨_, _, _, _, hr, ho, (rctor_spec ts hl (q + 1) e6 (by omega)).mono fun r o ⟨j4, e7, ho, u1, u2, u3, c', hc', hr⟩ => ⟨_, _, _, _, _, hr, ho, ?_, ?_, ⟨j4, e7, cs ++ [c'], ?_, by omega, u2, ?_, ?_, fun h => q5 (u3 h).1⟩, ?_⟩⟩
      · rw [List.length_map]; simp only [List.length_cons, List.length_nil]; omega
      · rw [List.length_map]; simp only [List.length_cons, List.length_nil]; omega
      · rw [List.map_append]; rfl
      · rw [List.length_append]; simp only [List.length_cons, List.length_nil]; omega
      · intro x hx
        rcases List.mem_append.1 hx with h | h
        · exact q4 x h
        · rw [List.mem_singleton.1 h]; exact hc'
      · simp only [muJ, Int.toNat_natCast]; omega
    · refine ⟨_, _, _, _, hr, ho, fin ⟨1, s, vs, cs, [], [], 0, [], zG⟩ q e6 (wide_it (by omega) (by omega) q4 (Nat.zero_le _) trivial (Nat.zero_le _) (Nat.zero_le _) trivial wide_zG) q1 q2 q5⟩
  refine ⟨_, _, _, _, hr, ho, ?_⟩
  clear hr ho r o
  -- a predicate
  refine (got_spec _ ts i e (by omega)).mono fun r o hh => ?_
  rcases hh with ⟨hr, he, hlt, ho⟩ | ⟨hr, ho⟩
  · refine ⟨_, _, _, _, hr, ho, (rword_spec 1 ts (i + 1) e (by omega) (by omega)).mono fun r o ⟨i2, e2, ho, g1, g2, g3, s, hr⟩ => ⟨_, _, _, _, hr, ho, ?_⟩⟩
    refine ⟨fun us => ∃ (j : Nat) (e3 : Int) (ty : List Te), us = itS ts j e3 2 s [] [] (encEs ty) [] [] ∧ i ≤ j ∧ j ≤ ts.length ∧ ty.length ≤ j ∧ wideEs 20000 ty ∧ (e3 = 0 → e = 0), muJ ts, ⟨i2, e2, [], rfl, by omega, g2, Nat.zero_le _, trivial, fun h => (g3 h).1⟩, ?_⟩
    rintro l159 n160 e3 n162 s163 l164 l165 l166 l167 n168 l169 n170 n171 s172 n173 l174 n175 s176 n177 l178 s179 l180 l181 ⟨j, e3', ty, eq, k1, k2, k3, k4, k5⟩
    cases eq
    rw [encEs_length]
    have fin' : ∀ (j' : Nat) (e' : Int), i ≤ j' → j' ≤ ts.length → (e' = 0 → e = 0) → Wk ts i e 0 IR [.agg (encI ⟨2, s, [], [], ty, [], 0, [], zG⟩)] [RBx ts j' e'] := fun j' e' => fin _ j' e' (wide_it (Nat.zero_le _) (Nat.zero_le _) (fun x hx => by cases hx) (by omega) k4 (Nat.zero_le _) (Nat.zero_le _) trivial wide_zG)
    refine ifE (fun h0 => ?_) (fun h0 => fin' j e3 k1 k2 k5)
    refine (more_spec ty.length ts j e3 (by omega) k2).mono fun r o ⟨b, hr, j', e', ho, q1, q2, q3, q4⟩ => ⟨b, _, _, _, hr, ho, ifB (fun hbt => ?_) (fun hbf => fin' j' e' (by omega) q2 fun h => k5 (q3 h))⟩
    obtain ⟨z0, hlt'⟩ := q4 hbt
    refine (rtype_spec ts hl (ts.length + 1) j' e' _ (by omega) q2).mono fun r o ⟨j3, e4, ho, p1, p2, p3, t, ht, hr⟩ => ?_
    obtain ⟨tb, tn, tl, rfl⟩ := te_cases t
    refine ⟨_, _, _, _, _, _, hr, ho, ?_, ?_, ⟨j3, e4, ty ++ [.mk tb tn tl], ?_, by omega, p2, ?_, ?_, fun h => k5 (q3 (p3 h).1)⟩, ?_⟩
    · simp only [List.length_cons, List.length_nil]; omega
    · simp only [List.length_cons, List.length_nil]; omega
    · rw [encEs_append]; rfl
    · rw [List.length_append]; simp only [List.length_cons, List.length_nil]; omega
    · rw [wideEs_iff] at k4 ⊢
      intro z hz
      rcases List.mem_append.1 hz with h | h
      · exact k4 z h
      · rw [List.mem_singleton.1 h]; exact ht
    · simp only [muJ, Int.toNat_natCast]; omega
  refine ⟨_, _, _, _, hr, ho, ?_⟩
  clear hr ho r o
  -- a mode
  refine (got_spec _ ts i e (by omega)).mono fun r o hh => ?_
  rcases hh with ⟨hr, he, hlt, ho⟩ | ⟨hr, ho⟩
  · refine ⟨_, _, _, _, hr, ho, (rword_spec 1 ts (i + 1) e (by omega) (by omega)).mono fun r o ⟨i2, e2, ho, g1, g2, g3, s, hr⟩ => ⟨_, _, _, _, hr, ho, ?_⟩⟩
    refine ⟨fun us => ∃ (j : Nat) (e3 : Int) (ins : List Bool), us = itS ts j e3 3 s [] [] [] (rowsB ins) [] ∧ i ≤ j ∧ j ≤ ts.length ∧ ins.length ≤ j ∧ (e3 = 0 → e = 0), ?_, ?_⟩
    · refine ⟨fun us => ∃ (j : Nat) (e3 : Int) (ins : List Bool), us = itS ts j e3 3 s [] [] [] (rowsB ins) [] ∧ i ≤ j ∧ j ≤ ts.length ∧ ins.length ≤ j ∧ (e3 = 0 → e = 0), muJ ts, ⟨i2, e2, [], rfl, by omega, g2, Nat.zero_le _, fun h => (g3 h).1⟩, ?_⟩
      rintro l159 n160 e3 n162 s163 l164 l165 l166 l167 n168 l169 n170 n171 s172 n173 l174 n175 s176 n177 l178 s179 l180 l181 ⟨j, e3', ins, eq, k1, k2, k3, k5⟩
      cases eq
      rw [rowsB_length]
      refine ifE (fun h0 => ?_) (fun h0 => ⟨j, e3, ins, rfl, k1, k2, k3, k5⟩)
      refine (more_spec ins.length ts j e3 (by omega) k2).mono fun r o ⟨b, hr, j', e', ho, q1, q2, q3, q4⟩ => ⟨b, _, _, _, hr, ho, ifB (fun hbt => ?_) (fun hbf => ⟨j', e', ins, rfl, by omega, q2, by omega, fun h => k5 (q3 h)⟩)⟩
      obtain ⟨z0, hlt'⟩ := q4 hbt
      have go : ∀ (w : Bool) (j3 : Nat) (e4 : Int), j' ≤ j3 → j3 ≤ ts.length → (e4 = 0 → e' = 0) → (((ins.length) + (List.length ([[V.bool w]] : List (List V)))) * 1 ≤ 140737488355328 ∧ (ins.length) + (List.length ([[V.bool w]] : List (List V))) ≤ 140737488355328 ∧
          (∃ (j : Nat) (e3 : Int) (ins' : List Bool), itS ts j3 e4 3 s [] [] [] (rowsB ins ++ [[.bool w]]) [] = itS ts j e3 3 s [] [] [] (rowsB ins') [] ∧ i ≤ j ∧ j ≤ ts.length ∧ ins'.length ≤ j ∧ (e3 = 0 → e = 0)) ∧ muJ ts (itS ts j3 e4 3 s [] [] [] (rowsB ins ++ [[.bool w]]) []) < muJ ts (itS ts j e3 3 s [] [] [] (rowsB ins) [])) := by
        intro w j3 e4 h1 h2 h3
        refine ⟨?_, ?_, ⟨j3, e4, ins ++ [w], by simp [rowsB], by omega, h2, ?_, fun h => k5 (q3 (h3 h))⟩, ?_⟩
        · simp only [List.length_cons, List.length_nil]; omega
        · simp only [List.length_cons, List.length_nil]; omega
        · rw [List.length_append]; simp only [List.length_cons, List.length_nil]; omega
        · simp only [muJ, Int.toNat_natCast]; omega
      refine (got_spec _ ts j' e' (by omega)).mono fun r o hh => ?_
      rcases hh with ⟨hr, he', hlt2, ho⟩ | ⟨hr, ho⟩
      · exact ⟨_, _, _, _, hr, ho, go true (j' + 1) e' (by omega) (by omega) id⟩
      · refine ⟨_, _, _, _, hr, ho, (need_spec _ ts j' e' (by omega) q2).mono fun r o ⟨j3, e4, ho, p1, p2, p3, hr⟩ => ⟨_, _, _, hr, ho, go false j3 e4 p1 p2 fun h => (p3 h).1⟩⟩
    rintro l194 n195 e3 n197 s198 l199 l200 l201 l202 n203 l204 n205 n206 s207 n208 l209 n210 s211 n212 l213 s214 l215 l216 ⟨j, e3', ins, eq, k1, k2, k3, k5⟩
    cases eq
    have fin' : ∀ (d : Int) (j' : Nat) (e' : Int), i ≤ j' → j' ≤ ts.length → (e' = 0 → e = 0) → Wk ts i e 0 IR [.agg (encI ⟨3, s, [], [], [], ins, d, [], zG⟩)] [RBx ts j' e'] := fun d j' e' => fin _ j' e' (wide_it (Nat.zero_le _) (Nat.zero_le _) (fun x hx => by cases hx) (Nat.zero_le _) trivial (by omega) (Nat.zero_le _) trivial wide_zG)
    refine (need_spec _ ts j e3 (by omega) k2).mono fun r o ⟨j2, e4, ho, p1, p2, p3, hr⟩ => ⟨_, _, _, hr, ho, ?_⟩
    refine (got_spec _ ts j2 e4 (by omega)).mono fun r o hh => ?_
    rcases hh with ⟨hr, he', hlt2, ho⟩ | ⟨hr, ho⟩
    · exact ⟨_, _, _, _, hr, ho, fin' 1 (j2 + 1) e4 (by omega) (by omega) fun h => k5 (p3 h).1⟩
    refine ⟨_, _, _, _, hr, ho, ?_⟩
    refine (got_spec _ ts j2 e4 (by omega)).mono fun r o hh => ?_
    rcases hh with ⟨hr, he', hlt2, ho⟩ | ⟨hr, ho⟩
    · exact ⟨_, _, _, _, hr, ho, fin' 2 (j2 + 1) e4 (by omega) (by omega) fun h => k5 (p3 h).1⟩
    refine ⟨_, _, _, _, hr, ho, ?_⟩
    refine (got_spec _ ts j2 e4 (by omega)).mono fun r o hh => ?_
    rcases hh with ⟨hr, he', hlt2, ho⟩ | ⟨hr, ho⟩
    · exact ⟨_, _, _, _, hr, ho, fin' 3 (j2 + 1) e4 (by omega) (by omega) fun h => k5 (p3 h).1⟩
    refine ⟨_, _, _, _, hr, ho, ?_⟩
    refine (got_spec _ ts j2 e4 (by omega)).mono fun r o hh => ?_
    rcases hh with ⟨hr, he', hlt2, ho⟩ | ⟨hr, ho⟩
    · exact ⟨_, _, _, _, hr, ho, fin' 4 (j2 + 1) e4 (by omega) (by omega) fun h => k5 (p3 h).1⟩
    refine ⟨_, _, _, _, hr, ho, ?_⟩
    exact (fail_spec 2 ts j2 e4).mono fun r o ⟨hr, ho⟩ => ⟨_, _, _, hr, ho, fin' 0 j2 _ (by omega) p2 fun h => absurd h (failed 2 e4 (by decide))⟩
  refine ⟨_, _, _, _, hr, ho, ?_⟩
  clear hr ho r o
  -- a clause
  refine (rword_spec 1 ts i e (by omega) hi).mono fun r o ⟨i2, e2, ho, g1, g2, g3, s, hr⟩ => ⟨_, _, _, _, hr, ho, ?_⟩
  refine ⟨fun us => ∃ (j : Nat) (e3 : Int) (xs : List Tr), us = itS ts j e3 4 s [] [] [] [] (encRs xs) ∧ i ≤ j ∧ j ≤ ts.length ∧ xs.length ≤ j ∧ wideRs 20000 xs ∧ (e3 = 0 → e = 0), muJ ts, ⟨i2, e2, [], rfl, by omega, g2, Nat.zero_le _, trivial, fun h => (g3 h).1⟩, ?_⟩
  rintro l159 n160 e3 n162 s163 l164 l165 l166 l167 n168 l169 n170 n171 s172 n173 l174 n175 s176 n177 l178 s179 l180 l181 ⟨j, e3', xs, eq, k1, k2, k3, k4, k5⟩
  cases eq
  rw [encRs_length]
  have fin' : ∀ (g : Gl) (j' : Nat) (e' : Int), wideG 20000 g → i ≤ j' → j' ≤ ts.length → (e' = 0 → e = 0) → Wk ts i e 0 IR [.agg (encI ⟨4, s, [], [], [], [], 0, xs, g⟩)] [RBx ts j' e'] := fun g j' e' hg => fin _ j' e' (wide_it (Nat.zero_le _) (Nat.zero_le _) (fun x hx => by cases hx) (Nat.zero_le _) trivial (Nat.zero_le _) (by omega) k4 hg)
  have w0 : wideG 20000 (.mk 1 zeroT zeroT [] [] []) := wide_mk (Nat.zero_le _) trivial
  refine ifE (fun h0 => ?_) (fun h0 => ?_)
  · refine (more_spec xs.length ts j e3 (by omega) k2).mono fun r o ⟨b, hr, j', e', ho, q1, q2, q3, q4⟩ => ⟨b, _, _, _, hr, ho, ifB (fun hbt => ?_) (fun hbf => ?_)⟩
    · obtain ⟨z0, hlt'⟩ := q4 hbt
      refine (rterm_spec ts hl (ts.length + 1) j' e' _ (by omega) q2).mono fun r o ⟨j3, e4, ho, p1, p2, p3, t, ht, hr⟩ => ?_
      obtain ⟨tk, tn, ti, tl, rfl⟩ := tr_cases t
      refine ⟨_, _, _, _, _, _, _, hr, ho, ?_, ?_, ⟨j3, e4, xs ++ [.mk tk tn ti tl], ?_, by omega, p2, ?_, ?_, fun h => k5 (q3 (p3 h).1)⟩, ?_⟩
      · simp only [List.length_cons, List.length_nil]; omega
      · simp only [List.length_cons, List.length_nil]; omega
      · rw [encRs_append]; rfl
      · rw [List.length_append]; simp only [List.length_cons, List.length_nil]; omega
      · rw [wideRs_iff] at k4 ⊢
        intro z hz
        rcases List.mem_append.1 hz with h | h
        · exact k4 z h
        · rw [List.mem_singleton.1 h]; exact ht
      · simp only [muJ, Int.toNat_natCast]; omega
    · refine (got_spec _ ts j' e' (by omega)).mono fun r o hh => ?_
      rcases hh with ⟨hr, he', hlt2, ho⟩ | ⟨hr, ho⟩
      · refine ⟨_, _, _, _, hr, ho, (rgoal_spec ts hl (j' + 1) e' _ (by omega)).mono fun r o ⟨j3, e4, ho, p1, p2, p3, g, hg, hr⟩ => ?_⟩
        obtain ⟨gk, ⟨ak, as_, an, az⟩, ⟨bk, bs_, bn, bz⟩, gs_, gx, gg⟩ := g
        exact ⟨_, _, _, _, _, _, _, _, _, _, _, _, _, _, _, hr, ho, fin' _ j3 e4 hg (by omega) p2 fun h => k5 (q3 (p3 h).1)⟩
      · exact ⟨_, _, _, _, hr, ho, fin' (.mk 1 zeroT zeroT [] [] []) j' e' w0 (by omega) q2 fun h => k5 (q3 h)⟩
  · refine (got_spec _ ts j e3 (by omega)).mono fun r o hh => ?_
    rcases hh with ⟨hr, he', hlt2, ho⟩ | ⟨hr, ho⟩
    · refine ⟨_, _, _, _, hr, ho, (rgoal_spec ts hl (j + 1) e3 _ (by omega)).mono fun r o ⟨j3, e4, ho, p1, p2, p3, g, hg, hr⟩ => ?_⟩
      obtain ⟨gk, ⟨ak, as_, an, az⟩, ⟨bk, bs_, bn, bz⟩, gs_, gx, gg⟩ := g
      exact ⟨_, _, _, _, _, _, _, _, _, _, _, _, _, _, _, hr, ho, fin' _ j3 e4 hg (by omega) p2 fun h => k5 (p3 h).1⟩
    · exact ⟨_, _, _, _, hr, ho, fin' (.mk 1 zeroT zeroT [] [] []) j e3 w0 k1 k2 k5⟩

theorem RLex_spec (l : List UInt8) : PCalls ax 43 [.str (bs l)] fun r => ∃ (ts : List Tok) (e : Int), r = [.sl 3 (encTs ts), .int .i64 e] ∧ ts.length ≤ 16384 := by
  have hb := big9
  refine RLex.calls (K := fun r => ∃ (ts : List Tok) (e : Int), r = [.sl 3 (encTs ts), .int .i64 e] ∧ ts.length ≤ 16384) ?_
  unfold RLex.W
  rw [bs_size]
  refine ifD (fun h => ⟨[], 4, rfl, Nat.zero_le _⟩) (fun h => ?_)
  refine (RAll_spec l (by omega)).mono fun r ⟨P, hr⟩ => ⟨P, _, _, hr, ifN (fun _ => ⟨[], 1, rfl, Nat.zero_le _⟩) (fun _ => ⟨_, 0, rfl, ?_⟩)⟩
  have := (allL_len l.length l (Nat.le_refl _)).1
  omega
theorem rread_spec (l : List UInt8) : SCalls ax 25 [.str (bs l)] [] fun r o => ∃ (ts : List Tok) (e : Int), r = [.ptr 0 0] ∧ o = [RBx ts 0 e] ∧ ts.length ≤ 16384 := by
  refine rread.calls (K := fun r o => ∃ (ts : List Tok) (e : Int), r = [.ptr 0 0] ∧ o = [RBx ts 0 e] ∧ ts.length ≤ 16384) ?_
  unfold rread.W
  exact (RLex_spec l).mono fun r ⟨ts, e, hr, hl⟩ => ⟨_, _, hr, ts, e, rfl, rfl, hl⟩

theorem Source_spec (l : List UInt8) : PCalls ax 12 [.str (bs l)] fun r => ∃ (its : List It) (n : Int), r = [.sl 20 (encIs its), .int .i64 n] ∧ its.length ≤ 20000 ∧ ∀ t ∈ its, wideI 20000 t := by
  have hb := big9
  refine Source.calls (K := fun r => ∃ (its : List It) (n : Int), r = [.sl 20 (encIs its), .int .i64 n] ∧ its.length ≤ 20000 ∧ ∀ t ∈ its, wideI 20000 t) ?_
  unfold Source.W
  refine (rread_spec l).mono fun r o ⟨ts, e, hr, ho, hl⟩ => ⟨_, _, _, hr, ho, ?_⟩
  refine ⟨fun us => ∃ (its : List It) (j : Nat) (e : Int), us = [.sl 20 (encIs its), .sl 3 (encTs ts), .int .i64 j, .int .i64 e] ∧ j ≤ ts.length ∧ its.length ≤ 512 ∧ ∀ t ∈ its, wideI 20000 t,
    fun us => match us with | .sl _ l :: _ => 512 - l.length | _ => 0, ⟨[], 0, e, rfl, Nat.zero_le _, Nat.zero_le _, fun t h => by cases h⟩, ?_⟩
  rintro l100 l101 n102 e1 ⟨its, j, e1', eq, hj, h1, h2⟩
  cases eq
  have fin : ∀ (j' : Nat) (e' : Int), SCalls ax 30 [.ptr 0 0] [RBx ts j' e'] fun r o => ∃ (n : Int) (l : List (List V)) (m q : Int), r = [.int .i64 n] ∧ o = [.box [.sl 3 l, .int .i64 m, .int .i64 q]] ∧ (bif (n != (0 : Int)) then
      (∃ (its : List It) (n : Int), [V.sl 20 [], .int .i64 q] = [.sl 20 (encIs its), .int .i64 n] ∧ its.length ≤ 20000 ∧ ∀ t ∈ its, wideI 20000 t) else
      (∃ (its' : List It) (n : Int), [V.sl 20 (encIs its), .int .i64 0] = [.sl 20 (encIs its'), .int .i64 n] ∧ its'.length ≤ 20000 ∧ ∀ t ∈ its', wideI 20000 t)) := fun j' e' =>
    (done_spec ts j' e').mono fun r o ⟨c, hr, ho⟩ => ⟨c, _, _, _, hr, ho, ifNE (fun _ => ⟨[], _, rfl, Nat.zero_le _, fun t h => by cases h⟩) (fun _ => ⟨its, 0, rfl, by omega, h2⟩)⟩
  refine (rend_spec ts j e1).mono fun r o ⟨hr, ho⟩ => ⟨_, _, _, _, hr, ho, ifN (fun hz => ?_) (fun hz => fin j e1)⟩
  rw [encIs_length]
  refine ifE (fun h => ?_) (fun h => ?_)
  · exact (fail_spec 4 ts j e1).mono fun r o ⟨hr, ho⟩ => ⟨_, _, _, hr, ho, fin j _⟩
  · refine (ritem_spec ts hl j e1 hj).mono fun r o ⟨j2, e2, ho, p1, p2, p3, t, ht, hr⟩ => ?_
    obtain ⟨k, s, v, c, ty, ii, d, xs, ⟨gk, ⟨ak, as_, an, az⟩, ⟨bk, bs_, bn, bz⟩, gs_, gx, gg⟩⟩ := t
    refine ⟨_, _, _, _, _, _, _, _, _, _, _, _, _, _, _, _, _, _, _, _, _, _, _, hr, ho, ?_, ?_, ?_⟩
    · simp only [List.length_cons, List.length_nil]; omega
    · simp only [List.length_cons, List.length_nil]; omega
    refine (need_spec _ ts j2 e2 (by omega) p2).mono fun r o ⟨j3, e3, ho, q1, q2, q3, hr⟩ => ⟨_, _, _, hr, ho, ⟨its ++ [⟨k, s, v, c, ty, ii, d, xs, .mk gk (.mk ak as_ an az) (.mk bk bs_ bn bz) gs_ gx gg⟩], j3, e3, ?_, q2, ?_, ?_⟩, ?_⟩
    · simp only [encIs, List.map_append]; rfl
    · rw [List.length_append]; simp only [List.length_cons, List.length_nil]; omega
    · intro x hx
      rcases List.mem_append.1 hx with h | h
      · exact h2 x h
      · rw [List.mem_singleton.1 h]; exact ht
    · simp only [List.length_append, encIs_length, List.length_cons, List.length_nil]; omega
end Go.Proofs.YtahagnfdpemmaaaDoor.Va
end

/- part Y3V -/
section
namespace Go.Dm
open Go.Av Go.Lx Go.Dr Go.Uni
def rowsS (l : List ByteArray) : List (List V) := l.map fun s => [.str s]
@[simp] theorem rowsS_length (l : List ByteArray) : (rowsS l).length = l.length := by simp [rowsS]
theorem rowsN_eq (l : List (List UInt8)) : rowsN l = rowsS (l.map bs) := by simp [rowsN, rowsS]
theorem rowS {l : List ByteArray} {i : Nat} {s : ByteArray} (h : l[i]? = some s) : List.take 1 (Av.rowAt (rowsS l) i) = [.str s] := by
  rw [Av.rowAt, List.getD_eq_getElem?_getD, rowsS, List.getElem?_map, h]; rfl
theorem irow {its : List It} {i : Nat} {t : It} (h : its[i]? = some t) : List.take 20 (Av.rowAt (encIs its) ((i : Int).toNat)) = encI t := row_encIs (by simpa using h)
/-- constructors of an index -/
structure Ct where
  name : ByteArray
  ty : ByteArray
  vars : List ByteArray
  args : List Te
  tag : Int
def encK (c : Ct) : List V := [.str c.name, .int .i64 (c.args.length : Nat), .str c.ty, .sl 1 (rowsS c.vars), .sl 3 (encEs c.args), .int .i64 c.tag]
def encKs (l : List Ct) : List (List V) := l.map encK
@[simp] theorem encKs_length (l : List Ct) : (encKs l).length = l.length := by simp [encKs]
theorem krow {cs : List Ct} {i : Nat} {c : Ct} (h : cs[i]? = some c) : List.take 6 (Av.rowAt (encKs cs) ((i : Int).toNat)) = encK c := by
  rw [Int.toNat_natCast, encKs, Av.rowAt, List.getD_eq_getElem?_getD, List.getElem?_map, h]; rfl
def key (c : Ct) : ByteArray × Nat := (c.name, c.args.length)
structure GoodX (cs : List Ct) : Prop where
  keys : (cs.map key).Nodup
  len : cs.length ≤ 400000000
  each : ∀ c ∈ cs, c.vars.Nodup ∧ c.vars.length ≤ 20000 ∧ c.args.length ≤ 20000 ∧ wideEs 20000 c.args

/-! ### the constructors of items -/
def ctsOf (t : It) : List Cd := if t.kind = 1 then t.ctors else []
def allC (its : List It) : List Cd := its.flatMap ctsOf
def is (s : ByteArray) (n : Int) (c : Cd) : Bool := decide (bs c.name = s ∧ (c.args.length : Int) = n)
def ckey (c : Cd) : ByteArray × Nat := (bs c.name, c.args.length)
theorem nodup_of_one {α β : Type} [DecidableEq β] (f : α → β) : ∀ l : List α, (∀ x ∈ l, (l.filter fun y => decide (f y = f x)).length = 1) → (l.map f).Nodup
  | [], _ => List.nodup_nil
  | a :: l, h => by
    rw [List.map_cons, List.nodup_cons]
    have h0 := h a List.mem_cons_self
    rw [List.filter_cons, if_pos (by simp)] at h0
    have hn : l.filter (fun y => decide (f y = f a)) = [] := List.eq_nil_of_length_eq_zero (by simpa using h0)
    have hna : ∀ y ∈ l, f y ≠ f a := fun y hy he => by
      have : y ∈ l.filter (fun y => decide (f y = f a)) := List.mem_filter.2 ⟨hy, by simpa using he⟩
      rw [hn] at this; cases this
    refine ⟨fun hm => ?_, nodup_of_one f l fun x hx => ?_⟩
    · obtain ⟨y, hy, he⟩ := List.mem_map.1 hm
      exact hna y hy he
    · have := h x (List.mem_cons_of_mem _ hx)
      rw [List.filter_cons, if_neg (by simpa using (fun he => hna x hx he.symm))] at this
      exact this
theorem allC_len {its : List It} (h : ∀ t ∈ its, wideI 20000 t) : (allC its).length ≤ its.length * 20000 := by
  induction its with
  | nil => exact Nat.zero_le _
  | cons t r ih =>
    have h1 := ih fun x hx => h x (List.mem_cons_of_mem _ hx)
    have h2 : (ctsOf t).length ≤ 20000 := by
      unfold ctsOf; split
      · exact (h t List.mem_cons_self).ctors
      · exact Nat.zero_le _
    simp only [allC, List.flatMap_cons, List.length_append, List.length_cons] at h1 ⊢
    omega
end Go.Dm
namespace Go.Proofs.YtahagnfdpemmaaaDoor.Va
open Go.Vx Go.Av Go.Lx Go.Dr Go.Dm Go.RowKit

theorem iget {its : List It} {i : Nat} (h : i < its.length) : ∃ k s v c ty ii d xs gk ak as_ an az bk bs_ bn bz gs_ gx gg, its[i]? = some ⟨k, s, v, c, ty, ii, d, xs, .mk gk (.mk ak as_ an az) (.mk bk bs_ bn bz) gs_ gx gg⟩ := by
  have he := List.getElem?_eq_getElem h
  generalize its[i] = t at he
  obtain ⟨k, s, v, c, ty, ii, d, xs, ⟨gk, ⟨ak, as_, an, az⟩, ⟨bk, bs_, bn, bz⟩, gs_, gx, gg⟩⟩ := t
  exact ⟨_, _, _, _, _, _, _, _, _, _, _, _, _, _, _, _, _, _, _, _, he⟩
theorem erow {zs : List Te} {i : Nat} {t : Te} (h : zs[i]? = some t) : List.take 3 (Av.rowAt (encEs zs) ((i : Int).toNat)) = encE t := row_encEs (by simpa using h)
theorem eget {zs : List Te} {i : Nat} (h : i < zs.length) : ∃ b s l, zs[i]? = some (.mk b s l) := by
  have he := List.getElem?_eq_getElem h
  obtain ⟨b, s, l, e⟩ := te_cases zs[i]
  exact ⟨b, s, l, by rw [he, e]⟩
theorem rrow {zs : List Tr} {i : Nat} {t : Tr} (h : zs[i]? = some t) : List.take 4 (Av.rowAt (encRs zs) ((i : Int).toNat)) = encR t := row_encRs (by simpa using h)
theorem rget {zs : List Tr} {i : Nat} (h : i < zs.length) : ∃ k s n l, zs[i]? = some (.mk k s n l) := by
  have he := List.getElem?_eq_getElem h
  obtain ⟨k, s, n, l, e⟩ := tr_cases zs[i]
  exact ⟨k, s, n, l, by rw [he, e]⟩
theorem grow {zs : List Gl} {i : Nat} {t : Gl} (h : zs[i]? = some t) : List.take 12 (Av.rowAt (encGs zs) ((i : Int).toNat)) = encG t := row_encGs (by simpa using h)
theorem gget {zs : List Gl} {i : Nat} (h : i < zs.length) : ∃ gk ak as_ an az bk bs_ bn bz gs_ gx gg, zs[i]? = some (.mk gk (.mk ak as_ an az) (.mk bk bs_ bn bz) gs_ gx gg) := by
  have he := List.getElem?_eq_getElem h
  generalize zs[i] = t at he
  obtain ⟨gk, ⟨ak, as_, an, az⟩, ⟨bk, bs_, bn, bz⟩, gs_, gx, gg⟩ := t
  exact ⟨_, _, _, _, _, _, _, _, _, _, _, _, he⟩
abbrev mu1 (n : Nat) : List V → Nat := fun us => match us with | .int _ i :: _ => n - i.toNat | _ => 0
abbrev mu2 (n : Nat) : List V → Nat := fun us => match us with | [_, .int _ i] => n - i.toNat | _ => 0

theorem keyOf_spec (t : It) : PCalls ax 33 [.agg (encI t)] fun r => ∃ s n, r = [.agg [.str s, .int .i64 n]] := by
  obtain ⟨k, s, v, c, ty, ii, d, xs, ⟨gk, ⟨ak, as_, an, az⟩, ⟨bk, bs_, bn, bz⟩, gs_, gx, gg⟩⟩ := t
  refine keyOf.calls (K := fun r => ∃ s n, r = [.agg [.str s, .int .i64 n]]) ?_
  unfold keyOf.W
  exact ifE (fun _ => ⟨_, _, rfl⟩) (fun _ => ifE (fun _ => ⟨_, _, rfl⟩) (fun _ => ⟨_, _, rfl⟩))
theorem isin_spec (l : List ByteArray) (hl : l.length ≤ 20000) (s : ByteArray) : PCalls ax 52 [.sl 1 (rowsS l), .str s] fun r => ∃ b : Bool, r = [.bool b] ∧ (b = false → s ∉ l) := by
  refine isin.calls (K := fun r => ∃ b : Bool, r = [.bool b] ∧ (b = false → s ∉ l)) ?_
  unfold isin.W
  rw [rowsS_length]
  refine ⟨fun us => ∃ i : Nat, i ≤ l.length ∧ us = [.int .i64 i] ∧ s ∉ l.take i, mu1 l.length, ⟨0, Nat.zero_le _, rfl, by simp⟩, ?_⟩
  rintro n ⟨i, hi, e, hn⟩
  cases e
  refine ifD (fun hlt => ?_) (fun hge => ⟨false, rfl, fun _ => by rwa [List.take_of_length_le (by omega)] at hn⟩)
  have he := List.getElem?_eq_getElem (show i < l.length by omega)
  refine ⟨by omega, hlt, l[i], by rw [Int.toNat_natCast]; exact rowS he, ifB (fun _ => ⟨true, rfl, fun h => by cases h⟩) (fun h => ?_)⟩
  have h' : l[i] ≠ s := by simpa [strEq] using h
  rw [zstep (by omega)]
  refine ⟨⟨i + 1, by omega, rfl, ?_⟩, by simp only [mu1, Int.toNat_natCast]; omega⟩
  rw [List.take_add_one, he, List.mem_append, not_or]
  exact ⟨hn, fun hh => h' (List.mem_singleton.1 hh).symm⟩
theorem types_spec (its : List It) (hl : its.length ≤ 20000) (s : ByteArray) (n : Int) : PCalls ax 51 [.sl 20 (encIs its), .str s, .int .i64 n] fun r => ∃ a b, r = [.int .i64 a, .int .i64 b] := by
  refine types.calls (K := fun r => ∃ a b, r = [.int .i64 a, .int .i64 b]) ?_
  unfold types.W
  rw [encIs_length]
  refine ⟨fun us => ∃ (a b : Int) (i : Nat), i ≤ its.length ∧ us = [.int .i64 a, .int .i64 b, .int .i64 i], fun us => match us with | [_, _, .int _ i] => its.length - i.toNat | _ => 0, ⟨0, 0, 0, Nat.zero_le _, rfl⟩, ?_⟩
  rintro a' b' n3 ⟨a, b, i, hi, e⟩
  cases e
  refine ifD (fun hlt => ?_) (fun _ => ⟨_, _, rfl⟩)
  obtain ⟨k, s', v, c, ty, ii, d, xs, gk, ak, as_, an, az, bk, bs_, bn, bz, gs_, gx, gg, he⟩ := iget (its := its) (i := i) (by omega)
  refine ⟨by omega, hlt, _, _, _, _, _, _, _, _, _, _, _, _, _, _, _, _, _, _, _, _, irow he, ?_⟩
  rw [zstep (i := i) (by omega)]
  have go : ∀ a b : Int, (∃ (a2 b2 : Int) (i2 : Nat), i2 ≤ its.length ∧ [V.int .i64 a, .int .i64 b, .int .i64 ((i + 1 : Nat) : Int)] = [.int .i64 a2, .int .i64 b2, .int .i64 i2]) ∧ its.length - ((i + 1 : Nat) : Int).toNat < its.length - ((i : Nat) : Int).toNat := fun a b => ⟨⟨a, b, i + 1, by omega, rfl⟩, by simp only [Int.toNat_natCast]; omega⟩
  exact ifE (fun _ => ifB (fun _ => ifE (fun _ => go _ _) (fun _ => go _ _)) (fun _ => go _ _)) (fun _ => go _ _)
theorem count_spec (its : List It) (hl : its.length ≤ 20000) (k n : Int) (s : ByteArray) : PCalls ax 56 [.sl 20 (encIs its), .int .i64 k, .agg [.str s, .int .i64 n]] fun r => ∃ a, r = [.int .i64 a] := by
  refine count.calls (K := fun r => ∃ a, r = [.int .i64 a]) ?_
  unfold count.W
  rw [encIs_length]
  refine ⟨fun us => ∃ (a : Int) (i : Nat), i ≤ its.length ∧ us = [.int .i64 a, .int .i64 i], mu2 its.length, ⟨0, 0, Nat.zero_le _, rfl⟩, ?_⟩
  rintro a' n3 ⟨a, i, hi, e⟩
  cases e
  refine ifD (fun hlt => ?_) (fun _ => ⟨_, rfl⟩)
  obtain ⟨k', s', v, c, ty, ii, d, xs, gk, ak, as_, an, az, bk, bs_, bn, bz, gs_, gx, gg, he⟩ := iget (its := its) (i := i) (by omega)
  refine ⟨by omega, hlt, _, _, _, _, _, _, _, _, _, _, _, _, _, _, _, _, _, _, _, _, irow he, ?_⟩
  rw [zstep (i := i) (by omega)]
  have go : ∀ a : Int, (∃ (a2 : Int) (i2 : Nat), i2 ≤ its.length ∧ [V.int .i64 a, .int .i64 ((i + 1 : Nat) : Int)] = [.int .i64 a2, .int .i64 i2]) ∧ mu2 its.length [V.int .i64 a, .int .i64 ((i + 1 : Nat) : Int)] < mu2 its.length [V.int .i64 a', .int .i64 (i : Nat)] := fun a => ⟨⟨a, i + 1, by omega, rfl⟩, by simp only [mu2, Int.toNat_natCast]; omega⟩
  refine ifE (fun _ => ?_) (fun _ => go _)
  exact (keyOf_spec ⟨k', s', v, c, ty, ii, d, xs, .mk gk (.mk ak as_ an az) (.mk bk bs_ bn bz) gs_ gx gg⟩).mono fun r ⟨s2, n2, hr⟩ => ⟨_, _, hr, ifB (fun _ => go _) (fun _ => go _)⟩
theorem SameWays_spec (a b : List Bool) (ha : a.length ≤ 20000) : PCalls ax 57 [.sl 1 (rowsB a), .sl 1 (rowsB b)] fun r => ∃ b : Bool, r = [.bool b] := by
  refine SameWays.calls (K := fun r => ∃ b : Bool, r = [.bool b]) ?_
  unfold SameWays.W
  rw [rowsB_length, rowsB_length]
  refine ifNE (fun _ => ⟨_, rfl⟩) (fun heq => ?_)
  refine ⟨fun us => ∃ i : Nat, i ≤ a.length ∧ us = [.int .i64 i], mu1 a.length, ⟨0, Nat.zero_le _, rfl⟩, ?_⟩
  rintro n ⟨i, hi, e⟩
  cases e
  refine ifD (fun hlt => ?_) (fun _ => ⟨_, rfl⟩)
  have h1 := List.getElem?_eq_getElem (show i < a.length by omega)
  have h2 := List.getElem?_eq_getElem (show i < b.length by omega)
  have row : ∀ (l : List Bool) (w : Bool), l[i]? = some w → List.take 1 (Av.rowAt (rowsB l) ((i : Int).toNat)) = [.bool w] := fun l w h => by
    rw [Int.toNat_natCast, Av.rowAt, List.getD_eq_getElem?_getD, rowsB, List.getElem?_map, h]; rfl
  refine ⟨by omega, hlt, _, row _ _ h1, by omega, by omega, _, row _ _ h2, ifN (fun _ => ⟨_, rfl⟩) (fun _ => ?_)⟩
  rw [zstep (by omega)]
  exact ⟨⟨i + 1, by omega, rfl⟩, by simp only [mu1, Int.toNat_natCast]; omega⟩

/-! ### how many constructors have a key -/
theorem ctors_spec (its : List It) (hl : its.length ≤ 20000) (hw : ∀ t ∈ its, wideI 20000 t) (s : ByteArray) (n : Int) : PCalls ax 53 [.sl 20 (encIs its), .agg [.str s, .int .i64 n]] fun r => r = [.int .i64 (((allC its).filter (is s n)).length : Nat)] := by
  refine ctors.calls (K := fun r => r = [.int .i64 (((allC its).filter (is s n)).length : Nat)]) ?_
  unfold ctors.W
  rw [encIs_length]
  have hlt' : ∀ i, ((allC (its.take i)).filter (is s n)).length ≤ 400000000 := fun i => by
    have h1 := allC_len (its := its.take i) fun t ht => hw t (List.mem_of_mem_take ht)
    have h2 := List.length_filter_le (is s n) (allC (its.take i))
    have h3 : (its.take i).length ≤ 20000 := Nat.le_trans (List.length_take_le' _ _) hl
    omega
  refine ⟨fun us => ∃ i : Nat, i ≤ its.length ∧ us = [.int .i64 (((allC (its.take i)).filter (is s n)).length : Nat), .int .i64 i], mu2 its.length, ⟨0, Nat.zero_le _, rfl⟩, ?_⟩
  rintro a' n3 ⟨i, hi, e⟩
  cases e
  refine ifD (fun hlt => ?_) (fun hge => by rw [List.take_of_length_le (by omega)])
  obtain ⟨k', s', v, c, ty, ii, d, xs, gk, ak, as_, an, az, bk, bs_, bn, bz, gs_, gx, gg, he⟩ := iget (its := its) (i := i) (by omega)
  have hwt := hw _ (List.mem_of_getElem? he)
  have hstep : allC (its.take (i + 1)) = allC (its.take i) ++ ctsOf ⟨k', s', v, c, ty, ii, d, xs, .mk gk (.mk ak as_ an az) (.mk bk bs_ bn bz) gs_ gx gg⟩ := by
    rw [List.take_add_one, he]; simp [allC]
  refine ⟨by omega, hlt, _, _, _, _, _, _, _, _, _, _, _, _, _, _, _, _, _, _, _, _, irow he, ?_⟩
  dsimp only
  have hcl : c.length ≤ 20000 := hwt.ctors
  rw [zstep (i := i) (by omega)]
  refine ifNE (fun hk => ?_) (fun hk => ?_)
  · refine ⟨⟨i + 1, by omega, ?_⟩, by simp only [mu2, Int.toNat_natCast]; omega⟩
    rw [hstep, ctsOf, if_neg hk, List.append_nil]
  · rw [List.length_map]
    have hc0 : ∀ j, ((allC (its.take i)).filter (is s n)).length + ((c.take j).filter (is s n)).length ≤ 400020000 := fun j => by
      have h1 := hlt' i
      have h2 := List.length_filter_le (is s n) (c.take j)
      have h3 : (c.take j).length ≤ 20000 := Nat.le_trans (List.length_take_le' _ _) hcl
      omega
    refine ⟨fun us => ∃ j : Nat, j ≤ c.length ∧ us = [.int .i64 ((((allC (its.take i)).filter (is s n)).length + ((c.take j).filter (is s n)).length : Nat) : Int), .int .i64 j], mu2 c.length, ⟨0, Nat.zero_le _, by simp⟩, ?_⟩
    rintro a2 n4 ⟨j, hj, e⟩
    cases e
    refine ifD (fun hlt2 => ?_) (fun hge => ?_)
    · have hj' : j < c.length := by omega
      have hcj := List.getElem?_eq_getElem hj'
      have hrow : List.take 2 (Av.rowAt (c.map encC) ((j : Int).toNat)) = encC c[j] := by
        rw [Int.toNat_natCast, Av.rowAt, List.getD_eq_getElem?_getD, List.getElem?_map, hcj]; rfl
      refine ⟨by omega, hlt2, _, _, hrow, ?_⟩
      rw [encEs_length]
      have hst : ((c.take (j + 1)).filter (is s n)).length = ((c.take j).filter (is s n)).length + if is s n c[j] = true then 1 else 0 := by
        rw [List.take_add_one, hcj, List.filter_append, List.length_append]
        simp only [Option.toList_some, List.filter_cons, List.filter_nil]
        split <;> rfl
      have hc1 := hc0 j
      rw [zstep (i := j) (by omega)]
      refine ifB (fun h1 => ifE (fun h2 => ?_) (fun h2 => ?_)) (fun h1 => ?_)
      · have hi1 : is s n c[j] = true := by
          have : bs c[j].name = s := by simpa [strEq] using h1
          simp [is, this, h2]
        rw [hi1, if_pos rfl] at hst
        rw [zstep (by omega)]
        exact ⟨⟨j + 1, by omega, by rw [hst]; rfl⟩, by simp only [mu2, Int.toNat_natCast]; omega⟩
      · have hi1 : is s n c[j] = false := by simp [is, h2]
        simp only [hi1, Bool.false_eq_true, if_false, Nat.add_zero] at hst
        exact ⟨⟨j + 1, by omega, by rw [hst]⟩, by simp only [mu2, Int.toNat_natCast]; omega⟩
      · have hi1 : is s n c[j] = false := by
          have : bs c[j].name ≠ s := by simpa [strEq] using h1
          simp [is, this]
        simp only [hi1, Bool.false_eq_true, if_false, Nat.add_zero] at hst
        exact ⟨⟨j + 1, by omega, by rw [hst]⟩, by simp only [mu2, Int.toNat_natCast]; omega⟩
    · refine ⟨⟨i + 1, by omega, ?_⟩, by simp only [mu2, Int.toNat_natCast]; omega⟩
      have hcj : c.take j = c := List.take_of_length_le (by omega)
      rw [hstep, ctsOf, if_pos hk, List.filter_append, List.length_append, hcj]

/-! ### the rules that hold of nothing else here -/
theorem typ_spec (its : List It) (hl : its.length ≤ 20000) (own : Bool) (vars : List ByteArray) (hv : vars.length ≤ 20000) : ∀ x : Te, wideE 20000 x → PCalls ax 54 [.sl 20 (encIs its), .agg (encE x), .bool own, .sl 1 (rowsS vars)] fun r => ∃ b : Bool, r = [.bool b] := by
  refine Te.ind fun b s zs ih => ?_
  rintro ⟨hz, hzs⟩
  rw [wideEs_iff] at hzs
  refine typ.calls (K := fun r => ∃ b : Bool, r = [.bool b]) ?_
  unfold typ.W
  refine ifB (fun _ => ifN (fun _ => ⟨_, rfl⟩) (fun _ => ?_)) (fun _ => ?_)
  · exact (isin_spec vars hv s).mono fun r ⟨b, hr, _⟩ => ⟨b, hr, _, rfl⟩
  rw [encEs_length]
  refine (types_spec its hl s _).mono fun r ⟨a, b, hr⟩ => ⟨a, b, hr, ?_⟩
  refine ⟨fun us => ∃ b : Bool, us = [.bool b], ifD (fun _ => ⟨_, rfl⟩) (fun _ => ifB (fun _ => ⟨_, rfl⟩) (fun _ => ⟨_, rfl⟩)), ?_⟩
  intro b18 _
  refine ⟨fun us => ∃ (b : Bool) (i : Nat), i ≤ zs.length ∧ us = [.bool b, .int .i64 i], mu2 zs.length, ⟨b18, 0, Nat.zero_le _, rfl⟩, ?_⟩
  rintro b28 n29 ⟨b, i, hi, e⟩
  cases e
  refine ifD (fun hlt => ?_) (fun _ => ⟨_, rfl⟩)
  obtain ⟨b', s', l', he⟩ := eget (zs := zs) (i := i) (by omega)
  have go : ∀ b : Bool, (∃ (b2 : Bool) (i2 : Nat), i2 ≤ zs.length ∧ [V.bool b, .int .i64 ((i + 1 : Nat) : Int)] = [.bool b2, .int .i64 i2]) ∧ mu2 zs.length [V.bool b, .int .i64 ((i + 1 : Nat) : Int)] < mu2 zs.length [V.bool b28, .int .i64 (i : Nat)] := fun b => ⟨⟨b, i + 1, by omega, rfl⟩, by simp only [mu2, Int.toNat_natCast]; omega⟩
  refine ⟨by omega, hlt, _, _, _, erow he, ?_⟩
  rw [zstep (by omega)]
  refine ifB (fun _ => ?_) (fun _ => go _)
  have hm := List.mem_of_getElem? he
  exact (ih _ hm (hzs _ hm)).mono fun r ⟨b, hr⟩ => ⟨b, hr, go b⟩
theorem tterm_spec (its : List It) (hl : its.length ≤ 20000) (hw : ∀ t ∈ its, wideI 20000 t) : ∀ x : Tr, wideR 20000 x → PCalls ax 59 [.sl 20 (encIs its), .agg (encR x)] fun r => ∃ b : Bool, r = [.bool b] := by
  refine Tr.ind fun k s n zs ih => ?_
  rintro ⟨hz, hzs⟩
  rw [wideRs_iff] at hzs
  refine tterm.calls (K := fun r => ∃ b : Bool, r = [.bool b]) ?_
  unfold tterm.W
  rw [encRs_length]
  refine ⟨fun us => ∃ b : Bool, us = [.bool b], ifNE (fun _ => ⟨_, rfl⟩) (fun _ => (ctors_spec its hl hw _ _).mono fun r hr => ⟨_, hr, _, rfl⟩), ?_⟩
  intro b18 _
  refine ⟨fun us => ∃ (b : Bool) (i : Nat), i ≤ zs.length ∧ us = [.bool b, .int .i64 i], mu2 zs.length, ⟨b18, 0, Nat.zero_le _, rfl⟩, ?_⟩
  rintro b28 n29 ⟨b, i, hi, e⟩
  cases e
  refine ifD (fun hlt => ?_) (fun _ => ⟨_, rfl⟩)
  obtain ⟨k', s', n', l', he⟩ := rget (zs := zs) (i := i) (by omega)
  have go : ∀ b : Bool, (∃ (b2 : Bool) (i2 : Nat), i2 ≤ zs.length ∧ [V.bool b, .int .i64 ((i + 1 : Nat) : Int)] = [.bool b2, .int .i64 i2]) ∧ mu2 zs.length [V.bool b, .int .i64 ((i + 1 : Nat) : Int)] < mu2 zs.length [V.bool b28, .int .i64 (i : Nat)] := fun b => ⟨⟨b, i + 1, by omega, rfl⟩, by simp only [mu2, Int.toNat_natCast]; omega⟩
  refine ⟨by omega, hlt, _, _, _, _, rrow he, ?_⟩
  rw [zstep (by omega)]
  refine ifB (fun _ => ?_) (fun _ => go _)
  have hm := List.mem_of_getElem? he
  exact (ih _ hm (hzs _ hm)).mono fun r ⟨b, hr⟩ => ⟨b, hr, go b⟩
end Go.Proofs.YtahagnfdpemmaaaDoor.Va
end

/- part Y3W -/
section
namespace Go.Proofs.YtahagnfdpemmaaaDoor.Va
open Go.Vx Go.Av Go.Lx Go.Dr Go.Dm Go.RowKit

/-- the built in ones: rows of this form -/
def predRow (row : List V) : Prop := ∃ s n l1 l2 l3, row = [.str s, .int .i64 n, .sl 3 l1, .sl 2 l2, .sl 1 l3]
theorem Preds_spec : SCalls ax 31 [] [] fun r o => ∃ L : List (List V), r = [.own 0] ∧ o = [.lst 96 5 false L] ∧ L.length ≤ 7 ∧ ∀ row ∈ L, predRow row := by
  refine Preds.calls (K := fun r o => ∃ L : List (List V), r = [.own 0] ∧ o = [.lst 96 5 false L] ∧ L.length ≤ 7 ∧ ∀ row ∈ L, predRow row) ?_
  unfold Preds.W
  refine ⟨fun us => ∃ (L : List (List V)) (i : Nat), us = [.sl 5 L, .int .i64 i] ∧ i ≤ 7 ∧ L.length ≤ i ∧ ∀ row ∈ L, predRow row, mu2 7, ⟨[], 0, rfl, Nat.zero_le _, Nat.zero_le _, fun _ h => by cases h⟩, ?_⟩
  rintro l58 n59 ⟨L, i, e, hi, hL, hrow⟩
  cases e
  simp only [List.length_cons, List.length_nil]
  refine ifD (fun hlt => ?_) (fun _ => ⟨l58, trivial, rfl, by omega, hrow⟩)
  have snoc : ∀ s n l1 l2, (∃ (L : List (List V)) (j : Nat), [V.sl 5 (l58 ++ [[.str s, .int .i64 n, .sl 3 l1, .sl 2 l2, .sl 1 []]]), .int .i64 (IntKind.i64.wrap ((i : Int) + 1))] = [.sl 5 L, .int .i64 j] ∧ j ≤ 7 ∧ L.length ≤ j ∧ ∀ row ∈ L, predRow row) ∧ mu2 7 [V.sl 5 (l58 ++ [[.str s, .int .i64 n, .sl 3 l1, .sl 2 l2, .sl 1 []]]), .int .i64 (IntKind.i64.wrap ((i : Int) + 1))] < mu2 7 [V.sl 5 l58, .int .i64 (i : Nat)] := by
    intro s n l1 l2
    rw [zstep (by omega)]
    refine ⟨⟨_, i + 1, rfl, by omega, ?_, ?_⟩, by simp only [mu2, Int.toNat_natCast]; omega⟩
    · rw [List.length_append]; simp only [List.length_cons, List.length_nil]; omega
    · intro row hm
      rcases List.mem_append.1 hm with h | h
      · exact hrow row h
      · exact ⟨_, _, _, _, _, List.mem_singleton.1 h⟩
  have hg : ∃ s, List.take 1 (Av.rowAt [[(.str (⟨#[97, 100, 100]⟩ : ByteArray))], [(.str (⟨#[115, 117, 98]⟩ : ByteArray))], [(.str (⟨#[109, 117, 108]⟩ : ByteArray))], [(.str (⟨#[100, 105, 118]⟩ : ByteArray))], [(.str (⟨#[109, 111, 100]⟩ : ByteArray))], [(.str (⟨#[108, 116]⟩ : ByteArray))], [(.str (⟨#[108, 101]⟩ : ByteArray))]] ((i : Int).toNat)) = [V.str s] := by
    rw [Int.toNat_natCast]
    have : i = 0 ∨ i = 1 ∨ i = 2 ∨ i = 3 ∨ i = 4 ∨ i = 5 ∨ i = 6 := by omega
    rcases this with rfl | rfl | rfl | rfl | rfl | rfl | rfl <;> exact ⟨_, rfl⟩
  obtain ⟨s, hs⟩ := hg
  refine ⟨by omega, by omega, s, hs, ifD (fun _ => ?_) (fun _ => ?_)⟩
  · refine ⟨fun us => ∃ (j : Nat) (l1 l2 : List (List V)), us = [.int .i64 j, .str s, .int .i64 2, .sl 3 l1, .sl 2 l2] ∧ j ≤ 2 ∧ l1.length ≤ j, mu1 2, ⟨0, [], _, rfl, by omega, Nat.zero_le _⟩, ?_⟩
    rintro n69 s70 n71 l72 l73 ⟨j, l1, l2, e, hj, hl1⟩
    cases e
    refine ifD (fun hlt2 => ?_) (fun _ => ⟨by omega, by omega, snoc _ _ _ _⟩)
    rw [zstep (by omega)]
    refine ⟨by omega, by omega, ⟨j + 1, _, _, rfl, by omega, ?_⟩, by simp only [mu1, Int.toNat_natCast]; omega⟩
    rw [List.length_append]; simp only [List.length_cons, List.length_nil]; omega
  · refine ⟨fun us => ∃ (j : Nat) (l1 l2 : List (List V)), us = [.int .i64 j, .str s, .int .i64 3, .sl 3 l1, .sl 2 l2] ∧ j ≤ 3 ∧ l1.length ≤ j, mu1 3, ⟨0, [], _, rfl, by omega, Nat.zero_le _⟩, ?_⟩
    rintro n69 s70 n71 l72 l73 ⟨j, l1, l2, e, hj, hl1⟩
    cases e
    refine ifD (fun hlt2 => ?_) (fun _ => ⟨by omega, by omega, snoc _ _ _ _⟩)
    rw [zstep (by omega)]
    refine ⟨by omega, by omega, ⟨j + 1, _, _, rfl, by omega, ?_⟩, by simp only [mu1, Int.toNat_natCast]; omega⟩
    rw [List.length_append]; simp only [List.length_cons, List.length_nil]; omega
theorem Builtin_spec (s : ByteArray) (n : Int) : PCalls ax 55 [.agg [.str s, .int .i64 n]] fun r => ∃ b : Bool, r = [.bool b] := by
  refine Builtin.calls (K := fun r => ∃ b : Bool, r = [.bool b]) ?_
  unfold Builtin.W
  refine Preds_spec.mono fun r o ⟨L, hr, ho, hL, hrow⟩ => ⟨L, hr, ho, ?_⟩
  refine ⟨fun us => ∃ i : Nat, i ≤ L.length ∧ us = [.int .i64 i], mu1 L.length, ⟨0, Nat.zero_le _, rfl⟩, ?_⟩
  rintro n ⟨i, hi, e⟩
  cases e
  refine ifD (fun hlt => ?_) (fun _ => ⟨_, rfl⟩)
  have he := List.getElem?_eq_getElem (show i < L.length by omega)
  obtain ⟨s1, n1, l1, l2, l3, h1⟩ := hrow _ (List.getElem_mem (show i < L.length by omega))
  refine ⟨by omega, hlt, s1, n1, l1, l2, l3, ?_, ifB (fun _ => ⟨_, rfl⟩) (fun _ => ?_)⟩
  · rw [Int.toNat_natCast, Av.rowAt, List.getD_eq_getElem?_getD, he, Option.getD_some, h1]; rfl
  · rw [zstep (by omega)]
    exact ⟨⟨i + 1, by omega, rfl⟩, by simp only [mu1, Int.toNat_natCast]; omega⟩

theorem nodup_take {α : Type} : ∀ (l : List α), (∀ (i : Nat) x, l[i]? = some x → x ∉ l.take i) → l.Nodup
  | [], _ => List.nodup_nil
  | a :: l, h => by
    rw [List.nodup_cons]
    refine ⟨fun hm => ?_, nodup_take l fun i x hx hm => ?_⟩
    · obtain ⟨i, hi, e⟩ := List.mem_iff_getElem.1 hm
      exact h (i + 1) a (by rw [List.getElem?_cons_succ, List.getElem?_eq_getElem hi, e]) (by simp)
    · exact h (i + 1) x (by simpa using hx) (by simp [hm])
section
variable (its : List It) (hl : its.length ≤ 20000) (hw : ∀ t ∈ its, wideI 20000 t)
include hl hw
theorem tgoal_spec : ∀ g : Gl, wideG 20000 g → PCalls ax 58 [.sl 20 (encIs its), .agg (encG g)] fun r => ∃ b : Bool, r = [.bool b] := by
  refine Gl.ind fun k a b s xs gs ih => ?_
  obtain ⟨ak, as_, an, az⟩ := a
  obtain ⟨bk, bs_, bn, bz⟩ := b
  rintro ⟨ha, hb, hx, hxs, hg, hgs⟩
  rw [wideGs_iff] at hgs
  rw [wideRs_iff] at hxs
  refine tgoal.calls (K := fun r => ∃ b : Bool, r = [.bool b]) ?_
  unfold tgoal.W
  rw [encRs_length, encGs_length]
  refine ⟨fun us => ∃ b : Bool, us = [.bool b], ifE (fun _ => (Builtin_spec _ _).mono fun r ⟨b, hr⟩ => ⟨b, hr, ifB (fun _ => ⟨_, rfl⟩) (fun _ => (count_spec its hl _ _ _).mono fun r ⟨c, hr⟩ => ⟨c, hr, _, rfl⟩)⟩) (fun _ => ⟨_, rfl⟩), ?_⟩
  intro b1 _
  refine ⟨fun us => ∃ b : Bool, us = [.bool b], ifE (fun _ => (tterm_spec its hl hw _ ha).mono fun r ⟨b, hr⟩ => ⟨b, hr, ifB (fun _ => (tterm_spec its hl hw _ hb).mono fun r ⟨c, hr⟩ => ⟨c, hr, _, rfl⟩) (fun _ => ⟨_, rfl⟩)⟩) (fun _ => ⟨_, rfl⟩), ?_⟩
  intro b2 _
  refine ⟨fun us => ∃ b : Bool, us = [.bool b], ifE (fun _ => (tterm_spec its hl hw _ ha).mono fun r ⟨b, hr⟩ => ⟨b, hr, _, rfl⟩) (fun _ => ⟨_, rfl⟩), ?_⟩
  intro b3 _
  refine ⟨fun us => ∃ (b : Bool) (i : Nat), i ≤ xs.length ∧ us = [.bool b, .int .i64 i], mu2 xs.length, ⟨b3, 0, Nat.zero_le _, rfl⟩, ?_⟩
  rintro b28 n29 ⟨b, i, hi, e⟩
  cases e
  refine ifD (fun hlt => ?_) (fun _ => ?_)
  · obtain ⟨k', s', n', l', he⟩ := rget (zs := xs) (i := i) (by omega)
    have go : ∀ b : Bool, (∃ (b2 : Bool) (i2 : Nat), i2 ≤ xs.length ∧ [V.bool b, .int .i64 ((i + 1 : Nat) : Int)] = [.bool b2, .int .i64 i2]) ∧ mu2 xs.length [V.bool b, .int .i64 ((i + 1 : Nat) : Int)] < mu2 xs.length [V.bool b28, .int .i64 (i : Nat)] := fun b => ⟨⟨b, i + 1, by omega, rfl⟩, by simp only [mu2, Int.toNat_natCast]; omega⟩
    refine ⟨by omega, hlt, _, _, _, _, rrow he, ?_⟩
    rw [zstep (by omega)]
    refine ifB (fun _ => ?_) (fun _ => go _)
    have hm := List.mem_of_getElem? he
    exact (tterm_spec its hl hw _ (hxs _ hm)).mono fun r ⟨b, hr⟩ => ⟨b, hr, go b⟩
  · refine ⟨fun us => ∃ (b : Bool) (i : Nat), i ≤ gs.length ∧ us = [.bool b, .int .i64 i], mu2 gs.length, ⟨b28, 0, Nat.zero_le _, rfl⟩, ?_⟩
    rintro b94 n95 ⟨b, j, hj, e⟩
    cases e
    refine ifD (fun hlt => ?_) (fun _ => ⟨_, rfl⟩)
    obtain ⟨gk, ak', as', an', az', bk', bs', bn', bz', gs', gx, gg, he⟩ := gget (zs := gs) (i := j) (by omega)
    have go : ∀ b : Bool, (∃ (b2 : Bool) (i2 : Nat), i2 ≤ gs.length ∧ [V.bool b, .int .i64 ((j + 1 : Nat) : Int)] = [.bool b2, .int .i64 i2]) ∧ mu2 gs.length [V.bool b, .int .i64 ((j + 1 : Nat) : Int)] < mu2 gs.length [V.bool b94, .int .i64 (j : Nat)] := fun b => ⟨⟨b, j + 1, by omega, rfl⟩, by simp only [mu2, Int.toNat_natCast]; omega⟩
    refine ⟨by omega, hlt, _, _, _, _, _, _, _, _, _, _, _, _, grow he, ?_⟩
    rw [zstep (by omega)]
    refine ifB (fun _ => ?_) (fun _ => go _)
    have hm := List.mem_of_getElem? he
    exact (ih _ hm (hgs _ hm)).mono fun r ⟨b, hr⟩ => ⟨b, hr, go b⟩

/-- what a type's item is, where it is well named -/
def WellT (t : It) : Prop := t.kind = 1 → (t.vars.map bs).Nodup ∧ ∀ c ∈ t.ctors, ((allC its).filter (is (bs c.name) (c.args.length : Nat))).length = 1
theorem well_spec (n : Nat) {t : It} (ht : its[n]? = some t) : PCalls ax 32 [.sl 20 (encIs its), .int .i64 n] fun r => ∃ b : Bool, r = [.bool b] ∧ (b = true → WellT its t) := by
  have hwt := hw _ (List.mem_of_getElem? ht)
  have hlt := (List.getElem?_eq_some_iff.1 ht).1
  obtain ⟨k, s, v, c, ty, ii, d, xs, ⟨gk, ⟨ak, as_, an, az⟩, ⟨bk, bs_, bn, bz⟩, gs_, gx, gg⟩⟩ := t
  refine well.calls (K := fun r => ∃ b : Bool, r = [.bool b] ∧ (b = true → WellT its ⟨k, s, v, c, ty, ii, d, xs, .mk gk (.mk ak as_ an az) (.mk bk bs_ bn bz) gs_ gx gg⟩)) ?_
  unfold well.W
  have no : ∃ b : Bool, [V.bool false] = [.bool b] ∧ (b = true → WellT its ⟨k, s, v, c, ty, ii, d, xs, .mk gk (.mk ak as_ an az) (.mk bk bs_ bn bz) gs_ gx gg⟩) := ⟨false, rfl, fun h => by cases h⟩
  have yes : k ≠ 1 → ∃ b : Bool, [V.bool true] = [.bool b] ∧ (b = true → WellT its ⟨k, s, v, c, ty, ii, d, xs, .mk gk (.mk ak as_ an az) (.mk bk bs_ bn bz) gs_ gx gg⟩) := fun hk => ⟨true, rfl, fun _ h => absurd h hk⟩
  rw [encIs_length]
  refine ⟨by omega, by omega, _, _, _, _, _, _, _, _, _, _, _, _, _, _, _, _, _, _, _, _, irow ht, ?_⟩
  dsimp only
  refine (keyOf_spec ⟨k, s, v, c, ty, ii, d, xs, .mk gk (.mk ak as_ an az) (.mk bk bs_ bn bz) gs_ gx gg⟩).mono fun r ⟨ks, kn, hr⟩ => ⟨ks, kn, hr, ?_⟩
  refine ifE (fun hk1 => ?_) (fun hk1 => ifE (fun _ => ?_) (fun _ => ifE (fun _ => ?_) (fun _ => ifE (fun _ => ?_) (fun _ => yes hk1))))
  · -- a type
    refine (types_spec its hl _ _).mono fun r ⟨a, b, hr⟩ => ⟨a, b, hr, ifNE (fun _ => no) (fun _ => ?_)⟩
    have hvl : v.length ≤ 20000 := hwt.vars
    rw [rowsN_eq, rowsS_length, List.length_map]
    refine ⟨fun us => ∃ i : Nat, i ≤ v.length ∧ us = [.int .i64 i] ∧ ∀ j, j < i → ∀ x, (v.map bs)[j]? = some x → x ∉ (v.map bs).take j, mu1 v.length, ⟨0, Nat.zero_le _, rfl, fun j hj => by omega⟩, ?_⟩
    rintro n1 ⟨i, hi, e, hno⟩
    cases e
    refine ifD (fun hlt1 => ?_) (fun hge1 => ?_)
    · have hvi := List.getElem?_eq_getElem (show i < (v.map bs).length by rw [List.length_map]; omega)
      refine ⟨by omega, hlt1, _, by rw [Int.toNat_natCast]; exact rowS hvi, by omega, by omega, ?_⟩
      have htk : List.take ((i : Int)).toNat (rowsS (v.map bs)) = rowsS ((v.map bs).take i) := by rw [Int.toNat_natCast]; simp [rowsS, List.map_take]
      rw [htk]
      refine (isin_spec ((v.map bs).take i) (Nat.le_trans (List.length_take_le' _ _) (by rw [List.length_map]; exact hvl)) _).mono fun r ⟨b, hr, hb⟩ => ⟨b, hr, ifB (fun _ => no) (fun hbf => ?_)⟩
      rw [zstep (by omega)]
      refine ⟨⟨i + 1, by omega, rfl, fun j hj x hx => ?_⟩, by simp only [mu1, Int.toNat_natCast]; omega⟩
      rcases Nat.lt_or_ge j i with h | h
      · exact hno j h x hx
      · have : j = i := by omega
        subst this
        rw [hvi] at hx; cases hx
        exact hb hbf
    · have hnd : (v.map bs).Nodup := nodup_take _ fun j x hx => hno j (by have := (List.getElem?_eq_some_iff.1 hx).1; rw [List.length_map] at this; omega) x hx
      have hcl : c.length ≤ 20000 := hwt.ctors
      rw [List.length_map]
      refine ⟨fun us => ∃ i : Nat, i ≤ c.length ∧ us = [.int .i64 i] ∧ ∀ x ∈ c.take i, ((allC its).filter (is (bs x.name) (x.args.length : Nat))).length = 1, mu1 c.length, ⟨0, Nat.zero_le _, rfl, fun x hx => by simp at hx⟩, ?_⟩
      rintro n2 ⟨j, hj, e, hone⟩
      cases e
      refine ifD (fun hlt2 => ?_) (fun hge2 => ⟨true, rfl, fun _ _ => ⟨hnd, by rwa [List.take_of_length_le (by omega)] at hone⟩⟩)
      have hcj := List.getElem?_eq_getElem (show j < c.length by omega)
      have hrow : List.take 2 (Av.rowAt (c.map encC) ((j : Int).toNat)) = encC c[j] := by
        rw [Int.toNat_natCast, Av.rowAt, List.getD_eq_getElem?_getD, List.getElem?_map, hcj]; rfl
      refine ⟨by omega, hlt2, _, _, hrow, ?_⟩
      rw [encEs_length]
      obtain ⟨hal, haw⟩ := hwt.ctor _ (List.getElem_mem (show j < c.length by omega))
      rw [wideEs_iff] at haw
      refine (ctors_spec its hl hw _ _).mono fun r hr => ⟨_, hr, ifNE (fun _ => no) (fun h1 => ?_)⟩
      refine ⟨fun us => ∃ i : Nat, i ≤ c[j].args.length ∧ us = [.int .i64 i], mu1 c[j].args.length, ⟨0, Nat.zero_le _, rfl⟩, ?_⟩
      rintro n3 ⟨q, hq, e⟩
      cases e
      refine ifD (fun hlt3 => ?_) (fun _ => ?_)
      · obtain ⟨b', s', l', he⟩ := eget (zs := c[j].args) (i := q) (by omega)
        refine ⟨by omega, hlt3, _, _, _, erow he, ?_⟩
        refine (typ_spec its hl true (v.map bs) (by rw [List.length_map]; exact hvl) _ (haw _ (List.mem_of_getElem? he))).mono fun r ⟨b, hr⟩ => ⟨b, hr, ifN (fun _ => no) (fun _ => ?_)⟩
        rw [zstep (by omega)]
        exact ⟨⟨q + 1, by omega, rfl⟩, by simp only [mu1, Int.toNat_natCast]; omega⟩
      · rw [zstep (by omega)]
        refine ⟨⟨j + 1, by omega, rfl, fun x hx => ?_⟩, by simp only [mu1, Int.toNat_natCast]; omega⟩
        rw [List.take_add_one, hcj] at hx
        rcases List.mem_append.1 hx with h | h
        · exact hone x h
        · have : x = c[j] := by simpa using h
          rw [this]; omega
  · -- a predicate
    refine (Builtin_spec _ _).mono fun r ⟨b, hr⟩ => ⟨b, hr, ifB (fun _ => no) (fun _ => ?_)⟩
    refine (count_spec its hl _ _ _).mono fun r ⟨a, hr⟩ => ⟨a, hr, ifNE (fun _ => no) (fun _ => ?_)⟩
    refine (count_spec its hl _ _ _).mono fun r ⟨a, hr⟩ => ⟨a, hr, ifE (fun _ => no) (fun _ => ?_)⟩
    rw [encEs_length]
    have htl : ty.length ≤ 20000 := hwt.types
    have hty := (wideEs_iff _).1 hwt.type
    refine ⟨fun us => ∃ i : Nat, i ≤ ty.length ∧ us = [.int .i64 i], mu1 ty.length, ⟨0, Nat.zero_le _, rfl⟩, ?_⟩
    rintro n3 ⟨q, hq, e⟩
    cases e
    refine ifD (fun hlt3 => ?_) (fun _ => yes hk1)
    obtain ⟨b', s', l', he⟩ := eget (zs := ty) (i := q) (by omega)
    refine ⟨by omega, hlt3, _, _, _, erow he, ?_⟩
    refine (typ_spec its hl false [] (Nat.zero_le _) _ (hty _ (List.mem_of_getElem? he))).mono fun r ⟨b, hr⟩ => ⟨b, hr, ifN (fun _ => no) (fun _ => ?_)⟩
    rw [zstep (by omega)]
    exact ⟨⟨q + 1, by omega, rfl⟩, by simp only [mu1, Int.toNat_natCast]; omega⟩
  · -- a mode
    refine (Builtin_spec _ _).mono fun r ⟨b, hr⟩ => ⟨b, hr, ifB (fun _ => no) (fun _ => ?_)⟩
    refine (count_spec its hl _ _ _).mono fun r ⟨a, hr⟩ => ⟨a, hr, ifE (fun _ => no) (fun _ => ?_)⟩
    refine ⟨fun us => ∃ i : Nat, i ≤ its.length ∧ us = [.int .i64 i], mu1 its.length, ⟨0, Nat.zero_le _, rfl⟩, ?_⟩
    rintro n3 ⟨q, hq, e⟩
    cases e
    refine ifD (fun hlt3 => ?_) (fun _ => yes hk1)
    obtain ⟨k', s', v', c', ty', ii', d', xs', gk', ak', as', an', az', bk', bs', bn', bz', gs', gx', gg', he⟩ := iget (its := its) (i := q) (by omega)
    have hwq := hw _ (List.mem_of_getElem? he)
    refine ⟨by omega, hlt3, _, _, _, _, _, _, _, _, _, _, _, _, _, _, _, _, _, _, _, _, irow he, ?_⟩
    dsimp only
    rw [zstep (i := q) (by omega)]
    have go : (∃ i : Nat, i ≤ its.length ∧ [V.int .i64 ((q + 1 : Nat) : Int)] = [.int .i64 i]) ∧ mu1 its.length [V.int .i64 ((q + 1 : Nat) : Int)] < mu1 its.length [V.int .i64 (q : Nat)] := ⟨⟨q + 1, by omega, rfl⟩, by simp only [mu1, Int.toNat_natCast]; omega⟩
    refine ifNE (fun _ => ifE (fun _ => ?_) (fun _ => go)) (fun _ => go)
    refine (keyOf_spec ⟨k', s', v', c', ty', ii', d', xs', .mk gk' (.mk ak' as' an' az') (.mk bk' bs' bn' bz') gs' gx' gg'⟩).mono fun r ⟨s2, n2, hr⟩ => ⟨_, _, hr, ifB (fun _ => ?_) (fun _ => go)⟩
    exact (SameWays_spec ii' ii hwq.ins).mono fun r ⟨b, hr⟩ => ⟨b, hr, ifB (fun _ => no) (fun _ => go)⟩
  · -- a clause
    refine (Builtin_spec _ _).mono fun r ⟨b, hr⟩ => ⟨b, hr, ifB (fun _ => no) (fun _ => ?_)⟩
    refine (count_spec its hl _ _ _).mono fun r ⟨a, hr⟩ => ⟨a, hr, ifE (fun _ => no) (fun _ => ?_)⟩
    refine (tgoal_spec its hl hw _ hwt.body).mono fun r ⟨b, hr⟩ => ⟨b, hr, ifN (fun _ => no) (fun _ => ?_)⟩
    rw [encRs_length]
    have hxl : xs.length ≤ 20000 := hwt.args
    have hxs := (wideRs_iff _).1 hwt.arg
    refine ⟨fun us => ∃ i : Nat, i ≤ xs.length ∧ us = [.int .i64 i], mu1 xs.length, ⟨0, Nat.zero_le _, rfl⟩, ?_⟩
    rintro n3 ⟨q, hq, e⟩
    cases e
    refine ifD (fun hlt3 => ?_) (fun _ => yes hk1)
    obtain ⟨k', s', n', l', he⟩ := rget (zs := xs) (i := q) (by omega)
    refine ⟨by omega, hlt3, _, _, _, _, rrow he, ?_⟩
    refine (tterm_spec its hl hw _ (hxs _ (List.mem_of_getElem? he))).mono fun r ⟨b, hr⟩ => ⟨b, hr, ifN (fun _ => no) (fun _ => ?_)⟩
    rw [zstep (by omega)]
    exact ⟨⟨q + 1, by omega, rfl⟩, by simp only [mu1, Int.toNat_natCast]; omega⟩
end
end Go.Proofs.YtahagnfdpemmaaaDoor.Va
end

/- part Y3X -/
section
namespace Go.Dm
open Go.Av Go.Lx Go.Dr Go.Uni
def mkK (t : It) (i : Nat) (c : Cd) : Ct := ⟨bs c.name, bs t.name, t.vars.map bs, c.args, i⟩
def ctK (t : It) : List Ct := if t.kind = 1 then t.ctors.mapIdx (mkK t) else []
def allK (its : List It) : List Ct := its.flatMap ctK
theorem ctK_keys (t : It) : (ctK t).map key = (ctsOf t).map ckey := by
  unfold ctK ctsOf
  split
  · apply List.ext_getElem?
    intro i
    rw [List.getElem?_map, List.getElem?_mapIdx, List.getElem?_map]
    cases t.ctors[i]? <;> rfl
  · rfl
theorem allK_keys (its : List It) : (allK its).map key = (allC its).map ckey := by
  induction its with
  | nil => rfl
  | cons t r ih =>
    simp only [allK, allC, List.flatMap_cons, List.map_append] at ih ⊢
    rw [ctK_keys, ih]
theorem allK_len (its : List It) : (allK its).length = (allC its).length := by
  have := congrArg List.length (allK_keys its)
  simpa using this
theorem ctK_mem {t : It} {c : Ct} (h : c ∈ ctK t) : t.kind = 1 ∧ ∃ d ∈ t.ctors, ∃ i : Nat, c = mkK t i d := by
  unfold ctK at h
  split at h
  · rename_i hk
    obtain ⟨i, hi⟩ := List.getElem?_of_mem h
    rw [List.getElem?_mapIdx, Option.map_eq_some_iff] at hi
    obtain ⟨d, hd, e⟩ := hi
    exact ⟨hk, d, List.mem_of_getElem? hd, i, e.symm⟩
  · cases h
theorem goodX_of {its : List It} (hl : its.length ≤ 20000) (hw : ∀ t ∈ its, wideI 20000 t) (h : ∀ t ∈ its, t.kind = 1 → (t.vars.map bs).Nodup ∧ ∀ c ∈ t.ctors, ((allC its).filter (is (bs c.name) (c.args.length : Nat))).length = 1) : GoodX (allK its) := by
  refine ⟨?_, ?_, fun c hc => ?_⟩
  · rw [allK_keys]
    refine nodup_of_one ckey (allC its) fun x hx => ?_
    obtain ⟨t, ht, hx⟩ := List.mem_flatMap.1 hx
    unfold ctsOf at hx
    split at hx
    · rename_i hk
      have := (h t ht hk).2 x hx
      have e : (fun y => decide (ckey y = ckey x)) = is (bs x.name) (x.args.length : Nat) := by
        funext y
        simp only [is, ckey, Prod.mk.injEq]
        exact decide_eq_decide.2 (and_congr Iff.rfl (by omega))
      rw [e]; exact this
    · cases hx
  · rw [allK_len]
    have := allC_len hw
    omega
  · obtain ⟨t, ht, hc⟩ := List.mem_flatMap.1 hc
    obtain ⟨hk, d, hd, i, rfl⟩ := ctK_mem hc
    have hwt := hw t ht
    have hwd := hwt.ctor d hd
    exact ⟨(h t ht hk).1, by show (t.vars.map bs).length ≤ _; rw [List.length_map]; exact hwt.vars, hwd.1, hwd.2⟩
end Go.Dm
namespace Go.Proofs.YtahagnfdpemmaaaDoor.Va
open Go.Vx Go.Av Go.Lx Go.Dr Go.Dm Go.RowKit

theorem Resolve_spec (its : List It) (hl : its.length ≤ 20000) (hw : ∀ t ∈ its, wideI 20000 t) : PCalls ax 13 [.sl 20 (encIs its)] fun r => ∃ (T P : List (List V)) (cs : List Ct) (b : Bool), r = [.agg [.sl 20 T, .sl 6 (encKs cs), .sl 5 P], .bool b] ∧ (b = true → GoodX cs) := by
  refine Resolve.calls (K := fun r => ∃ (T P : List (List V)) (cs : List Ct) (b : Bool), r = [.agg [.sl 20 T, .sl 6 (encKs cs), .sl 5 P], .bool b] ∧ (b = true → GoodX cs)) ?_
  unfold Resolve.W
  refine Preds_spec.mono fun r o ⟨L, hr, ho, hL, _⟩ => ⟨L, hr, ho, ?_⟩
  rw [encIs_length]
  refine ⟨fun us => ∃ (i : Nat) (T P : List (List V)), us = [.int .i64 i, .sl 20 T, .sl 6 (encKs (allK (its.take i))), .sl 5 P] ∧ i ≤ its.length ∧ T.length ≤ i ∧ P.length ≤ i + 7 ∧ ∀ t ∈ its.take i, WellT its t, mu1 its.length, ⟨0, [], L, rfl, Nat.zero_le _, Nat.zero_le _, by omega, fun t h => by simp at h⟩, ?_⟩
  rintro n591 l592 l593 l594 ⟨i, T, P, e, hi, hT, hP, hall⟩
  cases e
  refine ifD (fun hlt => ?_) (fun hge => ⟨l592, l594, allK its, true, by rw [List.take_of_length_le (by omega)], fun _ => goodX_of hl hw fun t ht => hall t (by rwa [List.take_of_length_le (by omega)])⟩)
  obtain ⟨k, s, v, c, ty, ii, d, xs, gk, ak, as_, an, az, bk, bs_, bn, bz, gs_, gx, gg, he⟩ := iget (its := its) (i := i) (by omega)
  have hwt := hw _ (List.mem_of_getElem? he)
  have hstep : allK (its.take (i + 1)) = allK (its.take i) ++ ctK ⟨k, s, v, c, ty, ii, d, xs, .mk gk (.mk ak as_ an az) (.mk bk bs_ bn bz) gs_ gx gg⟩ := by
    rw [List.take_add_one, he]; simp [allK]
  have hbase : (allK (its.take i)).length ≤ 400000000 := by
    rw [allK_len]
    have h1 := allC_len (its := its.take i) fun t ht => hw t (List.mem_of_mem_take ht)
    have h3 : (its.take i).length ≤ 20000 := Nat.le_trans (List.length_take_le' _ _) hl
    omega
  refine ⟨by omega, hlt, _, _, _, _, _, _, _, _, _, _, _, _, _, _, _, _, _, _, _, _, irow he, ?_⟩
  dsimp only
  refine (well_spec its hl hw i he).mono fun r ⟨b, hr, hb⟩ => ⟨b, hr, ifN (fun _ => ⟨[], [], [], false, rfl, fun h => by cases h⟩) (fun hbt => ?_)⟩
  have hall' : ∀ t ∈ its.take (i + 1), WellT its t := fun t ht => by
    rw [List.take_add_one, he] at ht
    rcases List.mem_append.1 ht with h | h
    · exact hall t h
    · rw [List.mem_singleton.1 (show t ∈ [_] from h)]; exact hb hbt
  rw [zstep (i := i) (by omega)]
  have go : ∀ (T' P' : List (List V)), T'.length ≤ i + 1 → P'.length ≤ i + 8 → (∃ (i2 : Nat) (T P : List (List V)), [V.int .i64 ((i + 1 : Nat) : Int), .sl 20 T', .sl 6 (encKs (allK (its.take (i + 1)))), .sl 5 P'] = [.int .i64 i2, .sl 20 T, .sl 6 (encKs (allK (its.take i2))), .sl 5 P] ∧ i2 ≤ its.length ∧ T.length ≤ i2 ∧ P.length ≤ i2 + 7 ∧ ∀ t ∈ its.take i2, WellT its t) :=
    fun T' P' h1 h2 => ⟨i + 1, T', P', rfl, by omega, h1, by omega, hall'⟩
  have hmu : ∀ (A B C A' B' C' : V), mu1 its.length [V.int .i64 ((i + 1 : Nat) : Int), A, B, C] < mu1 its.length [V.int .i64 (i : Nat), A', B', C'] := fun A B C A' B' C' => by simp only [mu1, Int.toNat_natCast]; omega
  refine ifE (fun hk => ?_) (fun hk => ?_)
  · -- a type
    have hcl : c.length ≤ 20000 := hwt.ctors
    have hck : ctK ⟨k, s, v, c, ty, ii, d, xs, .mk gk (.mk ak as_ an az) (.mk bk bs_ bn bz) gs_ gx gg⟩ = c.mapIdx (mkK ⟨k, s, v, c, ty, ii, d, xs, .mk gk (.mk ak as_ an az) (.mk bk bs_ bn bz) gs_ gx gg⟩) := by rw [ctK, if_pos hk]
    rw [hck] at hstep
    rw [List.length_map]
    refine ⟨?_, ?_, fun us => ∃ j : Nat, j ≤ c.length ∧ us = [.int .i64 j, .sl 6 (encKs (allK (its.take i) ++ (c.mapIdx (mkK ⟨k, s, v, c, ty, ii, d, xs, .mk gk (.mk ak as_ an az) (.mk bk bs_ bn bz) gs_ gx gg⟩)).take j))], mu1 c.length, ⟨0, Nat.zero_le _, by simp⟩, ?_⟩
    · simp only [List.length_cons, List.length_nil]; omega
    · simp only [List.length_cons, List.length_nil]; omega
    rintro n648 l649 ⟨j, hj, e⟩
    cases e
    refine ifD (fun hlt2 => ?_) (fun hge2 => ⟨?_, hmu _ _ _ _ _ _⟩)
    · have hcj := List.getElem?_eq_getElem (show j < c.length by omega)
      have hrow : List.take 2 (Av.rowAt (c.map encC) ((j : Int).toNat)) = encC c[j] := by
        rw [Int.toNat_natCast, Av.rowAt, List.getD_eq_getElem?_getD, List.getElem?_map, hcj]; rfl
      refine ⟨by omega, hlt2, _, _, hrow, ?_⟩
      rw [encEs_length, encKs_length, List.length_append]
      have htl : ((c.mapIdx (mkK ⟨k, s, v, c, ty, ii, d, xs, .mk gk (.mk ak as_ an az) (.mk bk bs_ bn bz) gs_ gx gg⟩)).take j).length ≤ 20000 := Nat.le_trans (List.length_take_le' _ _) (by rw [List.length_mapIdx]; exact hcl)
      rw [zstep (i := j) (by omega)]
      refine ⟨?_, ?_, ⟨j + 1, by omega, ?_⟩, by simp only [mu1, Int.toNat_natCast]; omega⟩
      · simp only [List.length_cons, List.length_nil]; omega
      · simp only [List.length_cons, List.length_nil]; omega
      · rw [List.take_add_one, List.getElem?_mapIdx, hcj, ← List.append_assoc]
        simp only [encKs, List.map_append, Option.map_some, Option.toList_some, List.map_cons, List.map_nil, encK, mkK, ← rowsN_eq]
    · have htk : (c.mapIdx (mkK ⟨k, s, v, c, ty, ii, d, xs, .mk gk (.mk ak as_ an az) (.mk bk bs_ bn bz) gs_ gx gg⟩)).take j = c.mapIdx (mkK ⟨k, s, v, c, ty, ii, d, xs, .mk gk (.mk ak as_ an az) (.mk bk bs_ bn bz) gs_ gx gg⟩) := List.take_of_length_le (by rw [List.length_mapIdx]; omega)
      rw [htk, ← hstep]
      exact go _ _ (by rw [List.length_append]; simp only [List.length_cons, List.length_nil]; omega) (by omega)
  have hck : ctK ⟨k, s, v, c, ty, ii, d, xs, .mk gk (.mk ak as_ an az) (.mk bk bs_ bn bz) gs_ gx gg⟩ = [] := by rw [ctK, if_neg hk]
  rw [hck, List.append_nil] at hstep
  rw [← hstep]
  refine ifE (fun hk2 => ?_) (fun hk2 => ⟨go _ _ (by omega) (by omega), hmu _ _ _ _ _ _⟩)
  -- a predicate
  refine ⟨?_, ?_⟩ <;>
  · refine (keyOf_spec ⟨k, s, v, c, ty, ii, d, xs, .mk gk (.mk ak as_ an az) (.mk bk bs_ bn bz) gs_ gx gg⟩).mono fun r ⟨ks, kn, hr⟩ => ⟨ks, kn, hr, ?_⟩
    refine ⟨fun us => ∃ (j : Nat) (m q : List (List V)), us = [.int .i64 j, .str ks, .int .i64 kn, .sl 3 (encEs ty), .sl 2 m, .sl 1 q] ∧ j ≤ its.length ∧ m.length ≤ j ∧ q.length ≤ j, mu1 its.length, ⟨0, [], [], rfl, Nat.zero_le _, Nat.zero_le _, Nat.zero_le _⟩, ?_⟩
    rintro n728 s729 n730 l731 l732 l733 ⟨j, m, q, e, hj, hm, hq⟩
    cases e
    refine ifD (fun hlt2 => ?_) (fun _ => ⟨?_, ?_, go _ _ (by omega) ?_, hmu _ _ _ _ _ _⟩)
    · obtain ⟨k', s', v', c', ty', ii', d', xs', gk', ak', as', an', az', bk', bs', bn', bz', gs', gx', gg', he'⟩ := iget (its := its) (i := j) (by omega)
      refine ⟨by omega, hlt2, _, _, _, _, _, _, _, _, _, _, _, _, _, _, _, _, _, _, _, _, irow he', ?_⟩
      dsimp only
      rw [zstep (i := j) (by omega)]
      have go2 : ∀ (m' q' : List (List V)), m'.length ≤ j + 1 → q'.length ≤ j + 1 → (∃ (j2 : Nat) (m q : List (List V)), [V.int .i64 ((j + 1 : Nat) : Int), .str ks, .int .i64 kn, .sl 3 (encEs ty), .sl 2 m', .sl 1 q'] = [.int .i64 j2, .str ks, .int .i64 kn, .sl 3 (encEs ty), .sl 2 m, .sl 1 q] ∧ j2 ≤ its.length ∧ m.length ≤ j2 ∧ q.length ≤ j2) ∧ mu1 its.length [V.int .i64 ((j + 1 : Nat) : Int), .str ks, .int .i64 kn, .sl 3 (encEs ty), .sl 2 m', .sl 1 q'] < mu1 its.length [V.int .i64 (j : Nat), .str ks, .int .i64 kn, .sl 3 (encEs ty), .sl 2 l732, .sl 1 l733] :=
        fun m' q' h1 h2 => ⟨⟨j + 1, m', q', rfl, by omega, h1, h2⟩, by simp only [mu1, Int.toNat_natCast]; omega⟩
      have hk' := keyOf_spec ⟨k', s', v', c', ty', ii', d', xs', .mk gk' (.mk ak' as' an' az') (.mk bk' bs' bn' bz') gs' gx' gg'⟩
      have l1 : ∀ row : List V, (l732 ++ [row]).length ≤ j + 1 := fun row => by rw [List.length_append]; simp only [List.length_cons, List.length_nil]; omega
      have l2 : ∀ row : List V, (l733 ++ [row]).length ≤ j + 1 := fun row => by rw [List.length_append]; simp only [List.length_cons, List.length_nil]; omega
      have b1 : l732.length + 1 ≤ 100000 ∧ l733.length + 1 ≤ 100000 := by omega
      refine ifE (fun _ => hk'.mono fun r ⟨s2, n2, hr⟩ => ⟨_, _, hr, ifB (fun _ => ⟨?_, ?_, ?_⟩) (fun _ => ?_)⟩) (fun _ => ?_)
      · simp only [List.length_cons, List.length_nil]; omega
      · simp only [List.length_cons, List.length_nil]; omega
      · refine ifE (fun _ => hk'.mono fun r ⟨s2, n2, hr⟩ => ⟨_, _, hr, ifB (fun _ => ⟨?_, ?_, go2 _ _ (l1 _) (l2 _)⟩) (fun _ => go2 _ _ (l1 _) (by omega))⟩) (fun _ => go2 _ _ (l1 _) (by omega))
        · simp only [List.length_cons, List.length_nil]; omega
        · simp only [List.length_cons, List.length_nil]; omega
      · refine ifE (fun _ => hk'.mono fun r ⟨s2, n2, hr⟩ => ⟨_, _, hr, ifB (fun _ => ⟨?_, ?_, go2 _ _ (by omega) (l2 _)⟩) (fun _ => go2 _ _ (by omega) (by omega))⟩) (fun _ => go2 _ _ (by omega) (by omega))
        · simp only [List.length_cons, List.length_nil]; omega
        · simp only [List.length_cons, List.length_nil]; omega
      · refine ifE (fun _ => hk'.mono fun r ⟨s2, n2, hr⟩ => ⟨_, _, hr, ifB (fun _ => ⟨?_, ?_, go2 _ _ (by omega) (l2 _)⟩) (fun _ => go2 _ _ (by omega) (by omega))⟩) (fun _ => go2 _ _ (by omega) (by omega))
        · simp only [List.length_cons, List.length_nil]; omega
        · simp only [List.length_cons, List.length_nil]; omega
    · simp only [List.length_cons, List.length_nil]; omega
    · simp only [List.length_cons, List.length_nil]; omega
    · rw [List.length_append]; simp only [List.length_cons, List.length_nil]; omega

/-- **Named**: what it answers is an index whose constructors are well named. -/
theorem Named_spec (l : List UInt8) : PCalls ax 5 [.str (bs l)] fun r => ∃ (Z T P : List (List V)) (cs : List Ct) (b : Bool), r = [.sl 20 Z, .agg [.sl 20 T, .sl 6 (encKs cs), .sl 5 P], .bool b] ∧ (b = true → GoodX cs) := by
  refine Named.calls (K := fun r => ∃ (Z T P : List (List V)) (cs : List Ct) (b : Bool), r = [.sl 20 Z, .agg [.sl 20 T, .sl 6 (encKs cs), .sl 5 P], .bool b] ∧ (b = true → GoodX cs)) ?_
  unfold Named.W
  refine (Source_spec l).mono fun r ⟨its, n, hr, hl, hw⟩ => ⟨_, _, hr, ifNE (fun _ => ⟨[], [], [], [], false, rfl, fun h => by cases h⟩) (fun _ => ?_)⟩
  exact (Resolve_spec its hl hw).mono fun r ⟨T, P, cs, b, hr, hb⟩ => ⟨_, _, _, _, hr, _, T, P, cs, b, rfl, hb⟩
end Go.Proofs.YtahagnfdpemmaaaDoor.Va
end
