/- Data: the document's reader of bytes. -/
import Derived.Test.YtkplhlciocbecaaDoorD1I
import Derived.Test.YtkplhlciocbecaaDoorD1G
namespace Go.Vx.Da
open Go.RowKit

/-- a slice that holds bytes -/
def Bsl (B : Nat) (w : World) (a : Option Addr) (L : List UInt8) (c : Nat) : Prop := L.length ≤ c ∧ (0 < L.length → ∃ b o, a = some ⟨b, o, none⟩ ∧ b < B ∧ cellsAt w b o (bv L))

theorem bv_drop (l : List UInt8) (n : Nat) : bv (l.drop n) = (bv l).drop n := by simp [bv]
theorem bv_take (l : List UInt8) (n : Nat) : bv (l.take n) = (bv l).take n := by simp [bv]
theorem cellsAt_drop {w : World} {b : Nat} : ∀ {vs : List Value} {o : Nat} (n : Nat), cellsAt w b o vs → cellsAt w b (o + n) (vs.drop n)
  | _, _, 0, h => by simpa using h
  | [], _, _ + 1, _ => by simp [cellsAt]
  | _ :: _, o, n + 1, h => by
    have := cellsAt_drop n h.2
    rw [show o + (n + 1) = o + 1 + n by omega]; simpa using this
theorem cellsAt_take {w : World} {b : Nat} : ∀ {vs : List Value} {o : Nat} (n : Nat), cellsAt w b o vs → cellsAt w b o (vs.take n)
  | _, _, 0, _ => by simp [cellsAt]
  | [], _, _ + 1, _ => by simp [cellsAt]
  | _ :: _, _, n + 1, h => ⟨h.1, cellsAt_take n h.2⟩

theorem Bsl.kept {B : Nat} {w w' : World} {a : Option Addr} {L : List UInt8} {c : Nat} (h : Bsl B w a L c) (hb : ∀ k, k < B → w'.heap[k]? = w.heap[k]?) : Bsl B w' a L c :=
  ⟨h.1, fun h0 => by obtain ⟨b, o, h1, h2, h3⟩ := h.2 h0; exact ⟨b, o, h1, h2, cellsAt_same (hb b h2) h3⟩⟩
theorem Bsl.get {B : Nat} {w : World} {a : Option Addr} {L : List UInt8} {c : Nat} (h : Bsl B w a L c) {i : Nat} (hi : i < L.length) : ∃ b o, a = some ⟨b, o, none⟩ ∧ ∀ z : Int, z = i → w.cell? ⟨b, o + z.toNat * 1, none⟩ = some (.int .u8 (L[i].toNat : Int)) := by
  obtain ⟨b, o, h1, h2, h3⟩ := h.2 (by omega)
  refine ⟨b, o, h1, fun z hz => ?_⟩
  subst hz
  rw [Int.toNat_natCast, Nat.mul_one]
  exact cellsAt_cell h3 (by simp [bv, List.getElem?_eq_getElem hi])
theorem Bsl.cut {B : Nat} {w : World} {a : Option Addr} {L : List UInt8} {c : Nat} (h : Bsl B w a L c) (n : Nat) : Bsl B w (cutA a n c 1) (L.drop n) (c - n) := by
  have hc := h.1
  refine ⟨by simp; omega, fun h0 => ?_⟩
  rw [List.length_drop] at h0
  obtain ⟨b, o, h1, h2, h3⟩ := h.2 (by omega)
  refine ⟨b, o + n, ?_, h2, ?_⟩
  · rw [cutA, if_neg (by omega), h1]; simp [Addr.add]
  · rw [bv_drop]; exact cellsAt_drop n h3
theorem Bsl.head {B : Nat} {w : World} {a : Option Addr} {L : List UInt8} {c : Nat} (h : Bsl B w a L c) (n m : Nat) (hm : m ≤ n) (_ : n ≤ c) : Bsl B w (cutA a 0 n 1) (L.take m) n := by
  refine ⟨by simp; omega, fun h0 => ?_⟩
  rw [List.length_take] at h0
  obtain ⟨b, o, h1, h2, h3⟩ := h.2 (by omega)
  refine ⟨b, o, ?_, h2, ?_⟩
  · rw [cutA, if_neg (by omega), h1]; simp [Addr.add]
  · rw [bv_take]; exact cellsAt_take m h3

theorem gr_0 {k : Nat} {h : UInt8} {l : List UInt8} (h0 : h.toNat = 0) (hl : l.length < 8) : gr (k + 1) (h :: l) = none := by simp only [gr]; rw [if_pos h0, if_pos hl]
theorem gr_00 {k : Nat} {h : UInt8} {l : List UInt8} (h0 : h.toNat = 0) (hl : 8 ≤ l.length) : gr (k + 1) (h :: l) = some (⟨false, IntKind.i64.wrap (num8 (l.take 8)), ⟨#[]⟩, []⟩, l.drop 8) := by simp only [gr]; rw [if_pos h0, if_neg (by omega)]
theorem gr_2 {k : Nat} {h : UInt8} {l : List UInt8} (h0 : h.toNat ≠ 0) (h1 : h.toNat ≠ 1) : gr (k + 1) (h :: l) = none := by simp only [gr]; rw [if_neg h0, if_neg h1]
theorem gr_1 {k : Nat} {h : UInt8} (h0 : h.toNat ≠ 0) : gr (k + 1) [h] = none := by simp only [gr]; rw [if_neg h0]; split <;> rfl
theorem gr_1s {k : Nat} {h s : UInt8} {l : List UInt8} (h0 : h.toNat ≠ 0) (hs : s.toNat < 1 ∨ 32 < s.toNat ∨ l.length ≤ s.toNat) : gr (k + 1) (h :: s :: l) = none := by
  simp only [gr]; rw [if_neg h0]
  split
  · split
    · rfl
    · rename_i hn
      have : l.drop s.toNat = [] := List.drop_eq_nil_of_le (by omega)
      rw [this]
  · rfl
theorem gr_1c {k : Nat} {h s c : UInt8} {l q : List UInt8} (h0 : h.toNat ≠ 0) (hq : l.drop s.toNat = c :: q) (hc : 8 < c.toNat) : gr (k + 1) (h :: s :: l) = none := by
  simp only [gr]; rw [if_neg h0]
  split
  · split
    · rfl
    · rw [hq]; show (if 8 < c.toNat then _ else _) = _; rw [if_pos hc]
  · rfl

theorem drop_gr {k : Nat} {L rest r : List UInt8} {at' : Nat} {d : D} (h : gr k rest = some (d, r)) (hd : L.drop at' = rest) : L.drop (L.length - r.length) = r ∧ r.length ≤ L.length := by
  obtain ⟨bs, _, e, _⟩ := gr_enc _ h
  have hL : L = (L.take at' ++ bs) ++ r := by rw [List.append_assoc, ← e, ← hd, List.take_append_drop]
  have hlen := congrArg List.length hL
  simp only [List.length_append] at hlen
  refine ⟨?_, by omega⟩
  rw [show L.length - r.length = (L.take at' ++ bs).length by rw [List.length_append]; omega]
  have := List.drop_left (l₁ := L.take at' ++ bs) (l₂ := r)
  rw [← hL] at this
  exact this

def GetPost (w : World) (k : Nat) (l : List UInt8) (n : Nat) (p : Int) (v : Value) (w' : World) : Prop :=
  Below w.heap.size w w' ∧ ((∃ d r vs, gr k l = some (d, r) ∧ p + depth d ≤ 201 ∧ v = .tuple #[.agg vs.toArray, .int .i64 ((n - r.length : Nat) : Int)] ∧ RepI (fun b => w.heap.size ≤ b ∧ b < w'.heap.size) w' d vs) ∨
    ((∀ d r, gr k l = some (d, r) → 201 < p + depth d) ∧ v = .tuple #[.agg #[.bool false, .int .i64 0, .string ⟨#[]⟩, .slice none 0 0], .int .i64 (-1)]))

theorem depth_pos (d : D) : 1 ≤ depth d := by
  cases hc : d.ctor with
  | true => rw [depth_ctor hc]; omega
  | false => rw [depth_int hc]; exact Nat.le_refl _
theorem depthL_append (a b : List D) : depthL (a ++ b) = max (depthL a) (depthL b) := by
  induction a with
  | nil => simp [depthL]
  | cons x a ih => simp only [List.cons_append, depthL, ih]; omega
theorem nodesL_append (a b : List D) : nodesL (a ++ b) = nodesL a + nodesL b := by
  induction a with
  | nil => simp [nodesL]
  | cons x a ih => simp only [List.cons_append, nodesL, ih]; omega
theorem many_snoc {f : List UInt8 → Option (D × List UInt8)} {j : Nat} {l r r' : List UInt8} {ds : List D} {d : D} (h : many f j l = some (ds, r)) (h' : f r = some (d, r')) : many f (j + 1) l = some (ds ++ [d], r') := by
  show (many f j l).bind _ = _
  rw [h]; show (f r).map _ = _; rw [h']; rfl
end Go.Vx.Da

namespace Go.Proofs.YtkplhlciocbecaaDoor.Vf
open Go.Vx Go.Vx.Da Go.RowKit

set_option maxHeartbeats 1000000 in
theorem get_spec : ∀ (k : Nat) (l : List UInt8), l.length < k → ∀ (B : Nat) (w : World) (a : Option Addr) (c : Nat) (L : List UInt8) (at' : Nat) (p : Int), L.drop at' = l → at' ≤ L.length → L.length ≤ 1048576 → Bsl B w a L c → B ≤ w.heap.size → 1 ≤ p → p ≤ 201 →
    Calls Tryd.prog 25 #[.slice a L.length c, .int .i64 at', .int .i64 p] w fun e w' => ∃ v, e = .returned v ∧ GetPost w k l L.length p v w' := by
  intro k
  induction k with
  | zero => intro l h; omega
  | succ k ih =>
  intro l hl B w a c L at' p hd hat hL hsl hB hp0 hp1
  refine Vg.get.calls (R := fun v w' => GetPost w (k + 1) l L.length p v w') ?_
  unfold Vg.get.W
  refine box fun w6 at6 hb6 hs6 => ?_
  have no : ∀ w', w'.heap[w.heap.size]? = some (.cells #[.bool false, .int .i64 0, .string ⟨#[]⟩, .slice none 0 0] 24 (0, 0)) → Below w.heap.size w w' → (∀ d r, gr (k + 1) l = some (d, r) → 201 < p + depth d) →
      canSt w' w.heap.size 0 [(.bool false), (.int .i64 0), (.string (⟨#[]⟩ : ByteArray)), (.slice none 0 0)] ∧ withW (setL w' w.heap.size 0 [(.bool false), (.int .i64 0), (.string (⟨#[]⟩ : ByteArray)), (.slice none 0 0)]) fun w7 =>
      (∃ (b8 : Bool) (n9 : Int) (s10 : ByteArray) (a11 : Option Addr) (m12 c13 : Nat), cellsAt w7 w.heap.size 0 [(.bool b8), (.int .i64 n9), (.string s10), (.slice a11 m12 c13)] ∧ GetPost w (k + 1) l L.length p (.tuple #[(.agg #[(.bool b8), (.int .i64 n9), (.string s10), (.slice a11 m12 c13)]), (.int .i64 (-1))]) w7) := by
    intro w' h1 h2 h3
    refine fillStep h1 rfl rfl fun w7 at7 hsame hsz hg => ⟨_, _, _, _, _, _, cellsAt_of_block at7 [.bool false, .int .i64 0, .string (⟨#[]⟩ : ByteArray), .slice none 0 0] 0 rfl, ?_, .inr ⟨h3, rfl⟩⟩
    exact ⟨hg.os.trans h2.os, hg.tape.trans h2.tape, hg.output.trans h2.output, by rw [hsz]; exact h2.size, fun j hj => (hsame j (by omega)).trans (h2.block j hj)⟩
  have bad : gr (k + 1) l = none → ∀ d r, gr (k + 1) l = some (d, r) → 201 < p + depth d := fun h d r h' => by rw [h] at h'; cases h'
  refine ifD (fun h => no _ at6 hb6 fun d r _ => by have := depth_pos d; omega) (fun hp => ?_)
  refine ifD (fun h => no _ at6 hb6 (bad ?_)) (fun hlt => ?_)
  · have : l = [] := by rw [← hd]; exact List.drop_eq_nil_of_le (by omega)
    rw [this]; rfl
  have hlt' : at' < L.length := by omega
  have hs6' := hsl.kept (w' := w6) fun k hk => hb6.block k (by omega)
  obtain ⟨b, o, rfl, hget⟩ := hs6'.get hlt'
  have hl0 : l = L[at'] :: L.drop (at' + 1) := by rw [← hd]; exact List.drop_eq_getElem_cons hlt'
  have hlen1 : (L.drop (at' + 1)).length = L.length - (at' + 1) := List.length_drop
  rw [w64 (x := (L.length : Int) - (at' : Int)) (by omega) (by omega)]
  refine ⟨b, o, rfl, by omega, by omega, _, hget _ rfl, ifE (fun h0 => ?_) (fun h0 => ?_)⟩
  · have h0' : L[at'].toNat = 0 := by omega
    refine ifD (fun h9 => ?_) (fun h9 => ?_)
    · let t := (L.drop (at' + 1)).take 8
      have ht : t.length = 8 := by simp only [t, List.length_take, hlen1]; omega
      have hg := gr_00 (k := k) h0' (l := L.drop (at' + 1)) (by omega)
      rw [← hl0] at hg
      refine ⟨fun us w2 => ∃ j : Nat, j ≤ 8 ∧ us = [.int .u64 (num8 (t.drop j) : Nat), .int .i64 j] ∧ w2 = w6, fun us _ => match us with | [_, .int _ j] => j.toNat | _ => 0, ⟨8, Nat.le_refl _, by rw [List.drop_of_length_le (by omega)]; rfl, rfl⟩, ?_⟩
      rintro _ us _ ⟨j, hj, rfl, rfl⟩
      refine ⟨_, _, rfl, ifD (fun hj1 => ?_) (fun hj1 => ?_)⟩
      · obtain ⟨b', o', e, hget'⟩ := hs6'.get (i := at' + j) (by omega)
        cases e
        rw [w64 (x := (at' : Int) + (j : Int)) (by omega) (by omega), w64 (x := (j : Int) - 1) (by omega) (by omega)]
        refine ⟨_, _, rfl, by omega, by omega, _, hget' _ (by omega), ?_⟩
        have hlt8 := num8_lt (t.drop j)
        have hb8 := L[at' + j].toNat_lt
        have ht1 : t.drop (j - 1) = L[at' + j] :: t.drop j := by
          rw [List.drop_eq_getElem_cons (by omega : j - 1 < t.length)]
          congr 1
          · simp only [t, List.getElem_take, List.getElem_drop]
            congr 1; omega
          · congr 1; omega
        have hpow : 256 ^ (t.drop j).length ≤ 256 ^ 7 := Nat.pow_le_pow_right (by omega) (by rw [List.length_drop]; omega)
        have h7 : (256 : Nat) ^ 7 = 72057594037927936 := by decide
        have e1 : IntKind.u64.wrap (IntKind.u64.wrap ((num8 (t.drop j) : Nat) * 256) + IntKind.u64.wrap (L[at' + j].toNat : Int)) = (num8 (t.drop (j - 1)) : Nat) := by
          rw [ht1, wu64 (x := ((num8 (t.drop j) : Nat) : Int) * 256) (by omega) (by omega), wu64 (x := (L[at' + j].toNat : Int)) (by omega) (by omega), wu64 (by omega) (by omega)]
          simp only [num8]; omega
        rw [e1]
        refine ⟨⟨j - 1, by omega, by rw [show ((j : Int) - 1) = ((j - 1 : Nat) : Int) by omega], rfl⟩, ?_⟩
        simp only; omega
      · have : j = 0 := by omega
        subst this
        rw [List.drop_zero]
        refine fillStep at6 rfl rfl fun w34 at34 hsame hsz hg34 => ⟨_, _, _, _, _, _, cellsAt_of_block at34 [.bool false, .int .i64 (IntKind.i64.wrap (num8 t : Nat)), .string (⟨#[]⟩ : ByteArray), .slice none 0 0] 0 rfl, ?_⟩
        refine ⟨⟨hg34.os.trans hb6.os, hg34.tape.trans hb6.tape, hg34.output.trans hb6.output, by rw [hsz]; exact hb6.size, fun j hj => (hsame j (by omega)).trans (hb6.block j hj)⟩, .inl ⟨_, _, _, hg, ?_, ?_, .mk false _ ⟨#[]⟩ [] none 0 (fun _ => []) (Nat.le_refl _) (fun j hj => by simp at hj) (fun j hj => by simp at hj)⟩⟩
        · show p + 1 ≤ 201; omega
        · rw [w64 (x := (at' : Int) + 9) (by omega) (by omega), List.length_drop, hlen1, show (at' : Int) + 9 = ((L.length - (L.length - (at' + 1) - 8) : Nat) : Int) by omega]
          rfl
    · refine ⟨b, o, rfl, by omega, by omega, _, hget _ rfl, ifNE (fun _ => no _ at6 hb6 (bad ?_)) (fun h => absurd h (by omega))⟩
      rw [hl0]; exact gr_0 h0' (by omega)
  · have h0' : L[at'].toNat ≠ 0 := by omega
    refine ⟨b, o, rfl, by omega, by omega, _, hget _ rfl, ifNE (fun h1 => no _ at6 hb6 (bad ?_)) (fun h1 => ?_)⟩
    · rw [hl0]; exact gr_2 h0' (by omega)
    refine ifD (fun h2 => no _ at6 hb6 (bad ?_)) (fun h2 => ?_)
    · rw [hl0, List.drop_eq_nil_of_le (by omega)]; exact gr_1 h0'
    have hlt1 : at' + 1 < L.length := by omega
    obtain ⟨b', o', e, hget1⟩ := hs6'.get hlt1
    cases e
    rw [w64 (x := (at' : Int) + 1) (by omega) (by omega)]
    have hb32 := L[at' + 1].toNat_lt
    have hl1 : l = L[at'] :: L[at' + 1] :: L.drop (at' + 2) := by rw [hl0, List.drop_eq_getElem_cons hlt1]
    have hlen2 : (L.drop (at' + 2)).length = L.length - (at' + 2) := List.length_drop
    refine ⟨_, _, rfl, by omega, by omega, _, hget1 _ (by omega), ?_⟩
    rw [w64 (x := (L[at' + 1].toNat : Int)) (by omega) (by omega)]
    refine ifD (fun h => no _ at6 hb6 (bad (by rw [hl1]; exact gr_1s h0' (by omega)))) (fun hk1 => ?_)
    refine ifD (fun h => no _ at6 hb6 (bad (by rw [hl1]; exact gr_1s h0' (by omega)))) (fun hk2 => ?_)
    rw [w64 (x := (L[at' + 1].toNat : Int) + 3) (by omega) (by omega)]
    refine ifD (fun h => no _ at6 hb6 (bad (by rw [hl1]; exact gr_1s h0' (by omega)))) (fun hk3 => ?_)
    have hs : ∃ s, s = L[at' + 1].toNat := ⟨_, rfl⟩
    obtain ⟨s, hs⟩ := hs
    rw [← hs] at hk1 hk2 hk3 hb32 ⊢
    have hlt2 : at' + 2 + s < L.length := by omega
    obtain ⟨b', o', e, hget2⟩ := hs6'.get hlt2
    cases e
    have hb8 := L[at' + 2 + s].toNat_lt
    rw [w64 (x := (at' : Int) + 2) (by omega) (by omega), w64 (x := (at' : Int) + 2 + (s : Int)) (by omega) (by omega), w64 (x := (at' : Int) + (s : Int)) (by omega) (by omega), w64 (x := (at' : Int) + (s : Int) + 3) (by omega) (by omega), w64 (x := p + 1) (by omega) (by omega)]
    have hq : (L.drop (at' + 2)).drop s = L[at' + 2 + s] :: L.drop (at' + 3 + s) := by
      rw [List.drop_drop, List.drop_eq_getElem_cons hlt2]; congr 2; omega
    refine ⟨_, _, rfl, by omega, by omega, _, hget2 _ (by omega), ifD (fun h => no _ at6 hb6 (bad (by rw [hl1]; exact gr_1c h0' (by rw [← hs]; exact hq) (by omega)))) (fun hc8 => ?_)⟩
    have hnm : ∃ nm, nm = (L.drop (at' + 2)).take s := ⟨_, rfl⟩
    obtain ⟨nm, hnm⟩ := hnm
    have hnml : nm.length = s := by rw [hnm, List.length_take]; omega
    have hl2 : l = L[at'] :: L[at' + 1] :: (nm ++ L[at' + 2 + s] :: L.drop (at' + 3 + s)) := by rw [hl1, hnm, ← hq, List.take_append_drop]
    have hgr := gr_ctor (k := k) (h := L[at']) (s := L[at' + 1]) (c := L[at' + 2 + s]) (nm := nm) (r := L.drop (at' + 3 + s)) (by omega) (by omega) (by omega) (by omega) (by omega)
    rw [← hl2] at hgr
    have hcc := hsl.1
    have hcut := (hs6'.cut (at' + 2)).head (c - (at' + 2)) s (by omega) (Nat.le_refl _)
    refine ⟨by omega, by omega, by omega, ⟨nm.toArray⟩, ?_, ?_⟩
    · have e1 : ((at' : Int) + 2).toNat = at' + 2 := by omega
      have e2 : ((at' : Int) + 2 + (s : Int)).toNat - (at' + 2) = nm.length := by omega
      rw [e1, e2]
      obtain ⟨b3, o3, h3, _, h4⟩ := (hs6'.cut (at' + 2)).2 (by omega)
      rw [h3]
      refine conv_bytes ty30 rfl ty9 rfl ty5 rfl ?_
      rw [hnm, bv_take]
      exact cellsAt_take s h4
    refine box fun w93 at93 hb93 hs93 => ?_
    refine fillStep at93 rfl rfl fun w94 at94 same94 hsz94 hg94 => ?_
    have hb94 : Below (w.heap.size + 1) w6 w94 := ⟨hg94.os.trans hb93.os, hg94.tape.trans hb93.tape, hg94.output.trans hb93.output, by omega, fun j hj => (same94 j (by omega)).trans (hb93.block j (by omega))⟩
    have hO : w6.heap.size = w.heap.size + 1 := hs6
    rw [hO] at at94 ⊢
    have hres : w94.heap[w.heap.size]? = _ := block_below hb94 (by omega) at6
    refine ⟨fun us w2 => ∃ (i : Nat) (ds : List D) (r : List UInt8) (v : Value), i ≤ L[at' + 2 + s].toNat ∧ us = [.int .i64 ((L.length - r.length : Nat) : Int), .int .i64 i] ∧ many (gr k) i (L.drop (at' + 3 + s)) = some (ds, r) ∧ L.drop (L.length - r.length) = r ∧ r.length ≤ L.length ∧ p + 1 + depthL ds ≤ 201 ∧ Out (w.heap.size + 1) w2 (w.heap.size + 1) ⟨nm.toArray⟩ ds v ∧ Below (w.heap.size + 1) w6 w2,
      fun us _ => match us with | [_, .int _ j] => L[at' + 2 + s].toNat - j.toNat | _ => 0, ⟨0, [], L.drop (at' + 3 + s), _, Nat.zero_le _, ?_, rfl, ?_, ?_, ?_, Out.start (Nat.le_refl _) at94, hb94⟩, ?_⟩
    · rw [List.length_drop]; congr 2; omega
    · rw [List.length_drop]; congr 1; omega
    · rw [List.length_drop]; omega
    · simp [depthL]; omega
    rintro _ us w97 ⟨i, ds, r, v, hi, rfl, hm, hr, hrl, hdp, hout, hb97⟩
    have hb97' : Below w.heap.size w w97 := hb6.trans (hb97.mono (by omega))
    have hs97 := hb97.size
    have hdl := many_len hm
    simp only at hdl
    have at97 := block_below hb97 (by omega) at6
    have hs97' := hsl.kept (w' := w97) fun k hk => hb97'.block k (by omega)
    obtain ⟨b', o', e, hget3⟩ := hs97'.get hlt2
    cases e
    refine ⟨_, _, rfl, _, _, rfl, by omega, by omega, _, hget3 _ (by omega), ?_⟩
    rw [w64 (x := (L[at' + 2 + s].toNat : Int)) (by omega) (by omega)]
    refine ifD (fun hlt9 => ?_) (fun hge9 => ?_)
    · refine box fun w105 at105 hb105 hs105 => fillStep at105 rfl rfl fun w106 at106 same106 hsz106 hg106 => ?_
      have hb106 : Below w97.heap.size w97 w106 := ⟨hg106.os.trans hb105.os, hg106.tape.trans hb105.tape, hg106.output.trans hb105.output, by omega, fun j hj => (same106 j (by omega)).trans (hb105.block j hj)⟩
      have hsl106 := hs97'.kept (w' := w106) fun k hk => hb106.block k (by omega)
      have hle := many_le hm
      have hrk : r.length < k := by
        have : l.length = L.length - at' := by rw [← hd, List.length_drop]
        have h3 : (L.drop (at' + 3 + s)).length = L.length - (at' + 3 + s) := List.length_drop
        simp only at hle; omega
      refine (ih r hrk B w106 _ c L (L.length - r.length) (p + 1) hr (by omega) hL hsl106 (by omega) (by omega) (by omega)).mono ?_
      rintro _ w107 ⟨_, rfl, hb107, hpost⟩
      have at107 := block_below hb107 (by omega) at106
      have hs107 := hb107.size
      have hb107' : Below w97.heap.size w97 w107 := hb106.trans (hb107.mono (by omega))
      rcases hpost with ⟨d, r2, vs, hg2, hdep, rfl, hrep⟩ | ⟨hno, rfl⟩
      · obtain ⟨a2, m2, rfl⟩ := hrep.form
        refine ⟨_, _, _, _, _, _, _, rfl, fillStep at107 rfl rfl fun w116 at116 same116 hsz116 hg116 => ?_⟩
        obtain ⟨hr2, hr2l⟩ := drop_gr hg2 hr
        refine ifD (fun h => absurd h (by omega)) (fun _ => ?_)
        have hb116 : Below w97.heap.size w97 w116 := ⟨hg116.os.trans hb107'.os, hg116.tape.trans hb107'.tape, hg116.output.trans hb107'.output, by omega, fun j hj => (same116 j (by omega)).trans (hb107'.block j hj)⟩
        have hout' := hout.kept (w' := w116) (fun k _ hk => hb116.block k hk) hb116.size
        obtain ⟨a4, c4, rfl⟩ := hout'.slice
        have hown4 : ∀ g, (Value.slice a4 ds.length c4).ownBlock = some g → g < w97.heap.size := fun g hg => by
          obtain ⟨_, _, xs, h3, _⟩ := hout; exact (h3.lt g hg).2
        refine ⟨_, _, _, cell_of_block hout'.2.1 rfl, _, _, _, _, _, _, cellsAt_of_block at116 [.bool d.ctor, .int .i64 d.int, .string d.name, .slice a2 d.args.length m2] 0 rfl, ?_⟩
        refine Out.snoc hout' (by omega) ((hrep.kept fun b hb => same116 b (by omega)).mono fun b hb => ⟨by omega, by omega, fun e => by have := hown4 b e.symm; omega⟩) fun w138 a5 n5 c5 hout5 hb138 hs138 => ?_
        rw [w64 (x := (i : Int) + 1) (by omega) (by omega)]
        refine ⟨⟨i + 1, ds ++ [d], r2, _, by omega, rfl, many_snoc hm hg2, hr2, hr2l, ?_, hout5, hb97.trans ((hb116.mono (by omega)).trans hb138)⟩, ?_⟩
        · rw [depthL_append]; simp only [depthL]; omega
        · simp only; omega
      · refine ⟨_, _, _, _, _, _, _, rfl, fillStep at107 rfl rfl fun w116 at116 same116 hsz116 hg116 => ?_⟩
        refine ifD (fun _ => ?_) (fun h => absurd (by decide) h)
        have hb116 : Below w97.heap.size w97 w116 := ⟨hg116.os.trans hb107'.os, hg116.tape.trans hb107'.tape, hg116.output.trans hb107'.output, by omega, fun j hj => (same116 j (by omega)).trans (hb107'.block j hj)⟩
        refine no _ (block_below hb116 (by omega) at97) (hb97'.trans (hb116.mono (by omega))) fun d' r' hd' => ?_
        rw [hgr] at hd'
        obtain ⟨⟨ds', r''⟩, h5, h6⟩ := Option.map_eq_some_iff.1 hd'
        cases h6
        rw [depth_ctor rfl]
        cases hg3 : gr k r with
        | none => rw [many_none hm hg3 (by omega)] at h5; cases h5
        | some x =>
          have h7 := hno x.1 x.2 hg3
          obtain ⟨t, ht⟩ := many_pre (many_snoc hm hg3) (by omega : i + 1 ≤ L[at' + 2 + s].toNat) h5
          simp only at ht
          simp only [ht, depthL_append, depthL]
          omega
    · have hi' : i = L[at' + 2 + s].toNat := by omega
      rw [← hi'] at hgr
      rw [hm] at hgr
      obtain ⟨a4, c4, rfl⟩ := hout.slice
      refine ⟨_, _, _, _, _, _, cellsAt_of_block hout.2.1 [.bool true, .int .i64 0, .string ⟨nm.toArray⟩, .slice a4 ds.length c4] 0 rfl, fillStep at97 rfl rfl fun w145 at145 same145 hsz145 hg145 => ?_⟩
      refine ⟨_, _, _, _, _, _, cellsAt_of_block at145 [.bool true, .int .i64 0, .string ⟨nm.toArray⟩, .slice a4 ds.length c4] 0 rfl, ?_⟩
      refine ⟨⟨hg145.os.trans hb97'.os, hg145.tape.trans hb97'.tape, hg145.output.trans hb97'.output, by have := hb97'.size; omega, fun j hj => (same145 j (by omega)).trans (hb97'.block j hj)⟩, .inl ⟨_, r, _, hgr, ?_, rfl, (hout.rep.kept fun b hb => same145 b (by omega)).mono fun b hb => ⟨by omega, by omega⟩⟩⟩
      rw [depth_ctor rfl]; simp only; omega

end Go.Proofs.YtkplhlciocbecaaDoor.Vf
